/- The document's modes: a mode of words. -/
import Derived.Test.YtcpfkkbegnhofaaDoorK12
import Derived.Test.YtcpfkkbegnhofaaDoorK14
set_option linter.unusedVariables false
set_option linter.unusedSimpArgs false
namespace Go.Proofs.YtcpfkkbegnhofaaDoor
open Go.RowKit

theorem row_cell {w : World} {wb off n cap : Nat} {l : List Txt} (h : RowOf txtc 1 w (.slice (some ⟨wb, off, none⟩) n cap) l) {k : Nat} {t : Txt} (ht : l[k]? = some t) : w.cell? ⟨wb, off + k, none⟩ = some (.string (ofL t)) := by
  rcases h with ⟨_, _, _, e⟩ | ⟨b, o, c, e, hb, _, hc⟩
  · rw [e] at ht; cases ht
  · simp only [Value.slice.injEq, Option.some.injEq, Addr.mk.injEq] at e
    obtain ⟨⟨rfl, rfl, _⟩, _, rfl⟩ := e
    have := hc k t ht 0 (by omega)
    simpa [txtc] using this
theorem num13_any (x : Txt) (hx : x.length ≤ 10000) (w : World) : Calls Tryd.prog 33 #[.string (ofL x)] w fun e w' => e = .returned (.tuple #[.int .i64 (pnum (ofL x)), .int .i64 (perr (ofL x))]) ∧ w = w' := by
  have hs := ofL_size x
  refine (rparse_any (ofL x) (by omega) w).mono ?_
  rintro e w' ⟨h, rfl⟩
  unfold Res at h
  rw [(pnum_on _).1, (pnum_on _).2]
  exact ⟨h, rfl⟩
theorem on_off {t : Txt} (h : isW t kON = true) : isW t kOFF = false := by
  unfold isW at *
  rw [of_decide_eq_true h]
  decide
theorem parse_none' {t : Txt} {r : List Txt} (hO : isW t kON = true ∨ isW t kOFF = true) (h : optsM { offM with on := true } r = none) : parseM (t :: r) = (offM, 131) := by
  unfold parseM
  simp only
  rw [h, if_neg]
  rintro ⟨g1, g2⟩
  rcases hO with e | e
  · rw [e] at g1; cases g1
  · rw [e] at g2; cases g2
theorem parse_off' {t : Txt} {r : List Txt} {m : MD} (hb : isW t kON = false) (hO : isW t kOFF = true) (h : optsM { offM with on := true } r = some m) : parseM (t :: r) = (offM, 0) := by
  unfold parseM
  simp only
  rw [h, if_neg (by rw [hO]; simp)]
  simp only [hb, if_true]
theorem prR {w W : World} {b : Nat} {c0 c1 c2 c3 c4 c5 c6 : Value} (hb : Blk W b [c0, c1, c2, c3, c4, c5, c6] TMs) (hw : w.heap.size ≤ b) (u : Upd (fun _ => False) w W) (on bc oi oo nl : Bool) (rd : Int) (ps : List Txt) (p : Option Addr) (n c : Nat) (er : Int) (hn : n = ps.length) (hc : c ≤ 9223372036854775807) (ht : TxtsAt W w.heap.size (.slice p n c) ps) :
    PR w w.heap.size ⟨on, bc, oi, oo, nl, rd, ps⟩ er (.returned (.tuple #[.agg #[.bool on, .bool bc, .bool oi, .bool oo, .bool nl, .int .i64 rd, .slice p n c], .int .i64 er])) (setM W b (.bool on) (.bool bc) (.bool oi) (.bool oo) (.bool nl) (.int .i64 rd) (.slice p n c)) := by
  have us := setM_upd (b := b) (a0 := .bool on) (a1 := .bool bc) (a2 := .bool oi) (a3 := .bool oo) (a4 := .bool nl) (a5 := .int .i64 rd) (a6 := .slice p n c) (Upd.refl (fun k => k = b) W) (fun _ => rfl)
  subst hn
  refine ⟨p, c, rfl, hc, own_keep ht us (fun k hk e => ?_), setM_upd u (fun h => by omega)⟩
  subst e
  obtain ⟨_, _, cs, hs⟩ := own_lt ht hk
  exact ty_ne (hb.ty hs)
/-- The answers' block, and that of none, both as they were made. -/
def Zs (W : World) (n : Nat) : Prop := Blk W n zeroMC TMs ∧ Blk W (n + 1) zeroMC TMs
theorem Zs.keep {F : Nat → Prop} {W W' : World} {n : Nat} (h : Zs W n) (u : Upd F W W') (hF : ∀ b, b ≤ n + 1 → ¬ F b) : Zs W' n := ⟨u.blk h.1 (hF _ (by omega)), u.blk h.2 (hF _ (by omega))⟩
set_option maxHeartbeats 8000000 in
set_option maxRecDepth 100000 in
theorem parse13_on (p : Option Addr) (c : Nat) (t : Txt) (r : List Txt) (w : World) (h : RwT w p c (t :: r)) (hn : (t :: r).length ≤ 1000) (hl : ∀ u ∈ (t :: r), u.length ≤ 10000) (hON : isW t kON = true) :
    Calls Tryd.prog 15 #[.slice p (t :: r).length c] w fun e w' => PR w w.heap.size (parseM (t :: r)).1 (parseM (t :: r)).2 e w' := by
  have hle := h.2
  unfold maxLen at hle
  have U1 : Hid (Upd (fun _ => False) w ((w.alloc (.cells #[.bool false, .bool false, .bool false, .bool false, .bool false, .int .i64 0, .slice none 0 0] 24)).alloc (.cells #[.bool false, .bool false, .bool false, .bool false, .bool false, .int .i64 0, .slice none 0 0] 24))) := ((Upd.refl _ _).alloc _).alloc _
  have Z1 : Hid (Zs ((w.alloc (.cells #[.bool false, .bool false, .bool false, .bool false, .bool false, .int .i64 0, .slice none 0 0] 24)).alloc (.cells #[.bool false, .bool false, .bool false, .bool false, .bool false, .int .i64 0, .slice none 0 0] 24)) w.heap.size) := Lib.hid ⟨(Blk.made w zeroMC TMs).alloc _, by have := Blk.made (w.alloc (.cells zeroMC.toArray TMs)) zeroMC TMs; simp only [World.size_alloc] at this; exact this⟩
  have H := Lib.hid h
  have HL := Lib.hid hl
  clear h hl
  obtain ⟨wb, off, rfl, hwb, c0⟩ := txt_rcell H.out.1 (k := 0) (by simp)
  have hc0 : w.cell? ⟨wb, off, none⟩ = some (.string (ofL t)) := by simpa using c0
  obtain ⟨n, hnn⟩ : ∃ n, n = (t :: r).length := ⟨_, rfl⟩
  rw [← hnn] at hle hn ⊢
  have hn1 : 1 ≤ n := by rw [hnn]; simp
  have NN := Lib.hid hnn
  have H : Hid (RwT w (some ⟨wb, off, none⟩) c (t :: r)) := H
  have q0 : ((n : Int) == 0) = false := by rw [beq_eq_false_iff_ne]; omega
  have q0' : (0 : Int) < (n : Int) := by omega
  obtain ⟨st, hst⟩ : ∃ st, st = ofL t := ⟨_, rfl⟩
  rw [← hst] at hc0
  have htl := HL.out t (by simp)
  have J1 : Hid (∀ W, Calls Tryd.prog 32 #[.string st, .string { data := #[79, 78] }] W fun e w' => e = .returned (.bool (isW t kON)) ∧ W = w') := Lib.hid (fun W => by rw [hst]; exact (is_any t kON W (by omega) (by decide)).mono fun e w' h => ⟨h.1, h.2.symm⟩)
  have J2 : Hid (∀ W, Calls Tryd.prog 32 #[.string st, .string { data := #[79, 70, 70] }] W fun e w' => e = .returned (.bool (isW t kOFF)) ∧ W = w') := Lib.hid (fun W => by rw [hst]; exact (is_any t kOFF W (by omega) (by decide)).mono fun e w' h => ⟨h.1, h.2.symm⟩)
  clear hst c0 hnn
  rw [hON] at J1
  have hOFF := on_off hON
  rw [hOFF] at J2
  go_enter Tryd.func15, Tryd.ntmps15
  go_wp2_with fail
  refine (J1.out _).mono ?_
  rintro e w' ⟨rfl, rfl⟩
  generalize ((w.alloc (.cells #[.bool false, .bool false, .bool false, .bool false, .bool false, .int .i64 0, .slice none 0 0] 24)).alloc (.cells #[.bool false, .bool false, .bool false, .bool false, .bool false, .int .i64 0, .slice none 0 0] 24)) = w1 at *
  have OS : Hid (OptS w1 (w1.alloc (.cells (mdc { offM with on := true } (.slice none 0 0)).toArray TMs)) w1.heap.size { offM with on := true } (.slice none 0 0)) := Lib.hid ⟨Blk.made w1 _ _, Nat.le_refl _, World.ownsRow_nil _ _ _ _, (Upd.refl _ _).alloc _⟩
  go_wp2
  go_loopw [3, 6] (fun v3 v6 wx => ∃ (a : Nat) (m : MD) (v : Value), v3 = .int .i64 0 ∧ v6 = .int .i64 (a : Int) ∧ 1 ≤ a ∧ a ≤ n ∧ m.on = true ∧ m.ps.length ≤ a ∧ Hid (optsM { offM with on := true } r = optsM m ((t :: r).drop a)) ∧ Hid (∀ x ∈ m.ps, x ∈ t :: r) ∧ Hid (OptS w1 wx w1.heap.size m v)) (fun _ v6 _ => n - (intOf v6).toNat)
  case atStart => exact ⟨1, { offM with on := true }, .slice none 0 0, rfl, rfl, by omega, hn1, rfl, by simp [offM], Lib.hid rfl, Lib.hid (by simp [offM]), OS⟩
  case round =>
    clear OS
    obtain ⟨a, m, v, rfl, rfl, ha1, han, hmo, hpl, OM, MP, OS⟩ := hrel
    have ZZ := Lib.hid (Z1.out.keep OS.out.2.2.2 (fun b hb h => h))
    have UZ := Lib.hid (U1.out.trans OS.out.2.2.2 (fun _ _ h => h))
    by_cases hlt : a < n
    · have q1 : (a : Int) < (n : Int) := by omega
      obtain ⟨x, hx⟩ : ∃ x, (t :: r)[a]? = some x := ⟨_, List.getElem?_eq_getElem (by rw [← NN.out]; exact hlt)⟩
      have cx := row_cell (H.out.keep UZ.out).1 hx
      have HX : Hid ((t :: r).drop a = x :: (t :: r).drop (a + 1) ∧ (t :: r).drop (a + 1) = (t :: r).drop (a + 1)) := Lib.hid ⟨by
        obtain ⟨h1, e1⟩ := List.getElem?_eq_some_iff.1 hx
        rw [List.drop_eq_getElem_cons h1, e1], rfl⟩
      have HXM : Hid (x ∈ t :: r) := Lib.hid (List.mem_of_getElem? hx)
      have hxl := HL.out x HXM.out
      obtain ⟨sx, hsx⟩ : ∃ sx, sx = ofL x := ⟨_, rfl⟩
      have IS : ∀ k, k.length ≤ 100 → ∀ W, Calls Tryd.prog 32 #[.string sx, .string (ofL k)] W fun e w' => e = .returned (.bool (isW x k)) ∧ W = w' := fun k hk W => by rw [hsx]; exact (is_any x k W (by omega) hk).mono fun e w' h => ⟨h.1, h.2.symm⟩
      have I1 : Hid (∀ W, Calls Tryd.prog 32 #[.string sx, .string { data := #[66, 67, 65, 83, 84] }] W fun e w' => e = .returned (.bool (isW x kBC)) ∧ W = w') := Lib.hid (IS kBC (by decide))
      have I2 : Hid (∀ W, Calls Tryd.prog 32 #[.string sx, .string { data := #[79, 80, 84, 73, 78] }] W fun e w' => e = .returned (.bool (isW x kOI)) ∧ W = w') := Lib.hid (IS kOI (by decide))
      have I3 : Hid (∀ W, Calls Tryd.prog 32 #[.string sx, .string { data := #[79, 80, 84, 79, 85, 84] }] W fun e w' => e = .returned (.bool (isW x kOO)) ∧ W = w') := Lib.hid (IS kOO (by decide))
      have I4 : Hid (∀ W, Calls Tryd.prog 32 #[.string sx, .string { data := #[78, 79, 76, 79, 79, 80] }] W fun e w' => e = .returned (.bool (isW x kNL)) ∧ W = w') := Lib.hid (IS kNL (by decide))
      have I5 : Hid (∀ W, Calls Tryd.prog 32 #[.string sx, .string { data := #[82, 69, 68, 73, 82, 69, 67, 84] }] W fun e w' => e = .returned (.bool (isW x kRD)) ∧ W = w') := Lib.hid (IS kRD (by decide))
      have I6 : Hid (∀ W, Calls Tryd.prog 32 #[.string sx, .string { data := #[80, 82, 69, 70, 73, 88] }] W fun e w' => e = .returned (.bool (isW x kPX)) ∧ W = w') := Lib.hid (IS kPX (by decide))
      rw [← hsx] at cx
      clear hx hsx IS
      go_wp2_with fail
      refine (I1.out _).mono ?_
      rintro e w' ⟨rfl, rfl⟩
      cases h1 : isW x kBC with
      | true =>
        clear I1 I2 I3 I4 I5 I6
        -- one flag: I its cell, M the mode then
        have HF := Lib.hid (OS.out.set (m' := { m with bc := true }) 1 (.bool true) rfl rfl)
        have OM2 : Hid (optsM { offM with on := true } r = optsM { m with bc := true } ((t :: r).drop (a + 1))) := Lib.hid (by rw [OM.out, HX.out.1, optsM_cons]; simp only [h1, if_true, Bool.false_eq_true, if_false])
        clear OM
        obtain ⟨y1, g1, d0, d1, d2, d3, d4, d5, d6⟩ := mode_facts OS.out.1
        go_wp2
        go_roundw
        case rel => exact ⟨a + 1, { m with bc := true }, v, rfl, by go_num, by omega, by omega, hmo, Nat.le_succ_of_le hpl, OM2, MP, HF⟩
        case measure => simp [intOf]; omega
      | false =>
      go_wp2_with fail
      refine (I2.out _).mono ?_
      rintro e w' ⟨rfl, rfl⟩
      cases h2 : isW x kOI with
      | true =>
        clear I1 I2 I3 I4 I5 I6
        -- one flag: I its cell, M the mode then
        have HF := Lib.hid (OS.out.set (m' := { m with oi := true }) 2 (.bool true) rfl rfl)
        have OM2 : Hid (optsM { offM with on := true } r = optsM { m with oi := true } ((t :: r).drop (a + 1))) := Lib.hid (by rw [OM.out, HX.out.1, optsM_cons]; simp only [h1, h2, if_true, Bool.false_eq_true, if_false])
        clear OM
        obtain ⟨y1, g1, d0, d1, d2, d3, d4, d5, d6⟩ := mode_facts OS.out.1
        go_wp2
        go_roundw
        case rel => exact ⟨a + 1, { m with oi := true }, v, rfl, by go_num, by omega, by omega, hmo, Nat.le_succ_of_le hpl, OM2, MP, HF⟩
        case measure => simp [intOf]; omega
      | false =>
      go_wp2_with fail
      refine (I3.out _).mono ?_
      rintro e w' ⟨rfl, rfl⟩
      cases h3 : isW x kOO with
      | true =>
        clear I1 I2 I3 I4 I5 I6
        -- one flag: I its cell, M the mode then
        have HF := Lib.hid (OS.out.set (m' := { m with oo := true }) 3 (.bool true) rfl rfl)
        have OM2 : Hid (optsM { offM with on := true } r = optsM { m with oo := true } ((t :: r).drop (a + 1))) := Lib.hid (by rw [OM.out, HX.out.1, optsM_cons]; simp only [h1, h2, h3, if_true, Bool.false_eq_true, if_false])
        clear OM
        obtain ⟨y1, g1, d0, d1, d2, d3, d4, d5, d6⟩ := mode_facts OS.out.1
        go_wp2
        go_roundw
        case rel => exact ⟨a + 1, { m with oo := true }, v, rfl, by go_num, by omega, by omega, hmo, Nat.le_succ_of_le hpl, OM2, MP, HF⟩
        case measure => simp [intOf]; omega
      | false =>
      go_wp2_with fail
      refine (I4.out _).mono ?_
      rintro e w' ⟨rfl, rfl⟩
      cases h4 : isW x kNL with
      | true =>
        clear I1 I2 I3 I4 I5 I6
        -- one flag: I its cell, M the mode then
        have HF := Lib.hid (OS.out.set (m' := { m with nl := true }) 4 (.bool true) rfl rfl)
        have OM2 : Hid (optsM { offM with on := true } r = optsM { m with nl := true } ((t :: r).drop (a + 1))) := Lib.hid (by rw [OM.out, HX.out.1, optsM_cons]; simp only [h1, h2, h3, h4, if_true, Bool.false_eq_true, if_false])
        clear OM
        obtain ⟨y1, g1, d0, d1, d2, d3, d4, d5, d6⟩ := mode_facts OS.out.1
        go_wp2
        go_roundw
        case rel => exact ⟨a + 1, { m with nl := true }, v, rfl, by go_num, by omega, by omega, hmo, Nat.le_succ_of_le hpl, OM2, MP, HF⟩
        case measure => simp [intOf]; omega
      | false =>
      have OM2 : Hid (optsM { offM with on := true } r = match (t :: r).drop (a + 1) with
        | [] => none
        | y :: r' =>
          if isW x kRD then (match numM y with
            | some n => optsM { m with rd := n } r'
            | none => none)
          else if isW x kPX then optsM { m with ps := m.ps ++ [y] } r'
          else none) := Lib.hid (by
        have := optsM_cons m x ((t :: r).drop (a + 1))
        rw [h1, h2, h3, h4] at this
        simp only [Bool.false_eq_true, if_false] at this
        rw [OM.out, HX.out.1]; exact this)
      clear OM
      by_cases hla : a + 1 < n
      · have q2 : (a : Int) + 1 < (n : Int) := by omega
        have q2' : IntKind.i64.wrap ((a : Int) + 1) = (a : Int) + 1 := IntWalk.i64_in _ (by omega)
        obtain ⟨y, hy⟩ : ∃ y, (t :: r)[a + 1]? = some y := ⟨_, List.getElem?_eq_getElem (by rw [← NN.out]; exact hla)⟩
        have cy := row_cell (H.out.keep UZ.out).1 hy
        have HYM : Hid (y ∈ t :: r) := Lib.hid (List.mem_of_getElem? hy)
        have hyl := HL.out y HYM.out
        have HD : Hid ((t :: r).drop (a + 1) = y :: (t :: r).drop (a + 1 + 1)) := Lib.hid (by
          obtain ⟨h1, e1⟩ := List.getElem?_eq_some_iff.1 hy
          rw [List.drop_eq_getElem_cons h1, e1])
        have OM3 : Hid (optsM { offM with on := true } r = if isW x kRD then (match numM y with
            | some n => optsM { m with rd := n } ((t :: r).drop (a + 1 + 1))
            | none => none)
          else if isW x kPX then optsM { m with ps := m.ps ++ [y] } ((t :: r).drop (a + 1 + 1))
          else none) := Lib.hid (by have := OM2.out; rw [HD.out] at this; exact this)
        clear hy OM2 q2'
        go_wp2_with fail
        refine (I5.out _).mono ?_
        rintro e w' ⟨rfl, rfl⟩
        cases h5 : isW x kRD with
        | true =>
          have OM4 : Hid (optsM { offM with on := true } r = match numM y with
            | some n => optsM { m with rd := n } ((t :: r).drop (a + 1 + 1))
            | none => none) := Lib.hid (by have := OM3.out; rw [h5, if_pos rfl] at this; exact this)
          have NP := num13_any y hyl
          have NM := numM_eq (ofL y) y rfl
          obtain ⟨sy, hsy⟩ : ∃ sy, sy = ofL y := ⟨_, rfl⟩
          rw [← hsy] at NP NM cy
          have NP := Lib.hid NP
          clear I1 I2 I3 I4 I5 I6 OM3 hsy
          rcases NM with ⟨hm, hp, hq1, hq2⟩ | ⟨hm, hp | ⟨hp, hq1 | ⟨hq1, hq2⟩⟩⟩
          · have OM5 : Hid (optsM { offM with on := true } r = optsM { m with rd := pnum sy } ((t :: r).drop (a + 1 + 1))) := Lib.hid (by have := OM4.out; rw [hm] at this; exact this)
            rw [hp] at NP
            generalize pnum sy = nx at *
            have HF := Lib.hid (OS.out.set (m' := { m with rd := nx }) 5 (.int .i64 nx) rfl rfl)
            clear hm hp OM4
            obtain ⟨y1, g1, d0, d1, d2, d3, d4, d5, d6⟩ := mode_facts OS.out.1
            go_wp2_with fail
            refine (NP.out _).mono ?_
            rintro e w' ⟨rfl, rfl⟩
            go_wp2
            go_roundw
            case rel => exact ⟨a + 1 + 1, { m with rd := nx }, v, rfl, by go_num, by omega, by omega, hmo, Nat.le_succ_of_le (Nat.le_succ_of_le hpl), OM5, MP, HF⟩
            case measure => simp [intOf]; omega
          all_goals
            have PM := Lib.hid (parse_none' (t := t) (r := r) (Or.inl hON) (by have := OM4.out; rw [hm] at this; exact this))
            rw [hp] at NP
            generalize pnum sy = nx at *
            clear hm hp OM4
            go_wp2_with fail
            refine (NP.out _).mono ?_
            rintro e w' ⟨rfl, rfl⟩
            -- ZZ : Zs at the world; UW : Upd False w
            obtain ⟨xa, fa, a0, a1, a2, a3, a4, a5, a6⟩ := mode_facts ZZ.out.1
            obtain ⟨xb, fb, b0, b1, b2, b3, b4, b5, b6⟩ := mode_facts ZZ.out.2
            have BZ := Lib.hid ZZ.out.1
            go_wp2
            have RV := prR (w := w) BZ.out (Nat.le_refl _) UZ.out false false false false false 0 [] none 0 0 131 rfl (by omega) (World.ownsRow_nil _ _ _ _)
            have bF := setM_blk (a0 := .bool false) (a1 := .bool false) (a2 := .bool false) (a3 := .bool false) (a4 := .bool false) (a5 := .int .i64 0) (a6 := .slice none 0 0) BZ.out
            unfold setM at bF RV
            obtain ⟨_, _, h0, h1, h2, h3, h4, h5, h6⟩ := mode_facts bF
            refine bodyPost_ret (v := .tuple #[.agg #[.bool false, .bool false, .bool false, .bool false, .bool false, .int .i64 0, .slice none 0 0], .int .i64 131]) (by simp [results, Tryd.results15, go_sem, h0, h1, h2, h3, h4, h5, h6]) rfl ?_
            rw [PM.out]
            exact RV
        | false =>
        go_wp2_with fail
        refine (I6.out _).mono ?_
        rintro e w' ⟨rfl, rfl⟩
        cases h6 : isW x kPX with
        | false =>
          have PM := Lib.hid (parse_none' (t := t) (r := r) (Or.inl hON) (by have := OM3.out; rw [h5, h6, if_neg (by simp), if_neg (by simp)] at this; exact this))
          clear I1 I2 I3 I4 I5 I6 OM3
          -- ZZ : Zs at the world; UW : Upd False w
          obtain ⟨xa, fa, a0, a1, a2, a3, a4, a5, a6⟩ := mode_facts ZZ.out.1
          obtain ⟨xb, fb, b0, b1, b2, b3, b4, b5, b6⟩ := mode_facts ZZ.out.2
          have BZ := Lib.hid ZZ.out.1
          go_wp2
          have RV := prR (w := w) BZ.out (Nat.le_refl _) UZ.out false false false false false 0 [] none 0 0 131 rfl (by omega) (World.ownsRow_nil _ _ _ _)
          have bF := setM_blk (a0 := .bool false) (a1 := .bool false) (a2 := .bool false) (a3 := .bool false) (a4 := .bool false) (a5 := .int .i64 0) (a6 := .slice none 0 0) BZ.out
          unfold setM at bF RV
          obtain ⟨_, _, h0, h1, h2, h3, h4, h5, h6⟩ := mode_facts bF
          refine bodyPost_ret (v := .tuple #[.agg #[.bool false, .bool false, .bool false, .bool false, .bool false, .int .i64 0, .slice none 0 0], .int .i64 131]) (by simp [results, Tryd.results15, go_sem, h0, h1, h2, h3, h4, h5, h6]) rfl ?_
          rw [PM.out]
          exact RV
        | true =>
          have OM4 : Hid (optsM { offM with on := true } r = optsM { m with ps := m.ps ++ [y] } ((t :: r).drop (a + 1 + 1))) := Lib.hid (by have := OM3.out; rw [h5, h6, if_neg (by simp), if_pos rfl] at this; exact this)
          have MP4 : Hid (∀ x ∈ ({ m with ps := m.ps ++ [y] } : MD).ps, x ∈ t :: r) := Lib.hid (fun x hx => (List.mem_append.1 hx).elim (MP.out x) (fun g => by rw [List.mem_singleton.1 g]; exact HYM.out))
          have hpl4 : ({ m with ps := m.ps ++ [y] } : MD).ps.length ≤ a + 1 + 1 := by show (m.ps ++ [y]).length ≤ _; rw [List.length_append, List.length_singleton]; omega
          obtain ⟨pv, cv, hv, hvl⟩ := own_slice OS.out.2.2.1
          unfold maxLen at hvl
          subst hv
          obtain ⟨p4, c4, w4, hr4, i4, u4⟩ := txts_app1 wr.drew w1.heap.size (.slice pv m.ps.length cv) m.ps y (own_keep OS.out.2.2.1 ((Upd.refl (fun _ => False) wr).drew) (fun _ _ h => h)) (by omega) OS.out.2.2.2.size
          have hr4 : (Builtin.append_ #[22, 22] 22 #[.slice pv m.ps.length cv, .slice (some ⟨wr.heap.size, 0, none⟩) 1 1]).run Tryd.prog (wr.alloc (.cells #[.string (ofL y)] 9)).drew = .ok (.slice p4 (m.ps.length + 1) c4) w4 := hr4
          have u4 : Upd (fun k => (Value.slice pv m.ps.length cv).ownBlock = some k) wr w4 := ((Upd.refl (fun k => (Value.slice pv m.ps.length cv).ownBlock = some k) wr).drew).trans u4 (fun _ _ h => h)
          have b4 := u4.blk OS.out.1 (fun e => OS.out.ne e rfl)
          have hb4 := b4.lt
          have m4 := b4.free 6
          have z4 : w4.cell? ⟨w1.heap.size, 6, none⟩ = some (.slice pv m.ps.length cv) := b4.cellAt rfl
          have HF : Hid (OptS w1 (w4.setCell ⟨w1.heap.size, 6, none⟩ (.slice p4 (m.ps.length + 1) c4)) w1.heap.size { m with ps := m.ps ++ [y] } (.slice p4 (m.ps.length + 1) c4)) := by
            have us : Upd (fun b => b = w1.heap.size) w4 (w4.setCell ⟨w1.heap.size, 6, none⟩ (.slice p4 (m.ps.length + 1) c4)) := (Upd.refl _ _).set (fun _ => rfl)
            refine ⟨b4.set 6 _, OS.out.2.1, own_keep i4 us (fun b hb e => ?_), (OS.out.2.2.2.trans u4 (fun i hi e => ?_)).trans us (fun i hi e => ?_)⟩
            · obtain ⟨_, _, cs, hs⟩ := own_lt i4 hb
              subst e
              exact ty_ne (b4.ty hs)
            · have := (own_lt OS.out.2.2.1 e).2.1; omega
            · have := OS.out.2.1; omega
          obtain ⟨y1, g1, d0, d1, d2, d3, d4, d5, d6⟩ := mode_facts OS.out.1
          have q9 : (0 : Int) ≤ (a : Int) + 1 := by omega
          clear u4 i4 b4 I1 I2 I3 I4 I5 I6 OM3
          go_wp2
          go_region_law (refine step_builtin rfl _ _ 22 rfl _ _ (by simp [Act.eval, Act.put]) (by simp [Act.eval, Act.put]) hr4 ?_)
          all_goals
            try go_wp2
            go_roundw
            case rel => exact ⟨a + 1 + 1, { m with ps := m.ps ++ [y] }, _, rfl, by go_num, by omega, by omega, hmo, hpl4, OM4, MP4, HF⟩
            case measure => simp [intOf]; omega
      · have q2 : ¬ (a : Int) + 1 < (n : Int) := by omega
        have hnil : (t :: r).drop (a + 1) = [] := List.drop_eq_nil_of_le (by rw [← NN.out]; omega)
        have PM := Lib.hid (parse_none' (t := t) (r := r) (Or.inl hON) (by have := OM2.out; rw [hnil] at this; exact this))
        clear hnil OM2
        go_wp2_with fail
        refine (I5.out _).mono ?_
        rintro e w' ⟨rfl, rfl⟩
        cases h5 : isW x kRD with
        | true =>
          go_wp2_with fail
          refine (I6.out _).mono ?_
          rintro e w' ⟨rfl, rfl⟩
          cases h6 : isW x kPX with
          | true =>
            clear I1 I2 I3 I4 I5 I6
            -- ZZ : Zs at the world; UW : Upd False w
            obtain ⟨xa, fa, a0, a1, a2, a3, a4, a5, a6⟩ := mode_facts ZZ.out.1
            obtain ⟨xb, fb, b0, b1, b2, b3, b4, b5, b6⟩ := mode_facts ZZ.out.2
            have BZ := Lib.hid ZZ.out.1
            go_wp2
            have RV := prR (w := w) BZ.out (Nat.le_refl _) UZ.out false false false false false 0 [] none 0 0 131 rfl (by omega) (World.ownsRow_nil _ _ _ _)
            have bF := setM_blk (a0 := .bool false) (a1 := .bool false) (a2 := .bool false) (a3 := .bool false) (a4 := .bool false) (a5 := .int .i64 0) (a6 := .slice none 0 0) BZ.out
            unfold setM at bF RV
            obtain ⟨_, _, h0, h1, h2, h3, h4, h5, h6⟩ := mode_facts bF
            refine bodyPost_ret (v := .tuple #[.agg #[.bool false, .bool false, .bool false, .bool false, .bool false, .int .i64 0, .slice none 0 0], .int .i64 131]) (by simp [results, Tryd.results15, go_sem, h0, h1, h2, h3, h4, h5, h6]) rfl ?_
            rw [PM.out]
            exact RV
          | false =>
            clear I1 I2 I3 I4 I5 I6
            -- ZZ : Zs at the world; UW : Upd False w
            obtain ⟨xa, fa, a0, a1, a2, a3, a4, a5, a6⟩ := mode_facts ZZ.out.1
            obtain ⟨xb, fb, b0, b1, b2, b3, b4, b5, b6⟩ := mode_facts ZZ.out.2
            have BZ := Lib.hid ZZ.out.1
            go_wp2
            have RV := prR (w := w) BZ.out (Nat.le_refl _) UZ.out false false false false false 0 [] none 0 0 131 rfl (by omega) (World.ownsRow_nil _ _ _ _)
            have bF := setM_blk (a0 := .bool false) (a1 := .bool false) (a2 := .bool false) (a3 := .bool false) (a4 := .bool false) (a5 := .int .i64 0) (a6 := .slice none 0 0) BZ.out
            unfold setM at bF RV
            obtain ⟨_, _, h0, h1, h2, h3, h4, h5, h6⟩ := mode_facts bF
            refine bodyPost_ret (v := .tuple #[.agg #[.bool false, .bool false, .bool false, .bool false, .bool false, .int .i64 0, .slice none 0 0], .int .i64 131]) (by simp [results, Tryd.results15, go_sem, h0, h1, h2, h3, h4, h5, h6]) rfl ?_
            rw [PM.out]
            exact RV
        | false =>
          go_wp2_with fail
          refine (I6.out _).mono ?_
          rintro e w' ⟨rfl, rfl⟩
          cases h6 : isW x kPX with
          | true =>
            clear I1 I2 I3 I4 I5 I6
            -- ZZ : Zs at the world; UW : Upd False w
            obtain ⟨xa, fa, a0, a1, a2, a3, a4, a5, a6⟩ := mode_facts ZZ.out.1
            obtain ⟨xb, fb, b0, b1, b2, b3, b4, b5, b6⟩ := mode_facts ZZ.out.2
            have BZ := Lib.hid ZZ.out.1
            go_wp2
            have RV := prR (w := w) BZ.out (Nat.le_refl _) UZ.out false false false false false 0 [] none 0 0 131 rfl (by omega) (World.ownsRow_nil _ _ _ _)
            have bF := setM_blk (a0 := .bool false) (a1 := .bool false) (a2 := .bool false) (a3 := .bool false) (a4 := .bool false) (a5 := .int .i64 0) (a6 := .slice none 0 0) BZ.out
            unfold setM at bF RV
            obtain ⟨_, _, h0, h1, h2, h3, h4, h5, h6⟩ := mode_facts bF
            refine bodyPost_ret (v := .tuple #[.agg #[.bool false, .bool false, .bool false, .bool false, .bool false, .int .i64 0, .slice none 0 0], .int .i64 131]) (by simp [results, Tryd.results15, go_sem, h0, h1, h2, h3, h4, h5, h6]) rfl ?_
            rw [PM.out]
            exact RV
          | false =>
            clear I1 I2 I3 I4 I5 I6
            -- ZZ : Zs at the world; UW : Upd False w
            obtain ⟨xa, fa, a0, a1, a2, a3, a4, a5, a6⟩ := mode_facts ZZ.out.1
            obtain ⟨xb, fb, b0, b1, b2, b3, b4, b5, b6⟩ := mode_facts ZZ.out.2
            have BZ := Lib.hid ZZ.out.1
            go_wp2
            have RV := prR (w := w) BZ.out (Nat.le_refl _) UZ.out false false false false false 0 [] none 0 0 131 rfl (by omega) (World.ownsRow_nil _ _ _ _)
            have bF := setM_blk (a0 := .bool false) (a1 := .bool false) (a2 := .bool false) (a3 := .bool false) (a4 := .bool false) (a5 := .int .i64 0) (a6 := .slice none 0 0) BZ.out
            unfold setM at bF RV
            obtain ⟨_, _, h0, h1, h2, h3, h4, h5, h6⟩ := mode_facts bF
            refine bodyPost_ret (v := .tuple #[.agg #[.bool false, .bool false, .bool false, .bool false, .bool false, .int .i64 0, .slice none 0 0], .int .i64 131]) (by simp [results, Tryd.results15, go_sem, h0, h1, h2, h3, h4, h5, h6]) rfl ?_
            rw [PM.out]
            exact RV
    · have q1 : ¬ (a : Int) < (n : Int) := by omega
      have cz : wr.cell? ⟨wb, off, none⟩ = some (.string st) := (UZ.out.cell (p := ⟨wb, off, none⟩) hwb id).trans hc0
      have hwbz : wb < wr.heap.size := Nat.lt_of_lt_of_le hwb UZ.out.size
      have OMS : Hid (optsM { offM with on := true } r = some m) := Lib.hid (by rw [OM.out, List.drop_eq_nil_of_le (by rw [← NN.out]; omega), optsM_nil])
      have PM := Lib.hid (parse_on hON OMS.out)
      obtain ⟨on, bc, oi, oo, nl, rd, ps⟩ := m
      dsimp only at *
      obtain rfl : on = true := hmo
      have SO := sorted13b_any v ps wr (txts_row OS.out.2.2.1) (by omega)
      obtain ⟨pv, cv, hv, hvl⟩ := own_slice OS.out.2.2.1
      unfold maxLen at hvl
      subst hv
      have SO := Lib.hid SO
      have HPS : Hid (∀ y ∈ ordT ps, y.length ≤ maxLen) := Lib.hid (fun y hy => by have := HL.out y (MP.out y ((ordT_perm ps).mem_iff.1 hy)); unfold maxLen; omega)
      have hps : ps.length ≤ 10000 := by omega
      obtain ⟨y1, g1, d0, d1, d2, d3, d4, d5, d6⟩ := mode_facts OS.out.1
      go_wp2_with fail
      refine (J2.out _).mono ?_
      rintro e w' ⟨rfl, rfl⟩
      go_wp2_with fail
      refine SO.out.mono ?_
      rintro e w8 ⟨v8, l8, rfl, t8, o8, pr8, u8⟩
      have hl8 : l8 = ordT ps := ordT_eq o8 pr8
      subst hl8
      obtain ⟨p8, c8, hv8, _⟩ := own_slice t8
      subst hv8
      obtain ⟨n8, hn8⟩ : ∃ n8, n8 = (ordT ps).length := ⟨_, rfl⟩
      rw [← hn8] at t8 ⊢
      have hc8 := own_capT t8
      have hnps : n8 = ps.length := by rw [hn8, (ordT_perm ps).length_eq]
      have N7 := Lib.hid hn8
      have hn7 : n8 ≤ 10000 := by omega
      have us : Upd (fun b => b = w1.heap.size) w8 (w8.setCell ⟨w1.heap.size, 6, none⟩ (.slice p8 n8 c8)) := (Upd.refl _ _).set (fun _ => rfl)
      have b8 := u8.blk OS.out.1 id
      have hsz8 : w1.heap.size < wr.heap.size := OS.out.1.lt
      have OS7 : Hid (OptS w1 (w8.setCell ⟨w1.heap.size, 6, none⟩ (.slice p8 n8 c8)) w1.heap.size ⟨true, bc, oi, oo, nl, rd, ordT ps⟩ (.slice p8 n8 c8)) := Lib.hid ⟨b8.set 6 _, Nat.le_refl _, own_monoT (own_keep t8 us (fun b hb e => by have := (own_lt t8 hb).2.1; omega)) OS.out.2.2.2.size, (OS.out.2.2.2.trans u8 (fun _ _ h => h)).trans us (fun i hi e => by omega)⟩
      clear y1 g1 d0 d1 d2 d3 d4 d5 d6
      obtain ⟨y1, g1, d0, d1, d2, d3, d4, d5, d6⟩ := mode_facts b8
      dsimp only at d0 d1 d2 d3 d4 d5 d6
      have HNP := Lib.hid hnps
      clear us b8 u8 t8 o8 pr8 hn8 SO OMS hnps
      cases bc with
      | false =>
        have FE0 : (⟨true, false, oi, oo, nl, rd, (ordT ps)⟩ : MD) = finM ⟨true, false, oi, oo, nl, rd, ps⟩ := (by simp [finM])
        have RI := (right13_big ⟨true, false, oi, oo, nl, rd, (ordT ps)⟩ p8 n8 c8 N7.out _ rfl (w8.setCell ⟨w1.heap.size, 6, none⟩ (.slice p8 n8 c8)) (rwt_own OS7.out.2.2.1 N7.out) (by have := N7.out; rw [← this]; have := hn7; omega) HPS.out)
        have PM1 := PM.out
        rw [← FE0] at PM1
        have hc7 := own_capT OS7.out.2.2.1
        obtain ⟨rb, hrb⟩ : ∃ rb, rightM ⟨true, false, oi, oo, nl, rd, (ordT ps)⟩ = rb := ⟨_, rfl⟩
        rw [hrb] at RI PM1
        dsimp only at RI
        have RI := Lib.hid RI
        clear hrb FE0 PM
        cases rb with
        | false =>
          have PM : Hid (parseM (t :: r) = (offM, 132)) := Lib.hid PM1
          clear PM1
          go_wp2_with fail
          refine RI.out.mono ?_
          rintro e w9 ⟨rfl, u9⟩
          have ZZ9 := Lib.hid (Z1.out.keep (OS7.out.2.2.2.trans u9 (fun _ _ h => h)) (fun b hb h => h))
          have UZ9 := Lib.hid (U1.out.trans (OS7.out.2.2.2.trans u9 (fun _ _ h => h)) (fun _ _ h => h))
          clear u9 y1 g1 d0 d1 d2 d3 d4 d5 d6
          -- ZZ : Zs at the world; UW : Upd False w
          obtain ⟨xa, fa, a0, a1, a2, a3, a4, a5, a6⟩ := mode_facts ZZ9.out.1
          obtain ⟨xb, fb, b0, b1, b2, b3, b4, b5, b6⟩ := mode_facts ZZ9.out.2
          have BZ := Lib.hid ZZ9.out.1
          go_wp2
          have RV := prR (w := w) BZ.out (Nat.le_refl _) UZ9.out false false false false false 0 [] none 0 0 132 rfl (by omega) (World.ownsRow_nil _ _ _ _)
          have bF := setM_blk (a0 := .bool false) (a1 := .bool false) (a2 := .bool false) (a3 := .bool false) (a4 := .bool false) (a5 := .int .i64 0) (a6 := .slice none 0 0) BZ.out
          unfold setM at bF RV
          obtain ⟨_, _, h0, h1, h2, h3, h4, h5, h6⟩ := mode_facts bF
          refine bodyPost_ret (v := .tuple #[.agg #[.bool false, .bool false, .bool false, .bool false, .bool false, .int .i64 0, .slice none 0 0], .int .i64 132]) (by simp [results, Tryd.results15, go_sem, h0, h1, h2, h3, h4, h5, h6]) rfl ?_
          rw [PM.out]
          exact RV
        | true =>
          have PM : Hid (parseM (t :: r) = (⟨true, false, oi, oo, nl, rd, (ordT ps)⟩, 0)) := Lib.hid PM1
          clear PM1
          go_wp2_with fail
          refine RI.out.mono ?_
          rintro e w9 ⟨rfl, u9⟩
          have ZZ9 := Lib.hid (Z1.out.keep (OS7.out.2.2.2.trans u9 (fun _ _ h => h)) (fun b hb h => h))
          have UZ9 := Lib.hid (U1.out.trans (OS7.out.2.2.2.trans u9 (fun _ _ h => h)) (fun _ _ h => h))
          have T9 := Lib.hid (own_monoT (base2 := w.heap.size) (own_keep OS7.out.2.2.1 u9 (fun _ _ h => h)) U1.out.size)
          have B9 := u9.blk OS7.out.1 id
          clear u9 y1 g1 d0 d1 d2 d3 d4 d5 d6
          obtain ⟨y1, g1, d0, d1, d2, d3, d4, d5, d6⟩ := mode_facts B9
          obtain ⟨xa, fa, a0, a1, a2, a3, a4, a5, a6⟩ := mode_facts ZZ9.out.1
          have BZ := Lib.hid ZZ9.out.1
          clear B9
          go_wp2
          have RV := prR (w := w) BZ.out (Nat.le_refl _) UZ9.out true false oi oo nl rd (ordT ps) p8 n8 c8 0 N7.out hc7 T9.out
          have bF := setM_blk (a0 := .bool true) (a1 := .bool false) (a2 := .bool oi) (a3 := .bool oo) (a4 := .bool nl) (a5 := .int .i64 rd) (a6 := .slice p8 n8 c8) BZ.out
          unfold setM at bF RV
          obtain ⟨_, _, h0, h1, h2, h3, h4, h5, h6⟩ := mode_facts bF
          refine bodyPost_ret (v := .tuple #[.agg #[.bool true, .bool false, .bool oi, .bool oo, .bool nl, .int .i64 rd, .slice p8 n8 c8], .int .i64 0]) (by simp [results, Tryd.results15, go_sem, h0, h1, h2, h3, h4, h5, h6]) rfl ?_
          rw [PM.out]
          exact RV
      | true =>
        by_cases hp0 : n8 = 0
        · have q5 : ((n8 : Int) == 0) = true := by rw [hp0]; rfl
          have HP : Hid (ps = []) := Lib.hid (List.length_eq_zero_iff.1 (by rw [← HNP.out]; exact hp0))
          clear hp0
          have hle8 : w1.heap.size ≤ w8.heap.size := by omega
          have b9 := (OS7.out.1.set 6 (.slice (some ⟨w8.heap.size, 0, none⟩) 1 1)).alloc (.cells #[.string { data := #[] }] 9)
          have hz9 : ((w8.setCell ⟨w1.heap.size, 6, none⟩ (.slice p8 n8 c8)).setCell ⟨w1.heap.size, 6, none⟩ (.slice (some ⟨w8.heap.size, 0, none⟩) 1 1)).heap.size = w8.heap.size := by simp [World.setCell]
          have bN := Blk.made ((w8.setCell ⟨w1.heap.size, 6, none⟩ (.slice p8 n8 c8)).setCell ⟨w1.heap.size, 6, none⟩ (.slice (some ⟨w8.heap.size, 0, none⟩) 1 1)) [.string (ofL [])] 9
          rw [hz9] at bN
          have OS9 : Hid (OptS w1 (((w8.setCell ⟨w1.heap.size, 6, none⟩ (.slice p8 n8 c8)).setCell ⟨w1.heap.size, 6, none⟩ (.slice (some ⟨w8.heap.size, 0, none⟩) 1 1)).alloc (.cells #[.string { data := #[] }] 9)) w1.heap.size ⟨true, true, oi, oo, nl, rd, [[]]⟩ (.slice (some ⟨w8.heap.size, 0, none⟩) 1 1)) := Lib.hid ⟨b9, Nat.le_refl _, own_of (cs := []) hle8 bN rfl rfl (by unfold maxLen; omega), (OS7.out.2.2.2.set (fun h => absurd h (Nat.lt_irrefl _))).alloc _⟩
          have q6 : ((1 : Int) == 0) = false := rfl
          clear b9 hz9 bN OS7 N7 hn7 hle8
          have OS7 := OS9
          have N7 : Hid (1 = ([[]] : List Txt).length) := Lib.hid rfl
          have hn7 : 1 ≤ 10000 := by omega
          clear OS9
          have FE0 : (⟨true, true, oi, oo, nl, rd, [[]]⟩ : MD) = finM ⟨true, true, oi, oo, nl, rd, ps⟩ := (by simp [finM, HP.out])
          have RI := (right13_big ⟨true, true, oi, oo, nl, rd, [[]]⟩ (some ⟨w8.heap.size, 0, none⟩) 1 1 N7.out _ rfl ((((w8.setCell ⟨w1.heap.size, 6, none⟩ (.slice p8 n8 c8)).setCell ⟨w1.heap.size, 6, none⟩ (.slice (some ⟨w8.heap.size, 0, none⟩) 1 1)).alloc (.cells #[.string { data := #[] }] 9))) (rwt_own OS7.out.2.2.1 N7.out) (by have := N7.out; rw [← this]; have := hn7; omega) (fun y hy => by simp at hy; subst hy; unfold maxLen; simp))
          have PM1 := PM.out
          rw [← FE0] at PM1
          have hc7 := own_capT OS7.out.2.2.1
          obtain ⟨rb, hrb⟩ : ∃ rb, rightM ⟨true, true, oi, oo, nl, rd, [[]]⟩ = rb := ⟨_, rfl⟩
          rw [hrb] at RI PM1
          dsimp only at RI
          have RI := Lib.hid RI
          clear hrb FE0 PM
          cases rb with
          | false =>
            have PM : Hid (parseM (t :: r) = (offM, 132)) := Lib.hid PM1
            clear PM1
            go_wp2_with fail
            refine RI.out.mono ?_
            rintro e w9 ⟨rfl, u9⟩
            have ZZ9 := Lib.hid (Z1.out.keep (OS7.out.2.2.2.trans u9 (fun _ _ h => h)) (fun b hb h => h))
            have UZ9 := Lib.hid (U1.out.trans (OS7.out.2.2.2.trans u9 (fun _ _ h => h)) (fun _ _ h => h))
            clear u9 y1 g1 d0 d1 d2 d3 d4 d5 d6
            -- ZZ : Zs at the world; UW : Upd False w
            obtain ⟨xa, fa, a0, a1, a2, a3, a4, a5, a6⟩ := mode_facts ZZ9.out.1
            obtain ⟨xb, fb, b0, b1, b2, b3, b4, b5, b6⟩ := mode_facts ZZ9.out.2
            have BZ := Lib.hid ZZ9.out.1
            go_wp2
            have RV := prR (w := w) BZ.out (Nat.le_refl _) UZ9.out false false false false false 0 [] none 0 0 132 rfl (by omega) (World.ownsRow_nil _ _ _ _)
            have bF := setM_blk (a0 := .bool false) (a1 := .bool false) (a2 := .bool false) (a3 := .bool false) (a4 := .bool false) (a5 := .int .i64 0) (a6 := .slice none 0 0) BZ.out
            unfold setM at bF RV
            obtain ⟨_, _, h0, h1, h2, h3, h4, h5, h6⟩ := mode_facts bF
            refine bodyPost_ret (v := .tuple #[.agg #[.bool false, .bool false, .bool false, .bool false, .bool false, .int .i64 0, .slice none 0 0], .int .i64 132]) (by simp [results, Tryd.results15, go_sem, h0, h1, h2, h3, h4, h5, h6]) rfl ?_
            rw [PM.out]
            exact RV
          | true =>
            have PM : Hid (parseM (t :: r) = (⟨true, true, oi, oo, nl, rd, [[]]⟩, 0)) := Lib.hid PM1
            clear PM1
            go_wp2_with fail
            refine RI.out.mono ?_
            rintro e w9 ⟨rfl, u9⟩
            have ZZ9 := Lib.hid (Z1.out.keep (OS7.out.2.2.2.trans u9 (fun _ _ h => h)) (fun b hb h => h))
            have UZ9 := Lib.hid (U1.out.trans (OS7.out.2.2.2.trans u9 (fun _ _ h => h)) (fun _ _ h => h))
            have T9 := Lib.hid (own_monoT (base2 := w.heap.size) (own_keep OS7.out.2.2.1 u9 (fun _ _ h => h)) U1.out.size)
            have B9 := u9.blk OS7.out.1 id
            clear u9 y1 g1 d0 d1 d2 d3 d4 d5 d6
            obtain ⟨y1, g1, d0, d1, d2, d3, d4, d5, d6⟩ := mode_facts B9
            obtain ⟨xa, fa, a0, a1, a2, a3, a4, a5, a6⟩ := mode_facts ZZ9.out.1
            have BZ := Lib.hid ZZ9.out.1
            clear B9
            go_wp2
            have RV := prR (w := w) BZ.out (Nat.le_refl _) UZ9.out true true oi oo nl rd [[]] (some ⟨w8.heap.size, 0, none⟩) 1 1 0 N7.out hc7 T9.out
            have bF := setM_blk (a0 := .bool true) (a1 := .bool true) (a2 := .bool oi) (a3 := .bool oo) (a4 := .bool nl) (a5 := .int .i64 rd) (a6 := .slice (some ⟨w8.heap.size, 0, none⟩) 1 1) BZ.out
            unfold setM at bF RV
            obtain ⟨_, _, h0, h1, h2, h3, h4, h5, h6⟩ := mode_facts bF
            refine bodyPost_ret (v := .tuple #[.agg #[.bool true, .bool true, .bool oi, .bool oo, .bool nl, .int .i64 rd, .slice (some ⟨w8.heap.size, 0, none⟩) 1 1], .int .i64 0]) (by simp [results, Tryd.results15, go_sem, h0, h1, h2, h3, h4, h5, h6]) rfl ?_
            rw [PM.out]
            exact RV
        · have q5 : ((n8 : Int) == 0) = false := by rw [beq_eq_false_iff_ne]; omega
          have HP : Hid (ps ≠ []) := Lib.hid (fun e => hp0 (by rw [HNP.out, e]; rfl))
          clear hp0
          have FE0 : (⟨true, true, oi, oo, nl, rd, (ordT ps)⟩ : MD) = finM ⟨true, true, oi, oo, nl, rd, ps⟩ := (by simp [finM, HP.out])
          have RI := (right13_big ⟨true, true, oi, oo, nl, rd, (ordT ps)⟩ p8 n8 c8 N7.out _ rfl (w8.setCell ⟨w1.heap.size, 6, none⟩ (.slice p8 n8 c8)) (rwt_own OS7.out.2.2.1 N7.out) (by have := N7.out; rw [← this]; have := hn7; omega) HPS.out)
          have PM1 := PM.out
          rw [← FE0] at PM1
          have hc7 := own_capT OS7.out.2.2.1
          obtain ⟨rb, hrb⟩ : ∃ rb, rightM ⟨true, true, oi, oo, nl, rd, (ordT ps)⟩ = rb := ⟨_, rfl⟩
          rw [hrb] at RI PM1
          dsimp only at RI
          have RI := Lib.hid RI
          clear hrb FE0 PM
          cases rb with
          | false =>
            have PM : Hid (parseM (t :: r) = (offM, 132)) := Lib.hid PM1
            clear PM1
            go_wp2_with fail
            refine RI.out.mono ?_
            rintro e w9 ⟨rfl, u9⟩
            have ZZ9 := Lib.hid (Z1.out.keep (OS7.out.2.2.2.trans u9 (fun _ _ h => h)) (fun b hb h => h))
            have UZ9 := Lib.hid (U1.out.trans (OS7.out.2.2.2.trans u9 (fun _ _ h => h)) (fun _ _ h => h))
            clear u9 y1 g1 d0 d1 d2 d3 d4 d5 d6
            -- ZZ : Zs at the world; UW : Upd False w
            obtain ⟨xa, fa, a0, a1, a2, a3, a4, a5, a6⟩ := mode_facts ZZ9.out.1
            obtain ⟨xb, fb, b0, b1, b2, b3, b4, b5, b6⟩ := mode_facts ZZ9.out.2
            have BZ := Lib.hid ZZ9.out.1
            go_wp2
            have RV := prR (w := w) BZ.out (Nat.le_refl _) UZ9.out false false false false false 0 [] none 0 0 132 rfl (by omega) (World.ownsRow_nil _ _ _ _)
            have bF := setM_blk (a0 := .bool false) (a1 := .bool false) (a2 := .bool false) (a3 := .bool false) (a4 := .bool false) (a5 := .int .i64 0) (a6 := .slice none 0 0) BZ.out
            unfold setM at bF RV
            obtain ⟨_, _, h0, h1, h2, h3, h4, h5, h6⟩ := mode_facts bF
            refine bodyPost_ret (v := .tuple #[.agg #[.bool false, .bool false, .bool false, .bool false, .bool false, .int .i64 0, .slice none 0 0], .int .i64 132]) (by simp [results, Tryd.results15, go_sem, h0, h1, h2, h3, h4, h5, h6]) rfl ?_
            rw [PM.out]
            exact RV
          | true =>
            have PM : Hid (parseM (t :: r) = (⟨true, true, oi, oo, nl, rd, (ordT ps)⟩, 0)) := Lib.hid PM1
            clear PM1
            go_wp2_with fail
            refine RI.out.mono ?_
            rintro e w9 ⟨rfl, u9⟩
            have ZZ9 := Lib.hid (Z1.out.keep (OS7.out.2.2.2.trans u9 (fun _ _ h => h)) (fun b hb h => h))
            have UZ9 := Lib.hid (U1.out.trans (OS7.out.2.2.2.trans u9 (fun _ _ h => h)) (fun _ _ h => h))
            have T9 := Lib.hid (own_monoT (base2 := w.heap.size) (own_keep OS7.out.2.2.1 u9 (fun _ _ h => h)) U1.out.size)
            have B9 := u9.blk OS7.out.1 id
            clear u9 y1 g1 d0 d1 d2 d3 d4 d5 d6
            obtain ⟨y1, g1, d0, d1, d2, d3, d4, d5, d6⟩ := mode_facts B9
            obtain ⟨xa, fa, a0, a1, a2, a3, a4, a5, a6⟩ := mode_facts ZZ9.out.1
            have BZ := Lib.hid ZZ9.out.1
            clear B9
            go_wp2
            have RV := prR (w := w) BZ.out (Nat.le_refl _) UZ9.out true true oi oo nl rd (ordT ps) p8 n8 c8 0 N7.out hc7 T9.out
            have bF := setM_blk (a0 := .bool true) (a1 := .bool true) (a2 := .bool oi) (a3 := .bool oo) (a4 := .bool nl) (a5 := .int .i64 rd) (a6 := .slice p8 n8 c8) BZ.out
            unfold setM at bF RV
            obtain ⟨_, _, h0, h1, h2, h3, h4, h5, h6⟩ := mode_facts bF
            refine bodyPost_ret (v := .tuple #[.agg #[.bool true, .bool true, .bool oi, .bool oo, .bool nl, .int .i64 rd, .slice p8 n8 c8], .int .i64 0]) (by simp [results, Tryd.results15, go_sem, h0, h1, h2, h3, h4, h5, h6]) rfl ?_
            rw [PM.out]
            exact RV
end Go.Proofs.YtcpfkkbegnhofaaDoor
