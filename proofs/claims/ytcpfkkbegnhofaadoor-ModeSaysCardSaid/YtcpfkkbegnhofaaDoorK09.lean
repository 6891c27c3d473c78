/- Walk: a mode of words. -/
import Derived.Test.YtcpfkkbegnhofaaDoorK08
set_option linter.unusedVariables false
set_option linter.unusedSimpArgs false
namespace Go.Proofs.YtcpfkkbegnhofaaDoor
open Go.RowKit

/-- A row of texts that may be cut. -/
def RwT (w : World) (p : Option Addr) (c : Nat) (l : List Txt) : Prop := RowOf txtc 1 w (.slice p l.length c) l ∧ l.length ≤ c ∧ c ≤ maxLen
theorem RwT.keep {w w' : World} {p : Option Addr} {c : Nat} {l : List Txt} (h : RwT w p c l) (u : Upd (fun _ => False) w w') : RwT w' p c l := ⟨h.1.keep u (fun _ _ _ => id), h.2⟩
theorem RwT.blk {w : World} {p : Option Addr} {c : Nat} {l : List Txt} (h : RwT w p c l) (h0 : l ≠ []) {b : Nat} (hb : (Value.slice p l.length c).ownBlock = some b) : b < w.heap.size := by
  rcases h.1 with ⟨_, _, _, e⟩ | ⟨b', o, c', e, hb', _⟩
  · exact absurd e h0
  · rw [e] at hb
    have hb : some b' = some b := hb
    cases hb; exact hb'
theorem strs_elem : Tryd.prog.elem 22 = 9 := by kernel_rfl
theorem RwT.drop {w : World} {p : Option Addr} {c : Nat} {l : List Txt} (h : RwT w p c l) (k : Nat) (hk : k ≤ l.length) :
    ∃ p' c', (∀ w', (Instr.slice 22 (.slice p l.length c) (some (.int .i64 (k : Int))) none none).run Tryd.prog w' = .ok (.slice p' (l.drop k).length c') w') ∧ RwT w p' c' (l.drop k) := by
  have h2 := h.2.1
  have h3 := h.2.2
  refine ⟨if c = k then p else p.map (·.add (k * 1)), c - k, fun w' => ?_, ?_, by rw [List.length_drop]; omega, by omega⟩
  · rw [run_slice_l (P := Tryd.prog) w' 22 p l.length c (by rw [strs_elem]; exact Tryd.underlying22) .i64 (k : Int) (by omega) (by omega), strs_elem, Tryd.sizeOf9]
    simp only [Result.andThen, sliced, Int.toNat_natCast, List.length_drop]
  · by_cases he : l.drop k = []
    · rw [he]
      exact Or.inl ⟨_, _, rfl, rfl⟩
    · have hlt : k < l.length := by
        rcases Nat.lt_or_ge k l.length with h | h
        · exact h
        · exact absurd (List.drop_eq_nil_of_le h) he
      rcases h.1 with ⟨_, _, _, e⟩ | ⟨b, o, c', e, hb, hm, hc⟩
      · rw [e] at hlt; simp at hlt
      · simp only [Value.slice.injEq] at e
        obtain ⟨rfl, _, rfl⟩ := e
        rw [if_neg (by omega)]
        refine Or.inr ⟨b, o + k, c - k, by simp [Addr.add_lit], hb, by rw [List.length_drop]; omega, fun i a hi j hj => ?_⟩
        rw [List.getElem?_drop] at hi
        have := hc _ a hi j hj
        rw [Nat.mul_one] at this ⊢
        rw [← this]
        congr 2
        omega
def slLen : Value → Nat
  | .slice _ n _ => n
  | _ => 0
theorem parse_none {t : Txt} {r : List Txt} {b : Bool} (hb : isW t kON = b) (hO : b = true ∨ isW t kOFF = true) (h : optsM { offM with on := b } r = none) : parseM (t :: r) = (offM, 131) := by
  have h2 : optsM { offM with on := true } r = none := by
    cases b with
    | true => exact h
    | false =>
      have := optsM_on true r.length offM r (Nat.le_refl _)
      have h : optsM offM r = none := h
      rw [h] at this; exact this
  unfold parseM
  simp only
  rw [h2, if_neg]
  rintro ⟨g1, g2⟩
  rcases hO with e | e
  · rw [hb, e] at g1; cases g1
  · rw [e] at g2; cases g2
theorem parse_off {t : Txt} {r : List Txt} {m : MD} (hb : isW t kON = false) (hO : isW t kOFF = true) (h : optsM { offM with on := false } r = some m) : parseM (t :: r) = (offM, 0) := by
  have h2 : optsM { offM with on := true } r = some (setOn true m) := by
    have := optsM_on true r.length offM r (Nat.le_refl _)
    have h : optsM offM r = some m := h
    rw [h] at this; exact this
  unfold parseM
  simp only
  rw [h2, if_neg (by rw [hO]; simp)]
  simp only [hb, if_true]
theorem parse_on {t : Txt} {r : List Txt} {m : MD} (hb : isW t kON = true) (h : optsM { offM with on := true } r = some m) : parseM (t :: r) = if rightM (finM m) = true then (finM m, 0) else (offM, 132) := by
  unfold parseM
  simp only
  rw [h, if_neg (by rw [hb]; simp)]
  simp only [hb, Bool.true_eq_false, if_false]
theorem parse_no {t : Txt} {r : List Txt} (hb : isW t kON = false) (hO : isW t kOFF = false) : parseM (t :: r) = (offM, 131) := by
  unfold parseM
  simp only
  rw [if_pos ⟨hb, hO⟩]
theorem own_monoT {w : World} {base base2 : Nat} {v : Value} {l : List Txt} (h : TxtsAt w base v l) (hb : base2 ≤ base) : TxtsAt w base2 v l := by
  obtain ⟨h1, h2⟩ := h
  exact ⟨h1, h2.imp id (fun ⟨g, cap, cs, e, hg, r⟩ => ⟨g, cap, cs, e, Nat.le_trans hb hg, r⟩)⟩
set_option maxHeartbeats 8000000 in
set_option maxRecDepth 100000 in
theorem parseW_any (p : Option Addr) (c : Nat) (ws : List Txt) (w : World) (h : RwT w p c ws) (hs : StdU w) (hn : ws.length ≤ 1000) (hl : ∀ t ∈ ws, t.length ≤ 10000) :
    Calls Tryd.prog 12 #[.slice p ws.length c] w fun e w' => ∃ v', e = .returned (.tuple #[mdV (parseM ws).1 v', .int .i64 (parseM ws).2]) ∧ TxtsAt w' w.heap.size v' (parseM ws).1.ps ∧ Upd (fun _ => False) w w' := by
  have hle := h.2
  unfold maxLen at hle
  have U1 : Hid (Upd (fun _ => False) w (w.alloc (.cells zeroMC.toArray 24))) := (Upd.refl _ _).alloc _
  have B1 := Lib.hid (Blk.made w zeroMC 24)
  have H := Lib.hid h
  have HS := Lib.hid hs
  have HL := Lib.hid hl
  clear h hs hl
  cases ws with
  | nil =>
    obtain ⟨x1, f1, e0, e1, e2, e3, e4, e5, e6⟩ := mode_facts B1.out
    go_enter Tryd.func12, Tryd.ntmps12
    go_wp2
    refine bodyPost_ret (v := .tuple #[.agg #[.bool false, .bool false, .bool false, .bool false, .bool false, .int .i64 0, .slice none 0 0], .int .i64 131]) (by simp [results, Tryd.results12, go_sem, e0, e1, e2, e3, e4, e5, e6]) rfl ⟨.slice none 0 0, rfl, World.ownsRow_nil _ _ _ _, U1.out⟩
  | cons t r =>
    obtain ⟨w1, hw1⟩ : ∃ w1, w1 = w.alloc (.cells zeroMC.toArray 24) := ⟨_, rfl⟩
    rw [← hw1] at U1 B1
    have H1 := H.out.keep U1.out
    obtain ⟨wb, off, rfl, hwb, c0⟩ := txt_rcell H1.1 (k := 0) (by simp)
    have hc0 : w1.cell? ⟨wb, off, none⟩ = some (.string (ofL t)) := by simpa using c0
    have UP := fun W u => upper_any t (by have := HL.out t (by simp); omega) W (HS.out.keep u)
    obtain ⟨U, hU⟩ : ∃ U, U = ofL (Lib.mapD upf t) := ⟨_, rfl⟩
    have b1 : (U.toList == [79, 78]) = isW t kON := by rw [hU]; exact wbeq t kON (by decide)
    have b2 : (U.toList == [79, 70, 70]) = isW t kOFF := by rw [hU]; exact wbeq t kOFF (by decide)
    rw [← hU] at UP
    have UP := Lib.hid UP
    have UP1 := Lib.hid (UP.out w1 U1.out)
    obtain ⟨p2, c2, hsl, hr2⟩ := H.out.drop 1 (by simp)
    have HR2 := Lib.hid hr2
    obtain ⟨n2, hn2⟩ : ∃ n2, n2 = ((t :: r).drop 1).length := ⟨_, rfl⟩
    rw [← hn2] at hsl
    have HN2 := Lib.hid hn2
    obtain ⟨n, hnn⟩ : ∃ n, n = (t :: r).length := ⟨_, rfl⟩
    rw [← hnn] at hsl hn hle ⊢
    have hn1 : 1 ≤ n := by rw [hnn]; simp
    have HNN := Lib.hid hnn
    have hsl : ∀ w', (Instr.slice 22 (.slice (some ⟨wb, off, none⟩) n c) (some (.int .i64 1)) none none).run Tryd.prog w' = .ok (.slice p2 n2 c2) w' := hsl
    have q0 : (0 : Int) < (n : Int) := by omega
    have q0' : ((n : Int) == 0) = false := by rw [beq_eq_false_iff_ne]; omega
    have hle2 := hr2.2
    unfold maxLen at hle2
    rw [← hn2] at hle2
    rw [hw1] at UP1 hc0
    clear c0 hU H1 hr2 hn2 hnn
    cases hON : isW t kON with
    | true =>
      rw [hON] at b1
      clear b2
      go_enter Tryd.func12, Tryd.ntmps12
      go_wp2_with fail
      refine UP1.out.mono ?_
      rintro e w2 ⟨rfl, u2⟩
      rw [← hw1] at u2
      have U2 := Lib.hid (U1.out.trans u2 (fun _ _ h => h))
      have B2 := Lib.hid (u2.blk B1.out id)
      have OS : Hid (OptS w2 (w2.alloc (.cells (mdc { offM with on := true } (.slice none 0 0)).toArray 24)) w2.heap.size { offM with on := true } (.slice none 0 0)) := Lib.hid ⟨Blk.made w2 _ _, Nat.le_refl _, World.ownsRow_nil _ _ _ _, (Upd.refl _ _).alloc _⟩
      clear u2
      go_wp2
      go_loopw [3, 5] (fun v3 v5 wx => ∃ (a n' : Nat) (p' : Option Addr) (c' : Nat) (m : MD) (v : Value), v3 = .int .i64 0 ∧ v5 = .slice p' n' c' ∧ n' ≤ 1000 ∧ c' ≤ 9223372036854775807 ∧ m.on = true ∧ m.ps.length ≤ a ∧ a + n' ≤ 1001 ∧ Hid (n' = ((t :: r).drop a).length ∧ a ≤ (t :: r).length ∧ 1 ≤ a) ∧ Hid (RwT w p' c' ((t :: r).drop a)) ∧ Hid (optsM { offM with on := true } r = optsM m ((t :: r).drop a)) ∧ Hid (∀ x ∈ m.ps, x ∈ t :: r) ∧ Hid (OptS w2 wx w2.heap.size m v)) (fun _ v5 _ => slLen v5)
      case atStart => exact ⟨1, n2, p2, c2, { offM with on := true }, .slice none 0 0, rfl, rfl, by have := HN2.out; have := HNN.out; simp at *; omega, by omega, rfl, by simp [offM], by have := HN2.out; have := HNN.out; simp at *; omega, Lib.hid ⟨HN2.out, by simp, by omega⟩, HR2, Lib.hid rfl, Lib.hid (by simp [offM]), OS⟩
      case round =>
        clear OS
        obtain ⟨a, n', p', c', m, v, rfl, rfl, hn', hc', hmo, hpl, han, HN, HR, OM, MP, OS⟩ := hrel
        obtain ⟨wo, hwo⟩ : ∃ wo, wo = wr := ⟨_, rfl⟩
        subst hwo
        have BZ := Lib.hid (OS.out.2.2.2.blk B2.out id)
        have UZ := Lib.hid (U2.out.trans OS.out.2.2.2 (fun _ _ h => h))
        obtain ⟨x1, f1, z0, z1, z2, z3, z4, z5, z6⟩ := mode_facts BZ.out
        by_cases hn0 : 0 < n'
        · have q1 : (0 : Int) < (n' : Int) := by omega
          obtain ⟨x, xs, hx⟩ : ∃ x xs, (t :: r).drop a = x :: xs := by
            cases h : (t :: r).drop a with
            | nil => have := HN.out.1; rw [h] at this; simp at this; omega
            | cons x xs => exact ⟨x, xs, rfl⟩
          have hxn : n' = (x :: xs).length := by rw [← hx]; exact HN.out.1
          have HRW : RwT w p' c' (x :: xs) := by rw [← hx]; exact HR.out
          have hsub : ∀ y ∈ x :: xs, y ∈ t :: r := fun y hy => by rw [← hx] at hy; exact List.mem_of_mem_drop hy
          have OO := option_any OS.out _ x xs ((HRW.keep UZ.out).1) (HS.out.keep UZ.out) (fun b hb => Nat.lt_of_lt_of_le (HRW.blk (by simp) hb) U2.out.size) (fun y hy => HL.out y (hsub y hy)) (by omega)
          rw [← hxn] at OO
          have OST := Lib.hid ((OM.out.trans (by rw [hx])).trans (optsM_step m x xs))
          cases hos : optStep m x xs with
          | none =>
            rw [hos] at OO OST
            have OO : Hid (Calls Tryd.prog 29 #[.pointer (some ⟨w2.heap.size, 0, none⟩), .slice p' n' c'] wo fun e w' => e = .returned (.int .i64 0) ∧ OptS w2 w' w2.heap.size m v) := Lib.hid OO
            have PM : Hid (parseM (t :: r) = (offM, 131)) := Lib.hid (parse_none hON (Or.inl rfl) OST.out)
            clear hos hxn
            go_wp2_with fail
            refine OO.out.mono ?_
            rintro e w5 ⟨rfl, os5⟩
            have BZ := Lib.hid (os5.2.2.2.blk B2.out id)
            have UZ := Lib.hid (U2.out.trans os5.2.2.2 (fun _ _ h => h))
            obtain ⟨x1, f1, z0, z1, z2, z3, z4, z5, z6⟩ := mode_facts BZ.out
            clear os5
            go_wp2
            have bF := setM_blk (a0 := .bool false) (a1 := .bool false) (a2 := .bool false) (a3 := .bool false) (a4 := .bool false) (a5 := .int .i64 0) (a6 := .slice none 0 0) BZ.out
            have uF := setM_upd (b := w.heap.size) (a0 := .bool false) (a1 := .bool false) (a2 := .bool false) (a3 := .bool false) (a4 := .bool false) (a5 := .int .i64 0) (a6 := .slice none 0 0) UZ.out (fun h => absurd h (Nat.lt_irrefl _))
            unfold setM at bF uF
            obtain ⟨_, _, h0, h1, h2, h3, h4, h5, h6⟩ := mode_facts bF
            refine bodyPost_ret (v := .tuple #[.agg #[.bool false, .bool false, .bool false, .bool false, .bool false, .int .i64 0, .slice none 0 0], .int .i64 131]) (by simp [results, Tryd.results12, go_sem, h0, h1, h2, h3, h4, h5, h6]) rfl ⟨.slice none 0 0, ?_, ?_, ?_⟩
            · rw [PM.out]; rfl
            · rw [PM.out]; exact World.ownsRow_nil _ _ _ _
            · exact uF
          | some mk =>
            obtain ⟨m', k⟩ := mk
            obtain ⟨k1, k2, k3, k4, k5⟩ := optStep_bounds hos
            rw [hos] at OO OST
            have OO : Hid (Calls Tryd.prog 29 #[.pointer (some ⟨w2.heap.size, 0, none⟩), .slice p' n' c'] wo fun e w' => e = .returned (.int .i64 (k : Int)) ∧ ∃ v', OptS w2 w' w2.heap.size m' v') := Lib.hid OO
            obtain ⟨p3, c3, hs3, hr3⟩ := HRW.drop k k2
            obtain ⟨n3, hn3⟩ : ∃ n3, n3 = ((x :: xs).drop k).length := ⟨_, rfl⟩
            rw [← hn3, ← hxn] at hs3
            have hk0 : ((k : Int) == 0) = false := by rw [beq_eq_false_iff_ne]; omega
            have hl3 : n3 = n' - k := by rw [hn3, List.length_drop, hxn]
            have hl4 : n3 ≤ 1000 ∧ a + k + n3 ≤ 1001 ∧ n3 < n' := by rw [← hxn] at k2; omega
            obtain ⟨hl4, hl5, hl6⟩ := hl4
            clear hl3
            have hd3 : (x :: xs).drop k = (t :: r).drop (a + k) := by rw [← hx, List.drop_drop]
            have hc3 := hr3.2
            unfold maxLen at hc3
            have HR3 : Hid (RwT w p3 c3 ((t :: r).drop (a + k))) := Lib.hid (by rw [← hd3]; exact hr3)
            have OM3 : Hid (optsM { offM with on := true } r = optsM m' ((t :: r).drop (a + k))) := Lib.hid (by
              have h3 := OST.out
              rw [← hd3, show (x :: xs).drop k = xs.drop (k - 1) by obtain ⟨q, rfl⟩ : ∃ q, k = q + 1 := ⟨k - 1, by omega⟩; rfl]
              exact h3)
            have HN3 : Hid (n3 = ((t :: r).drop (a + k)).length ∧ a + k ≤ (t :: r).length ∧ 1 ≤ a + k) := Lib.hid ⟨by rw [hn3, hd3], by
              have h1 := HN.out.1; rw [List.length_drop] at h1; have h2 := HN.out.2.1; rw [← hxn] at k2; omega, by omega⟩
            have MP3 : Hid (∀ y ∈ m'.ps, y ∈ t :: r) := Lib.hid (fun y hy => (k5 y hy).elim (MP.out y) (fun g => hsub y (List.mem_cons_of_mem _ g)))
            rw [← hxn] at k2
            have hc4 : c3 ≤ 9223372036854775807 := by omega
            clear hos hxn hd3 hr3 hn3 hc3 k5
            go_wp2_with fail
            refine OO.out.mono ?_
            rintro e w5 ⟨rfl, v5, os5⟩
            have OS5 := Lib.hid os5
            clear os5
            go_wp2
            go_roundw
            case rel => exact ⟨a + k, n3, p3, c3, m', v5, rfl, rfl, hl4, hc4, by rw [k4]; exact hmo, by omega, hl5, HN3, HR3, OM3, MP3, OS5⟩
            case measure => simp only [slLen]; omega
        · have q1 : ¬ (0 : Int) < (n' : Int) := by omega
          have hnil : (t :: r).drop a = [] := List.length_eq_zero_iff.1 (by rw [← HN.out.1]; omega)
          have OMS : Hid (optsM { offM with on := true } r = some m) := Lib.hid (by rw [OM.out, hnil, optsM_nil])
          obtain ⟨on, bc, oi, oo, nl, rd, ps⟩ := m
          dsimp only at *
          obtain rfl : on = true := hmo
          have PM := Lib.hid (parse_on hON OMS.out)
          obtain ⟨p9, c9, hv9, hl9⟩ := own_slice OS.out.2.2.1
          unfold maxLen at hl9
          subst hv9
          have hps : ps.length ≤ 10000 := by omega
          have HPS : Hid (∀ y ∈ ps, y.length ≤ maxLen) := Lib.hid (fun y hy => by have := HL.out y (MP.out y hy); unfold maxLen; omega)
          cases bc with
          | false =>
            have OS7 := OS
            obtain ⟨y1, g1, d0, d1, d2, d3, d4, d5, d6⟩ := mode_facts OS.out.1
            -- OS7 : the mode (bc as BC, texts PS in the slice P N C), at W, ahead of its sorting
            have SO := Lib.hid (sortT_any w2.heap.size (.slice p9 ps.length c9) ps (wo) OS7.out.2.2.1 (by have := hps; omega))
            have OB := Lib.hid (fun k hk => (own_lt OS7.out.2.2.1 (k := k) hk).2.1)
            go_wp2_with fail
            refine SO.out.mono ?_
            rintro e w7 ⟨rfl, t7, u7⟩
            have OS8 : Hid (OptS w2 w7 w2.heap.size ⟨true, false, oi, oo, nl, rd, ordT ps⟩ (.slice p9 ps.length c9)) := Lib.hid ⟨u7.blk OS7.out.1 (fun e => OS7.out.ne e rfl), OS7.out.2.1, t7, OS7.out.2.2.2.trans u7 (fun i hi e => by have := OB.out i e; omega)⟩
            have RI := right_any ⟨true, false, oi, oo, nl, rd, ordT ps⟩ (.slice p9 ps.length c9) w7 (txts_row t7) (by show (ordT ps).length ≤ _; rw [(ordT_perm _).length_eq]; have := hps; omega) (fun y hy => (HPS.out y ((ordT_perm ps).mem_iff.1 hy)))
            have FE0 : (⟨true, false, oi, oo, nl, rd, ordT ps⟩ : MD) = finM ⟨true, false, oi, oo, nl, rd, ps⟩ := (by simp [finM])
            rw [FE0] at RI
            have FE := Lib.hid FE0.symm
            clear FE0
            obtain ⟨y1, g1, d0, d1, d2, d3, d4, d5, d6⟩ := mode_facts OS8.out.1
            clear t7 u7 SO OB
            cases hr : rightM (finM ⟨true, false, oi, oo, nl, rd, ps⟩) with
            | false =>
              rw [hr] at RI PM
              have RI : Hid (Calls Tryd.prog 18 #[.agg #[.bool true, .bool false, .bool oi, .bool oo, .bool nl, .int .i64 rd, .slice p9 ps.length c9]] w7 fun e w' => e = .returned (.bool false) ∧ Upd (fun _ => False) w7 w') := by rw [FE.out] at RI; exact Lib.hid RI
              have PM2 : Hid (parseM (t :: r) = (offM, 132)) := PM
              clear hr PM
              have PM := PM2
              go_wp2_with fail
              refine RI.out.mono ?_
              rintro e w8 ⟨rfl, u8⟩
              have OS9 := OS8.out.keep u8
              have BZ := Lib.hid (OS9.2.2.2.blk B2.out id)
              have UZ := Lib.hid (U2.out.trans OS9.2.2.2 (fun _ _ h => h))
              obtain ⟨x1, f1, z0, z1, z2, z3, z4, z5, z6⟩ := mode_facts BZ.out
              clear u8 OS9
              go_wp2
              have bF := setM_blk (a0 := .bool false) (a1 := .bool false) (a2 := .bool false) (a3 := .bool false) (a4 := .bool false) (a5 := .int .i64 0) (a6 := .slice none 0 0) BZ.out
              have uF := setM_upd (b := w.heap.size) (a0 := .bool false) (a1 := .bool false) (a2 := .bool false) (a3 := .bool false) (a4 := .bool false) (a5 := .int .i64 0) (a6 := .slice none 0 0) UZ.out (fun h => absurd h (Nat.lt_irrefl _))
              unfold setM at bF uF
              obtain ⟨_, _, h0, h1, h2, h3, h4, h5, h6⟩ := mode_facts bF
              refine bodyPost_ret (v := .tuple #[.agg #[.bool false, .bool false, .bool false, .bool false, .bool false, .int .i64 0, .slice none 0 0], .int .i64 132]) (by simp [results, Tryd.results12, go_sem, h0, h1, h2, h3, h4, h5, h6]) rfl ⟨.slice none 0 0, ?_, ?_, ?_⟩
              · rw [PM.out]; rfl
              · rw [PM.out]; exact World.ownsRow_nil _ _ _ _
              · exact uF
            | true =>
              rw [hr] at RI PM
              have RI : Hid (Calls Tryd.prog 18 #[.agg #[.bool true, .bool false, .bool oi, .bool oo, .bool nl, .int .i64 rd, .slice p9 ps.length c9]] w7 fun e w' => e = .returned (.bool true) ∧ Upd (fun _ => False) w7 w') := by rw [FE.out] at RI; exact Lib.hid RI
              have PM2 : Hid (parseM (t :: r) = (⟨true, false, oi, oo, nl, rd, ordT ps⟩, 0)) := by
                have h := PM.out
                rw [if_pos rfl, FE.out] at h
                exact Lib.hid h
              clear hr PM
              go_wp2_with fail
              refine RI.out.mono ?_
              rintro e w8 ⟨rfl, u8⟩
              have OS9 := Lib.hid (OS8.out.keep u8)
              have BZ := Lib.hid (OS9.out.2.2.2.blk B2.out id)
              have UZ := Lib.hid (U2.out.trans OS9.out.2.2.2 (fun _ _ h => h))
              obtain ⟨x1, f1, z0, z1, z2, z3, z4, z5, z6⟩ := mode_facts BZ.out
              obtain ⟨y1, g1, d0, d1, d2, d3, d4, d5, d6⟩ := mode_facts OS9.out.1
              clear u8
              go_wp2
              have bF := setM_blk (a0 := .bool true) (a1 := .bool false) (a2 := .bool oi) (a3 := .bool oo) (a4 := .bool nl) (a5 := .int .i64 rd) (a6 := .slice p9 ps.length c9) BZ.out
              have uF := setM_upd (b := w.heap.size) (a0 := .bool true) (a1 := .bool false) (a2 := .bool oi) (a3 := .bool oo) (a4 := .bool nl) (a5 := .int .i64 rd) (a6 := .slice p9 ps.length c9) UZ.out (fun h => absurd h (Nat.lt_irrefl _))
              have us := setM_upd (b := w.heap.size) (a0 := .bool true) (a1 := .bool false) (a2 := .bool oi) (a3 := .bool oo) (a4 := .bool nl) (a5 := .int .i64 rd) (a6 := .slice p9 ps.length c9) (Upd.refl (fun b => b = w.heap.size) w8) (fun _ => rfl)
              unfold setM at bF uF us
              obtain ⟨_, _, h0, h1, h2, h3, h4, h5, h6⟩ := mode_facts bF
              refine bodyPost_ret (v := .tuple #[.agg #[.bool true, .bool false, .bool oi, .bool oo, .bool nl, .int .i64 rd, .slice p9 ps.length c9], .int .i64 0]) (by simp [results, Tryd.results12, go_sem, h0, h1, h2, h3, h4, h5, h6]) rfl ⟨.slice p9 ps.length c9, ?_, ?_, ?_⟩
              · rw [PM2.out]; rfl
              · rw [PM2.out]
                refine own_keep (own_monoT OS9.out.2.2.1 U2.out.size) us (fun b hb e => ?_)
                have := (own_lt OS9.out.2.2.1 hb).2.1
                have := B2.out.lt
                omega
              · exact uF
          | true =>
            by_cases hp0 : ps = []
            · have q5 : ((ps.length : Int) == 0) = true := by rw [hp0]; rfl
              obtain ⟨y1, g1, d0, d1, d2, d3, d4, d5, d6⟩ := mode_facts OS.out.1
              have hsz : (wo.setCell ⟨w2.heap.size, 6, none⟩ (.slice (some ⟨wo.heap.size, 0, none⟩) 1 1)).heap.size = wo.heap.size := by simp [World.setCell]
              have bN := Blk.made (wo.setCell ⟨w2.heap.size, 6, none⟩ (.slice (some ⟨wo.heap.size, 0, none⟩) 1 1)) [.string (ofL [])] 9
              rw [hsz] at bN
              have bM := (OS.out.1.set 6 (.slice (some ⟨wo.heap.size, 0, none⟩) 1 1)).alloc (.cells #[.string (ofL [])] 9)
              have hlt := OS.out.1.lt
              have OS7 : Hid (OptS w2 ((wo.setCell ⟨w2.heap.size, 6, none⟩ (.slice (some ⟨wo.heap.size, 0, none⟩) 1 1)).alloc (.cells #[.string { data := #[] }] 9)) w2.heap.size ⟨true, true, oi, oo, nl, rd, [[]]⟩ (.slice (some ⟨wo.heap.size, 0, none⟩) 1 1)) := Lib.hid ⟨bM, OS.out.2.1,
                own_of (cs := []) (Nat.le_of_lt hlt) bN rfl rfl (by unfold maxLen; omega),
                (OS.out.2.2.2.set (fun h => absurd h (Nat.lt_irrefl _))).alloc _⟩
              have OS70 := OS
              clear bN bM hsz
              -- OS7 : the mode (bc as BC, texts PS in the slice P N C), at W, ahead of its sorting
              have SO := Lib.hid (sortT_any w2.heap.size (.slice (some ⟨wo.heap.size, 0, none⟩) 1 1) [[]] ((wo.setCell ⟨w2.heap.size, 6, none⟩ (.slice (some ⟨wo.heap.size, 0, none⟩) 1 1)).alloc (.cells #[.string { data := #[] }] 9)) OS7.out.2.2.1 (by have := (show ([[]] : List Txt).length ≤ 10000 by simp); omega))
              have OB := Lib.hid (fun k hk => (own_lt OS7.out.2.2.1 (k := k) hk).2.1)
              go_wp2_with fail
              refine SO.out.mono ?_
              rintro e w7 ⟨rfl, t7, u7⟩
              have OS8 : Hid (OptS w2 w7 w2.heap.size ⟨true, true, oi, oo, nl, rd, ordT [[]]⟩ (.slice (some ⟨wo.heap.size, 0, none⟩) 1 1)) := Lib.hid ⟨u7.blk OS7.out.1 (fun e => OS7.out.ne e rfl), OS7.out.2.1, t7, OS7.out.2.2.2.trans u7 (fun i hi e => by have := OB.out i e; omega)⟩
              have RI := right_any ⟨true, true, oi, oo, nl, rd, ordT [[]]⟩ (.slice (some ⟨wo.heap.size, 0, none⟩) 1 1) w7 (txts_row t7) (by show (ordT [[]]).length ≤ _; rw [(ordT_perm _).length_eq]; have := (show ([[]] : List Txt).length ≤ 10000 by simp); omega) (fun y hy => (by rw [ordT_one] at hy; simp at hy; subst hy; unfold maxLen; simp))
              have FE0 : (⟨true, true, oi, oo, nl, rd, ordT [[]]⟩ : MD) = finM ⟨true, true, oi, oo, nl, rd, ps⟩ := (by simp [finM, hp0, ordT_one])
              rw [FE0] at RI
              have FE := Lib.hid FE0.symm
              clear FE0
              obtain ⟨y1, g1, d0, d1, d2, d3, d4, d5, d6⟩ := mode_facts OS8.out.1
              clear t7 u7 SO OB
              cases hr : rightM (finM ⟨true, true, oi, oo, nl, rd, ps⟩) with
              | false =>
                rw [hr] at RI PM
                have RI : Hid (Calls Tryd.prog 18 #[.agg #[.bool true, .bool true, .bool oi, .bool oo, .bool nl, .int .i64 rd, .slice (some ⟨wo.heap.size, 0, none⟩) 1 1]] w7 fun e w' => e = .returned (.bool false) ∧ Upd (fun _ => False) w7 w') := by rw [FE.out] at RI; exact Lib.hid RI
                have PM2 : Hid (parseM (t :: r) = (offM, 132)) := PM
                clear hr PM
                have PM := PM2
                go_wp2_with fail
                refine RI.out.mono ?_
                rintro e w8 ⟨rfl, u8⟩
                have OS9 := OS8.out.keep u8
                have BZ := Lib.hid (OS9.2.2.2.blk B2.out id)
                have UZ := Lib.hid (U2.out.trans OS9.2.2.2 (fun _ _ h => h))
                obtain ⟨x1, f1, z0, z1, z2, z3, z4, z5, z6⟩ := mode_facts BZ.out
                clear u8 OS9
                go_wp2
                have bF := setM_blk (a0 := .bool false) (a1 := .bool false) (a2 := .bool false) (a3 := .bool false) (a4 := .bool false) (a5 := .int .i64 0) (a6 := .slice none 0 0) BZ.out
                have uF := setM_upd (b := w.heap.size) (a0 := .bool false) (a1 := .bool false) (a2 := .bool false) (a3 := .bool false) (a4 := .bool false) (a5 := .int .i64 0) (a6 := .slice none 0 0) UZ.out (fun h => absurd h (Nat.lt_irrefl _))
                unfold setM at bF uF
                obtain ⟨_, _, h0, h1, h2, h3, h4, h5, h6⟩ := mode_facts bF
                refine bodyPost_ret (v := .tuple #[.agg #[.bool false, .bool false, .bool false, .bool false, .bool false, .int .i64 0, .slice none 0 0], .int .i64 132]) (by simp [results, Tryd.results12, go_sem, h0, h1, h2, h3, h4, h5, h6]) rfl ⟨.slice none 0 0, ?_, ?_, ?_⟩
                · rw [PM.out]; rfl
                · rw [PM.out]; exact World.ownsRow_nil _ _ _ _
                · exact uF
              | true =>
                rw [hr] at RI PM
                have RI : Hid (Calls Tryd.prog 18 #[.agg #[.bool true, .bool true, .bool oi, .bool oo, .bool nl, .int .i64 rd, .slice (some ⟨wo.heap.size, 0, none⟩) 1 1]] w7 fun e w' => e = .returned (.bool true) ∧ Upd (fun _ => False) w7 w') := by rw [FE.out] at RI; exact Lib.hid RI
                have PM2 : Hid (parseM (t :: r) = (⟨true, true, oi, oo, nl, rd, ordT [[]]⟩, 0)) := by
                  have h := PM.out
                  rw [if_pos rfl, FE.out] at h
                  exact Lib.hid h
                clear hr PM
                go_wp2_with fail
                refine RI.out.mono ?_
                rintro e w8 ⟨rfl, u8⟩
                have OS9 := Lib.hid (OS8.out.keep u8)
                have BZ := Lib.hid (OS9.out.2.2.2.blk B2.out id)
                have UZ := Lib.hid (U2.out.trans OS9.out.2.2.2 (fun _ _ h => h))
                obtain ⟨x1, f1, z0, z1, z2, z3, z4, z5, z6⟩ := mode_facts BZ.out
                obtain ⟨y1, g1, d0, d1, d2, d3, d4, d5, d6⟩ := mode_facts OS9.out.1
                clear u8
                go_wp2
                have bF := setM_blk (a0 := .bool true) (a1 := .bool true) (a2 := .bool oi) (a3 := .bool oo) (a4 := .bool nl) (a5 := .int .i64 rd) (a6 := .slice (some ⟨wo.heap.size, 0, none⟩) 1 1) BZ.out
                have uF := setM_upd (b := w.heap.size) (a0 := .bool true) (a1 := .bool true) (a2 := .bool oi) (a3 := .bool oo) (a4 := .bool nl) (a5 := .int .i64 rd) (a6 := .slice (some ⟨wo.heap.size, 0, none⟩) 1 1) UZ.out (fun h => absurd h (Nat.lt_irrefl _))
                have us := setM_upd (b := w.heap.size) (a0 := .bool true) (a1 := .bool true) (a2 := .bool oi) (a3 := .bool oo) (a4 := .bool nl) (a5 := .int .i64 rd) (a6 := .slice (some ⟨wo.heap.size, 0, none⟩) 1 1) (Upd.refl (fun b => b = w.heap.size) w8) (fun _ => rfl)
                unfold setM at bF uF us
                obtain ⟨_, _, h0, h1, h2, h3, h4, h5, h6⟩ := mode_facts bF
                refine bodyPost_ret (v := .tuple #[.agg #[.bool true, .bool true, .bool oi, .bool oo, .bool nl, .int .i64 rd, .slice (some ⟨wo.heap.size, 0, none⟩) 1 1], .int .i64 0]) (by simp [results, Tryd.results12, go_sem, h0, h1, h2, h3, h4, h5, h6]) rfl ⟨.slice (some ⟨wo.heap.size, 0, none⟩) 1 1, ?_, ?_, ?_⟩
                · rw [PM2.out]; rfl
                · rw [PM2.out]
                  refine own_keep (own_monoT OS9.out.2.2.1 U2.out.size) us (fun b hb e => ?_)
                  have := (own_lt OS9.out.2.2.1 hb).2.1
                  have := B2.out.lt
                  omega
                · exact uF
            · have OS7 := OS
              have q5 : ((ps.length : Int) == 0) = false := by rw [beq_eq_false_iff_ne]; have := List.length_pos_iff.2 hp0; omega
              obtain ⟨y1, g1, d0, d1, d2, d3, d4, d5, d6⟩ := mode_facts OS.out.1
              -- OS7 : the mode (bc as BC, texts PS in the slice P N C), at W, ahead of its sorting
              have SO := Lib.hid (sortT_any w2.heap.size (.slice p9 ps.length c9) ps (wo) OS7.out.2.2.1 (by have := hps; omega))
              have OB := Lib.hid (fun k hk => (own_lt OS7.out.2.2.1 (k := k) hk).2.1)
              go_wp2_with fail
              refine SO.out.mono ?_
              rintro e w7 ⟨rfl, t7, u7⟩
              have OS8 : Hid (OptS w2 w7 w2.heap.size ⟨true, true, oi, oo, nl, rd, ordT ps⟩ (.slice p9 ps.length c9)) := Lib.hid ⟨u7.blk OS7.out.1 (fun e => OS7.out.ne e rfl), OS7.out.2.1, t7, OS7.out.2.2.2.trans u7 (fun i hi e => by have := OB.out i e; omega)⟩
              have RI := right_any ⟨true, true, oi, oo, nl, rd, ordT ps⟩ (.slice p9 ps.length c9) w7 (txts_row t7) (by show (ordT ps).length ≤ _; rw [(ordT_perm _).length_eq]; have := hps; omega) (fun y hy => (HPS.out y ((ordT_perm ps).mem_iff.1 hy)))
              have FE0 : (⟨true, true, oi, oo, nl, rd, ordT ps⟩ : MD) = finM ⟨true, true, oi, oo, nl, rd, ps⟩ := (by simp [finM, hp0])
              rw [FE0] at RI
              have FE := Lib.hid FE0.symm
              clear FE0
              obtain ⟨y1, g1, d0, d1, d2, d3, d4, d5, d6⟩ := mode_facts OS8.out.1
              clear t7 u7 SO OB
              cases hr : rightM (finM ⟨true, true, oi, oo, nl, rd, ps⟩) with
              | false =>
                rw [hr] at RI PM
                have RI : Hid (Calls Tryd.prog 18 #[.agg #[.bool true, .bool true, .bool oi, .bool oo, .bool nl, .int .i64 rd, .slice p9 ps.length c9]] w7 fun e w' => e = .returned (.bool false) ∧ Upd (fun _ => False) w7 w') := by rw [FE.out] at RI; exact Lib.hid RI
                have PM2 : Hid (parseM (t :: r) = (offM, 132)) := PM
                clear hr PM
                have PM := PM2
                go_wp2_with fail
                refine RI.out.mono ?_
                rintro e w8 ⟨rfl, u8⟩
                have OS9 := OS8.out.keep u8
                have BZ := Lib.hid (OS9.2.2.2.blk B2.out id)
                have UZ := Lib.hid (U2.out.trans OS9.2.2.2 (fun _ _ h => h))
                obtain ⟨x1, f1, z0, z1, z2, z3, z4, z5, z6⟩ := mode_facts BZ.out
                clear u8 OS9
                go_wp2
                have bF := setM_blk (a0 := .bool false) (a1 := .bool false) (a2 := .bool false) (a3 := .bool false) (a4 := .bool false) (a5 := .int .i64 0) (a6 := .slice none 0 0) BZ.out
                have uF := setM_upd (b := w.heap.size) (a0 := .bool false) (a1 := .bool false) (a2 := .bool false) (a3 := .bool false) (a4 := .bool false) (a5 := .int .i64 0) (a6 := .slice none 0 0) UZ.out (fun h => absurd h (Nat.lt_irrefl _))
                unfold setM at bF uF
                obtain ⟨_, _, h0, h1, h2, h3, h4, h5, h6⟩ := mode_facts bF
                refine bodyPost_ret (v := .tuple #[.agg #[.bool false, .bool false, .bool false, .bool false, .bool false, .int .i64 0, .slice none 0 0], .int .i64 132]) (by simp [results, Tryd.results12, go_sem, h0, h1, h2, h3, h4, h5, h6]) rfl ⟨.slice none 0 0, ?_, ?_, ?_⟩
                · rw [PM.out]; rfl
                · rw [PM.out]; exact World.ownsRow_nil _ _ _ _
                · exact uF
              | true =>
                rw [hr] at RI PM
                have RI : Hid (Calls Tryd.prog 18 #[.agg #[.bool true, .bool true, .bool oi, .bool oo, .bool nl, .int .i64 rd, .slice p9 ps.length c9]] w7 fun e w' => e = .returned (.bool true) ∧ Upd (fun _ => False) w7 w') := by rw [FE.out] at RI; exact Lib.hid RI
                have PM2 : Hid (parseM (t :: r) = (⟨true, true, oi, oo, nl, rd, ordT ps⟩, 0)) := by
                  have h := PM.out
                  rw [if_pos rfl, FE.out] at h
                  exact Lib.hid h
                clear hr PM
                go_wp2_with fail
                refine RI.out.mono ?_
                rintro e w8 ⟨rfl, u8⟩
                have OS9 := Lib.hid (OS8.out.keep u8)
                have BZ := Lib.hid (OS9.out.2.2.2.blk B2.out id)
                have UZ := Lib.hid (U2.out.trans OS9.out.2.2.2 (fun _ _ h => h))
                obtain ⟨x1, f1, z0, z1, z2, z3, z4, z5, z6⟩ := mode_facts BZ.out
                obtain ⟨y1, g1, d0, d1, d2, d3, d4, d5, d6⟩ := mode_facts OS9.out.1
                clear u8
                go_wp2
                have bF := setM_blk (a0 := .bool true) (a1 := .bool true) (a2 := .bool oi) (a3 := .bool oo) (a4 := .bool nl) (a5 := .int .i64 rd) (a6 := .slice p9 ps.length c9) BZ.out
                have uF := setM_upd (b := w.heap.size) (a0 := .bool true) (a1 := .bool true) (a2 := .bool oi) (a3 := .bool oo) (a4 := .bool nl) (a5 := .int .i64 rd) (a6 := .slice p9 ps.length c9) UZ.out (fun h => absurd h (Nat.lt_irrefl _))
                have us := setM_upd (b := w.heap.size) (a0 := .bool true) (a1 := .bool true) (a2 := .bool oi) (a3 := .bool oo) (a4 := .bool nl) (a5 := .int .i64 rd) (a6 := .slice p9 ps.length c9) (Upd.refl (fun b => b = w.heap.size) w8) (fun _ => rfl)
                unfold setM at bF uF us
                obtain ⟨_, _, h0, h1, h2, h3, h4, h5, h6⟩ := mode_facts bF
                refine bodyPost_ret (v := .tuple #[.agg #[.bool true, .bool true, .bool oi, .bool oo, .bool nl, .int .i64 rd, .slice p9 ps.length c9], .int .i64 0]) (by simp [results, Tryd.results12, go_sem, h0, h1, h2, h3, h4, h5, h6]) rfl ⟨.slice p9 ps.length c9, ?_, ?_, ?_⟩
                · rw [PM2.out]; rfl
                · rw [PM2.out]
                  refine own_keep (own_monoT OS9.out.2.2.1 U2.out.size) us (fun b hb e => ?_)
                  have := (own_lt OS9.out.2.2.1 hb).2.1
                  have := B2.out.lt
                  omega
                · exact uF
    | false =>
      rw [hON] at b1
      go_enter Tryd.func12, Tryd.ntmps12
      go_wp2_with fail
      refine UP1.out.mono ?_
      rintro e w2 ⟨rfl, u2⟩
      rw [← hw1] at u2
      have U2 := Lib.hid (U1.out.trans u2 (fun _ _ h => h))
      have B2 := Lib.hid (u2.blk B1.out id)
      have hc2 : w2.cell? ⟨wb, off, none⟩ = some (.string (ofL t)) := (u2.cell (p := ⟨wb, off, none⟩) hwb id).trans (by rw [hw1]; exact hc0)
      have UA : Hid (Upd (fun _ => False) w (w2.alloc (.cells (mdc { offM with on := false } (.slice none 0 0)).toArray 24))) := U2.out.alloc _
      have UP2 : Hid (Calls Tryd.prog 28 #[.string (ofL t)] (w2.alloc (.cells zeroMC.toArray 24)) fun e w' => e = .returned (.string U) ∧ Upd (fun _ => False) (w2.alloc (.cells zeroMC.toArray 24)) w') := Lib.hid (UP.out _ UA.out)
      have OS : Hid (OptS w2 (w2.alloc (.cells zeroMC.toArray 24)) w2.heap.size { offM with on := false } (.slice none 0 0)) := Lib.hid ⟨Blk.made w2 _ _, Nat.le_refl _, World.ownsRow_nil _ _ _ _, (Upd.refl _ _).alloc _⟩
      have hwb2 := Nat.lt_of_lt_of_le hwb u2.size
      clear u2
      go_wp2_with fail
      refine UP2.out.mono ?_
      rintro e w4 ⟨rfl, u4⟩
      have OS := Lib.hid (OS.out.keep u4)
      clear u4
      obtain ⟨y1, g1, d0, d1, d2, d3, d4, d5, d6⟩ := mode_facts OS.out.1
      cases hOFF : isW t kOFF with
      | false =>
        rw [hOFF] at b2
        have BZ := Lib.hid (OS.out.2.2.2.blk B2.out id)
        have UZ := Lib.hid (U2.out.trans OS.out.2.2.2 (fun _ _ h => h))
        obtain ⟨x1, f1, z0, z1, z2, z3, z4, z5, z6⟩ := mode_facts BZ.out
        have PM := Lib.hid (parse_no (r := r) hON hOFF)
        go_wp2
        have bF := setM_blk (a0 := .bool false) (a1 := .bool false) (a2 := .bool false) (a3 := .bool false) (a4 := .bool false) (a5 := .int .i64 0) (a6 := .slice none 0 0) BZ.out
        have uF := setM_upd (b := w.heap.size) (a0 := .bool false) (a1 := .bool false) (a2 := .bool false) (a3 := .bool false) (a4 := .bool false) (a5 := .int .i64 0) (a6 := .slice none 0 0) UZ.out (fun h => absurd h (Nat.lt_irrefl _))
        unfold setM at bF uF
        obtain ⟨_, _, h0, h1, h2, h3, h4, h5, h6⟩ := mode_facts bF
        refine bodyPost_ret (v := .tuple #[.agg #[.bool false, .bool false, .bool false, .bool false, .bool false, .int .i64 0, .slice none 0 0], .int .i64 131]) (by simp [results, Tryd.results12, go_sem, h0, h1, h2, h3, h4, h5, h6]) rfl ⟨.slice none 0 0, ?_, ?_, ?_⟩
        · rw [PM.out]; rfl
        · rw [PM.out]; exact World.ownsRow_nil _ _ _ _
        · exact uF
      | true =>
        rw [hOFF] at b2
        go_wp2
        go_loopw [3, 5] (fun v3 v5 wx => ∃ (a n' : Nat) (p' : Option Addr) (c' : Nat) (m : MD) (v : Value), v3 = .int .i64 0 ∧ v5 = .slice p' n' c' ∧ n' ≤ 1000 ∧ c' ≤ 9223372036854775807 ∧ m.on = false ∧ m.ps.length ≤ a ∧ a + n' ≤ 1001 ∧ Hid (n' = ((t :: r).drop a).length ∧ a ≤ (t :: r).length ∧ 1 ≤ a) ∧ Hid (RwT w p' c' ((t :: r).drop a)) ∧ Hid (optsM { offM with on := false } r = optsM m ((t :: r).drop a)) ∧ Hid (∀ x ∈ m.ps, x ∈ t :: r) ∧ Hid (OptS w2 wx w2.heap.size m v)) (fun _ v5 _ => slLen v5)
        case atStart => exact ⟨1, n2, p2, c2, { offM with on := false }, .slice none 0 0, rfl, rfl, by have := HN2.out; have := HNN.out; simp at *; omega, by omega, rfl, by simp [offM], by have := HN2.out; have := HNN.out; simp at *; omega, Lib.hid ⟨HN2.out, by simp, by omega⟩, HR2, Lib.hid rfl, Lib.hid (by simp [offM]), OS⟩
        case round =>
          clear OS
          obtain ⟨a, n', p', c', m, v, rfl, rfl, hn', hc', hmo, hpl, han, HN, HR, OM, MP, OS⟩ := hrel
          obtain ⟨wo, hwo⟩ : ∃ wo, wo = wr := ⟨_, rfl⟩
          subst hwo
          have BZ := Lib.hid (OS.out.2.2.2.blk B2.out id)
          have UZ := Lib.hid (U2.out.trans OS.out.2.2.2 (fun _ _ h => h))
          obtain ⟨x1, f1, z0, z1, z2, z3, z4, z5, z6⟩ := mode_facts BZ.out
          by_cases hn0 : 0 < n'
          · have q1 : (0 : Int) < (n' : Int) := by omega
            obtain ⟨x, xs, hx⟩ : ∃ x xs, (t :: r).drop a = x :: xs := by
              cases h : (t :: r).drop a with
              | nil => have := HN.out.1; rw [h] at this; simp at this; omega
              | cons x xs => exact ⟨x, xs, rfl⟩
            have hxn : n' = (x :: xs).length := by rw [← hx]; exact HN.out.1
            have HRW : RwT w p' c' (x :: xs) := by rw [← hx]; exact HR.out
            have hsub : ∀ y ∈ x :: xs, y ∈ t :: r := fun y hy => by rw [← hx] at hy; exact List.mem_of_mem_drop hy
            have OO := option_any OS.out _ x xs ((HRW.keep UZ.out).1) (HS.out.keep UZ.out) (fun b hb => Nat.lt_of_lt_of_le (HRW.blk (by simp) hb) U2.out.size) (fun y hy => HL.out y (hsub y hy)) (by omega)
            rw [← hxn] at OO
            have OST := Lib.hid ((OM.out.trans (by rw [hx])).trans (optsM_step m x xs))
            cases hos : optStep m x xs with
            | none =>
              rw [hos] at OO OST
              have OO : Hid (Calls Tryd.prog 29 #[.pointer (some ⟨w2.heap.size, 0, none⟩), .slice p' n' c'] wo fun e w' => e = .returned (.int .i64 0) ∧ OptS w2 w' w2.heap.size m v) := Lib.hid OO
              have PM : Hid (parseM (t :: r) = (offM, 131)) := Lib.hid (parse_none hON (Or.inr hOFF) OST.out)
              clear hos hxn
              go_wp2_with fail
              refine OO.out.mono ?_
              rintro e w5 ⟨rfl, os5⟩
              have BZ := Lib.hid (os5.2.2.2.blk B2.out id)
              have UZ := Lib.hid (U2.out.trans os5.2.2.2 (fun _ _ h => h))
              obtain ⟨x1, f1, z0, z1, z2, z3, z4, z5, z6⟩ := mode_facts BZ.out
              clear os5
              go_wp2
              have bF := setM_blk (a0 := .bool false) (a1 := .bool false) (a2 := .bool false) (a3 := .bool false) (a4 := .bool false) (a5 := .int .i64 0) (a6 := .slice none 0 0) BZ.out
              have uF := setM_upd (b := w.heap.size) (a0 := .bool false) (a1 := .bool false) (a2 := .bool false) (a3 := .bool false) (a4 := .bool false) (a5 := .int .i64 0) (a6 := .slice none 0 0) UZ.out (fun h => absurd h (Nat.lt_irrefl _))
              unfold setM at bF uF
              obtain ⟨_, _, h0, h1, h2, h3, h4, h5, h6⟩ := mode_facts bF
              refine bodyPost_ret (v := .tuple #[.agg #[.bool false, .bool false, .bool false, .bool false, .bool false, .int .i64 0, .slice none 0 0], .int .i64 131]) (by simp [results, Tryd.results12, go_sem, h0, h1, h2, h3, h4, h5, h6]) rfl ⟨.slice none 0 0, ?_, ?_, ?_⟩
              · rw [PM.out]; rfl
              · rw [PM.out]; exact World.ownsRow_nil _ _ _ _
              · exact uF
            | some mk =>
              obtain ⟨m', k⟩ := mk
              obtain ⟨k1, k2, k3, k4, k5⟩ := optStep_bounds hos
              rw [hos] at OO OST
              have OO : Hid (Calls Tryd.prog 29 #[.pointer (some ⟨w2.heap.size, 0, none⟩), .slice p' n' c'] wo fun e w' => e = .returned (.int .i64 (k : Int)) ∧ ∃ v', OptS w2 w' w2.heap.size m' v') := Lib.hid OO
              obtain ⟨p3, c3, hs3, hr3⟩ := HRW.drop k k2
              obtain ⟨n3, hn3⟩ : ∃ n3, n3 = ((x :: xs).drop k).length := ⟨_, rfl⟩
              rw [← hn3, ← hxn] at hs3
              have hk0 : ((k : Int) == 0) = false := by rw [beq_eq_false_iff_ne]; omega
              have hl3 : n3 = n' - k := by rw [hn3, List.length_drop, hxn]
              have hl4 : n3 ≤ 1000 ∧ a + k + n3 ≤ 1001 ∧ n3 < n' := by rw [← hxn] at k2; omega
              obtain ⟨hl4, hl5, hl6⟩ := hl4
              clear hl3
              have hd3 : (x :: xs).drop k = (t :: r).drop (a + k) := by rw [← hx, List.drop_drop]
              have hc3 := hr3.2
              unfold maxLen at hc3
              have HR3 : Hid (RwT w p3 c3 ((t :: r).drop (a + k))) := Lib.hid (by rw [← hd3]; exact hr3)
              have OM3 : Hid (optsM { offM with on := false } r = optsM m' ((t :: r).drop (a + k))) := Lib.hid (by
                have h3 := OST.out
                rw [← hd3, show (x :: xs).drop k = xs.drop (k - 1) by obtain ⟨q, rfl⟩ : ∃ q, k = q + 1 := ⟨k - 1, by omega⟩; rfl]
                exact h3)
              have HN3 : Hid (n3 = ((t :: r).drop (a + k)).length ∧ a + k ≤ (t :: r).length ∧ 1 ≤ a + k) := Lib.hid ⟨by rw [hn3, hd3], by
                have h1 := HN.out.1; rw [List.length_drop] at h1; have h2 := HN.out.2.1; rw [← hxn] at k2; omega, by omega⟩
              have MP3 : Hid (∀ y ∈ m'.ps, y ∈ t :: r) := Lib.hid (fun y hy => (k5 y hy).elim (MP.out y) (fun g => hsub y (List.mem_cons_of_mem _ g)))
              rw [← hxn] at k2
              have hc4 : c3 ≤ 9223372036854775807 := by omega
              clear hos hxn hd3 hr3 hn3 hc3 k5
              go_wp2_with fail
              refine OO.out.mono ?_
              rintro e w5 ⟨rfl, v5, os5⟩
              have OS5 := Lib.hid os5
              clear os5
              go_wp2
              go_roundw
              case rel => exact ⟨a + k, n3, p3, c3, m', v5, rfl, rfl, hl4, hc4, by rw [k4]; exact hmo, by omega, hl5, HN3, HR3, OM3, MP3, OS5⟩
              case measure => simp only [slLen]; omega
          · have q1 : ¬ (0 : Int) < (n' : Int) := by omega
            have hnil : (t :: r).drop a = [] := List.length_eq_zero_iff.1 (by rw [← HN.out.1]; omega)
            have OMS : Hid (optsM { offM with on := false } r = some m) := Lib.hid (by rw [OM.out, hnil, optsM_nil])
            have PM := Lib.hid (parse_off hON hOFF OMS.out)
            obtain ⟨y1, g1, d0, d1, d2, d3, d4, d5, d6⟩ := mode_facts OS.out.1
            rw [hmo] at d0
            go_wp2
            have bF := setM_blk (a0 := .bool false) (a1 := .bool false) (a2 := .bool false) (a3 := .bool false) (a4 := .bool false) (a5 := .int .i64 0) (a6 := .slice none 0 0) BZ.out
            have uF := setM_upd (b := w.heap.size) (a0 := .bool false) (a1 := .bool false) (a2 := .bool false) (a3 := .bool false) (a4 := .bool false) (a5 := .int .i64 0) (a6 := .slice none 0 0) UZ.out (fun h => absurd h (Nat.lt_irrefl _))
            unfold setM at bF uF
            obtain ⟨_, _, h0, h1, h2, h3, h4, h5, h6⟩ := mode_facts bF
            refine bodyPost_ret (v := .tuple #[.agg #[.bool false, .bool false, .bool false, .bool false, .bool false, .int .i64 0, .slice none 0 0], .int .i64 0]) (by simp [results, Tryd.results12, go_sem, h0, h1, h2, h3, h4, h5, h6]) rfl ⟨.slice none 0 0, ?_, ?_, ?_⟩
            · rw [PM.out]; rfl
            · rw [PM.out]; exact World.ownsRow_nil _ _ _ _
            · exact uF
end Go.Proofs.YtcpfkkbegnhofaaDoor
