/- Modes: from one to another. -/
import Derived.Test.YtcpfkkbegnhofaaDoorK06
import Derived.Lib.RowBridge
import Derived.Test.YtcpfkkbegnhofaaDoorK01
import Derived.Test.YtcpfkkbegnhofaaDoorChecked
import Derived.Lib.LaidTab
import Derived.Lib.ItoaNum
import Derived.Test.YtcpfkkbegnhofaaDoorShelf
import Derived.Test.YtcpfkkbegnhofaaDoorK03
set_option linter.unusedVariables false
set_option linter.unusedSimpArgs false
namespace Go.Proofs.YtcpfkkbegnhofaaDoor
open Go.RowKit

abbrev zeroMC : List Value := [.bool false, .bool false, .bool false, .bool false, .bool false, .int .i64 0, .slice none 0 0]
/-- The seven stores of a mode. -/
def setM (w : World) (b : Nat) (a0 a1 a2 a3 a4 a5 a6 : Value) : World := ((((((w.setCell ⟨b, 0, none⟩ a0).setCell ⟨b, 1, none⟩ a1).setCell ⟨b, 2, none⟩ a2).setCell ⟨b, 3, none⟩ a3).setCell ⟨b, 4, none⟩ a4).setCell ⟨b, 5, none⟩ a5).setCell ⟨b, 6, none⟩ a6
theorem setM_blk {w : World} {b : Nat} {c0 c1 c2 c3 c4 c5 c6 a0 a1 a2 a3 a4 a5 a6 : Value} {T : TypeId} (h : Blk w b [c0, c1, c2, c3, c4, c5, c6] T) : Blk (setM w b a0 a1 a2 a3 a4 a5 a6) b [a0, a1, a2, a3, a4, a5, a6] T :=
  ((((((h.set 0 a0).set 1 a1).set 2 a2).set 3 a3).set 4 a4).set 5 a5).set 6 a6
theorem setM_upd {F : Nat → Prop} {a w : World} {b : Nat} {a0 a1 a2 a3 a4 a5 a6 : Value} (h : Upd F a w) (hp : b < a.heap.size → F b) : Upd F a (setM w b a0 a1 a2 a3 a4 a5 a6) :=
  ((((((h.set hp).set hp).set hp).set hp).set hp).set hp).set hp
/-- What a block of a mode gives the walk. -/
theorem mode_facts {w : World} {b : Nat} {c0 c1 c2 c3 c4 c5 c6 : Value} {T : TypeId} (h : Blk w b [c0, c1, c2, c3, c4, c5, c6] T) :
    b < w.heap.size ∧ (∀ i, w.frozen? ⟨b, i, none⟩ = false) ∧ w.cell? ⟨b, 0, none⟩ = some c0 ∧ w.cell? ⟨b, 1, none⟩ = some c1 ∧ w.cell? ⟨b, 2, none⟩ = some c2 ∧ w.cell? ⟨b, 3, none⟩ = some c3 ∧ w.cell? ⟨b, 4, none⟩ = some c4 ∧ w.cell? ⟨b, 5, none⟩ = some c5 ∧ w.cell? ⟨b, 6, none⟩ = some c6 :=
  ⟨h.lt, fun i => h.free i, h.cellAt rfl, h.cellAt rfl, h.cellAt rfl, h.cellAt rfl, h.cellAt rfl, h.cellAt rfl, h.cellAt rfl⟩
theorem ty_ne (h : (24 : TypeId) = 9) : False := absurd h (by decide)
abbrev TM : TypeId := 24
/-- What the third case keeps: the first mode, the answer, the joined one. -/
def FB (W : World) (n : Nat) (c0 c3 : List Value) : Prop := Blk W n c0 TM ∧ Blk W (n + 1 + 1) zeroMC TM ∧ Blk W (n + 1 + 1 + 1) c3 TM
theorem FB.keep {F : Nat → Prop} {W W' : World} {n : Nat} {c0 c3 : List Value} (h : FB W n c0 c3) (u : Upd F W W') (hF : ∀ b, b ≤ n + 3 → ¬ F b) : FB W' n c0 c3 :=
  ⟨u.blk h.1 (hF _ (by omega)), u.blk h.2.1 (hF _ (by omega)), u.blk h.2.2 (hF _ (by omega))⟩
theorem FB.set {W : World} {n : Nat} {c0 c3 : List Value} (h : FB W n c0 c3) (v : Value) : FB (W.setCell ⟨n + 1 + 1 + 1, 6, none⟩ v) n c0 (c3.set 6 v) := by
  have u : Upd (fun b => b = n + 1 + 1 + 1) W (W.setCell ⟨n + 1 + 1 + 1, 6, none⟩ v) := (Upd.refl _ W).set (fun _ => rfl)
  exact ⟨u.blk h.1 (by omega), u.blk h.2.1 (by omega), h.2.2.set 6 v⟩
def fiveW (w : World) (c0 c1 c3 : List Value) (v v' : Value) : World := ((((w.alloc (.cells c0.toArray TM)).alloc (.cells c1.toArray TM)).alloc (.cells zeroMC.toArray TM)).alloc (.cells c3.toArray TM)).alloc (.cells #[v, v'] 22)
theorem fiveW_fb (w : World) (c0 c1 c3 : List Value) (v v' : Value) : FB (fiveW w c0 c1 c3 v v') w.heap.size c0 c3 ∧ Upd (fun _ => False) w (fiveW w c0 c1 c3 v v') ∧ (fiveW w c0 c1 c3 v v').heap.size = w.heap.size + 5 ∧ Blk (fiveW w c0 c1 c3 v v') (w.heap.size + 1 + 1 + 1 + 1) [v, v'] 22 := by
  have k0 := Blk.made w c0 TM
  have k2 := Blk.made ((w.alloc (.cells c0.toArray TM)).alloc (.cells c1.toArray TM)) zeroMC TM
  have k3 := Blk.made (((w.alloc (.cells c0.toArray TM)).alloc (.cells c1.toArray TM)).alloc (.cells zeroMC.toArray TM)) c3 TM
  have k4 := Blk.made ((((w.alloc (.cells c0.toArray TM)).alloc (.cells c1.toArray TM)).alloc (.cells zeroMC.toArray TM)).alloc (.cells c3.toArray TM)) [v, v'] 22
  simp only [World.size_alloc] at k2 k3 k4
  unfold fiveW
  refine ⟨⟨(((k0.alloc _).alloc _).alloc _).alloc _, (k2.alloc _).alloc _, k3.alloc _⟩, ((((((Upd.refl _ w).alloc _).alloc _).alloc _).alloc _).alloc _), by simp only [World.size_alloc], k4⟩
theorem joinM_upd (W : World) (n : Nat) (v : Value) : Upd (fun b => b = n + 1 + 1 + 1) W (W.setCell ⟨n + 1 + 1 + 1, 6, none⟩ v) := (Upd.refl _ W).set (fun _ => rfl)
/-- The two rows, one behind the other. -/
theorem join_call (w : World) (c0 c1 c3 : List Value) (p p' : Option Addr) (c c' : Nat) (ps ps' : List Txt) (h : RowOf txtc 1 w (.slice p ps.length c) ps) (h' : RowOf txtc 1 w (.slice p' ps'.length c') ps') (hl : ps.length ≤ 100000) (hl' : ps'.length ≤ 100000) :
    Calls Tryd.prog 37 #[.slice (some ⟨w.heap.size + 1 + 1 + 1 + 1, 0, none⟩) 2 2] (fiveW w c0 c1 c3 (.slice p ps.length c) (.slice p' ps'.length c')) fun e w' => ∃ v', e = .returned v' ∧ TxtsAt w' (w.heap.size + 5) v' (ps ++ ps') ∧ Upd (fun _ => False) (fiveW w c0 c1 c3 (.slice p ps.length c) (.slice p' ps'.length c')) w' := by
  obtain ⟨_, u, hz, hb⟩ := fiveW_fb w c0 c1 c3 (.slice p ps.length c) (.slice p' ps'.length c')
  refine (concatT_any (w.heap.size + 1 + 1 + 1 + 1) 2 [(.slice p ps.length c, ps), (.slice p' ps'.length c', ps')] (fiveW w c0 c1 c3 (.slice p ps.length c) (.slice p' ps'.length c')) hb.lt ?_ ?_ (by simp) ?_).mono ?_
  · intro j r hj
    match j with
    | 0 => simp at hj; subst hj; exact hb.cellAt rfl
    | 1 => simp at hj; subst hj; exact hb.cellAt rfl
    | j + 2 => simp at hj
  · intro r hr
    simp at hr
    rcases hr with rfl | rfl
    · exact h.keep u (fun _ _ _ h => h)
    · exact h'.keep u (fun _ _ _ h => h)
  · simp [sumR]; omega
  · rintro e w' ⟨v', rfl, t, u'⟩
    rw [hz] at t
    simp at t
    exact ⟨v', rfl, t, u'⟩
set_option maxHeartbeats 16000000 in
set_option maxRecDepth 100000 in
theorem switch_any (m m' : MD) (v v' : Value) (w : World) (h : RowOf txtc 1 w v m.ps) (h' : RowOf txtc 1 w v' m'.ps) (hl : m.ps.length ≤ 100000) (hl' : m'.ps.length ≤ 100000) (hs : ∀ t ∈ m.ps, t.length ≤ maxLen) (hs' : ∀ t ∈ m'.ps, t.length ≤ maxLen) :
    Calls Tryd.prog 22 #[mdV m v, mdV m' v'] w fun e w' => ∃ v2, e = .returned (.tuple #[mdV (switchM m m').1 v2, .int .i64 (switchM m m').2]) ∧ TxtsAt w' w.heap.size v2 (switchM m m').1.ps ∧ Upd (fun _ => False) w w' := by
  obtain ⟨p, c, rfl, hm⟩ := h.len
  obtain ⟨p', c', rfl, hm'⟩ := h'.len
  unfold maxLen at hm hm'
  obtain ⟨on, bc, oi, oo, nl, rd, ps⟩ := m
  obtain ⟨on', bc', oi', oo', nl', rd', ps'⟩ := m'
  dsimp only at *
  have CP : Hid (∀ W, Upd (fun _ => False) w W → Calls Tryd.prog 16 #[mdV ⟨on, bc, oi, oo, nl, rd, ps⟩ (.slice p ps.length c)] W fun e w' => ∃ p5 c5, e = .returned (mdV ⟨on, bc, oi, oo, nl, rd, ps⟩ (.slice p5 ps.length c5)) ∧ TxtsAt w' w.heap.size (.slice p5 ps.length c5) ps ∧ Upd (fun _ => False) W w') := fun W u => by
    refine (copy_any ⟨on, bc, oi, oo, nl, rd, ps⟩ _ W (h.keep u (fun _ _ _ h => h)) (by dsimp only; omega)).mono ?_
    rintro e w' ⟨v5, rfl, t, u2⟩
    obtain ⟨p5, c5, e5, _⟩ := own_slice t
    subst e5
    exact ⟨p5, c5, rfl, own_mono t u.size, u2⟩
  have CP' : Hid (∀ W, Upd (fun _ => False) w W → Calls Tryd.prog 16 #[mdV ⟨on', bc', oi', oo', nl', rd', ps'⟩ (.slice p' ps'.length c')] W fun e w' => ∃ p5 c5, e = .returned (mdV ⟨on', bc', oi', oo', nl', rd', ps'⟩ (.slice p5 ps'.length c5)) ∧ TxtsAt w' w.heap.size (.slice p5 ps'.length c5) ps' ∧ Upd (fun _ => False) W w') := fun W u => by
    refine (copy_any ⟨on', bc', oi', oo', nl', rd', ps'⟩ _ W (h'.keep u (fun _ _ _ h => h)) (by dsimp only; omega)).mono ?_
    rintro e w' ⟨v5, rfl, t, u2⟩
    obtain ⟨p5, c5, e5, _⟩ := own_slice t
    subst e5
    exact ⟨p5, c5, rfl, own_mono t u.size, u2⟩
  have K1 : Hid (∀ W, Upd (fun _ => False) (((w.alloc (.cells #[.bool on, .bool bc, .bool oi, .bool oo, .bool nl, .int .i64 rd, .slice p ps.length c] 24)).alloc (.cells #[.bool on', .bool bc', .bool oi', .bool oo', .bool nl', .int .i64 rd', .slice p' ps'.length c'] 24)).alloc (.cells zeroMC.toArray 24)) W → Blk W w.heap.size [.bool on, .bool bc, .bool oi, .bool oo, .bool nl, .int .i64 rd, .slice p ps.length c] 24 ∧ Blk W (w.heap.size + 1) [.bool on', .bool bc', .bool oi', .bool oo', .bool nl', .int .i64 rd', .slice p' ps'.length c'] 24 ∧ Blk W (w.heap.size + 1 + 1) zeroMC 24) := fun W u => by
    have k0 := Blk.made w [.bool on, .bool bc, .bool oi, .bool oo, .bool nl, .int .i64 rd, .slice p ps.length c] 24
    have k1 := Blk.made (w.alloc (.cells #[.bool on, .bool bc, .bool oi, .bool oo, .bool nl, .int .i64 rd, .slice p ps.length c] 24)) [.bool on', .bool bc', .bool oi', .bool oo', .bool nl', .int .i64 rd', .slice p' ps'.length c'] 24
    have k2 := Blk.made ((w.alloc (.cells #[.bool on, .bool bc, .bool oi, .bool oo, .bool nl, .int .i64 rd, .slice p ps.length c] 24)).alloc (.cells #[.bool on', .bool bc', .bool oi', .bool oo', .bool nl', .int .i64 rd', .slice p' ps'.length c'] 24)) zeroMC 24
    simp only [World.size_alloc] at k1 k2
    exact ⟨u.blk ((k0.alloc _).alloc _) (fun h => h), u.blk (k1.alloc _) (fun h => h), u.blk k2 (fun h => h)⟩
  have H := Lib.hid h
  have H' := Lib.hid h'
  have HS := Lib.hid hs
  have HS' := Lib.hid hs'
  clear h h' hs hs'
  have U3 : Hid (∀ o o' o'', Upd (fun _ => False) w (((w.alloc o).alloc o').alloc o'')) := fun o o' o'' => (((Upd.refl _ _).alloc o).alloc o').alloc o''
  have SW0 := Lib.hid (show switchM ⟨on, bc, oi, oo, nl, rd, ps⟩ ⟨on', bc', oi', oo', nl', rd', ps'⟩ = _ from rfl)
  unfold mdV at CP CP' ⊢
  dsimp only at *
  by_cases h1 : on = false ∨ on' = false
  · have SW : Hid (switchM ⟨on, bc, oi, oo, nl, rd, ps⟩ ⟨on', bc', oi', oo', nl', rd', ps'⟩ = (⟨on', bc', oi', oo', nl', rd', ps'⟩, 0)) := by
      show _ = _; unfold switchM; rw [if_pos h1]
    generalize switchM ⟨on, bc, oi, oo, nl, rd, ps⟩ ⟨on', bc', oi', oo', nl', rd', ps'⟩ = sw at *
    clear SW0 CP
    cases on with
    | false =>
      go_enter Tryd.func22, Tryd.ntmps22
      go_wp2_with fail
      refine (CP'.out _ (U3.out _ _ _)).mono ?_
      rintro e w5 ⟨p5, c5, rfl, t5, u5⟩
      obtain ⟨b0, b1, b2⟩ := K1.out w5 u5
      clear b0 b1 CP'
      obtain ⟨x1, f1, e0, e1, e2, e3, e4, e5, e6⟩ := mode_facts b2
      have T5 := Lib.hid t5
      have B2 := Lib.hid b2
      have UW := Lib.hid (((((Upd.refl (fun _ => False) w).alloc _).alloc _).alloc _).trans u5 (fun _ _ h => h))
      clear t5 u5 b2
      go_wp2
      have bF := setM_blk (a0 := .bool on') (a1 := .bool bc') (a2 := .bool oi') (a3 := .bool oo') (a4 := .bool nl') (a5 := .int .i64 rd') (a6 := .slice p5 ps'.length c5) B2.out
      unfold setM at bF
      obtain ⟨_, _, h0, h1, h2, h3, h4, h5, h6⟩ := mode_facts bF
      refine bodyPost_ret (v := .tuple #[.agg #[.bool on', .bool bc', .bool oi', .bool oo', .bool nl', .int .i64 rd', .slice p5 ps'.length c5], .int .i64 0]) (by simp [results, Tryd.results22, go_sem, h0, h1, h2, h3, h4, h5, h6]) rfl ⟨.slice p5 ps'.length c5, ?_, ?_, ?_⟩
      · rw [SW.out]
      · rw [SW.out]
        have us := setM_upd (b := w.heap.size + 1 + 1) (a0 := .bool on') (a1 := .bool bc') (a2 := .bool oi') (a3 := .bool oo') (a4 := .bool nl') (a5 := .int .i64 rd') (a6 := .slice p5 ps'.length c5) (Upd.refl (fun b => b = w.heap.size + 1 + 1) w5) (fun _ => rfl)
        unfold setM at us
        refine own_keep T5.out us (fun b hb e => ?_)
        obtain ⟨_, _, cs, hs⟩ := own_lt T5.out hb
        subst e
        exact ty_ne (B2.out.ty hs)
      · have us := setM_upd (b := w.heap.size + 1 + 1) (a0 := .bool on') (a1 := .bool bc') (a2 := .bool oi') (a3 := .bool oo') (a4 := .bool nl') (a5 := .int .i64 rd') (a6 := .slice p5 ps'.length c5) UW.out (fun h => absurd h (Nat.not_lt.2 (Nat.le_add_right _ 2)))
        unfold setM at us
        exact us
    | true =>
      obtain rfl : on' = false := by simpa using h1
      go_enter Tryd.func22, Tryd.ntmps22
      go_wp2_with fail
      refine (CP'.out _ (U3.out _ _ _)).mono ?_
      rintro e w5 ⟨p5, c5, rfl, t5, u5⟩
      obtain ⟨b0, b1, b2⟩ := K1.out w5 u5
      clear b0 b1 CP'
      obtain ⟨x1, f1, e0, e1, e2, e3, e4, e5, e6⟩ := mode_facts b2
      have T5 := Lib.hid t5
      have B2 := Lib.hid b2
      have UW := Lib.hid (((((Upd.refl (fun _ => False) w).alloc _).alloc _).alloc _).trans u5 (fun _ _ h => h))
      clear t5 u5 b2
      go_wp2
      have bF := setM_blk (a0 := .bool false) (a1 := .bool bc') (a2 := .bool oi') (a3 := .bool oo') (a4 := .bool nl') (a5 := .int .i64 rd') (a6 := .slice p5 ps'.length c5) B2.out
      unfold setM at bF
      obtain ⟨_, _, h0, h1, h2, h3, h4, h5, h6⟩ := mode_facts bF
      refine bodyPost_ret (v := .tuple #[.agg #[.bool false, .bool bc', .bool oi', .bool oo', .bool nl', .int .i64 rd', .slice p5 ps'.length c5], .int .i64 0]) (by simp [results, Tryd.results22, go_sem, h0, h1, h2, h3, h4, h5, h6]) rfl ⟨.slice p5 ps'.length c5, ?_, ?_, ?_⟩
      · rw [SW.out]
      · rw [SW.out]
        have us := setM_upd (b := w.heap.size + 1 + 1) (a0 := .bool false) (a1 := .bool bc') (a2 := .bool oi') (a3 := .bool oo') (a4 := .bool nl') (a5 := .int .i64 rd') (a6 := .slice p5 ps'.length c5) (Upd.refl (fun b => b = w.heap.size + 1 + 1) w5) (fun _ => rfl)
        unfold setM at us
        refine own_keep T5.out us (fun b hb e => ?_)
        obtain ⟨_, _, cs, hs⟩ := own_lt T5.out hb
        subst e
        exact ty_ne (B2.out.ty hs)
      · have us := setM_upd (b := w.heap.size + 1 + 1) (a0 := .bool false) (a1 := .bool bc') (a2 := .bool oi') (a3 := .bool oo') (a4 := .bool nl') (a5 := .int .i64 rd') (a6 := .slice p5 ps'.length c5) UW.out (fun h => absurd h (Nat.not_lt.2 (Nat.le_add_right _ 2)))
        unfold setM at us
        exact us
  · obtain ⟨rfl, rfl⟩ : on = true ∧ on' = true := by
      cases on <;> cases on' <;> simp_all
    by_cases h2 : bc ≠ bc' ∨ oi ≠ oi' ∨ oo ≠ oo'
    · have SW : Hid (switchM ⟨true, bc, oi, oo, nl, rd, ps⟩ ⟨true, bc', oi', oo', nl', rd', ps'⟩ = (⟨true, bc, oi, oo, nl, rd, ps⟩, 132)) := by
        show _ = _; unfold switchM; rw [if_neg h1]; dsimp only; rw [if_pos h2]
      generalize switchM ⟨true, bc, oi, oo, nl, rd, ps⟩ ⟨true, bc', oi', oo', nl', rd', ps'⟩ = sw at *
      clear SW0 CP' h1
      by_cases g1 : bc = bc'
      · subst g1
        by_cases g2 : oi = oi'
        · subst g2
          obtain rfl : oo' = !oo := by cases oo <;> cases oo' <;> simp_all
          go_enter Tryd.func22, Tryd.ntmps22
          go_wp2_with fail
          refine (CP.out _ (U3.out _ _ _)).mono ?_
          rintro e w5 ⟨p5, c5, rfl, t5, u5⟩
          obtain ⟨b0, b1, b2⟩ := K1.out w5 u5
          clear b0 b1 CP
          obtain ⟨x1, f1, e0, e1, e2, e3, e4, e5, e6⟩ := mode_facts b2
          have T5 := Lib.hid t5
          have B2 := Lib.hid b2
          have UW := Lib.hid (((((Upd.refl (fun _ => False) w).alloc _).alloc _).alloc _).trans u5 (fun _ _ h => h))
          clear t5 u5 b2
          go_wp2
          have bF := setM_blk (a0 := .bool true) (a1 := .bool bc) (a2 := .bool oi) (a3 := .bool oo) (a4 := .bool nl) (a5 := .int .i64 rd) (a6 := .slice p5 ps.length c5) B2.out
          unfold setM at bF
          obtain ⟨_, _, h0, h1, h2, h3, h4, h5, h6⟩ := mode_facts bF
          refine bodyPost_ret (v := .tuple #[.agg #[.bool true, .bool bc, .bool oi, .bool oo, .bool nl, .int .i64 rd, .slice p5 ps.length c5], .int .i64 132]) (by simp [results, Tryd.results22, go_sem, h0, h1, h2, h3, h4, h5, h6]) rfl ⟨.slice p5 ps.length c5, ?_, ?_, ?_⟩
          · rw [SW.out]
          · rw [SW.out]
            have us := setM_upd (b := w.heap.size + 1 + 1) (a0 := .bool true) (a1 := .bool bc) (a2 := .bool oi) (a3 := .bool oo) (a4 := .bool nl) (a5 := .int .i64 rd) (a6 := .slice p5 ps.length c5) (Upd.refl (fun b => b = w.heap.size + 1 + 1) w5) (fun _ => rfl)
            unfold setM at us
            refine own_keep T5.out us (fun b hb e => ?_)
            obtain ⟨_, _, cs, hs⟩ := own_lt T5.out hb
            subst e
            exact ty_ne (B2.out.ty hs)
          · have us := setM_upd (b := w.heap.size + 1 + 1) (a0 := .bool true) (a1 := .bool bc) (a2 := .bool oi) (a3 := .bool oo) (a4 := .bool nl) (a5 := .int .i64 rd) (a6 := .slice p5 ps.length c5) UW.out (fun h => absurd h (Nat.not_lt.2 (Nat.le_add_right _ 2)))
            unfold setM at us
            exact us
        · obtain rfl : oi' = !oi := by cases oi <;> cases oi' <;> simp_all
          go_enter Tryd.func22, Tryd.ntmps22
          go_wp2_with fail
          refine (CP.out _ (U3.out _ _ _)).mono ?_
          rintro e w5 ⟨p5, c5, rfl, t5, u5⟩
          obtain ⟨b0, b1, b2⟩ := K1.out w5 u5
          clear b0 b1 CP
          obtain ⟨x1, f1, e0, e1, e2, e3, e4, e5, e6⟩ := mode_facts b2
          have T5 := Lib.hid t5
          have B2 := Lib.hid b2
          have UW := Lib.hid (((((Upd.refl (fun _ => False) w).alloc _).alloc _).alloc _).trans u5 (fun _ _ h => h))
          clear t5 u5 b2
          go_wp2
          have bF := setM_blk (a0 := .bool true) (a1 := .bool bc) (a2 := .bool oi) (a3 := .bool oo) (a4 := .bool nl) (a5 := .int .i64 rd) (a6 := .slice p5 ps.length c5) B2.out
          unfold setM at bF
          obtain ⟨_, _, h0, h1, h2, h3, h4, h5, h6⟩ := mode_facts bF
          refine bodyPost_ret (v := .tuple #[.agg #[.bool true, .bool bc, .bool oi, .bool oo, .bool nl, .int .i64 rd, .slice p5 ps.length c5], .int .i64 132]) (by simp [results, Tryd.results22, go_sem, h0, h1, h2, h3, h4, h5, h6]) rfl ⟨.slice p5 ps.length c5, ?_, ?_, ?_⟩
          · rw [SW.out]
          · rw [SW.out]
            have us := setM_upd (b := w.heap.size + 1 + 1) (a0 := .bool true) (a1 := .bool bc) (a2 := .bool oi) (a3 := .bool oo) (a4 := .bool nl) (a5 := .int .i64 rd) (a6 := .slice p5 ps.length c5) (Upd.refl (fun b => b = w.heap.size + 1 + 1) w5) (fun _ => rfl)
            unfold setM at us
            refine own_keep T5.out us (fun b hb e => ?_)
            obtain ⟨_, _, cs, hs⟩ := own_lt T5.out hb
            subst e
            exact ty_ne (B2.out.ty hs)
          · have us := setM_upd (b := w.heap.size + 1 + 1) (a0 := .bool true) (a1 := .bool bc) (a2 := .bool oi) (a3 := .bool oo) (a4 := .bool nl) (a5 := .int .i64 rd) (a6 := .slice p5 ps.length c5) UW.out (fun h => absurd h (Nat.not_lt.2 (Nat.le_add_right _ 2)))
            unfold setM at us
            exact us
      · obtain rfl : bc' = !bc := by cases bc <;> cases bc' <;> simp_all
        go_enter Tryd.func22, Tryd.ntmps22
        go_wp2_with fail
        refine (CP.out _ (U3.out _ _ _)).mono ?_
        rintro e w5 ⟨p5, c5, rfl, t5, u5⟩
        obtain ⟨b0, b1, b2⟩ := K1.out w5 u5
        clear b0 b1 CP
        obtain ⟨x1, f1, e0, e1, e2, e3, e4, e5, e6⟩ := mode_facts b2
        have T5 := Lib.hid t5
        have B2 := Lib.hid b2
        have UW := Lib.hid (((((Upd.refl (fun _ => False) w).alloc _).alloc _).alloc _).trans u5 (fun _ _ h => h))
        clear t5 u5 b2
        go_wp2
        have bF := setM_blk (a0 := .bool true) (a1 := .bool bc) (a2 := .bool oi) (a3 := .bool oo) (a4 := .bool nl) (a5 := .int .i64 rd) (a6 := .slice p5 ps.length c5) B2.out
        unfold setM at bF
        obtain ⟨_, _, h0, h1, h2, h3, h4, h5, h6⟩ := mode_facts bF
        refine bodyPost_ret (v := .tuple #[.agg #[.bool true, .bool bc, .bool oi, .bool oo, .bool nl, .int .i64 rd, .slice p5 ps.length c5], .int .i64 132]) (by simp [results, Tryd.results22, go_sem, h0, h1, h2, h3, h4, h5, h6]) rfl ⟨.slice p5 ps.length c5, ?_, ?_, ?_⟩
        · rw [SW.out]
        · rw [SW.out]
          have us := setM_upd (b := w.heap.size + 1 + 1) (a0 := .bool true) (a1 := .bool bc) (a2 := .bool oi) (a3 := .bool oo) (a4 := .bool nl) (a5 := .int .i64 rd) (a6 := .slice p5 ps.length c5) (Upd.refl (fun b => b = w.heap.size + 1 + 1) w5) (fun _ => rfl)
          unfold setM at us
          refine own_keep T5.out us (fun b hb e => ?_)
          obtain ⟨_, _, cs, hs⟩ := own_lt T5.out hb
          subst e
          exact ty_ne (B2.out.ty hs)
        · have us := setM_upd (b := w.heap.size + 1 + 1) (a0 := .bool true) (a1 := .bool bc) (a2 := .bool oi) (a3 := .bool oo) (a4 := .bool nl) (a5 := .int .i64 rd) (a6 := .slice p5 ps.length c5) UW.out (fun h => absurd h (Nat.not_lt.2 (Nat.le_add_right _ 2)))
          unfold setM at us
          exact us
    · obtain ⟨rfl, rfl, rfl⟩ : bc = bc' ∧ oi = oi' ∧ oo = oo' := by
        refine ⟨?_, ?_, ?_⟩ <;> (apply Classical.byContradiction; intro g; apply h2; simp [g])
      have SW : Hid (switchM ⟨true, bc, oi, oo, nl, rd, ps⟩ ⟨true, bc, oi, oo, nl', rd', ps'⟩ = (if rightM ⟨true, bc, oi, oo, nl', rd', uniT (ps ++ ps')⟩ = true then (⟨true, bc, oi, oo, nl', rd', uniT (ps ++ ps')⟩, 0) else (⟨true, bc, oi, oo, nl, rd, ps⟩, 132))) := by
        show _ = _; unfold switchM; rw [if_neg h1]; dsimp only; rw [if_neg h2]; rfl
      have CC := join_call w [.bool true, .bool bc, .bool oi, .bool oo, .bool nl, .int .i64 rd, .slice p ps.length c] [.bool true, .bool bc, .bool oi, .bool oo, .bool nl', .int .i64 rd', .slice p' ps'.length c'] [.bool true, .bool bc, .bool oi, .bool oo, .bool nl', .int .i64 rd', .slice p' ps'.length c'] p p' c c' ps ps' H.out H'.out hl hl'
      obtain ⟨F0, U0, Z0, _⟩ := fiveW_fb w [.bool true, .bool bc, .bool oi, .bool oo, .bool nl, .int .i64 rd, .slice p ps.length c] [.bool true, .bool bc, .bool oi, .bool oo, .bool nl', .int .i64 rd', .slice p' ps'.length c'] [.bool true, .bool bc, .bool oi, .bool oo, .bool nl', .int .i64 rd', .slice p' ps'.length c'] (.slice p ps.length c) (.slice p' ps'.length c')
      have CC := Lib.hid CC
      have F0 := Lib.hid F0
      have U0 := Lib.hid U0
      clear CP' SW0 h1 h2 K1 U3 H'
      generalize switchM ⟨true, bc, oi, oo, nl, rd, ps⟩ ⟨true, bc, oi, oo, nl', rd', ps'⟩ = sw at *
      go_enter Tryd.func22, Tryd.ntmps22
      go_wp2_with fail
      refine CC.out.mono ?_
      rintro e w5 ⟨v1, rfl, t1, u1⟩
      obtain ⟨js, JS⟩ : ∃ js, js = ps ++ ps' := ⟨_, rfl⟩
      rw [← JS] at t1
      have hj : js.length ≤ 200000 := by rw [JS, List.length_append]; omega
      obtain ⟨p1, k1, ev1, _⟩ := own_slice t1
      subst ev1
      generalize js.length = n1 at t1
      have F1 := F0.out.keep u1 (fun _ _ h => h)
      have U1 := U0.out.trans u1 (fun _ _ h => h)
      have F1s := F1.set (.slice p1 n1 k1)
      have t1s := own_keep t1 (joinM_upd w5 w.heap.size (.slice p1 n1 k1)) (fun b hb e => by have := (own_lt t1 hb).2.1; omega)
      have U1s := U1.trans (joinM_upd w5 w.heap.size (.slice p1 n1 k1)) (fun b hb e => by omega)
      dsimp only [List.set] at F1s
      obtain ⟨x0, f0, e0, e1, e2, e3, e4, e5, e6⟩ := mode_facts F1.1
      obtain ⟨x2, f2, _⟩ := mode_facts F1.2.1
      obtain ⟨x3, f3, d0, d1, d2, d3, d4, d5, d6⟩ := mode_facts F1.2.2
      have F1s := Lib.hid F1s
      have t1s := Lib.hid t1s
      have U1s := Lib.hid U1s
      clear F1 U1 t1 u1
      go_wp2_with fail
      refine (sortT_any _ _ _ _ t1s.out (Nat.le_trans hj (by decide))).mono ?_
      rintro e w6 ⟨rfl, t2, u2⟩
      have F2 := F1s.out.keep u2 (fun b hb e => by have := (own_lt t1s.out e).2.1; omega)
      have U2 := U1s.out.trans u2 (fun b hb e => by have := (own_lt t1s.out e).2.1; omega)
      obtain ⟨x0, f0, e0, e1, e2, e3, e4, e5, e6⟩ := mode_facts F2.1
      obtain ⟨x2, f2, _⟩ := mode_facts F2.2.1
      obtain ⟨x3, f3, d0, d1, d2, d3, d4, d5, d6⟩ := mode_facts F2.2.2
      have F2 := Lib.hid F2
      have t2 := Lib.hid t2
      have U2 := Lib.hid U2
      clear F1s t1s U1s u2
      go_wp2_with fail
      refine (compactT_any _ _ _ _ t2.out (by rw [List.length_mergeSort]; exact Nat.le_trans hj (by decide))).mono ?_
      rintro e w7 ⟨v2, rfl, t3, u3⟩
      rw [sortT_uni, JS] at t3
      obtain ⟨qs, QS⟩ : ∃ qs, qs = uniT (ps ++ ps') := ⟨_, rfl⟩
      rw [← QS] at t3 SW
      have hq : qs.length ≤ 200000 := by rw [QS, ← sortT_uni]; exact Nat.le_trans (Lib.compact_length_le _) (by rw [List.length_mergeSort, ← JS]; exact hj)
      have hqs : ∀ t ∈ qs, t.length ≤ maxLen := fun t ht => by
        rw [QS] at ht
        rcases List.mem_append.1 (uniT_mem.1 ht) with g | g
        · exact HS.out t g
        · exact HS'.out t g
      obtain ⟨p5, c5, ev2, _⟩ := own_slice t3
      subst ev2
      have hn2 : Hid (∃ n2, n2 = qs.length) := ⟨_, rfl⟩
      generalize hN2 : qs.length = n2 at t3
      have F3 := F2.out.keep u3 (fun b hb e => by have := (own_lt t2.out e).2.1; omega)
      have U3 := U2.out.trans u3 (fun b hb e => by have := (own_lt t2.out e).2.1; omega)
      have F3s := F3.set (.slice p5 n2 c5)
      have t3s := own_keep t3 (joinM_upd w7 w.heap.size (.slice p5 n2 c5)) (fun b hb e => by have := (own_lt t3 hb).2.1; omega)
      have U3s := U3.trans (joinM_upd w7 w.heap.size (.slice p5 n2 c5)) (fun b hb e => by omega)
      dsimp only [List.set] at F3s
      obtain ⟨x0, f0, e0, e1, e2, e3, e4, e5, e6⟩ := mode_facts F3.1
      obtain ⟨x2, f2, _⟩ := mode_facts F3.2.1
      obtain ⟨x3, f3, d0, d1, d2, d3, d4, d5, d6⟩ := mode_facts F3.2.2
      have F3s := Lib.hid F3s
      have t3s := Lib.hid t3s
      have U3s := Lib.hid U3s
      clear F2 F3 t2 t3 U2 U3 u3
      go_wp2_with fail
      have RG := right_any ⟨true, bc, oi, oo, nl', rd', qs⟩ (.slice p5 n2 c5) _ (txts_row t3s.out) (Nat.le_trans hq (by decide)) hqs
      unfold mdV at RG
      dsimp only at RG
      refine RG.mono ?_
      rintro e w8 ⟨rfl, u4⟩
      have F4 := F3s.out.keep u4 (fun _ _ h => h)
      have T4 := own_mono (own_keep t3s.out u4 (fun _ _ h => h)) (show w.heap.size ≤ w.heap.size + 5 by omega)
      have U4 := U3s.out.trans u4 (fun _ _ h => h)
      obtain ⟨x0, f0, e0, e1, e2, e3, e4, e5, e6⟩ := mode_facts F4.1
      obtain ⟨x2, f2, _⟩ := mode_facts F4.2.1
      obtain ⟨x3, f3, d0, d1, d2, d3, d4, d5, d6⟩ := mode_facts F4.2.2
      have F4 := Lib.hid F4
      have T4 := Lib.hid T4
      have U4 := Lib.hid U4
      clear F3s t3s U3s u4 hqs hq hN2 hn2 RG
      cases hr : rightM ⟨true, bc, oi, oo, nl', rd', qs⟩ with
      | true =>
        have SW : Hid (sw = (⟨true, bc, oi, oo, nl', rd', qs⟩, 0)) := by show _ = _; rw [SW.out, if_pos hr]
        obtain ⟨w5, W5⟩ : ∃ w5, w5 = w8 := ⟨_, rfl⟩
        subst W5
        have b2 := F4.out.2.1
        have t5 := T4.out
        have u5 := U4.out
        obtain ⟨x1, f1, e0, e1, e2, e3, e4, e5, e6⟩ := mode_facts b2
        have T5 := Lib.hid t5
        have B2 := Lib.hid b2
        have UW := Lib.hid (u5)
        clear t5 u5 b2
        go_wp2
        have bF := setM_blk (a0 := .bool true) (a1 := .bool bc) (a2 := .bool oi) (a3 := .bool oo) (a4 := .bool nl') (a5 := .int .i64 rd') (a6 := .slice p5 n2 c5) B2.out
        unfold setM at bF
        obtain ⟨_, _, h0, h1, h2, h3, h4, h5, h6⟩ := mode_facts bF
        refine bodyPost_ret (v := .tuple #[.agg #[.bool true, .bool bc, .bool oi, .bool oo, .bool nl', .int .i64 rd', .slice p5 n2 c5], .int .i64 0]) (by simp [results, Tryd.results22, go_sem, h0, h1, h2, h3, h4, h5, h6]) rfl ⟨.slice p5 n2 c5, ?_, ?_, ?_⟩
        · rw [SW.out]
        · rw [SW.out]
          have us := setM_upd (b := w.heap.size + 1 + 1) (a0 := .bool true) (a1 := .bool bc) (a2 := .bool oi) (a3 := .bool oo) (a4 := .bool nl') (a5 := .int .i64 rd') (a6 := .slice p5 n2 c5) (Upd.refl (fun b => b = w.heap.size + 1 + 1) w5) (fun _ => rfl)
          unfold setM at us
          refine own_keep T5.out us (fun b hb e => ?_)
          obtain ⟨_, _, cs, hs⟩ := own_lt T5.out hb
          subst e
          exact ty_ne (B2.out.ty hs)
        · have us := setM_upd (b := w.heap.size + 1 + 1) (a0 := .bool true) (a1 := .bool bc) (a2 := .bool oi) (a3 := .bool oo) (a4 := .bool nl') (a5 := .int .i64 rd') (a6 := .slice p5 n2 c5) UW.out (fun h => absurd h (Nat.not_lt.2 (Nat.le_add_right _ 2)))
          unfold setM at us
          exact us
      | false =>
        have SW : Hid (sw = (⟨true, bc, oi, oo, nl, rd, ps⟩, 132)) := by show _ = _; rw [SW.out, if_neg (by rw [hr]; exact Bool.false_ne_true)]
        go_wp2_with fail
        refine (CP.out _ U4.out).mono ?_
        rintro e w5 ⟨p5, c5, rfl, t5, u9⟩
        have b2 := u9.blk F4.out.2.1 (fun h => h)
        have u5 := U4.out.trans u9 (fun _ _ h => h)
        clear CP u9
        obtain ⟨x1, f1, e0, e1, e2, e3, e4, e5, e6⟩ := mode_facts b2
        have T5 := Lib.hid t5
        have B2 := Lib.hid b2
        have UW := Lib.hid (u5)
        clear t5 u5 b2
        go_wp2
        have bF := setM_blk (a0 := .bool true) (a1 := .bool bc) (a2 := .bool oi) (a3 := .bool oo) (a4 := .bool nl) (a5 := .int .i64 rd) (a6 := .slice p5 ps.length c5) B2.out
        unfold setM at bF
        obtain ⟨_, _, h0, h1, h2, h3, h4, h5, h6⟩ := mode_facts bF
        refine bodyPost_ret (v := .tuple #[.agg #[.bool true, .bool bc, .bool oi, .bool oo, .bool nl, .int .i64 rd, .slice p5 ps.length c5], .int .i64 132]) (by simp [results, Tryd.results22, go_sem, h0, h1, h2, h3, h4, h5, h6]) rfl ⟨.slice p5 ps.length c5, ?_, ?_, ?_⟩
        · rw [SW.out]
        · rw [SW.out]
          have us := setM_upd (b := w.heap.size + 1 + 1) (a0 := .bool true) (a1 := .bool bc) (a2 := .bool oi) (a3 := .bool oo) (a4 := .bool nl) (a5 := .int .i64 rd) (a6 := .slice p5 ps.length c5) (Upd.refl (fun b => b = w.heap.size + 1 + 1) w5) (fun _ => rfl)
          unfold setM at us
          refine own_keep T5.out us (fun b hb e => ?_)
          obtain ⟨_, _, cs, hs⟩ := own_lt T5.out hb
          subst e
          exact ty_ne (B2.out.ty hs)
        · have us := setM_upd (b := w.heap.size + 1 + 1) (a0 := .bool true) (a1 := .bool bc) (a2 := .bool oi) (a3 := .bool oo) (a4 := .bool nl) (a5 := .int .i64 rd) (a6 := .slice p5 ps.length c5) UW.out (fun h => absurd h (Nat.not_lt.2 (Nat.le_add_right _ 2)))
          unfold setM at us
          exact us
end Go.Proofs.YtcpfkkbegnhofaaDoor
/- What start-up code has laid, as far as it is read; it stays, as long as its blocks are left alone. -/
set_option linter.unusedVariables false
set_option linter.unusedSimpArgs false
namespace Go.Proofs.YtcpfkkbegnhofaaDoor
open Go.RowKit Go.Proofs

/-- What start-up code has laid, as far as it is read. -/
structure Std (w : World) : Prop where
  tab : Lib.TabIs Tryd.prog w "internal/strconv.uint64pow10" .u64 Lib.pow10Tab
  syn : ∃ te pe, w.var? Tryd.prog "strconv.ErrSyntax" = some #[.iface te pe]
  rng : ∃ te pe, w.var? Tryd.prog "strconv.ErrRange" = some #[.iface te pe]
theorem var_keep {w w' : World} (u : Upd (fun _ => False) w w') {n : String} {cs : Array Value} (h : w.var? Tryd.prog n = some cs) : w'.var? Tryd.prog n = some cs := by
  unfold World.var? at h ⊢
  cases hg : Tryd.prog.globalNamed n with
  | none => rw [hg] at h; cases h
  | some g =>
    rw [hg] at h
    simp only [Option.bind_some] at h ⊢
    have hl : g < w.heap.size := by
      by_cases hl : g < w.heap.size
      · exact hl
      · rw [Array.getElem?_eq_none (by omega : w.heap.size ≤ g)] at h; cases h
    rw [u.block g hl id]
    exact h
theorem Std.keep {w w' : World} (h : Std w) (u : Upd (fun _ => False) w w') : Std w' :=
  ⟨var_keep u h.tab, by obtain ⟨a, b, c⟩ := h.syn; exact ⟨a, b, var_keep u c⟩, by obtain ⟨a, b, c⟩ := h.rng; exact ⟨a, b, var_keep u c⟩⟩
theorem var_lt {w : World} {n : String} {cs : Array Value} {g : Nat} (hg : Tryd.prog.globalNamed n = some g) (h : w.var? Tryd.prog n = some cs) : g < w.heap.size := by
  unfold World.var? at h
  rw [hg] at h
  simp only [Option.bind_some] at h
  by_cases hl : g < w.heap.size
  · exact hl
  · rw [Array.getElem?_eq_none (by omega : w.heap.size ≤ g)] at h; cases h
/-- The blocks from here on hold nothing that start-up code has laid and that is read. -/
def lowB : Nat := 5 + 3 + 4 - min (min (5 + 3) (3 + 4)) (5 + 4) + 1
theorem Std.low {w : World} (h : Std w) : lowB ≤ w.heap.size := by
  have h1 := var_lt (g := 5) (by kernel_rfl) h.tab
  obtain ⟨a, b, hv⟩ := h.rng
  have h2 := var_lt (g := 4) (by kernel_rfl) hv
  obtain ⟨a, b, hv⟩ := h.syn
  have h3 := var_lt (g := 3) (by kernel_rfl) hv
  unfold lowB; omega
theorem var_keepB {w w' : World} {F : Nat → Prop} (u : Upd F w w') {n : String} {cs : Array Value} {g : Nat} (hg : Tryd.prog.globalNamed n = some g) (hF : ¬ F g) (h : w.var? Tryd.prog n = some cs) : w'.var? Tryd.prog n = some cs := by
  unfold World.var? at h ⊢
  rw [hg] at h ⊢
  simp only [Option.bind_some] at h ⊢
  have hl : g < w.heap.size := by
    by_cases hl : g < w.heap.size
    · exact hl
    · rw [Array.getElem?_eq_none (by omega : w.heap.size ≤ g)] at h; cases h
  rw [u.block g hl hF]
  exact h
theorem Std.keepB {w w' : World} {F : Nat → Prop} (h : Std w) (u : Upd F w w') (hF : ∀ k, F k → lowB ≤ k) : Std w' := by
  have n3 : ¬ F 5 := fun h => by have := hF _ h; unfold lowB at this; omega
  have n4 : ¬ F 3 := fun h => by have := hF _ h; unfold lowB at this; omega
  have n5 : ¬ F 4 := fun h => by have := hF _ h; unfold lowB at this; omega
  exact ⟨var_keepB u (by kernel_rfl) n3 h.tab, by obtain ⟨a, b, c⟩ := h.syn; exact ⟨a, b, var_keepB u (by kernel_rfl) n4 c⟩, by obtain ⟨a, b, c⟩ := h.rng; exact ⟨a, b, var_keepB u (by kernel_rfl) n5 c⟩⟩
end Go.Proofs.YtcpfkkbegnhofaaDoor
/- Walks: whole numbers as text, and the document's answer. -/
set_option linter.unusedVariables false
set_option linter.unusedSimpArgs false
namespace Go.Proofs.YtcpfkkbegnhofaaDoor
open Go.RowKit Go.Sort Go.Proofs
open Whole (wparse refParse)

theorem upd_grow (w : World) (k : Nat) (os : Array Obj) : Upd (fun _ => False) w (grow (w.drewN k) os) :=
  ⟨rfl, rfl, rfl, by unfold grow; simp, fun i hi _ => by unfold grow; simp only; rw [Array.getElem?_append_left (show i < (w.drewN k).heap.size from hi)]; rfl⟩
theorem upd_fresh {w w' : World} (h : Below w.heap.size w w') : Upd (fun _ => False) w w' := (Upd.of_below h).weaken fun i hi h2 => by omega
theorem upd_bytes (w : World) (e : TypeId) (s : ByteArray) : Upd (fun _ => False) w (Lib.bytesWorld w e s) :=
  ⟨rfl, rfl, rfl, by simp [Lib.bytesWorld, World.freeze, World.alloc, World.drew, -World.alloc_eq, -World.drew_eq], fun i hi _ => Lib.bytesWorld_at_old w e s i hi⟩

def txt (n : Int) : ByteArray := ⟨(Lib.itoa n).toArray⟩
theorem txt_list (n : Int) : (txt n).data.toList = Lib.itoa n := rfl
theorem text_any (n : Int) (h0 : -9223372036854775808 ≤ n) (h1 : n ≤ 9223372036854775807) (w : World) (hs : Std w) :
    Calls Tryd.prog 55 #[.int .i64 n] w fun e w' => e = .returned (.string (txt n)) ∧ Upd (fun _ => False) w w' := by
  have F := Lib.hid (Tryd.strconv_FormatInt_10 n h0 h1 w hs.tab)
  clear hs h0 h1
  go_enter Tryd.func55, Tryd.ntmps55
  go_wp2_with fail
  refine F.out.mono ?_
  rintro e w' ⟨rfl, k, os, rfl⟩
  go_wp2
  go_ret
  exact ⟨rfl, upd_grow _ _ _⟩

theorem bytes_eq {a b : ByteArray} : (a.toList == b.toList) = decide (a.data.toList = b.data.toList) := by
  rw [ByteArray.toList_eq, ByteArray.toList_eq]
  rw [Bool.eq_iff_iff, beq_iff_eq, decide_eq_true_eq]
def pnum (s : ByteArray) : Int := (wparse s.data.toList).getD 0
def perr (s : ByteArray) : Int := if (wparse s.data.toList).isSome then 0 else 11

set_option maxHeartbeats 1000000 in
theorem parse_any (s : ByteArray) (hz : s.size ≤ 100000) (w : World) (hs : Std w) :
    Calls Tryd.prog 41 #[.string s] w fun e w' => e = .returned (.tuple #[.int .i64 (pnum s), .int .i64 (perr s)]) ∧ Upd (fun _ => False) w w' := by
  rcases hp : Lib.parseIntB 64 s.data.toList with v | _ | _
  case ok =>
    obtain ⟨v0, v1⟩ := Whole.parse_range hp
    have F := Lib.hid (Tryd.strconv_ParseInt_10_at64_ok s (by omega) v hp w)
    have HS := Lib.hid hs
    have HP := Lib.hid hp
    have hr : Hid (wparse s.data.toList = if Lib.itoa v = s.data.toList then some v else none) := by show wparse _ = _; unfold wparse; rw [hp]
    clear hs hp
    go_enter Tryd.func41, Tryd.ntmps41
    go_wp2_with fail
    refine F.out.mono ?_
    rintro e w1 ⟨rfl, hw⟩
    have U : Upd (fun _ => False) w w1 := by
      rcases hw with rfl | ⟨t, rfl⟩
      · exact Upd.refl _ _
      · exact upd_bytes _ _ _
    have T := Lib.hid (text_any v v0 v1 w1 (HS.out.keep U))
    have UU := Lib.hid U
    clear U hw F
    go_wp2_with fail
    refine T.out.mono ?_
    rintro e w2 ⟨rfl, u2⟩
    have U2 := Lib.hid (UU.out.trans u2 (fun _ _ h => h))
    clear u2 T UU
    by_cases hh : Lib.itoa v = s.data.toList
    · have hb : ((txt v).toList == s.toList) = true := by rw [bytes_eq, txt_list]; simp [hh]
      rw [if_pos hh] at hr
      go_wp2
      go_ret2
      refine ⟨?_, U2.out⟩
      unfold pnum perr; rw [hr.out]; rfl
    · have hb : ((txt v).toList == s.toList) = false := by rw [bytes_eq, txt_list]; simp [hh]
      rw [if_neg hh] at hr
      go_wp2
      go_ret2
      refine ⟨?_, U2.out⟩
      unfold pnum perr; rw [hr.out]; rfl
  rotate_left
  case range =>
    obtain ⟨te, pe, hv⟩ := hs.rng
    have F := Lib.hid (Tryd.strconv_ParseInt_10_at64_range_var s (by omega) hp te pe w hv)
    have hr : Hid (wparse s.data.toList = none) := by show wparse _ = _; unfold wparse; rw [hp]
    clear hs hp hv
    go_enter Tryd.func41, Tryd.ntmps41
    go_wp2_with fail
    refine F.out.mono ?_
    rintro e w1 ⟨N, rfl, _, _, hb⟩
    have U := Lib.hid (upd_fresh hb)
    clear hb F
    go_wp2
    go_ret2
    refine ⟨?_, U.out⟩
    unfold pnum perr; rw [hr.out]; rfl
  · obtain ⟨te, pe, hv⟩ := hs.syn
    have F := Lib.hid (Tryd.strconv_ParseInt_10_at64_syntax_var s (by omega) hp te pe w hv)
    have hr : Hid (wparse s.data.toList = none) := by show wparse _ = _; unfold wparse; rw [hp]
    clear hs hp hv
    go_enter Tryd.func41, Tryd.ntmps41
    go_wp2_with fail
    refine F.out.mono ?_
    rintro e w1 ⟨N, rfl, _, _, hb⟩
    have U := Lib.hid (upd_fresh hb)
    clear hb F
    go_wp2
    go_ret2
    refine ⟨?_, U.out⟩
    unfold pnum perr; rw [hr.out]; rfl
end Go.Proofs.YtcpfkkbegnhofaaDoor
