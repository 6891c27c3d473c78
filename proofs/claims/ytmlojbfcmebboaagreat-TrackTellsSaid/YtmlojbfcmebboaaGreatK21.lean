/- Modes: from one to another. -/
import Derived.Test.YtmlojbfcmebboaaGreatK20
import Derived.Lib.RowBridge
import Derived.Test.YtmlojbfcmebboaaGreatK19
set_option linter.unusedVariables false
set_option linter.unusedSimpArgs false
namespace Go.Proofs.YtmlojbfcmebboaaGreat
open Go.RowKit

abbrev zeroMC : List Value := [.bool false, .bool false, .bool false, .bool false, .bool false, .int .i64 0, .slice none 0 0]
/-- The seven stores of a mode. -/
def setM (w : World) (b : Nat) (a0 a1 a2 a3 a4 a5 a6 : Value) : World := ((((((w.setCell ⟨b, 0, none⟩ a0).setCell ⟨b, 1, none⟩ a1).setCell ⟨b, 2, none⟩ a2).setCell ⟨b, 3, none⟩ a3).setCell ⟨b, 4, none⟩ a4).setCell ⟨b, 5, none⟩ a5).setCell ⟨b, 6, none⟩ a6
theorem setM_blk {w : World} {b : Nat} {c0 c1 c2 c3 c4 c5 c6 a0 a1 a2 a3 a4 a5 a6 : Value} {T : TypeId} (h : Blk w b [c0, c1, c2, c3, c4, c5, c6] T) : Blk (setM w b a0 a1 a2 a3 a4 a5 a6) b [a0, a1, a2, a3, a4, a5, a6] T :=
  ((((((h.set 0 a0).set 1 a1).set 2 a2).set 3 a3).set 4 a4).set 5 a5).set 6 a6
theorem setM_upd {F : Nat → Prop} {a w : World} {b : Nat} {a0 a1 a2 a3 a4 a5 a6 : Value} (h : Upd F a w) (hp : b < a.heap.size → F b) : Upd F a (setM w b a0 a1 a2 a3 a4 a5 a6) :=
  ((((((h.set hp).set hp).set hp).set hp).set hp).set hp).set hp
/-- What a block of a mode gives the walk. -/
theorem mode_facts {w : World} {b : Nat} {c0 c1 c2 c3 c4 c5 c6 : Value} {T : TypeId} (h : Blk w b [c0, c1, c2, c3, c4, c5, c6] T) :
    b < w.heap.size ∧ (∀ i, w.frozen? ⟨b, i, none⟩ = false) ∧ w.cell? ⟨b, 0, none⟩ = some c0 ∧ w.cell? ⟨b, 1, none⟩ = some c1 ∧ w.cell? ⟨b, 2, none⟩ = some c2 ∧ w.cell? ⟨b, 3, none⟩ = some c3 ∧ w.cell? ⟨b, 4, none⟩ = some c4 ∧ w.cell? ⟨b, 5, none⟩ = some c5 ∧ w.cell? ⟨b, 6, none⟩ = some c6 :=
  ⟨h.lt, fun i => h.free i, h.cellAt rfl, h.cellAt rfl, h.cellAt rfl, h.cellAt rfl, h.cellAt rfl, h.cellAt rfl, h.cellAt rfl⟩
theorem ty_ne (h : (32 : TypeId) = 9) : False := absurd h (by decide)
abbrev TM : TypeId := 32
/-- What the third case keeps: the first mode, the answer, the joined one. -/
def FB (W : World) (n : Nat) (c0 c3 : List Value) : Prop := Blk W n c0 TM ∧ Blk W (n + 1 + 1) zeroMC TM ∧ Blk W (n + 1 + 1 + 1) c3 TM
theorem FB.keep {F : Nat → Prop} {W W' : World} {n : Nat} {c0 c3 : List Value} (h : FB W n c0 c3) (u : Upd F W W') (hF : ∀ b, b ≤ n + 3 → ¬ F b) : FB W' n c0 c3 :=
  ⟨u.blk h.1 (hF _ (by omega)), u.blk h.2.1 (hF _ (by omega)), u.blk h.2.2 (hF _ (by omega))⟩
theorem FB.set {W : World} {n : Nat} {c0 c3 : List Value} (h : FB W n c0 c3) (v : Value) : FB (W.setCell ⟨n + 1 + 1 + 1, 6, none⟩ v) n c0 (c3.set 6 v) := by
  have u : Upd (fun b => b = n + 1 + 1 + 1) W (W.setCell ⟨n + 1 + 1 + 1, 6, none⟩ v) := (Upd.refl _ W).set (fun _ => rfl)
  exact ⟨u.blk h.1 (by omega), u.blk h.2.1 (by omega), h.2.2.set 6 v⟩
def fiveW (w : World) (c0 c1 c3 : List Value) (v v' : Value) : World := ((((w.alloc (.cells c0.toArray TM)).alloc (.cells c1.toArray TM)).alloc (.cells zeroMC.toArray TM)).alloc (.cells c3.toArray TM)).alloc (.cells #[v, v'] 30)
theorem fiveW_fb (w : World) (c0 c1 c3 : List Value) (v v' : Value) : FB (fiveW w c0 c1 c3 v v') w.heap.size c0 c3 ∧ Upd (fun _ => False) w (fiveW w c0 c1 c3 v v') ∧ (fiveW w c0 c1 c3 v v').heap.size = w.heap.size + 5 ∧ Blk (fiveW w c0 c1 c3 v v') (w.heap.size + 1 + 1 + 1 + 1) [v, v'] 30 := by
  have k0 := Blk.made w c0 TM
  have k2 := Blk.made ((w.alloc (.cells c0.toArray TM)).alloc (.cells c1.toArray TM)) zeroMC TM
  have k3 := Blk.made (((w.alloc (.cells c0.toArray TM)).alloc (.cells c1.toArray TM)).alloc (.cells zeroMC.toArray TM)) c3 TM
  have k4 := Blk.made ((((w.alloc (.cells c0.toArray TM)).alloc (.cells c1.toArray TM)).alloc (.cells zeroMC.toArray TM)).alloc (.cells c3.toArray TM)) [v, v'] 30
  simp only [World.size_alloc] at k2 k3 k4
  unfold fiveW
  refine ⟨⟨(((k0.alloc _).alloc _).alloc _).alloc _, (k2.alloc _).alloc _, k3.alloc _⟩, ((((((Upd.refl _ w).alloc _).alloc _).alloc _).alloc _).alloc _), by simp only [World.size_alloc], k4⟩
theorem joinM_upd (W : World) (n : Nat) (v : Value) : Upd (fun b => b = n + 1 + 1 + 1) W (W.setCell ⟨n + 1 + 1 + 1, 6, none⟩ v) := (Upd.refl _ W).set (fun _ => rfl)
/-- The two rows, one behind the other. -/
theorem join_call (w : World) (c0 c1 c3 : List Value) (p p' : Option Addr) (c c' : Nat) (ps ps' : List Txt) (h : RowOf txtc 1 w (.slice p ps.length c) ps) (h' : RowOf txtc 1 w (.slice p' ps'.length c') ps') (hl : ps.length ≤ 100000) (hl' : ps'.length ≤ 100000) :
    Calls Tryz.prog 86 #[.slice (some ⟨w.heap.size + 1 + 1 + 1 + 1, 0, none⟩) 2 2] (fiveW w c0 c1 c3 (.slice p ps.length c) (.slice p' ps'.length c')) fun e w' => ∃ v', e = .returned v' ∧ TxtsAt w' (w.heap.size + 5) v' (ps ++ ps') ∧ Upd (fun _ => False) (fiveW w c0 c1 c3 (.slice p ps.length c) (.slice p' ps'.length c')) w' := by
  obtain ⟨_, u, hz, hb⟩ := fiveW_fb w c0 c1 c3 (.slice p ps.length c) (.slice p' ps'.length c')
  refine (concatT_any (w.heap.size + 1 + 1 + 1 + 1) 2 [(.slice p ps.length c, ps), (.slice p' ps'.length c', ps')] (fiveW w c0 c1 c3 (.slice p ps.length c) (.slice p' ps'.length c')) hb.lt ?_ ?_ (by simp) ?_).mono ?_
  · intro j r hj
    match j with
    | 0 => simp at hj; subst hj; exact hb.cellAt rfl
    | 1 => simp at hj; subst hj; exact hb.cellAt rfl
    | j + 2 => simp at hj
  · intro r hr
    simp at hr
    rcases hr with rfl | rfl
    · exact h.keep u (fun _ _ _ h => h)
    · exact h'.keep u (fun _ _ _ h => h)
  · simp [sumR]; omega
  · rintro e w' ⟨v', rfl, t, u'⟩
    rw [hz] at t
    simp at t
    exact ⟨v', rfl, t, u'⟩
set_option maxHeartbeats 16000000 in
set_option maxRecDepth 100000 in
theorem switch_any (m m' : MD) (v v' : Value) (w : World) (h : RowOf txtc 1 w v m.ps) (h' : RowOf txtc 1 w v' m'.ps) (hl : m.ps.length ≤ 100000) (hl' : m'.ps.length ≤ 100000) (hs : ∀ t ∈ m.ps, t.length ≤ maxLen) (hs' : ∀ t ∈ m'.ps, t.length ≤ maxLen) :
    Calls Tryz.prog 45 #[mdV m v, mdV m' v'] w fun e w' => ∃ v2, e = .returned (.tuple #[mdV (switchM m m').1 v2, .int .i64 (switchM m m').2]) ∧ TxtsAt w' w.heap.size v2 (switchM m m').1.ps ∧ Upd (fun _ => False) w w' := by
  obtain ⟨p, c, rfl, hm⟩ := h.len
  obtain ⟨p', c', rfl, hm'⟩ := h'.len
  unfold maxLen at hm hm'
  obtain ⟨on, bc, oi, oo, nl, rd, ps⟩ := m
  obtain ⟨on', bc', oi', oo', nl', rd', ps'⟩ := m'
  dsimp only at *
  have CP : Hid (∀ W, Upd (fun _ => False) w W → Calls Tryz.prog 74 #[mdV ⟨on, bc, oi, oo, nl, rd, ps⟩ (.slice p ps.length c)] W fun e w' => ∃ p5 c5, e = .returned (mdV ⟨on, bc, oi, oo, nl, rd, ps⟩ (.slice p5 ps.length c5)) ∧ TxtsAt w' w.heap.size (.slice p5 ps.length c5) ps ∧ Upd (fun _ => False) W w') := fun W u => by
    refine (copy_any ⟨on, bc, oi, oo, nl, rd, ps⟩ _ W (h.keep u (fun _ _ _ h => h)) (by dsimp only; omega)).mono ?_
    rintro e w' ⟨v5, rfl, t, u2⟩
    obtain ⟨p5, c5, e5, _⟩ := own_slice t
    subst e5
    exact ⟨p5, c5, rfl, own_mono t u.size, u2⟩
  have CP' : Hid (∀ W, Upd (fun _ => False) w W → Calls Tryz.prog 74 #[mdV ⟨on', bc', oi', oo', nl', rd', ps'⟩ (.slice p' ps'.length c')] W fun e w' => ∃ p5 c5, e = .returned (mdV ⟨on', bc', oi', oo', nl', rd', ps'⟩ (.slice p5 ps'.length c5)) ∧ TxtsAt w' w.heap.size (.slice p5 ps'.length c5) ps' ∧ Upd (fun _ => False) W w') := fun W u => by
    refine (copy_any ⟨on', bc', oi', oo', nl', rd', ps'⟩ _ W (h'.keep u (fun _ _ _ h => h)) (by dsimp only; omega)).mono ?_
    rintro e w' ⟨v5, rfl, t, u2⟩
    obtain ⟨p5, c5, e5, _⟩ := own_slice t
    subst e5
    exact ⟨p5, c5, rfl, own_mono t u.size, u2⟩
  have K1 : Hid (∀ W, Upd (fun _ => False) (((w.alloc (.cells #[.bool on, .bool bc, .bool oi, .bool oo, .bool nl, .int .i64 rd, .slice p ps.length c] 32)).alloc (.cells #[.bool on', .bool bc', .bool oi', .bool oo', .bool nl', .int .i64 rd', .slice p' ps'.length c'] 32)).alloc (.cells zeroMC.toArray 32)) W → Blk W w.heap.size [.bool on, .bool bc, .bool oi, .bool oo, .bool nl, .int .i64 rd, .slice p ps.length c] 32 ∧ Blk W (w.heap.size + 1) [.bool on', .bool bc', .bool oi', .bool oo', .bool nl', .int .i64 rd', .slice p' ps'.length c'] 32 ∧ Blk W (w.heap.size + 1 + 1) zeroMC 32) := fun W u => by
    have k0 := Blk.made w [.bool on, .bool bc, .bool oi, .bool oo, .bool nl, .int .i64 rd, .slice p ps.length c] 32
    have k1 := Blk.made (w.alloc (.cells #[.bool on, .bool bc, .bool oi, .bool oo, .bool nl, .int .i64 rd, .slice p ps.length c] 32)) [.bool on', .bool bc', .bool oi', .bool oo', .bool nl', .int .i64 rd', .slice p' ps'.length c'] 32
    have k2 := Blk.made ((w.alloc (.cells #[.bool on, .bool bc, .bool oi, .bool oo, .bool nl, .int .i64 rd, .slice p ps.length c] 32)).alloc (.cells #[.bool on', .bool bc', .bool oi', .bool oo', .bool nl', .int .i64 rd', .slice p' ps'.length c'] 32)) zeroMC 32
    simp only [World.size_alloc] at k1 k2
    exact ⟨u.blk ((k0.alloc _).alloc _) (fun h => h), u.blk (k1.alloc _) (fun h => h), u.blk k2 (fun h => h)⟩
  have H := Lib.hid h
  have H' := Lib.hid h'
  have HS := Lib.hid hs
  have HS' := Lib.hid hs'
  clear h h' hs hs'
  have U3 : Hid (∀ o o' o'', Upd (fun _ => False) w (((w.alloc o).alloc o').alloc o'')) := fun o o' o'' => (((Upd.refl _ _).alloc o).alloc o').alloc o''
  have SW0 := Lib.hid (show switchM ⟨on, bc, oi, oo, nl, rd, ps⟩ ⟨on', bc', oi', oo', nl', rd', ps'⟩ = _ from rfl)
  unfold mdV at CP CP' ⊢
  dsimp only at *
  by_cases h1 : on = false ∨ on' = false
  · have SW : Hid (switchM ⟨on, bc, oi, oo, nl, rd, ps⟩ ⟨on', bc', oi', oo', nl', rd', ps'⟩ = (⟨on', bc', oi', oo', nl', rd', ps'⟩, 0)) := by
      show _ = _; unfold switchM; rw [if_pos h1]
    generalize switchM ⟨on, bc, oi, oo, nl, rd, ps⟩ ⟨on', bc', oi', oo', nl', rd', ps'⟩ = sw at *
    clear SW0 CP
    cases on with
    | false =>
      go_enter Tryz.func45, Tryz.ntmps45
      go_wp2_with fail
      refine (CP'.out _ (U3.out _ _ _)).mono ?_
      rintro e w5 ⟨p5, c5, rfl, t5, u5⟩
      obtain ⟨b0, b1, b2⟩ := K1.out w5 u5
      clear b0 b1 CP'
      obtain ⟨x1, f1, e0, e1, e2, e3, e4, e5, e6⟩ := mode_facts b2
      have T5 := Lib.hid t5
      have B2 := Lib.hid b2
      have UW := Lib.hid (((((Upd.refl (fun _ => False) w).alloc _).alloc _).alloc _).trans u5 (fun _ _ h => h))
      clear t5 u5 b2
      go_wp2
      have bF := setM_blk (a0 := .bool on') (a1 := .bool bc') (a2 := .bool oi') (a3 := .bool oo') (a4 := .bool nl') (a5 := .int .i64 rd') (a6 := .slice p5 ps'.length c5) B2.out
      unfold setM at bF
      obtain ⟨_, _, h0, h1, h2, h3, h4, h5, h6⟩ := mode_facts bF
      refine bodyPost_ret (v := .tuple #[.agg #[.bool on', .bool bc', .bool oi', .bool oo', .bool nl', .int .i64 rd', .slice p5 ps'.length c5], .int .i64 0]) (by simp [results, Tryz.results45, go_sem, h0, h1, h2, h3, h4, h5, h6]) rfl ⟨.slice p5 ps'.length c5, ?_, ?_, ?_⟩
      · rw [SW.out]
      · rw [SW.out]
        have us := setM_upd (b := w.heap.size + 1 + 1) (a0 := .bool on') (a1 := .bool bc') (a2 := .bool oi') (a3 := .bool oo') (a4 := .bool nl') (a5 := .int .i64 rd') (a6 := .slice p5 ps'.length c5) (Upd.refl (fun b => b = w.heap.size + 1 + 1) w5) (fun _ => rfl)
        unfold setM at us
        refine own_keep T5.out us (fun b hb e => ?_)
        obtain ⟨_, _, cs, hs⟩ := own_lt T5.out hb
        subst e
        exact ty_ne (B2.out.ty hs)
      · have us := setM_upd (b := w.heap.size + 1 + 1) (a0 := .bool on') (a1 := .bool bc') (a2 := .bool oi') (a3 := .bool oo') (a4 := .bool nl') (a5 := .int .i64 rd') (a6 := .slice p5 ps'.length c5) UW.out (fun h => absurd h (Nat.not_lt.2 (Nat.le_add_right _ 2)))
        unfold setM at us
        exact us
    | true =>
      obtain rfl : on' = false := by simpa using h1
      go_enter Tryz.func45, Tryz.ntmps45
      go_wp2_with fail
      refine (CP'.out _ (U3.out _ _ _)).mono ?_
      rintro e w5 ⟨p5, c5, rfl, t5, u5⟩
      obtain ⟨b0, b1, b2⟩ := K1.out w5 u5
      clear b0 b1 CP'
      obtain ⟨x1, f1, e0, e1, e2, e3, e4, e5, e6⟩ := mode_facts b2
      have T5 := Lib.hid t5
      have B2 := Lib.hid b2
      have UW := Lib.hid (((((Upd.refl (fun _ => False) w).alloc _).alloc _).alloc _).trans u5 (fun _ _ h => h))
      clear t5 u5 b2
      go_wp2
      have bF := setM_blk (a0 := .bool false) (a1 := .bool bc') (a2 := .bool oi') (a3 := .bool oo') (a4 := .bool nl') (a5 := .int .i64 rd') (a6 := .slice p5 ps'.length c5) B2.out
      unfold setM at bF
      obtain ⟨_, _, h0, h1, h2, h3, h4, h5, h6⟩ := mode_facts bF
      refine bodyPost_ret (v := .tuple #[.agg #[.bool false, .bool bc', .bool oi', .bool oo', .bool nl', .int .i64 rd', .slice p5 ps'.length c5], .int .i64 0]) (by simp [results, Tryz.results45, go_sem, h0, h1, h2, h3, h4, h5, h6]) rfl ⟨.slice p5 ps'.length c5, ?_, ?_, ?_⟩
      · rw [SW.out]
      · rw [SW.out]
        have us := setM_upd (b := w.heap.size + 1 + 1) (a0 := .bool false) (a1 := .bool bc') (a2 := .bool oi') (a3 := .bool oo') (a4 := .bool nl') (a5 := .int .i64 rd') (a6 := .slice p5 ps'.length c5) (Upd.refl (fun b => b = w.heap.size + 1 + 1) w5) (fun _ => rfl)
        unfold setM at us
        refine own_keep T5.out us (fun b hb e => ?_)
        obtain ⟨_, _, cs, hs⟩ := own_lt T5.out hb
        subst e
        exact ty_ne (B2.out.ty hs)
      · have us := setM_upd (b := w.heap.size + 1 + 1) (a0 := .bool false) (a1 := .bool bc') (a2 := .bool oi') (a3 := .bool oo') (a4 := .bool nl') (a5 := .int .i64 rd') (a6 := .slice p5 ps'.length c5) UW.out (fun h => absurd h (Nat.not_lt.2 (Nat.le_add_right _ 2)))
        unfold setM at us
        exact us
  · obtain ⟨rfl, rfl⟩ : on = true ∧ on' = true := by
      cases on <;> cases on' <;> simp_all
    by_cases h2 : bc ≠ bc' ∨ oi ≠ oi' ∨ oo ≠ oo'
    · have SW : Hid (switchM ⟨true, bc, oi, oo, nl, rd, ps⟩ ⟨true, bc', oi', oo', nl', rd', ps'⟩ = (⟨true, bc, oi, oo, nl, rd, ps⟩, 132)) := by
        show _ = _; unfold switchM; rw [if_neg h1]; dsimp only; rw [if_pos h2]
      generalize switchM ⟨true, bc, oi, oo, nl, rd, ps⟩ ⟨true, bc', oi', oo', nl', rd', ps'⟩ = sw at *
      clear SW0 CP' h1
      by_cases g1 : bc = bc'
      · subst g1
        by_cases g2 : oi = oi'
        · subst g2
          obtain rfl : oo' = !oo := by cases oo <;> cases oo' <;> simp_all
          go_enter Tryz.func45, Tryz.ntmps45
          go_wp2_with fail
          refine (CP.out _ (U3.out _ _ _)).mono ?_
          rintro e w5 ⟨p5, c5, rfl, t5, u5⟩
          obtain ⟨b0, b1, b2⟩ := K1.out w5 u5
          clear b0 b1 CP
          obtain ⟨x1, f1, e0, e1, e2, e3, e4, e5, e6⟩ := mode_facts b2
          have T5 := Lib.hid t5
          have B2 := Lib.hid b2
          have UW := Lib.hid (((((Upd.refl (fun _ => False) w).alloc _).alloc _).alloc _).trans u5 (fun _ _ h => h))
          clear t5 u5 b2
          go_wp2
          have bF := setM_blk (a0 := .bool true) (a1 := .bool bc) (a2 := .bool oi) (a3 := .bool oo) (a4 := .bool nl) (a5 := .int .i64 rd) (a6 := .slice p5 ps.length c5) B2.out
          unfold setM at bF
          obtain ⟨_, _, h0, h1, h2, h3, h4, h5, h6⟩ := mode_facts bF
          refine bodyPost_ret (v := .tuple #[.agg #[.bool true, .bool bc, .bool oi, .bool oo, .bool nl, .int .i64 rd, .slice p5 ps.length c5], .int .i64 132]) (by simp [results, Tryz.results45, go_sem, h0, h1, h2, h3, h4, h5, h6]) rfl ⟨.slice p5 ps.length c5, ?_, ?_, ?_⟩
          · rw [SW.out]
          · rw [SW.out]
            have us := setM_upd (b := w.heap.size + 1 + 1) (a0 := .bool true) (a1 := .bool bc) (a2 := .bool oi) (a3 := .bool oo) (a4 := .bool nl) (a5 := .int .i64 rd) (a6 := .slice p5 ps.length c5) (Upd.refl (fun b => b = w.heap.size + 1 + 1) w5) (fun _ => rfl)
            unfold setM at us
            refine own_keep T5.out us (fun b hb e => ?_)
            obtain ⟨_, _, cs, hs⟩ := own_lt T5.out hb
            subst e
            exact ty_ne (B2.out.ty hs)
          · have us := setM_upd (b := w.heap.size + 1 + 1) (a0 := .bool true) (a1 := .bool bc) (a2 := .bool oi) (a3 := .bool oo) (a4 := .bool nl) (a5 := .int .i64 rd) (a6 := .slice p5 ps.length c5) UW.out (fun h => absurd h (Nat.not_lt.2 (Nat.le_add_right _ 2)))
            unfold setM at us
            exact us
        · obtain rfl : oi' = !oi := by cases oi <;> cases oi' <;> simp_all
          go_enter Tryz.func45, Tryz.ntmps45
          go_wp2_with fail
          refine (CP.out _ (U3.out _ _ _)).mono ?_
          rintro e w5 ⟨p5, c5, rfl, t5, u5⟩
          obtain ⟨b0, b1, b2⟩ := K1.out w5 u5
          clear b0 b1 CP
          obtain ⟨x1, f1, e0, e1, e2, e3, e4, e5, e6⟩ := mode_facts b2
          have T5 := Lib.hid t5
          have B2 := Lib.hid b2
          have UW := Lib.hid (((((Upd.refl (fun _ => False) w).alloc _).alloc _).alloc _).trans u5 (fun _ _ h => h))
          clear t5 u5 b2
          go_wp2
          have bF := setM_blk (a0 := .bool true) (a1 := .bool bc) (a2 := .bool oi) (a3 := .bool oo) (a4 := .bool nl) (a5 := .int .i64 rd) (a6 := .slice p5 ps.length c5) B2.out
          unfold setM at bF
          obtain ⟨_, _, h0, h1, h2, h3, h4, h5, h6⟩ := mode_facts bF
          refine bodyPost_ret (v := .tuple #[.agg #[.bool true, .bool bc, .bool oi, .bool oo, .bool nl, .int .i64 rd, .slice p5 ps.length c5], .int .i64 132]) (by simp [results, Tryz.results45, go_sem, h0, h1, h2, h3, h4, h5, h6]) rfl ⟨.slice p5 ps.length c5, ?_, ?_, ?_⟩
          · rw [SW.out]
          · rw [SW.out]
            have us := setM_upd (b := w.heap.size + 1 + 1) (a0 := .bool true) (a1 := .bool bc) (a2 := .bool oi) (a3 := .bool oo) (a4 := .bool nl) (a5 := .int .i64 rd) (a6 := .slice p5 ps.length c5) (Upd.refl (fun b => b = w.heap.size + 1 + 1) w5) (fun _ => rfl)
            unfold setM at us
            refine own_keep T5.out us (fun b hb e => ?_)
            obtain ⟨_, _, cs, hs⟩ := own_lt T5.out hb
            subst e
            exact ty_ne (B2.out.ty hs)
          · have us := setM_upd (b := w.heap.size + 1 + 1) (a0 := .bool true) (a1 := .bool bc) (a2 := .bool oi) (a3 := .bool oo) (a4 := .bool nl) (a5 := .int .i64 rd) (a6 := .slice p5 ps.length c5) UW.out (fun h => absurd h (Nat.not_lt.2 (Nat.le_add_right _ 2)))
            unfold setM at us
            exact us
      · obtain rfl : bc' = !bc := by cases bc <;> cases bc' <;> simp_all
        go_enter Tryz.func45, Tryz.ntmps45
        go_wp2_with fail
        refine (CP.out _ (U3.out _ _ _)).mono ?_
        rintro e w5 ⟨p5, c5, rfl, t5, u5⟩
        obtain ⟨b0, b1, b2⟩ := K1.out w5 u5
        clear b0 b1 CP
        obtain ⟨x1, f1, e0, e1, e2, e3, e4, e5, e6⟩ := mode_facts b2
        have T5 := Lib.hid t5
        have B2 := Lib.hid b2
        have UW := Lib.hid (((((Upd.refl (fun _ => False) w).alloc _).alloc _).alloc _).trans u5 (fun _ _ h => h))
        clear t5 u5 b2
        go_wp2
        have bF := setM_blk (a0 := .bool true) (a1 := .bool bc) (a2 := .bool oi) (a3 := .bool oo) (a4 := .bool nl) (a5 := .int .i64 rd) (a6 := .slice p5 ps.length c5) B2.out
        unfold setM at bF
        obtain ⟨_, _, h0, h1, h2, h3, h4, h5, h6⟩ := mode_facts bF
        refine bodyPost_ret (v := .tuple #[.agg #[.bool true, .bool bc, .bool oi, .bool oo, .bool nl, .int .i64 rd, .slice p5 ps.length c5], .int .i64 132]) (by simp [results, Tryz.results45, go_sem, h0, h1, h2, h3, h4, h5, h6]) rfl ⟨.slice p5 ps.length c5, ?_, ?_, ?_⟩
        · rw [SW.out]
        · rw [SW.out]
          have us := setM_upd (b := w.heap.size + 1 + 1) (a0 := .bool true) (a1 := .bool bc) (a2 := .bool oi) (a3 := .bool oo) (a4 := .bool nl) (a5 := .int .i64 rd) (a6 := .slice p5 ps.length c5) (Upd.refl (fun b => b = w.heap.size + 1 + 1) w5) (fun _ => rfl)
          unfold setM at us
          refine own_keep T5.out us (fun b hb e => ?_)
          obtain ⟨_, _, cs, hs⟩ := own_lt T5.out hb
          subst e
          exact ty_ne (B2.out.ty hs)
        · have us := setM_upd (b := w.heap.size + 1 + 1) (a0 := .bool true) (a1 := .bool bc) (a2 := .bool oi) (a3 := .bool oo) (a4 := .bool nl) (a5 := .int .i64 rd) (a6 := .slice p5 ps.length c5) UW.out (fun h => absurd h (Nat.not_lt.2 (Nat.le_add_right _ 2)))
          unfold setM at us
          exact us
    · obtain ⟨rfl, rfl, rfl⟩ : bc = bc' ∧ oi = oi' ∧ oo = oo' := by
        refine ⟨?_, ?_, ?_⟩ <;> (apply Classical.byContradiction; intro g; apply h2; simp [g])
      have SW : Hid (switchM ⟨true, bc, oi, oo, nl, rd, ps⟩ ⟨true, bc, oi, oo, nl', rd', ps'⟩ = (if rightM ⟨true, bc, oi, oo, nl', rd', uniT (ps ++ ps')⟩ = true then (⟨true, bc, oi, oo, nl', rd', uniT (ps ++ ps')⟩, 0) else (⟨true, bc, oi, oo, nl, rd, ps⟩, 132))) := by
        show _ = _; unfold switchM; rw [if_neg h1]; dsimp only; rw [if_neg h2]; rfl
      have CC := join_call w [.bool true, .bool bc, .bool oi, .bool oo, .bool nl, .int .i64 rd, .slice p ps.length c] [.bool true, .bool bc, .bool oi, .bool oo, .bool nl', .int .i64 rd', .slice p' ps'.length c'] [.bool true, .bool bc, .bool oi, .bool oo, .bool nl', .int .i64 rd', .slice p' ps'.length c'] p p' c c' ps ps' H.out H'.out hl hl'
      obtain ⟨F0, U0, Z0, _⟩ := fiveW_fb w [.bool true, .bool bc, .bool oi, .bool oo, .bool nl, .int .i64 rd, .slice p ps.length c] [.bool true, .bool bc, .bool oi, .bool oo, .bool nl', .int .i64 rd', .slice p' ps'.length c'] [.bool true, .bool bc, .bool oi, .bool oo, .bool nl', .int .i64 rd', .slice p' ps'.length c'] (.slice p ps.length c) (.slice p' ps'.length c')
      have CC := Lib.hid CC
      have F0 := Lib.hid F0
      have U0 := Lib.hid U0
      clear CP' SW0 h1 h2 K1 U3 H'
      generalize switchM ⟨true, bc, oi, oo, nl, rd, ps⟩ ⟨true, bc, oi, oo, nl', rd', ps'⟩ = sw at *
      go_enter Tryz.func45, Tryz.ntmps45
      go_wp2_with fail
      refine CC.out.mono ?_
      rintro e w5 ⟨v1, rfl, t1, u1⟩
      obtain ⟨js, JS⟩ : ∃ js, js = ps ++ ps' := ⟨_, rfl⟩
      rw [← JS] at t1
      have hj : js.length ≤ 200000 := by rw [JS, List.length_append]; omega
      obtain ⟨p1, k1, ev1, _⟩ := own_slice t1
      subst ev1
      generalize js.length = n1 at t1
      have F1 := F0.out.keep u1 (fun _ _ h => h)
      have U1 := U0.out.trans u1 (fun _ _ h => h)
      have F1s := F1.set (.slice p1 n1 k1)
      have t1s := own_keep t1 (joinM_upd w5 w.heap.size (.slice p1 n1 k1)) (fun b hb e => by have := (own_lt t1 hb).2.1; omega)
      have U1s := U1.trans (joinM_upd w5 w.heap.size (.slice p1 n1 k1)) (fun b hb e => by omega)
      dsimp only [List.set] at F1s
      obtain ⟨x0, f0, e0, e1, e2, e3, e4, e5, e6⟩ := mode_facts F1.1
      obtain ⟨x2, f2, _⟩ := mode_facts F1.2.1
      obtain ⟨x3, f3, d0, d1, d2, d3, d4, d5, d6⟩ := mode_facts F1.2.2
      have F1s := Lib.hid F1s
      have t1s := Lib.hid t1s
      have U1s := Lib.hid U1s
      clear F1 U1 t1 u1
      go_wp2_with fail
      refine (sortT_any _ _ _ _ t1s.out (Nat.le_trans hj (by decide))).mono ?_
      rintro e w6 ⟨rfl, t2, u2⟩
      have F2 := F1s.out.keep u2 (fun b hb e => by have := (own_lt t1s.out e).2.1; omega)
      have U2 := U1s.out.trans u2 (fun b hb e => by have := (own_lt t1s.out e).2.1; omega)
      obtain ⟨x0, f0, e0, e1, e2, e3, e4, e5, e6⟩ := mode_facts F2.1
      obtain ⟨x2, f2, _⟩ := mode_facts F2.2.1
      obtain ⟨x3, f3, d0, d1, d2, d3, d4, d5, d6⟩ := mode_facts F2.2.2
      have F2 := Lib.hid F2
      have t2 := Lib.hid t2
      have U2 := Lib.hid U2
      clear F1s t1s U1s u2
      go_wp2_with fail
      refine (compactT_any _ _ _ _ t2.out (by rw [List.length_mergeSort]; exact Nat.le_trans hj (by decide))).mono ?_
      rintro e w7 ⟨v2, rfl, t3, u3⟩
      rw [sortT_uni, JS] at t3
      obtain ⟨qs, QS⟩ : ∃ qs, qs = uniT (ps ++ ps') := ⟨_, rfl⟩
      rw [← QS] at t3 SW
      have hq : qs.length ≤ 200000 := by rw [QS, ← sortT_uni]; exact Nat.le_trans (Lib.compact_length_le _) (by rw [List.length_mergeSort, ← JS]; exact hj)
      have hqs : ∀ t ∈ qs, t.length ≤ maxLen := fun t ht => by
        rw [QS] at ht
        rcases List.mem_append.1 (uniT_mem.1 ht) with g | g
        · exact HS.out t g
        · exact HS'.out t g
      obtain ⟨p5, c5, ev2, _⟩ := own_slice t3
      subst ev2
      have hn2 : Hid (∃ n2, n2 = qs.length) := ⟨_, rfl⟩
      generalize hN2 : qs.length = n2 at t3
      have F3 := F2.out.keep u3 (fun b hb e => by have := (own_lt t2.out e).2.1; omega)
      have U3 := U2.out.trans u3 (fun b hb e => by have := (own_lt t2.out e).2.1; omega)
      have F3s := F3.set (.slice p5 n2 c5)
      have t3s := own_keep t3 (joinM_upd w7 w.heap.size (.slice p5 n2 c5)) (fun b hb e => by have := (own_lt t3 hb).2.1; omega)
      have U3s := U3.trans (joinM_upd w7 w.heap.size (.slice p5 n2 c5)) (fun b hb e => by omega)
      dsimp only [List.set] at F3s
      obtain ⟨x0, f0, e0, e1, e2, e3, e4, e5, e6⟩ := mode_facts F3.1
      obtain ⟨x2, f2, _⟩ := mode_facts F3.2.1
      obtain ⟨x3, f3, d0, d1, d2, d3, d4, d5, d6⟩ := mode_facts F3.2.2
      have F3s := Lib.hid F3s
      have t3s := Lib.hid t3s
      have U3s := Lib.hid U3s
      clear F2 F3 t2 t3 U2 U3 u3
      go_wp2_with fail
      have RG := right_any ⟨true, bc, oi, oo, nl', rd', qs⟩ (.slice p5 n2 c5) _ (txts_row t3s.out) (Nat.le_trans hq (by decide)) hqs
      unfold mdV at RG
      dsimp only at RG
      refine RG.mono ?_
      rintro e w8 ⟨rfl, u4⟩
      have F4 := F3s.out.keep u4 (fun _ _ h => h)
      have T4 := own_mono (own_keep t3s.out u4 (fun _ _ h => h)) (show w.heap.size ≤ w.heap.size + 5 by omega)
      have U4 := U3s.out.trans u4 (fun _ _ h => h)
      obtain ⟨x0, f0, e0, e1, e2, e3, e4, e5, e6⟩ := mode_facts F4.1
      obtain ⟨x2, f2, _⟩ := mode_facts F4.2.1
      obtain ⟨x3, f3, d0, d1, d2, d3, d4, d5, d6⟩ := mode_facts F4.2.2
      have F4 := Lib.hid F4
      have T4 := Lib.hid T4
      have U4 := Lib.hid U4
      clear F3s t3s U3s u4 hqs hq hN2 hn2 RG
      cases hr : rightM ⟨true, bc, oi, oo, nl', rd', qs⟩ with
      | true =>
        have SW : Hid (sw = (⟨true, bc, oi, oo, nl', rd', qs⟩, 0)) := by show _ = _; rw [SW.out, if_pos hr]
        obtain ⟨w5, W5⟩ : ∃ w5, w5 = w8 := ⟨_, rfl⟩
        subst W5
        have b2 := F4.out.2.1
        have t5 := T4.out
        have u5 := U4.out
        obtain ⟨x1, f1, e0, e1, e2, e3, e4, e5, e6⟩ := mode_facts b2
        have T5 := Lib.hid t5
        have B2 := Lib.hid b2
        have UW := Lib.hid (u5)
        clear t5 u5 b2
        go_wp2
        have bF := setM_blk (a0 := .bool true) (a1 := .bool bc) (a2 := .bool oi) (a3 := .bool oo) (a4 := .bool nl') (a5 := .int .i64 rd') (a6 := .slice p5 n2 c5) B2.out
        unfold setM at bF
        obtain ⟨_, _, h0, h1, h2, h3, h4, h5, h6⟩ := mode_facts bF
        refine bodyPost_ret (v := .tuple #[.agg #[.bool true, .bool bc, .bool oi, .bool oo, .bool nl', .int .i64 rd', .slice p5 n2 c5], .int .i64 0]) (by simp [results, Tryz.results45, go_sem, h0, h1, h2, h3, h4, h5, h6]) rfl ⟨.slice p5 n2 c5, ?_, ?_, ?_⟩
        · rw [SW.out]
        · rw [SW.out]
          have us := setM_upd (b := w.heap.size + 1 + 1) (a0 := .bool true) (a1 := .bool bc) (a2 := .bool oi) (a3 := .bool oo) (a4 := .bool nl') (a5 := .int .i64 rd') (a6 := .slice p5 n2 c5) (Upd.refl (fun b => b = w.heap.size + 1 + 1) w5) (fun _ => rfl)
          unfold setM at us
          refine own_keep T5.out us (fun b hb e => ?_)
          obtain ⟨_, _, cs, hs⟩ := own_lt T5.out hb
          subst e
          exact ty_ne (B2.out.ty hs)
        · have us := setM_upd (b := w.heap.size + 1 + 1) (a0 := .bool true) (a1 := .bool bc) (a2 := .bool oi) (a3 := .bool oo) (a4 := .bool nl') (a5 := .int .i64 rd') (a6 := .slice p5 n2 c5) UW.out (fun h => absurd h (Nat.not_lt.2 (Nat.le_add_right _ 2)))
          unfold setM at us
          exact us
      | false =>
        have SW : Hid (sw = (⟨true, bc, oi, oo, nl, rd, ps⟩, 132)) := by show _ = _; rw [SW.out, if_neg (by rw [hr]; exact Bool.false_ne_true)]
        go_wp2_with fail
        refine (CP.out _ U4.out).mono ?_
        rintro e w5 ⟨p5, c5, rfl, t5, u9⟩
        have b2 := u9.blk F4.out.2.1 (fun h => h)
        have u5 := U4.out.trans u9 (fun _ _ h => h)
        clear CP u9
        obtain ⟨x1, f1, e0, e1, e2, e3, e4, e5, e6⟩ := mode_facts b2
        have T5 := Lib.hid t5
        have B2 := Lib.hid b2
        have UW := Lib.hid (u5)
        clear t5 u5 b2
        go_wp2
        have bF := setM_blk (a0 := .bool true) (a1 := .bool bc) (a2 := .bool oi) (a3 := .bool oo) (a4 := .bool nl) (a5 := .int .i64 rd) (a6 := .slice p5 ps.length c5) B2.out
        unfold setM at bF
        obtain ⟨_, _, h0, h1, h2, h3, h4, h5, h6⟩ := mode_facts bF
        refine bodyPost_ret (v := .tuple #[.agg #[.bool true, .bool bc, .bool oi, .bool oo, .bool nl, .int .i64 rd, .slice p5 ps.length c5], .int .i64 132]) (by simp [results, Tryz.results45, go_sem, h0, h1, h2, h3, h4, h5, h6]) rfl ⟨.slice p5 ps.length c5, ?_, ?_, ?_⟩
        · rw [SW.out]
        · rw [SW.out]
          have us := setM_upd (b := w.heap.size + 1 + 1) (a0 := .bool true) (a1 := .bool bc) (a2 := .bool oi) (a3 := .bool oo) (a4 := .bool nl) (a5 := .int .i64 rd) (a6 := .slice p5 ps.length c5) (Upd.refl (fun b => b = w.heap.size + 1 + 1) w5) (fun _ => rfl)
          unfold setM at us
          refine own_keep T5.out us (fun b hb e => ?_)
          obtain ⟨_, _, cs, hs⟩ := own_lt T5.out hb
          subst e
          exact ty_ne (B2.out.ty hs)
        · have us := setM_upd (b := w.heap.size + 1 + 1) (a0 := .bool true) (a1 := .bool bc) (a2 := .bool oi) (a3 := .bool oo) (a4 := .bool nl) (a5 := .int .i64 rd) (a6 := .slice p5 ps.length c5) UW.out (fun h => absurd h (Nat.not_lt.2 (Nat.le_add_right _ 2)))
          unfold setM at us
          exact us
end Go.Proofs.YtmlojbfcmebboaaGreat
/- Walks: what a client is told; what it says of the next command; its mode; a client more. -/
set_option linter.unusedVariables false
set_option linter.unusedSimpArgs false
set_option linter.unusedSectionVars false
namespace Go.Proofs.YtmlojbfcmebboaaGreat
open Go.RowKit

/-- A notice. -/
structure NT where
  kd : Int
  dst : Int
  who : Int
  key : ByteArray
  deriving DecidableEq
def ntc (n : NT) : List Value := [.int .i64 n.kd, .int .i64 n.dst, .int .i64 n.who, .string n.key]
def ntV (n : NT) : Value := .agg #[.int .i64 n.kd, .int .i64 n.dst, .int .i64 n.who, .string n.key]
/-- What a client is told. -/
def toldP (C : Int → Option CL) (kind id : Int) (key : ByteArray) : NT := ⟨kind, match C id with | some c => if c.md.rd = 0 then id else c.md.rd | none => id, id, key⟩
abbrev zeroNC : List Value := [.int .i64 0, .int .i64 0, .int .i64 0, .string { data := #[] }]
/-- A fresh block of four cells, written whole. -/
def setN (w : World) (b : Nat) (a0 a1 a2 a3 : Value) : World := (((w.setCell ⟨b, 0, none⟩ a0).setCell ⟨b, 1, none⟩ a1).setCell ⟨b, 2, none⟩ a2).setCell ⟨b, 3, none⟩ a3
theorem setN_blk {w : World} {b : Nat} {c0 c1 c2 c3 a0 a1 a2 a3 : Value} {T : TypeId} (h : Blk w b [c0, c1, c2, c3] T) : Blk (setN w b a0 a1 a2 a3) b [a0, a1, a2, a3] T := (((h.set 0 a0).set 1 a1).set 2 a2).set 3 a3
theorem setN_upd {F : Nat → Prop} {a w : World} {b : Nat} {a0 a1 a2 a3 : Value} (h : Upd F a w) (hp : b < a.heap.size → F b) : Upd F a (setN w b a0 a1 a2 a3) := (((h.set hp).set hp).set hp).set hp
theorem four_facts {w : World} {b : Nat} {c0 c1 c2 c3 : Value} {T : TypeId} (h : Blk w b [c0, c1, c2, c3] T) :
    b < w.heap.size ∧ (∀ i, w.frozen? ⟨b, i, none⟩ = false) ∧ w.cell? ⟨b, 0, none⟩ = some c0 ∧ w.cell? ⟨b, 1, none⟩ = some c1 ∧ w.cell? ⟨b, 2, none⟩ = some c2 ∧ w.cell? ⟨b, 3, none⟩ = some c3 :=
  ⟨h.lt, fun i => h.free i, h.cellAt rfl, h.cellAt rfl, h.cellAt rfl, h.cellAt rfl⟩
theorem cl_facts {w : World} {b : Nat} {c : CL} {v : Value} {T : TypeId} (h : Blk w b (clc c v) T) :
    b < w.heap.size ∧ (∀ i, w.frozen? ⟨b, i, none⟩ = false) ∧ w.cell? ⟨b, 0, none⟩ = some (.bool c.md.on) ∧ w.cell? ⟨b, 1, none⟩ = some (.bool c.md.bc) ∧ w.cell? ⟨b, 2, none⟩ = some (.bool c.md.oi) ∧ w.cell? ⟨b, 3, none⟩ = some (.bool c.md.oo) ∧ w.cell? ⟨b, 4, none⟩ = some (.bool c.md.nl) ∧ w.cell? ⟨b, 5, none⟩ = some (.int .i64 c.md.rd) ∧ w.cell? ⟨b, 6, none⟩ = some v ∧ w.cell? ⟨b, 7, none⟩ = some (.int .i64 c.cg) :=
  ⟨h.lt, fun i => h.free i, h.cellAt rfl, h.cellAt rfl, h.cellAt rfl, h.cellAt rfl, h.cellAt rfl, h.cellAt rfl, h.cellAt rfl, h.cellAt rfl⟩
theorem upd_self {α β : Type} [DecidableEq α] (f : α → β) (a : α) : upd f a (f a) = f := by
  funext j
  by_cases e : j = a
  · subst e; rw [upd_at]
  · rw [upd_ne _ _ e]
section
variable {w w' : World} {base tb cm kb pb : Nat} {Q : List (Int × Value)} {cb : Int → Nat} {vs : Int → Value} {C : Int → Option CL} {most : Int} {L : Rows14} {n : Nat} {E : Nat → Prop} {P : Txt → Int → Prop} {N : Nat} {F : Nat → Prop}
theorem TRaw.lookN (h : TRaw w base tb cm kb pb Q cb vs C most L n E P N F) {id : Int} (hc : C id = none) : (Instr.lookup 89 (.map (some cm)) (.int .i64 id) false).run Tryz.prog w = .ok (.pointer none) w := by
  have := h.look id; rw [hc] at this; exact this
theorem TRaw.lookS (h : TRaw w base tb cm kb pb Q cb vs C most L n E P N F) {id : Int} {c : CL} (hc : C id = some c) : (Instr.lookup 89 (.map (some cm)) (.int .i64 id) false).run Tryz.prog w = .ok (.pointer (some ⟨cb id, 0, none⟩)) w := by
  have := h.look id; rw [hc] at this; exact this
set_option maxHeartbeats 2000000 in
set_option maxRecDepth 100000 in
theorem told_any (h : TRaw w base tb cm kb pb Q cb vs C most L n E P N F) (kind id : Int) (key : ByteArray) :
    Calls Tryz.prog 51 #[.pointer (some ⟨tb, 0, none⟩), .int .i64 kind, .int .i64 id, .string key] w fun e w' => e = .returned (ntV (toldP C kind id key)) ∧ Upd (fun _ => False) w w' := by
  have UZ : Hid (Upd (fun _ => False) w (w.alloc (.cells zeroNC.toArray 40))) := (Upd.refl _ _).alloc _
  have BZ := Lib.hid (Blk.made w zeroNC 40)
  have h1 := h.keep0 UZ.out
  obtain ⟨z0, z1, _⟩ := four_facts BZ.out
  have x0 := h.blk.cellAt (i := 0) (v := .map (some cm)) rfl
  have xb := h.blk.lt
  cases hc : C id with
  | none =>
    have R : Hid (toldP C kind id key = ⟨kind, id, id, key⟩) := by show _ = _; unfold toldP; rw [hc]
    have LK := h1.lookN hc
    clear h h1 hc
    go_enter Tryz.func51, Tryz.ntmps51
    go_wp2
    obtain ⟨_, _, h0, h1, h2, h3⟩ := four_facts (Blk.made w [.int .i64 kind, .int .i64 id, .int .i64 id, .string key] 40)
    exact bodyPost_ret (v := .agg #[.int .i64 kind, .int .i64 id, .int .i64 id, .string key]) (by simp [results, Tryz.results51, go_sem, h0, h1, h2, h3]) rfl ⟨by rw [R.out]; rfl, (Upd.refl _ w).alloc _⟩
  | some c =>
    have LK := h1.lookS hc
    obtain ⟨y0, y1, _, _, _, _, _, y7, _⟩ := cl_facts (h.cl id c hc).1
    have RR : toldP C kind id key = ⟨kind, if c.md.rd = 0 then id else c.md.rd, id, key⟩ := by unfold toldP; rw [hc]
    clear h h1 hc
    generalize c.md.rd = rd at *
    by_cases hr : rd = 0
    · have R : Hid (toldP C kind id key = ⟨kind, id, id, key⟩) := by show _ = _; rw [RR, if_pos hr]
      clear RR
      subst hr
      go_enter Tryz.func51, Tryz.ntmps51
      go_wp2
      obtain ⟨_, _, h0, h1, h2, h3⟩ := four_facts (Blk.made w [.int .i64 kind, .int .i64 id, .int .i64 id, .string key] 40)
      exact bodyPost_ret (v := .agg #[.int .i64 kind, .int .i64 id, .int .i64 id, .string key]) (by simp [results, Tryz.results51, go_sem, h0, h1, h2, h3]) rfl ⟨by rw [R.out]; rfl, (Upd.refl _ w).alloc _⟩
    · have R : Hid (toldP C kind id key = ⟨kind, rd, id, key⟩) := by show _ = _; rw [RR, if_neg hr]
      have q : (rd != 0) = true := bne_iff_ne.2 hr
      clear RR hr
      go_enter Tryz.func51, Tryz.ntmps51
      go_wp2
      obtain ⟨_, _, h0, h1, h2, h3⟩ := four_facts (Blk.made w [.int .i64 kind, .int .i64 rd, .int .i64 id, .string key] 40)
      exact bodyPost_ret (v := .agg #[.int .i64 kind, .int .i64 rd, .int .i64 id, .string key]) (by simp [results, Tryz.results51, go_sem, h0, h1, h2, h3]) rfl ⟨by rw [R.out]; rfl, (Upd.refl _ w).alloc _⟩
end
end Go.Proofs.YtmlojbfcmebboaaGreat
