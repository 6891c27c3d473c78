/- Walks: the same dues? -/
import Derived.Test.YtokkhddbdjflhaaExpR
import Derived.Deep.QuietTactic
import Derived.BigQuiet
set_option linter.unusedVariables false
set_option linter.unusedSimpArgs false
namespace Go.Proofs.Ytokkhddbdjflhaa
open Go.RowKit

set_option maxHeartbeats 1000000 in
theorem same11_any (v1 v2 : Value) (l1 l2 : List DueP) (w : World) (h1 : RowOf duec 2 w v1 l1) (h2 : RowOf duec 2 w v2 l2) :
    Calls Try.prog 12 #[v1, v2] w fun e w' => e = .returned (.bool (decide (l1 = l2))) ∧ ∃ n, w' = w.drewN n := by
  obtain ⟨p1, k1, rfl, b1⟩ := h1.len
  obtain ⟨p2, k2, rfl, b2⟩ := h2.len
  unfold maxLen at b1 b2
  have H1 := Lib.hid h1
  have H2 := Lib.hid h2
  clear h1 h2
  by_cases hl : l1.length = l2.length
  · have hne : ((l1.length : Int) != (l2.length : Int)) = false := by simp [hl]
    have HL := Lib.hid hl
    clear hl
    go_enter Try.func12, Try.ntmps12
    go_wp2
    go_loopw [13] (fun c wr => ∃ k : Nat, k ≤ l1.length ∧ c = .int .i64 (k : Int) ∧ Hid (l1.take k = l2.take k) ∧ Hid (∃ n, wr = w.drewN n)) (fun c _ => l1.length - (intOf c).toNat)
    case atStart => exact ⟨0, by omega, rfl, by show l1.take 0 = l2.take 0; simp, 0, rfl⟩
    case round =>
      obtain ⟨k, hk, rfl, T, W⟩ := hrel
      by_cases hlt : k < l1.length
      · have hl := HL.out
        obtain ⟨x, hx⟩ : ∃ x, l1[k]? = some x := ⟨_, List.getElem?_eq_getElem hlt⟩
        obtain ⟨y, hy⟩ : ∃ y, l2[k]? = some y := ⟨_, List.getElem?_eq_getElem (by omega : k < l2.length)⟩
        have hlt2 : k < l2.length := by omega
        obtain ⟨g1, o1, q1, e1, _, c10, c11⟩ := due_cells H1.out hx
        obtain ⟨g2, o2, q2, e2, _, c20, c21⟩ := due_cells H2.out hy
        simp only [Value.slice.injEq] at e1 e2
        obtain ⟨rfl, _, rfl⟩ := e1
        obtain ⟨rfl, _, rfl⟩ := e2
        obtain ⟨n0, rfl⟩ := W.out
        have HX : Hid (l1.take (k + 1) = l1.take k ++ [x] ∧ l2.take (k + 1) = l2.take k ++ [y]) := ⟨take_snocD hx, take_snocD hy⟩
        have z1 : (k : Int) < (l1.length : Int) := by omega
        have z2 : (k : Int) < (l2.length : Int) := by omega
        clear hl hx hy
        obtain ⟨xw, xk⟩ := x
        obtain ⟨yw, yk⟩ := y
        simp only at c10 c11 c20 c21
        by_cases hxy : (xw, xk) = (yw, yk)
        · have hxy2 := hxy
          injection hxy2 with x1 x2
          have HXY := Lib.hid hxy
          subst x1 x2
          clear hxy
          go_wp2
          go_quiet (fail)
          go_wp2
          go_roundw
          case rel =>
            refine ⟨k + 1, by omega, rfl, ?_, n0 + nq, rfl⟩
            show l1.take (k + 1) = l2.take (k + 1)
            rw [HX.out.1, HX.out.2, T.out]
          case measure => simp [intOf]; omega
        · have HXY := Lib.hid hxy
          have hne : l1 ≠ l2 := by
            rintro rfl
            have := HX.out.1.symm.trans HX.out.2
            simp at this
            exact hxy (by rw [this.1, this.2])
          have HNE := Lib.hid hne
          clear hne
          by_cases g1 : xw = yw
          · subst g1
            have g2 : ¬ xk = yk := fun e => hxy (by rw [e])
            have f1 := nbeq_of g2
            have f2 : (xk == yk) = false := by rw [bytes_beq]; exact decide_eq_false g2
            clear hxy g2
            go_wp2
            go_quiet (fail)
            go_wp2
            go_ret
            exact ⟨ret_bool (by simp [HNE.out]), n0 + nq, World.drewN_drewN _ _ _⟩
          · have f1 : (xw == yw) = false := by simpa using g1
            clear hxy
            go_wp2
            go_quiet (fail)
            go_wp2
            go_ret
            exact ⟨ret_bool (by simp [HNE.out]), n0 + nq, World.drewN_drewN _ _ _⟩
      · have hk2 : k = l1.length := by omega
        subst hk2
        go_wp2
        go_ret
        refine ⟨ret_bool ?_, W.out⟩
        have := T.out
        rw [List.take_length, HL.out, List.take_length] at this
        simp [this]
  · have hne : ((l1.length : Int) != (l2.length : Int)) = true := by rw [bne_iff_ne]; omega
    have HL := Lib.hid hl
    clear hl
    go_enter Try.func12, Try.ntmps12
    go_wp2
    go_ret
    refine ⟨ret_bool ?_, 0, rfl⟩
    have : l1 ≠ l2 := fun e => HL.out (by rw [e])
    simp [this]
end Go.Proofs.Ytokkhddbdjflhaa
