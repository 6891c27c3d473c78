/- Walks: sums, and the document's answer on numbers. -/
import Derived.Test.YtcachinbmdchmaaDoorWholeA
set_option linter.unusedVariables false
set_option linter.unusedSimpArgs false
namespace Go.Proofs.YtcachinbmdchmaaDoor
open Go.RowKit Go.Sort Go.Proofs
open Whole (wparse refParse)

theorem ret_ii {a b c d : Int} (h1 : a = c) (h2 : b = d) : Ending.returned (.tuple #[.int .i64 a, .int .i64 b]) = .returned (.tuple #[.int .i64 c, .int .i64 d]) := by rw [h1, h2]
def over (n : Int) : Prop := n < -9223372036854775808 ∨ 9223372036854775807 < n
instance (n : Int) : Decidable (over n) := by unfold over; exact inferInstance
def sumN (n : Int) : Int := if over n then 0 else n
def sumE (n : Int) : Int := if over n then 12 else 0

theorem sumN_eq {x n : Int} (h1 : n < -9223372036854775808 ∨ 9223372036854775807 < n → x = 0) (h2 : -9223372036854775808 ≤ n → n ≤ 9223372036854775807 → x = n) : x = sumN n := by
  unfold sumN
  by_cases h : over n
  · rw [if_pos h]; exact h1 h
  · rw [if_neg h]; unfold over at h; exact h2 (by omega) (by omega)
theorem sumE_eq {x n : Int} (h1 : n < -9223372036854775808 ∨ 9223372036854775807 < n → x = 12) (h2 : -9223372036854775808 ≤ n → n ≤ 9223372036854775807 → x = 0) : x = sumE n := by
  unfold sumE
  by_cases h : over n
  · rw [if_pos h]; exact h1 h
  · rw [if_neg h]; unfold over at h; exact h2 (by omega) (by omega)
theorem halves (x : Int) : x = 2 * x.tdiv 2 + x.tmod 2 ∧ (0 ≤ x → 0 ≤ x.tmod 2 ∧ x.tmod 2 ≤ 1) ∧ (x ≤ 0 → -1 ≤ x.tmod 2 ∧ x.tmod 2 ≤ 0) := by
  refine ⟨(Int.mul_tdiv_add_tmod x 2).symm, fun h => ?_, fun h => ?_⟩
  · have h1 := Int.tmod_nonneg 2 h
    have h2 := Int.tmod_lt_of_pos x (show (0 : Int) < 2 by omega)
    omega
  · have h1 := Int.tmod_nonneg 2 (show 0 ≤ -x by omega)
    have h2 := Int.tmod_lt_of_pos (-x) (show (0 : Int) < 2 by omega)
    rw [Int.neg_tmod] at h1 h2
    omega

section
variable (a b : Int) (a0 : -9223372036854775808 ≤ a) (a1 : a ≤ 9223372036854775807) (b0 : -9223372036854775808 ≤ b) (b1 : b ≤ 9223372036854775807) (w : World)
theorem add_any (a0 : -9223372036854775808 ≤ a) (a1 : a ≤ 9223372036854775807) (b0 : -9223372036854775808 ≤ b) (b1 : b ≤ 9223372036854775807) :
    Calls Tryd.prog 14 #[.int .i64 a, .int .i64 b] w fun e w' => e = .returned (.tuple #[.int .i64 (sumN (a + b)), .int .i64 (sumE (a + b))]) ∧ w' = w := by
  go_enter Tryd.func14, Tryd.ntmps14
  go_wp2
  all_goals
    go_ret2
    refine ⟨ret_ii ?_ ?_, rfl⟩
  all_goals
    first | exact sumN_eq (by omega) (by omega) | exact sumE_eq (by omega) (by omega)
theorem neg_any (a0 : -9223372036854775808 ≤ a) (a1 : a ≤ 9223372036854775807) :
    Calls Tryd.prog 16 #[.int .i64 a] w fun e w' => e = .returned (.tuple #[.int .i64 (sumN (-a)), .int .i64 (sumE (-a))]) ∧ w' = w := by
  by_cases hm : a = -9223372036854775808
  · have hb : (a == -9223372036854775808) = true := by simp [hm]
    go_enter Tryd.func16, Tryd.ntmps16
    go_wp2
    all_goals
      go_ret2
      refine ⟨ret_ii ?_ ?_, rfl⟩
    all_goals
      first | exact sumN_eq (by omega) (by omega) | exact sumE_eq (by omega) (by omega)
  · have hb : (a == -9223372036854775808) = false := by simp [hm]
    have hm2 : -9223372036854775807 ≤ a := by omega
    go_enter Tryd.func16, Tryd.ntmps16
    go_wp2
    all_goals
      go_ret2
      refine ⟨ret_ii ?_ ?_, rfl⟩
    all_goals
      first | exact sumN_eq (by omega) (by omega) | exact sumE_eq (by omega) (by omega)
theorem rneg_any (a0 : -9223372036854775808 ≤ a) (a1 : a ≤ 9223372036854775807) :
    Calls Tryd.prog 17 #[.int .i64 a] w fun e w' => e = .returned (.tuple #[.int .i64 (sumN (-a)), .int .i64 (sumE (-a))]) ∧ w' = w := by
  by_cases hm : a = -9223372036854775808
  · have hb : (a == -9223372036854775808) = true := by simp [hm]
    go_enter Tryd.func17, Tryd.ntmps17
    go_wp2
    all_goals
      go_ret2
      refine ⟨ret_ii ?_ ?_, rfl⟩
    all_goals
      first | exact sumN_eq (by omega) (by omega) | exact sumE_eq (by omega) (by omega)
  · have hb : (a == -9223372036854775808) = false := by simp [hm]
    have hm2 : -9223372036854775807 ≤ a := by omega
    go_enter Tryd.func17, Tryd.ntmps17
    go_wp2
    all_goals
      go_ret2
      refine ⟨ret_ii ?_ ?_, rfl⟩
    all_goals
      first | exact sumN_eq (by omega) (by omega) | exact sumE_eq (by omega) (by omega)
theorem radd_any (a0 : -9223372036854775808 ≤ a) (a1 : a ≤ 9223372036854775807) (b0 : -9223372036854775808 ≤ b) (b1 : b ≤ 9223372036854775807) :
    Calls Tryd.prog 15 #[.int .i64 a, .int .i64 b] w fun e w' => e = .returned (.tuple #[.int .i64 (sumN (a + b)), .int .i64 (sumE (a + b))]) ∧ w' = w := by
  have A := Lib.hid (halves a)
  have B := Lib.hid (halves b)
  have C := Lib.hid (halves (a.tmod 2 + b.tmod 2))
  obtain ⟨f1, f2, f3, f4⟩ : -1 ≤ a.tmod 2 ∧ a.tmod 2 ≤ 1 ∧ -4611686018427387904 ≤ a.tdiv 2 ∧ a.tdiv 2 ≤ 4611686018427387903 := by have := A.out; omega
  obtain ⟨g1, g2, g3, g4⟩ : -1 ≤ b.tmod 2 ∧ b.tmod 2 ≤ 1 ∧ -4611686018427387904 ≤ b.tdiv 2 ∧ b.tdiv 2 ≤ 4611686018427387903 := by have := B.out; omega
  obtain ⟨m1, m2⟩ : -9223372036854775808 ≤ a.tdiv 2 + b.tdiv 2 + (a.tmod 2 + b.tmod 2).tdiv 2 ∧ a.tdiv 2 + b.tdiv 2 + (a.tmod 2 + b.tmod 2).tdiv 2 ≤ 9223372036854775807 := by have := A.out; have := B.out; have := C.out; omega
  obtain ⟨k1, k2, k3, k4⟩ : -1 ≤ (a.tmod 2 + b.tmod 2).tmod 2 ∧ (a.tmod 2 + b.tmod 2).tmod 2 ≤ 1 ∧ -1 ≤ (a.tmod 2 + b.tmod 2).tdiv 2 ∧ (a.tmod 2 + b.tmod 2).tdiv 2 ≤ 1 := by have := C.out; omega
  go_enter Tryd.func15, Tryd.ntmps15
  go_wp2
  all_goals
    go_ret2
    refine ⟨ret_ii ?_ ?_, rfl⟩
  all_goals
    obtain ⟨p1, p2, p3⟩ := A.out
    obtain ⟨q1, q2, q3⟩ := B.out
    obtain ⟨r1, r2, r3⟩ := C.out
    first | exact sumN_eq (by omega) (by omega) | exact sumE_eq (by omega) (by omega)
end
theorem size_any (n : Int) (h0 : -9223372036854775808 ≤ n) (h1 : n ≤ 9223372036854775807) (w : World) (hs : Std w) :
    Calls Tryd.prog 13 #[.int .i64 n] w fun e w' => e = .returned (.int .i64 ((txt n).size : Int)) ∧ Upd (fun _ => False) w w' := by
  have F := Lib.hid (text_any n h0 h1 w hs)
  have hl : (txt n).size ≤ 20 := Whole.itoa_len h0 h1
  generalize txt n = t at *
  clear hs h0 h1
  go_enter Tryd.func13, Tryd.ntmps13
  go_wp2_with fail
  refine F.out.mono ?_
  rintro e w' ⟨rfl, u⟩
  go_wp2
  go_ret
  exact ⟨rfl, u⟩
end Go.Proofs.YtcachinbmdchmaaDoor
