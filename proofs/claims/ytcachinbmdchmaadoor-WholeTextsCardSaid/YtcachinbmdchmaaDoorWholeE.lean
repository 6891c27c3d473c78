/- Walks: names and ends; the order. -/
import Derived.Test.YtcachinbmdchmaaDoorWholeD
set_option linter.unusedVariables false
set_option linter.unusedSimpArgs false
namespace Go.Proofs.YtcachinbmdchmaaDoor
open Go.RowKit Go.Sort Go.Proofs
open Whole (wparse refParse)

theorem txt_of {l : List UInt8} {n : Int} (h : refParse l = some n) : txt n = ⟨l.toArray⟩ := by
  unfold txt; rw [((Whole.refParse_is l n).1 h).1]
def minText : ByteArray := ⟨#[45, 57, 50, 50, 51, 51, 55, 50, 48, 51, 54, 56, 53, 52, 55, 55, 53, 56, 48, 56]⟩
def overText : ByteArray := ⟨#[57, 50, 50, 51, 51, 55, 50, 48, 51, 54, 56, 53, 52, 55, 55, 53, 56, 48, 56]⟩
theorem minParse : refParse minText.data.toList = some (-9223372036854775808) := by kernel_rfl
theorem overParse : refParse overText.data.toList = none := by kernel_rfl
theorem zeroParse : refParse [48] = some 0 := by kernel_rfl

set_option maxHeartbeats 1000000 in
theorem lawNames (w : World) (hs : Std w) :
    Calls Tryd.prog 7 #[] w fun e w' => e = .returned (.bool true) ∧ Upd (fun _ => False) w w' := by
  obtain ⟨a1, a2⟩ := pnum_of minParse
  obtain ⟨b1, b2⟩ := pnum_of overParse
  have P1 := Lib.hid (fun w hs => parse_any minText (by decide) w hs)
  have P2 := Lib.hid (fun w hs => parse_any overText (by decide) w hs)
  have P3 := Lib.hid (fun w => add_any (-9223372036854775808) (-1) w (by decide) (by decide) (by decide) (by decide))
  have P4 := Lib.hid (fun w => neg_any (-9223372036854775808) w (by decide) (by decide))
  have P5 := Lib.hid (fun w hs => size_any (-9223372036854775808) (by decide) (by decide) w hs)
  have P6 := Lib.hid (fun w hs => size_any 0 (by decide) (by decide) w hs)
  have A := Lib.hid (fun w hs => alive_any w hs)
  have s1 : (txt (-9223372036854775808)).size = 20 := by rw [txt_of minParse]; rfl
  have s2 : (txt 0).size = 1 := by rw [txt_of zeroParse]; rfl
  have e1 : sumN (-9223372036854775808 + -1) = 0 ∧ sumE (-9223372036854775808 + -1) = 12 := sum_out (by unfold over; omega)
  have e2 : sumN (- -9223372036854775808) = 0 ∧ sumE (- -9223372036854775808) = 12 := sum_out (by unfold over; omega)
  rw [a1, a2] at P1
  rw [b1, b2] at P2
  rw [e1.1, e1.2] at P3
  rw [e2.1, e2.2] at P4
  rw [s1] at P5
  rw [s2] at P6
  simp only [Option.getD_none, Option.getD_some, Option.isSome_none, Option.isSome_some, Bool.false_eq_true, if_false, if_true] at P1 P2
  unfold minText at P1
  unfold overText at P2
  have HS := Lib.hid hs
  clear hs a1 a2 b1 b2 s1 s2 e1 e2
  go_enter Tryd.func7, Tryd.ntmps7
  go_wp2_with fail
  refine (P1.out _ HS.out).mono ?_
  rintro e w1 ⟨rfl, u⟩
  have U1 := Lib.hid u
  clear u
  go_wp2_with fail
  refine (P2.out _ (HS.out.keep U1.out)).mono ?_
  rintro e w2 ⟨rfl, u⟩
  have U2 := Lib.hid (U1.out.trans u (fun _ _ h => h))
  clear u
  go_wp2_with fail
  refine (P3.out _).mono ?_
  rintro e w3 ⟨rfl, rfl⟩
  go_wp2_with fail
  refine (P4.out _).mono ?_
  rintro e w3 ⟨rfl, rfl⟩
  go_wp2_with fail
  refine (A.out _ (HS.out.keep U2.out)).mono ?_
  rintro e w3 ⟨rfl, u⟩
  have U3 := Lib.hid (U2.out.trans u (fun _ _ h => h))
  clear u
  go_wp2_with fail
  refine (P5.out _ (HS.out.keep U3.out)).mono ?_
  rintro e w4 ⟨rfl, u⟩
  have U4 := Lib.hid (U3.out.trans u (fun _ _ h => h))
  clear u
  go_wp2_with fail
  refine (P6.out _ (HS.out.keep U4.out)).mono ?_
  rintro e w5 ⟨rfl, u⟩
  have U5 := Lib.hid (U4.out.trans u (fun _ _ h => h))
  clear u
  go_wp2
  go_ret
  exact ⟨rfl, U5.out⟩

/-- What the order of two sums and of two texts comes to. -/
theorem order_sums {a b c : Int} (h1 : ¬ over (a + c)) (h2 : ¬ over (b + c)) : (decide (a < b) = decide (sumN (a + c) < sumN (b + c))) := by
  rw [(sum_in h1).1, (sum_in h2).1]
  by_cases h : a < b
  · rw [decide_eq_true h, decide_eq_true (by omega)]
  · rw [decide_eq_false h, decide_eq_false (by omega)]

section
variable (a b c : Int) (a0 : -9223372036854775808 ≤ a) (a1 : a ≤ 9223372036854775807) (b0 : -9223372036854775808 ≤ b) (b1 : b ≤ 9223372036854775807) (c0 : -9223372036854775808 ≤ c) (c1 : c ≤ 9223372036854775807) (w : World) (hs : Std w)
theorem text_len {a : Int} (h0 : -9223372036854775808 ≤ a) (h1 : a ≤ 9223372036854775807) : (txt a).size ≤ 20 := Whole.itoa_len h0 h1
theorem text_less {a b : Int} (ha : 0 ≤ a) (hb : 0 ≤ b) (h : (txt a).size = (txt b).size) : Go.Op.bytesLess (txt a).toList (txt b).toList = decide (a < b) := by
  rw [ByteArray.toList_eq, ByteArray.toList_eq]
  exact Whole.less_itoa ha hb h

set_option maxHeartbeats 2000000 in
theorem lawOrder (a b c : Int) (a0 : -9223372036854775808 ≤ a) (a1 : a ≤ 9223372036854775807) (b0 : -9223372036854775808 ≤ b) (b1 : b ≤ 9223372036854775807) (c0 : -9223372036854775808 ≤ c) (c1 : c ≤ 9223372036854775807) (w : World) (hs : Std w) :
    Calls Tryd.prog 4 #[.int .i64 a, .int .i64 b, .int .i64 c] w fun e w' => e = .returned (.bool true) ∧ Upd (fun _ => False) w w' := by
  have A := Lib.hid (alive_any w hs)
  have HS := Lib.hid hs
  have P1 := Lib.hid (fun w => add_any a c w a0 a1 c0 c1)
  have P2 := Lib.hid (fun w => add_any b c w b0 b1 c0 c1)
  have P3 := Lib.hid (fun w hs => text_any a a0 a1 w hs)
  have P4 := Lib.hid (fun w hs => text_any b b0 b1 w hs)
  have L := Lib.hid (fun ha hb h => text_less (a := a) (b := b) ha hb h)
  have l1 := text_len a0 a1
  have l2 := text_len b0 b1
  have key : (sumE (a + c) = 12) ∨ (sumE (a + c) = 0 ∧ sumE (b + c) = 12) ∨ (sumE (a + c) = 0 ∧ sumE (b + c) = 0 ∧ (decide (a < b) == decide (sumN (a + c) < sumN (b + c))) = true) := by
    by_cases o1 : over (a + c)
    · exact Or.inl (sum_out o1).2
    · by_cases o2 : over (b + c)
      · exact Or.inr (Or.inl ⟨(sum_in o1).2, (sum_out o2).2⟩)
      · exact Or.inr (Or.inr ⟨(sum_in o1).2, (sum_in o2).2, by rw [order_sums o1 o2]; simp⟩)
  generalize sumN (a + c) = x at *
  generalize sumE (a + c) = e at *
  generalize sumN (b + c) = y at *
  generalize sumE (b + c) = f at *
  generalize txt a = s at *
  generalize txt b = t at *
  clear hs
  rcases key with rfl | ⟨rfl, rfl⟩ | ⟨rfl, rfl, hk⟩
  all_goals
    go_enter Tryd.func4, Tryd.ntmps4
    go_wp2_with fail
    refine (A.out).mono ?_
    rintro e w1 ⟨rfl, u⟩
    have U1 := Lib.hid u
    clear u
    go_wp2_with fail
    refine (P1.out _).mono ?_
    rintro e w2 ⟨rfl, rfl⟩
    go_wp2_with fail
    refine (P2.out _).mono ?_
    rintro e w2 ⟨rfl, rfl⟩
    go_wp2_with fail
    refine (P3.out _ (HS.out.keep U1.out)).mono ?_
    rintro e w2 ⟨rfl, u⟩
    have U2 := Lib.hid (U1.out.trans u (fun _ _ h => h))
    clear u
    go_wp2_with fail
    refine (P4.out _ (HS.out.keep U2.out)).mono ?_
    rintro e w3 ⟨rfl, u⟩
    have U3 := Lib.hid (U2.out.trans u (fun _ _ h => h))
    clear u
    go_wp2
    all_goals
      go_ret
      refine ⟨ret_bool ?_, U3.out⟩
      first | rfl | (rw [L.out (by assumption) (by assumption) (by omega)]; simp)
end
end Go.Proofs.YtcachinbmdchmaaDoor
