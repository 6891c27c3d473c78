/- Walks: the chapter's example, and the sums' laws. -/
import Derived.Test.YtcachinbmdchmaaDoorWholeB
import Derived.KernelRfl
set_option linter.unusedVariables false
set_option linter.unusedSimpArgs false
namespace Go.Proofs.YtcachinbmdchmaaDoor
open Go.RowKit Go.Sort Go.Proofs
open Whole (wparse refParse)

theorem pnum_of {s : ByteArray} {o : Option Int} (h : refParse s.data.toList = o) : pnum s = o.getD 0 ∧ perr s = if o.isSome then 0 else 11 := by
  unfold pnum perr; rw [Whole.wparse_ref, h]; exact ⟨rfl, rfl⟩
theorem pnum_txt {n : Int} (h0 : -9223372036854775808 ≤ n) (h1 : n ≤ 9223372036854775807) : pnum (txt n) = n ∧ perr (txt n) = 0 := by
  have : wparse (txt n).data.toList = some n := (Whole.wparse_is _ _).2 ⟨rfl, h0, h1⟩
  unfold pnum perr; rw [this]; exact ⟨rfl, rfl⟩

set_option maxHeartbeats 1000000 in
theorem alive_any (w : World) (hs : Std w) :
    Calls Tryd.prog 8 #[] w fun e w' => e = .returned (.bool true) ∧ Upd (fun _ => False) w w' := by
  obtain ⟨a1, a2⟩ := pnum_of (s := ⟨#[45, 48]⟩) (o := none) (by kernel_rfl)
  obtain ⟨b1, b2⟩ := pnum_of (s := ⟨#[43, 49]⟩) (o := none) (by kernel_rfl)
  obtain ⟨c1, c2⟩ := pnum_of (s := ⟨#[48, 49]⟩) (o := none) (by kernel_rfl)
  obtain ⟨d1, d2⟩ := pnum_of (s := ⟨#[45, 52, 50]⟩) (o := some (-42)) (by kernel_rfl)
  have t1 : txt (-42) = ⟨#[45, 52, 50]⟩ := by
    have := ((Whole.refParse_is [45, 52, 50] (-42)).1 (by kernel_rfl)).1
    unfold txt; rw [this]
  have P1 := Lib.hid (fun w hs => parse_any ⟨#[45, 48]⟩ (by decide) w hs)
  have P2 := Lib.hid (fun w hs => parse_any ⟨#[43, 49]⟩ (by decide) w hs)
  have P3 := Lib.hid (fun w hs => parse_any ⟨#[48, 49]⟩ (by decide) w hs)
  have P4 := Lib.hid (fun w hs => parse_any ⟨#[45, 52, 50]⟩ (by decide) w hs)
  have P5 := Lib.hid (fun w hs => text_any (-42) (by decide) (by decide) w hs)
  rw [a1, a2] at P1
  rw [b1, b2] at P2
  rw [c1, c2] at P3
  rw [d1, d2] at P4
  rw [t1] at P5
  simp only [Option.getD_none, Option.getD_some, Option.isSome_none, Option.isSome_some, Bool.false_eq_true, if_false, if_true] at P1 P2 P3 P4
  have HS := Lib.hid hs
  clear hs a1 a2 b1 b2 c1 c2 d1 d2 t1
  go_enter Tryd.func8, Tryd.ntmps8
  go_wp2_with fail
  refine (P1.out _ HS.out).mono ?_
  rintro e w1 ⟨rfl, u1⟩
  have U1 := Lib.hid u1
  clear u1
  go_wp2_with fail
  refine (P2.out _ (HS.out.keep U1.out)).mono ?_
  rintro e w2 ⟨rfl, u2⟩
  have U2 := Lib.hid (U1.out.trans u2 (fun _ _ h => h))
  clear u2
  go_wp2_with fail
  refine (P3.out _ (HS.out.keep U2.out)).mono ?_
  rintro e w3 ⟨rfl, u3⟩
  have U3 := Lib.hid (U2.out.trans u3 (fun _ _ h => h))
  clear u3
  go_wp2_with fail
  refine (P4.out _ (HS.out.keep U3.out)).mono ?_
  rintro e w4 ⟨rfl, u4⟩
  have U4 := Lib.hid (U3.out.trans u4 (fun _ _ h => h))
  clear u4
  go_wp2_with fail
  refine (P5.out _ (HS.out.keep U4.out)).mono ?_
  rintro e w5 ⟨rfl, u5⟩
  have U5 := Lib.hid (U4.out.trans u5 (fun _ _ h => h))
  clear u5
  go_wp2
  go_ret
  exact ⟨rfl, U5.out⟩

set_option maxHeartbeats 1000000 in
theorem lawSums (a b : Int) (a0 : -9223372036854775808 ≤ a) (a1 : a ≤ 9223372036854775807) (b0 : -9223372036854775808 ≤ b) (b1 : b ≤ 9223372036854775807) (w : World) (hs : Std w) :
    Calls Tryd.prog 5 #[.int .i64 a, .int .i64 b] w fun e w' => e = .returned (.bool true) ∧ Upd (fun _ => False) w w' := by
  have A := Lib.hid (alive_any w hs)
  have P1 := Lib.hid (fun w => add_any a b w a0 a1 b0 b1)
  have P2 := Lib.hid (fun w => radd_any a b w a0 a1 b0 b1)
  have P3 := Lib.hid (fun w => neg_any a w a0 a1)
  have P4 := Lib.hid (fun w => rneg_any a w a0 a1)
  generalize sumN (a + b) = x at *
  generalize sumE (a + b) = y at *
  generalize sumN (-a) = z at *
  generalize sumE (-a) = u at *
  clear hs
  go_enter Tryd.func5, Tryd.ntmps5
  go_wp2_with fail
  refine A.out.mono ?_
  rintro e w1 ⟨rfl, u1⟩
  have U1 := Lib.hid u1
  clear u1
  go_wp2_with fail
  refine (P1.out _).mono ?_
  rintro e w2 ⟨rfl, rfl⟩
  go_wp2_with fail
  refine (P2.out _).mono ?_
  rintro e w2 ⟨rfl, rfl⟩
  go_wp2_with fail
  refine (P3.out _).mono ?_
  rintro e w2 ⟨rfl, rfl⟩
  go_wp2_with fail
  refine (P4.out _).mono ?_
  rintro e w2 ⟨rfl, rfl⟩
  go_wp2
  go_ret
  exact ⟨ret_bool (by simp), U1.out⟩
end Go.Proofs.YtcachinbmdchmaaDoor
