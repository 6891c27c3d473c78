/- Walks: what is added and taken away; names; the order. -/
import Derived.Test.YtcachinbmdchmaaDoorWholeC
set_option linter.unusedVariables false
set_option linter.unusedSimpArgs false
namespace Go.Proofs.YtcachinbmdchmaaDoor
open Go.RowKit Go.Sort Go.Proofs
open Whole (wparse refParse)

theorem sum_in {n : Int} (h : ¬ over n) : sumN n = n ∧ sumE n = 0 := by unfold sumN sumE; rw [if_neg h, if_neg h]; exact ⟨rfl, rfl⟩
theorem sum_out {n : Int} (h : over n) : sumN n = 0 ∧ sumE n = 12 := by unfold sumN sumE; rw [if_pos h, if_pos h]; exact ⟨rfl, rfl⟩
/-- A parse and the text of its number. -/
theorem parse_two (s : ByteArray) : (pnum s = 0 ∧ perr s = 11) ∨ ∃ v, -9223372036854775808 ≤ v ∧ v ≤ 9223372036854775807 ∧ txt v = s ∧ pnum s = v ∧ perr s = 0 := by
  cases h : wparse s.data.toList with
  | none => left; unfold pnum perr; rw [h]; exact ⟨rfl, rfl⟩
  | some v =>
    right
    obtain ⟨h1, h2, h3⟩ := (Whole.wparse_is _ _).1 h
    refine ⟨v, h2, h3, ?_, ?_, ?_⟩
    · unfold txt; rw [h1]
    · unfold pnum; rw [h]; rfl
    · unfold perr; rw [h]; rfl

set_option maxHeartbeats 2000000 in
theorem lawBack (a b : Int) (s : ByteArray) (a0 : -9223372036854775808 ≤ a) (a1 : a ≤ 9223372036854775807) (b0 : -9223372036854775808 ≤ b) (b1 : b ≤ 9223372036854775807) (sz : s.size ≤ 9223372036854775807) (w : World) (hs : Std w) :
    Calls Tryd.prog 6 #[.int .i64 a, .int .i64 b, .string s] w fun e w' => e = .returned (.bool true) ∧ Upd (fun _ => False) w w' := by
  have A := Lib.hid (alive_any w hs)
  have HS := Lib.hid hs
  by_cases hz : 100 < s.size
  · clear hs
    have hd : decide ((100 : Int) < (s.size : Int)) = true := by simp; omega
    go_enter Tryd.func6, Tryd.ntmps6
    go_wp2_with fail
    refine A.out.mono ?_
    rintro e w1 ⟨rfl, u1⟩
    have U1 := Lib.hid u1
    clear u1
    go_wp2
    go_ret
    exact ⟨rfl, U1.out⟩
  · have hd : decide ((100 : Int) < (s.size : Int)) = false := by simp; omega
    have P1 := Lib.hid (fun w => add_any a b w a0 a1 b0 b1)
    have P2 := Lib.hid (fun w => add_any b a w b0 b1 a0 a1)
    have P3 := Lib.hid (fun w => neg_any b w b0 b1)
    have PS := Lib.hid (fun w hs => parse_any s (by omega) w hs)
    have ec : b + a = a + b := by omega
    rw [ec] at P2
    clear hs
    by_cases o1 : over (a + b)
    · obtain ⟨e1, e2⟩ := sum_out o1
      rw [e1, e2] at P1 P2
      clear e1 e2
      generalize sumN (-b) = z at *
      generalize sumE (-b) = u at *
      rcases parse_two s with ⟨f1, f2⟩ | ⟨v, v0, v1, hv, f1, f2⟩
      · rw [f1, f2] at PS
        clear f1 f2
        go_enter Tryd.func6, Tryd.ntmps6
        go_wp2_with fail
        refine A.out.mono ?_
        rintro e w1 ⟨rfl, u1⟩
        have U1 := Lib.hid u1
        clear u1
        go_wp2_with fail
        refine (P1.out _).mono ?_
        rintro e w2 ⟨rfl, rfl⟩
        go_wp2_with fail
        refine (P2.out _).mono ?_
        rintro e w2 ⟨rfl, rfl⟩
        go_wp2_with fail
        refine (P3.out _).mono ?_
        rintro e w2 ⟨rfl, rfl⟩
        go_wp2_with fail
        refine (PS.out _ (HS.out.keep U1.out)).mono ?_
        rintro e w3 ⟨rfl, u3⟩
        have U3 := Lib.hid (U1.out.trans u3 (fun _ _ h => h))
        clear u3
        go_wp2
        go_ret
        exact ⟨rfl, U3.out⟩
      · rw [f1, f2] at PS
        have PT := Lib.hid (fun w hs => text_any v v0 v1 w hs)
        rw [hv] at PT
        clear f1 f2 hv
        go_enter Tryd.func6, Tryd.ntmps6
        go_wp2_with fail
        refine A.out.mono ?_
        rintro e w1 ⟨rfl, u1⟩
        have U1 := Lib.hid u1
        clear u1
        go_wp2_with fail
        refine (P1.out _).mono ?_
        rintro e w2 ⟨rfl, rfl⟩
        go_wp2_with fail
        refine (P2.out _).mono ?_
        rintro e w2 ⟨rfl, rfl⟩
        go_wp2_with fail
        refine (P3.out _).mono ?_
        rintro e w2 ⟨rfl, rfl⟩
        go_wp2_with fail
        refine (PS.out _ (HS.out.keep U1.out)).mono ?_
        rintro e w3 ⟨rfl, u3⟩
        have U3 := Lib.hid (U1.out.trans u3 (fun _ _ h => h))
        clear u3
        go_wp2_with fail
        refine (PT.out _ (HS.out.keep U3.out)).mono ?_
        rintro e w4 ⟨rfl, u4⟩
        have U4 := Lib.hid (U3.out.trans u4 (fun _ _ h => h))
        clear u4
        go_wp2
        go_ret
        exact ⟨ret_bool (by simp), U4.out⟩
    · obtain ⟨e1, e2⟩ := sum_in o1
      rw [e1, e2] at P1 P2
      clear e1 e2
      by_cases o2 : over (-b)
      · obtain ⟨e1, e2⟩ := sum_out o2
        rw [e1, e2] at P3
        clear e1 e2
        rcases parse_two s with ⟨f1, f2⟩ | ⟨v, v0, v1, hv, f1, f2⟩
        · rw [f1, f2] at PS
          clear f1 f2
          go_enter Tryd.func6, Tryd.ntmps6
          go_wp2_with fail
          refine A.out.mono ?_
          rintro e w1 ⟨rfl, u1⟩
          have U1 := Lib.hid u1
          clear u1
          go_wp2_with fail
          refine (P1.out _).mono ?_
          rintro e w2 ⟨rfl, rfl⟩
          go_wp2_with fail
          refine (P2.out _).mono ?_
          rintro e w2 ⟨rfl, rfl⟩
          go_wp2_with fail
          refine (P3.out _).mono ?_
          rintro e w2 ⟨rfl, rfl⟩
          go_wp2_with fail
          refine (PS.out _ (HS.out.keep U1.out)).mono ?_
          rintro e w3 ⟨rfl, u3⟩
          have U3 := Lib.hid (U1.out.trans u3 (fun _ _ h => h))
          clear u3
          go_wp2
          go_ret
          exact ⟨rfl, U3.out⟩
        · rw [f1, f2] at PS
          have PT := Lib.hid (fun w hs => text_any v v0 v1 w hs)
          rw [hv] at PT
          clear f1 f2 hv
          go_enter Tryd.func6, Tryd.ntmps6
          go_wp2_with fail
          refine A.out.mono ?_
          rintro e w1 ⟨rfl, u1⟩
          have U1 := Lib.hid u1
          clear u1
          go_wp2_with fail
          refine (P1.out _).mono ?_
          rintro e w2 ⟨rfl, rfl⟩
          go_wp2_with fail
          refine (P2.out _).mono ?_
          rintro e w2 ⟨rfl, rfl⟩
          go_wp2_with fail
          refine (P3.out _).mono ?_
          rintro e w2 ⟨rfl, rfl⟩
          go_wp2_with fail
          refine (PS.out _ (HS.out.keep U1.out)).mono ?_
          rintro e w3 ⟨rfl, u3⟩
          have U3 := Lib.hid (U1.out.trans u3 (fun _ _ h => h))
          clear u3
          go_wp2_with fail
          refine (PT.out _ (HS.out.keep U3.out)).mono ?_
          rintro e w4 ⟨rfl, u4⟩
          have U4 := Lib.hid (U3.out.trans u4 (fun _ _ h => h))
          clear u4
          go_wp2
          go_ret
          exact ⟨ret_bool (by simp), U4.out⟩
      · obtain ⟨e1, e2⟩ := sum_in o2
        rw [e1, e2] at P3
        clear e1 e2
        unfold over at o1 o2
        have P4 := Lib.hid (fun w => add_any (a + b) (-b) w (by omega) (by omega) (by omega) (by omega))
        have e3 : a + b + -b = a := by omega
        obtain ⟨e1, e2⟩ := sum_in (n := a) (by unfold over; omega)
        rw [e3, e1, e2] at P4
        clear e1 e2 e3
        rcases parse_two s with ⟨f1, f2⟩ | ⟨v, v0, v1, hv, f1, f2⟩
        · rw [f1, f2] at PS
          clear f1 f2
          go_enter Tryd.func6, Tryd.ntmps6
          go_wp2_with fail
          refine A.out.mono ?_
          rintro e w1 ⟨rfl, u1⟩
          have U1 := Lib.hid u1
          clear u1
          go_wp2_with fail
          refine (P1.out _).mono ?_
          rintro e w2 ⟨rfl, rfl⟩
          go_wp2_with fail
          refine (P2.out _).mono ?_
          rintro e w2 ⟨rfl, rfl⟩
          go_wp2_with fail
          refine (P3.out _).mono ?_
          rintro e w2 ⟨rfl, rfl⟩
          go_wp2_with fail
          refine (P4.out _).mono ?_
          rintro e w2 ⟨rfl, rfl⟩
          go_wp2_with fail
          refine (PS.out _ (HS.out.keep U1.out)).mono ?_
          rintro e w3 ⟨rfl, u3⟩
          have U3 := Lib.hid (U1.out.trans u3 (fun _ _ h => h))
          clear u3
          go_wp2
          go_ret
          exact ⟨rfl, U3.out⟩
        · rw [f1, f2] at PS
          have PT := Lib.hid (fun w hs => text_any v v0 v1 w hs)
          rw [hv] at PT
          clear f1 f2 hv
          go_enter Tryd.func6, Tryd.ntmps6
          go_wp2_with fail
          refine A.out.mono ?_
          rintro e w1 ⟨rfl, u1⟩
          have U1 := Lib.hid u1
          clear u1
          go_wp2_with fail
          refine (P1.out _).mono ?_
          rintro e w2 ⟨rfl, rfl⟩
          go_wp2_with fail
          refine (P2.out _).mono ?_
          rintro e w2 ⟨rfl, rfl⟩
          go_wp2_with fail
          refine (P3.out _).mono ?_
          rintro e w2 ⟨rfl, rfl⟩
          go_wp2_with fail
          refine (P4.out _).mono ?_
          rintro e w2 ⟨rfl, rfl⟩
          go_wp2_with fail
          refine (PS.out _ (HS.out.keep U1.out)).mono ?_
          rintro e w3 ⟨rfl, u3⟩
          have U3 := Lib.hid (U1.out.trans u3 (fun _ _ h => h))
          clear u3
          go_wp2_with fail
          refine (PT.out _ (HS.out.keep U3.out)).mono ?_
          rintro e w4 ⟨rfl, u4⟩
          have U4 := Lib.hid (U3.out.trans u4 (fun _ _ h => h))
          clear u4
          go_wp2
          go_ret
          exact ⟨ret_bool (by simp), U4.out⟩
end Go.Proofs.YtcachinbmdchmaaDoor
