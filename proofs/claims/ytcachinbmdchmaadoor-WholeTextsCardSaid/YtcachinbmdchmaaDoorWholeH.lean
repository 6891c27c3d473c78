/- Walk: any number as text, and back; any text. -/
import Derived.Test.YtcachinbmdchmaaDoorWholeG
set_option linter.unusedVariables false
set_option linter.unusedSimpArgs false
namespace Go.Proofs.YtcachinbmdchmaaDoor
open Go.RowKit Go.Sort Go.Proofs
open Whole (wparse refParse)

set_option maxHeartbeats 1000000 in
theorem lawTexts (n : Int) (s : ByteArray) (h0 : -9223372036854775808 ≤ n) (h1 : n ≤ 9223372036854775807) (sz : s.size ≤ 9223372036854775807) (w : World) (hs : Std w) :
    Calls Tryd.prog 3 #[.int .i64 n, .string s] w fun e w' => e = .returned (.bool true) ∧ Upd (fun _ => False) w w' := by
  have A := Lib.hid (alive_any w hs)
  have HS := Lib.hid hs
  by_cases hz : 100 < s.size
  · clear hs
    have hd : decide ((100 : Int) < (s.size : Int)) = true := by simp; omega
    go_enter Tryd.func3, Tryd.ntmps3
    go_wp2_with fail
    refine (A.out).mono ?_
    rintro e w1 ⟨rfl, u1⟩
    have U1 := Lib.hid u1
    clear u1
    go_wp2
    go_ret
    exact ⟨rfl, U1.out⟩
  · have hd : decide ((100 : Int) < (s.size : Int)) = false := by simp; omega
    have T := Lib.hid (fun w hs => text_any n h0 h1 w hs)
    have L := text_len h0 h1
    have PT := Lib.hid (fun w hs => parse_any (txt n) (by omega) w hs)
    rw [(pnum_txt h0 h1).1, (pnum_txt h0 h1).2] at PT
    have PS := Lib.hid (fun w hs => parse_any s (by omega) w hs)
    rw [(pnum_on s).1, (pnum_on s).2] at PS
    have RP := Lib.hid (fun w => rparse_any s (by omega) w)
    have RT := Lib.hid (fun w => rtext_any n h0 h1 w)
    have SZ := Lib.hid (fun w hs => size_any n h0 h1 w hs)
    unfold Res at RP
    have ts : ((txt n).toList == (txt n).toList) = true := by simp
    generalize on (refParse s.data.toList) = x at *
    generalize oe (refParse s.data.toList) = y at *
    generalize txt n = t at *
    clear hs
    go_enter Tryd.func3, Tryd.ntmps3
    go_wp2_with fail
    refine (A.out).mono ?_
    rintro e w1 ⟨rfl, u1⟩
    have U1 := Lib.hid u1
    clear u1
    go_wp2_with fail
    refine (T.out _ (HS.out.keep U1.out)).mono ?_
    rintro e w2 ⟨rfl, u⟩
    have U2 := Lib.hid (U1.out.trans u (fun _ _ h => h))
    clear u
    go_wp2_with fail
    refine (PT.out _ (HS.out.keep U2.out)).mono ?_
    rintro e w3 ⟨rfl, u⟩
    have U3 := Lib.hid (U2.out.trans u (fun _ _ h => h))
    clear u
    go_wp2_with fail
    refine (PS.out _ (HS.out.keep U3.out)).mono ?_
    rintro e w4 ⟨rfl, u⟩
    have U4 := Lib.hid (U3.out.trans u (fun _ _ h => h))
    clear u
    go_wp2_with fail
    refine (RP.out _).mono ?_
    rintro e w4 ⟨rfl, rfl⟩
    go_wp2_with fail
    refine (RT.out _).mono ?_
    rintro e w4 ⟨rfl, rfl⟩
    go_wp2_with fail
    refine (SZ.out _ (HS.out.keep U4.out)).mono ?_
    rintro e w5 ⟨rfl, u⟩
    have U5 := Lib.hid (U4.out.trans u (fun _ _ h => h))
    clear u
    go_wp2
    go_ret
    exact ⟨ret_bool (by simp), U5.out⟩
end Go.Proofs.YtcachinbmdchmaaDoor
