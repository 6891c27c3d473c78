/- Walks: whole numbers as text, and the document's answer. -/
import Derived.Test.YtcachinbmdchmaaDoorShelf
import Derived.Test.YtcachinbmdchmaaDoorHeap
import Derived.Test.YtcachinbmdchmaaDoorWholeP
set_option linter.unusedVariables false
set_option linter.unusedSimpArgs false
namespace Go.Proofs.YtcachinbmdchmaaDoor
open Go.RowKit Go.Sort Go.Proofs
open Whole (wparse refParse)

/-- What start-up code has laid, as far as it is read. -/
structure Std (w : World) : Prop where
  tab : Lib.TabIs Tryd.prog w "internal/strconv.uint64pow10" .u64 Lib.pow10Tab
  syn : ∃ te pe, w.var? Tryd.prog "strconv.ErrSyntax" = some #[.iface te pe]
  rng : ∃ te pe, w.var? Tryd.prog "strconv.ErrRange" = some #[.iface te pe]
theorem var_keep {w w' : World} (u : Upd (fun _ => False) w w') {n : String} {cs : Array Value} (h : w.var? Tryd.prog n = some cs) : w'.var? Tryd.prog n = some cs := by
  unfold World.var? at h ⊢
  cases hg : Tryd.prog.globalNamed n with
  | none => rw [hg] at h; cases h
  | some g =>
    rw [hg] at h
    simp only [Option.bind_some] at h ⊢
    have hl : g < w.heap.size := by
      by_cases hl : g < w.heap.size
      · exact hl
      · rw [Array.getElem?_eq_none (by omega : w.heap.size ≤ g)] at h; cases h
    rw [u.block g hl id]
    exact h
theorem Std.keep {w w' : World} (h : Std w) (u : Upd (fun _ => False) w w') : Std w' :=
  ⟨var_keep u h.tab, by obtain ⟨a, b, c⟩ := h.syn; exact ⟨a, b, var_keep u c⟩, by obtain ⟨a, b, c⟩ := h.rng; exact ⟨a, b, var_keep u c⟩⟩
theorem upd_grow (w : World) (k : Nat) (os : Array Obj) : Upd (fun _ => False) w (grow (w.drewN k) os) :=
  ⟨rfl, rfl, rfl, by unfold grow; simp, fun i hi _ => by unfold grow; simp only; rw [Array.getElem?_append_left (show i < (w.drewN k).heap.size from hi)]; rfl⟩
theorem upd_fresh {w w' : World} (h : Below w.heap.size w w') : Upd (fun _ => False) w w' := (Upd.of_below h).weaken fun i hi h2 => by omega
theorem upd_bytes (w : World) (e : TypeId) (s : ByteArray) : Upd (fun _ => False) w (Lib.bytesWorld w e s) :=
  ⟨rfl, rfl, rfl, by simp [Lib.bytesWorld, World.freeze, World.alloc, World.drew, -World.alloc_eq, -World.drew_eq], fun i hi _ => Lib.bytesWorld_at_old w e s i hi⟩

def txt (n : Int) : ByteArray := ⟨(Lib.itoa n).toArray⟩
theorem txt_list (n : Int) : (txt n).data.toList = Lib.itoa n := rfl
theorem text_any (n : Int) (h0 : -9223372036854775808 ≤ n) (h1 : n ≤ 9223372036854775807) (w : World) (hs : Std w) :
    Calls Tryd.prog 9 #[.int .i64 n] w fun e w' => e = .returned (.string (txt n)) ∧ Upd (fun _ => False) w w' := by
  have F := Lib.hid (Tryd.strconv_FormatInt_10 n h0 h1 w hs.tab)
  clear hs h0 h1
  go_enter Tryd.func9, Tryd.ntmps9
  go_wp2_with fail
  refine F.out.mono ?_
  rintro e w' ⟨rfl, k, os, rfl⟩
  go_wp2
  go_ret
  exact ⟨rfl, upd_grow _ _ _⟩

theorem bytes_eq {a b : ByteArray} : (a.toList == b.toList) = decide (a.data.toList = b.data.toList) := by
  rw [ByteArray.toList_eq, ByteArray.toList_eq]
  rw [Bool.eq_iff_iff, beq_iff_eq, decide_eq_true_eq]
def pnum (s : ByteArray) : Int := (wparse s.data.toList).getD 0
def perr (s : ByteArray) : Int := if (wparse s.data.toList).isSome then 0 else 11

set_option maxHeartbeats 1000000 in
theorem parse_any (s : ByteArray) (hz : s.size ≤ 100000) (w : World) (hs : Std w) :
    Calls Tryd.prog 10 #[.string s] w fun e w' => e = .returned (.tuple #[.int .i64 (pnum s), .int .i64 (perr s)]) ∧ Upd (fun _ => False) w w' := by
  rcases hp : Lib.parseIntB 64 s.data.toList with v | _ | _
  case ok =>
    obtain ⟨v0, v1⟩ := Whole.parse_range hp
    have F := Lib.hid (Tryd.strconv_ParseInt_10_at64_ok s (by omega) v hp w)
    have HS := Lib.hid hs
    have HP := Lib.hid hp
    have hr : Hid (wparse s.data.toList = if Lib.itoa v = s.data.toList then some v else none) := by show wparse _ = _; unfold wparse; rw [hp]
    clear hs hp
    go_enter Tryd.func10, Tryd.ntmps10
    go_wp2_with fail
    refine F.out.mono ?_
    rintro e w1 ⟨rfl, hw⟩
    have U : Upd (fun _ => False) w w1 := by
      rcases hw with rfl | ⟨t, rfl⟩
      · exact Upd.refl _ _
      · exact upd_bytes _ _ _
    have T := Lib.hid (text_any v v0 v1 w1 (HS.out.keep U))
    have UU := Lib.hid U
    clear U hw F
    go_wp2_with fail
    refine T.out.mono ?_
    rintro e w2 ⟨rfl, u2⟩
    have U2 := Lib.hid (UU.out.trans u2 (fun _ _ h => h))
    clear u2 T UU
    by_cases hh : Lib.itoa v = s.data.toList
    · have hb : ((txt v).toList == s.toList) = true := by rw [bytes_eq, txt_list]; simp [hh]
      rw [if_pos hh] at hr
      go_wp2
      go_ret2
      refine ⟨?_, U2.out⟩
      unfold pnum perr; rw [hr.out]; rfl
    · have hb : ((txt v).toList == s.toList) = false := by rw [bytes_eq, txt_list]; simp [hh]
      rw [if_neg hh] at hr
      go_wp2
      go_ret2
      refine ⟨?_, U2.out⟩
      unfold pnum perr; rw [hr.out]; rfl
  rotate_left
  case range =>
    obtain ⟨te, pe, hv⟩ := hs.rng
    have F := Lib.hid (Tryd.strconv_ParseInt_10_at64_range_var s (by omega) hp te pe w hv)
    have hr : Hid (wparse s.data.toList = none) := by show wparse _ = _; unfold wparse; rw [hp]
    clear hs hp hv
    go_enter Tryd.func10, Tryd.ntmps10
    go_wp2_with fail
    refine F.out.mono ?_
    rintro e w1 ⟨N, rfl, _, _, hb⟩
    have U := Lib.hid (upd_fresh hb)
    clear hb F
    go_wp2
    go_ret2
    refine ⟨?_, U.out⟩
    unfold pnum perr; rw [hr.out]; rfl
  · obtain ⟨te, pe, hv⟩ := hs.syn
    have F := Lib.hid (Tryd.strconv_ParseInt_10_at64_syntax_var s (by omega) hp te pe w hv)
    have hr : Hid (wparse s.data.toList = none) := by show wparse _ = _; unfold wparse; rw [hp]
    clear hs hp hv
    go_enter Tryd.func10, Tryd.ntmps10
    go_wp2_with fail
    refine F.out.mono ?_
    rintro e w1 ⟨N, rfl, _, _, hb⟩
    have U := Lib.hid (upd_fresh hb)
    clear hb F
    go_wp2
    go_ret2
    refine ⟨?_, U.out⟩
    unfold pnum perr; rw [hr.out]; rfl
end Go.Proofs.YtcachinbmdchmaaDoor
