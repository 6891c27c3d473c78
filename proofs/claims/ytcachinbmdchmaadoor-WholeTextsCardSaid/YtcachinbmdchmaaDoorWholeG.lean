/- Walks: the document's parse. -/
import Derived.Test.YtcachinbmdchmaaDoorWholeF
import Derived.Deep.DeepCutAuto
set_option linter.unusedVariables false
set_option linter.unusedSimpArgs false
namespace Whole
theorem loop_nil (n : Int) : refLoop n [] = some n := rfl
theorem loop_bad {n : Int} {c : UInt8} {r : List UInt8} (h : ¬ isD c) : refLoop n (c :: r) = none := by rw [refLoop, if_pos h]
theorem loop_over {n : Int} {c : UInt8} {r : List UInt8} (h : n < -922337203685477580 ∨ (n = -922337203685477580 ∧ 8 < (c.toNat : Int) - 48)) : refLoop n (c :: r) = none := by
  rw [refLoop]
  by_cases hc : ¬ isD c
  · rw [if_pos hc]
  · rw [if_neg hc, if_pos h]
theorem loop_go {n : Int} {c : UInt8} {r : List UInt8} (h0 : isD c) (h : ¬ (n < -922337203685477580 ∨ (n = -922337203685477580 ∧ 8 < (c.toNat : Int) - 48))) : refLoop n (c :: r) = refLoop (10 * n - ((c.toNat : Int) - 48)) r := by
  rw [refLoop, if_neg (by simpa using h0), if_neg h]
theorem loop_to {n x : Int} {c : UInt8} {r : List UInt8} (h0 : isD c) (h : ¬ (n < -922337203685477580 ∨ (n = -922337203685477580 ∧ 8 < (c.toNat : Int) - 48))) (e : x = 10 * n - ((c.toNat : Int) - 48)) : refLoop n (c :: r) = refLoop x r := by
  rw [loop_go h0 h, e]
theorem end_bad {neg : Bool} {l : List UInt8} (h : l.length = 0 ∨ 19 < l.length ∨ (l.head? = some 48 ∧ (1 < l.length ∨ neg = true))) : refEnd neg l = none := by
  unfold refEnd; rw [if_pos h]
theorem end_ok {neg : Bool} {l : List UInt8} (h : ¬ (l.length = 0 ∨ 19 < l.length ∨ (l.head? = some 48 ∧ (1 < l.length ∨ neg = true)))) : refEnd neg l = match refLoop 0 l with
    | none => none
    | some n => if neg = true then some n else if n = -9223372036854775808 then none else some (-n) := by
  unfold refEnd; rw [if_neg h]; rfl
end Whole
namespace Go.Proofs.YtcachinbmdchmaaDoor
open Go.RowKit Go.Sort Go.Proofs
open Whole (wparse refParse refEnd refLoop isD)

def on (o : Option Int) : Int := o.getD 0
def oe (o : Option Int) : Int := if o.isSome then 0 else 11
theorem pnum_on (s : ByteArray) : pnum s = on (refParse s.data.toList) ∧ perr s = oe (refParse s.data.toList) := by
  unfold pnum perr on oe; rw [Whole.wparse_ref]; exact ⟨rfl, rfl⟩
theorem byte_head {s : ByteArray} (h : 0 < s.size) : s.data.toList.head? = some s[0] := by
  have : 0 < s.data.toList.length := by simpa using h
  rw [List.head?_eq_getElem?, List.getElem?_eq_getElem this]; rfl
theorem byte_drop {s : ByteArray} {k : Nat} (h : k < s.size) : s.data.toList.drop k = s[k] :: s.data.toList.drop (k + 1) := by
  rw [List.drop_eq_getElem_cons (by simpa using h)]; rfl
theorem byte_drop_all (s : ByteArray) : s.data.toList.drop s.size = [] := List.drop_eq_nil_of_le (by simp)
/-- A parse's results at what the document says of it. -/
def Res (o : Option Int) (e : Ending) : Prop := e = .returned (.tuple #[.int .i64 (on o), .int .i64 (oe o)])
theorem res_none {o : Option Int} (h : o = none) : Res o (.returned (.tuple #[.int .i64 0, .int .i64 11])) := by subst h; rfl
theorem res_some {o : Option Int} {n : Int} (h : o = some n) : Res o (.returned (.tuple #[.int .i64 n, .int .i64 0])) := by subst h; rfl

set_option maxHeartbeats 1000000 in
/-- no sign, and digits that can be looked at -/
theorem rparse_pos (s : ByteArray) (hz : s.size ≤ 100) (w : World) (h0 : 0 < s.size) (hne : ¬ s = ByteArray.empty) (hm : ((s[0].toNat : Int) == 45) = false) (h19 : decide ((19 : Int) < s.size) = false) (hd : (((s[0].toNat : Int) == 48) = false) ∨ (((s[0].toNat : Int) == 48) = true ∧ decide ((1 : Int) < s.size) = false))
    (o : Option Int) (ho : o = match refLoop 0 s.data.toList with
    | none => none
    | some n => if n = -9223372036854775808 then none else some (-n)) :
    Calls Tryd.prog 11 #[.string s] w fun e w' => Res o e ∧ w' = w := by
  have HO := Lib.hid ho
  clear ho
  rcases hd with hd | ⟨hd, hd2⟩
  all_goals
    go_enter Tryd.func11, Tryd.ntmps11
    go_wp2
    go_loop [2, 3, 6, 7] (fun r2 r3 n i => r2 = .int .i64 0 ∧ r3 = .int .i64 0 ∧ ∃ (k : Nat) (m : Int), k ≤ s.size ∧ i = .int .i64 k ∧ n = .int .i64 m ∧ -9223372036854775808 ≤ m ∧ m ≤ 0 ∧ Hid (refLoop 0 s.data.toList = refLoop m (s.data.toList.drop k))) (fun _ _ _ i => s.size - (intOf i).toNat)
    case atStart => exact ⟨rfl, rfl, 0, 0, by omega, rfl, rfl, by omega, by omega, Lib.hid rfl⟩
    case round =>
      obtain ⟨rfl, rfl, k, m, hk, rfl, rfl, m0, m1, HR⟩ := hrel
      by_cases hlt : k < s.size
      · have h256 : s[k].toNat < 256 := s[k].toNat_lt
        have D := Lib.hid (byte_drop hlt)
        go_wp2
        all_goals first
          | (go_ret2
             exact ⟨res_none (by rw [HO.out, HR.out, D.out]; first | rw [Whole.loop_bad (by unfold isD; omega)] | rw [Whole.loop_over (by omega)]), rfl⟩)
          | (go_round
             case rel => exact ⟨_, _, _, _, ⟨rfl, rfl, k + 1, by omega, rfl, _, rfl, by omega, by omega, Lib.hid (by rw [HR.out, D.out]; exact Whole.loop_to (by unfold isD; omega) (by omega) (by omega))⟩, rfl, rfl, rfl, by go_num⟩
             case measure => simp [intOf]; omega)
      · have hk2 : k = s.size := by omega
        subst hk2
        by_cases hl : m = -9223372036854775808
        · have hlb : (m == -9223372036854775808) = true := by simp [hl]
          have HL := Lib.hid hl
          clear hl
          go_wp2
          go_ret2
          exact ⟨res_none (by rw [HO.out, HR.out, byte_drop_all, Whole.loop_nil]; simp [HL.out]), rfl⟩
        · have hlb : (m == -9223372036854775808) = false := by simp [hl]
          have hl2 : -9223372036854775807 ≤ m := by omega
          have HL := Lib.hid hl
          clear hl
          go_wp2
          go_ret2
          exact ⟨res_some (by rw [HO.out, HR.out, byte_drop_all, Whole.loop_nil]; simp [HL.out]), rfl⟩

theorem neg_tail {s : ByteArray} (h : 0 < s.size) (hm : s[0].toNat = 45) : s.data.toList = 45 :: (s.extract 1 s.size).data.toList ∧ (s.extract 1 s.size).size = s.size - 1 := by
  have e := byte_drop h
  rw [List.drop_zero] at e
  have e2 : s[0] = 45 := UInt8.toNat_inj.1 (by rw [hm]; rfl)
  refine ⟨?_, by simp⟩
  rw [e, e2]
  simp
  rw [List.take_of_length_le (by simp)]
set_option maxHeartbeats 1000000 in
/-- a sign, and digits that can be looked at -/
theorem rparse_neg (s : ByteArray) (hz : s.size ≤ 100) (w : World) (h0 : 0 < s.size) (hne : ¬ s = ByteArray.empty) (hm : ((s[0].toNat : Int) == 45) = true) (ds : ByteArray) (hds : s.extract 1 s.size = ds) (d0 : 0 < ds.size) (dne : ¬ ds = ByteArray.empty) (h19 : decide ((19 : Int) < ds.size) = false) (hd : ((ds[0].toNat : Int) == 48) = false)
    (o : Option Int) (ho : o = refLoop 0 ds.data.toList) :
    Calls Tryd.prog 11 #[.string s] w fun e w' => Res o e ∧ w' = w := by
  have HO := Lib.hid ho
  have HD := Lib.hid hds
  have dz : ds.size ≤ 100 := by rw [← hds]; simp; omega
  clear ho hds
  go_enter Tryd.func11, Tryd.ntmps11
  go_upto_region 5 with (fail)
  rw [HD.out]
  go_wp2
  go_loop [2, 3, 6, 7] (fun r2 r3 n i => r2 = .int .i64 0 ∧ r3 = .int .i64 0 ∧ ∃ (k : Nat) (m : Int), k ≤ ds.size ∧ i = .int .i64 k ∧ n = .int .i64 m ∧ -9223372036854775808 ≤ m ∧ m ≤ 0 ∧ Hid (refLoop 0 ds.data.toList = refLoop m (ds.data.toList.drop k))) (fun _ _ _ i => ds.size - (intOf i).toNat)
  case atStart => exact ⟨rfl, rfl, 0, 0, by omega, rfl, rfl, by omega, by omega, Lib.hid rfl⟩
  case round =>
    obtain ⟨rfl, rfl, k, m, hk, rfl, rfl, m0, m1, HR⟩ := hrel
    by_cases hlt : k < ds.size
    · have h256 : ds[k].toNat < 256 := ds[k].toNat_lt
      have D := Lib.hid (byte_drop hlt)
      go_wp2
      all_goals first
        | (go_ret2
           exact ⟨res_none (by rw [HO.out, HR.out, D.out]; first | rw [Whole.loop_bad (by unfold isD; omega)] | rw [Whole.loop_over (by omega)]), rfl⟩)
        | (go_round
           case rel => exact ⟨_, _, _, _, ⟨rfl, rfl, k + 1, by omega, rfl, _, rfl, by omega, by omega, Lib.hid (by rw [HR.out, D.out]; exact Whole.loop_to (by unfold isD; omega) (by omega) (by omega))⟩, rfl, rfl, rfl, by go_num⟩
           case measure => simp [intOf]; omega)
    · have hk2 : k = ds.size := by omega
      subst hk2
      go_wp2
      go_ret2
      exact ⟨res_some (by rw [HO.out, HR.out, byte_drop_all, Whole.loop_nil]), rfl⟩

theorem empty_of {s : ByteArray} (h : s.size = 0) : s = ByteArray.empty := by
  cases s with | mk a =>
    have : a = #[] := Array.eq_empty_of_size_eq_zero h
    rw [this]; rfl
theorem ne_empty {s : ByteArray} (h : 0 < s.size) : ¬ s = ByteArray.empty := by
  rintro rfl; simp at h
set_option maxHeartbeats 1000000 in
theorem rparse_any (s : ByteArray) (hz : s.size ≤ 100) (w : World) :
    Calls Tryd.prog 11 #[.string s] w fun e w' => Res (refParse s.data.toList) e ∧ w' = w := by
  by_cases h0 : s.size = 0
  · have he := empty_of h0
    subst he
    have E : refParse ByteArray.empty.data.toList = none := by kernel_rfl
    have E := Lib.hid E
    clear h0
    go_enter Tryd.func11, Tryd.ntmps11
    go_wp2
    go_ret2
    exact ⟨res_none E.out, rfl⟩
  · have hp : 0 < s.size := by omega
    have hne := ne_empty hp
    have h256 := s[0].toNat_lt
    by_cases hm : s[0].toNat = 45
    · have hmb : ((s[0].toNat : Int) == 45) = true := by simp [hm]
      obtain ⟨t1, t2⟩ := neg_tail hp hm
      have R : refParse s.data.toList = refEnd true (s.extract 1 s.size).data.toList := by rw [t1]; unfold refParse; simp
      obtain ⟨ds, hds⟩ : ∃ ds, s.extract 1 s.size = ds := ⟨_, rfl⟩
      rw [hds] at t2 R
      have dl : ds.data.toList.length = ds.size := by simp
      by_cases d0 : ds.size = 0
      · have de := empty_of d0
        have RN := Lib.hid (R.trans (Whole.end_bad (Or.inl (by omega))))
        have HD := Lib.hid (hds.trans de)
        clear t1 hds hm R de
        go_enter Tryd.func11, Tryd.ntmps11
        go_upto_region 5 with (fail)
        rw [HD.out]
        go_wp2
        go_ret2
        exact ⟨res_none RN.out, rfl⟩
      · have dp : 0 < ds.size := by omega
        have dne := ne_empty dp
        have d256 := ds[0].toNat_lt
        by_cases d19 : 19 < ds.size
        · have db : decide ((19 : Int) < ds.size) = true := by simp; omega
          have RN := Lib.hid (R.trans (Whole.end_bad (Or.inr (Or.inl (by omega)))))
          have HD := Lib.hid hds
          clear t1 hds hm R
          go_enter Tryd.func11, Tryd.ntmps11
          go_upto_region 5 with (fail)
          rw [HD.out]
          go_wp2
          go_ret2
          exact ⟨res_none RN.out, rfl⟩
        · have db : decide ((19 : Int) < ds.size) = false := by simp; omega
          by_cases dz : ds[0].toNat = 48
          · have dzb : ((ds[0].toNat : Int) == 48) = true := by simp [dz]
            have e48 : ds[0] = 48 := UInt8.toNat_inj.1 (by rw [dz]; rfl)
            have RN := Lib.hid (R.trans (Whole.end_bad (Or.inr (Or.inr ⟨by rw [byte_head dp, e48], Or.inr rfl⟩))))
            have HD := Lib.hid hds
            clear t1 hds hm R dz e48
            go_enter Tryd.func11, Tryd.ntmps11
            go_upto_region 5 with (fail)
            rw [HD.out]
            go_wp2
            all_goals
              go_ret2
              exact ⟨res_none RN.out, rfl⟩
          · have dzb : ((ds[0].toNat : Int) == 48) = false := by simp; omega
            refine rparse_neg s hz w hp hne hmb ds hds dp dne db dzb _ ?_
            rw [R, Whole.end_ok ?_]
            · cases refLoop 0 ds.data.toList <;> rfl
            · rintro (h | h | ⟨h, _⟩)
              · omega
              · omega
              · rw [byte_head dp, Option.some.injEq] at h; exact dz (by rw [h]; rfl)
    · have hmb : ((s[0].toNat : Int) == 45) = false := by simp; omega
      have R : refParse s.data.toList = refEnd false s.data.toList := by
        unfold refParse; rw [if_neg]; rw [byte_head hp, Option.some.injEq]; intro h; exact hm (by rw [h]; rfl)
      have dl : s.data.toList.length = s.size := by simp
      by_cases d19 : 19 < s.size
      · have db : decide ((19 : Int) < s.size) = true := by simp; omega
        have RN := Lib.hid (R.trans (Whole.end_bad (Or.inr (Or.inl (by omega)))))
        clear R hm
        go_enter Tryd.func11, Tryd.ntmps11
        go_wp2
        go_ret2
        exact ⟨res_none RN.out, rfl⟩
      · have db : decide ((19 : Int) < s.size) = false := by simp; omega
        by_cases hb : s[0].toNat = 48 ∧ 1 < s.size
        · have dzb : ((s[0].toNat : Int) == 48) = true := by simp [hb.1]
          have d1 : decide ((1 : Int) < s.size) = true := by simp; omega
          have e48 : s[0] = 48 := UInt8.toNat_inj.1 (by rw [hb.1]; rfl)
          have RN := Lib.hid (R.trans (Whole.end_bad (Or.inr (Or.inr ⟨by rw [byte_head hp, e48], Or.inl (by omega)⟩))))
          clear R hm hb e48
          go_enter Tryd.func11, Tryd.ntmps11
          go_wp2
          all_goals
            go_ret2
            exact ⟨res_none RN.out, rfl⟩
        · refine rparse_pos s hz w hp hne hmb db ?_ _ ?_
          · by_cases h48 : s[0].toNat = 48
            · exact Or.inr ⟨by simp [h48], by simp; omega⟩
            · exact Or.inl (by simp; omega)
          · rw [R, Whole.end_ok ?_]
            · cases refLoop 0 s.data.toList <;> simp
            · rintro (h | h | ⟨h, h2 | h2⟩)
              · omega
              · omega
              · rw [byte_head hp, Option.some.injEq] at h; exact hb ⟨by rw [h]; rfl, by omega⟩
              · cases h2
end Go.Proofs.YtcachinbmdchmaaDoor
