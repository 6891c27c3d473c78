/- Walks: the document's parse. -/
import Derived.Test.YtkemjjhmabemiaaDoorK04
import Derived.Deep.DeepCutAuto
import Derived.Test.YtkemjjhmabemiaaDoorK03
import Derived.Test.YtkemjjhmabemiaaDoorK05
set_option linter.unusedVariables false
set_option linter.unusedSimpArgs false
namespace Whole
theorem loop_nil (n : Int) : refLoop n [] = some n := rfl
theorem loop_bad {n : Int} {c : UInt8} {r : List UInt8} (h : ¬ isD c) : refLoop n (c :: r) = none := by rw [refLoop, if_pos h]
theorem loop_over {n : Int} {c : UInt8} {r : List UInt8} (h : n < -922337203685477580 ∨ (n = -922337203685477580 ∧ 8 < (c.toNat : Int) - 48)) : refLoop n (c :: r) = none := by
  rw [refLoop]
  by_cases hc : ¬ isD c
  · rw [if_pos hc]
  · rw [if_neg hc, if_pos h]
theorem loop_go {n : Int} {c : UInt8} {r : List UInt8} (h0 : isD c) (h : ¬ (n < -922337203685477580 ∨ (n = -922337203685477580 ∧ 8 < (c.toNat : Int) - 48))) : refLoop n (c :: r) = refLoop (10 * n - ((c.toNat : Int) - 48)) r := by
  rw [refLoop, if_neg (by simpa using h0), if_neg h]
theorem loop_to {n x : Int} {c : UInt8} {r : List UInt8} (h0 : isD c) (h : ¬ (n < -922337203685477580 ∨ (n = -922337203685477580 ∧ 8 < (c.toNat : Int) - 48))) (e : x = 10 * n - ((c.toNat : Int) - 48)) : refLoop n (c :: r) = refLoop x r := by
  rw [loop_go h0 h, e]
theorem end_bad {neg : Bool} {l : List UInt8} (h : l.length = 0 ∨ 19 < l.length ∨ (l.head? = some 48 ∧ (1 < l.length ∨ neg = true))) : refEnd neg l = none := by
  unfold refEnd; rw [if_pos h]
theorem end_ok {neg : Bool} {l : List UInt8} (h : ¬ (l.length = 0 ∨ 19 < l.length ∨ (l.head? = some 48 ∧ (1 < l.length ∨ neg = true)))) : refEnd neg l = match refLoop 0 l with
    | none => none
    | some n => if neg = true then some n else if n = -9223372036854775808 then none else some (-n) := by
  unfold refEnd; rw [if_neg h]; rfl
end Whole
namespace Go.Proofs.YtkemjjhmabemiaaDoor
open Go.RowKit Go.Sort Go.Proofs
open Whole (wparse refParse refEnd refLoop isD)

def on (o : Option Int) : Int := o.getD 0
def oe (o : Option Int) : Int := if o.isSome then 0 else 11
theorem pnum_on (s : ByteArray) : pnum s = on (refParse s.data.toList) ∧ perr s = oe (refParse s.data.toList) := by
  unfold pnum perr on oe; rw [Whole.wparse_ref]; exact ⟨rfl, rfl⟩
theorem byte_head {s : ByteArray} (h : 0 < s.size) : s.data.toList.head? = some s[0] := by
  have : 0 < s.data.toList.length := by simpa using h
  rw [List.head?_eq_getElem?, List.getElem?_eq_getElem this]; rfl
theorem byte_drop {s : ByteArray} {k : Nat} (h : k < s.size) : s.data.toList.drop k = s[k] :: s.data.toList.drop (k + 1) := by
  rw [List.drop_eq_getElem_cons (by simpa using h)]; rfl
theorem byte_drop_all (s : ByteArray) : s.data.toList.drop s.size = [] := List.drop_eq_nil_of_le (by simp)
/-- A parse's results at what the document says of it. -/
def Res (o : Option Int) (e : Ending) : Prop := e = .returned (.tuple #[.int .i64 (on o), .int .i64 (oe o)])
theorem res_none {o : Option Int} (h : o = none) : Res o (.returned (.tuple #[.int .i64 0, .int .i64 11])) := by subst h; rfl
theorem res_some {o : Option Int} {n : Int} (h : o = some n) : Res o (.returned (.tuple #[.int .i64 n, .int .i64 0])) := by subst h; rfl

set_option maxHeartbeats 1000000 in
/-- no sign, and digits that can be looked at -/
theorem rparse_pos (s : ByteArray) (hz : s.size ≤ 100000) (w : World) (h0 : 0 < s.size) (hne : ¬ s = ByteArray.empty) (hm : ((s[0].toNat : Int) == 45) = false) (h19 : decide ((19 : Int) < s.size) = false) (hd : (((s[0].toNat : Int) == 48) = false) ∨ (((s[0].toNat : Int) == 48) = true ∧ decide ((1 : Int) < s.size) = false))
    (o : Option Int) (ho : o = match refLoop 0 s.data.toList with
    | none => none
    | some n => if n = -9223372036854775808 then none else some (-n)) :
    Calls Tryd.prog 63 #[.string s] w fun e w' => Res o e ∧ w' = w := by
  have HO := Lib.hid ho
  clear ho
  rcases hd with hd | ⟨hd, hd2⟩
  all_goals
    go_enter Tryd.func63, Tryd.ntmps63
    go_wp2
    go_loop [2, 3, 6, 7] (fun r2 r3 n i => r2 = .int .i64 0 ∧ r3 = .int .i64 0 ∧ ∃ (k : Nat) (m : Int), k ≤ s.size ∧ i = .int .i64 k ∧ n = .int .i64 m ∧ -9223372036854775808 ≤ m ∧ m ≤ 0 ∧ Hid (refLoop 0 s.data.toList = refLoop m (s.data.toList.drop k))) (fun _ _ _ i => s.size - (intOf i).toNat)
    case atStart => exact ⟨rfl, rfl, 0, 0, by omega, rfl, rfl, by omega, by omega, Lib.hid rfl⟩
    case round =>
      obtain ⟨rfl, rfl, k, m, hk, rfl, rfl, m0, m1, HR⟩ := hrel
      by_cases hlt : k < s.size
      · have h256 : s[k].toNat < 256 := s[k].toNat_lt
        have D := Lib.hid (byte_drop hlt)
        go_wp2
        all_goals first
          | (go_ret2
             exact ⟨res_none (by rw [HO.out, HR.out, D.out]; first | rw [Whole.loop_bad (by unfold isD; omega)] | rw [Whole.loop_over (by omega)]), rfl⟩)
          | (go_round
             case rel => exact ⟨_, _, _, _, ⟨rfl, rfl, k + 1, by omega, rfl, _, rfl, by omega, by omega, Lib.hid (by rw [HR.out, D.out]; exact Whole.loop_to (by unfold isD; omega) (by omega) (by omega))⟩, rfl, rfl, rfl, by go_num⟩
             case measure => simp [intOf]; omega)
      · have hk2 : k = s.size := by omega
        subst hk2
        by_cases hl : m = -9223372036854775808
        · have hlb : (m == -9223372036854775808) = true := by simp [hl]
          have HL := Lib.hid hl
          clear hl
          go_wp2
          go_ret2
          exact ⟨res_none (by rw [HO.out, HR.out, byte_drop_all, Whole.loop_nil]; simp [HL.out]), rfl⟩
        · have hlb : (m == -9223372036854775808) = false := by simp [hl]
          have hl2 : -9223372036854775807 ≤ m := by omega
          have HL := Lib.hid hl
          clear hl
          go_wp2
          go_ret2
          exact ⟨res_some (by rw [HO.out, HR.out, byte_drop_all, Whole.loop_nil]; simp [HL.out]), rfl⟩

theorem neg_tail {s : ByteArray} (h : 0 < s.size) (hm : s[0].toNat = 45) : s.data.toList = 45 :: (s.extract 1 s.size).data.toList ∧ (s.extract 1 s.size).size = s.size - 1 := by
  have e := byte_drop h
  rw [List.drop_zero] at e
  have e2 : s[0] = 45 := UInt8.toNat_inj.1 (by rw [hm]; rfl)
  refine ⟨?_, by simp⟩
  rw [e, e2]
  simp
  rw [List.take_of_length_le (by simp)]
set_option maxHeartbeats 1000000 in
/-- a sign, and digits that can be looked at -/
theorem rparse_neg (s : ByteArray) (hz : s.size ≤ 100000) (w : World) (h0 : 0 < s.size) (hne : ¬ s = ByteArray.empty) (hm : ((s[0].toNat : Int) == 45) = true) (ds : ByteArray) (hds : s.extract 1 s.size = ds) (d0 : 0 < ds.size) (dne : ¬ ds = ByteArray.empty) (h19 : decide ((19 : Int) < ds.size) = false) (hd : ((ds[0].toNat : Int) == 48) = false)
    (o : Option Int) (ho : o = refLoop 0 ds.data.toList) :
    Calls Tryd.prog 63 #[.string s] w fun e w' => Res o e ∧ w' = w := by
  have HO := Lib.hid ho
  have HD := Lib.hid hds
  have dz : ds.size ≤ 100000 := by rw [← hds]; simp; omega
  clear ho hds
  go_enter Tryd.func63, Tryd.ntmps63
  go_upto_region 5 with (fail)
  rw [HD.out]
  go_wp2
  go_loop [2, 3, 6, 7] (fun r2 r3 n i => r2 = .int .i64 0 ∧ r3 = .int .i64 0 ∧ ∃ (k : Nat) (m : Int), k ≤ ds.size ∧ i = .int .i64 k ∧ n = .int .i64 m ∧ -9223372036854775808 ≤ m ∧ m ≤ 0 ∧ Hid (refLoop 0 ds.data.toList = refLoop m (ds.data.toList.drop k))) (fun _ _ _ i => ds.size - (intOf i).toNat)
  case atStart => exact ⟨rfl, rfl, 0, 0, by omega, rfl, rfl, by omega, by omega, Lib.hid rfl⟩
  case round =>
    obtain ⟨rfl, rfl, k, m, hk, rfl, rfl, m0, m1, HR⟩ := hrel
    by_cases hlt : k < ds.size
    · have h256 : ds[k].toNat < 256 := ds[k].toNat_lt
      have D := Lib.hid (byte_drop hlt)
      go_wp2
      all_goals first
        | (go_ret2
           exact ⟨res_none (by rw [HO.out, HR.out, D.out]; first | rw [Whole.loop_bad (by unfold isD; omega)] | rw [Whole.loop_over (by omega)]), rfl⟩)
        | (go_round
           case rel => exact ⟨_, _, _, _, ⟨rfl, rfl, k + 1, by omega, rfl, _, rfl, by omega, by omega, Lib.hid (by rw [HR.out, D.out]; exact Whole.loop_to (by unfold isD; omega) (by omega) (by omega))⟩, rfl, rfl, rfl, by go_num⟩
           case measure => simp [intOf]; omega)
    · have hk2 : k = ds.size := by omega
      subst hk2
      go_wp2
      go_ret2
      exact ⟨res_some (by rw [HO.out, HR.out, byte_drop_all, Whole.loop_nil]), rfl⟩

theorem empty_of {s : ByteArray} (h : s.size = 0) : s = ByteArray.empty := by
  cases s with | mk a =>
    have : a = #[] := Array.eq_empty_of_size_eq_zero h
    rw [this]; rfl
theorem ne_empty {s : ByteArray} (h : 0 < s.size) : ¬ s = ByteArray.empty := by
  rintro rfl; simp at h
set_option maxHeartbeats 1000000 in
theorem rparse_any (s : ByteArray) (hz : s.size ≤ 100000) (w : World) :
    Calls Tryd.prog 63 #[.string s] w fun e w' => Res (refParse s.data.toList) e ∧ w' = w := by
  by_cases h0 : s.size = 0
  · have he := empty_of h0
    subst he
    have E : refParse ByteArray.empty.data.toList = none := by kernel_rfl
    have E := Lib.hid E
    clear h0
    go_enter Tryd.func63, Tryd.ntmps63
    go_wp2
    go_ret2
    exact ⟨res_none E.out, rfl⟩
  · have hp : 0 < s.size := by omega
    have hne := ne_empty hp
    have h256 := s[0].toNat_lt
    by_cases hm : s[0].toNat = 45
    · have hmb : ((s[0].toNat : Int) == 45) = true := by simp [hm]
      obtain ⟨t1, t2⟩ := neg_tail hp hm
      have R : refParse s.data.toList = refEnd true (s.extract 1 s.size).data.toList := by rw [t1]; unfold refParse; simp
      obtain ⟨ds, hds⟩ : ∃ ds, s.extract 1 s.size = ds := ⟨_, rfl⟩
      rw [hds] at t2 R
      have dl : ds.data.toList.length = ds.size := by simp
      by_cases d0 : ds.size = 0
      · have de := empty_of d0
        have RN := Lib.hid (R.trans (Whole.end_bad (Or.inl (by omega))))
        have HD := Lib.hid (hds.trans de)
        clear t1 hds hm R de
        go_enter Tryd.func63, Tryd.ntmps63
        go_upto_region 5 with (fail)
        rw [HD.out]
        go_wp2
        go_ret2
        exact ⟨res_none RN.out, rfl⟩
      · have dp : 0 < ds.size := by omega
        have dne := ne_empty dp
        have d256 := ds[0].toNat_lt
        by_cases d19 : 19 < ds.size
        · have db : decide ((19 : Int) < ds.size) = true := by simp; omega
          have RN := Lib.hid (R.trans (Whole.end_bad (Or.inr (Or.inl (by omega)))))
          have HD := Lib.hid hds
          clear t1 hds hm R
          go_enter Tryd.func63, Tryd.ntmps63
          go_upto_region 5 with (fail)
          rw [HD.out]
          go_wp2
          go_ret2
          exact ⟨res_none RN.out, rfl⟩
        · have db : decide ((19 : Int) < ds.size) = false := by simp; omega
          by_cases dz : ds[0].toNat = 48
          · have dzb : ((ds[0].toNat : Int) == 48) = true := by simp [dz]
            have e48 : ds[0] = 48 := UInt8.toNat_inj.1 (by rw [dz]; rfl)
            have RN := Lib.hid (R.trans (Whole.end_bad (Or.inr (Or.inr ⟨by rw [byte_head dp, e48], Or.inr rfl⟩))))
            have HD := Lib.hid hds
            clear t1 hds hm R dz e48
            go_enter Tryd.func63, Tryd.ntmps63
            go_upto_region 5 with (fail)
            rw [HD.out]
            go_wp2
            all_goals
              go_ret2
              exact ⟨res_none RN.out, rfl⟩
          · have dzb : ((ds[0].toNat : Int) == 48) = false := by simp; omega
            refine rparse_neg s hz w hp hne hmb ds hds dp dne db dzb _ ?_
            rw [R, Whole.end_ok ?_]
            · cases refLoop 0 ds.data.toList <;> rfl
            · rintro (h | h | ⟨h, _⟩)
              · omega
              · omega
              · rw [byte_head dp, Option.some.injEq] at h; exact dz (by rw [h]; rfl)
    · have hmb : ((s[0].toNat : Int) == 45) = false := by simp; omega
      have R : refParse s.data.toList = refEnd false s.data.toList := by
        unfold refParse; rw [if_neg]; rw [byte_head hp, Option.some.injEq]; intro h; exact hm (by rw [h]; rfl)
      have dl : s.data.toList.length = s.size := by simp
      by_cases d19 : 19 < s.size
      · have db : decide ((19 : Int) < s.size) = true := by simp; omega
        have RN := Lib.hid (R.trans (Whole.end_bad (Or.inr (Or.inl (by omega)))))
        clear R hm
        go_enter Tryd.func63, Tryd.ntmps63
        go_wp2
        go_ret2
        exact ⟨res_none RN.out, rfl⟩
      · have db : decide ((19 : Int) < s.size) = false := by simp; omega
        by_cases hb : s[0].toNat = 48 ∧ 1 < s.size
        · have dzb : ((s[0].toNat : Int) == 48) = true := by simp [hb.1]
          have d1 : decide ((1 : Int) < s.size) = true := by simp; omega
          have e48 : s[0] = 48 := UInt8.toNat_inj.1 (by rw [hb.1]; rfl)
          have RN := Lib.hid (R.trans (Whole.end_bad (Or.inr (Or.inr ⟨by rw [byte_head hp, e48], Or.inl (by omega)⟩))))
          clear R hm hb e48
          go_enter Tryd.func63, Tryd.ntmps63
          go_wp2
          all_goals
            go_ret2
            exact ⟨res_none RN.out, rfl⟩
        · refine rparse_pos s hz w hp hne hmb db ?_ _ ?_
          · by_cases h48 : s[0].toNat = 48
            · exact Or.inr ⟨by simp [h48], by simp; omega⟩
            · exact Or.inl (by simp; omega)
          · rw [R, Whole.end_ok ?_]
            · cases refLoop 0 s.data.toList <;> simp
            · rintro (h | h | ⟨h, h2 | h2⟩)
              · omega
              · omega
              · rw [byte_head hp, Option.some.injEq] at h; exact hb ⟨by rw [h]; rfl, by omega⟩
              · cases h2
end Go.Proofs.YtkemjjhmabemiaaDoor
/- Walks: the document's lines and numbers. -/
set_option linter.unusedVariables false
set_option linter.unusedSimpArgs false
namespace Go.Proofs.YtkemjjhmabemiaaDoor
open Go.RowKit
open Lin (Txt)

/-- What the document's reader of a text hands back. -/
def TRes2 (r : Lin.R Txt) (e : Ending) : Prop := match r with
  | .there a n => e = .returned (.tuple #[.string (ofL a), .int .i64 (n : Int), .int .i64 0])
  | .short => e = .returned (.tuple #[.string { data := #[] }, .int .i64 0, .int .i64 1])
  | .bad => e = .returned (.tuple #[.string { data := #[] }, .int .i64 0, .int .i64 2])
def NRes2 (r : Lin.R Int) (e : Ending) : Prop := match r with
  | .there v n => e = .returned (.tuple #[.int .i64 v, .int .i64 (n : Int), .int .i64 0])
  | .short => e = .returned (.tuple #[.int .i64 0, .int .i64 0, .int .i64 1])
  | .bad => e = .returned (.tuple #[.int .i64 0, .int .i64 0, .int .i64 2])
theorem t2_bad {r : Lin.R Txt} (h : r = .bad) : TRes2 r (.returned (.tuple #[.string { data := #[] }, .int .i64 0, .int .i64 2])) := by subst h; rfl
theorem t2_short {r : Lin.R Txt} (h : r = .short) : TRes2 r (.returned (.tuple #[.string { data := #[] }, .int .i64 0, .int .i64 1])) := by subst h; rfl
theorem t2_there {r : Lin.R Txt} {a : Txt} {n : Nat} {x : Int} (h : r = .there a n) (e : x = (n : Int)) : TRes2 r (.returned (.tuple #[.string (ofL a), .int .i64 x, .int .i64 0])) := by subst h e; rfl
theorem n2_bad {r : Lin.R Int} (h : r = .bad) : NRes2 r (.returned (.tuple #[.int .i64 0, .int .i64 0, .int .i64 2])) := by subst h; rfl
theorem n2_short {r : Lin.R Int} (h : r = .short) : NRes2 r (.returned (.tuple #[.int .i64 0, .int .i64 0, .int .i64 1])) := by subst h; rfl
theorem n2_there {r : Lin.R Int} {v : Int} {n : Nat} {x : Int} (h : r = .there v n) (e : x = (n : Int)) : NRes2 r (.returned (.tuple #[.int .i64 v, .int .i64 x, .int .i64 0])) := by subst h e; rfl
/-- Where a line's reader stands. -/
def LinAt (s : Txt) (k : Nat) (res : Lin.R Txt) : Prop :=
  ((k = 0 ∨ ∃ y, s[k - 1]? = some y ∧ 1 ≤ k ∧ ¬ y = 13) ∧ res = Lin.lin false (s.take k) (4200 - k) (s.drop k)) ∨
  (1 ≤ k ∧ s[k - 1]? = some 13 ∧ res = Lin.lin true (s.take (k - 1)) (4200 - k) (s.drop k))
theorem linAt_next {s : Txt} {k : Nat} {res : Lin.R Txt} {c : UInt8} (hk : k < 4200) (hc : s[k]? = some c) (h10 : ¬ c = 10) (h : res = Lin.lin false (s.take k) (4200 - k) (s.drop k)) : LinAt s (k + 1) res := by
  obtain ⟨n, hn⟩ : ∃ n, 4200 - k = n + 1 := ⟨4200 - k - 1, by omega⟩
  have hn2 : 4200 - (k + 1) = n := by omega
  rw [hn, drop_cons hc, Lin.lin, if_neg h10] at h
  have hl := (List.getElem?_eq_some_iff.1 hc).1
  have ht : s.take (k + 1) = s.take k ++ [c] := by
    obtain ⟨_, e⟩ := List.getElem?_eq_some_iff.1 hc
    rw [List.take_succ_eq_append_getElem hl, e]
  unfold LinAt
  rw [hn2, Nat.add_sub_cancel]
  by_cases h13 : c = 13
  · right
    rw [if_pos h13] at h
    exact ⟨by omega, by rw [hc, h13], h⟩
  · left
    rw [if_neg h13] at h
    exact ⟨Or.inr ⟨c, hc, by omega, h13⟩, by rw [ht]; exact h⟩
set_option maxHeartbeats 4000000 in
set_option maxRecDepth 100000 in
theorem rline_any (s : Txt) (hl : s.length ≤ 1000000) (w : World) :
    Calls Tryd.prog 62 #[.string (ofL s)] w fun e w' => TRes2 (Lin.line s) e ∧ w' = w := by
  have s1 := ofL_size s
  have L0 := Lib.hid (show LinAt s 0 (Lin.line s) from Or.inl ⟨Or.inl rfl, rfl⟩)
  generalize Lin.line s = res at *
  go_enter Tryd.func62, Tryd.ntmps62
  go_wp2
  go_loop [2, 3, 4, 5] (fun v2 v3 v4 v5 => ∃ k : Nat, v2 = .string { data := #[] } ∧ v3 = .int .i64 0 ∧ v4 = .int .i64 0 ∧ v5 = .int .i64 (k : Int) ∧ k ≤ s.length ∧ k ≤ 4200 ∧ Hid (LinAt s k res)) (fun _ _ _ v5 => s.length - (intOf v5).toNat)
  case atStart => exact ⟨0, rfl, rfl, rfl, rfl, by omega, by omega, L0⟩
  case round =>
    obtain ⟨k, rfl, rfl, rfl, rfl, hk, hk2, LA⟩ := hrel
    clear L0
    by_cases hlt : k < s.length
    · have q1 : (k : Int) < (s.length : Int) := by omega
      by_cases h42 : k < 4200
      · have q2 : (k : Int) < 4200 := by omega
        obtain ⟨c, hc⟩ : ∃ c, s[k]? = some c := ⟨_, List.getElem?_eq_getElem hlt⟩
        have rx := run_at s k c hc
        have HC := Lib.hid hc
        obtain ⟨n, hn⟩ : ∃ n, 4200 - k = n + 1 := ⟨4200 - k - 1, by omega⟩
        rcases LA.out with ⟨hp, hr⟩ | ⟨hk1, hp, hr⟩
        · by_cases h10 : c = 10
          · have b10 : ((c.toNat : Int) == 10) = true := u8t 10 h10 (by omega)
            have RB : Hid (res = .bad) := Lib.hid (by rw [hr, hn, drop_cons hc, Lin.lin, if_pos h10])
            rcases hp with hk0 | ⟨y, hy, hk1, hy13⟩
            · have q3 : ¬ (0 : Int) < (k : Int) := by omega
              clear hc hr hn h10 hk0
              go_wp2
              go_ret3
              exact ⟨t2_bad RB.out, rfl⟩
            · have q3 : (0 : Int) < (k : Int) := by omega
              have ry := run_atI s ((k : Int) - 1) (k - 1) y (by omega) hy
              have by13 : ((y.toNat : Int) == 13) = false := u8f 13 hy13 (by omega)
              clear hc hr hn h10 hy hy13
              go_wp2
              go_ret3
              exact ⟨t2_bad RB.out, rfl⟩
          · have b10 : ((c.toNat : Int) == 10) = false := u8f 10 h10 (by omega)
            have LN := Lib.hid (linAt_next h42 hc h10 hr)
            rcases hp with hk0 | ⟨y, hy, hk1, hy13⟩
            · have q3 : ¬ (0 : Int) < (k : Int) := by omega
              clear hc hr hn h10 hk0
              go_wp2
              go_round
              case rel => exact ⟨k + 1, rfl, rfl, rfl, by go_num, by omega, by omega, LN⟩
              case measure => simp [intOf]; omega
            · have q3 : (0 : Int) < (k : Int) := by omega
              have ry := run_atI s ((k : Int) - 1) (k - 1) y (by omega) hy
              have by13 : ((y.toNat : Int) == 13) = false := u8f 13 hy13 (by omega)
              clear hc hr hn h10 hy hy13
              go_wp2
              go_round
              case rel => exact ⟨k + 1, rfl, rfl, rfl, by go_num, by omega, by omega, LN⟩
              case measure => simp [intOf]; omega
        · have q3 : (0 : Int) < (k : Int) := by omega
          have ry : ∀ w, (Instr.index 9 (.string (ofL s)) (.int .i64 ((k : Int) - 1))).run Tryd.prog w = .ok (.int .u8 13) w := run_atI s ((k : Int) - 1) (k - 1) 13 (by omega) hp
          have rt := run_take s ((k : Int) - 1) (by omega) (by omega)
          by_cases h10 : c = 10
          · have b10 : ((c.toNat : Int) == 10) = true := u8t 10 h10 (by omega)
            have e : ((k : Int) - 1).toNat = k - 1 := by omega
            rw [e] at rt
            have RT : Hid (res = .there (s.take (k - 1)) (k + 1)) := Lib.hid (by
              rw [hr, hn, drop_cons hc, Lin.lin, if_pos h10, List.length_take]
              congr 1
              omega)
            generalize s.take (k - 1) = t at *
            clear hc hr hn h10 hp e
            go_wp2
            go_ret3
            exact ⟨t2_there RT.out (by omega), rfl⟩
          · have b10 : ((c.toNat : Int) == 10) = false := u8f 10 h10 (by omega)
            have RB : Hid (res = .bad) := Lib.hid (by rw [hr, hn, drop_cons hc, Lin.lin, if_neg h10])
            clear hc hr hn h10 hp
            go_wp2
            go_ret3
            exact ⟨t2_bad RB.out, rfl⟩
      · have q2 : ¬ (k : Int) < 4200 := by omega
        have q4 : (4200 : Int) ≤ (s.length : Int) := by omega
        have RB : Hid (res = .bad) := Lib.hid (by
          have e : 4200 - k = 0 := by omega
          rcases LA.out with ⟨_, hr⟩ | ⟨_, _, hr⟩ <;> (rw [hr, e, Lin.lin]))
        go_wp2
        go_ret3
        exact ⟨t2_bad RB.out, rfl⟩
    · have q1 : ¬ (k : Int) < (s.length : Int) := by omega
      by_cases h42 : k < 4200
      · have q4 : ¬ (4200 : Int) ≤ (s.length : Int) := by omega
        have RS : Hid (res = .short) := Lib.hid (by
          obtain ⟨n, hn⟩ : ∃ n, 4200 - k = n + 1 := ⟨4200 - k - 1, by omega⟩
          have hd : s.drop k = [] := List.drop_eq_nil_of_le (by omega)
          rcases LA.out with ⟨_, hr⟩ | ⟨_, _, hr⟩ <;> (rw [hr, hn, hd, Lin.lin]))
        go_wp2
        go_ret3
        exact ⟨t2_short RS.out, rfl⟩
      · have q4 : (4200 : Int) ≤ (s.length : Int) := by omega
        have RB : Hid (res = .bad) := Lib.hid (by
          have e : 4200 - k = 0 := by omega
          rcases LA.out with ⟨_, hr⟩ | ⟨_, _, hr⟩ <;> (rw [hr, e, Lin.lin]))
        go_wp2
        go_ret3
        exact ⟨t2_bad RB.out, rfl⟩
set_option maxHeartbeats 4000000 in
set_option maxRecDepth 100000 in
theorem rnum_any (m : UInt8) (mi x y : Int) (hmi : mi = (m.toNat : Int)) (s : Txt) (w : World) (hl : s.length ≤ 100000) :
    Calls Tryd.prog 50 #[.string (ofL s), .int .u8 mi, .int .i64 x, .int .i64 y] w fun e w' => NRes2 (Lin.num m x y s) e ∧ w' = w := by
  subst hmi
  cases s with
  | nil =>
    show Calls Tryd.prog 50 #[.string { data := #[] }, .int .u8 (m.toNat : Int), .int .i64 x, .int .i64 y] w fun e w' => NRes2 (Lin.num m x y []) e ∧ w' = w
    go_enter Tryd.func50, Tryd.ntmps50
    go_wp2
    go_ret3
    exact ⟨n2_short rfl, rfl⟩
  | cons c r =>
    have hr : r.length ≤ 100000 := by rw [List.length_cons] at hl; omega
    have hne : (ofL (c :: r)).toList.isEmpty = false := by rw [ofL_toList]; rfl
    have hne2 : ¬ (ofL (c :: r)).toList = [] := by rw [ofL_toList]; simp
    have rx0 : ∀ w, (Instr.index 9 (.string (ofL (c :: r))) (.int .i64 0)).run Tryd.prog w = .ok (.int .u8 (c.toNat : Int)) w := run_at (c :: r) 0 c rfl
    have rd : ∀ w, (Instr.slice 9 (.string (ofL (c :: r))) (some (.int .i64 1)) none none).run Tryd.prog w = .ok (.string (ofL r)) w := fun w => run_drop (c :: r) 1 (by omega) (by simp; omega) w
    have L := Lib.hid (rline_any r (by omega) w)
    have NX := Lib.hid (show Lin.num m x y (c :: r) = if c = m then (match Lin.line r with | .there l n => (match Whole.wparse l with | some v => if v < x ∨ y < v then .bad else .there v (n + 1) | none => .bad) | .short => .short | .bad => .bad) else .bad from rfl)
    generalize hq : ofL (c :: r) = t at *
    clear hq hl
    by_cases hcm : c = m
    · have hb : ((c.toNat : Int) != (m.toNat : Int)) = false := by unfold bne; rw [u8beq]; simp [hcm]
      have NX : Hid (_ = _) := Lib.hid (NX.out.trans (if_pos hcm))
      clear hcm
      generalize Lin.num m x y (c :: r) = res at *
      cases hln : Lin.line r with
      | short =>
        rw [hln] at L NX
        have NX : Hid (res = .short) := NX
        have L : Hid (Calls Tryd.prog 62 #[.string (ofL r)] w fun e w' => e = .returned (.tuple #[.string { data := #[] }, .int .i64 0, .int .i64 1]) ∧ w' = w) := L
        have HL := Lib.hid hln
        clear hln
        go_enter Tryd.func50, Tryd.ntmps50
        go_wp2_with fail
        refine (L.out).mono ?_
        rintro e w1 ⟨rfl, rfl⟩
        go_wp2
        go_ret3
        exact ⟨n2_short NX.out, rfl⟩
      | bad =>
        rw [hln] at L NX
        have NX : Hid (res = .bad) := NX
        have L : Hid (Calls Tryd.prog 62 #[.string (ofL r)] w fun e w' => e = .returned (.tuple #[.string { data := #[] }, .int .i64 0, .int .i64 2]) ∧ w' = w) := L
        have HL := Lib.hid hln
        clear hln
        go_enter Tryd.func50, Tryd.ntmps50
        go_wp2_with fail
        refine (L.out).mono ?_
        rintro e w1 ⟨rfl, rfl⟩
        go_wp2
        go_ret3
        exact ⟨n2_bad NX.out, rfl⟩
      | there a k =>
        rw [hln] at L NX
        have NX : Hid (res = (match Whole.wparse a with | some v => if v < x ∨ y < v then .bad else .there v (k + 1) | none => .bad)) := NX
        have hk := Lin.line_there hln
        have L : Hid (Calls Tryd.prog 62 #[.string (ofL r)] w fun e w' => e = .returned (.tuple #[.string (ofL a), .int .i64 (k : Int), .int .i64 0]) ∧ w' = w) := L
        have PA := rparse_any (ofL a) (by rw [ofL_size]; omega) w
        have eo : Whole.refParse (ofL a).data.toList = Whole.wparse a := (Whole.wparse_ref a).symm
        rw [eo] at PA
        unfold Res at PA
        have HL := Lib.hid hln
        clear hln eo
        cases hwp : Whole.wparse a with
        | none =>
          rw [hwp] at PA NX
          have NX : Hid (res = .bad) := NX
          have PA : Hid (Calls Tryd.prog 63 #[.string (ofL a)] w fun e w' => e = .returned (.tuple #[.int .i64 0, .int .i64 11]) ∧ w' = w) := Lib.hid PA
          clear hwp
          go_enter Tryd.func50, Tryd.ntmps50
          go_wp2_with fail
          refine (L.out).mono ?_
          rintro e w1 ⟨rfl, rfl⟩
          go_wp2_with fail
          refine (PA.out).mono ?_
          rintro e w2 ⟨rfl, rfl⟩
          go_wp2
          go_ret3
          exact ⟨n2_bad NX.out, rfl⟩
        | some v =>
          rw [hwp] at PA NX
          have PA : Hid (Calls Tryd.prog 63 #[.string (ofL a)] w fun e w' => e = .returned (.tuple #[.int .i64 v, .int .i64 0]) ∧ w' = w) := Lib.hid PA
          have NX : Hid (res = if v < x ∨ y < v then .bad else .there v (k + 1)) := NX
          obtain ⟨v0, v1⟩ : -9223372036854775808 ≤ v ∧ v ≤ 9223372036854775807 := by
            have := (Whole.wparse_is a v).1 hwp
            exact ⟨this.2.1, this.2.2⟩
          clear hwp
          by_cases q1 : v < x
          · have NX : Hid (res = .bad) := Lib.hid (NX.out.trans (if_pos (Or.inl q1)))
            go_enter Tryd.func50, Tryd.ntmps50
            go_wp2_with fail
            refine (L.out).mono ?_
            rintro e w1 ⟨rfl, rfl⟩
            go_wp2_with fail
            refine (PA.out).mono ?_
            rintro e w2 ⟨rfl, rfl⟩
            go_wp2
            go_ret3
            exact ⟨n2_bad NX.out, rfl⟩
          · by_cases q2 : y < v
            · have NX : Hid (res = .bad) := Lib.hid (NX.out.trans (if_pos (Or.inr q2)))
              go_enter Tryd.func50, Tryd.ntmps50
              go_wp2_with fail
              refine (L.out).mono ?_
              rintro e w1 ⟨rfl, rfl⟩
              go_wp2_with fail
              refine (PA.out).mono ?_
              rintro e w2 ⟨rfl, rfl⟩
              go_wp2
              go_ret3
              exact ⟨n2_bad NX.out, rfl⟩
            · have NX : Hid (res = .there v (k + 1)) := Lib.hid (NX.out.trans (if_neg (by omega)))
              go_enter Tryd.func50, Tryd.ntmps50
              go_wp2_with fail
              refine (L.out).mono ?_
              rintro e w1 ⟨rfl, rfl⟩
              go_wp2_with fail
              refine (PA.out).mono ?_
              rintro e w2 ⟨rfl, rfl⟩
              go_wp2
              go_ret3
              exact ⟨n2_there NX.out (by omega), rfl⟩
    · have hb : ((c.toNat : Int) != (m.toNat : Int)) = true := by unfold bne; rw [u8beq]; simp [hcm]
      have NX : Hid (_ = Lin.R.bad) := Lib.hid (NX.out.trans (if_neg hcm))
      clear hcm L
      go_enter Tryd.func50, Tryd.ntmps50
      go_wp2
      go_ret3
      exact ⟨n2_bad NX.out, rfl⟩
end Go.Proofs.YtkemjjhmabemiaaDoor
/- Walk: the document's commands with lengths. -/
set_option linter.unusedVariables false
set_option linter.unusedSimpArgs false
namespace Go.Proofs.YtkemjjhmabemiaaDoor
open Go.RowKit
open Lin (Txt)

def ARes (base : Nat) (r : Lin.R (List Txt)) (e : Ending) (w' : World) : Prop := match r with
  | .there l n => ∃ v, e = .returned (.tuple #[v, .int .i64 (n : Int), .int .i64 0]) ∧ TxtsO w' base v l
  | .short => e = .returned (.tuple #[.slice none 0 0, .int .i64 0, .int .i64 1])
  | .bad => e = .returned (.tuple #[.slice none 0 0, .int .i64 0, .int .i64 2])
theorem a2_bad {base : Nat} {r : Lin.R (List Txt)} {w' : World} (h : r = .bad) : ARes base r (.returned (.tuple #[.slice none 0 0, .int .i64 0, .int .i64 2])) w' := by subst h; rfl
theorem a2_short {base : Nat} {r : Lin.R (List Txt)} {w' : World} (h : r = .short) : ARes base r (.returned (.tuple #[.slice none 0 0, .int .i64 0, .int .i64 1])) w' := by subst h; rfl
theorem a2_there {base : Nat} {r : Lin.R (List Txt)} {w' : World} {v : Value} {l : List Txt} {n : Nat} {x : Int} (h : r = .there l n) (e : x = (n : Int)) (ht : TxtsO w' base v l) : ARes base r (.returned (.tuple #[v, .int .i64 x, .int .i64 0])) w' := by subst h e; exact ⟨v, rfl, ht⟩
set_option maxHeartbeats 4000000 in
set_option maxRecDepth 100000 in
theorem rarray_any (s : Txt) (w : World) (hl : s.length ≤ 100000) :
    Calls Tryd.prog 29 #[.string (ofL s)] w fun e w' => ARes w.heap.size (Lin.array s) e w' ∧ Upd (fun _ => False) w w' := by
  have NU := rnum_any 42 42 (-1) 64 rfl s w hl
  have AX := Lib.hid (show Lin.array s = match Lin.num 42 (-1) 64 s with
    | .there v n => Lin.arr v.toNat n [] (s.drop n)
    | .short => .short
    | .bad => .bad from rfl)
  generalize Lin.array s = res at *
  cases hn : Lin.num 42 (-1) 64 s with
  | short =>
    rw [hn] at NU AX
    have NU : Hid (Calls Tryd.prog 50 #[.string (ofL s), .int .u8 42, .int .i64 (-1), .int .i64 64] w fun e w' => e = .returned (.tuple #[.int .i64 0, .int .i64 0, .int .i64 1]) ∧ w' = w) := Lib.hid NU
    have HN := Lib.hid hn
    clear hn
    go_enter Tryd.func29, Tryd.ntmps29
    go_wp2_with fail
    refine (NU.out).mono ?_
    rintro e w1 ⟨rfl, rfl⟩
    go_wp2
    go_ret3
    exact ⟨a2_short AX.out, Upd.refl _ _⟩
  | bad =>
    rw [hn] at NU AX
    have NU : Hid (Calls Tryd.prog 50 #[.string (ofL s), .int .u8 42, .int .i64 (-1), .int .i64 64] w fun e w' => e = .returned (.tuple #[.int .i64 0, .int .i64 0, .int .i64 2]) ∧ w' = w) := Lib.hid NU
    have HN := Lib.hid hn
    clear hn
    go_enter Tryd.func29, Tryd.ntmps29
    go_wp2_with fail
    refine (NU.out).mono ?_
    rintro e w1 ⟨rfl, rfl⟩
    go_wp2
    go_ret3
    exact ⟨a2_bad AX.out, Upd.refl _ _⟩
  | there v n =>
    rw [hn] at NU AX
    obtain ⟨n1, n2, n3, n4⟩ := Lin.num_there hn
    have NU : Hid (Calls Tryd.prog 50 #[.string (ofL s), .int .u8 42, .int .i64 (-1), .int .i64 64] w fun e w' => e = .returned (.tuple #[.int .i64 v, .int .i64 (n : Int), .int .i64 0]) ∧ w' = w) := Lib.hid NU
    have AX : Hid (res = Lin.arr v.toNat n [] (s.drop n)) := AX
    have HN := Lib.hid hn
    clear hn
    go_enter Tryd.func29, Tryd.ntmps29
    go_wp2_with fail
    refine NU.out.mono ?_
    rintro e w1 ⟨rfl, hw1⟩
    subst hw1
    go_wp2
    go_loopw [2, 3, 4, 6, 8, 9] (fun v2 v3 v4 v6 v8 v9 wr => ∃ (j a : Nat) (out : List Txt), v2 = .slice none 0 0 ∧ v3 = .int .i64 0 ∧ v4 = .int .i64 0 ∧ v6 = .int .i64 (a : Int) ∧ a ≤ s.length ∧ v9 = .int .i64 (j : Int) ∧ j ≤ v.toNat ∧ Hid (res = Lin.arr (v.toNat - j) a out (s.drop a)) ∧ Hid (TxtsO wr w1.heap.size v8 out ∧ out.length = j) ∧ Hid (Upd (fun _ => False) w1 wr)) (fun _ _ _ _ _ v9 _ => v.toNat - (intOf v9).toNat)
    case atStart => exact ⟨0, n, [], rfl, rfl, rfl, rfl, n2, rfl, by omega, AX, Lib.hid ⟨OwnN.made _ _, rfl⟩, Lib.hid ((Upd.refl _ _).alloc _)⟩
    case round =>
      obtain ⟨j, a, out, rfl, rfl, rfl, rfl, ha, rfl, hj, AR, OT, U⟩ := hrel
      obtain ⟨p8, c8, e8, hl8, hc8⟩ := OT.out.1.slice
      subst e8
      by_cases hjv : j < v.toNat
      · have q1 : (j : Int) < v := by omega
        have rd1 := run_drop s (a : Int) (by omega) (by omega)
        rw [Int.toNat_natCast] at rd1
        have hld : (s.drop a).length ≤ 100000 := by rw [List.length_drop]; omega
        have WD := Lib.hid (fun w => rnum_any 36 36 0 4096 rfl (s.drop a) w hld)
        have hld2 : (s.drop a).length = s.length - a := List.length_drop
        have WX : Hid (Lin.word (s.drop a) = match Lin.num 36 0 4096 (s.drop a) with
          | .there v n =>
            if (v.toNat < ((s.drop a).drop n).length ∧ ((s.drop a).drop n).getD v.toNat 0 ≠ 13) ∨ (v.toNat + 1 < ((s.drop a).drop n).length ∧ ((s.drop a).drop n).getD (v.toNat + 1) 0 ≠ 10) then .bad
            else if ((s.drop a).drop n).length < v.toNat + 2 then .short else .there (((s.drop a).drop n).take v.toNat) (n + v.toNat + 2)
          | .short => .short
          | .bad => .bad) := Lib.hid rfl
        have AR : Hid (res = match Lin.word (s.drop a) with | .there x m => Lin.arr (v.toNat - j - 1) (a + m) (out ++ [x]) ((s.drop a).drop m) | .short => .short | .bad => .bad) := by
          have := AR.out
          obtain ⟨q, hq⟩ : ∃ q, v.toNat - j = q + 1 := ⟨v.toNat - j - 1, by omega⟩
          rw [hq] at this ⊢
          exact this
        cases hw : Lin.num 36 0 4096 (s.drop a) with
        | short =>
          rw [hw] at WD WX
          have WD : Hid (∀ w, Calls Tryd.prog 50 #[.string (ofL (s.drop a)), .int .u8 36, .int .i64 0, .int .i64 4096] w fun e w' => e = .returned (.tuple #[.int .i64 0, .int .i64 0, .int .i64 1]) ∧ w' = w) := WD
          have AR : Hid (res = .short) := by rw [WX.out] at AR; exact AR
          clear hw hld2 WX
          generalize ofL (s.drop a) = sa at *
          go_wp2_with (go_at_call 50; refine (WD.out _).mono ?_; rintro e w2 ⟨rfl, rfl⟩)
          go_ret3
          exact ⟨a2_short AR.out, U.out⟩
        | bad =>
          rw [hw] at WD WX
          have WD : Hid (∀ w, Calls Tryd.prog 50 #[.string (ofL (s.drop a)), .int .u8 36, .int .i64 0, .int .i64 4096] w fun e w' => e = .returned (.tuple #[.int .i64 0, .int .i64 0, .int .i64 2]) ∧ w' = w) := WD
          have AR : Hid (res = .bad) := by rw [WX.out] at AR; exact AR
          clear hw hld2 WX
          generalize ofL (s.drop a) = sa at *
          go_wp2_with (go_at_call 50; refine (WD.out _).mono ?_; rintro e w2 ⟨rfl, rfl⟩)
          go_ret3
          exact ⟨a2_bad AR.out, U.out⟩
        | there x m =>
          rw [hw] at WD WX
          obtain ⟨m1, m2, m3, m4⟩ := Lin.num_there hw
          obtain ⟨k, rfl⟩ : ∃ k : Nat, x = (k : Int) := ⟨x.toNat, by omega⟩
          have WD : Hid (∀ w, Calls Tryd.prog 50 #[.string (ofL (s.drop a)), .int .u8 36, .int .i64 0, .int .i64 4096] w fun e w' => e = .returned (.tuple #[.int .i64 (k : Int), .int .i64 (m : Int), .int .i64 0]) ∧ w' = w) := WD
          have WX : Hid (Lin.word (s.drop a) = (if (k < ((s.drop a).drop m).length ∧ ((s.drop a).drop m).getD k 0 ≠ 13) ∨ (k + 1 < ((s.drop a).drop m).length ∧ ((s.drop a).drop m).getD (k + 1) 0 ≠ 10) then .bad
            else if ((s.drop a).drop m).length < k + 2 then .short else .there (((s.drop a).drop m).take k) (m + k + 2))) := WX
          have ham : a + m ≤ s.length := by omega
          have rd2 := run_drop s ((a : Int) + (m : Int)) (by omega) (by omega)
          have et : ((a : Int) + (m : Int)).toNat = a + m := by omega
          rw [et] at rd2
          have hrl : (s.drop (a + m)).length = s.length - (a + m) := List.length_drop
          rw [List.drop_drop] at WX
          have HA : Hid (∀ x n, Lin.word (s.drop a) = .there x n → res = Lin.arr (v.toNat - (j + 1)) (a + n) (out ++ [x]) (s.drop (a + n))) := Lib.hid fun x n h => by
            have := AR.out
            rw [h] at this
            have e : v.toNat - j - 1 = v.toNat - (j + 1) := by omega
            rw [← e, ← List.drop_drop]; exact this
          have HB : Hid (Lin.word (s.drop a) = .bad → res = .bad) := Lib.hid fun h => by have := AR.out; rw [h] at this; exact this
          have HS : Hid (Lin.word (s.drop a) = .short → res = .short) := Lib.hid fun h => by have := AR.out; rw [h] at this; exact this
          generalize Lin.word (s.drop a) = wres at *
          generalize ofL (s.drop a) = sa at *
          have sr := ofL_size (s.drop (a + m))
          generalize hr : s.drop (a + m) = r at *
          clear hw AR hld2 hld et
          by_cases hk1 : k < r.length
          · have q2 : (k : Int) < (r.length : Int) := by omega
            obtain ⟨c1, hc1⟩ : ∃ c1, r[k]? = some c1 := ⟨_, List.getElem?_eq_getElem hk1⟩
            have g1 : r.getD k 0 = c1 := by rw [List.getD_eq_getElem?_getD, hc1]; rfl
            have rx1 := run_at r k c1 hc1
            by_cases h13 : c1 = 13
            · have b13 : ((c1.toNat : Int) != 13) = false := u8m 13 h13 (by omega)
              by_cases hk2 : k + 1 < r.length
              · have q3 : (k : Int) + 1 < (r.length : Int) := by omega
                obtain ⟨c2, hc2⟩ : ∃ c2, r[k + 1]? = some c2 := ⟨_, List.getElem?_eq_getElem hk2⟩
                have g2 : r.getD (k + 1) 0 = c2 := by rw [List.getD_eq_getElem?_getD, hc2]; rfl
                have rx2 := run_atI r ((k : Int) + 1) (k + 1) c2 (by omega) hc2
                by_cases h10 : c2 = 10
                · have b10 : ((c2.toNat : Int) != 10) = false := u8m 10 h10 (by omega)
                  have WX : Hid (wres = .there (r.take k) (m + k + 2)) := Lib.hid (WX.out.trans ((if_neg (by rw [g1, g2]; rintro (⟨_, h⟩ | ⟨_, h⟩) <;> exact h (by assumption))).trans (if_neg (by omega))))
                  have RR := Lib.hid (HA.out _ _ WX.out)
                  have q4 : ¬ (r.length : Int) < (k : Int) + 2 := by omega
                  have rt := run_take r (k : Int) (by omega) (by omega)
                  rw [Int.toNat_natCast] at rt
                  have hjo : out.length ≤ 64 := by have := OT.out.2; omega
                  have HR := Lib.hid hr
                  have ha2 : a + (m + k + 2) ≤ s.length := by omega
                  generalize r.take k = x at *
                  clear hc1 hc2 g1 g2 h13 h10 hr hrl
                  obtain ⟨p5, k5, w5, hr1, i5, u5, n5⟩ := txts_app wr w1.heap.size _ out x OT.out.1 (by omega) U.out.size
                  have I5 := Lib.hid i5
                  have U5 := Lib.hid (upd_own OT.out.1 U.out u5)
                  clear i5 u5 n5
                  go_wp2_with (first | (go_at_call 50; refine (WD.out _).mono ?_; rintro e w2 ⟨rfl, rfl⟩) | (at_builtin; refine wpList_builtinN rfl _ _ 23 rfl _ _ rfl rfl hr1 ?_))
                  go_roundw
                  case rel => exact ⟨j + 1, a + (m + k + 2), out ++ [x], rfl, rfl, rfl, by go_num, ha2, by go_num, by omega, RR, Lib.hid ⟨I5.out, by have := OT.out.2; simp; omega⟩, U5⟩
                  case measure => simp [intOf]; omega
                · have b10 : ((c2.toNat : Int) != 10) = true := u8n 10 h10 (by omega)
                  have RB := Lib.hid (HB.out (WX.out.trans (if_pos (Or.inr ⟨hk2, by rw [g2]; exact h10⟩))))
                  have HR := Lib.hid hr
                  clear hc1 hc2 g1 g2 h13 h10 hr
                  go_wp2_with (go_at_call 50; refine (WD.out _).mono ?_; rintro e w2 ⟨rfl, rfl⟩)
                  go_ret3
                  exact ⟨a2_bad RB.out, U.out⟩
              · have q3 : ¬ (k : Int) + 1 < (r.length : Int) := by omega
                have RS := Lib.hid (HS.out (WX.out.trans ((if_neg (by rw [g1]; rintro (⟨_, h⟩ | ⟨h, _⟩); exact h h13; exact hk2 h)).trans (if_pos (by omega)))))
                have q4 : (r.length : Int) < (k : Int) + 2 := by omega
                have HR := Lib.hid hr
                clear hc1 g1 h13 hr
                go_wp2_with (go_at_call 50; refine (WD.out _).mono ?_; rintro e w2 ⟨rfl, rfl⟩)
                go_ret3
                exact ⟨a2_short RS.out, U.out⟩
            · have b13 : ((c1.toNat : Int) != 13) = true := u8n 13 h13 (by omega)
              have RB := Lib.hid (HB.out (WX.out.trans (if_pos (Or.inl ⟨hk1, by rw [g1]; exact h13⟩))))
              have HR := Lib.hid hr
              clear hc1 g1 h13 hr
              go_wp2_with (go_at_call 50; refine (WD.out _).mono ?_; rintro e w2 ⟨rfl, rfl⟩)
              go_ret3
              exact ⟨a2_bad RB.out, U.out⟩
          · have q2 : ¬ (k : Int) < (r.length : Int) := by omega
            have q3 : ¬ (k : Int) + 1 < (r.length : Int) := by omega
            have q4 : (r.length : Int) < (k : Int) + 2 := by omega
            have RS := Lib.hid (HS.out (WX.out.trans ((if_neg (by omega)).trans (if_pos (by omega)))))
            have HR := Lib.hid hr
            clear hr
            go_wp2_with (go_at_call 50; refine (WD.out _).mono ?_; rintro e w2 ⟨rfl, rfl⟩)
            go_ret3
            exact ⟨a2_short RS.out, U.out⟩
      · have q1 : ¬ (j : Int) < v := by omega
        have AR : Hid (res = .there out a) := by
          have := AR.out
          have e : v.toNat - j = 0 := by omega
          rw [e, Lin.arr] at this; exact Lib.hid this
        go_wp2
        go_ret3
        exact ⟨a2_there AR.out rfl OT.out.1, U.out⟩
end Go.Proofs.YtkemjjhmabemiaaDoor
