/- Walks: the document's parse. -/
import Derived.Test.YtgdenmddbgcacaaGreatDoorK16
import Derived.Deep.DeepCutAuto
import Derived.Test.YtgdenmddbgcacaaGreatDoorK19
set_option linter.unusedVariables false
set_option linter.unusedSimpArgs false
namespace Whole
theorem loop_nil (n : Int) : refLoop n [] = some n := rfl
theorem loop_bad {n : Int} {c : UInt8} {r : List UInt8} (h : ¬ isD c) : refLoop n (c :: r) = none := by rw [refLoop, if_pos h]
theorem loop_over {n : Int} {c : UInt8} {r : List UInt8} (h : n < -922337203685477580 ∨ (n = -922337203685477580 ∧ 8 < (c.toNat : Int) - 48)) : refLoop n (c :: r) = none := by
  rw [refLoop]
  by_cases hc : ¬ isD c
  · rw [if_pos hc]
  · rw [if_neg hc, if_pos h]
theorem loop_go {n : Int} {c : UInt8} {r : List UInt8} (h0 : isD c) (h : ¬ (n < -922337203685477580 ∨ (n = -922337203685477580 ∧ 8 < (c.toNat : Int) - 48))) : refLoop n (c :: r) = refLoop (10 * n - ((c.toNat : Int) - 48)) r := by
  rw [refLoop, if_neg (by simpa using h0), if_neg h]
theorem loop_to {n x : Int} {c : UInt8} {r : List UInt8} (h0 : isD c) (h : ¬ (n < -922337203685477580 ∨ (n = -922337203685477580 ∧ 8 < (c.toNat : Int) - 48))) (e : x = 10 * n - ((c.toNat : Int) - 48)) : refLoop n (c :: r) = refLoop x r := by
  rw [loop_go h0 h, e]
theorem end_bad {neg : Bool} {l : List UInt8} (h : l.length = 0 ∨ 19 < l.length ∨ (l.head? = some 48 ∧ (1 < l.length ∨ neg = true))) : refEnd neg l = none := by
  unfold refEnd; rw [if_pos h]
theorem end_ok {neg : Bool} {l : List UInt8} (h : ¬ (l.length = 0 ∨ 19 < l.length ∨ (l.head? = some 48 ∧ (1 < l.length ∨ neg = true)))) : refEnd neg l = match refLoop 0 l with
    | none => none
    | some n => if neg = true then some n else if n = -9223372036854775808 then none else some (-n) := by
  unfold refEnd; rw [if_neg h]; rfl
end Whole
namespace Go.Proofs.YtgdenmddbgcacaaGreatDoor
open Go.RowKit Go.Sort Go.Proofs
open Whole (wparse refParse refEnd refLoop isD)

def on (o : Option Int) : Int := o.getD 0
def oe (o : Option Int) : Int := if o.isSome then 0 else 11
theorem pnum_on (s : ByteArray) : pnum s = on (refParse s.data.toList) ∧ perr s = oe (refParse s.data.toList) := by
  unfold pnum perr on oe; rw [Whole.wparse_ref]; exact ⟨rfl, rfl⟩
theorem byte_head {s : ByteArray} (h : 0 < s.size) : s.data.toList.head? = some s[0] := by
  have : 0 < s.data.toList.length := by simpa using h
  rw [List.head?_eq_getElem?, List.getElem?_eq_getElem this]; rfl
theorem byte_drop {s : ByteArray} {k : Nat} (h : k < s.size) : s.data.toList.drop k = s[k] :: s.data.toList.drop (k + 1) := by
  rw [List.drop_eq_getElem_cons (by simpa using h)]; rfl
theorem byte_drop_all (s : ByteArray) : s.data.toList.drop s.size = [] := List.drop_eq_nil_of_le (by simp)
/-- A parse's results at what the document says of it. -/
def Res (o : Option Int) (e : Ending) : Prop := e = .returned (.tuple #[.int .i64 (on o), .int .i64 (oe o)])
theorem res_none {o : Option Int} (h : o = none) : Res o (.returned (.tuple #[.int .i64 0, .int .i64 11])) := by subst h; rfl
theorem res_some {o : Option Int} {n : Int} (h : o = some n) : Res o (.returned (.tuple #[.int .i64 n, .int .i64 0])) := by subst h; rfl

set_option maxHeartbeats 1000000 in
/-- no sign, and digits that can be looked at -/
theorem rparse_pos (s : ByteArray) (hz : s.size ≤ 100000) (w : World) (h0 : 0 < s.size) (hne : ¬ s = ByteArray.empty) (hm : ((s[0].toNat : Int) == 45) = false) (h19 : decide ((19 : Int) < s.size) = false) (hd : (((s[0].toNat : Int) == 48) = false) ∨ (((s[0].toNat : Int) == 48) = true ∧ decide ((1 : Int) < s.size) = false))
    (o : Option Int) (ho : o = match refLoop 0 s.data.toList with
    | none => none
    | some n => if n = -9223372036854775808 then none else some (-n)) :
    Calls Tryz.prog 67 #[.string s] w fun e w' => Res o e ∧ w' = w := by
  have HO := Lib.hid ho
  clear ho
  rcases hd with hd | ⟨hd, hd2⟩
  all_goals
    go_enter Tryz.func67, Tryz.ntmps67
    go_wp2
    go_loop [2, 3, 6, 7] (fun r2 r3 n i => r2 = .int .i64 0 ∧ r3 = .int .i64 0 ∧ ∃ (k : Nat) (m : Int), k ≤ s.size ∧ i = .int .i64 k ∧ n = .int .i64 m ∧ -9223372036854775808 ≤ m ∧ m ≤ 0 ∧ Hid (refLoop 0 s.data.toList = refLoop m (s.data.toList.drop k))) (fun _ _ _ i => s.size - (intOf i).toNat)
    case atStart => exact ⟨rfl, rfl, 0, 0, by omega, rfl, rfl, by omega, by omega, Lib.hid rfl⟩
    case round =>
      obtain ⟨rfl, rfl, k, m, hk, rfl, rfl, m0, m1, HR⟩ := hrel
      by_cases hlt : k < s.size
      · have h256 : s[k].toNat < 256 := s[k].toNat_lt
        have D := Lib.hid (byte_drop hlt)
        go_wp2
        all_goals first
          | (go_ret2
             exact ⟨res_none (by rw [HO.out, HR.out, D.out]; first | rw [Whole.loop_bad (by unfold isD; omega)] | rw [Whole.loop_over (by omega)]), rfl⟩)
          | (go_round
             case rel => exact ⟨_, _, _, _, ⟨rfl, rfl, k + 1, by omega, rfl, _, rfl, by omega, by omega, Lib.hid (by rw [HR.out, D.out]; exact Whole.loop_to (by unfold isD; omega) (by omega) (by omega))⟩, rfl, rfl, rfl, by go_num⟩
             case measure => simp [intOf]; omega)
      · have hk2 : k = s.size := by omega
        subst hk2
        by_cases hl : m = -9223372036854775808
        · have hlb : (m == -9223372036854775808) = true := by simp [hl]
          have HL := Lib.hid hl
          clear hl
          go_wp2
          go_ret2
          exact ⟨res_none (by rw [HO.out, HR.out, byte_drop_all, Whole.loop_nil]; simp [HL.out]), rfl⟩
        · have hlb : (m == -9223372036854775808) = false := by simp [hl]
          have hl2 : -9223372036854775807 ≤ m := by omega
          have HL := Lib.hid hl
          clear hl
          go_wp2
          go_ret2
          exact ⟨res_some (by rw [HO.out, HR.out, byte_drop_all, Whole.loop_nil]; simp [HL.out]), rfl⟩

theorem neg_tail {s : ByteArray} (h : 0 < s.size) (hm : s[0].toNat = 45) : s.data.toList = 45 :: (s.extract 1 s.size).data.toList ∧ (s.extract 1 s.size).size = s.size - 1 := by
  have e := byte_drop h
  rw [List.drop_zero] at e
  have e2 : s[0] = 45 := UInt8.toNat_inj.1 (by rw [hm]; rfl)
  refine ⟨?_, by simp⟩
  rw [e, e2]
  simp
  rw [List.take_of_length_le (by simp)]
set_option maxHeartbeats 1000000 in
/-- a sign, and digits that can be looked at -/
theorem rparse_neg (s : ByteArray) (hz : s.size ≤ 100000) (w : World) (h0 : 0 < s.size) (hne : ¬ s = ByteArray.empty) (hm : ((s[0].toNat : Int) == 45) = true) (ds : ByteArray) (hds : s.extract 1 s.size = ds) (d0 : 0 < ds.size) (dne : ¬ ds = ByteArray.empty) (h19 : decide ((19 : Int) < ds.size) = false) (hd : ((ds[0].toNat : Int) == 48) = false)
    (o : Option Int) (ho : o = refLoop 0 ds.data.toList) :
    Calls Tryz.prog 67 #[.string s] w fun e w' => Res o e ∧ w' = w := by
  have HO := Lib.hid ho
  have HD := Lib.hid hds
  have dz : ds.size ≤ 100000 := by rw [← hds]; simp; omega
  clear ho hds
  go_enter Tryz.func67, Tryz.ntmps67
  go_upto_region 5 with (fail)
  rw [HD.out]
  go_wp2
  go_loop [2, 3, 6, 7] (fun r2 r3 n i => r2 = .int .i64 0 ∧ r3 = .int .i64 0 ∧ ∃ (k : Nat) (m : Int), k ≤ ds.size ∧ i = .int .i64 k ∧ n = .int .i64 m ∧ -9223372036854775808 ≤ m ∧ m ≤ 0 ∧ Hid (refLoop 0 ds.data.toList = refLoop m (ds.data.toList.drop k))) (fun _ _ _ i => ds.size - (intOf i).toNat)
  case atStart => exact ⟨rfl, rfl, 0, 0, by omega, rfl, rfl, by omega, by omega, Lib.hid rfl⟩
  case round =>
    obtain ⟨rfl, rfl, k, m, hk, rfl, rfl, m0, m1, HR⟩ := hrel
    by_cases hlt : k < ds.size
    · have h256 : ds[k].toNat < 256 := ds[k].toNat_lt
      have D := Lib.hid (byte_drop hlt)
      go_wp2
      all_goals first
        | (go_ret2
           exact ⟨res_none (by rw [HO.out, HR.out, D.out]; first | rw [Whole.loop_bad (by unfold isD; omega)] | rw [Whole.loop_over (by omega)]), rfl⟩)
        | (go_round
           case rel => exact ⟨_, _, _, _, ⟨rfl, rfl, k + 1, by omega, rfl, _, rfl, by omega, by omega, Lib.hid (by rw [HR.out, D.out]; exact Whole.loop_to (by unfold isD; omega) (by omega) (by omega))⟩, rfl, rfl, rfl, by go_num⟩
           case measure => simp [intOf]; omega)
    · have hk2 : k = ds.size := by omega
      subst hk2
      go_wp2
      go_ret2
      exact ⟨res_some (by rw [HO.out, HR.out, byte_drop_all, Whole.loop_nil]), rfl⟩

theorem empty_of {s : ByteArray} (h : s.size = 0) : s = ByteArray.empty := by
  cases s with | mk a =>
    have : a = #[] := Array.eq_empty_of_size_eq_zero h
    rw [this]; rfl
theorem ne_empty {s : ByteArray} (h : 0 < s.size) : ¬ s = ByteArray.empty := by
  rintro rfl; simp at h
set_option maxHeartbeats 1000000 in
theorem rparse_any (s : ByteArray) (hz : s.size ≤ 100000) (w : World) :
    Calls Tryz.prog 67 #[.string s] w fun e w' => Res (refParse s.data.toList) e ∧ w' = w := by
  by_cases h0 : s.size = 0
  · have he := empty_of h0
    subst he
    have E : refParse ByteArray.empty.data.toList = none := by kernel_rfl
    have E := Lib.hid E
    clear h0
    go_enter Tryz.func67, Tryz.ntmps67
    go_wp2
    go_ret2
    exact ⟨res_none E.out, rfl⟩
  · have hp : 0 < s.size := by omega
    have hne := ne_empty hp
    have h256 := s[0].toNat_lt
    by_cases hm : s[0].toNat = 45
    · have hmb : ((s[0].toNat : Int) == 45) = true := by simp [hm]
      obtain ⟨t1, t2⟩ := neg_tail hp hm
      have R : refParse s.data.toList = refEnd true (s.extract 1 s.size).data.toList := by rw [t1]; unfold refParse; simp
      obtain ⟨ds, hds⟩ : ∃ ds, s.extract 1 s.size = ds := ⟨_, rfl⟩
      rw [hds] at t2 R
      have dl : ds.data.toList.length = ds.size := by simp
      by_cases d0 : ds.size = 0
      · have de := empty_of d0
        have RN := Lib.hid (R.trans (Whole.end_bad (Or.inl (by omega))))
        have HD := Lib.hid (hds.trans de)
        clear t1 hds hm R de
        go_enter Tryz.func67, Tryz.ntmps67
        go_upto_region 5 with (fail)
        rw [HD.out]
        go_wp2
        go_ret2
        exact ⟨res_none RN.out, rfl⟩
      · have dp : 0 < ds.size := by omega
        have dne := ne_empty dp
        have d256 := ds[0].toNat_lt
        by_cases d19 : 19 < ds.size
        · have db : decide ((19 : Int) < ds.size) = true := by simp; omega
          have RN := Lib.hid (R.trans (Whole.end_bad (Or.inr (Or.inl (by omega)))))
          have HD := Lib.hid hds
          clear t1 hds hm R
          go_enter Tryz.func67, Tryz.ntmps67
          go_upto_region 5 with (fail)
          rw [HD.out]
          go_wp2
          go_ret2
          exact ⟨res_none RN.out, rfl⟩
        · have db : decide ((19 : Int) < ds.size) = false := by simp; omega
          by_cases dz : ds[0].toNat = 48
          · have dzb : ((ds[0].toNat : Int) == 48) = true := by simp [dz]
            have e48 : ds[0] = 48 := UInt8.toNat_inj.1 (by rw [dz]; rfl)
            have RN := Lib.hid (R.trans (Whole.end_bad (Or.inr (Or.inr ⟨by rw [byte_head dp, e48], Or.inr rfl⟩))))
            have HD := Lib.hid hds
            clear t1 hds hm R dz e48
            go_enter Tryz.func67, Tryz.ntmps67
            go_upto_region 5 with (fail)
            rw [HD.out]
            go_wp2
            all_goals
              go_ret2
              exact ⟨res_none RN.out, rfl⟩
          · have dzb : ((ds[0].toNat : Int) == 48) = false := by simp; omega
            refine rparse_neg s hz w hp hne hmb ds hds dp dne db dzb _ ?_
            rw [R, Whole.end_ok ?_]
            · cases refLoop 0 ds.data.toList <;> rfl
            · rintro (h | h | ⟨h, _⟩)
              · omega
              · omega
              · rw [byte_head dp, Option.some.injEq] at h; exact dz (by rw [h]; rfl)
    · have hmb : ((s[0].toNat : Int) == 45) = false := by simp; omega
      have R : refParse s.data.toList = refEnd false s.data.toList := by
        unfold refParse; rw [if_neg]; rw [byte_head hp, Option.some.injEq]; intro h; exact hm (by rw [h]; rfl)
      have dl : s.data.toList.length = s.size := by simp
      by_cases d19 : 19 < s.size
      · have db : decide ((19 : Int) < s.size) = true := by simp; omega
        have RN := Lib.hid (R.trans (Whole.end_bad (Or.inr (Or.inl (by omega)))))
        clear R hm
        go_enter Tryz.func67, Tryz.ntmps67
        go_wp2
        go_ret2
        exact ⟨res_none RN.out, rfl⟩
      · have db : decide ((19 : Int) < s.size) = false := by simp; omega
        by_cases hb : s[0].toNat = 48 ∧ 1 < s.size
        · have dzb : ((s[0].toNat : Int) == 48) = true := by simp [hb.1]
          have d1 : decide ((1 : Int) < s.size) = true := by simp; omega
          have e48 : s[0] = 48 := UInt8.toNat_inj.1 (by rw [hb.1]; rfl)
          have RN := Lib.hid (R.trans (Whole.end_bad (Or.inr (Or.inr ⟨by rw [byte_head hp, e48], Or.inl (by omega)⟩))))
          clear R hm hb e48
          go_enter Tryz.func67, Tryz.ntmps67
          go_wp2
          all_goals
            go_ret2
            exact ⟨res_none RN.out, rfl⟩
        · refine rparse_pos s hz w hp hne hmb db ?_ _ ?_
          · by_cases h48 : s[0].toNat = 48
            · exact Or.inr ⟨by simp [h48], by simp; omega⟩
            · exact Or.inl (by simp; omega)
          · rw [R, Whole.end_ok ?_]
            · cases refLoop 0 s.data.toList <;> simp
            · rintro (h | h | ⟨h, h2 | h2⟩)
              · omega
              · omega
              · rw [byte_head hp, Option.some.injEq] at h; exact hb ⟨by rw [h]; rfl, by omega⟩
              · cases h2
end Go.Proofs.YtgdenmddbgcacaaGreatDoor
/- The document's store: what a key and its item count; how many bytes all count. -/
set_option linter.unusedVariables false
set_option linter.unusedSimpArgs false
set_option linter.unusedSectionVars false
namespace Go.Proofs.YtgdenmddbgcacaaGreatDoor
open Go.RowKit

theorem oe_num (s : ByteArray) : oe (Whole.refParse s.data.toList) = if isNum s = true then 0 else 11 := by
  unfold isNum; rw [Whole.wparse_ref]
  cases Whole.refParse s.data.toList <;> rfl
set_option maxHeartbeats 4000000 in
set_option maxRecDepth 100000 in
theorem rcost_any (key : ByteArray) (i : It) (v : Value) (w : World) (hv : RowOf fdc 2 w v i.flds) (hi : SmallI i) (hk : key.size ≤ 100000) :
    Calls Tryz.prog 42 #[.string key, itV i v] w fun e w' => e = .returned (.int .i64 (costI key i)) ∧ Upd (fun _ => False) w w' := by
  obtain ⟨kind, text, l⟩ := i
  obtain ⟨p, c, ev, hm⟩ := hv.len
  obtain ⟨h1, h2, h3⟩ := hi
  simp only at h1 h2 h3 ev hm hv
  subst ev
  show Calls _ _ #[.string key, .agg #[.int .i64 kind, .string text, .slice p l.length c]] _ _
  have HV := Lib.hid hv
  have FL := Lib.hid (fcost_le l h3)
  have H3 := Lib.hid h3
  have W0 : Hid (IntKind.i64.wrap (48 + (key.size : Int)) = 48 + (key.size : Int)) := i64w (by omega) (by omega)
  clear hv h3
  by_cases hk1 : kind = 1
  · subst hk1
    have hBx : Blk (w.alloc (.cells #[.int .i64 1, .string text, .slice p l.length c] 31)) w.heap.size [.int .i64 1, .string text, .slice p l.length c] 31 := Blk.made _ _ _
    have PA := Lib.hid (rparse_any text h1 (w.alloc (.cells #[.int .i64 1, .string text, .slice p l.length c] 31)))
    cases hn : isNum text with
    | true =>
      have CE : Hid (costI key ⟨1, text, l⟩ = 48 + (key.size : Int) + 8) := by show _ = _; unfold costI bodyI; simp [hn]
      have PE := oe_num text
      rw [hn] at PE
      have PE : oe (Whole.refParse text.data.toList) = 0 := PE
      unfold Res at PA
      rw [PE] at PA
      generalize on (Whole.refParse text.data.toList) = num at *
      clear PE hn
      go_enter Tryz.func42, Tryz.ntmps42
      go_wp2_with fail
      refine (PA.out).mono ?_
      rintro e w1 ⟨rfl, rfl⟩
      go_wp2
      go_ret
      rw [CE.out]
      exact ⟨ret_int (by omega), (Upd.refl _ _).alloc _⟩
    | false =>
      have CE : Hid (costI key ⟨1, text, l⟩ = 48 + (key.size : Int) + (text.size : Int)) := by show _ = _; unfold costI bodyI; simp [hn]
      have PE := oe_num text
      rw [hn] at PE
      have PE : oe (Whole.refParse text.data.toList) = 11 := PE
      unfold Res at PA
      rw [PE] at PA
      generalize on (Whole.refParse text.data.toList) = num at *
      clear PE hn
      go_enter Tryz.func42, Tryz.ntmps42
      go_wp2_with fail
      refine (PA.out).mono ?_
      rintro e w1 ⟨rfl, rfl⟩
      go_wp2
      go_ret
      rw [CE.out]
      exact ⟨ret_int (by omega), (Upd.refl _ _).alloc _⟩
  · have CE : Hid (costI key ⟨kind, text, l⟩ = 48 + (key.size : Int) + fcost l) := by show _ = _; unfold costI bodyI; simp [hk1]
    have hk2 : (kind == 1) = false := by simp [hk1]
    have U0 : Hid (Upd (fun _ => False) w (w.alloc (.cells #[.int .i64 kind, .string text, .slice p l.length c] 31))) := (Upd.refl _ _).alloc _
    clear hk1
    go_enter Tryz.func42, Tryz.ntmps42
    go_wp2
    go_loopw [5, 34] (fun n x wr => ∃ (k : Nat), k ≤ l.length ∧ x = .int .i64 (k : Int) ∧ n = .int .i64 (48 + (key.size : Int) + fcost (l.take k)) ∧ Hid (Upd (fun _ => False) w wr)) (fun _ x _ => l.length - (intOf x).toNat)
    case atStart => exact ⟨0, by omega, rfl, by simp [fcost], U0⟩
    case round =>
      clear U0
      obtain ⟨k, hkl, rfl, rfl, U⟩ := hrel
      by_cases hlt : k < l.length
      · obtain ⟨d, hd⟩ : ∃ d, l[k]? = some d := ⟨_, List.getElem?_eq_getElem hlt⟩
        obtain ⟨b, off, cap, ev, hb, c0, c1⟩ := fd_cells HV.out hd
        injection ev with ev1 _ ev3
        subst ev1 ev3
        have c0 := (U.out.cell (p := ⟨b, off + k * 2, none⟩) hb (fun h => h)).trans c0
        have c1 := (U.out.cell (p := ⟨b, off + k * 2 + 1, none⟩) hb (fun h => h)).trans c1
        have hq : (k : Int) < (l.length : Int) := by omega
        have T : Hid (fcost (l.take (k + 1)) = fcost (l.take k) + (16 + (d.1.size : Int) + (d.2.size : Int))) := by
          show _ = _
          rw [take_snocF hd, fcost_app]; simp [fcost]
        have B0 : Hid (0 ≤ fcost (l.take k)) := fcost_nonneg _
        have B1 : Hid (fcost (l.take (k + 1)) ≤ fcost l) := fcost_take_le _ _
        obtain ⟨z1, z2⟩ := H3.out d (List.mem_of_getElem? hd)
        obtain ⟨d1, d2⟩ := d
        simp only at c0 c1 T z1 z2
        clear hd
        generalize hx : fcost (l.take k) = x at *
        have TT := T.out
        have b0 := B0.out
        have b1 := B1.out
        have b2 := FL.out
        have x1 : x ≤ 200016000 := by omega
        have HH := Lib.hid (And.intro TT (And.intro b1 b2))
        clear TT b1 b2 hx B0 B1 T
        go_wp2
        go_roundw
        case rel => exact ⟨k + 1, by omega, by go_num, by rw [HH.out.1]; have := HH.out; congr 1; omega, U.out.alloc _⟩
        case measure => simp [intOf]; omega
      · obtain rfl : k = l.length := by omega
        rw [List.take_length]
        go_wp2
        go_ret
        rw [CE.out]
        exact ⟨rfl, U.out⟩
theorem bytesC_take_le (l : List Ce) (k : Nat) : bytesC (l.take k) ≤ bytesC l := by
  have : bytesC l = bytesC (l.take k) + bytesC (l.drop k) := by rw [← bytesC_app, List.take_append_drop]
  have := bytesC_nonneg (l.drop k); omega
theorem POk.bytes_le {S : PS} (h : POk S) : bytesC S.cells ≤ 300000000 * (S.cells.length : Int) := bytesC_le fun c hc => ⟨small_of_right (h.small c hc).1, by have := (h.small c hc).2; omega⟩
set_option maxHeartbeats 4000000 in
set_option maxRecDepth 100000 in
theorem qbytes_any {w : World} {base wb : Nat} {vs ve : Value} {C : List RCe} {S : PS} (h : RMem w base wb vs ve C S) (ok : POk S) (hl : S.cells.length ≤ 10000) :
    Calls Tryz.prog 12 #[.pointer (some ⟨wb, 0, none⟩)] w fun e w' => e = .returned (.int .i64 (bytesC S.cells)) ∧ Upd (fun _ => False) w w' := by
  obtain ⟨p, c, ev, hm, hle⟩ := h.cells.slice
  subst ev
  unfold maxLen at hm
  have H := Lib.hid h
  have OK := Lib.hid ok
  have BL := Lib.hid ok.bytes_le
  obtain ⟨nl, hnl⟩ : ∃ nl, nl = C.length := ⟨_, rfl⟩
  have NL := Lib.hid hnl
  have SL : Hid (S.cells.length = nl) := by show _ = _; rw [hnl, h.len]
  have x0 := h.blk.cellAt (i := 0) (v := .slice p C.length c) rfl
  have hwb := h.blk.lt
  rw [← hnl] at hm hle x0
  have hl : nl ≤ 10000 := by rw [← SL.out]; exact hl
  have BL : Hid (bytesC S.cells ≤ 3000000000000) := by show _ ≤ _; have := BL.out; have := SL.out; omega
  clear h hnl ok
  go_enter Tryz.func12, Tryz.ntmps12
  go_wp2
  go_loopw [3, 11] (fun x3 xi wr => ∃ (k : Nat), k ≤ nl ∧ xi = .int .i64 (k : Int) ∧ x3 = .int .i64 (bytesC (S.cells.take k)) ∧ Hid (Upd (fun _ => False) w wr)) (fun _ xi _ => nl - (intOf xi).toNat)
  case atStart => exact ⟨0, by omega, rfl, rfl, Lib.hid (Upd.refl _ _)⟩
  case round =>
    obtain ⟨k, hk, rfl, rfl, U⟩ := hrel
    by_cases hlt : k < nl
    · have hwl := U.out.size
      have hkl : k < C.length := by rw [← NL.out]; exact hlt
      have q1 : (k : Int) < (nl : Int) := by omega
      obtain ⟨b, t, ep, hb, hbl, htk, hcs, _⟩ := cel_cells (H.out.keep0 U.out).cells hkl
      subst ep
      have c0 := hcs 0 (by omega)
      have c1 := hcs 1 (by omega)
      have c2 := hcs 2 (by omega)
      have c3 := hcs 3 (by omega)
      have c4 := hcs 4 (by omega)
      have hs : S.cells[k]? = some t.c := by rw [← H.out.eq, List.getElem?_map, htk]; rfl
      have hsm := List.mem_of_getElem? hs
      have FD := (H.out.keep0 U.out).flds t (List.mem_of_getElem? htk)
      obtain ⟨pv, cv, evv, _⟩ := FD.1.len
      have T : Hid (bytesC (S.cells.take (k + 1)) = bytesC (S.cells.take k) + costI t.c.key t.c.item) := by
        show _ = _
        rw [take_snocR hs, bytesC_app]; simp [bytesC]
      have B0 : Hid (0 ≤ bytesC (S.cells.take k)) := bytesC_nonneg _
      have B1 : Hid (bytesC (S.cells.take (k + 1)) ≤ bytesC S.cells) := bytesC_take_le _ _
      have CP : Hid (48 ≤ costI t.c.key t.c.item) := costI_pos _ _
      have CO := Lib.hid (fun W (u : Upd (fun _ => False) wr W) => rcost_any t.c.key t.c.item t.v W (FD.keep u (fun _ _ h => h)).1 (small_of_right (OK.out.small t.c hsm).1) (by have := (OK.out.small t.c hsm).2; omega))
      clear hcs hkl htk hs hsm FD
      obtain ⟨⟨ky, ⟨kd, tx, fl⟩, wn⟩, v⟩ := t
      simp only at evv CO T CP
      subst evv
      simp only [rcs, List.getElem?_cons_zero, List.getElem?_cons_succ, Nat.add_zero] at c0 c1 c2 c3 c4
      unfold itV at CO
      generalize hx : bytesC (S.cells.take k) = x at *
      generalize hy : costI ky ⟨kd, tx, fl⟩ = y at *
      have x1 : 0 ≤ x := B0.out
      have x2 : x + y ≤ 3000000000000 := by have := T.out; have := B1.out; have := BL.out; omega
      have y1 : 48 ≤ y := CP.out
      clear hx hy B0 B1 CP
      go_wp2_with (go_at_call 42; refine (CO.out _ (by first | exact Upd.refl _ _ | exact (Upd.refl _ _).alloc _ | exact ((Upd.refl _ _).alloc _).drew)).mono ?_; rintro e2 w2 ⟨rfl, u2⟩; have UU := Lib.hid ((U.out.alloc _).trans u2 (fun _ _ h => h)); clear u2)
      go_roundw
      case rel => exact ⟨k + 1, by omega, by simp, by rw [T.out], UU⟩
      case measure => simp [intOf]; omega
    · obtain rfl : k = nl := by omega
      have E : Hid (bytesC (S.cells.take k) = bytesC S.cells) := by show _ = _; rw [List.take_of_length_le (by rw [SL.out]; omega)]
      rw [E.out]
      go_wp2
      go_ret
      exact ⟨rfl, U.out⟩
def lenAt (w : World) (b : Nat) : Nat := match w.cell? ⟨b, 0, none⟩ with
  | some (.slice _ n _) => n
  | _ => 0
section
variable {w : World} {base wb : Nat} {vs ve : Value} {C : List RCe} {S : PS}
theorem RMem.lenAt (h : RMem w base wb vs ve C S) : lenAt w wb = S.cells.length := by
  obtain ⟨p, c, ev, _⟩ := h.cells.slice
  have := h.blk.cellAt (i := 0) rfl
  unfold Go.Proofs.YtgdenmddbgcacaaGreatDoor.lenAt
  rw [this, ev]; exact h.len
end
end Go.Proofs.YtgdenmddbgcacaaGreatDoor
