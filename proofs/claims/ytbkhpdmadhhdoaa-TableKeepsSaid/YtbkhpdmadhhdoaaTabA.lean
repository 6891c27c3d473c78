/- Walks: the hash, and find. -/
import Derived.Test.YtbkhpdmadhhdoaaRows
import Derived.Test.YtbkhpdmadhhdoaaTblMod
import Derived.Test.YtbkhpdmadhhdoaaHeap
set_option linter.unusedVariables false
set_option linter.unusedSimpArgs false
namespace Go.Proofs.Ytbkhpdmadhhdoaa
open Go.RowKit
open Tbl (Pl findGo home fnv)

theorem fnv_step_int (h : BitVec 64) (c : UInt8) :
    IntKind.u64.wrap (bits .xor .u64 (h.toNat : Int) (IntKind.u64.wrap (c.toNat : Int)) * 1099511628211) = ((Tbl.fnvStep h c).toNat : Int) := by
  have e1 : bits .xor .u64 (h.toNat : Int) (IntKind.u64.wrap (c.toNat : Int)) = ((h ^^^ BitVec.ofNat 64 c.toNat).toNat : Int) := by
    unfold bits
    simp only [wrap_u64]
    have hc : ((c.toNat : Int) % 18446744073709551616) = ((c.toNat % 18446744073709551616 : Nat) : Int) := by omega
    rw [hc]
    show ((BitVec.ofInt 64 _ ^^^ BitVec.ofInt 64 _).toNat : Int) % _ = _
    rw [BitVec.ofInt_natCast, BitVec.ofInt_natCast, BitVec.ofNat_toNat]
    have : BitVec.ofNat 64 (c.toNat % 18446744073709551616) = BitVec.ofNat 64 c.toNat := by
      apply BitVec.eq_of_toNat_eq; simp
    rw [this]
    simp only [BitVec.setWidth_eq]
    have := (h ^^^ BitVec.ofNat 64 c.toNat).isLt
    omega
  rw [e1, wrap_u64]
  unfold Tbl.fnvStep
  rw [BitVec.toNat_mul]
  simp

set_option maxHeartbeats 400000 in
theorem hash_any (s : ByteArray) (w : World) (hs : s.size ≤ maxLen) :
    Calls Try.prog 8 #[.string s] w fun e w' => e = .returned (.int .u64 (Tbl.fnv s.data.toList)) ∧ w = w' := by
  unfold maxLen at hs
  go_enter Try.func8, Try.ntmps8
  go_wp2
  go_loop [3, 7] (fun h i => ∃ k : Nat, k ≤ s.size ∧ i = .int .i64 k ∧ h = .int .u64 (Tbl.fnvB (s.data.toList.take k)).toNat) (fun _ i => s.size - (intOf i).toNat)
  case atStart => exact ⟨0, by omega, rfl, rfl⟩
  case round =>
    obtain ⟨k, hk, rfl, rfl⟩ := hrel
    by_cases hlt : k < s.size
    · go_wp2
      go_round
      case rel => exact ⟨k + 1, by omega, by go_num, by
        rw [List.take_succ_eq_append_getElem (by simpa using hlt), Tbl.fnvB_snoc, fnv_step_int]; rfl⟩
      case measure => simp [intOf]; omega
    · go_wp2
      go_ret
      exact ⟨by rw [List.take_of_length_le (by simp; omega)]; rfl, rfl⟩

/-- A place's cells; a row's places lie in one block. -/
def plc (p : Pl) : List Value := [.int .i64 p.st, .string p.key, .int .i64 p.n]
theorem plc_len (p : Pl) : (plc p).length = 3 := rfl
def PlAt (w : World) (b : Nat) (ps : List Pl) : Prop := Blk w b (flat plc ps) 55

theorem getD_of_lt (ps : List Pl) (i : Nat) (h : i < ps.length) : ps[i]? = some (ps.getD i default) := by
  rw [List.getD_eq_getElem?_getD, List.getElem?_eq_getElem h]; simp

theorem PlAt.st {w : World} {b : Nat} {ps : List Pl} (h : PlAt w b ps) (i : Nat) (hi : i < ps.length) : w.cell? ⟨b, i * 3, none⟩ = some (.int .i64 (ps.getD i default).st) := by
  apply Blk.cellAt h; have := flat_get plc 3 plc_len ps i 0 (by omega); rw [Nat.add_zero] at this; rw [this, getD_of_lt _ _ hi]; rfl
theorem PlAt.key {w : World} {b : Nat} {ps : List Pl} (h : PlAt w b ps) (i : Nat) (hi : i < ps.length) : w.cell? ⟨b, i * 3 + 1, none⟩ = some (.string (ps.getD i default).key) := by
  apply Blk.cellAt h; rw [flat_get plc 3 plc_len ps i 1 (by omega), getD_of_lt _ _ hi]; rfl
theorem PlAt.num {w : World} {b : Nat} {ps : List Pl} (h : PlAt w b ps) (i : Nat) (hi : i < ps.length) : w.cell? ⟨b, i * 3 + 2, none⟩ = some (.int .i64 (ps.getD i default).n) := by
  apply Blk.cellAt h; rw [flat_get plc 3 plc_len ps i 2 (by omega), getD_of_lt _ _ hi]; rfl

set_option maxHeartbeats 1000000 in
theorem find_any (b o bp : Nat) (ps : List Pl) (key : ByteArray) (w : World) (hk : key.size ≤ maxLen) (h0 : 0 < ps.length) (hm : ps.length ≤ 1000000)
    (hr : w.cell? ⟨b, o, none⟩ = some (.slice (some ⟨bp, 0, none⟩) ps.length ps.length)) (hp : PlAt w bp ps) :
    Calls Try.prog 26 #[.pointer (some ⟨b, o, none⟩), .string key] w fun e w' => e = .returned (.tuple #[.int .i64 (Tbl.find ps key).1, .bool (Tbl.find ps key).2]) ∧ ∃ n, w' = w.drewN n := by
  have hh1 : (0 : Int) ≤ (fnv key.data.toList : Int) % (ps.length : Int) := Int.emod_nonneg _ (by omega)
  have hh2 : (fnv key.data.toList : Int) % (ps.length : Int) < (ps.length : Int) := Int.emod_lt_of_pos _ (by omega)
  go_enter Try.func26, Try.ntmps26
  go_wp2
  go_quiet ((go_at_call 8; exact Calls.quiet_of_same ((hash_any _ _ hk).mono fun _ _ ⟨h1, h2⟩ => ⟨h1, h2.symm⟩)))
  go_wp2
  go_loop [6, 7, 24] (fun fr a i => ∃ (k p : Nat) (f : Int), k ≤ ps.length ∧ p < ps.length ∧ -1 ≤ f ∧ f < ps.length ∧ i = .int .i64 k ∧ a = .int .i64 p ∧ fr = .int .i64 f ∧ Hid (findGo ps key (ps.length - k) p f = Tbl.find ps key)) (fun _ _ i => ps.length - (intOf i).toNat)
  case atStart => exact ⟨0, home ps key, -1, by omega, Nat.mod_lt _ h0, by omega, by omega, rfl, by simp [home], rfl, rfl⟩
  case round =>
    obtain ⟨k, p, f, hk1, hp1, hf1, hf2, rfl, rfl, rfl, HH⟩ := hrel
    clear hh1 hh2
    have c1 := hp.st p hp1
    have c2 := hp.key p hp1
    by_cases hlt : k < ps.length
    · have HH' : Hid _ := HH
      have e : ps.length - k = (ps.length - (k + 1)) + 1 := by omega
      unfold Hid at HH'
      rw [e, findGo] at HH'
      clear HH e
      generalize hq : ps.getD p default = q at *
      clear hq
      have l1 : (0 : Int) ≤ ((p : Int) + 1) % (ps.length : Int) := Int.emod_nonneg _ (by omega)
      have l2 : ((p : Int) + 1) % (ps.length : Int) < (ps.length : Int) := Int.emod_lt_of_pos _ (by omega)
      have HH := Lib.hid HH'
      clear HH'
      go_wp2
      · have t1 : q.st = 1 := by assumption
        have t2 : (q.key.toList == key.toList) = true := by assumption
        go_ret2
        exact ⟨ret_ib (by rw [← HH.out, if_pos ⟨t1, toList_eq t2⟩]), nq, rfl⟩
      · have t1 : q.st = 1 := by assumption
        have t2 : (q.key.toList == key.toList) = false := by assumption
        have t3 := toList_ne t2
        go_round
        case rel =>
          refine ⟨k + 1, (p + 1) % ps.length, f, by omega, Nat.mod_lt _ h0, by omega, by omega, by go_num, by simp, rfl, ?_⟩
          have H := HH.out
          rw [if_neg (by simp [t3]), if_neg (by simp [t1]), if_neg (by simp [t1])] at H
          exact H
        case measure => simp [intOf]; omega
      · have t1 : ¬ q.st = 1 := by assumption
        have t2 : (q.st != 1) = true ∧ f < 0 := by assumption
        have t3 : (q.st == 0) = true := by assumption
        have t4 : q.st = 0 := by simpa using t3
        go_ret2
        exact ⟨ret_ib (by rw [← HH.out, if_neg (by simp [t1]), if_pos t4, if_pos ⟨t1, t2.2⟩]), nq, rfl⟩
      · have t1 : ¬ q.st = 1 := by assumption
        have t2 : (q.st != 1) = true ∧ f < 0 := by assumption
        have t3 : (q.st == 0) = false := by assumption
        have t4 : ¬ q.st = 0 := by simpa using t3
        go_round
        case rel =>
          refine ⟨k + 1, (p + 1) % ps.length, p, by omega, Nat.mod_lt _ h0, by omega, by omega, by go_num, by simp, rfl, ?_⟩
          have H := HH.out
          rw [if_neg (by simp [t1]), if_neg t4, if_pos ⟨t1, t2.2⟩] at H
          exact H
        case measure => simp [intOf]; omega
      · have t1 : ¬ q.st = 1 := by assumption
        have t2 : (q.st != 1) = false ∨ 0 ≤ f := by assumption
        have t3 : (q.st == 0) = true := by assumption
        have t4 : q.st = 0 := by simpa using t3
        have t5 : ¬ (q.st ≠ 1 ∧ f < 0) := by simp [t1] at t2; omega
        go_ret2
        exact ⟨ret_ib (by rw [← HH.out, if_neg (by simp [t1]), if_pos t4, if_neg t5]), nq, rfl⟩
      · have t1 : ¬ q.st = 1 := by assumption
        have t2 : (q.st != 1) = false ∨ 0 ≤ f := by assumption
        have t3 : (q.st == 0) = false := by assumption
        have t4 : ¬ q.st = 0 := by simpa using t3
        have t5 : ¬ (q.st ≠ 1 ∧ f < 0) := by simp [t1] at t2; omega
        go_round
        case rel =>
          refine ⟨k + 1, (p + 1) % ps.length, f, by omega, Nat.mod_lt _ h0, by omega, by omega, by go_num, by simp, rfl, ?_⟩
          have H := HH.out
          rw [if_neg (by simp [t1]), if_neg t4, if_neg t5] at H
          exact H
        case measure => simp [intOf]; omega
    · go_wp2
      go_ret2
      have e : ps.length - k = 0 := by omega
      have H := HH.out
      rw [e, findGo] at H
      exact ⟨ret_ib H, nq, rfl⟩
end Go.Proofs.Ytbkhpdmadhhdoaa
