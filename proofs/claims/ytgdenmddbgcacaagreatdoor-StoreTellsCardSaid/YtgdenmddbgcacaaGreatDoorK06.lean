/- Walks: the hash, and find. -/
import Derived.Test.YtgdenmddbgcacaaGreatDoorRows
import Derived.Test.YtgdenmddbgcacaaGreatDoorK03
import Derived.Test.YtgdenmddbgcacaaGreatDoorK01
import Derived.Test.YtgdenmddbgcacaaGreatDoorK02
set_option linter.unusedVariables false
set_option linter.unusedSimpArgs false
namespace Go.Proofs.YtgdenmddbgcacaaGreatDoor
open Go.RowKit
open Tbl (Pl findGo home fnv)

theorem fnv_step_int (h : BitVec 64) (c : UInt8) :
    IntKind.u64.wrap (bits .xor .u64 (h.toNat : Int) (IntKind.u64.wrap (c.toNat : Int)) * 1099511628211) = ((Tbl.fnvStep h c).toNat : Int) := by
  have e1 : bits .xor .u64 (h.toNat : Int) (IntKind.u64.wrap (c.toNat : Int)) = ((h ^^^ BitVec.ofNat 64 c.toNat).toNat : Int) := by
    unfold bits
    simp only [wrap_u64]
    have hc : ((c.toNat : Int) % 18446744073709551616) = ((c.toNat % 18446744073709551616 : Nat) : Int) := by omega
    rw [hc]
    show ((BitVec.ofInt 64 _ ^^^ BitVec.ofInt 64 _).toNat : Int) % _ = _
    rw [BitVec.ofInt_natCast, BitVec.ofInt_natCast, BitVec.ofNat_toNat]
    have : BitVec.ofNat 64 (c.toNat % 18446744073709551616) = BitVec.ofNat 64 c.toNat := by
      apply BitVec.eq_of_toNat_eq; simp
    rw [this]
    simp only [BitVec.setWidth_eq]
    have := (h ^^^ BitVec.ofNat 64 c.toNat).isLt
    omega
  rw [e1, wrap_u64]
  unfold Tbl.fnvStep
  rw [BitVec.toNat_mul]
  simp

set_option maxHeartbeats 400000 in
theorem hash_any (s : ByteArray) (w : World) (hs : s.size ≤ maxLen) :
    Calls Tryz.prog 118 #[.string s] w fun e w' => e = .returned (.int .u64 (Tbl.fnv s.data.toList)) ∧ w = w' := by
  unfold maxLen at hs
  go_enter Tryz.func118, Tryz.ntmps118
  go_wp2
  go_loop [3, 7] (fun h i => ∃ k : Nat, k ≤ s.size ∧ i = .int .i64 k ∧ h = .int .u64 (Tbl.fnvB (s.data.toList.take k)).toNat) (fun _ i => s.size - (intOf i).toNat)
  case atStart => exact ⟨0, by omega, rfl, rfl⟩
  case round =>
    obtain ⟨k, hk, rfl, rfl⟩ := hrel
    by_cases hlt : k < s.size
    · go_wp2
      go_round
      case rel => exact ⟨k + 1, by omega, by go_num, by
        rw [List.take_succ_eq_append_getElem (by simpa using hlt), Tbl.fnvB_snoc, fnv_step_int]; rfl⟩
      case measure => simp [intOf]; omega
    · go_wp2
      go_ret
      exact ⟨by rw [List.take_of_length_le (by simp; omega)]; rfl, rfl⟩

/-- A place's cells; a row's places lie in one block. -/
def plc (p : Pl) : List Value := [.int .i64 p.st, .string p.key, .int .i64 p.n]
theorem plc_len (p : Pl) : (plc p).length = 3 := rfl
def PlAt (w : World) (b : Nat) (ps : List Pl) : Prop := Blk w b (flat plc ps) 94

theorem getD_of_lt (ps : List Pl) (i : Nat) (h : i < ps.length) : ps[i]? = some (ps.getD i default) := by
  rw [List.getD_eq_getElem?_getD, List.getElem?_eq_getElem h]; simp

theorem PlAt.st {w : World} {b : Nat} {ps : List Pl} (h : PlAt w b ps) (i : Nat) (hi : i < ps.length) : w.cell? ⟨b, i * 3, none⟩ = some (.int .i64 (ps.getD i default).st) := by
  apply Blk.cellAt h; have := flat_get plc 3 plc_len ps i 0 (by omega); rw [Nat.add_zero] at this; rw [this, getD_of_lt _ _ hi]; rfl
theorem PlAt.key {w : World} {b : Nat} {ps : List Pl} (h : PlAt w b ps) (i : Nat) (hi : i < ps.length) : w.cell? ⟨b, i * 3 + 1, none⟩ = some (.string (ps.getD i default).key) := by
  apply Blk.cellAt h; rw [flat_get plc 3 plc_len ps i 1 (by omega), getD_of_lt _ _ hi]; rfl
theorem PlAt.num {w : World} {b : Nat} {ps : List Pl} (h : PlAt w b ps) (i : Nat) (hi : i < ps.length) : w.cell? ⟨b, i * 3 + 2, none⟩ = some (.int .i64 (ps.getD i default).n) := by
  apply Blk.cellAt h; rw [flat_get plc 3 plc_len ps i 2 (by omega), getD_of_lt _ _ hi]; rfl

set_option maxHeartbeats 1000000 in
theorem find_any (b o bp : Nat) (ps : List Pl) (key : ByteArray) (w : World) (hk : key.size ≤ maxLen) (h0 : 0 < ps.length) (hm : ps.length ≤ 1000000)
    (hr : w.cell? ⟨b, o, none⟩ = some (.slice (some ⟨bp, 0, none⟩) ps.length ps.length)) (hp : PlAt w bp ps) :
    Calls Tryz.prog 103 #[.pointer (some ⟨b, o, none⟩), .string key] w fun e w' => e = .returned (.tuple #[.int .i64 (Tbl.find ps key).1, .bool (Tbl.find ps key).2]) ∧ ∃ n, w' = w.drewN n := by
  have hh1 : (0 : Int) ≤ (fnv key.data.toList : Int) % (ps.length : Int) := Int.emod_nonneg _ (by omega)
  have hh2 : (fnv key.data.toList : Int) % (ps.length : Int) < (ps.length : Int) := Int.emod_lt_of_pos _ (by omega)
  go_enter Tryz.func103, Tryz.ntmps103
  go_wp2
  go_quiet ((go_at_call 118; exact Calls.quiet_of_same ((hash_any _ _ hk).mono fun _ _ ⟨h1, h2⟩ => ⟨h1, h2.symm⟩)))
  go_wp2
  go_loop [6, 7, 24] (fun fr a i => ∃ (k p : Nat) (f : Int), k ≤ ps.length ∧ p < ps.length ∧ -1 ≤ f ∧ f < ps.length ∧ i = .int .i64 k ∧ a = .int .i64 p ∧ fr = .int .i64 f ∧ Hid (findGo ps key (ps.length - k) p f = Tbl.find ps key)) (fun _ _ i => ps.length - (intOf i).toNat)
  case atStart => exact ⟨0, home ps key, -1, by omega, Nat.mod_lt _ h0, by omega, by omega, rfl, by simp [home], rfl, rfl⟩
  case round =>
    obtain ⟨k, p, f, hk1, hp1, hf1, hf2, rfl, rfl, rfl, HH⟩ := hrel
    clear hh1 hh2
    have c1 := hp.st p hp1
    have c2 := hp.key p hp1
    by_cases hlt : k < ps.length
    · have HH' : Hid _ := HH
      have e : ps.length - k = (ps.length - (k + 1)) + 1 := by omega
      unfold Hid at HH'
      rw [e, findGo] at HH'
      clear HH e
      generalize hq : ps.getD p default = q at *
      clear hq
      have l1 : (0 : Int) ≤ ((p : Int) + 1) % (ps.length : Int) := Int.emod_nonneg _ (by omega)
      have l2 : ((p : Int) + 1) % (ps.length : Int) < (ps.length : Int) := Int.emod_lt_of_pos _ (by omega)
      have HH := Lib.hid HH'
      clear HH'
      go_wp2
      · have t1 : q.st = 1 := by assumption
        have t2 : (q.key.toList == key.toList) = true := by assumption
        go_ret2
        exact ⟨ret_ib (by rw [← HH.out, if_pos ⟨t1, toList_eq t2⟩]), nq, rfl⟩
      · have t1 : q.st = 1 := by assumption
        have t2 : (q.key.toList == key.toList) = false := by assumption
        have t3 := toList_ne t2
        go_round
        case rel =>
          refine ⟨k + 1, (p + 1) % ps.length, f, by omega, Nat.mod_lt _ h0, by omega, by omega, by go_num, by simp, rfl, ?_⟩
          have H := HH.out
          rw [if_neg (by simp [t3]), if_neg (by simp [t1]), if_neg (by simp [t1])] at H
          exact H
        case measure => simp [intOf]; omega
      · have t1 : ¬ q.st = 1 := by assumption
        have t2 : (q.st != 1) = true ∧ f < 0 := by assumption
        have t3 : (q.st == 0) = true := by assumption
        have t4 : q.st = 0 := by simpa using t3
        go_ret2
        exact ⟨ret_ib (by rw [← HH.out, if_neg (by simp [t1]), if_pos t4, if_pos ⟨t1, t2.2⟩]), nq, rfl⟩
      · have t1 : ¬ q.st = 1 := by assumption
        have t2 : (q.st != 1) = true ∧ f < 0 := by assumption
        have t3 : (q.st == 0) = false := by assumption
        have t4 : ¬ q.st = 0 := by simpa using t3
        go_round
        case rel =>
          refine ⟨k + 1, (p + 1) % ps.length, p, by omega, Nat.mod_lt _ h0, by omega, by omega, by go_num, by simp, rfl, ?_⟩
          have H := HH.out
          rw [if_neg (by simp [t1]), if_neg t4, if_pos ⟨t1, t2.2⟩] at H
          exact H
        case measure => simp [intOf]; omega
      · have t1 : ¬ q.st = 1 := by assumption
        have t2 : (q.st != 1) = false ∨ 0 ≤ f := by assumption
        have t3 : (q.st == 0) = true := by assumption
        have t4 : q.st = 0 := by simpa using t3
        have t5 : ¬ (q.st ≠ 1 ∧ f < 0) := by simp [t1] at t2; omega
        go_ret2
        exact ⟨ret_ib (by rw [← HH.out, if_neg (by simp [t1]), if_pos t4, if_neg t5]), nq, rfl⟩
      · have t1 : ¬ q.st = 1 := by assumption
        have t2 : (q.st != 1) = false ∨ 0 ≤ f := by assumption
        have t3 : (q.st == 0) = false := by assumption
        have t4 : ¬ q.st = 0 := by simpa using t3
        have t5 : ¬ (q.st ≠ 1 ∧ f < 0) := by simp [t1] at t2; omega
        go_round
        case rel =>
          refine ⟨k + 1, (p + 1) % ps.length, f, by omega, Nat.mod_lt _ h0, by omega, by omega, by go_num, by simp, rfl, ?_⟩
          have H := HH.out
          rw [if_neg (by simp [t1]), if_neg t4, if_neg t5] at H
          exact H
        case measure => simp [intOf]; omega
    · go_wp2
      go_ret2
      have e : ps.length - k = 0 := by omega
      have H := HH.out
      rw [e, findGo] at H
      exact ⟨ret_ib H, nq, rfl⟩
end Go.Proofs.YtgdenmddbgcacaaGreatDoor
/- Walks: made, New, put, bury, grow, Len, Room. -/
set_option linter.unusedVariables false
set_option linter.unusedSimpArgs false
namespace Go.Proofs.YtgdenmddbgcacaaGreatDoor
open Go.RowKit
open Tbl (Pl findGo home fnv)

theorem place_info : (Tryz.prog.info? 94).map (fun i => (i.zero, i.size, i.bytes)) = some (some (.agg #[.int .i64 0, .string ByteArray.empty, .int .i64 0]), 3, 32) := by kernel_rfl

theorem made_cells (n : Nat) : madeCells (Value.agg #[.int .i64 0, .string ByteArray.empty, .int .i64 0]).cells (n * 3) = (flat plc (List.replicate n Tbl.noPl)).toArray := by
  apply Array.ext_getElem?
  intro k
  have hk : k = k / 3 * 3 + k % 3 := by omega
  have h3 : k % 3 < 3 := Nat.mod_lt _ (by omega)
  have e1 : (flat plc (List.replicate n Tbl.noPl))[k]? = ((List.replicate n Tbl.noPl)[k / 3]?).bind fun a => (plc a)[k % 3]? := by
    conv => lhs; rw [hk]
    exact flat_get plc 3 plc_len _ _ _ h3
  simp only [List.getElem?_toArray, e1]
  unfold madeCells
  simp only [Array.getElem?_map, Value.cells]
  by_cases hn : k < n * 3
  · have h1 : k / 3 < n := by omega
    simp only [Array.getElem?_range, hn, List.getElem?_replicate, h1, if_true, Option.bind_some, Option.map_some]
    have : k % 3 = 0 ∨ k % 3 = 1 ∨ k % 3 = 2 := by omega
    rcases this with h | h | h <;> simp [h, plc, Tbl.noPl]
  · have h1 : ¬ k / 3 < n := by omega
    simp only [Array.getElem?_range, hn, List.getElem?_replicate, h1, if_false, Option.bind_none, Option.map_none]

theorem run_mk (n : Nat) (hn : n ≤ 1000000) (w : World) : (Instr.makeSlice 84 (.int .i64 (n : Int)) (.int .i64 (n : Int))).run Tryz.prog w =
    .ok (.slice (some ⟨w.heap.size, 0, none⟩) n n) (w.alloc (.cells (flat plc (List.replicate n Tbl.noPl)).toArray 94)) := by
  obtain ⟨i, hi, h0, h1, h2⟩ := info_parts place_info
  have := run_make (P := Tryz.prog) w 84 94 i _ Tryz.underlying84 hi h0 .i64 .i64 (n : Int) (n : Int) (by omega) (by omega) (by rw [h2]; omega) (by omega)
  rw [this, h1]
  simp only [Int.toNat_natCast, made_cells]

set_option maxHeartbeats 400000 in
theorem made_any (n : Nat) (w : World) (hn : n ≤ 1000000) :
    Calls Tryz.prog 55 #[.int .i64 (n : Int)] w fun e w' => ∃ bp, e = .returned (.agg #[.slice (some ⟨bp, 0, none⟩) n n, .int .i64 0, .int .i64 0]) ∧ w.heap.size ≤ bp ∧ PlAt w' bp (List.replicate n Tbl.noPl) ∧ Upd (fun _ => False) w w' := by
  have hmk := run_mk n hn
  go_enter Tryz.func55, Tryz.ntmps55
  go_wp2
  refine bodyPost_ret (v := .agg #[.slice (some ⟨w.heap.size + 1, 0, none⟩) n n, .int .i64 0, .int .i64 0]) (by simp [results, Tryz.results55, go_sem]) rfl ⟨_, rfl, by omega, ?_, ((Upd.refl _ _).alloc _).alloc _⟩
  have := Blk.made (w.alloc (.cells #[.slice (some ⟨w.heap.size + 1, 0, none⟩) n n, .int .i64 0, .int .i64 0] 86)) (flat plc (List.replicate n Tbl.noPl)) 94
  unfold PlAt; simpa using this

/-- The cells of a row whose places lie in block bp; of one that is none. -/
def rowc (bp : Nat) (r : Tbl.Row) : List Value := [.slice (some ⟨bp, 0, none⟩) r.pl.length r.pl.length, .int .i64 r.full, .int .i64 r.graves]

section
variable {w : World} {b o bp : Nat} {pre post : List Value} {r : Tbl.Row} {T : TypeId}
theorem rowc_0 (h : Blk w b (pre ++ rowc bp r ++ post) T) (ho : pre.length = o) : w.cell? ⟨b, o, none⟩ = some (.slice (some ⟨bp, 0, none⟩) r.pl.length r.pl.length) := by
  subst ho; apply h.cellAt; simp [rowc, List.getElem?_append]
theorem rowc_1 (h : Blk w b (pre ++ rowc bp r ++ post) T) (ho : pre.length = o) : w.cell? ⟨b, o + 1, none⟩ = some (.int .i64 r.full) := by
  subst ho; apply h.cellAt; simp [rowc, List.getElem?_append]
theorem rowc_2 (h : Blk w b (pre ++ rowc bp r ++ post) T) (ho : pre.length = o) : w.cell? ⟨b, o + 2, none⟩ = some (.int .i64 r.graves) := by
  subst ho; apply h.cellAt; simp [rowc, List.getElem?_append]
end
theorem set1 (pre post : List Value) (a b c v : Value) (o : Nat) (ho : pre.length = o) : (pre ++ [a, b, c] ++ post).set (o + 1) v = pre ++ [a, v, c] ++ post := by
  subst ho; simp [List.set_append]
theorem set2 (pre post : List Value) (a b c v : Value) (o : Nat) (ho : pre.length = o) : (pre ++ [a, b, c] ++ post).set (o + 2) v = pre ++ [a, b, v] ++ post := by
  subst ho; simp [List.set_append]
theorem set0 (pre post : List Value) (a b c v : Value) (o : Nat) (ho : pre.length = o) : (pre ++ [a, b, c] ++ post).set o v = pre ++ [v, b, c] ++ post := by
  subst ho; simp [List.set_append]

/-- three stores make a place. -/
theorem place_set (ps : List Pl) (i : Nat) (p : Pl) (hi : i < ps.length) :
    (((flat plc ps).set (i * 3) (.int .i64 p.st)).set (i * 3 + 1) (.string p.key)).set (i * 3 + 2) (.int .i64 p.n) = flat plc (ps.set i p) := by
  have g := getD_of_lt ps i hi
  have e0 := flat_set plc 3 plc_len ps i 0 (by omega) _ ⟨p.st, (ps.getD i default).key, (ps.getD i default).n⟩ (.int .i64 p.st) g rfl
  rw [Nat.add_zero] at e0
  rw [e0]
  rw [flat_set plc 3 plc_len _ i 1 (by omega) ⟨p.st, (ps.getD i default).key, (ps.getD i default).n⟩ ⟨p.st, p.key, (ps.getD i default).n⟩ (.string p.key) (List.getElem?_set_self hi) rfl, List.set_set]
  rw [flat_set plc 3 plc_len _ i 2 (by omega) ⟨p.st, p.key, (ps.getD i default).n⟩ p (.int .i64 p.n) (List.getElem?_set_self hi) rfl, List.set_set]
theorem num_set (ps : List Pl) (i : Nat) (n : Int) (hi : i < ps.length) :
    (flat plc ps).set (i * 3 + 2) (.int .i64 n) = flat plc (ps.set i ⟨(ps.getD i default).st, (ps.getD i default).key, n⟩) :=
  flat_set plc 3 plc_len ps i 2 (by omega) _ _ _ (getD_of_lt ps i hi) rfl

theorem PlAt.place {w : World} {b : Nat} {ps : List Pl} (h : PlAt w b ps) (i : Nat) (p : Pl) (hi : i < ps.length) :
    PlAt (((w.setCell ⟨b, i * 3, none⟩ (.int .i64 p.st)).setCell ⟨b, i * 3 + 1, none⟩ (.string p.key)).setCell ⟨b, i * 3 + 2, none⟩ (.int .i64 p.n)) b (ps.set i p) := by
  unfold PlAt; rw [← place_set ps i p hi]; exact ((Blk.set h _ _).set _ _).set _ _
theorem PlAt.number {w : World} {b : Nat} {ps : List Pl} (h : PlAt w b ps) (i : Nat) (n : Int) (hi : i < ps.length) :
    PlAt (w.setCell ⟨b, i * 3 + 2, none⟩ (.int .i64 n)) b (ps.set i ⟨(ps.getD i default).st, (ps.getD i default).key, n⟩) := by
  unfold PlAt; rw [← num_set ps i n hi]; exact Blk.set h _ _

set_option maxHeartbeats 1000000 in
theorem put_any (b o bp : Nat) (pre post : List Value) (r : Tbl.Row) (key : ByteArray) (n : Int) (w : World) (T : TypeId) (hb : Blk w b (pre ++ rowc bp r ++ post) T) (ho : pre.length = o)
    (hp : PlAt w bp r.pl) (hne : b ≠ bp) (hk : key.size ≤ maxLen) (h0 : 0 < r.pl.length) (hm : r.pl.length ≤ 1000000) (hf : 0 ≤ (Tbl.find r.pl key).1)
    (hfu : 0 ≤ r.full) (hfu' : r.full ≤ 1000000) (hgr : 0 ≤ r.graves) (hgr' : r.graves ≤ 1000000) :
    Calls Tryz.prog 78 #[.pointer (some ⟨b, o, none⟩), .string key, .int .i64 n] w fun e w' =>
      e = .returned (.tuple #[]) ∧ Blk w' b (pre ++ rowc bp (r.put key n) ++ post) T ∧ PlAt w' bp (r.put key n).pl ∧ Upd (fun k => k = b ∨ k = bp) w w' := by
  have c0 := rowc_0 hb ho
  have c1 := rowc_1 hb ho
  have c2 := rowc_2 hb ho
  have fb := hb.free
  have fp := Blk.free hp
  have F := find_any b o bp r.pl key w hk h0 hm c0 hp
  have hrg := Tbl.find_range r.pl key h0
  obtain ⟨i, hi⟩ : ∃ i : Nat, (Tbl.find r.pl key).1 = i := ⟨_, (Int.toNat_of_nonneg hf).symm⟩
  unfold Tbl.Row.put
  generalize Tbl.find r.pl key = fd at *
  obtain ⟨a, t⟩ := fd
  simp only at hi hrg hf F ⊢
  subst hi
  have hi2 : i < r.pl.length := by omega
  have p0 := hp.st i hi2
  have p1 := hp.key i hi2
  have p2 := hp.num i hi2
  clear hrg hf
  have F := Lib.hid F
  go_enter Tryz.func78, Tryz.ntmps78
  go_wp2_with fail
  refine F.out.mono ?_
  rintro e w1 ⟨rfl, nq, rfl⟩
  clear F
  have hb1 := hb.drewN nq
  have hp1 : PlAt (w.drewN nq) bp r.pl := Blk.drewN hp nq
  have HB := Lib.hid hb1
  have HP := Lib.hid hp1
  clear hb hp hb1 hp1
  cases t
  · have hs : (r.pl.getD i default).st = 2 ∨ (r.pl.getD i default).st ≠ 2 := by omega
    have hd : Hid (((r.pl.getD i default).st = 2 ∧ r.putAt i false key n = ⟨r.pl.set i ⟨1, key, n⟩, r.full + 1, r.graves - 1⟩) ∨ ((r.pl.getD i default).st ≠ 2 ∧ r.putAt i false key n = ⟨r.pl.set i ⟨1, key, n⟩, r.full + 1, r.graves⟩)) := by
      rcases hs with hs | hs
      · exact Or.inl ⟨hs, by simp only [Tbl.Row.putAt, hs, if_true]; rfl⟩
      · exact Or.inr ⟨hs, by simp only [Tbl.Row.putAt, hs, if_false]; rfl⟩
    clear hs
    generalize r.pl.getD i default = q at *
    go_wp2
    · have t1 : (q.st == 2) = true := by assumption
      go_end0
      have e : r.putAt i false key n = ⟨r.pl.set i ⟨1, key, n⟩, r.full + 1, r.graves - 1⟩ := by
        rcases hd.out with h | h
        · exact h.2
        · exact absurd (by simpa using t1) h.1
      rw [Int.toNat_natCast, e]
      refine ⟨rfl, ?_, ?_, ?_⟩
      · have := (HB.out.set (o + 1) (.int .i64 (r.full + 1))).set (o + 2) (.int .i64 (r.graves - 1))
        unfold rowc at this
        rw [set1 _ _ _ _ _ _ _ ho, set2 _ _ _ _ _ _ _ ho] at this
        unfold rowc
        rw [List.length_set]
        exact ((this.set_other hne).set_other hne).set_other hne
      · have := Blk.set_other (b' := b) (o := o + 1) (v := .int .i64 (r.full + 1)) HP.out (Ne.symm hne)
        have := Blk.set_other (b' := b) (o := o + 2) (v := .int .i64 (r.graves - 1)) this (Ne.symm hne)
        exact PlAt.place this i ⟨1, key, n⟩ hi2
      · exact ((((((Upd.refl _ _).drewN _).set (fun _ => Or.inl rfl)).set (fun _ => Or.inl rfl)).set (fun _ => Or.inr rfl)).set (fun _ => Or.inr rfl)).set (fun _ => Or.inr rfl)
    · have t1 : (q.st == 2) = false := by assumption
      go_end0
      have e : r.putAt i false key n = ⟨r.pl.set i ⟨1, key, n⟩, r.full + 1, r.graves⟩ := by
        rcases hd.out with h | h
        · simp [h.1] at t1
        · exact h.2
      rw [Int.toNat_natCast, e]
      refine ⟨rfl, ?_, ?_, ?_⟩
      · have := HB.out.set (o + 1) (.int .i64 (r.full + 1))
        unfold rowc at this
        rw [set1 _ _ _ _ _ _ _ ho] at this
        unfold rowc
        rw [List.length_set]
        exact ((this.set_other hne).set_other hne).set_other hne
      · have := Blk.set_other (b' := b) (o := o + 1) (v := .int .i64 (r.full + 1)) HP.out (Ne.symm hne)
        exact PlAt.place this i ⟨1, key, n⟩ hi2
      · exact (((((Upd.refl _ _).drewN _).set (fun _ => Or.inl rfl)).set (fun _ => Or.inr rfl)).set (fun _ => Or.inr rfl)).set (fun _ => Or.inr rfl)
  · go_wp2
    go_end0
    rw [Int.toNat_natCast]
    have e : r.putAt i true key n = ⟨r.pl.set i ⟨1, key, n⟩, r.full, r.graves⟩ := rfl
    rw [e]
    refine ⟨rfl, ?_, HP.out.place i ⟨1, key, n⟩ hi2, ?_⟩
    · have := HB.out
      unfold rowc at this ⊢
      rw [List.length_set]
      exact ((this.set_other hne).set_other hne).set_other hne
    · exact ((((Upd.refl _ _).drewN _).set (fun _ => Or.inr rfl)).set (fun _ => Or.inr rfl)).set (fun _ => Or.inr rfl)

set_option maxHeartbeats 1000000 in
theorem bury_any (b o bp i : Nat) (pre post : List Value) (r : Tbl.Row) (w : World) (T : TypeId) (hb : Blk w b (pre ++ rowc bp r ++ post) T) (ho : pre.length = o)
    (hp : PlAt w bp r.pl) (hne : b ≠ bp) (hi2 : i < r.pl.length) (hm : r.pl.length ≤ 1000000)
    (hfu : 0 ≤ r.full) (hfu' : r.full ≤ 1000000) (hgr : 0 ≤ r.graves) (hgr' : r.graves ≤ 1000000) :
    Calls Tryz.prog 102 #[.pointer (some ⟨b, o, none⟩), .int .i64 (i : Int)] w fun e w' =>
      e = .returned (.tuple #[]) ∧ Blk w' b (pre ++ rowc bp (r.bury i) ++ post) T ∧ PlAt w' bp (r.bury i).pl ∧ Upd (fun k => k = b ∨ k = bp) w w' := by
  have c0 := rowc_0 hb ho
  have c1 := rowc_1 hb ho
  have c2 := rowc_2 hb ho
  have fb := hb.free
  have fp := Blk.free hp
  have p0 := hp.st i hi2
  have p1 := hp.key i hi2
  have p2 := hp.num i hi2
  have HB := Lib.hid hb
  have HP := Lib.hid hp
  clear hb hp
  go_enter Tryz.func102, Tryz.ntmps102
  go_wp2
  go_end0
  refine ⟨rfl, ?_, ?_, ?_⟩
  · have := ((HB.out.set_other (b' := bp) (o := i * 3) (v := .int .i64 2) hne).set_other (b' := bp) (o := i * 3 + 1) (v := .string ByteArray.empty) hne).set_other (b' := bp) (o := i * 3 + 2) (v := .int .i64 0) hne
    have := (this.set (o + 1) (.int .i64 (r.full - 1))).set (o + 2) (.int .i64 (r.graves + 1))
    unfold rowc at this
    rw [set1 _ _ _ _ _ _ _ ho, set2 _ _ _ _ _ _ _ ho] at this
    unfold rowc Tbl.Row.bury
    rw [List.length_set]
    exact this
  · have := HP.out.place i Tbl.gravePl hi2
    exact (Blk.set_other this (Ne.symm hne)).set_other (Ne.symm hne)
  · exact (((((Upd.refl _ _).set (fun _ => Or.inr rfl)).set (fun _ => Or.inr rfl)).set (fun _ => Or.inr rfl)).set (fun _ => Or.inl rfl)).set (fun _ => Or.inl rfl)
end Go.Proofs.YtgdenmddbgcacaaGreatDoor
/- Walks: New, Len, Room, grow. -/
set_option linter.unusedVariables false
set_option linter.unusedSimpArgs false
namespace Go.Proofs.YtgdenmddbgcacaaGreatDoor
open Go.RowKit
open Tbl (Pl findGo home fnv Tab)

def freshc (bf : Nat) (t : Tab) : List Value := if t.moving then rowc bf t.fresh else [.slice none 0 0, .int .i64 0, .int .i64 0]
def tabc (bo bf : Nat) (t : Tab) : List Value := rowc bo t.old ++ freshc bf t ++ [.bool t.moving, .int .i64 (t.next : Int)]

/-- In block a lies the table t, its rows in bo and bf. -/
structure TabAt (w : World) (a bo bf : Nat) (t : Tab) : Prop where
  blk : Blk w a (tabc bo bf t) 88
  old : PlAt w bo t.old.pl
  fresh : t.moving = true → PlAt w bf t.fresh.pl
  ne : a ≠ bo
  nf : t.moving = true → a ≠ bf ∧ bo ≠ bf
  rest : t.moving = false → t.fresh = Tbl.none ∧ t.next = 0
/-- The blocks that it takes. -/
def tabF (a bo bf : Nat) (t : Tab) : Nat → Prop := fun k => k = a ∨ k = bo ∨ (t.moving = true ∧ k = bf)
def TabRep (w : World) (a : Nat) (t : Tab) (F : Nat → Prop) : Prop := ∃ bo bf, TabAt w a bo bf t ∧ F = tabF a bo bf t
theorem TabAt.keep {w w' : World} {a bo bf : Nat} {t : Tab} {G : Nat → Prop} (h : TabAt w a bo bf t) (u : Upd G w w') (hd : ∀ k, tabF a bo bf t k → ¬ G k) : TabAt w' a bo bf t :=
  ⟨u.blk h.blk (hd _ (Or.inl rfl)), u.blk h.old (hd _ (Or.inr (Or.inl rfl))), fun hm => u.blk (h.fresh hm) (hd _ (Or.inr (Or.inr ⟨hm, rfl⟩))), h.ne, h.nf, h.rest⟩
theorem TabRep.keep {w w' : World} {a : Nat} {t : Tab} {F G : Nat → Prop} (h : TabRep w a t F) (u : Upd G w w') (hd : ∀ k, F k → ¬ G k) : TabRep w' a t F := by
  obtain ⟨bo, bf, h, rfl⟩ := h; exact ⟨bo, bf, h.keep u hd, rfl⟩
theorem TabAt.drewN {w : World} {a bo bf : Nat} {t : Tab} (h : TabAt w a bo bf t) (n : Nat) : TabAt (w.drewN n) a bo bf t :=
  h.keep (G := fun _ => False) ((Upd.refl _ _).drewN n) (fun _ _ => id)

section
variable {w : World} {a bo bf : Nat} {t : Tab}
theorem TabAt.o0 (h : TabAt w a bo bf t) : w.cell? ⟨a, 0, none⟩ = some (.slice (some ⟨bo, 0, none⟩) t.old.pl.length t.old.pl.length) := h.blk.cellAt (by simp [tabc, rowc])
theorem TabAt.o1 (h : TabAt w a bo bf t) : w.cell? ⟨a, 1, none⟩ = some (.int .i64 t.old.full) := h.blk.cellAt (by simp [tabc, rowc])
theorem TabAt.o2 (h : TabAt w a bo bf t) : w.cell? ⟨a, 2, none⟩ = some (.int .i64 t.old.graves) := h.blk.cellAt (by simp [tabc, rowc])
theorem TabAt.f0 (h : TabAt w a bo bf t) (hm : t.moving = true) : w.cell? ⟨a, 3, none⟩ = some (.slice (some ⟨bf, 0, none⟩) t.fresh.pl.length t.fresh.pl.length) := h.blk.cellAt (by simp [tabc, rowc, freshc, hm])
theorem TabAt.f1 (h : TabAt w a bo bf t) : w.cell? ⟨a, 4, none⟩ = some (.int .i64 t.fresh.full) := h.blk.cellAt (by
  cases hm : t.moving
  · simp [tabc, rowc, freshc, hm, (h.rest hm).1, Tbl.none]
  · simp [tabc, rowc, freshc, hm])
theorem TabAt.f2 (h : TabAt w a bo bf t) : w.cell? ⟨a, 5, none⟩ = some (.int .i64 t.fresh.graves) := h.blk.cellAt (by
  cases hm : t.moving
  · simp [tabc, rowc, freshc, hm, (h.rest hm).1, Tbl.none]
  · simp [tabc, rowc, freshc, hm])
theorem TabAt.n0 (h : TabAt w a bo bf t) (hm : t.moving = false) : w.cell? ⟨a, 3, none⟩ = some (.slice none 0 0) := h.blk.cellAt (by simp [tabc, rowc, freshc, hm])
theorem TabAt.m (h : TabAt w a bo bf t) : w.cell? ⟨a, 6, none⟩ = some (.bool t.moving) := h.blk.cellAt (by cases hm : t.moving <;> simp [tabc, rowc, freshc, hm])
theorem TabAt.x (h : TabAt w a bo bf t) : w.cell? ⟨a, 7, none⟩ = some (.int .i64 (t.next : Int)) := h.blk.cellAt (by cases hm : t.moving <;> simp [tabc, rowc, freshc, hm])
end

set_option maxHeartbeats 400000 in
theorem new_any (w : World) :
    Calls Tryz.prog 24 #[] w fun e w' => ∃ a F, e = .returned (.pointer (some ⟨a, 0, none⟩)) ∧ TabRep w' a Tab.new F ∧ Upd (fun _ => False) w w' ∧ ∀ k, F k → w.heap.size ≤ k := by
  go_enter Tryz.func24, Tryz.ntmps24
  go_wp2_with fail
  refine (made_any 8 w (by omega)).mono ?_
  rintro e w1 ⟨bp, rfl, h1, h2, h3⟩
  have H2 := Lib.hid h2
  have H3 := Lib.hid h3
  clear h2 h3
  go_wp2
  go_ret
  refine ⟨w1.heap.size, _, rfl, ⟨bp, 0, ⟨?_, ?_, ?_, ?_, ?_, ?_⟩, rfl⟩, H3.out.alloc _, ?_⟩
  · exact Blk.made _ _ _
  · exact Blk.alloc H2.out _
  · intro h; cases h
  · have := Blk.lt H2.out; omega
  · intro h; cases h
  · intro _; exact ⟨rfl, rfl⟩
  · have := H3.out.size
    rintro k (rfl | rfl | ⟨h, _⟩)
    · exact this
    · exact h1
    · cases h

set_option maxHeartbeats 400000 in
theorem len_any (a bo bf : Nat) (t : Tab) (w : World) (h : TabAt w a bo bf t) (b1 : 0 ≤ t.old.full) (b2 : t.old.full ≤ 1000000) (b3 : 0 ≤ t.fresh.full) (b4 : t.fresh.full ≤ 1000000) :
    Calls Tryz.prog 10 #[.pointer (some ⟨a, 0, none⟩)] w fun e w' => e = .returned (.int .i64 t.len) ∧ ∃ n, w' = w.drewN n := by
  have c1 := h.o1
  have c2 := h.f1
  clear h
  go_enter Tryz.func10, Tryz.ntmps10
  go_wp2
  go_quiet (fail)
  go_wp2
  go_ret
  exact ⟨rfl, _, rfl⟩

theorem freshLen (t : Tab) (h : t.moving = false → t.fresh = Tbl.none ∧ t.next = 0) : t.moving = false → t.fresh.pl.length = 0 := fun hm => by rw [(h hm).1]; rfl

end Go.Proofs.YtgdenmddbgcacaaGreatDoor
/- Walks: grow. -/
set_option linter.unusedVariables false
set_option linter.unusedSimpArgs false
namespace Go.Proofs.YtgdenmddbgcacaaGreatDoor
open Go.RowKit
open Tbl (Pl findGo home fnv Tab)

theorem TabAt.fb {w : World} {a bo bf : Nat} {t : Tab} (h : TabAt w a bo bf t) (i : Nat) : w.frozen? ⟨a, i, none⟩ = false := h.blk.free i

set_option maxHeartbeats 1000000 in
theorem grow_any (a bo bf : Nat) (t : Tab) (w : World) (h : TabAt w a bo bf t) (b1 : 0 ≤ t.old.full) (b2 : t.old.full ≤ 100000) (b3 : 0 ≤ t.old.graves) (b4 : t.old.graves ≤ 1000000) (b5 : t.old.pl.length ≤ 1000000) :
    Calls Tryz.prog 77 #[.pointer (some ⟨a, 0, none⟩)] w fun e w' => e = .returned (.tuple #[]) ∧ ∃ bf', TabAt w' a bo bf' t.grow ∧ Upd (fun k => k = a) w w' ∧ (t.grow.moving = true → (t.moving = true ∧ bf' = bf) ∨ w.heap.size ≤ bf') := by
  have c0 := h.o0
  have c1 := h.o1
  have c2 := h.o2
  have cm := h.m
  have fb := h.fb
  by_cases hm : t.moving = false
  · by_cases hg : 2 * (t.old.full + t.old.graves) < t.old.pl.length
    · have e : t.grow = t := by unfold Tab.grow; rw [if_pos (Or.inr hg)]
      have E := Lib.hid e
      have H := Lib.hid h
      have HM := Lib.hid hm
      rw [hm] at cm
      clear e h hm
      go_enter Tryz.func77, Tryz.ntmps77
      go_wp2
      go_quiet (fail)
      go_wp2
      go_returns
      rw [E.out]
      exact ⟨rfl, bf, H.out.drewN _, (Upd.refl _ _).drewN _, fun hh => by rw [HM.out] at hh; cases hh⟩
    · have e : t.grow = { t with fresh := Tbl.made t.room.toNat, moving := true } := by unfold Tab.grow; rw [if_neg (by simp [hm]; omega)]
      have E := Lib.hid e
      have H := Lib.hid h
      have HM := Lib.hid hm
      rw [hm] at cm
      have hg' : decide (2 * (t.old.full + t.old.graves) < (t.old.pl.length : Int)) = false := by simpa using hg
      clear e h hm
      go_enter Tryz.func77, Tryz.ntmps77
      go_wp2
      go_quiet (fail)
      go_wp2
      all_goals
        go_loop [2] (fun r => ∃ (f R : Nat), 8 ≤ R ∧ R ≤ 1000000 ∧ 4 * t.old.full + 4 - R ≤ f ∧ r = .int .i64 (R : Int) ∧ Hid (Tbl.roomFor t.old.full f R = t.room)) (fun r => (4 * t.old.full + 4 - intOf r).toNat)
        case atStart =>
          first
            | exact ⟨(4 * t.old.full + 4).toNat, 8, by omega, by omega, by omega, rfl, by unfold Tab.room; rw [Int.max_eq_left (by omega)]; rfl⟩
            | exact ⟨(4 * t.old.full + 4).toNat, t.old.pl.length / 2, by omega, by omega, by omega, by simp, by unfold Tab.room; rw [Int.max_eq_right (by omega)]; rfl⟩
        case round =>
          obtain ⟨f, R, h1, h2, h3, rfl, HR⟩ := hrel
          by_cases hc : R / 4 ≤ t.old.full
          · obtain ⟨f, rfl⟩ : ∃ g, f = g + 1 := ⟨f - 1, by omega⟩
            go_wp2
            go_round
            case rel => 
              exact ⟨f, R * 2, by omega, by omega, by omega, by simp, by
                have := HR.out
                rw [Tbl.roomFor, if_pos hc] at this
                exact this⟩
            case measure => simp [intOf]; omega
          · have hR : t.room = R := by
              have := HR.out
              cases f with
              | zero => exact this.symm
              | succ f => rw [Tbl.roomFor, if_neg hc] at this; exact this.symm
            clear HR
            have HR := Lib.hid hR
            clear hR
            go_wp2_with fail
            refine (made_any R _ h2).mono ?_
            rintro e w1 ⟨bp, rfl, k1, k2, k3⟩
            have K2 := Lib.hid k2
            have K3 := Lib.hid k3
            have H1 : TabAt w1 a bo bf t := (H.out.drewN _).keep k3 (fun _ _ => id)
            have x3 := H1.n0 HM.out
            have x4 := H1.f1
            have x5 := H1.f2
            have x6 := H1.m
            have xb := H1.fb
            have HH1 := Lib.hid H1
            clear k2 k3 H1
            go_wp2
            go_returns
            have hr := HR.out
            have E1 := E.out
            rw [hr, Int.toNat_natCast] at E1
            rw [E1]
            have HB := (((HH1.out.blk.set 3 (.slice (some ⟨bp, 0, none⟩) R R)).set 4 (.int .i64 0)).set 5 (.int .i64 0)).set 6 (.bool true)
            have al := H.out.blk.lt
            have ol := Blk.lt H.out.old
            have hne : bp ≠ a := by simp at k1; omega
            have hne2 : bo ≠ bp := by simp at k1; omega
            refine ⟨rfl, bp, ⟨?_, ?_, ?_, H.out.ne, ?_, ?_⟩, ?_, ?_⟩
            · have e : (((((tabc bo bf t).set 3 (.slice (some ⟨bp, 0, none⟩) R R)).set 4 (.int .i64 0)).set 5 (.int .i64 0)).set 6 (.bool true)) = tabc bo bp ⟨t.old, Tbl.made R, true, t.next⟩ := by
                simp [tabc, rowc, freshc, HM.out, Tbl.made]
              rw [← e]; exact HB
            · exact (((Blk.set_other HH1.out.old (Ne.symm H.out.ne)).set_other (Ne.symm H.out.ne)).set_other (Ne.symm H.out.ne)).set_other (Ne.symm H.out.ne)
            · intro _
              exact (((Blk.set_other K2.out hne).set_other hne).set_other hne).set_other hne
            · intro _; exact ⟨Ne.symm hne, hne2⟩
            · intro hh; cases hh
            · refine ((((((Upd.refl (fun k => k = a) _).drewN _).trans K3.out (fun _ _ h => h.elim)).set (fun _ => rfl)).set (fun _ => rfl)).set (fun _ => rfl)).set (fun _ => rfl)
            · intro _; right; simpa using k1
  · have hm : t.moving = true := by simpa using hm
    have e : t.grow = t := by unfold Tab.grow; rw [if_pos (Or.inl hm)]
    have E := Lib.hid e
    have H := Lib.hid h
    have HM := Lib.hid hm
    rw [hm] at cm
    clear e h hm
    go_enter Tryz.func77, Tryz.ntmps77
    go_wp2
    go_quiet (fail)
    go_wp2
    go_returns
    rw [E.out]
    exact ⟨rfl, bf, H.out.drewN _, (Upd.refl _ _).drewN _, fun _ => Or.inl ⟨HM.out, rfl⟩⟩
end Go.Proofs.YtgdenmddbgcacaaGreatDoor
