/- Walks: made, New, put, bury, grow, Len, Room. -/
import Derived.Test.YtbkhpdmadhhdoaaTabA
set_option linter.unusedVariables false
set_option linter.unusedSimpArgs false
namespace Go.Proofs.Ytbkhpdmadhhdoaa
open Go.RowKit
open Tbl (Pl findGo home fnv)

theorem place_info : (Try.prog.info? 55).map (fun i => (i.zero, i.size, i.bytes)) = some (some (.agg #[.int .i64 0, .string ByteArray.empty, .int .i64 0]), 3, 32) := by kernel_rfl

theorem made_cells (n : Nat) : madeCells (Value.agg #[.int .i64 0, .string ByteArray.empty, .int .i64 0]).cells (n * 3) = (flat plc (List.replicate n Tbl.noPl)).toArray := by
  apply Array.ext_getElem?
  intro k
  have hk : k = k / 3 * 3 + k % 3 := by omega
  have h3 : k % 3 < 3 := Nat.mod_lt _ (by omega)
  have e1 : (flat plc (List.replicate n Tbl.noPl))[k]? = ((List.replicate n Tbl.noPl)[k / 3]?).bind fun a => (plc a)[k % 3]? := by
    conv => lhs; rw [hk]
    exact flat_get plc 3 plc_len _ _ _ h3
  simp only [List.getElem?_toArray, e1]
  unfold madeCells
  simp only [Array.getElem?_map, Value.cells]
  by_cases hn : k < n * 3
  · have h1 : k / 3 < n := by omega
    simp only [Array.getElem?_range, hn, List.getElem?_replicate, h1, if_true, Option.bind_some, Option.map_some]
    have : k % 3 = 0 ∨ k % 3 = 1 ∨ k % 3 = 2 := by omega
    rcases this with h | h | h <;> simp [h, plc, Tbl.noPl]
  · have h1 : ¬ k / 3 < n := by omega
    simp only [Array.getElem?_range, hn, List.getElem?_replicate, h1, if_false, Option.bind_none, Option.map_none]

theorem run_mk (n : Nat) (hn : n ≤ 1000000) (w : World) : (Instr.makeSlice 45 (.int .i64 (n : Int)) (.int .i64 (n : Int))).run Try.prog w =
    .ok (.slice (some ⟨w.heap.size, 0, none⟩) n n) (w.alloc (.cells (flat plc (List.replicate n Tbl.noPl)).toArray 55)) := by
  obtain ⟨i, hi, h0, h1, h2⟩ := info_parts place_info
  have := run_make (P := Try.prog) w 45 55 i _ Try.underlying45 hi h0 .i64 .i64 (n : Int) (n : Int) (by omega) (by omega) (by rw [h2]; omega) (by omega)
  rw [this, h1]
  simp only [Int.toNat_natCast, made_cells]

set_option maxHeartbeats 400000 in
theorem made_any (n : Nat) (w : World) (hn : n ≤ 1000000) :
    Calls Try.prog 20 #[.int .i64 (n : Int)] w fun e w' => ∃ bp, e = .returned (.agg #[.slice (some ⟨bp, 0, none⟩) n n, .int .i64 0, .int .i64 0]) ∧ w.heap.size ≤ bp ∧ PlAt w' bp (List.replicate n Tbl.noPl) ∧ Upd (fun _ => False) w w' := by
  have hmk := run_mk n hn
  go_enter Try.func20, Try.ntmps20
  go_wp2
  refine bodyPost_ret (v := .agg #[.slice (some ⟨w.heap.size + 1, 0, none⟩) n n, .int .i64 0, .int .i64 0]) (by simp [results, Try.results20, go_sem]) rfl ⟨_, rfl, by omega, ?_, ((Upd.refl _ _).alloc _).alloc _⟩
  have := Blk.made (w.alloc (.cells #[.slice (some ⟨w.heap.size + 1, 0, none⟩) n n, .int .i64 0, .int .i64 0] 47)) (flat plc (List.replicate n Tbl.noPl)) 55
  unfold PlAt; simpa using this

/-- The cells of a row whose places lie in block bp; of one that is none. -/
def rowc (bp : Nat) (r : Tbl.Row) : List Value := [.slice (some ⟨bp, 0, none⟩) r.pl.length r.pl.length, .int .i64 r.full, .int .i64 r.graves]

section
variable {w : World} {b o bp : Nat} {pre post : List Value} {r : Tbl.Row} {T : TypeId}
theorem rowc_0 (h : Blk w b (pre ++ rowc bp r ++ post) T) (ho : pre.length = o) : w.cell? ⟨b, o, none⟩ = some (.slice (some ⟨bp, 0, none⟩) r.pl.length r.pl.length) := by
  subst ho; apply h.cellAt; simp [rowc, List.getElem?_append]
theorem rowc_1 (h : Blk w b (pre ++ rowc bp r ++ post) T) (ho : pre.length = o) : w.cell? ⟨b, o + 1, none⟩ = some (.int .i64 r.full) := by
  subst ho; apply h.cellAt; simp [rowc, List.getElem?_append]
theorem rowc_2 (h : Blk w b (pre ++ rowc bp r ++ post) T) (ho : pre.length = o) : w.cell? ⟨b, o + 2, none⟩ = some (.int .i64 r.graves) := by
  subst ho; apply h.cellAt; simp [rowc, List.getElem?_append]
end
theorem set1 (pre post : List Value) (a b c v : Value) (o : Nat) (ho : pre.length = o) : (pre ++ [a, b, c] ++ post).set (o + 1) v = pre ++ [a, v, c] ++ post := by
  subst ho; simp [List.set_append]
theorem set2 (pre post : List Value) (a b c v : Value) (o : Nat) (ho : pre.length = o) : (pre ++ [a, b, c] ++ post).set (o + 2) v = pre ++ [a, b, v] ++ post := by
  subst ho; simp [List.set_append]
theorem set0 (pre post : List Value) (a b c v : Value) (o : Nat) (ho : pre.length = o) : (pre ++ [a, b, c] ++ post).set o v = pre ++ [v, b, c] ++ post := by
  subst ho; simp [List.set_append]

/-- three stores make a place. -/
theorem place_set (ps : List Pl) (i : Nat) (p : Pl) (hi : i < ps.length) :
    (((flat plc ps).set (i * 3) (.int .i64 p.st)).set (i * 3 + 1) (.string p.key)).set (i * 3 + 2) (.int .i64 p.n) = flat plc (ps.set i p) := by
  have g := getD_of_lt ps i hi
  have e0 := flat_set plc 3 plc_len ps i 0 (by omega) _ ⟨p.st, (ps.getD i default).key, (ps.getD i default).n⟩ (.int .i64 p.st) g rfl
  rw [Nat.add_zero] at e0
  rw [e0]
  rw [flat_set plc 3 plc_len _ i 1 (by omega) ⟨p.st, (ps.getD i default).key, (ps.getD i default).n⟩ ⟨p.st, p.key, (ps.getD i default).n⟩ (.string p.key) (List.getElem?_set_self hi) rfl, List.set_set]
  rw [flat_set plc 3 plc_len _ i 2 (by omega) ⟨p.st, p.key, (ps.getD i default).n⟩ p (.int .i64 p.n) (List.getElem?_set_self hi) rfl, List.set_set]
theorem num_set (ps : List Pl) (i : Nat) (n : Int) (hi : i < ps.length) :
    (flat plc ps).set (i * 3 + 2) (.int .i64 n) = flat plc (ps.set i ⟨(ps.getD i default).st, (ps.getD i default).key, n⟩) :=
  flat_set plc 3 plc_len ps i 2 (by omega) _ _ _ (getD_of_lt ps i hi) rfl

theorem PlAt.place {w : World} {b : Nat} {ps : List Pl} (h : PlAt w b ps) (i : Nat) (p : Pl) (hi : i < ps.length) :
    PlAt (((w.setCell ⟨b, i * 3, none⟩ (.int .i64 p.st)).setCell ⟨b, i * 3 + 1, none⟩ (.string p.key)).setCell ⟨b, i * 3 + 2, none⟩ (.int .i64 p.n)) b (ps.set i p) := by
  unfold PlAt; rw [← place_set ps i p hi]; exact ((Blk.set h _ _).set _ _).set _ _
theorem PlAt.number {w : World} {b : Nat} {ps : List Pl} (h : PlAt w b ps) (i : Nat) (n : Int) (hi : i < ps.length) :
    PlAt (w.setCell ⟨b, i * 3 + 2, none⟩ (.int .i64 n)) b (ps.set i ⟨(ps.getD i default).st, (ps.getD i default).key, n⟩) := by
  unfold PlAt; rw [← num_set ps i n hi]; exact Blk.set h _ _

set_option maxHeartbeats 1000000 in
theorem put_any (b o bp : Nat) (pre post : List Value) (r : Tbl.Row) (key : ByteArray) (n : Int) (w : World) (T : TypeId) (hb : Blk w b (pre ++ rowc bp r ++ post) T) (ho : pre.length = o)
    (hp : PlAt w bp r.pl) (hne : b ≠ bp) (hk : key.size ≤ maxLen) (h0 : 0 < r.pl.length) (hm : r.pl.length ≤ 1000000) (hf : 0 ≤ (Tbl.find r.pl key).1)
    (hfu : 0 ≤ r.full) (hfu' : r.full ≤ 1000000) (hgr : 0 ≤ r.graves) (hgr' : r.graves ≤ 1000000) :
    Calls Try.prog 23 #[.pointer (some ⟨b, o, none⟩), .string key, .int .i64 n] w fun e w' =>
      e = .returned (.tuple #[]) ∧ Blk w' b (pre ++ rowc bp (r.put key n) ++ post) T ∧ PlAt w' bp (r.put key n).pl ∧ Upd (fun k => k = b ∨ k = bp) w w' := by
  have c0 := rowc_0 hb ho
  have c1 := rowc_1 hb ho
  have c2 := rowc_2 hb ho
  have fb := hb.free
  have fp := Blk.free hp
  have F := find_any b o bp r.pl key w hk h0 hm c0 hp
  have hrg := Tbl.find_range r.pl key h0
  obtain ⟨i, hi⟩ : ∃ i : Nat, (Tbl.find r.pl key).1 = i := ⟨_, (Int.toNat_of_nonneg hf).symm⟩
  unfold Tbl.Row.put
  generalize Tbl.find r.pl key = fd at *
  obtain ⟨a, t⟩ := fd
  simp only at hi hrg hf F ⊢
  subst hi
  have hi2 : i < r.pl.length := by omega
  have p0 := hp.st i hi2
  have p1 := hp.key i hi2
  have p2 := hp.num i hi2
  clear hrg hf
  have F := Lib.hid F
  go_enter Try.func23, Try.ntmps23
  go_wp2_with fail
  refine F.out.mono ?_
  rintro e w1 ⟨rfl, nq, rfl⟩
  clear F
  have hb1 := hb.drewN nq
  have hp1 : PlAt (w.drewN nq) bp r.pl := Blk.drewN hp nq
  have HB := Lib.hid hb1
  have HP := Lib.hid hp1
  clear hb hp hb1 hp1
  cases t
  · have hs : (r.pl.getD i default).st = 2 ∨ (r.pl.getD i default).st ≠ 2 := by omega
    have hd : Hid (((r.pl.getD i default).st = 2 ∧ r.putAt i false key n = ⟨r.pl.set i ⟨1, key, n⟩, r.full + 1, r.graves - 1⟩) ∨ ((r.pl.getD i default).st ≠ 2 ∧ r.putAt i false key n = ⟨r.pl.set i ⟨1, key, n⟩, r.full + 1, r.graves⟩)) := by
      rcases hs with hs | hs
      · exact Or.inl ⟨hs, by simp only [Tbl.Row.putAt, hs, if_true]; rfl⟩
      · exact Or.inr ⟨hs, by simp only [Tbl.Row.putAt, hs, if_false]; rfl⟩
    clear hs
    generalize r.pl.getD i default = q at *
    go_wp2
    · have t1 : (q.st == 2) = true := by assumption
      go_end0
      have e : r.putAt i false key n = ⟨r.pl.set i ⟨1, key, n⟩, r.full + 1, r.graves - 1⟩ := by
        rcases hd.out with h | h
        · exact h.2
        · exact absurd (by simpa using t1) h.1
      rw [Int.toNat_natCast, e]
      refine ⟨rfl, ?_, ?_, ?_⟩
      · have := (HB.out.set (o + 1) (.int .i64 (r.full + 1))).set (o + 2) (.int .i64 (r.graves - 1))
        unfold rowc at this
        rw [set1 _ _ _ _ _ _ _ ho, set2 _ _ _ _ _ _ _ ho] at this
        unfold rowc
        rw [List.length_set]
        exact ((this.set_other hne).set_other hne).set_other hne
      · have := Blk.set_other (b' := b) (o := o + 1) (v := .int .i64 (r.full + 1)) HP.out (Ne.symm hne)
        have := Blk.set_other (b' := b) (o := o + 2) (v := .int .i64 (r.graves - 1)) this (Ne.symm hne)
        exact PlAt.place this i ⟨1, key, n⟩ hi2
      · exact ((((((Upd.refl _ _).drewN _).set (fun _ => Or.inl rfl)).set (fun _ => Or.inl rfl)).set (fun _ => Or.inr rfl)).set (fun _ => Or.inr rfl)).set (fun _ => Or.inr rfl)
    · have t1 : (q.st == 2) = false := by assumption
      go_end0
      have e : r.putAt i false key n = ⟨r.pl.set i ⟨1, key, n⟩, r.full + 1, r.graves⟩ := by
        rcases hd.out with h | h
        · simp [h.1] at t1
        · exact h.2
      rw [Int.toNat_natCast, e]
      refine ⟨rfl, ?_, ?_, ?_⟩
      · have := HB.out.set (o + 1) (.int .i64 (r.full + 1))
        unfold rowc at this
        rw [set1 _ _ _ _ _ _ _ ho] at this
        unfold rowc
        rw [List.length_set]
        exact ((this.set_other hne).set_other hne).set_other hne
      · have := Blk.set_other (b' := b) (o := o + 1) (v := .int .i64 (r.full + 1)) HP.out (Ne.symm hne)
        exact PlAt.place this i ⟨1, key, n⟩ hi2
      · exact (((((Upd.refl _ _).drewN _).set (fun _ => Or.inl rfl)).set (fun _ => Or.inr rfl)).set (fun _ => Or.inr rfl)).set (fun _ => Or.inr rfl)
  · go_wp2
    go_end0
    rw [Int.toNat_natCast]
    have e : r.putAt i true key n = ⟨r.pl.set i ⟨1, key, n⟩, r.full, r.graves⟩ := rfl
    rw [e]
    refine ⟨rfl, ?_, HP.out.place i ⟨1, key, n⟩ hi2, ?_⟩
    · have := HB.out
      unfold rowc at this ⊢
      rw [List.length_set]
      exact ((this.set_other hne).set_other hne).set_other hne
    · exact ((((Upd.refl _ _).drewN _).set (fun _ => Or.inr rfl)).set (fun _ => Or.inr rfl)).set (fun _ => Or.inr rfl)

set_option maxHeartbeats 1000000 in
theorem bury_any (b o bp i : Nat) (pre post : List Value) (r : Tbl.Row) (w : World) (T : TypeId) (hb : Blk w b (pre ++ rowc bp r ++ post) T) (ho : pre.length = o)
    (hp : PlAt w bp r.pl) (hne : b ≠ bp) (hi2 : i < r.pl.length) (hm : r.pl.length ≤ 1000000)
    (hfu : 0 ≤ r.full) (hfu' : r.full ≤ 1000000) (hgr : 0 ≤ r.graves) (hgr' : r.graves ≤ 1000000) :
    Calls Try.prog 24 #[.pointer (some ⟨b, o, none⟩), .int .i64 (i : Int)] w fun e w' =>
      e = .returned (.tuple #[]) ∧ Blk w' b (pre ++ rowc bp (r.bury i) ++ post) T ∧ PlAt w' bp (r.bury i).pl ∧ Upd (fun k => k = b ∨ k = bp) w w' := by
  have c0 := rowc_0 hb ho
  have c1 := rowc_1 hb ho
  have c2 := rowc_2 hb ho
  have fb := hb.free
  have fp := Blk.free hp
  have p0 := hp.st i hi2
  have p1 := hp.key i hi2
  have p2 := hp.num i hi2
  have HB := Lib.hid hb
  have HP := Lib.hid hp
  clear hb hp
  go_enter Try.func24, Try.ntmps24
  go_wp2
  go_end0
  refine ⟨rfl, ?_, ?_, ?_⟩
  · have := ((HB.out.set_other (b' := bp) (o := i * 3) (v := .int .i64 2) hne).set_other (b' := bp) (o := i * 3 + 1) (v := .string ByteArray.empty) hne).set_other (b' := bp) (o := i * 3 + 2) (v := .int .i64 0) hne
    have := (this.set (o + 1) (.int .i64 (r.full - 1))).set (o + 2) (.int .i64 (r.graves + 1))
    unfold rowc at this
    rw [set1 _ _ _ _ _ _ _ ho, set2 _ _ _ _ _ _ _ ho] at this
    unfold rowc Tbl.Row.bury
    rw [List.length_set]
    exact this
  · have := HP.out.place i Tbl.gravePl hi2
    exact (Blk.set_other this (Ne.symm hne)).set_other (Ne.symm hne)
  · exact (((((Upd.refl _ _).set (fun _ => Or.inr rfl)).set (fun _ => Or.inr rfl)).set (fun _ => Or.inr rfl)).set (fun _ => Or.inl rfl)).set (fun _ => Or.inl rfl)
end Go.Proofs.Ytbkhpdmadhhdoaa
