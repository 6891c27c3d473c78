/- Walks: at, Clear. -/
import Derived.Test.YtbkhpdmadhhdoaaTabE
set_option linter.unusedVariables false
set_option linter.unusedSimpArgs false
namespace Go.Proofs.Ytbkhpdmadhhdoaa
open Go.RowKit
open Tbl (Pl findGo home fnv Tab)

/-- what 'at' answers. -/
def atVal (a : Nat) : Option (Bool × Nat) → Value
  | some (true, i) => .tuple #[.pointer (some ⟨a, 3, none⟩), .int .i64 (i : Int)]
  | some (false, i) => .tuple #[.pointer (some ⟨a, 0, none⟩), .int .i64 (i : Int)]
  | none => .tuple #[.pointer none, .int .i64 (-1)]

theorem idx0 (x y : Value) (w : World) : (Instr.index 60 (.agg #[x, y]) (.int .i64 0)).run Try.prog w = .ok x w := by kernel_rfl
theorem idx1 (x y : Value) (w : World) : (Instr.index 60 (.agg #[x, y]) (.int .i64 1)).run Try.prog w = .ok y w := by kernel_rfl

set_option maxHeartbeats 2000000 in
theorem at_any (m a bo bf : Nat) (t : Tab) (key : ByteArray) (w : World) (h : TabAt w a bo bf t) (hi : t.Inv m) (hm : m ≤ 10000) (hk : key.size ≤ maxLen) :
    Calls Try.prog 21 #[.pointer (some ⟨a, 0, none⟩), .string key] w fun e w' => e = .returned (atVal a (t.at key)) ∧ ∃ n, w' = w.drewN n := by
  have c0 := h.o0
  have lo := hi.lo
  have l1 := hi.hi
  have l2 := hi.hi2
  have FO : Hid (∀ n, Calls Try.prog 26 #[.pointer (some ⟨a, 0, none⟩), .string key] (w.drewN n) fun e w' => e = .returned (.tuple #[.int .i64 (Tbl.find t.old.pl key).1, .bool (Tbl.find t.old.pl key).2]) ∧ ∃ k, w' = (w.drewN n).drewN k) :=
    fun n => find_any a 0 bo t.old.pl key (w := w.drewN n) (hk := hk) (h0 := by omega) (hm := by omega) (hr := c0) (hp := h.old.drewN n)
  have OF : Hid ((Tbl.find t.old.pl key).2 = true → 0 ≤ (Tbl.find t.old.pl key).1) := fun ht => by
    obtain ⟨i, _, e, _⟩ := Tbl.find_there t.old.pl key (by omega) ht
    omega
  have z2 : ((t.old.pl.length : Int) == 0) = false := beq_eq_false_iff_ne.2 (by omega)
  have q2 : t.old.pl.length ≠ 0 := by omega
  have Q2 := Lib.hid q2
  have i0 := idx0 (.pointer (some ⟨a, 3, none⟩)) (.pointer (some ⟨a, 0, none⟩))
  have i1 := idx1 (.pointer (some ⟨a, 3, none⟩)) (.pointer (some ⟨a, 0, none⟩))
  clear q2
  by_cases hmv : t.moving = true
  · have c3 := h.f0 hmv
    have mv := hi.mv hmv
    have FF : Hid (∀ n, Calls Try.prog 26 #[.pointer (some ⟨a, 3, none⟩), .string key] (w.drewN n) fun e w' => e = .returned (.tuple #[.int .i64 (Tbl.find t.fresh.pl key).1, .bool (Tbl.find t.fresh.pl key).2]) ∧ ∃ k, w' = (w.drewN n).drewN k) :=
      fun n => find_any a 3 bf t.fresh.pl key (w := w.drewN n) (hk := hk) (h0 := by omega) (hm := by omega) (hr := c3) (hp := (h.fresh hmv).drewN n)
    have OFF : Hid ((Tbl.find t.fresh.pl key).2 = true → 0 ≤ (Tbl.find t.fresh.pl key).1) := fun ht => by
      obtain ⟨i, _, e, _⟩ := Tbl.find_there t.fresh.pl key (by omega) ht
      omega
    have z1 : ((t.fresh.pl.length : Int) == 0) = false := beq_eq_false_iff_ne.2 (by omega)
    have q1 : t.fresh.pl.length ≠ 0 := by omega
    have Q1 := Lib.hid q1
    clear mv h hi hmv q1
    go_enter Try.func21, Try.ntmps21
    go_wp2
    go_quiet (fail)
    go_wp2
    refine wp_loop_rounds 3 ?_
    rw [rounds_succ]
    go_wp2_with fail
    refine (FF.out _).mono ?_
    rintro e w1 ⟨rfl, n1, rfl⟩
    cases hf : (Tbl.find t.fresh.pl key).2
    · have HF := Lib.hid hf
      clear hf
      go_wp2
      rw [rounds_succ]
      go_wp2_with fail
      refine (FO.out _).mono ?_
      rintro e w1 ⟨rfl, n2, rfl⟩
      cases hg : (Tbl.find t.old.pl key).2
      · have HG := Lib.hid hg
        clear hg
        go_wp2
        rw [rounds_succ]
        go_wp2
        go_ret2
        refine ⟨?_, _, rfl⟩
        unfold Tab.at
        rw [if_neg (by rw [HF.out]; simp), if_neg (by rw [HG.out]; simp)]
        rfl
      · have HG := Lib.hid hg
        clear hg
        go_wp2
        go_ret2
        refine ⟨?_, _, rfl⟩
        unfold Tab.at
        rw [if_neg (by rw [HF.out]; simp), if_pos ⟨Q2.out, HG.out⟩]
        show _ = Ending.returned (.tuple #[_, _])
        rw [Int.toNat_of_nonneg (OF.out HG.out)]
        rfl
    · have HF := Lib.hid hf
      clear hf
      go_wp2
      go_ret2
      refine ⟨?_, _, rfl⟩
      unfold Tab.at
      rw [if_pos ⟨Q1.out, HF.out⟩]
      show _ = Ending.returned (.tuple #[_, _])
      rw [Int.toNat_of_nonneg (OFF.out HF.out)]
      rfl
  · have hmv : t.moving = false := by simpa using hmv
    have c3 := h.n0 hmv
    have q1 : t.fresh.pl.length = 0 := by rw [(hi.rest hmv).1]; rfl
    have Q1 := Lib.hid q1
    clear h hi hmv q1
    go_enter Try.func21, Try.ntmps21
    go_wp2
    go_quiet (fail)
    go_wp2
    refine wp_loop_rounds 3 ?_
    rw [rounds_succ]
    go_wp2
    rw [rounds_succ]
    go_wp2_with fail
    refine (FO.out _).mono ?_
    rintro e w1 ⟨rfl, n2, rfl⟩
    cases hg : (Tbl.find t.old.pl key).2
    · have HG := Lib.hid hg
      clear hg
      go_wp2
      rw [rounds_succ]
      go_wp2
      go_ret2
      refine ⟨?_, _, rfl⟩
      unfold Tab.at
      rw [if_neg (fun hh => hh.1 Q1.out), if_neg (by rw [HG.out]; simp)]
      rfl
    · have HG := Lib.hid hg
      clear hg
      go_wp2
      go_ret2
      refine ⟨?_, _, rfl⟩
      unfold Tab.at
      rw [if_neg (fun hh => hh.1 Q1.out), if_pos ⟨Q2.out, HG.out⟩]
      show _ = Ending.returned (.tuple #[_, _])
      rw [Int.toNat_of_nonneg (OF.out HG.out)]
      rfl

set_option maxHeartbeats 1000000 in
theorem clear_any (a bo bf : Nat) (t : Tab) (w : World) (h : TabAt w a bo bf t) :
    Calls Try.prog 16 #[.pointer (some ⟨a, 0, none⟩)] w fun e w' => e = .returned (.tuple #[]) ∧ ∃ bo' bf', TabAt w' a bo' bf' Tab.new ∧ Upd (tabF a bo bf t) w w' ∧ FromF (tabF a bo bf t) (tabF a bo' bf' Tab.new) w := by
  go_enter Try.func16, Try.ntmps16
  have al := h.blk.lt
  have H := Lib.hid h
  clear h
  go_wp2_with fail
  refine (new_any w).mono ?_
  rintro e w1 ⟨a1, F1, rfl, ⟨bo1, bf1, h1, rfl⟩, u1, k1⟩
  have x := H.out.keep u1 (fun _ _ => id)
  have e0 := x.o0
  have e1 := x.o1
  have e2 := x.o2
  obtain ⟨v3, e3⟩ : ∃ v, w1.cell? ⟨a, 3, none⟩ = some v := by
    cases hm : t.moving
    · exact ⟨_, x.n0 hm⟩
    · exact ⟨_, x.f0 hm⟩
  have e4 := x.f1
  have e5 := x.f2
  have e6 := x.m
  have e7 := x.x
  have d0 := h1.o0
  have d1 := h1.o1
  have d2 := h1.o2
  have d3 := h1.n0 rfl
  have d4 := h1.f1
  have d5 := h1.f2
  have d6 := h1.m
  have d7 := h1.x
  have fb := x.fb
  have H1 := Lib.hid h1
  have X := Lib.hid x
  have U1 := Lib.hid u1
  have K1 := Lib.hid k1
  clear h1 x u1 k1
  go_wp2
  go_end0
  have kn := K1.out
  have hne : bo1 ≠ a := by have := kn bo1 (Or.inr (Or.inl rfl)); omega
  have hU : Upd (tabF a bo bf t) w w1 := U1.out.weaken (fun _ _ h => h.elim)
  have ha : tabF a bo bf t a := Or.inl rfl
  refine ⟨rfl, bo1, bf1, ⟨?_, ?_, fun h => (by cases h), Ne.symm hne, fun h => (by cases h), fun _ => ⟨rfl, rfl⟩⟩, ?_, ?_⟩
  · have hB := (((((((X.out.blk.set 0 (.slice (some ⟨bo1, 0, none⟩) Tab.new.old.pl.length Tab.new.old.pl.length)).set 1 (.int .i64 Tab.new.old.full)).set 2 (.int .i64 Tab.new.old.graves)).set 3 (.slice none 0 0)).set 4 (.int .i64 Tab.new.fresh.full)).set 5 (.int .i64 Tab.new.fresh.graves)).set 6 (.bool Tab.new.moving)).set 7 (.int .i64 Tab.new.next)
    have e : ((((((((tabc bo bf t).set 0 (.slice (some ⟨bo1, 0, none⟩) Tab.new.old.pl.length Tab.new.old.pl.length)).set 1 (.int .i64 Tab.new.old.full)).set 2 (.int .i64 Tab.new.old.graves)).set 3 (.slice none 0 0)).set 4 (.int .i64 Tab.new.fresh.full)).set 5 (.int .i64 Tab.new.fresh.graves)).set 6 (.bool Tab.new.moving)).set 7 (.int .i64 Tab.new.next) = tabc bo1 bf1 Tab.new := by
      unfold tabc freshc rowc; split <;> rfl
    rw [← e]; exact hB
  · exact (((((((Blk.set_other H1.out.old hne).set_other hne).set_other hne).set_other hne).set_other hne).set_other hne).set_other hne).set_other hne
  · exact (((((((hU.set (fun _ => ha)).set (fun _ => ha)).set (fun _ => ha)).set (fun _ => ha)).set (fun _ => ha)).set (fun _ => ha)).set (fun _ => ha)).set (fun _ => ha)
  · rintro k (rfl | rfl | ⟨h, _⟩)
    · exact Or.inl ha
    · exact Or.inr (kn _ (Or.inr (Or.inl rfl)))
    · cases h
end Go.Proofs.Ytbkhpdmadhhdoaa
