/- Walk: the chapter's example. -/
import Derived.Test.YthgojhchakclcaaKeyK
import Derived.Test.YthgojhchakclcaaSame
set_option linter.unusedVariables false
set_option linter.unusedSimpArgs false
namespace Go.Proofs.Ythgojhchakclcaa
open Go.RowKit

/-- What the struct's first field is, and how many rows there are. -/
theorem KAt.rec {w : World} {base kb : Nat} {most : Int} {L : Rows14} {n : Nat} {E : Nat → Prop} (h : KAt w base kb most L n E) : ∃ rb F, w.cell? ⟨kb, 0, none⟩ = some (.pointer (some ⟨rb, 0, none⟩)) ∧ RecRep w rb (akeys L) F := by
  obtain ⟨rb, rows, reads, F, R, rv, Q, iv, im, h, _⟩ := h
  exact ⟨rb, F, h.blk.cellAt rfl, h.recent⟩
def bA : ByteArray := ⟨#[97]⟩
def bB : ByteArray := ⟨#[98]⟩
def bC : ByteArray := ⟨#[99]⟩
theorem wAB : ¬ bA = bB := by decide
theorem ex1 : add14 2 [] bA 2 = (ByteArray.empty, [], false, [(bA, [2])]) := by decide
theorem ex2 : add14 2 [(bA, [2])] bA 1 = (ByteArray.empty, [], false, [(bA, [1, 2])]) := by decide
theorem ex3 : add14 2 [(bA, [1, 2])] bB 1 = (ByteArray.empty, [], false, [(bA, [1, 2]), (bB, [1])]) := by decide
theorem ex4 : add14 2 [(bA, [1, 2]), (bB, [1])] bC 1 = (bA, [1, 2], true, [(bB, [1]), (bC, [1])]) := by decide

theorem KAt.fresh {w w1 w2 : World} {kb : Nat} {most : Int} {L : Rows14} {n : Nat} {E : Nat → Prop} (h : KAt w1 w.heap.size kb most L n E) (u : Upd (fun _ => False) w w1) (u2 : Upd E w1 w2) : Upd (fun _ => False) w w2 :=
  u.trans u2 (fun i hi hE => by have := (h.lt i hE).1; omega)

set_option maxHeartbeats 2000000 in
theorem alive_any (w : World) : Calls Try.prog 6 #[] w fun e w' => e = .returned (.bool true) ∧ Upd (fun _ => False) w w' := by
  have N := Lib.hid (knew_any 2 w (by omega) (by omega) w.heap.size (Nat.le_refl _))
  go_enter Try.func6, Try.ntmps6
  go_wp2_with fail
  refine (N.out).mono ?_
  rintro e w1 ⟨kb, E1, rfl, k1, u1, f1⟩
  have A1 := kadd_any w.heap.size kb 2 [] 0 E1 bA 2 w1 k1 (by omega) (by omega)
  rw [ex1] at A1
  have A1 := Lib.hid A1
  have K1 := Lib.hid k1
  have U1 := Lib.hid u1
  unfold bA at A1
  clear k1 u1 f1 N
  go_wp2_with fail
  refine (A1.out).mono ?_
  rintro e w2 ⟨v2, rfl, i2, E2, k2, u2, f2, _⟩
  have A2 := kadd_any w.heap.size kb 2 [(bA, [2])] 1 E2 bA 1 w2 k2 (by omega) (by omega)
  rw [ex2] at A2
  have A2 := Lib.hid A2
  have K2 : Hid (KAt w2 w.heap.size kb 2 [(bA, [2])] 1 E2) := k2
  have U2 := Lib.hid (K1.out.fresh U1.out u2)
  unfold bA at A2
  clear i2 k2 u2 f2 A1 K1 U1
  go_wp2_with fail
  refine (A2.out).mono ?_
  rintro e w3 ⟨v3, rfl, i3, E3, k3, u3, f3, _⟩
  have A3 := kadd_any w.heap.size kb 2 [(bA, [1, 2])] 2 E3 bB 1 w3 k3 (by omega) (by omega)
  rw [ex3] at A3
  have A3 := Lib.hid A3
  have K3 : Hid (KAt w3 w.heap.size kb 2 [(bA, [1, 2])] 2 E3) := k3
  have U3 := Lib.hid (K2.out.fresh U2.out u3)
  unfold bB at A3
  clear i3 k3 u3 f3 A2 K2 U2
  go_wp2_with fail
  refine (A3.out).mono ?_
  rintro e w4 ⟨v4, rfl, i4, E4, k4, u4, f4, _⟩
  have A4 := kadd_any w.heap.size kb 2 [(bA, [1, 2]), (bB, [1])] 3 E4 bC 1 w4 k4 (by omega) (by omega)
  rw [ex4] at A4
  have A4 := Lib.hid A4
  have K4 : Hid (KAt w4 w.heap.size kb 2 [(bA, [1, 2]), (bB, [1])] 3 E4) := k4
  have U4 := Lib.hid (K3.out.fresh U3.out u4)
  unfold bC bA at A4
  clear i4 k4 u4 f4 A3 K3 U3
  go_wp2_with fail
  refine (A4.out).mono ?_
  rintro e w5 ⟨v5, rfl, i5, E5, k5, u5, f5, _⟩
  obtain ⟨p5, c5, e5, _⟩ := own_slice i5
  subst e5
  have U5 := Lib.hid (K4.out.fresh U4.out u5)
  have ua : Upd (fun _ => False) w5 (w5.alloc (.cells #[.int .i64 1, .int .i64 2] 3)) := (Upd.refl _ w5).alloc _
  obtain ⟨rb, F, c0, hr⟩ := k5.rec
  have hkl := hr.lt
  have kbl := k5
  obtain ⟨rb', rows, reads, F', R, rv, Q, iv, im, hraw, _⟩ := k5
  have kl := hraw.blk.lt
  have SM := (same14_any _ (.slice (some ⟨w5.heap.size, 0, none⟩) 2 2) [1, 2] [1, 2] _ ((i5.keep ua (fun _ _ h => h)).row) (Or.inr ⟨w5.heap.size, 0, 2, rfl, by simp, by unfold maxLen; simp, fun i a hi j hj => by
    have hb := Blk.made w5 [.int .i64 1, .int .i64 2] 3
    obtain rfl : j = 0 := by omega
    match i, hi with
    | 0, hi => cases hi; exact hb.cellAt rfl
    | 1, hi => cases hi; exact hb.cellAt rfl⟩))
  rw [decide_eq_true rfl] at SM
  have SM := Lib.hid SM
  have c0' : ∀ k, ((w5.alloc (.cells #[.int .i64 1, .int .i64 2] 3)).drewN k).cell? ⟨kb, 0, none⟩ = some (.pointer (some ⟨rb, 0, none⟩)) := fun k => (alloc_old kl).trans c0
  have LN := Lib.hid (fun (v : World) (u : Upd (fun _ => False) w5 v) => rlen_any rb _ F v (hr.keep u (fun _ _ hh => hh)) (by simp [akeys]))
  have UA := Lib.hid ua
  clear i5 kbl hraw hr hkl u5 f5 ua
  go_wp2_with fail
  refine (SM.out).mono ?_
  rintro e w6 ⟨rfl, q, rfl⟩
  have c0q := c0' q
  go_wp2_with fail
  refine (LN.out _ (UA.out.drewN q)).mono ?_
  rintro e w7 ⟨rfl, rfl⟩
  go_wp2
  go_ret
  exact ⟨rfl, (U5.out.trans UA.out (fun _ _ h => h)).drewN q⟩
end Go.Proofs.Ythgojhchakclcaa
