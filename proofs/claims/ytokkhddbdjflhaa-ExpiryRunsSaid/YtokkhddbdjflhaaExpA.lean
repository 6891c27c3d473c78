/- Expiry: what is ahead of what. -/
import Derived.Test.YtokkhddbdjflhaaExpP
import Derived.Test.YtokkhddbdjflhaaOwn
import Derived.LoopN
import Derived.Deep.RegionHeld3
import Derived.Sort.Grow
import Derived.Deep.DeepCutAuto
import Derived.Test.YtokkhddbdjflhaaRows
set_option linter.unusedVariables false
set_option linter.unusedSimpArgs false
namespace Go.Proofs.Ytokkhddbdjflhaa
open Go.RowKit

theorem cmpI_any (a b : Int) (w : World) : Calls Try.prog 36 #[.int .i64 a, .int .i64 b] w fun e w' => e = .returned (.int .i64 (cmpV (decide (a < b)) (decide (b < a)))) ∧ w' = w := by
  cases h1 : decide (a < b) with
  | true =>
    go_enter Try.func36, Try.ntmps36
    go_wp2
    go_ret
    exact ⟨rfl, rfl⟩
  | false =>
    cases h2 : decide (b < a) with
    | true =>
      go_enter Try.func36, Try.ntmps36
      go_wp2
      go_ret
      exact ⟨rfl, rfl⟩
    | false =>
      go_enter Try.func36, Try.ntmps36
      go_wp2
      go_ret
      exact ⟨rfl, rfl⟩
theorem cmpS_any (a b : ByteArray) (w : World) : Calls Try.prog 37 #[.string a, .string b] w fun e w' => e = .returned (.int .i64 (cmpS a b)) ∧ w' = w := by
  unfold cmpS
  cases h1 : Op.bytesLess a.toList b.toList with
  | true =>
    go_enter Try.func37, Try.ntmps37
    go_wp2
    go_ret
    exact ⟨rfl, rfl⟩
  | false =>
    cases h2 : (a.toList == b.toList) with
    | true =>
      have h3 : (!a.toList == b.toList) = false := by rw [h2]; rfl
      go_enter Try.func37, Try.ntmps37
      go_wp2
      go_ret
      exact ⟨rfl, rfl⟩
    | false =>
      have h3 : (!a.toList == b.toList) = true := by rw [h2]; rfl
      go_enter Try.func37, Try.ntmps37
      go_wp2
      go_ret
      exact ⟨rfl, rfl⟩
theorem cmpOr_any (b : Nat) (x y : Int) (w : World) (h0 : w.cell? ⟨b, 0, none⟩ = some (.int .i64 x)) (h1 : w.cell? ⟨b, 1, none⟩ = some (.int .i64 y)) :
    Calls Try.prog 35 #[.slice (some ⟨b, 0, none⟩) 2 2] w fun e w' => e = .returned (.int .i64 (orI x y)) ∧ w' = w := by
  unfold orI
  cases hx : (x == 0) with
  | false =>
    have hx2 : (!x == 0) = true := by rw [hx]; rfl
    go_enter Try.func35, Try.ntmps35
    go_wp2
    refine wp_loop_rounds 2 ?_
    rw [rounds_succ]
    go_wp2
    go_ret
    exact ⟨by simp, rfl⟩
  | true =>
    have hx2 : (!x == 0) = false := by rw [hx]; rfl
    have hx0 : x = 0 := by simpa using hx
    cases hy : (y == 0) with
    | false =>
      have hy2 : (!y == 0) = true := by rw [hy]; rfl
      go_enter Try.func35, Try.ntmps35
      go_wp2
      refine wp_loop_rounds 3 ?_
      rw [rounds_succ]
      go_wp2
      rw [rounds_succ]
      go_wp2
      go_ret
      exact ⟨by simp, rfl⟩
    | true =>
      have hy2 : (!y == 0) = false := by rw [hy]; rfl
      have hy0 : y = 0 := by simpa using hy
      go_enter Try.func35, Try.ntmps35
      go_wp2
      refine wp_loop_rounds 3 ?_
      rw [rounds_succ]
      go_wp2
      rw [rounds_succ]
      go_wp2
      rw [rounds_succ]
      go_wp2
      go_ret
      exact ⟨by simp [hy0], rfl⟩
set_option maxHeartbeats 8000000 in
set_option maxRecDepth 100000 in
theorem order_raw (w1 w2 : Int) (k1 k2 : ByteArray) (w : World) :
    Calls Try.prog 27 #[.agg #[.int .i64 w1, .string k1], .agg #[.int .i64 w2, .string k2]] w fun e w' => e = .returned (.int .i64 (ordV w1 k1 w2 k2)) ∧ w' = (((w.alloc (.cells #[.int .i64 w1, .string k1] 26)).alloc (.cells #[.int .i64 w2, .string k2] 26)).alloc (.cells #[.int .i64 (cmpV (decide (w1 < w2)) (decide (w2 < w1))), .int .i64 (cmpS k1 k2)] 3)).drew := by
  go_enter Try.func27, Try.ntmps27
  go_wp2


  go_region_held3 (fun w' => w'.cell? ⟨w.heap.size, 0, none⟩ = some (.int .i64 w1) ∧ w'.cell? ⟨w.heap.size, 1, none⟩ = some (.string k1) ∧ w'.cell? ⟨w.heap.size + 1, 0, none⟩ = some (.int .i64 w2) ∧ w'.cell? ⟨w.heap.size + 1, 1, none⟩ = some (.string k2)) (go_keep) (first
    | (go_at_call 36; refine (cmpI_any _ _ _).mono ?_; rintro e w' ⟨rfl, rfl⟩)
    | (go_at_call 37; refine (cmpS_any _ _ _).mono ?_; rintro e w' ⟨rfl, rfl⟩)
    | (go_at_call 35; refine (cmpOr_any _ (cmpV (decide (w1 < w2)) (decide (w2 < w1))) (cmpS k1 k2) _ (by simp [World.cell?_alloc_at]) (by simp [World.cell?_alloc_at])).mono ?_; rintro e w' ⟨rfl, rfl⟩))
  go_wp2
  go_ret
  exact ⟨rfl, rfl⟩
theorem order_any (w1 w2 : Int) (k1 k2 : ByteArray) (w : World) :
    Calls Try.prog 27 #[.agg #[.int .i64 w1, .string k1], .agg #[.int .i64 w2, .string k2]] w fun e w' => e = .returned (.int .i64 (ordV w1 k1 w2 k2)) ∧ Upd (fun _ => False) w w' :=
  (order_raw w1 w2 k1 k2 w).mono fun _ _ ⟨h1, h2⟩ => ⟨h1, by rw [h2]; exact ((((Upd.refl _ w).alloc _).alloc _).alloc _).drew⟩
theorem order_grow (w1 w2 : Int) (k1 k2 : ByteArray) (w : World) :
    Calls Try.prog 27 #[.agg #[.int .i64 w1, .string k1], .agg #[.int .i64 w2, .string k2]] w fun e w' => e = .returned (.int .i64 (ordV w1 k1 w2 k2)) ∧ ∃ q os', w' = Go.Sort.grow (w.drewN q) os' :=
  (order_raw w1 w2 k1 k2 w).mono fun e w' ⟨h1, h2⟩ => by
    subst h2
    refine ⟨h1, 1, ?_⟩
    rw [Go.Sort.alloc_eq_grow, Go.Sort.alloc_eq_grow, Go.Sort.alloc_eq_grow, Go.Sort.grow_grow, Go.Sort.grow_grow]
    exact ⟨_, rfl⟩
end Go.Proofs.Ytokkhddbdjflhaa
