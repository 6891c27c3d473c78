/- Walks: the document's answer: a number's digits, and back. -/
import Derived.Test.YtcachinbmdchmaaDoorWholeE
set_option linter.unusedVariables false
set_option linter.unusedSimpArgs false
namespace Whole
open Go.Lib
theorem itoa_dig (k : Nat) (h : k < 10) : itoa (k : Int) = [UInt8.ofNat (48 + k)] := by
  rw [itoa_nonneg, decDigits, dif_pos h]
theorem itoa_step (k : Nat) (h : 10 ≤ k) : itoa (k : Int) = itoa ((k / 10 : Nat) : Int) ++ itoa ((k % 10 : Nat) : Int) := by
  rw [itoa_dig (k % 10) (by omega), itoa_nonneg, itoa_nonneg, decDigits, dif_neg (by omega)]
theorem itoa_minus (k : Nat) (h : 1 ≤ k) : itoa (-(k : Int)) = 45 :: itoa (k : Int) := by
  rw [itoa_neg k h, itoa_nonneg]
end Whole
namespace Go.Proofs.YtcachinbmdchmaaDoor
open Go.RowKit Go.Sort Go.Proofs
open Whole (wparse refParse)

theorem digText : ∀ k : Nat, k < 10 → (⟨#[48, 49, 50, 51, 52, 53, 54, 55, 56, 57]⟩ : ByteArray).extract k (k + 1) = ⟨#[UInt8.ofNat (48 + k)]⟩ := by decide
theorem txt_dig {k : Nat} (h : k < 10) : txt k = (⟨#[48, 49, 50, 51, 52, 53, 54, 55, 56, 57]⟩ : ByteArray).extract k (k + 1) := by
  rw [digText k h]; unfold txt; rw [Whole.itoa_dig k h]
theorem ret_str {a b : ByteArray} (h : a = b) : Ending.returned (.string a) = .returned (.string b) := by rw [h]
theorem ba_append (l k : List UInt8) : (⟨(l ++ k).toArray⟩ : ByteArray) = ⟨l.toArray⟩ ++ ⟨k.toArray⟩ := by
  apply ByteArray.ext; simp [ByteArray.data_append]
theorem rtext_dig (k : Nat) (h : k < 10) (w : World) :
    Calls Tryd.prog 12 #[.int .i64 (k : Int)] w fun e w' => e = .returned (.string (txt k)) ∧ w' = w := by
  have E := Lib.hid (txt_dig h)
  go_enter Tryd.func12, Tryd.ntmps12
  go_wp2
  go_ret
  exact ⟨ret_str E.out.symm, rfl⟩
theorem rtext_pos (m : Nat) : ∀ k : Nat, k < m → k ≤ 9223372036854775807 → ∀ w : World,
    Calls Tryd.prog 12 #[.int .i64 (k : Int)] w fun e w' => e = .returned (.string (txt k)) ∧ w' = w := by
  induction m with
  | zero => intro k h; omega
  | succ m ih =>
    intro k hk hb w
    by_cases h : k < 10
    · exact rtext_dig k h w
    · have A := fun w => ih (k / 10) (by omega) (by omega) w
      have B := fun w => rtext_dig (k % 10) (by omega) w
      have e1 : ((k / 10 : Nat) : Int) = (k : Int) / 10 := by omega
      have e2 : ((k % 10 : Nat) : Int) = (k : Int) % 10 := by omega
      have E : txt k = txt ((k : Int) / 10) ++ txt ((k : Int) % 10) := by
        rw [← e1, ← e2]; unfold txt; rw [Whole.itoa_step k (by omega), e1, e2]; exact ba_append _ _
      have l1 : (txt ((k : Int) / 10)).size ≤ 20 := text_len (a := (k : Int) / 10) (by omega) (by omega)
      have l2 : (txt ((k : Int) % 10)).size ≤ 20 := text_len (a := (k : Int) % 10) (by omega) (by omega)
      rw [e1] at A
      rw [e2] at B
      have A := Lib.hid A
      have B := Lib.hid B
      have E := Lib.hid E
      generalize txt ((k : Int) / 10) = s at *
      generalize txt ((k : Int) % 10) = t at *
      clear ih e1 e2
      go_enter Tryd.func12, Tryd.ntmps12
      go_wp2_with fail
      refine (A.out _).mono ?_
      rintro e w1 ⟨rfl, rfl⟩
      go_wp2_with fail
      refine (B.out _).mono ?_
      rintro e w1 ⟨rfl, rfl⟩
      go_wp2
      go_ret
      exact ⟨ret_str E.out.symm, rfl⟩
theorem tdiv_neg10 (k : Nat) : (-(k : Int)).tdiv 10 = -((k / 10 : Nat) : Int) ∧ (-(k : Int)).tmod 10 = -((k % 10 : Nat) : Int) := by
  rw [Int.neg_tdiv, Int.neg_tmod]; exact ⟨rfl, rfl⟩
theorem rtext_neg (m : Nat) : ∀ k : Nat, k < m → 1 ≤ k → k ≤ 9223372036854775808 → ∀ w : World,
    Calls Tryd.prog 12 #[.int .i64 (-(k : Int))] w fun e w' => e = .returned (.string (txt (-(k : Int)))) ∧ w' = w := by
  induction m with
  | zero => intro k h; omega
  | succ m ih =>
    intro k hk h1 hb w
    by_cases h : k < 10
    · have A := fun w => rtext_dig k h w
      have E : txt (-(k : Int)) = ⟨#[45]⟩ ++ txt k := by
        unfold txt; rw [Whole.itoa_minus k h1]; exact ba_append [45] _
      have l1 : (txt (k : Int)).size ≤ 20 := text_len (a := (k : Int)) (by omega) (by omega)
      have A := Lib.hid A
      have E := Lib.hid E
      generalize txt (k : Int) = s at *
      clear ih
      go_enter Tryd.func12, Tryd.ntmps12
      go_wp2_with fail
      refine (A.out _).mono ?_
      rintro e w1 ⟨rfl, rfl⟩
      go_wp2
      go_ret
      exact ⟨ret_str E.out.symm, rfl⟩
    · have A := fun w => ih (k / 10) (by omega) (by omega) (by omega) w
      have B := fun w => rtext_dig (k % 10) (by omega) w
      have E : txt (-(k : Int)) = txt (-((k / 10 : Nat) : Int)) ++ txt ((k % 10 : Nat) : Int) := by
        unfold txt; rw [Whole.itoa_minus k h1, Whole.itoa_minus (k / 10) (by omega), Whole.itoa_step k (by omega)]; exact ba_append (45 :: _) _
      have l1 : (txt (-((k / 10 : Nat) : Int))).size ≤ 20 := text_len (a := -((k / 10 : Nat) : Int)) (by omega) (by omega)
      have l2 : (txt ((k % 10 : Nat) : Int)).size ≤ 20 := text_len (a := ((k % 10 : Nat) : Int)) (by omega) (by omega)
      have e1 : ((k / 10 : Nat) : Int) = (k : Int) / 10 := by omega
      have e2 : ((k % 10 : Nat) : Int) = (k : Int) % 10 := by omega
      have d2 := (tdiv_neg10 k).2
      rw [e1] at A E l1
      rw [e2] at B E l2 d2
      have A := Lib.hid A
      have B := Lib.hid B
      have E := Lib.hid E
      generalize txt (-((k : Int) / 10)) = s at *
      generalize txt ((k : Int) % 10) = t at *
      clear ih e1 e2
      go_enter Tryd.func12, Tryd.ntmps12
      go_wp2_with fail
      refine (A.out _).mono ?_
      rintro e w1 ⟨rfl, rfl⟩
      go_wp2_with fail
      refine (B.out _).mono ?_
      rintro e w1 ⟨rfl, rfl⟩
      go_wp2
      go_ret
      exact ⟨ret_str E.out.symm, rfl⟩
theorem rtext_any (n : Int) (h0 : -9223372036854775808 ≤ n) (h1 : n ≤ 9223372036854775807) (w : World) :
    Calls Tryd.prog 12 #[.int .i64 n] w fun e w' => e = .returned (.string (txt n)) ∧ w' = w := by
  by_cases h : 0 ≤ n
  · obtain ⟨k, rfl⟩ : ∃ k : Nat, n = (k : Int) := ⟨n.toNat, by omega⟩
    exact rtext_pos (k + 1) k (by omega) (by omega) w
  · obtain ⟨k, rfl⟩ : ∃ k : Nat, n = -(k : Int) := ⟨n.natAbs, by omega⟩
    exact rtext_neg (k + 1) k (by omega) (by omega) (by omega) w
end Go.Proofs.YtcachinbmdchmaaDoor
