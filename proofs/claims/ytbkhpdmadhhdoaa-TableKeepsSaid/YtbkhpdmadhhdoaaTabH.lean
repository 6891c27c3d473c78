/- The chapter's example: tableAlive. -/
import Derived.Test.YtbkhpdmadhhdoaaTabG
set_option linter.unusedVariables false
set_option linter.unusedSimpArgs false
namespace Go.Proofs.Ytbkhpdmadhhdoaa
open Go.RowKit
open Tbl (Pl findGo home fnv Tab)

def aliveKey (k : Nat) : ByteArray := ⟨#[UInt8.ofNat (97 + k)]⟩
def aliveT : Nat → Tab
  | 0 => Tab.new
  | k + 1 => ((aliveT k).put (aliveKey k) 1).1
theorem aliveT_inv (k : Nat) : (aliveT k).Inv k := by
  induction k with
  | zero => exact Tbl.inv_new 0
  | succ k ih => exact Tbl.put_inv ih _ _ (by show 1 ≤ _; omega)
theorem alive_new (k : Nat) (h : k < 5) : ((aliveT k).put (aliveKey k) 1).2 = true := by
  have : k = 0 ∨ k = 1 ∨ k = 2 ∨ k = 3 ∨ k = 4 := by omega
  rcases this with rfl | rfl | rfl | rfl | rfl <;> decide +kernel
theorem alive_end : (aliveT 5).old.pl.length = 8 ∧ (aliveT 5).fresh.pl.length = 32 ∧ (aliveT 5).old.full = 4 ∧ (aliveT 5).fresh.full = 1 := by decide +kernel

set_option maxHeartbeats 2000000 in
theorem alive_any (w : World) : Calls Try.prog 7 #[] w fun e w' => e = .returned (.bool true) ∧ Upd (fun _ => False) w w' := by
  go_enter Try.func7, Try.ntmps7
  go_wp2_with fail
  refine (new_any w).mono ?_
  rintro e w1 ⟨a, F1, rfl, ⟨bo, bf, h1, rfl⟩, u1, k1⟩
  have H1 := Lib.hid h1
  have U1 := Lib.hid u1
  have K1 := Lib.hid k1
  clear h1 u1 k1
  go_wp2
  have HA : Hid (TabAt (w1.alloc (.cells #[.string ⟨#[97]⟩, .string ⟨#[98]⟩, .string ⟨#[99]⟩, .string ⟨#[100]⟩, .string ⟨#[101]⟩] 9)) a bo bf (aliveT 0)) := H1.out.keep (G := fun _ => False) ((Upd.refl _ _).alloc _) (fun _ _ => id)
  have HB : Hid (Blk (w1.alloc (.cells #[.string ⟨#[97]⟩, .string ⟨#[98]⟩, .string ⟨#[99]⟩, .string ⟨#[100]⟩, .string ⟨#[101]⟩] 9)) w1.heap.size [.string ⟨#[97]⟩, .string ⟨#[98]⟩, .string ⟨#[99]⟩, .string ⟨#[100]⟩, .string ⟨#[101]⟩] 9) := Blk.made w1 _ _
  have HU : Hid (Upd (fun _ => False) w (w1.alloc (.cells #[.string ⟨#[97]⟩, .string ⟨#[98]⟩, .string ⟨#[99]⟩, .string ⟨#[100]⟩, .string ⟨#[101]⟩] 9))) := U1.out.alloc _
  have HN : Hid (∀ i, tabF a bo bf (aliveT 0) i → w.heap.size ≤ i ∧ i ≠ w1.heap.size) := fun i hi => ⟨K1.out i hi, fun e => by have := H1.out.lt i hi; omega⟩
  have hs := U1.out.size
  generalize w1.alloc (.cells #[.string ⟨#[97]⟩, .string ⟨#[98]⟩, .string ⟨#[99]⟩, .string ⟨#[100]⟩, .string ⟨#[101]⟩] 9) = w2 at *
  generalize w1.heap.size = q at *
  clear H1 U1 K1
  go_loopw [11] (fun c wr => ∃ (k bo1 bf1 : Nat), k ≤ 5 ∧ c = .int .i64 (k : Int) ∧ Hid (TabAt wr a bo1 bf1 (aliveT k)) ∧ Hid (Blk wr q [.string ⟨#[97]⟩, .string ⟨#[98]⟩, .string ⟨#[99]⟩, .string ⟨#[100]⟩, .string ⟨#[101]⟩] 9) ∧ Hid (Upd (fun _ => False) w wr) ∧ Hid (∀ i, tabF a bo1 bf1 (aliveT k) i → w.heap.size ≤ i ∧ i ≠ q)) (fun c _ => 5 - (intOf c).toNat)
  case atStart => exact ⟨0, bo, bf, by omega, rfl, HA, HB, HU, HN⟩
  case round =>
    obtain ⟨k, bo1, bf1, hk, rfl, h1, h2, h3, h4⟩ := hrel
    by_cases hlt : k < 5
    · have c : wr.cell? ⟨q, k, none⟩ = some (.string (aliveKey k)) := by
        apply h2.out.cellAt
        have : k = 0 ∨ k = 1 ∨ k = 2 ∨ k = 3 ∨ k = 4 := by omega
        rcases this with rfl | rfl | rfl | rfl | rfl <;> rfl
      have P := Lib.hid (tput_any k a bo1 bf1 (aliveT k) (aliveKey k) 1 wr h1.out (aliveT_inv k) (by omega) (by show 1 ≤ _; omega))
      go_wp2_with fail
      refine P.out.mono ?_
      rintro e w3 ⟨rfl, bo2, bf2, g1, g2, g3⟩
      rw [alive_new k hlt]
      have G1 : Hid (TabAt w3 a bo2 bf2 (aliveT (k + 1))) := g1
      have G2 : Hid (Blk w3 q [.string ⟨#[97]⟩, .string ⟨#[98]⟩, .string ⟨#[99]⟩, .string ⟨#[100]⟩, .string ⟨#[101]⟩] 9) := g2.blk h2.out (fun hh => (h4.out _ hh).2 rfl)
      have G3 : Hid (Upd (fun _ => False) w w3) := h3.out.trans g2 (fun i hi hh => by have := (h4.out i hh).1; omega)
      have G4 : Hid (∀ i, tabF a bo2 bf2 (aliveT (k + 1)) i → w.heap.size ≤ i ∧ i ≠ q) := fun i hi => by
        rcases g3 i hi with g | g
        · exact h4.out i g
        · have := h3.out.size; have := h2.out.lt; omega
      clear g1 g2 g3 P
      go_wp2
      go_roundw
      case rel => exact ⟨k + 1, bo2, bf2, by omega, by go_num, G1, G2, G3, G4⟩
      case measure => simp [intOf]; omega
    · have hk5 : k = 5 := by omega
      subst hk5
      obtain ⟨e1, e2, e3, e4⟩ := alive_end
      have R := Lib.hid (room_any a bo1 bf1 (aliveT 5) wr h1.out (by omega) (by omega))
      have L : Hid (∀ n, Calls Try.prog 12 #[.pointer (some ⟨a, 0, none⟩)] (wr.drewN n) fun e w' => e = .returned (.int .i64 5) ∧ ∃ m, w' = (wr.drewN n).drewN m) := fun n =>
        (len_any a bo1 bf1 (aliveT 5) (wr.drewN n) (h1.out.drewN n) (by omega) (by omega) (by omega) (by omega)).mono (fun e w' ⟨x, y⟩ => ⟨by rw [x]; unfold Tab.len; rw [e3, e4]; rfl, y⟩)
      have RR : Hid (Calls Try.prog 11 #[.pointer (some ⟨a, 0, none⟩)] wr fun e w' => e = .returned (.tuple #[.int .i64 8, .int .i64 32]) ∧ ∃ n, w' = wr.drewN n) := by
        have := R.out; rw [e1, e2] at this; exact this
      clear R e1 e2 e3 e4
      go_wp2_with fail
      refine RR.out.mono ?_
      rintro e w3 ⟨rfl, n1, rfl⟩
      go_wp2_with fail
      refine (L.out _).mono ?_
      rintro e w3 ⟨rfl, n2, rfl⟩
      go_wp2
      go_ret
      exact ⟨rfl, h3.out.drewN _⟩
end Go.Proofs.Ytbkhpdmadhhdoaa
