/- A slice of texts of the call's own, and its sort by the library. -/
import Derived.Test.YtbkhpdmadhhdoaaRows
import Derived.Test.YtbkhpdmadhhdoaaShelf
import Derived.Test.YtbkhpdmadhhdoaaHeap
import Derived.Sort.OwnSorted
set_option linter.unusedVariables false
set_option linter.unusedSimpArgs false
namespace Go.Proofs.Ytbkhpdmadhhdoaa
open Go.RowKit Go.Sort Go.Proofs

/-- v is a slice of texts of the call's own, from block base on. -/
def StrsAt (w : World) (base : Nat) (v : Value) (l : List ByteArray) : Prop := w.ownsRow base 9 1 v l.length (l.map Value.string)

def bytesOf (l : List ByteArray) : List (List UInt8) := l.map (·.data.toList)
def ofBytes (l : List (List UInt8)) : List ByteArray := l.map fun s => ⟨s.toArray⟩
/-- Texts in order. -/
def sortStr (l : List ByteArray) : List ByteArray := ofBytes ((bytesOf l).mergeSort fun x y => decide (x ≤ y))

theorem enc_bytes (l : List ByteArray) : (bytesOf l).map encStr = l.map Value.string := by
  unfold bytesOf; rw [List.map_map]; rfl
theorem enc_of (l : List (List UInt8)) : l.map encStr = (ofBytes l).map Value.string := by
  unfold ofBytes; rw [List.map_map]; rfl
theorem sortStr_len (l : List ByteArray) : (sortStr l).length = l.length := by simp [sortStr, ofBytes, bytesOf]

theorem StrsAt.keep {F : Nat → Prop} {w w' : World} {base : Nat} {v : Value} {l : List ByteArray} (h : StrsAt w base v l) (u : Upd F w w') (hd : ∀ k, v.ownBlock = some k → ¬ F k) : StrsAt w' base v l := own_keep h u hd
theorem StrsAt.mono {w : World} {base base' : Nat} {v : Value} {l : List ByteArray} (h : StrsAt w base v l) (hb : base' ≤ base) : StrsAt w base' v l := by
  obtain ⟨h1, h2⟩ := h
  refine ⟨h1, ?_⟩
  rcases h2 with h2 | ⟨g, cap, cur, hv, hg, r⟩
  · exact Or.inl h2
  · exact Or.inr ⟨g, cap, cur, hv, Nat.le_trans hb hg, r⟩

theorem sortStr_any (base : Nat) (v : Value) (l : List ByteArray) (w : World) (h : StrsAt w base v l) (hl : l.length ≤ 10000000) :
    Calls Try.prog 25 #[v] w fun e w' => e = .returned (.tuple #[]) ∧ StrsAt w' base v (sortStr l) ∧ Upd (fun k => v.ownBlock = some k) w w' := by
  rcases h.2 with ⟨rfl, hn⟩ | ⟨g, cap, cur, rfl, hg, hb, h1, h2, h3, h4⟩
  · refine (Try.slices_Sort_string_none none 0 w).mono ?_
    rintro e w' ⟨rfl, rfl⟩
    have : l = [] := by cases l <;> simp_all
    subst this
    exact ⟨rfl, by simpa [sortStr, bytesOf, ofBytes] using h, Upd.refl _ _⟩
  · have hlen : (bytesOf l).length = l.length := by simp [bytesOf]
    rw [Nat.mul_one, ← enc_bytes, ← hlen] at h4
    have hH := holds_of_block hb h4
    rw [← hlen]
    refine (Try.slices_Sort_string g 0 cap (bytesOf l) w hH (Array.getElem?_eq_some_iff.1 hb).1 (by omega)).mono ?_
    rintro e w' ⟨rfl, n, os, rfl⟩
    refine ⟨rfl, ?_, (Upd.of_grown (grownBy_sorted _)).weaken (fun i _ hi => hi.symm)⟩
    have := ownsRow_sorted (n := n) (os := os) (ss := bytesOf l) (ts := (bytesOf l).mergeSort fun x y => decide (x ≤ y)) (by simp) hg hb (by omega) h2 h3
    unfold StrsAt sortStr
    rw [enc_of] at this
    have e2 : (ofBytes ((bytesOf l).mergeSort fun x y => decide (x ≤ y))).length = (bytesOf l).length := by simp [ofBytes]
    rw [e2]
    exact this
end Go.Proofs.Ytbkhpdmadhhdoaa
