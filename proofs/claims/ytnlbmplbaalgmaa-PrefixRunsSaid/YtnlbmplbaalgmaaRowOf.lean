/- A slice of things of k cells each, that is only read. -/
import Derived.Test.YtnlbmplbaalgmaaHeap
set_option linter.unusedVariables false
set_option linter.unusedSimpArgs false
namespace Go.Proofs.Ytnlbmplbaalgmaa
open Go.RowKit

/-- v is a slice that reads as l, each thing by its k cells. -/
def RowOf {α : Type} (f : α → List Value) (k : Nat) (w : World) (v : Value) (l : List α) : Prop :=
  (∃ p cap, v = .slice p 0 cap ∧ l = []) ∨
  ∃ b off cap, v = .slice (some ⟨b, off, none⟩) l.length cap ∧ b < w.heap.size ∧ l.length ≤ maxLen ∧ ∀ i a, l[i]? = some a → ∀ j, j < k → w.cell? ⟨b, off + (i * k + j), none⟩ = (f a)[j]?

theorem RowOf.keep {α : Type} {f : α → List Value} {k : Nat} {w w' : World} {v : Value} {l : List α} (h : RowOf f k w v l) {F : Nat → Prop} (u : Upd F w w') (hd : ∀ b, b < w.heap.size → v.ownBlock = some b → ¬ F b) : RowOf f k w' v l := by
  rcases h with h | ⟨b, off, cap, rfl, hb, hl, hc⟩
  · exact Or.inl h
  · refine Or.inr ⟨b, off, cap, rfl, Nat.lt_of_lt_of_le hb u.size, hl, fun i a hi j hj => ?_⟩
    rw [u.cell (p := ⟨b, off + (i * k + j), none⟩) hb (hd b hb rfl)]
    exact hc i a hi j hj
theorem RowOf.len {α : Type} {f : α → List Value} {k : Nat} {w : World} {v : Value} {l : List α} (h : RowOf f k w v l) : ∃ p cap, v = .slice p l.length cap ∧ l.length ≤ maxLen := by
  rcases h with ⟨p, cap, rfl, rfl⟩ | ⟨b, off, cap, rfl, _, hl, _⟩
  · exact ⟨p, cap, rfl, by unfold maxLen; simp⟩
  · exact ⟨_, cap, rfl, hl⟩

def strc (s : ByteArray) : List Value := [.string s]
end Go.Proofs.Ytnlbmplbaalgmaa
