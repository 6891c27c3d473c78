/- Maps from texts to blocks. -/
import Derived.Test.YthgojhchakclcaaMap
import Derived.Test.YthgojhchakclcaaRows
set_option linter.unusedVariables false
set_option linter.unusedSimpArgs false
namespace Go.Proofs.Ythgojhchakclcaa
open Go.RowKit

instance : LawfulBEq ByteArray where
  eq_of_beq {a b} h := by rw [bytes_beq] at h; exact of_decide_eq_true h
  rfl {a} := by rw [bytes_beq]; exact decide_eq_true rfl
def strEnc (s : ByteArray) : Value := .string s
theorem keyS : KeyOk Try.prog 9 strEnc := stringKey Try.underlying9
def pm (m : List (ByteArray × Nat)) : List (ByteArray × Value) := m.map fun p => (p.1, ptr p.2)
theorem pm_get (m : List (ByteArray × Nat)) (k : ByteArray) : aget (pm m) k = (aget m k).map ptr := by
  induction m with
  | nil => rfl
  | cons p r ih =>
    simp only [pm, List.map_cons, aget] at ih ⊢
    split
    · rfl
    · exact ih
theorem pm_set (m : List (ByteArray × Nat)) (k : ByteArray) (n : Nat) : aset (pm m) k (ptr n) = pm (aset m k n) := by
  induction m with
  | nil => rfl
  | cons p r ih =>
    simp only [pm, List.map_cons, aset] at ih ⊢
    split
    · rfl
    · rw [ih]; rfl
theorem pm_del (m : List (ByteArray × Nat)) (k : ByteArray) : adel (pm m) k = pm (adel m k) := by
  induction m with
  | nil => rfl
  | cons p r ih =>
    simp only [pm, List.map_cons, adel] at ih ⊢
    split
    · rfl
    · rw [ih]; rfl
theorem pm_len (m : List (ByteArray × Nat)) : (pm m).length = m.length := by simp [pm]

def lv (o : Option Nat) : Value := .pointer (o.map fun b => ⟨b, 0, none⟩)
theorem MapAt.notCells {κ : Type} {enc : κ → Value} {w : World} {b : Nat} {m : List (κ × Value)} (h : MapAt enc w b m) {b' : Nat} {cs : Array Value} {T : TypeId} (hb : w.heap[b']? = some (.cells cs T (0, 0))) : b ≠ b' := by
  rintro rfl
  obtain ⟨es, c, he, _⟩ := h
  rw [hb] at he; injection he with he; cases he
/-- F' is of F's blocks and of new ones. -/
def FromF (F F' : Nat → Prop) (w : World) : Prop := ∀ k, F' k → F k ∨ w.heap.size ≤ k
theorem FromF.trans {F G H : Nat → Prop} {w w1 : World} (h : FromF F G w) (k : FromF G H w1) (hs : w.heap.size ≤ w1.heap.size) : FromF F H w := fun i hi => by
  rcases k i hi with g | g
  · exact h i g
  · exact Or.inr (Nat.le_trans hs g)
theorem FromF.lift {F G : Nat → Prop} {w w1 w2 : World} (h : FromF F G w) (u : Upd F w w1) (k : Upd G w1 w2) : Upd F w w2 :=
  u.trans k fun i hi hg => by
    rcases h i hg with g | g
    · exact g
    · omega
theorem FromF.refl (F : Nat → Prop) (w : World) : FromF F F w := fun _ h => Or.inl h
theorem subset_len {α : Type} [DecidableEq α] : ∀ {l m : List α}, l.Nodup → (∀ x ∈ l, x ∈ m) → l.length ≤ m.length
  | [], m, _, _ => Nat.zero_le _
  | a :: l, m, h, hs => by
    obtain ⟨h1, h2⟩ := List.nodup_cons.1 h
    have ha := hs a (by simp)
    obtain ⟨s, t, rfl⟩ := List.append_of_mem ha
    have := subset_len (l := l) (m := s ++ t) h2 (fun x hx => by
      have := hs x (by simp [hx])
      simp only [List.mem_append, List.mem_cons] at this ⊢
      rcases this with g | g | g
      · exact Or.inl g
      · exact absurd (g ▸ hx) h1
      · exact Or.inr g)
    simp only [List.length_append, List.length_cons] at this ⊢; omega
end Go.Proofs.Ythgojhchakclcaa
