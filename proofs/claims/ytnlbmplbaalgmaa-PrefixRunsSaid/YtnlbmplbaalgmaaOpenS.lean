/- An argument that is a slice of structs of one-cell fields, opened to its cells. -/
import Derived.Test.YtnlbmplbaalgmaaRowOf
import Derived.Deep.Slices
import Derived.Deep.Fields
import Derived.ChangeSame
import Derived.ProofKit
set_option linter.unusedVariables false
set_option linter.unusedSimpArgs false
namespace Go.Proofs.Ytnlbmplbaalgmaa
open Go.RowKit Go.ChangeShapes Go.WideShapes Go.Deep

/-- A slice of structs whose fields are one cell each: its length fits, and field j of element i lies in a cell of its own, and is read by that field's type. -/
theorem slice_cells {H : Type} {enc : TypeId × Value → H} {P : Program} {w : World} {base : Nat} {spare : Nat → Bool} {held : Bool} {T E : TypeId} {fs : Array Field} {fuel len cap : Nat} {a : Addr} {x : DataW H × List MemPlace}
    (hT : P.underlying T = some (.slice E)) (hE : P.underlying E = some (.struct fs)) (h1 : oneCellFields P fs = true) (hn : P.cellsOf E = fs.size)
    (h : DataW.trod enc P w base spare held fuel T [.slice (some a) len cap] = some x) :
    len ≤ maxLen ∧ ∀ i, i < len → ∀ j f, fs[j]? = some f → ∃ v y k, w.cell? (a.add (i * fs.size + j)) = some v ∧ DataW.trod enc P w base spare held k f.type [v] = some y := by
  rcases open_slice hT h with ⟨hnil, _⟩ | ⟨a', len', cap', m, n, D, Q, hv, _, hlc, hcm, hm, _, hall⟩
  · simp at hnil
  · simp only [List.cons.injEq, Value.slice.injEq, Option.some.injEq, and_true] at hv
    obtain ⟨rfl, rfl, rfl⟩ := hv
    have hlm : len ≤ m := by rw [hm]; split <;> omega
    refine ⟨Nat.le_trans hlc hcm, fun i hi j f hj => ?_⟩
    have hjs : j < fs.size := (Array.getElem?_eq_some_iff.1 hj).1
    obtain ⟨row, hrow, hread⟩ := hall i (Nat.lt_of_lt_of_le hi hlm)
    obtain ⟨_, hsize, hcells⟩ := World.cells?_some hrow
    obtain ⟨_, k, _, _, _, _, hfield⟩ := DataW.trod_struct hE hread
    obtain ⟨hoff, hone⟩ := hone_of h1 j f hj
    have hjr : j < row.length := by omega
    have hf := hfield j f hj
    rw [hoff, hone, List.drop_eq_getElem_cons hjr] at hf
    simp only [List.take_succ_cons, List.take_zero] at hf
    have hc := hcells j (by omega)
    rw [hn, Go.Deep.add_add, List.getElem?_eq_getElem hjr] at hc
    cases hy : DataW.trod enc P w base spare held k f.type [row[j]] with
    | none =>
      rw [hy] at hf
      have := (List.getElem?_eq_none_iff.1 hf.symm)
      omega
    | some y => exact ⟨row[j], y, k, hc, hy⟩

theorem slice_nil {H : Type} {enc : TypeId × Value → H} {P : Program} {w : World} {base : Nat} {spare : Nat → Bool} {held : Bool} {T E : TypeId} {fuel len cap : Nat} {x : DataW H × List MemPlace}
    (hT : P.underlying T = some (.slice E)) (h : DataW.trod enc P w base spare held fuel T (Value.slice none len cap).cells.toList = some x) : len = 0 ∧ cap = 0 := by
  rcases open_slice hT h with ⟨hnil, _⟩ | ⟨a', _, _, _, _, _, _, hv, _⟩
  · simpa [Value.cells] using hnil
  · simp [Value.cells] at hv

theorem rowOf_mk {α : Type} {f : α → List Value} {k : Nat} (hk : 0 < k) {w : World} {a : Addr} {len cap : Nat} (g : Nat → α) (hm : len ≤ maxLen)
    (hc : ∀ i, i < len → ∀ j, j < k → ∃ v, (f (g i))[j]? = some v ∧ w.cell? (a.add (i * k + j)) = some v) : RowOf f k w (.slice (some a) len cap) ((List.range len).map g) := by
  obtain ⟨b, off, spot⟩ := a
  by_cases h0 : len = 0
  · subst h0; exact Or.inl ⟨_, _, rfl, rfl⟩
  · obtain ⟨v, _, h1⟩ := hc 0 (by omega) 0 hk
    have hspot : spot = none := by simpa [Addr.add] using World.cell?_spot h1
    subst hspot
    have hb : b < w.heap.size := by
      by_cases hb : b < w.heap.size
      · exact hb
      · simp [World.cell?, Addr.add, Array.getElem?_eq_none (by omega : w.heap.size ≤ b)] at h1
    refine Or.inr ⟨b, off, cap, by simp, hb, by simpa using hm, fun i x hi j hj => ?_⟩
    have hil : i < len := by
      have := (List.getElem?_eq_some_iff.1 hi).1
      simpa using this
    have hx : x = g i := by
      have : ((List.range len).map g)[i]? = some (g i) := by simp [hil]
      rw [this] at hi; exact (Option.some.inj hi).symm
    subst hx
    obtain ⟨v, h1, h2⟩ := hc i hil j hj
    have e : (⟨b, off, none⟩ : Addr).add (i * k + j) = ⟨b, off + (i * k + j), none⟩ := by unfold Addr.add; split <;> simp_all
    rw [e] at h2
    rw [h2, h1]
end Go.Proofs.Ytnlbmplbaalgmaa
