/- The acts of layer 14, opened; what the example is. -/
import Derived.Test.YthgojhchakclcaaOpenS
import Derived.Test.YthgojhchakclcaaKeyL
set_option linter.unusedVariables false
set_option linter.unusedSimpArgs false
namespace Go.Proofs.Ythgojhchakclcaa
open Go.RowKit Go.ChangeShapes Go.WideShapes Go.Deep

structure Act14 where
  kind : Int
  id : Int
  key : ByteArray
def act14c (a : Act14) : List Value := [.int .i64 a.kind, .int .i64 a.id, .string a.key]
theorem act14_cells {w : World} {p : Option Addr} {cap : Nat} {l : List Act14} (h : RowOf act14c 3 w (.slice p l.length cap) l) {k : Nat} (hk : k < l.length) :
    ∃ b off a, p = some ⟨b, off, none⟩ ∧ b < w.heap.size ∧ l[k]? = some a ∧ w.cell? ⟨b, off + k * 3, none⟩ = some (.int .i64 a.kind) ∧ w.cell? ⟨b, off + k * 3 + 1, none⟩ = some (.int .i64 a.id) ∧ w.cell? ⟨b, off + k * 3 + 2, none⟩ = some (.string a.key) := by
  rcases h with ⟨_, _, _, e⟩ | ⟨b, off, c, e, hb, _, hc⟩
  · rw [e] at hk; simp at hk
  · simp only [Value.slice.injEq] at e
    have hx : l[k]? = some l[k] := List.getElem?_eq_getElem hk
    refine ⟨b, off, l[k], e.1, hb, hx, ?_, ?_, ?_⟩
    · have := hc k _ hx 0 (by omega); rw [Nat.add_zero] at this; simpa [act14c] using this
    · have := hc k _ hx 1 (by omega); rw [← Nat.add_assoc] at this; simpa [act14c] using this
    · have := hc k _ hx 2 (by omega); rw [← Nat.add_assoc] at this; simpa [act14c] using this
section
variable {H : Type} {enc : TypeId × Value → H} {w : World} {base : Nat} {spare : Nat → Bool} {held : Bool}
theorem open_acts14 {r : Reach} {b0 : Nat} {v : Value} {d : DataW H} {p : List MemPlace} (hv : Value.okWide Try.prog w r b0 22 v) (h : DataW.Trod enc Try.prog w base spare held 22 v d p) :
    ∃ l : List Act14, RowOf act14c 3 w v l ∧ ∀ a ∈ l, a.key.size ≤ maxLen := by
  obtain ⟨a, len, cap, rfl⟩ := okWide_slice Try.underlying22 hv
  obtain ⟨fuel, hf⟩ := h
  cases a with
  | none =>
    obtain ⟨rfl, rfl⟩ := slice_nil Try.underlying22 hf
    exact ⟨[], Or.inl ⟨_, _, rfl, rfl⟩, fun a ha => by simp at ha⟩
  | some a' =>
    obtain ⟨hm, hi⟩ := slice_cells Try.underlying22 Try.underlying28 (by kernel_rfl) (by kernel_rfl) hf
    have key : ∀ i, ∃ x : Act14, i < len → (w.cell? (a'.add (i * 3 + 0)) = some (.int .i64 x.kind) ∧ w.cell? (a'.add (i * 3 + 1)) = some (.int .i64 x.id) ∧ w.cell? (a'.add (i * 3 + 2)) = some (.string x.key)) ∧ x.key.size ≤ maxLen := by
      intro i
      by_cases hil : i < len
      · obtain ⟨v0, y0, _, c0, t0⟩ := hi i hil 0 _ rfl
        obtain ⟨v1, y1, _, c1, t1⟩ := hi i hil 1 _ rfl
        obtain ⟨v2, y2, _, c2, t2⟩ := hi i hil 2 _ rfl
        obtain ⟨x0, e0, _, _⟩ := DataW.trod_int Try.underlying3 t0
        obtain ⟨x1, e1, _, _⟩ := DataW.trod_int Try.underlying3 t1
        obtain ⟨x2, e2, _, z2⟩ := DataW.trod_string Try.underlying9 t2
        simp at e0 e1 e2
        subst e0 e1 e2
        exact ⟨⟨x0, x1, x2⟩, fun _ => ⟨⟨c0, c1, c2⟩, z2⟩⟩
      · exact ⟨⟨0, 0, ByteArray.empty⟩, fun h => absurd h hil⟩
    obtain ⟨g, hg⟩ := Classical.axiomOfChoice key
    refine ⟨(List.range len).map g, rowOf_mk (by omega) g hm (fun i hil j hj => ?_), fun x hx => ?_⟩
    · obtain ⟨⟨h0, h1, h2⟩, _⟩ := hg i hil
      have : j = 0 ∨ j = 1 ∨ j = 2 := by omega
      rcases this with rfl | rfl | rfl
      · exact ⟨_, rfl, h0⟩
      · exact ⟨_, rfl, h1⟩
      · exact ⟨_, rfl, h2⟩
    · simp at hx
      obtain ⟨i, hil, rfl⟩ := hx
      exact (hg i hil).2
end
end Go.Proofs.Ythgojhchakclcaa
