/- The acts of layer 15, opened. -/
import Derived.Test.YtnlbmplbaalgmaaOpenS
import Derived.Test.YtnlbmplbaalgmaaRadV
set_option linter.unusedVariables false
set_option linter.unusedSimpArgs false
namespace Go.Proofs.Ytnlbmplbaalgmaa
open Go.RowKit Go.ChangeShapes Go.WideShapes Go.Deep

structure Act15 where
  kind : Int
  id : Int
  key : Txt
def act15c (a : Act15) : List Value := [.int .i64 a.kind, .int .i64 a.id, .string (ofL a.key)]
theorem act15_cells {w : World} {p : Option Addr} {cap : Nat} {l : List Act15} (h : RowOf act15c 3 w (.slice p l.length cap) l) {k : Nat} (hk : k < l.length) :
    ∃ b off a, p = some ⟨b, off, none⟩ ∧ b < w.heap.size ∧ l[k]? = some a ∧ w.cell? ⟨b, off + k * 3, none⟩ = some (.int .i64 a.kind) ∧ w.cell? ⟨b, off + k * 3 + 1, none⟩ = some (.int .i64 a.id) ∧ w.cell? ⟨b, off + k * 3 + 2, none⟩ = some (.string (ofL a.key)) := by
  rcases h with ⟨_, _, _, e⟩ | ⟨b, off, c, e, hb, _, hc⟩
  · rw [e] at hk; simp at hk
  · simp only [Value.slice.injEq] at e
    have hx : l[k]? = some l[k] := List.getElem?_eq_getElem hk
    refine ⟨b, off, l[k], e.1, hb, hx, ?_, ?_, ?_⟩
    · have := hc k _ hx 0 (by omega); rw [Nat.add_zero] at this; simpa [act15c] using this
    · have := hc k _ hx 1 (by omega); rw [← Nat.add_assoc] at this; simpa [act15c] using this
    · have := hc k _ hx 2 (by omega); rw [← Nat.add_assoc] at this; simpa [act15c] using this
section
variable {H : Type} {enc : TypeId × Value → H} {w : World} {base : Nat} {spare : Nat → Bool} {held : Bool}
set_option maxRecDepth 100000 in
theorem open_acts15 {r : Reach} {b0 : Nat} {v : Value} {d : DataW H} {p : List MemPlace} (hv : Value.okWide Try.prog w r b0 50 v) (h : DataW.Trod enc Try.prog w base spare held 50 v d p) :
    ∃ l : List Act15, RowOf act15c 3 w v l ∧ ∀ a ∈ l, a.key.length ≤ maxLen := by
  obtain ⟨a, len, cap, rfl⟩ := okWide_slice Try.underlying50 hv
  obtain ⟨fuel, hf⟩ := h
  cases a with
  | none =>
    obtain ⟨rfl, rfl⟩ := slice_nil Try.underlying50 hf
    exact ⟨[], Or.inl ⟨_, _, rfl, rfl⟩, fun a ha => by simp at ha⟩
  | some a' =>
    obtain ⟨hm, hi⟩ := slice_cells Try.underlying50 Try.underlying54 (by kernel_rfl) (by kernel_rfl) hf
    have key : ∀ i, ∃ x : Act15, i < len → (w.cell? (a'.add (i * 3 + 0)) = some (.int .i64 x.kind) ∧ w.cell? (a'.add (i * 3 + 1)) = some (.int .i64 x.id) ∧ w.cell? (a'.add (i * 3 + 2)) = some (.string (ofL x.key))) ∧ x.key.length ≤ maxLen := by
      intro i
      by_cases hil : i < len
      · obtain ⟨v0, y0, _, c0, t0⟩ := hi i hil 0 _ rfl
        obtain ⟨v1, y1, _, c1, t1⟩ := hi i hil 1 _ rfl
        obtain ⟨v2, y2, _, c2, t2⟩ := hi i hil 2 _ rfl
        obtain ⟨x0, e0, _, _⟩ := DataW.trod_int Try.underlying3 t0
        obtain ⟨x1, e1, _, _⟩ := DataW.trod_int Try.underlying3 t1
        obtain ⟨x2, e2, _, z2⟩ := DataW.trod_string Try.underlying9 t2
        simp at e0 e1 e2
        subst e0 e1 e2
        exact ⟨⟨x0, x1, x2.toList⟩, fun _ => ⟨⟨c0, c1, by rw [ofL_of]; exact c2⟩, by have := ofL_size x2.toList; rw [ofL_of] at this; show x2.toList.length ≤ _; omega⟩⟩
      · exact ⟨⟨0, 0, []⟩, fun h => absurd h hil⟩
    obtain ⟨g, hg⟩ := Classical.axiomOfChoice key
    refine ⟨(List.range len).map g, rowOf_mk (by omega) g hm (fun i hil j hj => ?_), fun x hx => ?_⟩
    · obtain ⟨⟨h0, h1, h2⟩, _⟩ := hg i hil
      have : j = 0 ∨ j = 1 ∨ j = 2 := by omega
      rcases this with rfl | rfl | rfl
      · exact ⟨_, rfl, h0⟩
      · exact ⟨_, rfl, h1⟩
      · exact ⟨_, rfl, h2⟩
    · simp at hx
      obtain ⟨i, hil, rfl⟩ := hx
      exact (hg i hil).2
end
end Go.Proofs.Ytnlbmplbaalgmaa
