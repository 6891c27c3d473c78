/- Rows of dues and pairs of numbers, opened. -/
import Derived.Test.YtokkhddbdjflhaaOpenS
import Derived.Test.YtokkhddbdjflhaaExpR
import Derived.OpenShut
import Derived.ShutString
set_option linter.unusedVariables false
set_option linter.unusedSimpArgs false
namespace Go.Proofs.Ytokkhddbdjflhaa
open Go.RowKit Go.ChangeShapes Go.WideShapes Go.Deep
theorem slice_cap {H : Type} {enc : TypeId × Value → H} {P : Program} {w : World} {base : Nat} {spare : Nat → Bool} {held : Bool} {T E : TypeId} {fuel len cap : Nat} {a : Option Addr} {x : DataW H × List MemPlace}
    (hT : P.underlying T = some (.slice E)) (h : DataW.trod enc P w base spare held fuel T [.slice a len cap] = some x) : len ≤ cap := by
  rcases open_slice hT h with ⟨hnil, _⟩ | ⟨a', len', cap', m, n, D, Q, hv, _, hlc, _⟩
  · simp at hnil; omega
  · simp only [List.cons.injEq, Value.slice.injEq, and_true] at hv
    omega
section
variable {H : Type} {enc : TypeId × Value → H} {w : World} {base : Nat} {spare : Nat → Bool} {held : Bool}
set_option maxRecDepth 100000 in
theorem open_dues {r : Reach} {b0 : Nat} {v : Value} {d : DataW H} {p : List MemPlace} (hv : Value.okWide Try.prog w r b0 31 v) (h : DataW.Trod enc Try.prog w base spare held 31 v d p) :
    ∃ l : List DueP, RowOf duec 2 w v l ∧ (∃ p c, v = .slice p l.length c ∧ l.length ≤ c) ∧ ∀ d ∈ l, d.2.size ≤ maxLen := by
  obtain ⟨a, len, cap, rfl⟩ := okWide_slice Try.underlying31 hv
  obtain ⟨fuel, hf⟩ := h
  cases a with
  | none =>
    obtain ⟨rfl, rfl⟩ := slice_nil Try.underlying31 hf
    exact ⟨[], Or.inl ⟨_, _, rfl, rfl⟩, ⟨_, _, rfl, Nat.le_refl _⟩, fun a ha => by simp at ha⟩
  | some a' =>
    obtain ⟨hm, hi⟩ := slice_cells Try.underlying31 Try.underlying26 (by kernel_rfl) (by kernel_rfl) hf
    have hcap := slice_cap Try.underlying31 hf
    have key : ∀ i, ∃ x : DueP, i < len → (w.cell? (a'.add (i * 2 + 0)) = some (.int .i64 x.1) ∧ w.cell? (a'.add (i * 2 + 1)) = some (.string x.2)) ∧ x.2.size ≤ maxLen := by
      intro i
      by_cases hil : i < len
      · obtain ⟨v0, y0, _, c0, t0⟩ := hi i hil 0 _ rfl
        obtain ⟨v1, y1, _, c1, t1⟩ := hi i hil 1 _ rfl
        obtain ⟨x0, e0, _, _⟩ := DataW.trod_int Try.underlying2 t0
        obtain ⟨x1, e1, _, z2⟩ := DataW.trod_string Try.underlying9 t1
        simp at e0 e1
        subst e0 e1
        exact ⟨⟨x0, x1⟩, fun _ => ⟨⟨c0, c1⟩, z2⟩⟩
      · exact ⟨⟨0, ByteArray.empty⟩, fun h => absurd h hil⟩
    obtain ⟨g, hg⟩ := Classical.axiomOfChoice key
    refine ⟨(List.range len).map g, rowOf_mk (by omega) g hm (fun i hil j hj => ?_), ⟨some a', cap, by simp, by simpa using hcap⟩, fun x hx => ?_⟩
    · obtain ⟨⟨h0, h1⟩, _⟩ := hg i hil
      have : j = 0 ∨ j = 1 := by omega
      rcases this with rfl | rfl
      · exact ⟨_, rfl, h0⟩
      · exact ⟨_, rfl, h1⟩
    · simp at hx
      obtain ⟨i, hil, rfl⟩ := hx
      exact (hg i hil).2
set_option maxRecDepth 100000 in
theorem open_pair {r : Reach} {b0 : Nat} {v : Value} {d : DataW H} {p : List MemPlace} (hv : Value.okWide Try.prog w r b0 32 v) (h : DataW.Trod enc Try.prog w base spare held 32 v d p) :
    ∃ n0 n1 : Int, v = .agg #[.int .i64 n0, .int .i64 n1] := by
  obtain ⟨cs, rfl, hsz, _⟩ : ∃ cs, v = .agg cs ∧ cs.size = Try.prog.cellsOf 32 ∧ Row.okWide Try.prog w r b0 32 cs := by
    simpa [Value.okWide, Try.underlying32] using hv
  rw [show Try.prog.cellsOf 32 = 2 by kernel_rfl] at hsz
  obtain ⟨fuel, hf⟩ := h
  obtain ⟨xs, m, _, _, _, hxs, hi⟩ := DataW.trod_array Try.underlying32 hf
  rw [show Try.prog.cellsOf 2 = 1 by kernel_rfl] at hi
  obtain ⟨l⟩ := cs
  match l, hsz, hi with
  | [c0, c1], _, hi =>
    have h0 := hi 0 (by omega)
    have h1 := hi 1 (by omega)
    simp [Value.cells] at h0 h1
    cases e0 : DataW.trod enc Try.prog w base spare held m 2 [c0] with
    | none => rw [e0] at h0; have := List.getElem?_eq_none_iff.1 h0.symm; omega
    | some y0 =>
      cases e1 : DataW.trod enc Try.prog w base spare held m 2 [c1] with
      | none => rw [e1] at h1; have := List.getElem?_eq_none_iff.1 h1.symm; omega
      | some y1 =>
        obtain ⟨x0, q0, _, _⟩ := DataW.trod_int Try.underlying2 e0
        obtain ⟨x1, q1, _, _⟩ := DataW.trod_int Try.underlying2 e1
        simp at q0 q1
        exact ⟨x0, x1, by rw [q0, q1]⟩
end
end Go.Proofs.Ytokkhddbdjflhaa
