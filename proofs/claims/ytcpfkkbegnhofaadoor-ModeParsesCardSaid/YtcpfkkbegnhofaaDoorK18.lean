/- Arguments that are modes, or rows of texts, opened. -/
import Derived.Test.YtcpfkkbegnhofaaDoorK10
import Derived.Test.YtcpfkkbegnhofaaDoorK17
set_option linter.unusedVariables false
set_option linter.unusedSimpArgs false
set_option maxRecDepth 100000
namespace Go.Proofs.YtcpfkkbegnhofaaDoor
open Go.RowKit Go.ChangeShapes Go.WideShapes Go.Deep

section
variable {H : Type} {enc : TypeId × Value → H} {w : World} {base : Nat} {spare : Nat → Bool} {held : Bool}
/-- A field of a struct. -/
theorem fieldM {P : Program} {E : TypeId} {fs : Array Field} {n : Nat} {row : List Value} {y : DataW H × List MemPlace} (hE : P.underlying E = some (.struct fs)) (h : DataW.trod enc P w base spare held n E row = some y) {j : Nat} {f : Field} (hj : fs[j]? = some f) {T : TypeId} {o s : Nat} (hT : f.type = T) (ho : f.offset = o) (hs : P.cellsOf T = s) :
    ∃ k z, DataW.trod enc P w base spare held k T ((row.drop o).take s) = some z := by
  subst hT ho hs
  obtain ⟨xs, k, _, _, _, hl, hf⟩ := DataW.trod_struct hE h
  have h1 := hf j f hj
  have hjs : j < fs.size := (Array.getElem?_eq_some_iff.1 hj).1
  rw [List.getElem?_eq_getElem (by omega)] at h1
  exact ⟨k, _, h1⟩
/-- A slice of texts in a cell. -/
theorem rwt_of_trod {n : Nat} {v : Value} {y : DataW H × List MemPlace} (h : DataW.trod enc Tryd.prog w base spare held n 22 [v] = some y) : ∃ p c, ∃ l : List Txt, v = .slice p l.length c ∧ RwT w p c l ∧ ∀ t ∈ l, t.length ≤ maxLen := by
  rcases open_slice1 Tryd.underlying22 (by kernel_rfl) h with ⟨e, _⟩ | ⟨a', len', cap', m, n, V, D, Pl, e, hb, hlc, hcm, hm, _, hall⟩
  · simp at e
    subst e
    exact ⟨_, _, [], rfl, ⟨Or.inl ⟨_, _, rfl, rfl⟩, by simp, by unfold maxLen; omega⟩, fun a ha => by simp at ha⟩
  · simp at e
    subst e
    have hlm : len' ≤ m := by rw [hm]; split <;> omega
    have key : ∀ i, ∃ x : Txt, i < len' → w.cell? (a'.add (i * 1 + 0)) = some (.string (ofL x)) ∧ x.length ≤ maxLen := by
      intro i
      by_cases hil : i < len'
      · obtain ⟨c1, t1⟩ := hall i (Nat.lt_of_lt_of_le hil hlm)
        obtain ⟨x1, e1, _, z2⟩ := DataW.trod_string Tryd.underlying9 t1
        simp at e1
        refine ⟨x1.toList, fun _ => ⟨?_, ?_⟩⟩
        · rw [Nat.mul_one, Nat.add_zero, c1, e1, ofL_of]
        · have := ofL_size x1.toList; rw [ofL_of] at this; omega
      · exact ⟨[], fun h => absurd h hil⟩
    obtain ⟨g, hg⟩ := Classical.axiomOfChoice key
    have hlen : ((List.range len').map g).length = len' := by simp
    refine ⟨some a', cap', (List.range len').map g, by rw [hlen], ⟨?_, by rw [hlen]; exact hlc, hcm⟩, fun x hx => ?_⟩
    · rw [hlen]
      exact rowOf_mk (by omega) g (Nat.le_trans hlc hcm) (fun i hil j hj => by
        have : j = 0 := by omega
        subst this
        exact ⟨_, rfl, (hg i hil).1⟩)
    · simp at hx
      obtain ⟨i, hil, rfl⟩ := hx
      exact (hg i hil).2
theorem list7 {α : Type} {l : List α} (h : l.length = 7) : ∃ a b c d e f g, l = [a, b, c, d, e, f, g] := by
  match l, h with
  | [a, b, c, d, e, f, g], _ => exact ⟨_, _, _, _, _, _, _, rfl⟩
theorem open_mode {r : Reach} {b0 : Nat} {v : Value} {d : DataW H} {p : List MemPlace} (hv : Value.okWide Tryd.prog w r b0 24 v) (h : DataW.Trod enc Tryd.prog w base spare held 24 v d p) :
    ∃ (m : MD) (q : Option Addr) (c : Nat), v = mdV m (.slice q m.ps.length c) ∧ RwT w q c m.ps ∧ ∀ t ∈ m.ps, t.length ≤ maxLen := by
  have ci : Tryd.prog.cellsOf 3 = 1 := by kernel_rfl
  have cbo : Tryd.prog.cellsOf 4 = 1 := by kernel_rfl
  have cs : Tryd.prog.cellsOf 22 = 1 := by kernel_rfl
  have cm : Tryd.prog.cellsOf 24 = 7 := by kernel_rfl
  obtain ⟨row, rfl, hsz⟩ := okWide_struct Tryd.underlying24 hv
  obtain ⟨fuel, hf⟩ := h
  rw [cm] at hsz
  obtain ⟨l, rfl⟩ : ∃ l : List Value, row = l.toArray := ⟨row.toList, by simp⟩
  obtain ⟨a, b, c, dd, e, f, g, rfl⟩ := list7 (l := l) (by simpa using hsz)
  have hf : DataW.trod enc Tryd.prog w base spare held fuel 24 [a, b, c, dd, e, f, g] = some (d, p) := hf
  obtain ⟨q0, p0, h20⟩ := fieldM Tryd.underlying24 hf (j := 0) rfl (T := 4) (o := 0) rfl rfl cbo
  obtain ⟨q1, p1, h21⟩ := fieldM Tryd.underlying24 hf (j := 1) rfl (T := 4) (o := 1) rfl rfl cbo
  obtain ⟨q2, p2, h22⟩ := fieldM Tryd.underlying24 hf (j := 2) rfl (T := 4) (o := 2) rfl rfl cbo
  obtain ⟨q3, p3, h23⟩ := fieldM Tryd.underlying24 hf (j := 3) rfl (T := 4) (o := 3) rfl rfl cbo
  obtain ⟨q4, p4, h24⟩ := fieldM Tryd.underlying24 hf (j := 4) rfl (T := 4) (o := 4) rfl rfl cbo
  obtain ⟨q5, p5, h25⟩ := fieldM Tryd.underlying24 hf (j := 5) rfl (T := 3) (o := 5) rfl rfl ci
  obtain ⟨q6, p6, h26⟩ := fieldM Tryd.underlying24 hf (j := 6) rfl (T := 22) (o := 6) rfl rfl cs
  simp only [List.drop_succ_cons, List.drop_zero, List.take_succ_cons, List.take_zero] at h20 h21 h22 h23 h24 h25 h26
  obtain ⟨b0, e20, _⟩ := DataW.trod_bool Tryd.underlying4 h20
  obtain ⟨b1, e21, _⟩ := DataW.trod_bool Tryd.underlying4 h21
  obtain ⟨b2, e22, _⟩ := DataW.trod_bool Tryd.underlying4 h22
  obtain ⟨b3, e23, _⟩ := DataW.trod_bool Tryd.underlying4 h23
  obtain ⟨b4, e24, _⟩ := DataW.trod_bool Tryd.underlying4 h24
  obtain ⟨x2, e25, _, _⟩ := DataW.trod_int Tryd.underlying3 h25
  obtain ⟨qq, cc, ps, e26, r26, s26⟩ := rwt_of_trod h26
  simp only [List.cons.injEq, and_true] at e20 e21 e22 e23 e24 e25
  subst e20 e21 e22 e23 e24 e25 e26
  exact ⟨⟨b0, b1, b2, b3, b4, x2, ps⟩, qq, cc, rfl, r26, s26⟩
theorem open_rwt {r : Reach} {b0 : Nat} {v : Value} {d : DataW H} {p : List MemPlace} (hv : Value.okWide Tryd.prog w r b0 22 v) (h : DataW.Trod enc Tryd.prog w base spare held 22 v d p) :
    ∃ (l : List Txt) (q : Option Addr) (c : Nat), v = .slice q l.length c ∧ RwT w q c l ∧ ∀ t ∈ l, t.length ≤ maxLen := by
  obtain ⟨a, len, cap, rfl⟩ := okWide_slice Tryd.underlying22 hv
  obtain ⟨fuel, hf⟩ := h
  obtain ⟨q, c, l, h1, h2, h3⟩ := rwt_of_trod (v := .slice a len cap) hf
  exact ⟨l, q, c, h1, h2, h3⟩
end
end Go.Proofs.YtcpfkkbegnhofaaDoor
