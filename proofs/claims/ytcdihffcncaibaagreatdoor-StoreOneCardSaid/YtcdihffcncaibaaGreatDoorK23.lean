/- Arguments: items, two numbers, acts, opened. -/
import Derived.Test.YtcdihffcncaibaaGreatDoorK22
import Derived.Test.YtcdihffcncaibaaGreatDoorK21
import Derived.OpenShut
import Derived.ShutString
set_option linter.unusedVariables false
set_option linter.unusedSimpArgs false
set_option maxRecDepth 100000
namespace Go.Proofs.YtcdihffcncaibaaGreatDoor
open Go.RowKit Go.ChangeShapes Go.WideShapes Go.Deep

section
variable {H : Type} {enc : TypeId × Value → H} {P : Program} {w : World} {base : Nat} {spare : Nat → Bool} {held : Bool}
/-- A slice of structs, opened to its rows of cells. -/
theorem rowsE {T E : TypeId} {fuel len cap : Nat} {a : Addr} {x : DataW H × List MemPlace} (hT : P.underlying T = some (.slice E)) (h : DataW.trod enc P w base spare held fuel T [.slice (some a) len cap] = some x) :
    len ≤ maxLen ∧ ∀ i, i < len → ∃ row y k, row.length = P.cellsOf E ∧ (∀ j, j < P.cellsOf E → w.cell? (a.add (i * P.cellsOf E + j)) = row[j]?) ∧ DataW.trod enc P w base spare held k E row = some y := by
  rcases open_slice hT h with ⟨hnil, _⟩ | ⟨a', len', cap', m, n, D, Q, hv, _, hlc, hcm, hm, _, hall⟩
  · simp at hnil
  · simp only [List.cons.injEq, Value.slice.injEq, Option.some.injEq, and_true] at hv
    obtain ⟨rfl, rfl, rfl⟩ := hv
    have hlm : len ≤ m := by rw [hm]; split <;> omega
    refine ⟨Nat.le_trans hlc hcm, fun i hi => ?_⟩
    obtain ⟨row, hrow, hread⟩ := hall i (Nat.lt_of_lt_of_le hi hlm)
    obtain ⟨_, hsize, hcells⟩ := World.cells?_some hrow
    exact ⟨row, _, n, hsize, fun j hj => by rw [← hcells j (by omega), Go.Deep.add_add], hread⟩
/-- A field of a struct. -/
theorem fieldE {E : TypeId} {fs : Array Field} {n : Nat} {row : List Value} {y : DataW H × List MemPlace} (hE : P.underlying E = some (.struct fs)) (h : DataW.trod enc P w base spare held n E row = some y) {j : Nat} {f : Field} (hj : fs[j]? = some f) {T : TypeId} (hT : f.type = T) {o : Nat} (ho : f.offset = o) {s : Nat} (hs : P.cellsOf T = s) :
    ∃ k z, DataW.trod enc P w base spare held k T ((row.drop o).take s) = some z := by
  subst hT ho hs
  obtain ⟨xs, k, _, _, _, hl, hf⟩ := DataW.trod_struct hE h
  have h1 := hf j f hj
  have hjs : j < fs.size := (Array.getElem?_eq_some_iff.1 hj).1
  rw [List.getElem?_eq_getElem (by omega)] at h1
  exact ⟨k, _, h1⟩
/-- A slice of fields in a cell. -/
theorem flds_of_trod {n : Nat} {v : Value} {y : DataW H × List MemPlace} (h : DataW.trod enc Tryz.prog w base spare held n 22 [v] = some y) : ∃ l : List Fd, RowOf fdc 2 w v l := by
  rcases open_slice Tryz.underlying22 h with ⟨hnil, _⟩ | ⟨a', len', cap', m, n', D, Q, hv, _, hlc, hcm, hm, _, hall⟩
  · simp at hnil
    subst hnil
    exact ⟨[], Or.inl ⟨_, _, rfl, rfl⟩⟩
  · simp only [List.cons.injEq, and_true] at hv
    subst hv
    obtain ⟨hm, hi⟩ := slice_cells Tryz.underlying22 Tryz.underlying82 (by kernel_rfl) (by kernel_rfl) h
    have key : ∀ i, ∃ x : Fd, i < len' → w.cell? (a'.add (i * 2 + 0)) = some (.string x.1) ∧ w.cell? (a'.add (i * 2 + 1)) = some (.string x.2) := by
      intro i
      by_cases hil : i < len'
      · obtain ⟨v0, y0, _, c0, t0⟩ := hi i hil 0 _ rfl
        obtain ⟨v1, y1, _, c1, t1⟩ := hi i hil 1 _ rfl
        obtain ⟨x0, e0, _, _⟩ := DataW.trod_string Tryz.underlying9 t0
        obtain ⟨x1, e1, _, _⟩ := DataW.trod_string Tryz.underlying9 t1
        simp at e0 e1
        subst e0 e1
        exact ⟨⟨x0, x1⟩, fun _ => ⟨c0, c1⟩⟩
      · exact ⟨⟨ByteArray.empty, ByteArray.empty⟩, fun h => absurd h hil⟩
    obtain ⟨g, hg⟩ := Classical.axiomOfChoice key
    refine ⟨(List.range len').map g, rowOf_mk (by omega) g hm (fun i hil j hj => ?_)⟩
    obtain ⟨h0, h1⟩ := hg i hil
    have : j = 0 ∨ j = 1 := by omega
    rcases this with rfl | rfl
    · exact ⟨_, rfl, h0⟩
    · exact ⟨_, rfl, h1⟩
theorem list3 {α : Type} {l : List α} (h : l.length = 3) : ∃ a b c, l = [a, b, c] := by
  match l, h with
  | [a, b, c], _ => exact ⟨_, _, _, rfl⟩
theorem list9 {α : Type} {l : List α} (h : l.length = 9) : ∃ a b c d e f g i j, l = [a, b, c, d, e, f, g, i, j] := by
  match l, h with
  | [a, b, c, d, e, f, g, i, j], _ => exact ⟨_, _, _, _, _, _, _, _, _, rfl⟩
theorem it_of_row {n : Nat} {a b c : Value} {y : DataW H × List MemPlace} (hf : DataW.trod enc Tryz.prog w base spare held n 24 [a, b, c] = some y) : ∃ i : It, a = .int .i64 i.kind ∧ b = .string i.text ∧ RowOf fdc 2 w c i.flds := by
  have ci : Tryz.prog.cellsOf 3 = 1 := by kernel_rfl
  have cs : Tryz.prog.cellsOf 9 = 1 := by kernel_rfl
  have cf : Tryz.prog.cellsOf 22 = 1 := by kernel_rfl
  obtain ⟨q0, p0, h0⟩ := fieldE Tryz.underlying24 hf (j := 0) rfl (T := 3) (o := 0) rfl rfl ci
  obtain ⟨q1, p1, h1⟩ := fieldE Tryz.underlying24 hf (j := 1) rfl (T := 9) (o := 1) rfl rfl cs
  obtain ⟨q2, p2, h2⟩ := fieldE Tryz.underlying24 hf (j := 2) rfl (T := 22) (o := 2) rfl rfl cf
  simp only [List.drop_succ_cons, List.drop_zero, List.take_succ_cons, List.take_zero] at h0 h1 h2
  obtain ⟨x0, e0, _, _⟩ := DataW.trod_int Tryz.underlying3 h0
  obtain ⟨x1, e1, _, _⟩ := DataW.trod_string Tryz.underlying9 h1
  obtain ⟨l, hl⟩ := flds_of_trod h2
  simp only [List.cons.injEq, and_true] at e0 e1
  exact ⟨⟨x0, x1, l⟩, e0, e1, hl⟩
theorem open_item {r : Reach} {b0 : Nat} {v : Value} {d : DataW H} {p : List MemPlace} (hv : Value.okWide Tryz.prog w r b0 24 v) (h : DataW.Trod enc Tryz.prog w base spare held 24 v d p) :
    ∃ (i : It) (u : Value), v = itV i u ∧ RowOf fdc 2 w u i.flds := by
  have cm : Tryz.prog.cellsOf 24 = 3 := by kernel_rfl
  obtain ⟨row, rfl, hsz⟩ := okWide_struct Tryz.underlying24 hv
  obtain ⟨fuel, hf⟩ := h
  rw [cm] at hsz
  obtain ⟨l, rfl⟩ : ∃ l : List Value, row = l.toArray := ⟨row.toList, by simp⟩
  obtain ⟨a, b, c, rfl⟩ := list3 (l := l) (by simpa using hsz)
  have hf : DataW.trod enc Tryz.prog w base spare held fuel 24 [a, b, c] = some (d, p) := hf
  obtain ⟨i, rfl, rfl, hr⟩ := it_of_row hf
  exact ⟨i, c, rfl, hr⟩
theorem open_u16s {r : Reach} {b0 : Nat} {v : Value} {d : DataW H} {p : List MemPlace} (hv : Value.okWide Tryz.prog w r b0 26 v) (h : DataW.Trod enc Tryz.prog w base spare held 26 v d p) :
    ∃ n0 n1 : Int, v = .agg #[.int .u16 n0, .int .u16 n1] ∧ (0 ≤ n0 ∧ n0 < 65536) ∧ 0 ≤ n1 ∧ n1 < 65536 := by
  obtain ⟨cs, rfl, hsz, _⟩ : ∃ cs, v = .agg cs ∧ cs.size = Tryz.prog.cellsOf 26 ∧ Row.okWide Tryz.prog w r b0 26 cs := by
    simpa [Value.okWide, Tryz.underlying26] using hv
  rw [show Tryz.prog.cellsOf 26 = 2 by kernel_rfl] at hsz
  obtain ⟨fuel, hf⟩ := h
  obtain ⟨xs, m, _, _, _, hxs, hi⟩ := DataW.trod_array Tryz.underlying26 hf
  rw [show Tryz.prog.cellsOf 25 = 1 by kernel_rfl] at hi
  have bnd : ∀ x : Int, (Lit.int .u16 x).wf = true → 0 ≤ x ∧ x < 65536 := fun x hx => by
    have h2 : IntKind.u16.min ≤ x ∧ x ≤ IntKind.u16.max := by simpa [Lit.wf] using hx
    have e1 : IntKind.u16.min = 0 := by decide
    have e2 : IntKind.u16.max = 65535 := by decide
    omega
  obtain ⟨l⟩ := cs
  match l, hsz, hi with
  | [c0, c1], _, hi =>
    have h0 := hi 0 (by omega)
    have h1 := hi 1 (by omega)
    simp [Value.cells] at h0 h1
    cases e0 : DataW.trod enc Tryz.prog w base spare held m 25 [c0] with
    | none => rw [e0] at h0; have := List.getElem?_eq_none_iff.1 h0.symm; omega
    | some y0 =>
      cases e1 : DataW.trod enc Tryz.prog w base spare held m 25 [c1] with
      | none => rw [e1] at h1; have := List.getElem?_eq_none_iff.1 h1.symm; omega
      | some y1 =>
        obtain ⟨x0, q0, _, w0⟩ := DataW.trod_int Tryz.underlying25 e0
        obtain ⟨x1, q1, _, w1⟩ := DataW.trod_int Tryz.underlying25 e1
        simp at q0 q1
        exact ⟨x0, x1, by rw [q0, q1], bnd _ w0, bnd _ w1⟩
end
end Go.Proofs.YtcdihffcncaibaaGreatDoor
