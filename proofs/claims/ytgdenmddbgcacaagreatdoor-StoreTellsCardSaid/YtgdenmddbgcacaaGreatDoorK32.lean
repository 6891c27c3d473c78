/- An argument that is a slice of structs of one-cell fields, opened to its cells. -/
import Derived.Test.YtgdenmddbgcacaaGreatDoorK13
import Derived.Deep.Slices
import Derived.Deep.Fields
import Derived.ChangeSame
import Derived.ProofKit
import Derived.Test.YtgdenmddbgcacaaGreatDoorK27
import Derived.OpenShut
import Derived.ShutString
set_option linter.unusedVariables false
set_option linter.unusedSimpArgs false
namespace Go.Proofs.YtgdenmddbgcacaaGreatDoor
open Go.RowKit Go.ChangeShapes Go.WideShapes Go.Deep

/-- A slice of structs whose fields are one cell each: its length fits, and field j of element i lies in a cell of its own, and is read by that field's type. -/
theorem slice_cells {H : Type} {enc : TypeId × Value → H} {P : Program} {w : World} {base : Nat} {spare : Nat → Bool} {held : Bool} {T E : TypeId} {fs : Array Field} {fuel len cap : Nat} {a : Addr} {x : DataW H × List MemPlace}
    (hT : P.underlying T = some (.slice E)) (hE : P.underlying E = some (.struct fs)) (h1 : oneCellFields P fs = true) (hn : P.cellsOf E = fs.size)
    (h : DataW.trod enc P w base spare held fuel T [.slice (some a) len cap] = some x) :
    len ≤ maxLen ∧ ∀ i, i < len → ∀ j f, fs[j]? = some f → ∃ v y k, w.cell? (a.add (i * fs.size + j)) = some v ∧ DataW.trod enc P w base spare held k f.type [v] = some y := by
  rcases open_slice hT h with ⟨hnil, _⟩ | ⟨a', len', cap', m, n, D, Q, hv, _, hlc, hcm, hm, _, hall⟩
  · simp at hnil
  · simp only [List.cons.injEq, Value.slice.injEq, Option.some.injEq, and_true] at hv
    obtain ⟨rfl, rfl, rfl⟩ := hv
    have hlm : len ≤ m := by rw [hm]; split <;> omega
    refine ⟨Nat.le_trans hlc hcm, fun i hi j f hj => ?_⟩
    have hjs : j < fs.size := (Array.getElem?_eq_some_iff.1 hj).1
    obtain ⟨row, hrow, hread⟩ := hall i (Nat.lt_of_lt_of_le hi hlm)
    obtain ⟨_, hsize, hcells⟩ := World.cells?_some hrow
    obtain ⟨_, k, _, _, _, _, hfield⟩ := DataW.trod_struct hE hread
    obtain ⟨hoff, hone⟩ := hone_of h1 j f hj
    have hjr : j < row.length := by omega
    have hf := hfield j f hj
    rw [hoff, hone, List.drop_eq_getElem_cons hjr] at hf
    simp only [List.take_succ_cons, List.take_zero] at hf
    have hc := hcells j (by omega)
    rw [hn, Go.Deep.add_add, List.getElem?_eq_getElem hjr] at hc
    cases hy : DataW.trod enc P w base spare held k f.type [row[j]] with
    | none =>
      rw [hy] at hf
      have := (List.getElem?_eq_none_iff.1 hf.symm)
      omega
    | some y => exact ⟨row[j], y, k, hc, hy⟩

theorem slice_nil {H : Type} {enc : TypeId × Value → H} {P : Program} {w : World} {base : Nat} {spare : Nat → Bool} {held : Bool} {T E : TypeId} {fuel len cap : Nat} {x : DataW H × List MemPlace}
    (hT : P.underlying T = some (.slice E)) (h : DataW.trod enc P w base spare held fuel T (Value.slice none len cap).cells.toList = some x) : len = 0 ∧ cap = 0 := by
  rcases open_slice hT h with ⟨hnil, _⟩ | ⟨a', _, _, _, _, _, _, hv, _⟩
  · simpa [Value.cells] using hnil
  · simp [Value.cells] at hv

theorem rowOf_mk {α : Type} {f : α → List Value} {k : Nat} (hk : 0 < k) {w : World} {a : Addr} {len cap : Nat} (g : Nat → α) (hm : len ≤ maxLen)
    (hc : ∀ i, i < len → ∀ j, j < k → ∃ v, (f (g i))[j]? = some v ∧ w.cell? (a.add (i * k + j)) = some v) : RowOf f k w (.slice (some a) len cap) ((List.range len).map g) := by
  obtain ⟨b, off, spot⟩ := a
  by_cases h0 : len = 0
  · subst h0; exact Or.inl ⟨_, _, rfl, rfl⟩
  · obtain ⟨v, _, h1⟩ := hc 0 (by omega) 0 hk
    have hspot : spot = none := by simpa [Addr.add] using World.cell?_spot h1
    subst hspot
    have hb : b < w.heap.size := by
      by_cases hb : b < w.heap.size
      · exact hb
      · simp [World.cell?, Addr.add, Array.getElem?_eq_none (by omega : w.heap.size ≤ b)] at h1
    refine Or.inr ⟨b, off, cap, by simp, hb, by simpa using hm, fun i x hi j hj => ?_⟩
    have hil : i < len := by
      have := (List.getElem?_eq_some_iff.1 hi).1
      simpa using this
    have hx : x = g i := by
      have : ((List.range len).map g)[i]? = some (g i) := by simp [hil]
      rw [this] at hi; exact (Option.some.inj hi).symm
    subst hx
    obtain ⟨v, h1, h2⟩ := hc i hil j hj
    have e : (⟨b, off, none⟩ : Addr).add (i * k + j) = ⟨b, off + (i * k + j), none⟩ := by unfold Addr.add; split <;> simp_all
    rw [e] at h2
    rw [h2, h1]
end Go.Proofs.YtgdenmddbgcacaaGreatDoor
/- Arguments: items, two numbers, acts, opened. -/
set_option linter.unusedVariables false
set_option linter.unusedSimpArgs false
set_option maxRecDepth 100000
namespace Go.Proofs.YtgdenmddbgcacaaGreatDoor
open Go.RowKit Go.ChangeShapes Go.WideShapes Go.Deep

section
variable {H : Type} {enc : TypeId × Value → H} {P : Program} {w : World} {base : Nat} {spare : Nat → Bool} {held : Bool}
/-- A slice of structs, opened to its rows of cells. -/
theorem rowsE {T E : TypeId} {fuel len cap : Nat} {a : Addr} {x : DataW H × List MemPlace} (hT : P.underlying T = some (.slice E)) (h : DataW.trod enc P w base spare held fuel T [.slice (some a) len cap] = some x) :
    len ≤ maxLen ∧ ∀ i, i < len → ∃ row y k, row.length = P.cellsOf E ∧ (∀ j, j < P.cellsOf E → w.cell? (a.add (i * P.cellsOf E + j)) = row[j]?) ∧ DataW.trod enc P w base spare held k E row = some y := by
  rcases open_slice hT h with ⟨hnil, _⟩ | ⟨a', len', cap', m, n, D, Q, hv, _, hlc, hcm, hm, _, hall⟩
  · simp at hnil
  · simp only [List.cons.injEq, Value.slice.injEq, Option.some.injEq, and_true] at hv
    obtain ⟨rfl, rfl, rfl⟩ := hv
    have hlm : len ≤ m := by rw [hm]; split <;> omega
    refine ⟨Nat.le_trans hlc hcm, fun i hi => ?_⟩
    obtain ⟨row, hrow, hread⟩ := hall i (Nat.lt_of_lt_of_le hi hlm)
    obtain ⟨_, hsize, hcells⟩ := World.cells?_some hrow
    exact ⟨row, _, n, hsize, fun j hj => by rw [← hcells j (by omega), Go.Deep.add_add], hread⟩
/-- A field of a struct. -/
theorem fieldE {E : TypeId} {fs : Array Field} {n : Nat} {row : List Value} {y : DataW H × List MemPlace} (hE : P.underlying E = some (.struct fs)) (h : DataW.trod enc P w base spare held n E row = some y) {j : Nat} {f : Field} (hj : fs[j]? = some f) {T : TypeId} (hT : f.type = T) {o : Nat} (ho : f.offset = o) {s : Nat} (hs : P.cellsOf T = s) :
    ∃ k z, DataW.trod enc P w base spare held k T ((row.drop o).take s) = some z := by
  subst hT ho hs
  obtain ⟨xs, k, _, _, _, hl, hf⟩ := DataW.trod_struct hE h
  have h1 := hf j f hj
  have hjs : j < fs.size := (Array.getElem?_eq_some_iff.1 hj).1
  rw [List.getElem?_eq_getElem (by omega)] at h1
  exact ⟨k, _, h1⟩
/-- A slice of fields in a cell. -/
theorem flds_of_trod {n : Nat} {v : Value} {y : DataW H × List MemPlace} (h : DataW.trod enc Tryz.prog w base spare held n 29 [v] = some y) : ∃ l : List Fd, RowOf fdc 2 w v l := by
  rcases open_slice Tryz.underlying29 h with ⟨hnil, _⟩ | ⟨a', len', cap', m, n', D, Q, hv, _, hlc, hcm, hm, _, hall⟩
  · simp at hnil
    subst hnil
    exact ⟨[], Or.inl ⟨_, _, rfl, rfl⟩⟩
  · simp only [List.cons.injEq, and_true] at hv
    subst hv
    obtain ⟨hm, hi⟩ := slice_cells Tryz.underlying29 Tryz.underlying69 (by kernel_rfl) (by kernel_rfl) h
    have key : ∀ i, ∃ x : Fd, i < len' → w.cell? (a'.add (i * 2 + 0)) = some (.string x.1) ∧ w.cell? (a'.add (i * 2 + 1)) = some (.string x.2) := by
      intro i
      by_cases hil : i < len'
      · obtain ⟨v0, y0, _, c0, t0⟩ := hi i hil 0 _ rfl
        obtain ⟨v1, y1, _, c1, t1⟩ := hi i hil 1 _ rfl
        obtain ⟨x0, e0, _, _⟩ := DataW.trod_string Tryz.underlying9 t0
        obtain ⟨x1, e1, _, _⟩ := DataW.trod_string Tryz.underlying9 t1
        simp at e0 e1
        subst e0 e1
        exact ⟨⟨x0, x1⟩, fun _ => ⟨c0, c1⟩⟩
      · exact ⟨⟨ByteArray.empty, ByteArray.empty⟩, fun h => absurd h hil⟩
    obtain ⟨g, hg⟩ := Classical.axiomOfChoice key
    refine ⟨(List.range len').map g, rowOf_mk (by omega) g hm (fun i hil j hj => ?_)⟩
    obtain ⟨h0, h1⟩ := hg i hil
    have : j = 0 ∨ j = 1 := by omega
    rcases this with rfl | rfl
    · exact ⟨_, rfl, h0⟩
    · exact ⟨_, rfl, h1⟩
theorem list3 {α : Type} {l : List α} (h : l.length = 3) : ∃ a b c, l = [a, b, c] := by
  match l, h with
  | [a, b, c], _ => exact ⟨_, _, _, rfl⟩
theorem list9 {α : Type} {l : List α} (h : l.length = 9) : ∃ a b c d e f g i j, l = [a, b, c, d, e, f, g, i, j] := by
  match l, h with
  | [a, b, c, d, e, f, g, i, j], _ => exact ⟨_, _, _, _, _, _, _, _, _, rfl⟩
theorem it_of_row {n : Nat} {a b c : Value} {y : DataW H × List MemPlace} (hf : DataW.trod enc Tryz.prog w base spare held n 31 [a, b, c] = some y) : ∃ i : It, a = .int .i64 i.kind ∧ b = .string i.text ∧ RowOf fdc 2 w c i.flds := by
  have ci : Tryz.prog.cellsOf 3 = 1 := by kernel_rfl
  have cs : Tryz.prog.cellsOf 9 = 1 := by kernel_rfl
  have cf : Tryz.prog.cellsOf 29 = 1 := by kernel_rfl
  obtain ⟨q0, p0, h0⟩ := fieldE Tryz.underlying31 hf (j := 0) rfl (T := 3) (o := 0) rfl rfl ci
  obtain ⟨q1, p1, h1⟩ := fieldE Tryz.underlying31 hf (j := 1) rfl (T := 9) (o := 1) rfl rfl cs
  obtain ⟨q2, p2, h2⟩ := fieldE Tryz.underlying31 hf (j := 2) rfl (T := 29) (o := 2) rfl rfl cf
  simp only [List.drop_succ_cons, List.drop_zero, List.take_succ_cons, List.take_zero] at h0 h1 h2
  obtain ⟨x0, e0, _, _⟩ := DataW.trod_int Tryz.underlying3 h0
  obtain ⟨x1, e1, _, _⟩ := DataW.trod_string Tryz.underlying9 h1
  obtain ⟨l, hl⟩ := flds_of_trod h2
  simp only [List.cons.injEq, and_true] at e0 e1
  exact ⟨⟨x0, x1, l⟩, e0, e1, hl⟩
theorem open_item {r : Reach} {b0 : Nat} {v : Value} {d : DataW H} {p : List MemPlace} (hv : Value.okWide Tryz.prog w r b0 31 v) (h : DataW.Trod enc Tryz.prog w base spare held 31 v d p) :
    ∃ (i : It) (u : Value), v = itV i u ∧ RowOf fdc 2 w u i.flds := by
  have cm : Tryz.prog.cellsOf 31 = 3 := by kernel_rfl
  obtain ⟨row, rfl, hsz⟩ := okWide_struct Tryz.underlying31 hv
  obtain ⟨fuel, hf⟩ := h
  rw [cm] at hsz
  obtain ⟨l, rfl⟩ : ∃ l : List Value, row = l.toArray := ⟨row.toList, by simp⟩
  obtain ⟨a, b, c, rfl⟩ := list3 (l := l) (by simpa using hsz)
  have hf : DataW.trod enc Tryz.prog w base spare held fuel 31 [a, b, c] = some (d, p) := hf
  obtain ⟨i, rfl, rfl, hr⟩ := it_of_row hf
  exact ⟨i, c, rfl, hr⟩
end
end Go.Proofs.YtgdenmddbgcacaaGreatDoor
/- Arguments: rows of acts, opened. -/
set_option linter.unusedVariables false
set_option linter.unusedSimpArgs false
set_option maxRecDepth 100000
namespace Go.Proofs.YtgdenmddbgcacaaGreatDoor
open Go.RowKit Go.ChangeShapes Go.WideShapes Go.Deep

section
variable {H : Type} {enc : TypeId × Value → H} {w : World} {base : Nat} {spare : Nat → Bool} {held : Bool}
theorem act_of_row {n : Nat} {a b c d e f g i j : Value} {y : DataW H × List MemPlace} (hf : DataW.trod enc Tryz.prog w base spare held n 34 [a, b, c, d, e, f, g, i, j] = some y) :
    ∃ x : Act12, [a, b, c, d, e, f, g, i, j] = a12c x ∧ RowOf fdc 2 w x.fv x.item.flds ∧ 0 ≤ x.wait ∧ x.wait < 65536 := by
  have ci : Tryz.prog.cellsOf 3 = 1 := by kernel_rfl
  have cs : Tryz.prog.cellsOf 9 = 1 := by kernel_rfl
  have cI : Tryz.prog.cellsOf 31 = 3 := by kernel_rfl
  have cb : Tryz.prog.cellsOf 4 = 1 := by kernel_rfl
  have c64 : Tryz.prog.cellsOf 2 = 1 := by kernel_rfl
  have c16 : Tryz.prog.cellsOf 32 = 1 := by kernel_rfl
  obtain ⟨q0, p0, h0⟩ := fieldE Tryz.underlying34 hf (j := 0) rfl (T := 3) (o := 0) rfl rfl ci
  obtain ⟨q1, p1, h1⟩ := fieldE Tryz.underlying34 hf (j := 1) rfl (T := 3) (o := 1) rfl rfl ci
  obtain ⟨q2, p2, h2⟩ := fieldE Tryz.underlying34 hf (j := 2) rfl (T := 9) (o := 2) rfl rfl cs
  obtain ⟨q3, p3, h3⟩ := fieldE Tryz.underlying34 hf (j := 3) rfl (T := 31) (o := 3) rfl rfl cI
  obtain ⟨q4, p4, h4⟩ := fieldE Tryz.underlying34 hf (j := 4) rfl (T := 4) (o := 6) rfl rfl cb
  obtain ⟨q5, p5, h5⟩ := fieldE Tryz.underlying34 hf (j := 5) rfl (T := 2) (o := 7) rfl rfl c64
  obtain ⟨q6, p6, h6⟩ := fieldE Tryz.underlying34 hf (j := 6) rfl (T := 32) (o := 8) rfl rfl c16
  simp only [List.drop_succ_cons, List.drop_zero, List.take_succ_cons, List.take_zero] at h0 h1 h2 h3 h4 h5 h6
  obtain ⟨x0, e0, _, _⟩ := DataW.trod_int Tryz.underlying3 h0
  obtain ⟨x1, e1, _, _⟩ := DataW.trod_int Tryz.underlying3 h1
  obtain ⟨x2, e2, _, _⟩ := DataW.trod_string Tryz.underlying9 h2
  obtain ⟨it, e3, e4, hr⟩ := it_of_row h3
  obtain ⟨x4, e5, _⟩ := DataW.trod_bool Tryz.underlying4 h4
  obtain ⟨x5, e6, _, _⟩ := DataW.trod_int Tryz.underlying2 h5
  obtain ⟨x6, e7, _, w6⟩ := DataW.trod_int Tryz.underlying32 h6
  simp only [List.cons.injEq, and_true] at e0 e1 e2 e5 e6 e7
  have h6b : 0 ≤ x6 ∧ x6 < 65536 := by
    have h2 : IntKind.u16.min ≤ x6 ∧ x6 ≤ IntKind.u16.max := by simpa [Lit.wf] using w6
    have e1 : IntKind.u16.min = 0 := by decide
    have e2 : IntKind.u16.max = 65535 := by decide
    omega
  exact ⟨⟨x0, x1, x2, it, f, x4, x5, x6⟩, by rw [e0, e1, e2, e3, e4, e5, e6, e7]; rfl, hr, h6b.1, h6b.2⟩
theorem open_acts12 {r : Reach} {b0 : Nat} {v : Value} {d : DataW H} {p : List MemPlace} (hv : Value.okWide Tryz.prog w r b0 22 v) (h : DataW.Trod enc Tryz.prog w base spare held 22 v d p) :
    ∃ l : List Act12, RowOf a12c 9 w v l ∧ (∀ a ∈ l, RowOf fdc 2 w a.fv a.item.flds) ∧ ∀ a ∈ l, 0 ≤ a.wait ∧ a.wait < 65536 := by
  obtain ⟨a, len, cap, rfl⟩ := okWide_slice Tryz.underlying22 hv
  obtain ⟨fuel, hf⟩ := h
  cases a with
  | none =>
    obtain ⟨rfl, rfl⟩ := slice_nil Tryz.underlying22 hf
    exact ⟨[], Or.inl ⟨_, _, rfl, rfl⟩, fun a ha => by simp at ha, fun a ha => by simp at ha⟩
  | some a' =>
    have c9 : Tryz.prog.cellsOf 34 = 9 := by kernel_rfl
    obtain ⟨hm, hi⟩ := rowsE Tryz.underlying22 hf
    rw [c9] at hi
    have key : ∀ i, ∃ x : Act12, i < len → (∀ j, j < 9 → w.cell? (a'.add (i * 9 + j)) = (a12c x)[j]?) ∧ RowOf fdc 2 w x.fv x.item.flds ∧ 0 ≤ x.wait ∧ x.wait < 65536 := by
      intro i
      by_cases hil : i < len
      · obtain ⟨row, y, k, hl, hc, ht⟩ := hi i hil
        obtain ⟨a, b, c, d, e, f, g, i', j', rfl⟩ := list9 hl
        obtain ⟨x, hx, h1, h2, h3⟩ := act_of_row ht
        exact ⟨x, fun _ => ⟨fun j hj => by rw [hc j hj, hx], h1, h2, h3⟩⟩
      · exact ⟨⟨0, 0, ByteArray.empty, ⟨0, ByteArray.empty, []⟩, .slice none 0 0, false, 0, 0⟩, fun h => absurd h hil⟩
    obtain ⟨g, hg⟩ := Classical.axiomOfChoice key
    refine ⟨(List.range len).map g, rowOf_mk (by omega) g hm (fun i hil j hj => ?_), fun x hx => ?_, fun x hx => ?_⟩
    · obtain ⟨h0, _⟩ := hg i hil
      have : j < (a12c (g i)).length := by simpa [a12c] using hj
      exact ⟨_, List.getElem?_eq_getElem this, by rw [h0 j hj, List.getElem?_eq_getElem this]⟩
    · simp at hx
      obtain ⟨i, hil, rfl⟩ := hx
      exact (hg i hil).2.1
    · simp at hx
      obtain ⟨i, hil, rfl⟩ := hx
      exact (hg i hil).2.2
end
end Go.Proofs.YtgdenmddbgcacaaGreatDoor
