/- Walk: ModeSays. Printed by gensays.py. -/
import Derived.Test.YtcpfkkbegnhofaaDoorK12
import Derived.Test.YtcpfkkbegnhofaaDoorK13
import Derived.Test.YtcpfkkbegnhofaaDoorK14
import Derived.Test.YtcpfkkbegnhofaaDoorK15
import Derived.Test.YtcpfkkbegnhofaaDoorK16
import Derived.Test.YtcpfkkbegnhofaaDoorK17
import Derived.Test.YtcpfkkbegnhofaaDoorRows
import Derived.Test.YtcpfkkbegnhofaaDoorK10
import Derived.ProofKit
import Derived.LaidMore
import Derived.Lay
import Derived.OpenShut
import Derived.Stop.Joined
import Derived.Stop.LaidErr
import Derived.Lib.LaidTab
import Derived.Lib.LaidU8
import Derived.Test.YtcpfkkbegnhofaaDoorK04
import Derived.Deep.Slices
import Derived.Deep.Fields
import Derived.ChangeSame
set_option linter.unusedVariables false
set_option linter.unusedSimpArgs false
namespace Go.Proofs.YtcpfkkbegnhofaaDoor
open Go.RowKit

theorem lawMSays (m : MD) (cc : Int) (p : Option Addr) (c : Nat) (w : World) (h : RwT w p c m.ps) (hz : ∀ t ∈ m.ps, t.length ≤ maxLen) (hs : StdU w) :
    Calls Tryd.prog 6 #[mdV m (.slice p m.ps.length c), .int .i64 cc] w fun e w' => e = .returned (.bool true) ∧ Upd (fun _ => False) w w' := by
  cases hr : rightM m with
  | false => exact lawMSays_no m cc p c w h hz hs hr
  | true =>
    obtain ⟨on, bc, oi, oo, nl, rd, ps⟩ := m
    rcases right_flags hr with e | e | e | e | e
    · exact lawMSays_A _ cc p c w h hz hs e
    · exact lawMSays_B _ cc p c w h hz hs e
    · exact lawMSays_C _ cc p c w h hz hs e
    · exact lawMSays_D _ cc p c w h hz hs e
    · exact lawMSays_E _ cc p c w h hz hs e
end Go.Proofs.YtcpfkkbegnhofaaDoor
/- What the listed variables give the walks, and the witness. -/
set_option linter.unusedVariables false
set_option linter.unusedSimpArgs false
namespace Go.Proofs.YtcpfkkbegnhofaaDoor
open Go.ChangeShapes Go.WideShapes Go.ChangeAt Go.WideMaps Go.WideElems Go.RowKit Go.Stop Go.Extern

theorem int_bounds {n : Int} (h : (Lit.int .i64 n).wf = true) : -9223372036854775808 ≤ n ∧ n ≤ 9223372036854775807 := by
  have := bounds_i64 h
  omega

def laidAll : List (String × DataW Unit) := [("math/bits.deBruijn32tab", Rows.laid_math_bits_deBruijn32tab), ("math/bits.deBruijn64tab", Rows.laid_math_bits_deBruijn64tab), ("internal/strconv.uint64pow10", Lib.tabData .u64 Lib.pow10Tab), ("unicode/utf8.acceptRanges", Rows.laid_unicode_utf8_acceptRanges), ("strconv.ErrRange", Rows.laid_strconv_ErrRange), ("strconv.ErrSyntax", Rows.laid_strconv_ErrSyntax), ("unicode/utf8.first", Rows.laid_unicode_utf8_first)]

theorem star : "*" ++ "errors.errorString" = "*errors.errorString" := by decide
theorem rowErr (u : TypeId) (h : Tryd.prog.typeName? 3 u = some "*errors.errorString") : u = 135 :=
  typeName_ptr_named (nm := "errors.errorString") (by rw [star]; kernel_rfl) (by kernel_rfl) (by decide) u (by rw [star]; exact h)

theorem door_met (os : Os) (args : Array Value) : laidMetH Tryd.prog laidAll ((World.laidAll Tryd.prog os laidAll).forCall (fun _ _ => 0) ⟨#[], args, []⟩).memory := by
  rw [MakeChecks.laidMetH_plain _ _ _ (by kernel_rfl)]
  exact laidMet_laidAll _ (by kernel_rfl) (by kernel_rfl)
theorem door_shaped (os : Os) (args : Array Value) : ((World.laidAll Tryd.prog os laidAll).forCall (fun _ _ => 0) ⟨#[], args, []⟩).Shaped Tryd.prog := World.shaped_of_ZipB (by kernel_rfl) (by kernel_rfl)

theorem std_of_laid {W : World} (h : laidMetH Tryd.prog laidAll W) : Std W := by
  rw [MakeChecks.laidMetH_plain _ _ _ (by kernel_rfl)] at h
  have h3 := laidMet.tail (laidMet.tail h)
  have h4 := laidMet.tail (laidMet.tail h3)
  have h5 := laidMet.tail h4
  refine ⟨Lib.tabIs_of_head (g := 5) (by kernel_rfl) (by kernel_rfl) Tryd.underlying139 Tryd.underlying98 (by kernel_rfl) (by kernel_rfl) h3, ?_, ?_⟩
  · obtain ⟨a, s, h1, _⟩ := laid_sentinel (g := 3) h5 (by kernel_rfl) (by kernel_rfl) Tryd.underlying77 rowErr Tryd.underlying135 Tryd.underlying137 rfl rfl Tryd.underlying9 (by kernel_rfl) (by kernel_rfl)
    exact ⟨_, _, h1⟩
  · obtain ⟨a, s, h1, _⟩ := laid_sentinel (g := 4) h4 (by kernel_rfl) (by kernel_rfl) Tryd.underlying77 rowErr Tryd.underlying135 Tryd.underlying137 rfl rfl Tryd.underlying9 (by kernel_rfl) (by kernel_rfl)
    exact ⟨_, _, h1⟩
theorem first_same : Rows.laid_unicode_utf8_first = Lib.firstData := by kernel_rfl
theorem accept_same : (Rows.laid_unicode_utf8_acceptRanges : DataW Unit) = Lib.acceptData := by kernel_rfl
theorem stdU_of_laid {W : World} (h : laidMetH Tryd.prog laidAll W) : StdU W := by
  refine ⟨std_of_laid h, ?_⟩
  rw [MakeChecks.laidMetH_plain _ _ _ (by kernel_rfl)] at h
  have h1 := Lib.laidMet.reads h (n := "unicode/utf8.first") (d := Rows.laid_unicode_utf8_first) (by simp [laidAll])
  have h2 := Lib.laidMet.reads h (n := "unicode/utf8.acceptRanges") (d := Rows.laid_unicode_utf8_acceptRanges) (by simp [laidAll])
  rw [first_same] at h1
  rw [accept_same] at h2
  exact utf8Tabs_of_reads Tryd.lays260 ⟨by kernel_rfl, by kernel_rfl, by kernel_rfl, by kernel_rfl, by kernel_rfl, by kernel_rfl, by kernel_rfl⟩ h1 h2
end Go.Proofs.YtcpfkkbegnhofaaDoor
/- An argument that is a slice of structs of one-cell fields, opened to its cells. -/
set_option linter.unusedVariables false
set_option linter.unusedSimpArgs false
namespace Go.Proofs.YtcpfkkbegnhofaaDoor
open Go.RowKit Go.ChangeShapes Go.WideShapes Go.Deep

/-- A slice of structs whose fields are one cell each: its length fits, and field j of element i lies in a cell of its own, and is read by that field's type. -/
theorem slice_cells {H : Type} {enc : TypeId × Value → H} {P : Program} {w : World} {base : Nat} {spare : Nat → Bool} {held : Bool} {T E : TypeId} {fs : Array Field} {fuel len cap : Nat} {a : Addr} {x : DataW H × List MemPlace}
    (hT : P.underlying T = some (.slice E)) (hE : P.underlying E = some (.struct fs)) (h1 : oneCellFields P fs = true) (hn : P.cellsOf E = fs.size)
    (h : DataW.trod enc P w base spare held fuel T [.slice (some a) len cap] = some x) :
    len ≤ maxLen ∧ ∀ i, i < len → ∀ j f, fs[j]? = some f → ∃ v y k, w.cell? (a.add (i * fs.size + j)) = some v ∧ DataW.trod enc P w base spare held k f.type [v] = some y := by
  rcases open_slice hT h with ⟨hnil, _⟩ | ⟨a', len', cap', m, n, D, Q, hv, _, hlc, hcm, hm, _, hall⟩
  · simp at hnil
  · simp only [List.cons.injEq, Value.slice.injEq, Option.some.injEq, and_true] at hv
    obtain ⟨rfl, rfl, rfl⟩ := hv
    have hlm : len ≤ m := by rw [hm]; split <;> omega
    refine ⟨Nat.le_trans hlc hcm, fun i hi j f hj => ?_⟩
    have hjs : j < fs.size := (Array.getElem?_eq_some_iff.1 hj).1
    obtain ⟨row, hrow, hread⟩ := hall i (Nat.lt_of_lt_of_le hi hlm)
    obtain ⟨_, hsize, hcells⟩ := World.cells?_some hrow
    obtain ⟨_, k, _, _, _, _, hfield⟩ := DataW.trod_struct hE hread
    obtain ⟨hoff, hone⟩ := hone_of h1 j f hj
    have hjr : j < row.length := by omega
    have hf := hfield j f hj
    rw [hoff, hone, List.drop_eq_getElem_cons hjr] at hf
    simp only [List.take_succ_cons, List.take_zero] at hf
    have hc := hcells j (by omega)
    rw [hn, Go.Deep.add_add, List.getElem?_eq_getElem hjr] at hc
    cases hy : DataW.trod enc P w base spare held k f.type [row[j]] with
    | none =>
      rw [hy] at hf
      have := (List.getElem?_eq_none_iff.1 hf.symm)
      omega
    | some y => exact ⟨row[j], y, k, hc, hy⟩

theorem slice_nil {H : Type} {enc : TypeId × Value → H} {P : Program} {w : World} {base : Nat} {spare : Nat → Bool} {held : Bool} {T E : TypeId} {fuel len cap : Nat} {x : DataW H × List MemPlace}
    (hT : P.underlying T = some (.slice E)) (h : DataW.trod enc P w base spare held fuel T (Value.slice none len cap).cells.toList = some x) : len = 0 ∧ cap = 0 := by
  rcases open_slice hT h with ⟨hnil, _⟩ | ⟨a', _, _, _, _, _, _, hv, _⟩
  · simpa [Value.cells] using hnil
  · simp [Value.cells] at hv

theorem rowOf_mk {α : Type} {f : α → List Value} {k : Nat} (hk : 0 < k) {w : World} {a : Addr} {len cap : Nat} (g : Nat → α) (hm : len ≤ maxLen)
    (hc : ∀ i, i < len → ∀ j, j < k → ∃ v, (f (g i))[j]? = some v ∧ w.cell? (a.add (i * k + j)) = some v) : RowOf f k w (.slice (some a) len cap) ((List.range len).map g) := by
  obtain ⟨b, off, spot⟩ := a
  by_cases h0 : len = 0
  · subst h0; exact Or.inl ⟨_, _, rfl, rfl⟩
  · obtain ⟨v, _, h1⟩ := hc 0 (by omega) 0 hk
    have hspot : spot = none := by simpa [Addr.add] using World.cell?_spot h1
    subst hspot
    have hb : b < w.heap.size := by
      by_cases hb : b < w.heap.size
      · exact hb
      · simp [World.cell?, Addr.add, Array.getElem?_eq_none (by omega : w.heap.size ≤ b)] at h1
    refine Or.inr ⟨b, off, cap, by simp, hb, by simpa using hm, fun i x hi j hj => ?_⟩
    have hil : i < len := by
      have := (List.getElem?_eq_some_iff.1 hi).1
      simpa using this
    have hx : x = g i := by
      have : ((List.range len).map g)[i]? = some (g i) := by simp [hil]
      rw [this] at hi; exact (Option.some.inj hi).symm
    subst hx
    obtain ⟨v, h1, h2⟩ := hc i hil j hj
    have e : (⟨b, off, none⟩ : Addr).add (i * k + j) = ⟨b, off + (i * k + j), none⟩ := by unfold Addr.add; split <;> simp_all
    rw [e] at h2
    rw [h2, h1]
end Go.Proofs.YtcpfkkbegnhofaaDoor
/- Arguments that are modes, or rows of texts, opened. -/
set_option linter.unusedVariables false
set_option linter.unusedSimpArgs false
set_option maxRecDepth 100000
namespace Go.Proofs.YtcpfkkbegnhofaaDoor
open Go.RowKit Go.ChangeShapes Go.WideShapes Go.Deep

section
variable {H : Type} {enc : TypeId × Value → H} {w : World} {base : Nat} {spare : Nat → Bool} {held : Bool}
/-- A field of a struct. -/
theorem fieldM {P : Program} {E : TypeId} {fs : Array Field} {n : Nat} {row : List Value} {y : DataW H × List MemPlace} (hE : P.underlying E = some (.struct fs)) (h : DataW.trod enc P w base spare held n E row = some y) {j : Nat} {f : Field} (hj : fs[j]? = some f) {T : TypeId} {o s : Nat} (hT : f.type = T) (ho : f.offset = o) (hs : P.cellsOf T = s) :
    ∃ k z, DataW.trod enc P w base spare held k T ((row.drop o).take s) = some z := by
  subst hT ho hs
  obtain ⟨xs, k, _, _, _, hl, hf⟩ := DataW.trod_struct hE h
  have h1 := hf j f hj
  have hjs : j < fs.size := (Array.getElem?_eq_some_iff.1 hj).1
  rw [List.getElem?_eq_getElem (by omega)] at h1
  exact ⟨k, _, h1⟩
/-- A slice of texts in a cell. -/
theorem rwt_of_trod {n : Nat} {v : Value} {y : DataW H × List MemPlace} (h : DataW.trod enc Tryd.prog w base spare held n 22 [v] = some y) : ∃ p c, ∃ l : List Txt, v = .slice p l.length c ∧ RwT w p c l ∧ ∀ t ∈ l, t.length ≤ maxLen := by
  rcases open_slice1 Tryd.underlying22 (by kernel_rfl) h with ⟨e, _⟩ | ⟨a', len', cap', m, n, V, D, Pl, e, hb, hlc, hcm, hm, _, hall⟩
  · simp at e
    subst e
    exact ⟨_, _, [], rfl, ⟨Or.inl ⟨_, _, rfl, rfl⟩, by simp, by unfold maxLen; omega⟩, fun a ha => by simp at ha⟩
  · simp at e
    subst e
    have hlm : len' ≤ m := by rw [hm]; split <;> omega
    have key : ∀ i, ∃ x : Txt, i < len' → w.cell? (a'.add (i * 1 + 0)) = some (.string (ofL x)) ∧ x.length ≤ maxLen := by
      intro i
      by_cases hil : i < len'
      · obtain ⟨c1, t1⟩ := hall i (Nat.lt_of_lt_of_le hil hlm)
        obtain ⟨x1, e1, _, z2⟩ := DataW.trod_string Tryd.underlying9 t1
        simp at e1
        refine ⟨x1.toList, fun _ => ⟨?_, ?_⟩⟩
        · rw [Nat.mul_one, Nat.add_zero, c1, e1, ofL_of]
        · have := ofL_size x1.toList; rw [ofL_of] at this; omega
      · exact ⟨[], fun h => absurd h hil⟩
    obtain ⟨g, hg⟩ := Classical.axiomOfChoice key
    have hlen : ((List.range len').map g).length = len' := by simp
    refine ⟨some a', cap', (List.range len').map g, by rw [hlen], ⟨?_, by rw [hlen]; exact hlc, hcm⟩, fun x hx => ?_⟩
    · rw [hlen]
      exact rowOf_mk (by omega) g (Nat.le_trans hlc hcm) (fun i hil j hj => by
        have : j = 0 := by omega
        subst this
        exact ⟨_, rfl, (hg i hil).1⟩)
    · simp at hx
      obtain ⟨i, hil, rfl⟩ := hx
      exact (hg i hil).2
theorem list7 {α : Type} {l : List α} (h : l.length = 7) : ∃ a b c d e f g, l = [a, b, c, d, e, f, g] := by
  match l, h with
  | [a, b, c, d, e, f, g], _ => exact ⟨_, _, _, _, _, _, _, rfl⟩
theorem open_mode {r : Reach} {b0 : Nat} {v : Value} {d : DataW H} {p : List MemPlace} (hv : Value.okWide Tryd.prog w r b0 24 v) (h : DataW.Trod enc Tryd.prog w base spare held 24 v d p) :
    ∃ (m : MD) (q : Option Addr) (c : Nat), v = mdV m (.slice q m.ps.length c) ∧ RwT w q c m.ps ∧ ∀ t ∈ m.ps, t.length ≤ maxLen := by
  have ci : Tryd.prog.cellsOf 3 = 1 := by kernel_rfl
  have cbo : Tryd.prog.cellsOf 4 = 1 := by kernel_rfl
  have cs : Tryd.prog.cellsOf 22 = 1 := by kernel_rfl
  have cm : Tryd.prog.cellsOf 24 = 7 := by kernel_rfl
  obtain ⟨row, rfl, hsz⟩ := okWide_struct Tryd.underlying24 hv
  obtain ⟨fuel, hf⟩ := h
  rw [cm] at hsz
  obtain ⟨l, rfl⟩ : ∃ l : List Value, row = l.toArray := ⟨row.toList, by simp⟩
  obtain ⟨a, b, c, dd, e, f, g, rfl⟩ := list7 (l := l) (by simpa using hsz)
  have hf : DataW.trod enc Tryd.prog w base spare held fuel 24 [a, b, c, dd, e, f, g] = some (d, p) := hf
  obtain ⟨q0, p0, h20⟩ := fieldM Tryd.underlying24 hf (j := 0) rfl (T := 4) (o := 0) rfl rfl cbo
  obtain ⟨q1, p1, h21⟩ := fieldM Tryd.underlying24 hf (j := 1) rfl (T := 4) (o := 1) rfl rfl cbo
  obtain ⟨q2, p2, h22⟩ := fieldM Tryd.underlying24 hf (j := 2) rfl (T := 4) (o := 2) rfl rfl cbo
  obtain ⟨q3, p3, h23⟩ := fieldM Tryd.underlying24 hf (j := 3) rfl (T := 4) (o := 3) rfl rfl cbo
  obtain ⟨q4, p4, h24⟩ := fieldM Tryd.underlying24 hf (j := 4) rfl (T := 4) (o := 4) rfl rfl cbo
  obtain ⟨q5, p5, h25⟩ := fieldM Tryd.underlying24 hf (j := 5) rfl (T := 3) (o := 5) rfl rfl ci
  obtain ⟨q6, p6, h26⟩ := fieldM Tryd.underlying24 hf (j := 6) rfl (T := 22) (o := 6) rfl rfl cs
  simp only [List.drop_succ_cons, List.drop_zero, List.take_succ_cons, List.take_zero] at h20 h21 h22 h23 h24 h25 h26
  obtain ⟨b0, e20, _⟩ := DataW.trod_bool Tryd.underlying4 h20
  obtain ⟨b1, e21, _⟩ := DataW.trod_bool Tryd.underlying4 h21
  obtain ⟨b2, e22, _⟩ := DataW.trod_bool Tryd.underlying4 h22
  obtain ⟨b3, e23, _⟩ := DataW.trod_bool Tryd.underlying4 h23
  obtain ⟨b4, e24, _⟩ := DataW.trod_bool Tryd.underlying4 h24
  obtain ⟨x2, e25, _, _⟩ := DataW.trod_int Tryd.underlying3 h25
  obtain ⟨qq, cc, ps, e26, r26, s26⟩ := rwt_of_trod h26
  simp only [List.cons.injEq, and_true] at e20 e21 e22 e23 e24 e25
  subst e20 e21 e22 e23 e24 e25 e26
  exact ⟨⟨b0, b1, b2, b3, b4, x2, ps⟩, qq, cc, rfl, r26, s26⟩
theorem open_rwt {r : Reach} {b0 : Nat} {v : Value} {d : DataW H} {p : List MemPlace} (hv : Value.okWide Tryd.prog w r b0 22 v) (h : DataW.Trod enc Tryd.prog w base spare held 22 v d p) :
    ∃ (l : List Txt) (q : Option Addr) (c : Nat), v = .slice q l.length c ∧ RwT w q c l ∧ ∀ t ∈ l, t.length ≤ maxLen := by
  obtain ⟨a, len, cap, rfl⟩ := okWide_slice Tryd.underlying22 hv
  obtain ⟨fuel, hf⟩ := h
  obtain ⟨q, c, l, h1, h2, h3⟩ := rwt_of_trod (v := .slice a len cap) hf
  exact ⟨l, q, c, h1, h2, h3⟩
end
end Go.Proofs.YtcpfkkbegnhofaaDoor
