/- Keys that share their beginnings: the chapter's example; rows of texts as arguments. -/
import Derived.Test.YtnlbmplbaalgmaaRadO
import Derived.Test.YtnlbmplbaalgmaaRowOf
import Derived.Test.YtnlbmplbaalgmaaOpenS
set_option linter.unusedVariables false
set_option linter.unusedSimpArgs false
namespace Go.Proofs.Ytnlbmplbaalgmaa
open Go.RowKit Go.ChangeShapes Go.WideShapes Go.Deep

theorem al1 : putM [97] 1 [] = [([97], 1)] := by decide
theorem al2 : putM [97, 98] 2 [([97], 1)] = [([97], 1), ([97, 98], 2)] := by decide
theorem al3 : putM [98] 3 [([97], 1), ([97, 98], 2)] = [([97], 1), ([97, 98], 2), ([98], 3)] := by decide
theorem ag1 : (getL [] [97]).2 = false := by decide
theorem ag2 : (getL [([97], 1)] [97, 98]).2 = false := by decide
theorem ag3 : (getL [([97], 1), ([97, 98], 2)] [98]).2 = false := by decide
theorem aab : aboveL [([97], 1), ([97, 98], 2), ([98], 3)] [97, 98, 99] = [([97], 1), ([97, 98], 2)] := by decide
theorem anod : NodesN [([97], 1), ([97, 98], 2), ([98], 3)] 4 := by
  refine ⟨[[], [97], [97, 98], [98]], by decide, rfl, fun t => ?_⟩
  simp only [List.mem_cons, List.not_mem_nil, or_false, exists_eq_or_imp, exists_eq_left]
  constructor
  · rintro (rfl | rfl | rfl | rfl)
    · exact Or.inl rfl
    · exact Or.inr (Or.inl (Or.inl rfl))
    · exact Or.inr (Or.inl (Or.inr (Or.inl rfl)))
    · exact Or.inr (Or.inl (Or.inr (Or.inr rfl)))
  · rintro (rfl | (h | h | h) | h)
    · exact Or.inl rfl
    · exact Or.inr (Or.inl h.symm)
    · exact Or.inr (Or.inr (Or.inl h.symm))
    · exact Or.inr (Or.inr (Or.inr h.symm))
    · simp [lcp] at h
      have e : t = [] ∨ t = [97] ∨ t = [97, 98] ∨ t = [98] := by grind
      exact e
set_option maxHeartbeats 4000000 in
set_option maxRecDepth 100000 in
theorem alive07_any (w : World) : Calls Try.prog 10 #[] w fun e w' => e = .returned (.bool true) ∧ Upd (fun _ => False) w w' := by
  have NW := Lib.hid (radNew_any w w.heap.size (Nat.le_refl _))
  go_enter Try.func10, Try.ntmps10
  go_wp2_with fail
  refine (NW.out).mono ?_
  rintro e w1 ⟨xa, E, rfl, h1, u1, f1⟩
  have P1 := radPut_any w1 w.heap.size xa [] E h1 (by decide) u1.size [97] 1 (by decide)
  rw [al1, ag1, show ofL [97] = ⟨#[97]⟩ from rfl] at P1
  have P1 := Lib.hid P1
  have U1 := Lib.hid u1
  have F1 := Lib.hid f1
  clear h1 u1 f1
  go_wp2_with fail
  refine (P1.out).mono ?_
  rintro e w2 ⟨rfl, u2, E2, h2, f2⟩
  have P2 := radPut_any w2 w.heap.size xa _ E2 h2 (by decide) (Nat.le_trans U1.out.size u2.size) [97, 98] 2 (by decide)
  rw [al2, ag2, show ofL [97, 98] = ⟨#[97, 98]⟩ from rfl] at P2
  have P2 := Lib.hid P2
  have U2 := Lib.hid (U1.out.trans u2 (fun k hk e => by have := F1.out k e; omega))
  have F2 : Hid (∀ k, E2 k → w.heap.size ≤ k) := fun k hk => (f2 k hk).elim (F1.out k) (fun g => Nat.le_trans U1.out.size g)
  clear h2 u2 f2
  go_wp2_with fail
  refine (P2.out).mono ?_
  rintro e w3 ⟨rfl, u3, E3, h3, f3⟩
  have P3 := radPut_any w3 w.heap.size xa _ E3 h3 (by decide) (Nat.le_trans U2.out.size u3.size) [98] 3 (by decide)
  rw [al3, ag3, show ofL [98] = ⟨#[98]⟩ from rfl] at P3
  have P3 := Lib.hid P3
  have U3 := Lib.hid (U2.out.trans u3 (fun k hk e => by have := F2.out k e; omega))
  have F3 : Hid (∀ k, E3 k → w.heap.size ≤ k) := fun k hk => (f3 k hk).elim (F2.out k) (fun g => Nat.le_trans U2.out.size g)
  clear h3 u3 f3
  go_wp2_with fail
  refine (P3.out).mono ?_
  rintro e w4 ⟨rfl, u4, E4, h4, f4⟩
  have A4 := radAbove_any w4 w.heap.size xa _ E4 h4 (by decide) [97, 98, 99] (by decide)
  rw [aab, show ofL [97, 98, 99] = ⟨#[97, 98, 99]⟩ from rfl] at A4
  have A4 := Lib.hid A4
  have U4 := Lib.hid (U3.out.trans u4 (fun k hk e => by have := F3.out k e; omega))
  have H4 := Lib.hid h4
  clear h4 u4 f4
  go_wp2_with fail
  refine (A4.out).mono ?_
  rintro e w5 ⟨v, rfl, hv, u5⟩
  obtain ⟨_, ⟨_, e0⟩ | ⟨g, cap, cs, ev, hg, hB, hc, hm, hle⟩⟩ := own2_blk hv
  · simp at e0
  have ev2 : v = .slice (some ⟨g, 0, none⟩) 2 cap := ev
  subst ev2
  have c0 := hB.cellAt (i := 0) (v := .string ⟨#[97]⟩) rfl
  have c2 := hB.cellAt (i := 2) (v := .string ⟨#[97, 98]⟩) rfl
  have c3 := hB.cellAt (i := 3) (v := .int .i64 2) rfl
  have N5 := Lib.hid (radNodes_any w5 w.heap.size xa _ E4 (H4.out.keep0 u5) (by decide))
  have U5 := Lib.hid (U4.out.trans u5 (fun _ _ h => h))
  clear ev hB hv u5
  go_wp2_with fail
  refine (N5.out).mono ?_
  rintro e w6 ⟨n, rfl, hn, _, u6⟩
  have e4 : n = 4 := hn.uniq anod
  subst e4
  have U6 := Lib.hid (U5.out.trans u6 (fun _ _ h => h))
  clear u6 hn
  go_wp2
  go_ret
  exact ⟨by first | rfl | simp, U6.out⟩

def txtc (t : Txt) : List Value := [.string (ofL t)]
theorem txt_cell {w : World} {p : Option Addr} {cap : Nat} {l : List Txt} (h : RowOf txtc 1 w (.slice p l.length cap) l) {k : Nat} (hk : k < l.length) :
    ∃ b off, p = some ⟨b, off, none⟩ ∧ b < w.heap.size ∧ w.cell? ⟨b, off + k, none⟩ = some (.string (ofL (l[k]))) := by
  rcases h with ⟨_, _, _, e⟩ | ⟨b, off, c, e, hb, _, hc⟩
  · rw [e] at hk; simp at hk
  · simp only [Value.slice.injEq] at e
    refine ⟨b, off, e.1, hb, ?_⟩
    have := hc k _ (List.getElem?_eq_getElem hk) 0 (by omega); simpa [txtc] using this
section
variable {H : Type} {enc : TypeId × Value → H} {w : World} {base : Nat} {spare : Nat → Bool} {held : Bool}
set_option maxRecDepth 100000 in
theorem open_txts {r : Reach} {b0 : Nat} {v : Value} {d : DataW H} {p : List MemPlace} (hv : Value.okWide Try.prog w r b0 22 v) (h : DataW.Trod enc Try.prog w base spare held 22 v d p) :
    ∃ l : List Txt, RowOf txtc 1 w v l ∧ ∀ t ∈ l, t.length ≤ maxLen := by
  obtain ⟨a, len, cap, rfl⟩ := okWide_slice Try.underlying22 hv
  obtain ⟨fuel, hf⟩ := h
  rcases open_slice1 Try.underlying22 (by kernel_rfl) hf with ⟨e, _⟩ | ⟨a', len', cap', m, n, V, D, Pl, e, hb, hlc, hcm, hm, _, hall⟩
  · simp [Value.cells] at e
    obtain ⟨rfl, rfl, rfl⟩ := e
    exact ⟨[], Or.inl ⟨_, _, rfl, rfl⟩, fun a ha => by simp at ha⟩
  · simp [Value.cells] at e
    obtain ⟨rfl, rfl, rfl⟩ := e
    have hlm : len ≤ m := by rw [hm]; split <;> omega
    have key : ∀ i, ∃ x : Txt, i < len → w.cell? (a'.add (i * 1 + 0)) = some (.string (ofL x)) ∧ x.length ≤ maxLen := by
      intro i
      by_cases hil : i < len
      · obtain ⟨c1, t1⟩ := hall i (Nat.lt_of_lt_of_le hil hlm)
        obtain ⟨x1, e1, _, z2⟩ := DataW.trod_string Try.underlying9 t1
        simp at e1
        refine ⟨x1.toList, fun _ => ⟨?_, ?_⟩⟩
        · rw [Nat.mul_one, Nat.add_zero, c1, e1, ofL_of]
        · have := ofL_size x1.toList; rw [ofL_of] at this; omega
      · exact ⟨[], fun h => absurd h hil⟩
    obtain ⟨g, hg⟩ := Classical.axiomOfChoice key
    refine ⟨(List.range len).map g, rowOf_mk (by omega) g (Nat.le_trans hlc hcm) (fun i hil j hj => ?_), fun x hx => ?_⟩
    · have : j = 0 := by omega
      subst this
      exact ⟨_, rfl, (hg i hil).1⟩
    · simp at hx
      obtain ⟨i, hil, rfl⟩ := hx
      exact (hg i hil).2
end
end Go.Proofs.Ytnlbmplbaalgmaa
