/- Dues sorted by the library. -/
import Derived.Test.YtokkhddbdjflhaaExpM
import Derived.Test.YtokkhddbdjflhaaLaySort
import Derived.Shelf.SlSortCmp.NoneTotal
set_option linter.unusedVariables false
set_option linter.unusedSimpArgs false
namespace Go.Proofs.Ytokkhddbdjflhaa
open Go.RowKit Go.Sort Go.Proofs Go.Lib

theorem flatK_list {α : Type} [Inhabited α] (enc : α → List Value) (k : Nat) (hk : ∀ x, (enc x).length = k) (k0 : 0 < k) (d : Array α) : (flatK enc k d).toList = flat enc d.toList := by
  apply List.ext_getElem?
  intro t
  by_cases ht : t < d.size * k
  · have h1 : (flatK enc k d)[t]! = (enc d[t / k]!)[t % k]! := get_flatK enc k d t ht
    have hs : t < (flatK enc k d).size := by simpa using ht
    have hq : t / k < d.size := Nat.div_lt_of_lt_mul (by rw [Nat.mul_comm]; exact ht)
    have hr : t % k < k := Nat.mod_lt _ k0
    have e : t = t / k * k + t % k := by rw [Nat.mul_comm]; exact (Nat.div_add_mod t k).symm
    rw [Array.getElem?_toList, Array.getElem?_eq_getElem hs]
    conv => rhs; rw [e]
    rw [flat_get enc k hk d.toList _ _ hr, Array.getElem?_toList, Array.getElem?_eq_getElem hq, Option.bind_some]
    rw [getElem!_pos _ t hs] at h1
    rw [h1, getElem!_pos d _ hq, List.getElem?_eq_getElem (by rw [hk]; exact hr), getElem!_pos _ _ (by rw [hk]; exact hr)]
  · have h1 : (flatK enc k d).toList.length ≤ t := by simp; omega
    have h2 : (flat enc d.toList).length ≤ t := by rw [flat_length enc k hk]; simp; omega
    rw [List.getElem?_eq_none h1, List.getElem?_eq_none h2]
/-- A row of the call's own, of things of k cells each, in the library's words. -/
theorem ownK_holds {α : Type} [Inhabited α] {enc : α → List Value} {k : Nat} (hk : ∀ x, (enc x).length = k) (k0 : 0 < k) {w : World} {base g cap n : Nat} {e : TypeId} {l : List α} (hl : l.length = n) (h : w.ownsRow base e k (.slice (some ⟨g, 0, none⟩) n cap) n (flat enc l)) :
    HoldsK enc k w g 0 l.toArray ∧ g < w.heap.size ∧ ∀ (q : Nat) (os : Array Obj) (r : List α), r.length = n → (sortWorldK enc k w g 0 q r.toArray os).ownsRow base e k (.slice (some ⟨g, 0, none⟩) n cap) n (flat enc r) ∧ w.grownBy (sortWorldK enc k w g 0 q r.toArray os) (some g) := by
  obtain ⟨h0, ⟨e1, _⟩ | ⟨g', cap', cur, e1, hg, hh, h1, h2, h3, h4⟩⟩ := h
  · cases e1
  · cases e1
    have hlt : g < w.heap.size := (Array.getElem?_eq_some_iff.1 hh).1
    refine ⟨?_, hlt, fun q os r hr => ⟨⟨by rw [flat_length enc k hk, hr], Or.inr ⟨g, cap, putCells id 0 (flatK enc k r.toArray) cur, rfl, hg, ?_, h1, h2, by simp [putCells, h3], ?_⟩⟩, ?_⟩⟩
    · intro j hj
      have hj' : j < n * k := by simpa [hl] using hj
      refine ⟨?_, by simp [World.frozen?, hh]⟩
      have e2 : (cur.toList.take (n * k))[j]? = (flat enc l)[j]? := by rw [h4]
      rw [List.getElem?_take_of_lt hj', Array.getElem?_toList] at e2
      simp only [World.cell?, hh, Nat.zero_add]
      simp only [Option.isSome_none, Bool.false_eq_true, if_false]
      rw [e2]
      have e3 : (flatK enc k l.toArray)[j]? = (flat enc l)[j]? := by rw [← Array.getElem?_toList, flatK_list enc k hk k0]
      rw [← e3, Array.getElem?_eq_getElem hj, getElem!_pos (flatK enc k l.toArray) j hj]; rfl
    · unfold sortWorldK putRowK
      rw [heap_grow_old _ _ (by simpa using hlt)]
      simp [putRow, mapBlock, Sort.ahead, Array.getElem?_modify, hh, onCells]
    · apply List.ext_getElem?
      intro j
      by_cases hj : j < n * k
      · have hc : j < cur.size := by rw [h3]; exact Nat.lt_of_lt_of_le hj (Nat.mul_le_mul_right _ h1)
        have hs : j < (flatK enc k r.toArray).size := by simpa [hr] using hj
        rw [List.getElem?_take_of_lt hj, Array.getElem?_toList]
        rw [← flatK_list enc k hk k0, Array.getElem?_toList]
        simp only [putCells, Array.getElem?_mapIdx, Array.getElem?_eq_getElem hc, Option.map_some]
        rw [if_pos (by simpa [hr] using hj), Array.getElem?_eq_getElem hs, Nat.sub_zero, getElem!_pos (flatK enc k r.toArray) j hs]; rfl
      · rw [List.getElem?_take_eq_none (by omega), List.getElem?_eq_none (by rw [flat_length enc k hk, hr]; omega)]
    · refine ⟨rfl, rfl, rfl, by simp [sortWorldK, putRowK], fun i hi hne => ?_⟩
      unfold sortWorldK putRowK
      rw [heap_grow_old _ _ (by simpa using hi)]
      have : g ≠ i := fun e => hne (by rw [e])
      simp [putRow, mapBlock, Sort.ahead, Array.getElem?_modify, this]
def cfD (x y : DueP) : Int := ordV x.1 x.2 y.1 y.2
theorem ltOf_D (x y : DueP) : ltOf cfD x y = decide (ltD x y) := by unfold ltOf cfD; exact ord_neg x.1 x.2 y.1 y.2
theorem swoD : SWO (ltOf cfD) := ⟨fun x => by rw [ltOf_D]; exact decide_eq_false (ltD_irrefl x), fun x y z h k => by
  rw [ltOf_D, decide_eq_true_eq] at *; exact ltD_trans h k, fun x y z h k => by
  rw [ltOf_D, decide_eq_false_iff_not] at *; exact leD_trans z y x k h⟩
/-- What is in order stays as it is, whatever order it came in. -/
theorem mergeD {l r : List DueP} (hp : r.Perm l) (hr : Rise l) : (r.mergeSort fun x y => !(ltOf cfD) y x) = l := by
  have hpm := List.mergeSort_perm r fun x y => !(ltOf cfD) y x
  have hpw : (r.mergeSort fun x y => !(ltOf cfD) y x).Pairwise leD := by
    have := List.pairwise_mergeSort (le := fun x y => !(ltOf cfD) y x) (fun a b c h1 h2 => by
      simp only [ltOf_D, Bool.not_eq_true', decide_eq_false_iff_not] at *; exact leD_trans a b c h1 h2) (fun a b => by
      simp only [ltOf_D, Bool.or_eq_true, Bool.not_eq_true', decide_eq_false_iff_not]
      by_cases h : ltD b a
      · exact Or.inr (ltD_asymm h)
      · exact Or.inl h) r
    refine this.imp fun h => ?_
    simp only [ltOf_D, Bool.not_eq_true', decide_eq_false_iff_not] at h
    exact h
  have hnd : (r.mergeSort fun x y => !(ltOf cfD) y x).Nodup := (hpm.trans hp).nodup_iff.2 hr.nodup
  refine rise_eq ?_ hr (hpm.trans hp)
  refine (hpw.and hnd).imp fun ⟨h1, h2⟩ => ?_
  rcases ltD_total _ _ with g | g | g
  · exact g
  · exact absurd g h2
  · exact absurd g h1
theorem sortD_any (base : Nat) (v : Value) (r l : List DueP) (w : World) (h : DuesAt w base v r) (hp : r.Perm l) (hr : Rise l) (hl : l.length ≤ 100000) :
    Calls Try.prog 26 #[v, .func (.func 27) #[] #[]] w fun e w' => e = .returned (.tuple #[]) ∧ DuesAt w' base v l ∧ w.grownBy w' v.ownBlock := by
  have hlen := hp.length_eq
  obtain ⟨p, c, ev, _⟩ := own_slice h
  subst ev
  cases p with
  | none =>
    have hn : r.length = 0 := by
      rcases h.2 with ⟨e, h0⟩ | ⟨g, cap, cur, e, _⟩
      · exact h0
      · cases e
    have e1 : r = [] := List.length_eq_zero_iff.1 hn
    subst e1
    have e2 : l = [] := by simpa using hp.symm
    subst e2
    refine (AnyF.slices_SortFunc_none Try.laySort none c _ w).mono ?_
    rintro e w' ⟨rfl, rfl⟩
    exact ⟨rfl, h, ⟨rfl, rfl, rfl, Nat.le_refl _, fun _ _ _ => rfl⟩⟩
  | some a =>
    obtain ⟨g, rfl⟩ : ∃ g, a = ⟨g, 0, none⟩ := by
      rcases h.2 with ⟨e, _⟩ | ⟨g, cap, cur, e, _⟩
      · cases e
      · cases e; exact ⟨g, rfl⟩
    obtain ⟨hH, hg, hO⟩ := ownK_holds (enc := duec) (k := 2) (fun _ => rfl) (by decide) rfl h
    have eg : ∀ args w, (callFunc 27 args).run Try.prog w = .ok (.enter 27 args) w := enters_of Try.func27 (by kernel_rfl) rfl
    have hs : r.toArray.size = r.length := by simp
    have := AnyQ.slices_SortFunc_total Try.laySort 2 Try.isAgg26 Try.sizeOf26 duec (fun _ => rfl) (fun x u hu => by simp [duec] at hu; rcases hu with rfl | rfl <;> rfl) cfD swoD 27 #[] g 0 c r.toArray w eg
      (fun m os dk _ x y => order_grow x.1 y.1 x.2 y.2 _) hH hg (by rw [hs]; omega) (fun x y h1 h2 => by
        rw [ltOf_D, decide_eq_false_iff_not] at h1 h2
        rcases ltD_total x y with k | k | k
        · exact absurd k h1
        · exact k
        · exact absurd k h2)
    rw [hs] at this
    refine Calls.mono this ?_
    rintro e w' ⟨rfl, n, os, rfl⟩
    rw [show r.toArray.toList = r by simp, mergeD hp hr]
    obtain ⟨k1, k2⟩ := hO n os l hlen.symm
    refine ⟨rfl, ?_, k2⟩
    unfold DuesAt
    rw [← hlen]; exact k1
end Go.Proofs.Ytokkhddbdjflhaa
