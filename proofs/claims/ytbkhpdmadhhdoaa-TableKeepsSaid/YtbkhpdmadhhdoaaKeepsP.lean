/- TableKeeps, plain: the table beside a map, and the order of its keys. -/
import Derived.Test.YtbkhpdmadhhdoaaLawClears
import Derived.Test.YtbkhpdmadhhdoaaMap
import Derived.Test.YtbkhpdmadhhdoaaTblMap
set_option linter.unusedVariables false
set_option linter.unusedSimpArgs false
namespace Go.Proofs.Ytbkhpdmadhhdoaa
open Go.RowKit
open Tbl (Tab)

theorem bytesLess_lt (a b : List UInt8) : Op.bytesLess a b = decide (a < b) := by
  induction a generalizing b with
  | nil =>
    cases b with
    | nil => simp [Op.bytesLess]
    | cons y b => simp [Op.bytesLess]
  | cons x a ih =>
    cases b with
    | nil => simp [Op.bytesLess]
    | cons y b =>
      rw [Op.bytesLess, ih, Bool.eq_iff_iff]
      simp [List.cons_lt_cons_iff]
theorem of_toList (s : List UInt8) : (⟨s.toArray⟩ : ByteArray).toList = s := by
  rw [ByteArray.toList_eq]
theorem sortStr_perm (l : List ByteArray) : (sortStr l).Perm l := by
  have h : ofBytes (bytesOf l) = l := by
    unfold ofBytes bytesOf
    rw [List.map_map]
    exact List.map_id' l
  unfold sortStr
  have := (List.mergeSort_perm (bytesOf l) fun x y => decide (x ≤ y)).map (fun s : List UInt8 => (⟨s.toArray⟩ : ByteArray))
  refine this.trans ?_
  exact List.Perm.of_eq h
theorem sortStr_less {l : List ByteArray} (h : l.Nodup) {i : Nat} {x y : ByteArray} (hx : (sortStr l)[i]? = some x) (hy : (sortStr l)[i + 1]? = some y) : Op.bytesLess x.toList y.toList = true := by
  have tr : ∀ a b c : List UInt8, decide (a ≤ b) = true → decide (b ≤ c) = true → decide (a ≤ c) = true := fun a b c h1 h2 => by simp only [decide_eq_true_eq] at *; exact List.le_trans h1 h2
  have tot : ∀ a b : List UInt8, (decide (a ≤ b) || decide (b ≤ a)) = true := fun a b => by simp only [Bool.or_eq_true, decide_eq_true_eq]; exact List.le_total a b
  have hp := List.pairwise_mergeSort tr tot (bytesOf l)
  have hn : (sortStr l).Nodup := (sortStr_perm l).nodup_iff.2 h
  have hne : x ≠ y := by
    rintro rfl
    have := (List.getElem?_inj (List.getElem?_eq_some_iff.1 hx).1 hn).1 (hx.trans hy.symm)
    omega
  unfold sortStr ofBytes at hx hy
  rw [List.getElem?_map] at hx hy
  obtain ⟨s, hs, rfl⟩ := Option.map_eq_some_iff.1 hx
  obtain ⟨t, ht, rfl⟩ := Option.map_eq_some_iff.1 hy
  rw [of_toList, of_toList, bytesLess_lt]
  obtain ⟨h1, e1⟩ := List.getElem?_eq_some_iff.1 hs
  obtain ⟨h2, e2⟩ := List.getElem?_eq_some_iff.1 ht
  have := List.pairwise_iff_getElem.1 hp i (i + 1) h1 h2 (by omega)
  rw [e1, e2] at this
  simp only [decide_eq_true_eq] at this ⊢
  rcases Decidable.em (s < t) with g | g
  · exact g
  · exact absurd (by rw [List.le_antisymm this (List.not_lt.1 g)]) hne

abbrev Nums := List (ByteArray × Int)
def vm (m : Nums) : List (ByteArray × Value) := m.map fun p => (p.1, .int .i64 p.2)
theorem vm_get (m : Nums) (k : ByteArray) : aget (vm m) k = (aget m k).map (Value.int .i64) := by
  induction m with
  | nil => rfl
  | cons p r ih =>
    simp only [vm, List.map_cons, aget] at ih ⊢
    split
    · rfl
    · exact ih
theorem vm_set (m : Nums) (k : ByteArray) (n : Int) : aset (vm m) k (.int .i64 n) = vm (aset m k n) := by
  induction m with
  | nil => rfl
  | cons p r ih =>
    simp only [vm, List.map_cons, aset] at ih ⊢
    split
    · rfl
    · rw [ih]; rfl
theorem vm_del (m : Nums) (k : ByteArray) : adel (vm m) k = vm (adel m k) := by
  induction m with
  | nil => rfl
  | cons p r ih =>
    simp only [vm, List.map_cons, adel] at ih ⊢
    split
    · rfl
    · rw [ih]; rfl

/-- The table's numbers are the map's. -/
structure Alike (t : Tab) (m : Nums) : Prop where
  good : t.Good
  nd : (akeys m).Nodup
  same : ∀ k v, t.Has k v ↔ aget m k = some v
theorem Alike.new : Alike Tab.new [] := ⟨Tbl.tgood_new.1, by simp [akeys], fun k v => ⟨fun h => absurd h (Tbl.tgood_new.2 k v), fun h => by simp [aget] at h⟩⟩
theorem Alike.keys {t : Tab} {m : Nums} (h : Alike t m) (k : ByteArray) : k ∈ t.keysRaw ↔ k ∈ akeys m := by
  rw [Tbl.keysRaw_mem]
  constructor
  · rintro ⟨n, hn⟩
    have e := (h.same k n).1 hn
    refine Classical.byContradiction fun hk => ?_
    rw [aget_none.2 hk] at e; cases e
  · intro hk
    cases hg : aget m k with
    | none => exact absurd hk (aget_none.1 hg)
    | some v => exact ⟨v, (h.same k v).2 hg⟩
theorem Alike.len {n : Nat} {t : Tab} {m : Nums} (h : Alike t m) (i : t.Inv n) : t.len = (m.length : Int) := by
  rw [← Tbl.keysRaw_len i]
  have hp : t.keysRaw.Perm (akeys m) := (List.perm_ext_iff_of_nodup (Tbl.keysRaw_nodup h.good) h.nd).2 h.keys
  have := hp.length_eq
  rw [this]; simp [akeys]
theorem Alike.put {n : Nat} {t : Tab} {m : Nums} (h : Alike t m) (i : t.Inv n) (k : ByteArray) (x : Int) : Alike (t.put k x).1 (aset m k x) := by
  obtain ⟨p1, p2, _⟩ := Tbl.put_has i h.good k x
  refine ⟨p1, nodup_aset h.nd k x, fun k' v => ?_⟩
  rw [p2, aget_aset]
  by_cases e : k = k'
  · subst e; simp; exact eq_comm
  · have e2 : ¬ k' = k := fun e2 => e e2.symm
    rw [if_neg e, if_neg e2]; exact h.same k' v
theorem Alike.drop {n : Nat} {t : Tab} {m : Nums} (h : Alike t m) (i : t.Inv n) (k : ByteArray) : Alike (t.drop k).1 (adel m k) ∧ (t.drop k).2 = ((aget m k).getD 0, (aget m k).isSome) := by
  obtain ⟨p1, p2, p3, p4⟩ := Tbl.drop_has i h.good k
  refine ⟨⟨p1, nodup_adel h.nd k, fun k' v => ?_⟩, ?_⟩
  · rw [p2, aget_adel h.nd]
    by_cases e : k = k'
    · subst e; simp
    · have e2 : ¬ k' = k := fun e2 => e e2.symm
      rw [if_neg e]; simp only [ne_eq, e2, not_false_eq_true, true_and]; exact h.same k' v
  · cases hg : aget m k with
    | none => exact p4 fun v hv => by have := (h.same k v).1 hv; rw [hg] at this; cases this
    | some v => exact p3 v ((h.same k v).2 hg)
theorem Alike.get {n : Nat} {t : Tab} {m : Nums} (h : Alike t m) (i : t.Inv n) (k : ByteArray) : Alike (t.get k).1 m ∧ (t.get k).2 = ((aget m k).getD 0, (aget m k).isSome) := by
  obtain ⟨p1, p2, p3, p4⟩ := Tbl.get_has i h.good k
  refine ⟨⟨p1, h.nd, fun k' v => (p2 k' v).trans (h.same k' v)⟩, ?_⟩
  cases hg : aget m k with
  | none => exact p4 fun v hv => by have := (h.same k v).1 hv; rw [hg] at this; cases this
  | some v => exact p3 v ((h.same k v).2 hg)
end Go.Proofs.Ytbkhpdmadhhdoaa
