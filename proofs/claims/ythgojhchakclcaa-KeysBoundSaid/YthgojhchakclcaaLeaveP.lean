/- KeysLeave, plain: who leaves is in no row. -/
import Derived.Test.YthgojhchakclcaaActs14
set_option linter.unusedVariables false
set_option linter.unusedSimpArgs false
namespace Go.Proofs.Ythgojhchakclcaa
open Go.RowKit

/-- The rows hold what was read: keys that fit, clients of whom one read. -/
def Held (L : Rows14) (ids : List Int) : Prop := (∀ k ∈ akeys L, k.size ≤ maxLen) ∧ ∀ k l, aget L k = some l → ∀ x ∈ l, x ∈ ids
theorem add_none {most : Int} {L : Rows14} {key : ByteArray} {id : Int} (h : (L.length : Int) < most) : (add14 most L key id).2.2.2 = aset L key (wth ((aget L key).getD []) id) := by
  unfold add14
  cases hk : aget L key with
  | some l => rfl
  | none => simp only; rw [if_neg (by omega), aset_out hk]; rfl
theorem Held.add {L : Rows14} {ids : List Int} (h : Held L ids) {key : ByteArray} {id : Int} (hk : key.size ≤ maxLen) : Held (aset L key (wth ((aget L key).getD []) id)) (ids ++ [id]) := by
  refine ⟨fun k hm => ?_, fun k l hg x hx => ?_⟩
  · rcases (mem_aset _ _ _ _).1 hm with h1 | rfl
    · exact h.1 k h1
    · exact hk
  · rw [aget_aset] at hg
    split at hg
    · next e =>
      subst e
      cases hg
      rcases wth_mem.1 hx with rfl | h1
      · simp
      · cases hk : aget L key with
        | none => rw [hk] at h1; simp at h1
        | some l => rw [hk] at h1; simp [h.2 key l hk x h1]
    · simp [h.2 k l hg x hx]
theorem aget_drop {L : Rows14} (hn : (akeys L).Nodup) (id : Int) (k : ByteArray) : aget (drop14 L id) k = match aget L k with | none => none | some l => if cutId id l = [] then none else some (cutId id l) := by
  induction L with
  | nil => rfl
  | cons p r ih =>
    simp only [akeys, List.map_cons, List.nodup_cons] at hn
    have ih := ih hn.2
    unfold drop14 at ih ⊢
    rw [List.filterMap_cons]
    by_cases e : p.1 = k
    · have hr : aget r k = none := aget_none.2 (by rw [← e]; exact hn.1)
      rw [hr] at ih
      simp only [aget, e, if_true]
      by_cases hc : cutId id p.2 = []
      · simp only [hc, if_true]; exact ih
      · simp only [hc, if_false, aget, if_true]
    · simp only [aget, e, if_false]
      by_cases hc : cutId id p.2 = []
      · simp only [hc, if_true]; exact ih
      · simp only [hc, if_false, aget, e]; exact ih
theorem ids_drop {L : Rows14} (hn : (akeys L).Nodup) (id : Int) (k : ByteArray) : (aget (drop14 L id) k).getD [] = cutId id ((aget L k).getD []) := by
  rw [aget_drop hn]
  cases aget L k with
  | none => rfl
  | some l =>
    simp only [Option.getD_some]
    split
    · next h => rw [h]; rfl
    · rfl
theorem Held.drop {L : Rows14} {ids : List Int} (h : Held L ids) (hn : (akeys L).Nodup) (id : Int) : Held (drop14 L id) (ids.filter (· ≠ id)) := by
  refine ⟨fun k hm => h.1 k (aget_mem.2 fun e => ?_), fun k l hg x hx => ?_⟩
  · have := aget_mem.1 hm
    rw [aget_drop hn, e] at this; exact this rfl
  · rw [aget_drop hn] at hg
    cases hk : aget L k with
    | none => rw [hk] at hg; cases hg
    | some l' =>
      rw [hk] at hg
      simp only at hg
      split at hg
      · cases hg
      · cases hg
        have := List.mem_filter.1 hx
        exact List.mem_filter.2 ⟨h.2 k l' hk x this.1, this.2⟩
theorem Held.weaken {L : Rows14} {ids ids' : List Int} (h : Held L ids) (hs : ∀ x ∈ ids, x ∈ ids') : Held L ids' := ⟨h.1, fun k l hg x hx => hs x (h.2 k l hg x hx)⟩
theorem Held.none {L : Rows14} {n : Nat} (h : Held L []) (hI : KInv L n) : L = [] := by
  cases L with
  | nil => rfl
  | cons p r =>
    have hg : aget (p :: r) p.1 = some p.2 := by simp [aget]
    have := (hI.rise _ _ hg).2.1
    cases hp : p.2 with
    | nil => exact absurd hp this
    | cons x t => have := h.2 _ _ hg x (by rw [hp]; simp); simp at this
theorem drop_nodup {L : Rows14} (hn : (akeys L).Nodup) (id : Int) : (akeys (drop14 L id)).Nodup := by
  unfold drop14
  exact keys_filterMap (f := fun p => if cutId id p.2 = [] then none else some (p.1, cutId id p.2)) (fun p q h => by
    split at h
    · cases h
    · cases h; rfl) hn
/-- How many rows are one client's alone. -/
def alone (L : Rows14) (id : Int) (ks : List ByteArray) : Nat := (ks.filter fun k => cutId id ((aget L k).getD []) = []).length
theorem alone_snoc (L : Rows14) (id : Int) (ks : List ByteArray) (k : ByteArray) : alone L id (ks ++ [k]) = alone L id ks + if cutId id ((aget L k).getD []) = [] then 1 else 0 := by
  unfold alone
  rw [List.filter_append, List.length_append]
  congr 1
  by_cases h : cutId id ((aget L k).getD []) = []
  · simp [h]
  · simp [h]
theorem alone_le (L : Rows14) (id : Int) (ks : List ByteArray) : alone L id ks ≤ ks.length := List.length_filter_le _ _
theorem alone_all {L : Rows14} (hn : (akeys L).Nodup) (id : Int) {ks : List ByteArray} (hp : ks.Perm (akeys L)) : alone L id ks + (drop14 L id).length = L.length := by
  have e1 : alone L id ks = alone L id (akeys L) := (hp.filter _).length_eq
  rw [e1]
  clear e1 hp
  unfold alone akeys drop14
  have e2 : ((L.map fun x => x.1).filter fun k => decide (cutId id ((aget L k).getD []) = [])).length = (L.filter fun p => decide (cutId id p.2 = [])).length := by
    rw [List.filter_map, List.length_map]
    congr 1
    refine List.filter_congr fun p hp => ?_
    have hg : aget L p.1 = some p.2 := by
      induction L with
      | nil => simp at hp
      | cons q r ih =>
        simp only [akeys, List.map_cons, List.nodup_cons] at hn
        simp only [aget]
        rcases List.mem_cons.1 hp with rfl | hp
        · rw [if_pos rfl]
        · rw [if_neg (fun e => hn.1 (by rw [e]; exact List.mem_map.2 ⟨p, hp, rfl⟩))]; exact ih hn.2 hp
    simp [hg]
  rw [e2]
  clear hn e2
  induction L with
  | nil => rfl
  | cons p r ih =>
    rw [List.filter_cons, List.filterMap_cons]
    by_cases h : cutId id p.2 = []
    · simp only [h, decide_true, if_true, List.length_cons]; omega
    · simp only [h, decide_false, if_false, Bool.false_eq_true, List.length_cons]; omega
end Go.Proofs.Ythgojhchakclcaa
