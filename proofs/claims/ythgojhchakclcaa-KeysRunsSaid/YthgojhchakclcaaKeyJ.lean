/- Walk: a client leaves. -/
import Derived.Test.YthgojhchakclcaaKeyI
set_option linter.unusedVariables false
set_option linter.unusedSimpArgs false
namespace Go.Proofs.Ythgojhchakclcaa
open Go.RowKit

def cutId (id : Int) (l : List Int) : List Int := l.filter (· ≠ id)
/-- One key's row without a client. -/
def dropOne (id : Int) (L : Rows14) (k : ByteArray) : Rows14 := match aget L k with
  | none => L
  | some l => if cutId id l = [] then adel L k else aset L k (cutId id l)
/-- All rows without a client. -/
def drop14 (L : Rows14) (id : Int) : Rows14 := L.filterMap fun p => if cutId id p.2 = [] then none else some (p.1, cutId id p.2)
def cutF (id : Int) (p : ByteArray × List Int) : Option (ByteArray × List Int) := if cutId id p.2 = [] then none else some (p.1, cutId id p.2)
theorem fm_congr {α β : Type} {f g : α → Option β} : ∀ {l : List α}, (∀ x ∈ l, f x = g x) → l.filterMap f = l.filterMap g
  | [], _ => rfl
  | a :: l, h => by rw [List.filterMap_cons, List.filterMap_cons, h a (by simp), fm_congr (fun x hx => h x (by simp [hx]))]
theorem dropOne_eq (id : Int) {L : Rows14} (h : (akeys L).Nodup) (k : ByteArray) : dropOne id L k = L.filterMap fun p => if p.1 = k then cutF id p else some p := by
  induction L with
  | nil => rfl
  | cons p r ih =>
    simp only [akeys, List.map_cons, List.nodup_cons] at h
    by_cases e : p.1 = k
    · have hr : r.filterMap (fun p => if p.1 = k then cutF id p else some p) = r := by
        have : ∀ q ∈ r, (if q.1 = k then cutF id q else some q) = some q := fun q hq => by
          rw [if_neg]; intro e2; exact h.1 (by rw [e, ← e2]; exact List.mem_map.2 ⟨q, hq, rfl⟩)
        rw [fm_congr this]; simp
      rw [List.filterMap_cons, if_pos e, hr]
      unfold dropOne cutF
      simp only [aget, e, if_true]
      by_cases hc : cutId id p.2 = []
      · simp [hc, adel, e]
      · simp [hc, aset, e]
    · rw [List.filterMap_cons, if_neg e, ← ih h.2]
      unfold dropOne
      simp only [aget, if_neg e]
      cases hk : aget r k with
      | none => rfl
      | some l =>
        simp only
        split
        · simp [adel, e]
        · simp [aset, e]
theorem keys_filterMap {L : Rows14} {f : ByteArray × List Int → Option (ByteArray × List Int)} (hf : ∀ p q, f p = some q → q.1 = p.1) (h : (akeys L).Nodup) : (akeys (L.filterMap f)).Nodup := by
  have : (akeys (L.filterMap f)).Sublist (akeys L) := by
    clear h
    induction L with
    | nil => simp [akeys]
    | cons p r ih =>
      rw [List.filterMap_cons]
      cases hp : f p with
      | none => simp only [akeys, List.map_cons] at ih ⊢; exact ih.cons _
      | some q => simp only [akeys, List.map_cons] at ih ⊢; rw [hf p q hp]; exact ih.cons_cons _
  exact h.sublist this
theorem cutF_key {id : Int} {p q : ByteArray × List Int} (h : cutF id p = some q) : q.1 = p.1 := by
  unfold cutF at h; split at h
  · cases h
  · cases h; rfl
theorem dropOne_nodup (id : Int) {L : Rows14} (h : (akeys L).Nodup) (k : ByteArray) : (akeys (dropOne id L k)).Nodup := by
  rw [dropOne_eq id h]
  refine keys_filterMap (fun p q hp => ?_) h
  split at hp
  · exact cutF_key hp
  · cases hp; rfl
theorem drop_fold (id : Int) : ∀ (ks : List ByteArray) {L : Rows14}, ks.Nodup → (akeys L).Nodup → ks.foldl (dropOne id) L = L.filterMap fun p => if p.1 ∈ ks then cutF id p else some p
  | [], L, _, _ => by simp
  | k :: ks, L, hk, h => by
    rw [List.foldl_cons, drop_fold id ks (List.nodup_cons.1 hk).2 (dropOne_nodup id h k), dropOne_eq id h, List.filterMap_filterMap]
    refine fm_congr fun p _ => ?_
    have hkn := (List.nodup_cons.1 hk).1
    by_cases e : p.1 = k
    · rw [if_pos e, if_pos (by simp [e])]
      cases hc : cutF id p with
      | none => rfl
      | some q =>
        have hq := cutF_key hc
        simp only [Option.bind_some]
        rw [if_neg (by rw [hq, e]; exact hkn)]
    · rw [if_neg e]
      simp only [Option.bind_some, List.mem_cons, e, false_or]
theorem drop_all (id : Int) {ks : List ByteArray} {L : Rows14} (hk : ks.Nodup) (h : (akeys L).Nodup) (hin : ∀ k l, aget L k = some l → (k ∈ ks ↔ id ∈ l)) (hne : ∀ k l, aget L k = some l → l ≠ []) : ks.foldl (dropOne id) L = drop14 L id := by
  rw [drop_fold id ks hk h]
  unfold drop14
  refine fm_congr fun p hp => ?_
  have hg : aget L p.1 = some p.2 := by
    clear hin hne hk
    induction L with
    | nil => simp at hp
    | cons q r ih =>
      simp only [akeys, List.map_cons, List.nodup_cons] at h
      simp only [aget]
      rcases List.mem_cons.1 hp with rfl | hp
      · rw [if_pos rfl]
      · rw [if_neg (fun e => h.1 (by rw [e]; exact List.mem_map.2 ⟨p, hp, rfl⟩))]; exact ih h.2 hp
  by_cases hm : p.1 ∈ ks
  · rw [if_pos hm]; rfl
  · rw [if_neg hm]
    have hni : id ∉ p.2 := fun hh => hm ((hin _ _ hg).2 hh)
    have hc : cutId id p.2 = p.2 := List.filter_eq_self.2 (fun x hx => by simp; rintro rfl; exact hni hx)
    rw [hc, if_neg (hne _ _ hg)]
theorem dropOne_get {id : Int} {L : Rows14} (h : (akeys L).Nodup) {k k' : ByteArray} (hk : k' ≠ k) : aget (dropOne id L k) k' = aget L k' := by
  unfold dropOne
  cases aget L k with
  | none => rfl
  | some l =>
    simp only
    split
    · rw [aget_adel h, if_neg (Ne.symm hk)]
    · rw [aget_aset, if_neg (Ne.symm hk)]

section
variable {w w1 w2 w3 w4 : World} {base kb rb rows reads : Nat} {most : Int} {ks : List ByteArray} {F F4 : Nat → Prop} {R R4 : List (ByteArray × Value)} {rv : ByteArray → Value} {Q Q4 : List (Int × Value)} {iv : Int → Nat} {im im4 : Int → List (ByteArray × Value)} {L : Rows14} {n : Nat} {id : Int} {key : ByteArray} {l : List Int} {v : Value}
/-- The rows behind one key's turn. -/
theorem cut_inv (hI : KInv L n) (hnd : (akeys L).Nodup) (hk : aget L key = some l) : KInv (dropOne id L key) n := by
  have hb := hI.rise key l hk
  refine ⟨fun k' l' hk' => ?_, ?_⟩
  · by_cases e : k' = key
    · subst e
      unfold dropOne at hk'
      rw [hk] at hk'
      simp only at hk'
      split at hk'
      · rw [aget_adel hnd, if_pos rfl] at hk'; cases hk'
      · next hc => rw [aget_aset, if_pos rfl] at hk'; cases hk'; exact ⟨hb.1.filter _, hc, Nat.le_trans (List.length_filter_le _ _) hb.2.2⟩
    · rw [dropOne_get hnd e] at hk'; exact hI.rise k' l' hk'
  · unfold dropOne
    rw [hk]
    simp only
    split
    · exact Nat.le_trans (adel_len _ _) hI.len
    · have : (akeys (aset L key (cutId id l))).length = (akeys L).length := by rw [akeys_aset, if_pos (aget_mem.2 (by rw [hk]; simp))]
      simp only [akeys, List.length_map] at this
      rw [this]; exact hI.len
theorem cut_reads (hD : ∀ id k, k ∈ akeys (im id) ↔ ∃ l, aget L k = some l ∧ id ∈ l) (hnd : (akeys L).Nodup) (hk : aget L key = some l) (hin : id ∈ l)
    (hm : ∀ id' k, k ∈ akeys (im4 id') ↔ k ∈ akeys (im id') ∧ ¬ (id' = id ∧ k = key)) (id' : Int) (k : ByteArray) : k ∈ akeys (im4 id') ↔ ∃ l', aget (dropOne id L key) k = some l' ∧ id' ∈ l' := by
  rw [hm, hD]
  by_cases e : k = key
  · subst e
    unfold dropOne
    rw [hk]
    simp only
    split
    · next hc =>
      rw [aget_adel hnd, if_pos rfl]
      constructor
      · rintro ⟨⟨l', h1, h2⟩, h3⟩
        cases h1
        have : id' ∈ cutId id l := List.mem_filter.2 ⟨h2, by simpa using fun e => h3 ⟨e, trivial⟩⟩
        rw [hc] at this; simp at this
      · rintro ⟨l', h1, _⟩; cases h1
    · next hc =>
      rw [aget_aset, if_pos rfl]
      constructor
      · rintro ⟨⟨l', h1, h2⟩, h3⟩
        cases h1
        exact ⟨_, rfl, List.mem_filter.2 ⟨h2, by simpa using fun e => h3 ⟨e, trivial⟩⟩⟩
      · rintro ⟨l', h1, h2⟩
        cases h1
        have := List.mem_filter.1 h2
        exact ⟨⟨_, rfl, this.1⟩, fun h => by simpa [h.1] using this.2⟩
  · rw [dropOne_get hnd e]
    constructor
    · rintro ⟨h1, _⟩; exact h1
    · intro h1; exact ⟨h1, fun h2 => e h2.2⟩
end
end Go.Proofs.Ythgojhchakclcaa
