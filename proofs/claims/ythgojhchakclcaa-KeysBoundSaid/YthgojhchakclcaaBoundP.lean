/- KeysBound: the map of maps. -/
import Derived.Test.YthgojhchakclcaaLawLeave
set_option linter.unusedVariables false
set_option linter.unusedSimpArgs false
namespace Go.Proofs.Ythgojhchakclcaa
open Go.RowKit

theorem RangeAt.noMap {P : Program} {K : TypeId} {w : World} {b r : Nat} {m : List (ByteArray × Value)} {done : List ByteArray} {cnt : Nat} (h : RangeAt P K w b r m done cnt) {r' : Nat} {m' : List (Int × Value)} (hc : MapAt intEnc w r' m') : r' ≠ r := by
  obtain ⟨D, left, h1, h2⟩ := h
  obtain ⟨es, clock, since, seen, c0, x1, x2, x3, x4, x5, x6⟩ := h1
  obtain ⟨es', c', hb, _⟩ := hc
  rintro rfl
  rw [x5] at hb; injection hb with hb; cases hb
/-- A map of maps: which numbers stand at which text. -/
structure NowAt (w : World) (base nb : Nat) (ro : ByteArray → Option (List Int)) (E : Nat → Prop) (nm : List (ByteArray × Value)) (bo : ByteArray → Nat) (mo : ByteArray → List (Int × Value)) : Prop where
  mp : MapAt strEnc w nb nm
  nd : (akeys nm).Nodup
  keys : ∀ k, k ∈ akeys nm ↔ ro k ≠ none
  val : ∀ k v, aget nm k = some v → v = .map (some (bo k))
  inn : ∀ k l, ro k = some l → MapAt intEnc w (bo k) (mo k) ∧ (akeys (mo k)).Nodup ∧ (∀ x, x ∈ akeys (mo k) ↔ x ∈ l) ∧ ¬ E (bo k) ∧ base ≤ bo k ∧ bo k ≠ nb
  sep : ∀ k k', ro k ≠ none → ro k' ≠ none → bo k = bo k' → k = k'
  nE : ¬ E nb
  lo : base ≤ nb
section
variable {w w' : World} {base nb : Nat} {ro : ByteArray → Option (List Int)} {E : Nat → Prop} {nm : List (ByteArray × Value)} {bo : ByteArray → Nat} {mo : ByteArray → List (Int × Value)}
theorem NowAt.keep {G : Nat → Prop} (h : NowAt w base nb ro E nm bo mo) (u : Upd G w w') (hG : ∀ b, G b → E b ∨ w.heap.size ≤ b) : NowAt w' base nb ro E nm bo mo :=
  ⟨h.mp.keep u (fun hg => by rcases hG _ hg with g | g; exact h.nE g; have := h.mp.lt; omega), h.nd, h.keys, h.val, fun k l hk => by
    obtain ⟨a, b, c, d, e, f⟩ := h.inn k l hk
    exact ⟨a.keep u (fun hg => by rcases hG _ hg with g | g; exact d g; have := a.lt; omega), b, c, d, e, f⟩, h.sep, h.nE, h.lo⟩
theorem NowAt.foot {E' : Nat → Prop} (h : NowAt w base nb ro E nm bo mo) (u : Upd E w w') (f : FromF E E' w) : NowAt w' base nb ro E' nm bo mo := by
  have h1 := h.keep u (fun b hb => Or.inl hb)
  refine ⟨h1.mp, h1.nd, h1.keys, h1.val, fun k l hk => ?_, h1.sep, fun hE => ?_, h1.lo⟩
  · obtain ⟨a, b, c, d, e, g⟩ := h1.inn k l hk
    refine ⟨a, b, c, fun hE => ?_, e, g⟩
    rcases f _ hE with x | x
    · exact d x
    · have := (h.inn k l hk).1.lt; omega
  · rcases f _ hE with x | x
    · exact h.nE x
    · have := h.mp.lt; omega
theorem NowAt.congr {ro' : ByteArray → Option (List Int)} (h : NowAt w base nb ro E nm bo mo) (e : ∀ k, ro' k = ro k) : NowAt w base nb ro' E nm bo mo := by
  have : ro' = ro := funext e
  rw [this]; exact h
theorem NowAt.inner (h : NowAt w base nb ro E nm bo mo) {k : ByteArray} {l l' : List Int} (hk : ro k = some l) {m' : List (Int × Value)} (hM : MapAt intEnc w' (bo k) m') (hn : (akeys m').Nodup) (hm : ∀ x, x ∈ akeys m' ↔ x ∈ l') (u : Upd (fun b => b = bo k) w w') :
    NowAt w' base nb (fun k' => if k' = k then some l' else ro k') E nm bo (fun k' => if k' = k then m' else mo k') := by
  have hk1 := h.inn k l hk
  refine ⟨h.mp.keep u (fun e => hk1.2.2.2.2.2 e.symm), h.nd, fun k' => ?_, h.val, fun k' l2 hk' => ?_, fun k1 k2 h1 h2 e => h.sep k1 k2 ?_ ?_ e, h.nE, h.lo⟩
  · rw [h.keys]
    by_cases e : k' = k
    · subst e; simp [hk]
    · simp [e]
  · by_cases e : k' = k
    · subst e
      simp only [if_true] at hk' ⊢
      cases hk'
      exact ⟨hM, hn, hm, hk1.2.2.2⟩
    · simp only [e, if_false] at hk' ⊢
      have hk2 := h.inn k' l2 hk'
      exact ⟨hk2.1.keep u (fun e2 => e (h.sep k' k (by rw [hk']; simp) (by rw [hk]; simp) e2)), hk2.2⟩
  · by_cases e : k1 = k
    · subst e; rw [hk]; simp
    · simpa [e] using h1
  · by_cases e : k2 = k
    · subst e; rw [hk]; simp
    · simpa [e] using h2
theorem NowAt.gone (h : NowAt w base nb ro E nm bo mo) {k : ByteArray} (hM : MapAt strEnc w' nb (adel nm k)) (u : Upd (fun b => b = nb) w w') :
    NowAt w' base nb (fun k' => if k' = k then none else ro k') E (adel nm k) bo mo := by
  refine ⟨hM, nodup_adel h.nd k, fun k' => ?_, fun k' v hv => ?_, fun k' l hk' => ?_, fun k1 k2 h1 h2 e => h.sep k1 k2 ?_ ?_ e, h.nE, h.lo⟩
  · have a1 : k' ∈ akeys (adel nm k) ↔ aget (adel nm k) k' ≠ none := by rw [ne_eq, aget_none]; simp
    have a2 : k' ∈ akeys nm ↔ aget nm k' ≠ none := by rw [ne_eq, aget_none]; simp
    have a3 := h.keys k'
    rw [a1, aget_adel h.nd]
    by_cases e : k = k'
    · simp [e]
    · have e2 : ¬ k' = k := fun x => e x.symm
      simp only [e, e2, if_false]
      rw [← a2, a3]
  · rw [aget_adel h.nd] at hv
    split at hv
    · cases hv
    · exact h.val k' v hv
  · by_cases e : k' = k
    · simp [e] at hk'
    · simp only [e, if_false] at hk'
      have := h.inn k' l hk'
      exact ⟨this.1.keep u (fun e2 => this.2.2.2.2.2 e2), this.2⟩
  · intro hx; exact h1 (by simp only [hx]; split <;> rfl)
  · intro hx; exact h2 (by simp only [hx]; split <;> rfl)
theorem NowAt.first (h : NowAt w base nb ro E nm bo mo) {k : ByteArray} (hk : ro k = none) {b : Nat} (hb : w.heap.size ≤ b) (hE : ∀ i, E i → i < w.heap.size) (hbase : base ≤ w.heap.size) (hM : MapAt strEnc w' nb (aset nm k (.map (some b)))) (hB : MapAt intEnc w' b []) (u : Upd (fun i => i = nb) w w') :
    NowAt w' base nb (fun k' => if k' = k then some [] else ro k') E (aset nm k (.map (some b))) (fun k' => if k' = k then b else bo k') (fun k' => if k' = k then [] else mo k') := by
  have hnb := h.mp.lt
  have hlt : ∀ k' l, ro k' = some l → bo k' < w.heap.size := fun k' l e => (h.inn k' l e).1.lt
  refine ⟨hM, nodup_aset h.nd k _, fun k' => ?_, fun k' v hv => ?_, fun k' l hk' => ?_, fun k1 k2 h1 h2 e => ?_, h.nE, h.lo⟩
  · rw [mem_aset, h.keys]
    by_cases e : k' = k
    · simp [e]
    · simp [e]
  · rw [aget_aset] at hv
    by_cases e : k = k'
    · subst e; simp at hv ⊢; exact hv.symm
    · have e2 : ¬ k' = k := fun x => e x.symm
      simp only [e, e2, if_false] at hv ⊢
      exact h.val k' v hv
  · by_cases e : k' = k
    · simp only [e, if_true] at hk' ⊢
      cases hk'
      exact ⟨hB, by simp [akeys], fun x => by simp [akeys], fun x => by have := hE _ x; omega, by omega, by omega⟩
    · simp only [e, if_false] at hk' ⊢
      have := h.inn k' l hk'
      exact ⟨this.1.keep u (fun e2 => this.2.2.2.2.2 e2), this.2⟩
  · by_cases e1 : k1 = k <;> by_cases e2 : k2 = k
    · rw [e1, e2]
    · exfalso
      simp only [e1, e2, if_true, if_false] at e h2
      cases hr : ro k2 with
      | none => exact h2 hr
      | some l => have := hlt k2 l hr; omega
    · exfalso
      simp only [e1, e2, if_true, if_false] at e h1
      cases hr : ro k1 with
      | none => exact h1 hr
      | some l => have := hlt k1 l hr; omega
    · simp only [e1, e2, if_false] at e h1 h2
      exact h.sep k1 k2 h1 h2 e
end
theorem rise_nodup {l : List Int} (h : Rising l) : l.Nodup := h.imp (fun hab e => by subst e; exact absurd hab (Int.lt_irrefl _))
theorem len_of_mem {κ : Type} [DecidableEq κ] {a b : List κ} (ha : a.Nodup) (hb : b.Nodup) (h : ∀ x, x ∈ a ↔ x ∈ b) : a.length = b.length := ((List.perm_ext_iff_of_nodup ha hb).2 h).length_eq
theorem NowAt.len {w : World} {base nb : Nat} {L : Rows14} {E : Nat → Prop} {nm : List (ByteArray × Value)} {bo : ByteArray → Nat} {mo : ByteArray → List (Int × Value)} (h : NowAt w base nb (aget L) E nm bo mo) (hn : (akeys L).Nodup) : nm.length = L.length := by
  have := len_of_mem h.nd hn (fun x => by rw [h.keys, ne_eq, aget_none]; simp)
  simpa [akeys] using this
theorem NowAt.ilen {w : World} {base nb : Nat} {ro : ByteArray → Option (List Int)} {E : Nat → Prop} {nm : List (ByteArray × Value)} {bo : ByteArray → Nat} {mo : ByteArray → List (Int × Value)} (h : NowAt w base nb ro E nm bo mo) {k : ByteArray} {l : List Int} (hk : ro k = some l) (hr : Rising l) : (mo k).length = l.length := by
  have h1 := h.inn k l hk
  have := len_of_mem h1.2.1 (rise_nodup hr) h1.2.2.1
  simpa [akeys] using this
theorem NowAt.none {w : World} {base nb : Nat} {ro : ByteArray → Option (List Int)} {E : Nat → Prop} {nm : List (ByteArray × Value)} {bo : ByteArray → Nat} {mo : ByteArray → List (Int × Value)} (h : NowAt w base nb ro E nm bo mo) {k : ByteArray} (hk : ro k = .none) : aget nm k = .none := aget_none.2 (fun hm => (h.keys k).1 hm hk)
theorem NowAt.some {w : World} {base nb : Nat} {ro : ByteArray → Option (List Int)} {E : Nat → Prop} {nm : List (ByteArray × Value)} {bo : ByteArray → Nat} {mo : ByteArray → List (Int × Value)} (h : NowAt w base nb ro E nm bo mo) {k : ByteArray} {l : List Int} (hk : ro k = .some l) : aget nm k = .some (.map (.some (bo k))) := by
  cases hg : aget nm k with
  | none => exact absurd hg (fun e => absurd ((h.keys k).2 (by rw [hk]; simp)) (aget_none.1 e))
  | some v => rw [h.val k v hg]
theorem NowAt.keepR {w w' : World} {base nb r : Nat} {ro : ByteArray → Option (List Int)} {E : Nat → Prop} {nm : List (ByteArray × Value)} {bo : ByteArray → Nat} {mo : ByteArray → List (Int × Value)} {done : List ByteArray} {cnt : Nat} {P : Program} {K : TypeId} (h : NowAt w base nb ro E nm bo mo) (hr : RangeAt P K w nb r nm done cnt) (u : Upd (fun b => b = r) w w') : NowAt w' base nb ro E nm bo mo :=
  ⟨h.mp.keep u (fun e => hr.lt.2.2 e.symm), h.nd, h.keys, h.val, fun k l hk => by
    have := h.inn k l hk
    exact ⟨this.1.keep u (fun e => hr.noMap this.1 e), this.2⟩, h.sep, h.nE, h.lo⟩
/-- What Add does to the rows, as a law of lookups. -/
theorem add_row {most : Int} {L : Rows14} {key : ByteArray} {id : Int} (hn : (akeys L).Nodup) (hm : 1 ≤ most) (k : ByteArray) :
    aget (add14 most L key id).2.2.2 k = if k = key then some (wth ((aget L key).getD []) id) else if (add14 most L key id).2.2.1 = true ∧ k = (add14 most L key id).1 then none else aget L k := by
  unfold add14
  cases hk : aget L key with
  | some l =>
    simp only
    rw [aget_aset]
    by_cases e : k = key
    · simp [e]
    · have e2 : ¬ key = k := fun x => e x.symm
      simp [e, e2]
  | none =>
    simp only
    by_cases hf : most ≤ L.length
    · rw [if_pos hf]
      cases L with
      | nil => simp at hf; omega
      | cons p r =>
        simp only
        have hpr := hn
        simp only [akeys, List.map_cons, List.nodup_cons] at hpr
        have hk2 : ¬ p.1 = key := fun e => by simp [aget, e] at hk
        have hkr : aget r key = none := by simpa [aget, hk2] using hk
        rw [← aset_out hkr, aget_aset]
        by_cases e : k = key
        · simp [e, wth]
        · have e2 : ¬ key = k := fun x => e x.symm
          simp only [e, e2, if_false]
          by_cases e3 : k = p.1
          · have : aget r k = none := aget_none.2 (by rw [e3]; exact hpr.1)
            simp [e3, aget_none.2 hpr.1]
          · have e4 : ¬ p.1 = k := fun x => e3 x.symm
            simp [aget, e3, e4]
    · rw [if_neg hf]
      simp only
      rw [← aset_out hk, aget_aset]
      by_cases e : k = key
      · simp [e, wth]
      · have e2 : ¬ key = k := fun x => e x.symm
        simp [e, e2]
theorem add_len {most : Int} {L : Rows14} {key : ByteArray} {id : Int} (hm : 1 ≤ most) (h : (L.length : Int) ≤ most) : ((add14 most L key id).2.2.2.length : Int) ≤ most := by
  unfold add14
  cases hk : aget L key with
  | some l =>
    have : (aset L key (wth l id)).length = L.length := by
      have := congrArg List.length (akeys_aset L key (wth l id))
      have hm2 : key ∈ akeys L := by
        refine Classical.byContradiction fun e => ?_
        rw [aget_none.2 e] at hk; cases hk
      rw [if_pos hm2] at this
      simpa [akeys] using this
    simp only [this]; exact h
  | none =>
    simp only
    by_cases hf : most ≤ L.length
    · rw [if_pos hf]
      cases L with
      | nil => simp at hf; omega
      | cons p r => simp at h ⊢; omega
    · rw [if_neg hf]; simp; omega
theorem add_full {most : Int} {L : Rows14} {key : ByteArray} {id : Int} (h : (add14 most L key id).2.2.1 = true) : aget L key = none ∧ ∃ p r, L = p :: r ∧ (add14 most L key id).1 = p.1 ∧ (add14 most L key id).2.1 = p.2 := by
  unfold add14 at *
  cases hk : aget L key with
  | some l => rw [hk] at h; simp at h
  | none =>
    rw [hk] at h
    simp only at h ⊢
    by_cases hf : most ≤ L.length
    · rw [if_pos hf] at h ⊢
      cases L with
      | nil => simp at h
      | cons p r => exact ⟨by first | rfl | trivial, p, r, rfl, rfl, rfl⟩
    · rw [if_neg hf] at h; simp at h
end Go.Proofs.Ythgojhchakclcaa
