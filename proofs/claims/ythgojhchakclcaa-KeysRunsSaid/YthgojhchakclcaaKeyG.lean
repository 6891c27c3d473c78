/- A client has read a key: on the list of rows. -/
import Derived.Test.YthgojhchakclcaaKeyF
set_option linter.unusedVariables false
set_option linter.unusedSimpArgs false
namespace Go.Proofs.Ythgojhchakclcaa
open Go.RowKit

/-- A client has read a key: whose row went, its clients, whether one went; the rows then. -/
def add14 (most : Int) (L : Rows14) (key : ByteArray) (id : Int) : ByteArray × List Int × Bool × Rows14 :=
  match aget L key with
  | some l => (ByteArray.empty, [], false, aset L key (wth l id))
  | none => if most ≤ L.length then (match L with
      | [] => (ByteArray.empty, [], false, [(key, [id])])
      | p :: r => (p.1, p.2, true, r ++ [(key, [id])])) else (ByteArray.empty, [], false, L ++ [(key, [id])])
theorem aset_out {κ ν : Type} [DecidableEq κ] {m : List (κ × ν)} {k : κ} (h : aget m k = none) (v : ν) : aset m k v = m ++ [(k, v)] := by
  induction m with
  | nil => rfl
  | cons p r ih =>
    simp only [aget] at h
    split at h
    · cases h
    · next hp => simp only [aset, if_neg hp, List.cons_append, ih h]
theorem aset_len {κ ν : Type} [DecidableEq κ] (m : List (κ × ν)) (k : κ) (v : ν) : (aset m k v).length ≤ m.length + 1 := by
  induction m with
  | nil => simp [aset]
  | cons p r ih =>
    unfold aset
    split
    · simp
    · simp only [List.length_cons]; omega
theorem upd_aset {ν : Type} (L : List (ByteArray × ν)) (k : ByteArray) (v : ν) : upd (aget L) k (some v) = aget (aset L k v) := by
  funext x
  rw [aget_aset]
  by_cases e : k = x
  · subst e; rw [upd_at, if_pos rfl]
  · rw [upd_ne _ _ (Ne.symm e), if_neg e]
theorem upd_adel {ν : Type} {L : List (ByteArray × ν)} (h : (akeys L).Nodup) (k : ByteArray) : upd (aget L) k none = aget (adel L k) := by
  funext x
  rw [aget_adel h]
  by_cases e : k = x
  · subst e; rw [upd_at, if_pos rfl]
  · rw [upd_ne _ _ (Ne.symm e), if_neg e]
theorem aget_mem {ν : Type} {L : List (ByteArray × ν)} {k : ByteArray} : k ∈ akeys L ↔ aget L k ≠ none := by
  constructor
  · intro hx e; exact (aget_none.1 e) hx
  · intro hx; exact Decidable.not_not.1 fun hh => hx (aget_none.2 hh)

theorem kat_of_add {w1 w' : World} {base kb rb rows reads : Nat} {most : Int} {F : Nat → Prop} {rv : ByteArray → Value} {iv : Int → Nat} {im : Int → List (ByteArray × Value)} {L : Rows14} {n : Nat} {key : ByteArray} {id : Int}
    (hD : ∀ id k, k ∈ akeys (im id) ↔ ∃ l, aget L k = some l ∧ id ∈ l) (hI : KInv L n) (t : AddTo w1 w' base kb rb rows reads most (akeys (aset L key (wth ((aget L key).getD []) id))) F rv (aget L) iv im key id) :
    ∃ E', KAt w' base kb most (aset L key (wth ((aget L key).getD []) id)) (n + 1) E' ∧ Upd (KFoot kb rows reads F rv (aget L) iv im) w1 w' ∧ FromF (KFoot kb rows reads F rv (aget L) iv im) E' w1 := by
  obtain ⟨R', rv', Q', iv', im', h, hm, u, f⟩ := t
  rw [upd_aset] at h f
  refine ⟨_, ⟨rb, rows, reads, F, R', rv', Q', iv', im', h, fun id' k => ?_, ⟨fun k l hk => ?_, Nat.le_trans (aset_len _ _ _) (by have := hI.len; omega)⟩, rfl⟩, u, f⟩
  · rw [hm, hD, aget_aset]
    by_cases e : key = k
    · subst e
      rw [if_pos rfl]
      constructor
      · rintro (⟨l, h1, h2⟩ | ⟨h1, _⟩)
        · exact ⟨_, rfl, wth_mem.2 (Or.inr (by rw [h1]; exact h2))⟩
        · exact ⟨_, rfl, wth_mem.2 (Or.inl h1)⟩
      · rintro ⟨l, h1, h2⟩
        cases h1
        rcases wth_mem.1 h2 with h2 | h2
        · exact Or.inr ⟨h2, rfl⟩
        · cases hk : aget L key with
          | none => rw [hk] at h2; simp at h2
          | some l => rw [hk] at h2; exact Or.inl ⟨l, rfl, h2⟩
    · rw [if_neg e]
      constructor
      · rintro (h1 | ⟨_, h1⟩)
        · exact h1
        · exact absurd h1.symm e
      · exact Or.inl
  · rw [aget_aset] at hk
    split at hk
    · cases hk
      have hb : Rising ((aget L key).getD []) ∧ ((aget L key).getD []).length ≤ n := by
        cases hk : aget L key with
        | none => exact ⟨List.Pairwise.nil, Nat.zero_le _⟩
        | some l => exact ⟨(hI.rise key l hk).1, (hI.rise key l hk).2.2⟩
      exact ⟨wth_rising hb.1 id, by unfold wth; simp, Nat.le_trans (wth_len _ _) (by omega)⟩
    · have := hI.rise k l hk
      exact ⟨this.1, this.2.1, by omega⟩

theorem wth_nil (x : Int) : wth [] x = [x] := rfl
theorem kadd_any (base kb : Nat) (most : Int) (L : Rows14) (n : Nat) (E : Nat → Prop) (key : ByteArray) (id : Int) (w : World) (h : KAt w base kb most L n E) (hn : n ≤ 90000) (hmost : 1 ≤ most) :
    Calls Try.prog 8 #[.pointer (some ⟨kb, 0, none⟩), .string key, .int .i64 id] w fun e w' => ∃ v, e = .returned (.tuple #[.string (add14 most L key id).1, v, .bool (add14 most L key id).2.2.1]) ∧ IntsAt w' base v (add14 most L key id).2.1 ∧
      ∃ E', KAt w' base kb most (add14 most L key id).2.2.2 (n + 1) E' ∧ Upd E w w' ∧ FromF E E' w ∧ (∀ b, v.ownBlock = some b → ¬ E' b) := by
  obtain ⟨rb, rows, reads, F, R, rv, Q, iv, im, h, hD, hI, rfl⟩ := h
  have hnd := h.recent.nodup
  have hkl : (akeys L).length = L.length := by simp [akeys]
  have hrn : ∀ k, Rising ((aget L k).getD []) ∧ ((aget L k).getD []).length ≤ n := fun k => by
    cases hk : aget L k with
    | none => exact ⟨List.Pairwise.nil, Nat.zero_le _⟩
    | some l => exact ⟨(hI.rise k l hk).1, (hI.rise k l hk).2.2⟩
  have nb : ∀ {E' : Nat → Prop} (b : Nat), (Value.slice none 0 0).ownBlock = some b → ¬ E' b := fun b hb => by cases hb
  unfold add14
  cases hk : aget L key with
  | some l =>
    have hin : key ∈ akeys L := aget_mem.2 (by rw [hk]; simp)
    refine (addA_raw base kb rb rows reads most (akeys L) F R rv (aget L) Q iv im key id w h hin (hrn key).1 (by have := (hrn key).2; omega)).mono ?_
    rintro e w' ⟨rfl, t⟩
    have ek : akeys L = akeys (aset L key (wth ((aget L key).getD []) id)) := by rw [akeys_aset, if_pos hin]
    rw [ek] at t
    obtain ⟨E', h1, h2, h3⟩ := kat_of_add hD hI t
    rw [hk] at h1
    exact ⟨_, rfl, World.ownsRow_nil _ _ _ _, E', h1, h2, h3, nb⟩
  | none =>
    have hout : key ∉ akeys L := aget_none.1 hk
    simp only
    by_cases hm : most ≤ (L.length : Int)
    · rw [if_pos hm]
      match L, h, hD, hI, hnd, hkl, hrn, hk, hout, hm with
      | [], _, _, _, _, _, _, _, _, hm => simp at hm; omega
      | (k0, l0) :: r, h, hD, hI, hnd, hkl, hrn, hk, hout, hm =>
        have e0 : aget ((k0, l0) :: r) k0 = some l0 := by simp [aget]
        have hne : k0 ≠ key := fun e => hout (by simp [akeys, e])
        have er : adel ((k0, l0) :: r) k0 = r := by simp [adel]
        have hkr : aget r key = none := by simpa [aget, hne] using hk
        have hr0 := hrn k0
        rw [e0] at hr0
        refine (addB_raw base kb rb rows reads most (akeys ((k0, l0) :: r)) F R rv (aget ((k0, l0) :: r)) Q iv im key id w k0 (akeys r) h hout rfl (by rw [hkl]; exact hm) (by rw [hkl]; have := hI.len; omega) (hrn key).1 (by have := (hrn key).2; omega)
          (fun id hid => by rw [e0] at hid; exact (hD id k0).2 ⟨l0, e0, hid⟩) (by rw [e0]; exact nodup_of_rising hr0.1) (fun id => Nat.le_trans (im_len hD (fun id hid => (h.imap id hid).2) hI.len id) (by omega)) (by rw [e0]; have := hr0.2; simp at this ⊢; omega)).mono ?_
        rintro e w' ⟨rfl, w1, F1, R1, Q1, im1, h1, ⟨im3, im4⟩, hv, u1, f1, t⟩
        rw [upd_adel hnd, er] at h1 f1 t
        rw [e0] at hv
        have ekk : (akeys ((k0, l0) :: r)).erase k0 = akeys r := by simp [akeys]
        have hD1 : ∀ id k, k ∈ akeys (im1 id) ↔ ∃ l, aget r k = some l ∧ id ∈ l := fun id' k => by
          rw [im4, hD]
          have hx : aget r k = if k0 = k then none else aget ((k0, l0) :: r) k := by rw [← aget_adel hnd, er]
          rw [hx]
          by_cases e : k0 = k
          · subst e
            rw [if_pos rfl, e0]
            constructor
            · rintro ⟨⟨l, h1, h2⟩, h3⟩; cases h1; exact absurd ⟨rfl, h2⟩ h3
            · rintro ⟨l, h1, _⟩; cases h1
          · rw [if_neg e]
            constructor
            · rintro ⟨h1, _⟩; exact h1
            · intro h1; exact ⟨h1, fun h2 => e h2.1.symm⟩
        have hI1 : KInv r n := ⟨fun k l hk => hI.rise k l (by
          have hx : aget r k = if k0 = k then none else aget ((k0, l0) :: r) k := by rw [← aget_adel hnd, er]
          rw [hx] at hk
          split at hk
          · cases hk
          · exact hk), by have := hI.len; simp at this; omega⟩
        have ek : touched ((akeys ((k0, l0) :: r)).erase k0) key = akeys (aset r key (wth ((aget r key).getD []) id)) := by
          rw [ekk, akeys_aset, if_neg (aget_none.1 hkr)]
          unfold touched; rw [erase_none (aget_none.1 hkr)]
        rw [ek] at t
        obtain ⟨E', g1, g2, g3⟩ := kat_of_add hD1 hI1 t
        rw [hkr, Option.getD_none, wth_nil, aset_out hkr] at g1
        have own1 : ∀ b, (rowV rv (aget ((k0, l0) :: r)) k0).ownBlock = some b → ¬ KFoot kb rows reads F1 rv (aget r) iv im1 b ∧ b < w.heap.size := fun b hb => by
          obtain ⟨l', x1, x2⟩ := h.rowOwn hb
          have hlt := (ints_block (h.rrow k0 l' x1) x2).2.1
          refine ⟨?_, hlt⟩
          obtain ⟨_, _, cs, hc⟩ := ints_block hv hb
          rintro (g | g | g | g | ⟨k, l, hk, g⟩ | ⟨id, hid, g⟩)
          · have := h1.blk; unfold Blk at this; rw [← g, hc] at this; injection this with this; injection this with _ h2; exact absurd h2 (by decide)
          · exact h1.rmap.notCells hc g.symm
          · exact h1.qmap.notCells hc g.symm
          · exact h1.recent.apart hc (by decide) (by decide) g
          · have hx : aget r k = if k0 = k then none else aget ((k0, l0) :: r) k := by rw [← aget_adel hnd, er]
            rw [hx] at hk
            split at hk
            · cases hk
            · next e => exact h.rne k0 k l' l e x1 hk b x2 g
          · exact (h1.imap id hid).1.notCells hc g.symm
        refine ⟨_, rfl, hv.keep g2 (fun b hb => (own1 b hb).1), E', g1, f1.lift u1 g2, FromF.trans f1 g3 u1.size, fun b hb hE => ?_⟩
        obtain ⟨o1, o2⟩ := own1 b hb
        rcases g3 b hE with g | g
        · exact o1 g
        · have := u1.size; omega
    · rw [if_neg hm]
      refine (addC_raw base kb rb rows reads most (akeys L) F R rv (aget L) Q iv im key id w h hout (by rw [hkl]; omega) (by rw [hkl]; have := hI.len; omega) (hrn key).1 (by have := (hrn key).2; omega)).mono ?_
      rintro e w' ⟨rfl, w1, F1, h1, u1, f1, t⟩
      have ek : touched (akeys L) key = akeys (aset L key (wth ((aget L key).getD []) id)) := by
        rw [akeys_aset, if_neg hout]; unfold touched; rw [erase_none hout]
      rw [ek] at t
      obtain ⟨E', g1, g2, g3⟩ := kat_of_add hD hI t
      rw [hk, Option.getD_none, wth_nil, aset_out hk] at g1
      exact ⟨_, rfl, World.ownsRow_nil _ _ _ _, E', g1, f1.lift u1 g2, FromF.trans f1 g3 u1.size, nb⟩
end Go.Proofs.Ythgojhchakclcaa
