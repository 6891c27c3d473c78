/- Walks: a rising list with one more; the state as a list of rows. -/
import Derived.Test.YtmlojbfcmebboaaGreatK15
import Derived.Deep.RegionHeld3
set_option linter.unusedVariables false
set_option linter.unusedSimpArgs false
set_option maxRecDepth 100000
namespace Go.Proofs.YtmlojbfcmebboaaGreat
open Go.RowKit

set_option maxHeartbeats 1000000 in
theorem with_any (base : Nat) (v : Value) (xs : List Int) (x : Int) (w : World) (h : IntsAt w base v xs) (hs : Rising xs) (hb : base ≤ w.heap.size) (hl : xs.length ≤ 1000000) :
    Calls Tryz.prog 105 #[v, .int .i64 x] w fun e w' => ∃ v', e = .returned v' ∧ IntsAt w' base v' (wth xs x) ∧ Upd (fun k => v.ownBlock = some k) w w' ∧ (∀ k, v'.ownBlock = some k → v.ownBlock = some k ∨ w.heap.size ≤ k) := by
  have hle : xs.Pairwise (· ≤ ·) := hs.imp (fun h => by omega)
  obtain ⟨p, c, ev, _⟩ := own_slice h
  have BS : Hid (Calls Tryz.prog 94 #[v, .int .i64 x] w fun e w' => e = .returned (.tuple #[.int .i64 (xs.countP (· < x) : Nat), .bool (xs.contains x)]) ∧ ∃ q, w' = w.drewN q) := by
    show Calls _ _ _ _ _
    rcases ints_blk h with ⟨rfl, rfl⟩ | ⟨b, cap, cs, rfl, _, hB, hc, hm⟩
    · exact (Tryz.slices_BinarySearch_int_empty none 0 x w).mono fun e w' ⟨h1, h2⟩ => ⟨h1, 0, by rw [h2]; rfl⟩
    · have := Tryz.slices_BinarySearch_int b 0 xs.length cap xs x w (Nat.le_refl _) (by omega) (fun j hj => by
        rw [Nat.zero_add]
        refine hB.cellAt ?_
        rw [List.getElem?_append_left (by simpa using hj)]
        simp [hj]) (by simpa using hle)
      rw [List.take_length] at this
      exact this
  by_cases hx : x ∈ xs
  · have hc : xs.contains x = true := by simpa using hx
    rw [hc] at BS
    have E := Lib.hid (wth_in hs hx)
    have H := Lib.hid h
    clear h hs hle hx hc
    subst ev
    go_enter Tryz.func105, Tryz.ntmps105
    go_wp2_with fail
    refine (BS.out).mono ?_
    rintro e w1 ⟨rfl, q, rfl⟩
    go_wp2
    go_ret
    rw [E.out]
    exact ⟨_, rfl, H.out.keep (F := fun _ => False) ((Upd.refl _ _).drewN q) (fun _ _ => id), (Upd.refl _ _).drewN q, fun k hk => Or.inl hk⟩
  · have hc : xs.contains x = false := by simpa using hx
    rw [hc] at BS
    have E := Lib.hid (wth_out hs hx)
    have hcl : xs.countP (· < x) ≤ xs.length := List.countP_le_length
    have H := Lib.hid h
    generalize xs.countP (· < x) = i at *
    clear hs hle hx hc h
    subst ev
    go_enter Tryz.func105, Tryz.ntmps105
    go_wp2_with fail
    refine (BS.out).mono ?_
    rintro e w1 ⟨rfl, q, rfl⟩
    have u1 : Upd (fun _ => False) w ((w.drewN q).alloc (.cells #[.int .i64 x] 3)) := ((Upd.refl _ w).drewN q).alloc _
    have I := Lib.hid (insert_any base i w.heap.size _ xs x _ (H.out.keep u1 (fun _ _ => id)) hcl (Blk.made (w.drewN q) [.int .i64 x] 3) (by simp; omega) (fun e => by
      have := (ints_block H.out e).2.1; omega) hl)
    have U1 := Lib.hid u1
    clear u1 BS
    go_wp2_with fail
    refine (I.out).mono ?_
    rintro e w2 ⟨v2, rfl, i2, u2, o2⟩
    have I2 := Lib.hid i2
    have U2 := Lib.hid u2
    have O2 := Lib.hid o2
    clear i2 u2 o2 I
    go_wp2
    go_ret
    rw [E.out]
    refine ⟨_, rfl, I2.out, (U1.out.weaken (F := fun k => (Value.slice p xs.length c).ownBlock = some k) (fun _ _ h => h.elim)).trans U2.out (fun _ _ h => h), fun k hk => ?_⟩
    rcases O2.out k hk with g | g
    · exact Or.inl g
    · right; simp at g; omega

theorem akeys_erase {ν : Type} (m : List (ByteArray × ν)) (k : ByteArray) : akeys (adel m k) = (akeys m).erase k := by
  induction m with
  | nil => rfl
  | cons p r ih =>
    unfold adel
    by_cases e : p.1 = k
    · rw [if_pos e]; simp [akeys, e]
    · rw [if_neg e]
      have e1 : akeys (p :: adel r k) = p.1 :: akeys (adel r k) := rfl
      rw [e1, ih]
      simp only [akeys, List.map_cons]
      rw [List.erase_cons_tail (by rw [bytes_beq]; simpa using e)]
abbrev Rows14 := List (ByteArray × List Int)
/-- Rows as they may be: rising, none empty, not too many. -/
structure KInv (L : Rows14) (n : Nat) : Prop where
  rise : ∀ k l, aget L k = some l → Rising l ∧ l ≠ [] ∧ l.length ≤ n
  len : L.length ≤ n
/-- In block kb lies who has read what: the rows L, in the order in which they came; it takes the blocks E. -/
def KAt (w : World) (base kb : Nat) (most : Int) (L : Rows14) (n : Nat) (E : Nat → Prop) : Prop :=
  ∃ rb rows reads F R rv Q iv im, KRaw w base kb rb rows reads most (akeys L) F R rv (aget L) Q iv im ∧ (∀ id k, k ∈ akeys (im id) ↔ ∃ l, aget L k = some l ∧ id ∈ l) ∧ KInv L n ∧ E = KFoot kb rows reads F rv (aget L) iv im
section
variable {w w' : World} {base kb : Nat} {most : Int} {L : Rows14} {n : Nat} {E : Nat → Prop}
theorem KAt.nodup (h : KAt w base kb most L n E) : (akeys L).Nodup := by
  obtain ⟨rb, rows, reads, F, R, rv, Q, iv, im, h, _⟩ := h; exact h.recent.nodup
theorem KAt.inv (h : KAt w base kb most L n E) : KInv L n := by
  obtain ⟨rb, rows, reads, F, R, rv, Q, iv, im, _, _, h, _⟩ := h; exact h
theorem KAt.keep {G : Nat → Prop} (h : KAt w base kb most L n E) (u : Upd G w w') (hd : ∀ b, E b → ¬ G b) : KAt w' base kb most L n E := by
  obtain ⟨rb, rows, reads, F, R, rv, Q, iv, im, h, h2, h3, rfl⟩ := h
  exact ⟨rb, rows, reads, F, R, rv, Q, iv, im, h.keep u hd, h2, h3, rfl⟩
theorem KAt.lt (h : KAt w base kb most L n E) : ∀ b, E b → base ≤ b ∧ b < w.heap.size := by
  obtain ⟨rb, rows, reads, F, R, rv, Q, iv, im, h, h2, h3, rfl⟩ := h; exact h.lt
theorem KAt.mono (h : KAt w base kb most L n E) {n' : Nat} (hn : n ≤ n') : KAt w base kb most L n' E := by
  obtain ⟨rb, rows, reads, F, R, rv, Q, iv, im, h, h2, h3, rfl⟩ := h
  exact ⟨rb, rows, reads, F, R, rv, Q, iv, im, h, h2, ⟨fun k l hk => ⟨(h3.rise k l hk).1, (h3.rise k l hk).2.1, Nat.le_trans (h3.rise k l hk).2.2 hn⟩, Nat.le_trans h3.len hn⟩, rfl⟩
end
theorem im_len {n : Nat} {L : Rows14} {im : Int → List (ByteArray × Value)} (hD : ∀ id k, k ∈ akeys (im id) ↔ ∃ l, aget L k = some l ∧ id ∈ l) (hn : ∀ id, im id ≠ [] → (akeys (im id)).Nodup) (hl : L.length ≤ n) (id : Int) : (im id).length ≤ n := by
  by_cases e : im id = []
  · rw [e]; simp
  · have : (akeys (im id)).length ≤ (akeys L).length := subset_len (hn id e) (fun k hk => by
      obtain ⟨l, h1, _⟩ := (hD id k).1 hk
      exact Decidable.not_not.1 fun hh => by rw [aget_none.2 hh] at h1; cases h1)
    simp only [akeys, List.length_map] at this; omega

theorem take_own (base kb : Nat) (most : Int) (L : Rows14) (n : Nat) (E : Nat → Prop) (key : ByteArray) (w : World) (h : KAt w base kb most L n E) (hn : n ≤ 100000) :
    Calls Tryz.prog 54 #[.pointer (some ⟨kb, 0, none⟩), .string key] w fun e w' => ∃ v, e = .returned v ∧ IntsAt w' base v ((aget L key).getD []) ∧
      ∃ E', KAt w' base kb most (adel L key) n E' ∧ Upd E w w' ∧ FromF E E' w ∧ (∀ b, v.ownBlock = some b → E b ∧ ¬ E' b) := by
  obtain ⟨rb, rows, reads, F, R, rv, Q, iv, im, h, hD, hI, rfl⟩ := h
  have hnd := h.recent.nodup
  have hrn : Rising ((aget L key).getD []) ∧ ((aget L key).getD []).length ≤ n := by
    cases hk : aget L key with
    | none => exact ⟨List.Pairwise.nil, Nat.zero_le _⟩
    | some l => exact ⟨(hI.rise key l hk).1, (hI.rise key l hk).2.2⟩
  refine (take_raw base kb rb rows reads most (akeys L) F R rv (aget L) Q iv im key w h (fun id hid => ?_) (nodup_of_rising hrn.1) (fun id => Nat.le_trans (im_len hD (fun id hid => (h.imap id hid).2) hI.len id) hn) (Nat.le_trans hrn.2 hn)).mono ?_
  · cases hk : aget L key with
    | none => rw [hk] at hid; simp at hid
    | some l => rw [hk] at hid; exact (hD id key).2 ⟨l, hk, hid⟩
  rintro e w' ⟨rfl, hv, ⟨F', Q', im', h2, hF, hle, hm⟩, u⟩
  have er : upd (aget L) key none = aget (adel L key) := by
    funext k
    rw [aget_adel hnd]
    by_cases e : key = k
    · subst e; rw [upd_at, if_pos rfl]
    · rw [upd_ne _ _ (Ne.symm e), if_neg e]
  rw [er, ← akeys_erase] at h2
  have hx : ∀ id, im' id ≠ [] → im id ≠ [] := fun id hid e => by have := hle id; rw [e] at this; exact hid (List.length_eq_zero_iff.1 (by simpa using this))
  refine ⟨_, rfl, hv, _, ⟨rb, rows, reads, F', adel R key, rv, Q', iv, im', h2, fun id k => ?_, ⟨fun k l hk => ?_, Nat.le_trans (adel_len L key) hI.len⟩, rfl⟩, u.weaken (fun i _ e => ?_), fun b hb => ?_, fun b hb => ?_⟩
  · rw [hm, hD, aget_adel hnd]
    by_cases e : key = k
    · subst e
      rw [if_pos rfl]
      constructor
      · rintro ⟨⟨l, h1, h2⟩, h3⟩
        exact absurd ⟨rfl, by rw [h1]; exact h2⟩ h3
      · rintro ⟨l, h1, _⟩; cases h1
    · rw [if_neg e]
      constructor
      · rintro ⟨h1, _⟩; exact h1
      · intro h1; exact ⟨h1, fun h2 => e h2.1.symm⟩
  · rw [aget_adel hnd] at hk
    split at hk
    · cases hk
    · exact hI.rise k l hk
  · rcases e with e | e | e | ⟨id, hid, e⟩
    · exact Or.inr (Or.inr (Or.inr (Or.inl e)))
    · exact Or.inr (Or.inl e)
    · exact Or.inr (Or.inr (Or.inl e))
    · exact Or.inr (Or.inr (Or.inr (Or.inr (Or.inr ⟨id, hid, e⟩))))
  · rcases hb with rfl | rfl | rfl | hb | ⟨k, l, hk, hb⟩ | ⟨id, hid, rfl⟩
    · exact Or.inl (Or.inl rfl)
    · exact Or.inl (Or.inr (Or.inl rfl))
    · exact Or.inl (Or.inr (Or.inr (Or.inl rfl)))
    · rcases hF b hb with g | g
      · exact Or.inl (Or.inr (Or.inr (Or.inr (Or.inl g))))
      · exact Or.inr g
    · rw [aget_adel hnd] at hk
      split at hk
      · cases hk
      · exact Or.inl (Or.inr (Or.inr (Or.inr (Or.inr (Or.inl ⟨k, l, hk, hb⟩)))))
    · exact Or.inl (Or.inr (Or.inr (Or.inr (Or.inr (Or.inr ⟨id, hx id hid, rfl⟩)))))
  · obtain ⟨l0, h1, h3⟩ := h.rowOwn hb
    obtain ⟨r1, r2, r3, r4, r5⟩ := h.rowF h1 h3
    refine ⟨Or.inr (Or.inr (Or.inr (Or.inr (Or.inl ⟨key, l0, h1, h3⟩)))), fun hE => ?_⟩
    rcases hE with g | g | g | g | ⟨k, l, hk, g⟩ | ⟨id, hid, g⟩
    · exact r2 g
    · exact r3 g
    · exact r4 g
    · rcases hF b g with g | g
      · exact r1 g
      · have := (ints_block (h.rrow key l0 h1) h3).2.1; omega
    · rw [aget_adel hnd] at hk
      split at hk
      · cases hk
      · next e => exact h.rne key k l0 l e h1 hk b h3 g
    · exact r5 id (hx id hid) g
theorem take_any (base kb : Nat) (most : Int) (L : Rows14) (n : Nat) (E : Nat → Prop) (key : ByteArray) (w : World) (h : KAt w base kb most L n E) (hn : n ≤ 100000) :
    Calls Tryz.prog 54 #[.pointer (some ⟨kb, 0, none⟩), .string key] w fun e w' => ∃ v, e = .returned v ∧ IntsAt w' base v ((aget L key).getD []) ∧
      ∃ E', KAt w' base kb most (adel L key) n E' ∧ Upd E w w' ∧ FromF E E' w ∧ (∀ b, v.ownBlock = some b → ¬ E' b) :=
  (take_own base kb most L n E key w h hn).mono fun e w' ⟨v, h1, h2, E', h3, h4, h5, h6⟩ => ⟨v, h1, h2, E', h3, h4, h5, fun b hb => (h6 b hb).2⟩
end Go.Proofs.YtmlojbfcmebboaaGreat
/- Walk: a client has read a key. -/
set_option linter.unusedVariables false
set_option linter.unusedSimpArgs false
set_option maxRecDepth 100000
namespace Go.Proofs.YtmlojbfcmebboaaGreat
open Go.RowKit

theorem zeroN (w : World) : (zeroValue 3).run Tryz.prog w = .ok (.int .i64 0) w := Tryz.zeroValue3 w
theorem Blk.keep2 {w w' : World} {b : Nat} {cs : List Value} {T : TypeId} {F : Nat → Prop} (h : Blk w b cs T) (u : Upd F w w') (hF : ¬ F b) : Blk w' b cs T := u.blk h hF
/-- A client more in a key's row: what lies there then, what was written, what is new. -/
def AddTo (w w' : World) (base kb rb rows reads : Nat) (most : Int) (ks : List ByteArray) (F : Nat → Prop) (rv : ByteArray → Value) (ri : ByteArray → Option (List Int)) (iv : Int → Nat) (im : Int → List (ByteArray × Value)) (key : ByteArray) (id : Int) : Prop :=
  ∃ R' rv' Q' iv' im', KRaw w' base kb rb rows reads most ks F R' rv' (upd ri key (some (wth ((ri key).getD []) id))) Q' iv' im' ∧ (∀ id' k, k ∈ akeys (im' id') ↔ k ∈ akeys (im id') ∨ (id' = id ∧ k = key)) ∧
    Upd (KFoot kb rows reads F rv ri iv im) w w' ∧ FromF (KFoot kb rows reads F rv ri iv im) (KFoot kb rows reads F rv' (upd ri key (some (wth ((ri key).getD []) id))) iv' im') w
section
variable {w w2 w3 w5 : World} {base kb rb rows reads : Nat} {most : Int} {ks : List ByteArray} {F : Nat → Prop} {R : List (ByteArray × Value)} {rv : ByteArray → Value} {ri : ByteArray → Option (List Int)} {Q Q' : List (Int × Value)} {iv : Int → Nat} {im : Int → List (ByteArray × Value)} {key : ByteArray} {id : Int} {v2 : Value} {R' : List (ByteArray × Value)}
theorem AddTo.of (h : KRaw w base kb rb rows reads most ks F R rv ri Q iv im) (u2 : Upd (fun b => (rowV rv ri key).ownBlock = some b) w.drew w2) (o2 : ∀ b, v2.ownBlock = some b → (rowV rv ri key).ownBlock = some b ∨ w.drew.heap.size ≤ b) (u3 : Upd (fun b => b = rows) w2 w3)
    {iv' : Int → Nat} {im' : Int → List (ByteArray × Value)} (h5 : KRaw w5 base kb rb rows reads most ks F R' (upd rv key v2) (upd ri key (some (wth ((ri key).getD []) id))) Q' iv' im') (u5 : Upd (fun b => b = reads ∨ (im id ≠ [] ∧ b = iv id)) w3 w5)
    (hm : ∀ id' k, k ∈ akeys (im' id') ↔ k ∈ akeys (im id') ∨ (id' = id ∧ k = key)) (hf : ∀ id', im' id' ≠ [] → (im id' ≠ [] ∧ iv' id' = iv id') ∨ w.heap.size ≤ iv' id') : AddTo w w5 base kb rb rows reads most ks F rv ri iv im key id := by
  have own : ∀ b, (rowV rv ri key).ownBlock = some b → KFoot kb rows reads F rv ri iv im b := fun b hb => by
    obtain ⟨l, h1, h2⟩ := h.rowOwn hb
    exact Or.inr (Or.inr (Or.inr (Or.inr (Or.inl ⟨key, l, h1, h2⟩))))
  refine ⟨R', _, Q', iv', im', h5, hm, ?_, ?_⟩
  · refine ((((Upd.refl (KFoot kb rows reads F rv ri iv im) w).drew).trans u2 (fun i _ e => own i e)).trans u3 (fun i _ e => Or.inr (Or.inl e))).trans u5 (fun i _ e => ?_)
    rcases e with e | ⟨hid, e⟩
    · exact Or.inr (Or.inr (Or.inl e))
    · exact Or.inr (Or.inr (Or.inr (Or.inr (Or.inr ⟨id, hid, e⟩))))
  · rintro b (e | e | e | e | ⟨k, l, hk, hb⟩ | ⟨id', hid, e⟩)
    · exact Or.inl (Or.inl e)
    · exact Or.inl (Or.inr (Or.inl e))
    · exact Or.inl (Or.inr (Or.inr (Or.inl e)))
    · exact Or.inl (Or.inr (Or.inr (Or.inr (Or.inl e))))
    · by_cases e : k = key
      · subst e
        rw [upd_at] at hb
        rcases o2 b hb with g | g
        · exact Or.inl (own b g)
        · exact Or.inr g
      · rw [upd_ne _ _ e] at hk hb
        exact Or.inl (Or.inr (Or.inr (Or.inr (Or.inr (Or.inl ⟨k, l, hk, hb⟩)))))
    · rcases hf id' hid with ⟨g1, g2⟩ | g
      · exact Or.inl (Or.inr (Or.inr (Or.inr (Or.inr (Or.inr ⟨id', g1, by rw [e, g2]⟩)))))
      · exact Or.inr (by rw [e]; exact g)
end
theorem mem_aset {κ ν : Type} [DecidableEq κ] (m : List (κ × ν)) (k : κ) (v : ν) (x : κ) : x ∈ akeys (aset m k v) ↔ x ∈ akeys m ∨ x = k := by
  rw [akeys_aset]
  split
  · next h => exact ⟨Or.inl, fun h2 => by rcases h2 with h2 | rfl; exact h2; exact h⟩
  · simp

set_option maxHeartbeats 4000000 in
theorem addA_raw (base kb rb rows reads : Nat) (most : Int) (ks : List ByteArray) (F : Nat → Prop) (R : List (ByteArray × Value)) (rv : ByteArray → Value) (ri : ByteArray → Option (List Int)) (Q : List (Int × Value)) (iv : Int → Nat) (im : Int → List (ByteArray × Value))
    (key : ByteArray) (id : Int) (w : World) (h : KRaw w base kb rb rows reads most ks F R rv ri Q iv im) (hks : key ∈ ks) (hr : Rising ((ri key).getD [])) (hl : ((ri key).getD []).length ≤ 100000) :
    Calls Tryz.prog 50 #[.pointer (some ⟨kb, 0, none⟩), .string key, .int .i64 id] w fun e w' => e = .returned (.tuple #[.string ByteArray.empty, .slice none 0 0, .bool false]) ∧ AddTo w w' base kb rb rows reads most ks F rv ri iv im key id := by
  have c0 : w.cell? ⟨kb, 0, none⟩ = some (.pointer (some ⟨rb, 0, none⟩)) := h.blk.cellAt rfl
  have HA := has_any rb ks F key w h.recent
  rw [decide_eq_true hks] at HA
  have HA := Lib.hid HA
  have hd : KRaw w.drew base kb rb rows reads most ks F R rv ri Q iv im := h.keep (E := fun _ => False) ((Upd.refl _ w).drew) (fun _ _ hh => hh)
  have lk := hd.rowLook key
  have hra := hd.rowAt key
  obtain ⟨p, c, ev, _⟩ := own_slice hra
  rw [ev] at lk
  have W := Lib.hid (with_any base (rowV rv ri key) _ id w.drew hra hr hd.bl (by omega))
  have H := Lib.hid h
  have HD := Lib.hid hd
  have HV := Lib.hid ev
  rw [ev] at W
  have PUT := Lib.hid (fun (w2 : World) (v2 : Value) (u2 : Upd (fun k => (Value.slice p ((ri key).getD []).length c).ownBlock = some k) w.drew w2) => (hd.rmap.keep u2 (fun e => by
    obtain ⟨l', h1, h2⟩ := hd.rowOwn (by rw [ev]; exact e); exact (hd.rowF h1 h2).2.2.1 rfl)).put keyS Tryz.underlying114 key v2)
  have KB3 := Lib.hid (fun (w2 w3 : World) (u2 : Upd (fun k => (Value.slice p ((ri key).getD []).length c).ownBlock = some k) w.drew w2) (u3 : Upd (fun b => b = rows) w2 w3) => (u3.blk (u2.blk hd.blk (fun e => by
    obtain ⟨l', h1, h2⟩ := hd.rowOwn (by rw [ev]; exact e); exact (hd.rowF h1 h2).2.1 rfl)) hd.kbm.1).cellAt (i := 1) rfl)
  have KB := Lib.hid (fun (w2 : World) (u2 : Upd (fun k => (Value.slice p ((ri key).getD []).length c).ownBlock = some k) w.drew w2) => (u2.blk hd.blk (fun e => by
    obtain ⟨l', h1, h2⟩ := hd.rowOwn (by rw [ev]; exact e); exact (hd.rowF h1 h2).2.1 rfl)).cellAt (i := 1) rfl)
  have c1 : w.cell? ⟨kb, 1, none⟩ = some (.map (some rows)) := h.blk.cellAt rfl
  clear h hra ev hd
  go_enter Tryz.func50, Tryz.ntmps50
  go_wp2_with fail
  refine (HA.out).mono ?_
  rintro e w1 ⟨rfl, rfl⟩
  go_wp2
  go_region_held3 (fun w' => w'.cell? ⟨kb, 1, none⟩ = some (.map (some rows))) (go_keep)
    (first | (go_at_call 105; refine W.out.mono ?_; rintro e w2 ⟨v2, rfl, i2, u2, o2⟩; (have y1 := KB.out w2 u2); (obtain ⟨w3, de, m3, u3⟩ := PUT.out w2 v2 u2); (have y2 := KB3.out w2 w3 u2 u3); (unfold strEnc at de); (have I2 := Lib.hid i2); (have U2 := Lib.hid u2); (have O2 := Lib.hid o2); (have M3 := Lib.hid m3); (have U3 := Lib.hid u3); clear i2 u2 o2 m3 u3))
  have h3 : KRaw w3 base kb rb rows reads most ks F (aset R key v2) (upd rv key v2) (upd ri key (some (wth ((ri key).getD []) id))) Q iv im :=
    HD.out.rowPut (w1 := w2) (U2.out.weaken (fun i _ e => HD.out.rowOwn (by rw [HV.out]; exact e))) I2.out (fun b hb => by
      rcases O2.out b hb with g | g
      · exact Or.inl (HD.out.rowOwn (by rw [HV.out]; exact g))
      · exact Or.inr g) M3.out U3.out
  have d2 : w3.cell? ⟨kb, 2, none⟩ = some (.map (some reads)) := h3.blk.cellAt rfl
  have lq := h3.qmap.look keyI Tryz.underlying115 (zeroM w3) id false
  rw [h3.qget] at lq
  unfold intEnc at lq
  have H3 := Lib.hid h3
  clear c1 y1 y2 de h3
  by_cases hz : im id = []
  · rw [if_pos hz] at lq
    simp only [Bool.false_eq_true, if_false, Option.getD_none] at lq
    have mk := run_makeMap (P := Tryz.prog) 51 w3
    have qn := run_eql_map_nil (P := Tryz.prog) w3 51 _ _ none Tryz.underlying51
    simp only [Option.isNone_none] at qn
    have ua : Upd (fun _ => False) w3 (w3.alloc (.map #[] 0)) := (Upd.refl _ _).alloc _
    have ql := H3.out.qmap.lt
    obtain ⟨w4, de1, q4, u4⟩ := (H3.out.qmap.keep ua (fun hh => hh)).put keyI Tryz.underlying115 id (.map (some w3.heap.size))
    have lq4 := q4.look keyI Tryz.underlying115 (zeroM w4) id false
    rw [aget_aset, if_pos rfl] at lq4
    simp only [Bool.false_eq_true, if_false, Option.getD_some] at lq4
    have m4 : MapAt strEnc w4 w3.heap.size [] := (MapAt.made w3).keep u4 (fun e => by have : w3.heap.size = reads := e; omega)
    have lm4 := m4.look keyS Tryz.underlying51 (zeroN w4) key false
    simp only [aget, Bool.false_eq_true, if_false, Option.getD_none] at lm4
    obtain ⟨w5, de2, m5, u5⟩ := m4.put keyS Tryz.underlying51 key (.int .i64 1)
    have c4 : w4.cell? ⟨kb, 2, none⟩ = some (.map (some reads)) := ((H3.out.blk.alloc _).keep2 u4 H3.out.kbm.2.1).cellAt rfl
    have U5 := Lib.hid (((ua.weaken (F := fun b => b = reads) (fun _ _ h => h.elim)).trans u4 (fun _ _ h => h)).trans u5 (fun i hi e => by have : i = w3.heap.size := e; omega))
    have H5 := Lib.hid (H3.out.innerNew (w' := w5) (id := id) (b := w3.heap.size) (m := aset [] key (.int .i64 1)) hz (Nat.le_refl _) (by simp [aset]) m5 (by simp [aset, akeys]) (fun k v hk => by
      simp only [aset, aget] at hk
      split at hk
      · cases hk; exact ⟨1, rfl⟩
      · cases hk) (q4.keep u5 (fun e => by have : reads = w3.heap.size := e; omega)) U5.out)
    unfold intEnc at de1 lq4
    unfold strEnc at de2 lm4
    have HZ := Lib.hid hz
    clear hz q4 u4 m4 m5 u5 ua ql
    go_wp2
    go_ret3
    refine ⟨rfl, AddTo.of H.out (U2.out.weaken (fun i _ e => by rw [HV.out]; exact e)) (by rw [HV.out]; exact O2.out) U3.out H5.out (U5.out.weaken (fun i _ e => Or.inl e)) (fun id' k => ?_) (fun id' hid => ?_)⟩
    · by_cases e : id' = id
      · subst e; rw [upd_at, mem_aset, HZ.out]; simp [akeys]
      · rw [upd_ne _ _ e]; simp [e]
    · by_cases e : id' = id
      · subst e; rw [upd_at]; right
        have := U2.out.size; have := U3.out.size; simp at *; omega
      · rw [upd_ne _ _ e] at hid ⊢; exact Or.inl ⟨hid, rfl⟩
  · rw [if_neg hz] at lq
    simp only [Bool.false_eq_true, if_false, Option.getD_some] at lq
    have qn := run_eql_map_nil (P := Tryz.prog) w3 51 _ _ (some (iv id)) Tryz.underlying51
    simp only [Option.isNone_some] at qn
    have hm := H3.out.imap id hz
    have lm := hm.1.look keyS Tryz.underlying51 (zeroN w3) key false
    simp only [Bool.false_eq_true, if_false] at lm
    obtain ⟨c5, hc5⟩ : ∃ c5, (aget (im id) key).getD (.int .i64 0) = .int .i64 c5 := by
      cases hk : aget (im id) key with
      | none => exact ⟨0, rfl⟩
      | some v => obtain ⟨c, hc⟩ := H3.out.iint id key v hk; exact ⟨c, hc⟩
    rw [hc5] at lm
    obtain ⟨w5, de2, m5, u5⟩ := hm.1.put keyS Tryz.underlying51 key (.int .i64 (wrap64 (c5 + 1)))
    have U5 := Lib.hid u5
    have H5 := Lib.hid (H3.out.innerPut (w' := w5) (id := id) (m := aset (im id) key (.int .i64 (wrap64 (c5 + 1)))) hz (fun e => by have := congrArg akeys e; rw [akeys_aset] at this; split at this <;> simp_all [akeys]) m5 (nodup_aset hm.2 key _) (fun k v hk => by
      rw [aget_aset] at hk
      split at hk
      · cases hk; exact ⟨_, rfl⟩
      · exact H3.out.iint id k v hk) u5)
    unfold strEnc at lm de2
    have HZ := Lib.hid hz
    clear hz hc5 hm m5 u5
    go_wp2
    go_ret3
    refine ⟨rfl, AddTo.of H.out (U2.out.weaken (fun i _ e => by rw [HV.out]; exact e)) (by rw [HV.out]; exact O2.out) U3.out H5.out (U5.out.weaken (fun i _ e => Or.inr ⟨HZ.out, e⟩)) (fun id' k => ?_) (fun id' hid => ?_)⟩
    · by_cases e : id' = id
      · subst e; rw [upd_at, mem_aset]; simp
      · rw [upd_ne _ _ e]; simp [e]
    · left
      by_cases e : id' = id
      · subst e; exact ⟨HZ.out, rfl⟩
      · rw [upd_ne _ _ e] at hid; exact ⟨hid, rfl⟩
end Go.Proofs.YtmlojbfcmebboaaGreat
