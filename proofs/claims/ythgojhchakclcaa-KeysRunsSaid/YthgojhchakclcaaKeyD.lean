/- Walks: a rising list with one more; the state as a list of rows. -/
import Derived.Test.YthgojhchakclcaaKeyC
set_option linter.unusedVariables false
set_option linter.unusedSimpArgs false
namespace Go.Proofs.Ythgojhchakclcaa
open Go.RowKit

/-- A rising list with one more, each once. -/
def wth (l : List Int) (x : Int) : List Int := l.filter (· < x) ++ x :: l.filter (x < ·)
abbrev Rising (l : List Int) : Prop := l.Pairwise (· < ·)
theorem rising_split {l : List Int} (h : Rising l) (x : Int) : l = l.filter (· < x) ++ (l.filter (· = x) ++ l.filter (x < ·)) := by
  induction l with
  | nil => rfl
  | cons y r ih =>
    obtain ⟨h1, h2⟩ := List.pairwise_cons.1 h
    by_cases a : y < x
    · have b : ¬ y = x := by omega
      have c : ¬ x < y := by omega
      simp only [List.filter_cons, a, b, c, decide_true, decide_false, if_true, Bool.false_eq_true, if_false, List.cons_append]
      rw [← ih h2]
    · have e1 : r.filter (· < x) = [] := List.filter_eq_nil_iff.2 (fun z hz => by have := h1 z hz; simp; omega)
      have e2 : r.filter (· = x) = [] := List.filter_eq_nil_iff.2 (fun z hz => by have := h1 z hz; simp; omega)
      have ih2 := ih h2
      rw [e1, e2] at ih2
      by_cases b : y = x
      · have c : ¬ x < y := by omega
        simp only [List.filter_cons, a, b, c, e1, e2, decide_true, decide_false, if_true, Bool.false_eq_true, if_false, List.nil_append, List.cons_append]
        simp at ih2 ⊢
        exact ih2
      · have c : x < y := by omega
        simp only [List.filter_cons, a, b, c, e1, e2, decide_true, decide_false, if_true, Bool.false_eq_true, if_false, List.nil_append, List.cons_append]
        simp at ih2 ⊢
        exact ih2
theorem count_len (l : List Int) (x : Int) : l.countP (· < x) = (l.filter (· < x)).length := List.countP_eq_length_filter
theorem wth_in {l : List Int} (h : Rising l) {x : Int} (hx : x ∈ l) : wth l x = l := by
  have e := rising_split h x
  have e2 : l.filter (· = x) = [x] := by
    have hn : l.Nodup := h.imp (fun hab e => by omega)
    have hm : x ∈ l.filter (· = x) := List.mem_filter.2 ⟨hx, by simp⟩
    have hn2 : (l.filter (· = x)).Nodup := hn.filter _
    cases hf : l.filter (· = x) with
    | nil => rw [hf] at hm; simp at hm
    | cons y r =>
      have ha : ∀ z ∈ l.filter (· = x), z = x := fun z hz => by simpa using (List.mem_filter.1 hz).2
      rw [hf] at ha hn2
      have hy := ha y (by simp)
      cases r with
      | nil => rw [hy]
      | cons z r =>
        have hz := ha z (by simp)
        rw [hy, hz] at hn2; simp at hn2
  rw [e2] at e
  unfold wth
  exact e.symm
theorem wth_out {l : List Int} (h : Rising l) {x : Int} (hx : x ∉ l) : wth l x = l.take (l.countP (· < x)) ++ x :: l.drop (l.countP (· < x)) := by
  have e := rising_split h x
  have e2 : l.filter (· = x) = [] := List.filter_eq_nil_iff.2 (fun y hy => by simp; rintro rfl; exact hx hy)
  rw [e2, List.nil_append] at e
  have h1 : l.take (l.countP (· < x)) = l.filter (· < x) := by rw [count_len]; conv => lhs; arg 2; rw [e]
                                                               rw [List.take_left']; rfl
  have h2 : l.drop (l.countP (· < x)) = l.filter (x < ·) := by rw [count_len]; conv => lhs; arg 2; rw [e]
                                                               rw [List.drop_left']; rfl
  rw [h1, h2]; rfl
theorem wth_rising {l : List Int} (h : Rising l) (x : Int) : Rising (wth l x) := by
  unfold wth
  refine List.pairwise_append.2 ⟨h.filter _, List.pairwise_cons.2 ⟨fun y hy => by simpa using (List.mem_filter.1 hy).2, h.filter _⟩, fun a ha b hb => ?_⟩
  have h1 : a < x := by simpa using (List.mem_filter.1 ha).2
  rcases List.mem_cons.1 hb with rfl | hb
  · exact h1
  · have : x < b := by simpa using (List.mem_filter.1 hb).2
    omega
theorem wth_mem {l : List Int} {x y : Int} : y ∈ wth l x ↔ y = x ∨ y ∈ l := by
  unfold wth
  simp only [List.mem_append, List.mem_cons, List.mem_filter, decide_eq_true_eq]
  constructor
  · rintro (⟨h, _⟩ | h | ⟨h, _⟩)
    · exact Or.inr h
    · exact Or.inl h
    · exact Or.inr h
  · rintro (h | h)
    · exact Or.inr (Or.inl h)
    · by_cases e : y = x
      · exact Or.inr (Or.inl e)
      · by_cases g : y < x
        · exact Or.inl ⟨h, g⟩
        · exact Or.inr (Or.inr ⟨h, by omega⟩)
theorem wth_len (l : List Int) (x : Int) : (wth l x).length ≤ l.length + 1 := by
  have h : ∀ l : List Int, (l.filter (· < x)).length + (l.filter (x < ·)).length ≤ l.length := by
    intro l
    induction l with
    | nil => simp
    | cons y r ih =>
      simp only [List.filter_cons]
      by_cases a : y < x
      · have c : ¬ x < y := by omega
        simp only [a, c, decide_true, decide_false, if_true, Bool.false_eq_true, if_false, List.length_cons]; omega
      · by_cases c : x < y
        · simp only [a, c, decide_true, decide_false, if_true, Bool.false_eq_true, if_false, List.length_cons]; omega
        · simp only [a, c, decide_true, decide_false, if_true, Bool.false_eq_true, if_false, List.length_cons]; omega
  have := h l
  unfold wth
  simp only [List.length_append, List.length_cons]; omega

set_option maxHeartbeats 1000000 in
theorem with_any (base : Nat) (v : Value) (xs : List Int) (x : Int) (w : World) (h : IntsAt w base v xs) (hs : Rising xs) (hb : base ≤ w.heap.size) (hl : xs.length ≤ 1000000) :
    Calls Try.prog 27 #[v, .int .i64 x] w fun e w' => ∃ v', e = .returned v' ∧ IntsAt w' base v' (wth xs x) ∧ Upd (fun k => v.ownBlock = some k) w w' ∧ (∀ k, v'.ownBlock = some k → v.ownBlock = some k ∨ w.heap.size ≤ k) := by
  have hle : xs.Pairwise (· ≤ ·) := hs.imp (fun h => by omega)
  obtain ⟨p, c, ev, _⟩ := own_slice h
  have BS : Hid (Calls Try.prog 39 #[v, .int .i64 x] w fun e w' => e = .returned (.tuple #[.int .i64 (xs.countP (· < x) : Nat), .bool (xs.contains x)]) ∧ ∃ q, w' = w.drewN q) := by
    show Calls _ _ _ _ _
    rcases ints_blk h with ⟨rfl, rfl⟩ | ⟨b, cap, cs, rfl, _, hB, hc, hm⟩
    · exact (Try.slices_BinarySearch_int_empty none 0 x w).mono fun e w' ⟨h1, h2⟩ => ⟨h1, 0, by rw [h2]; rfl⟩
    · have := Try.slices_BinarySearch_int b 0 xs.length cap xs x w (Nat.le_refl _) (by omega) (fun j hj => by
        rw [Nat.zero_add]
        refine hB.cellAt ?_
        rw [List.getElem?_append_left (by simpa using hj)]
        simp [hj]) (by simpa using hle)
      rw [List.take_length] at this
      exact this
  by_cases hx : x ∈ xs
  · have hc : xs.contains x = true := by simpa using hx
    rw [hc] at BS
    have E := Lib.hid (wth_in hs hx)
    have H := Lib.hid h
    clear h hs hle hx hc
    subst ev
    go_enter Try.func27, Try.ntmps27
    go_wp2_with fail
    refine (BS.out).mono ?_
    rintro e w1 ⟨rfl, q, rfl⟩
    go_wp2
    go_ret
    rw [E.out]
    exact ⟨_, rfl, H.out.keep (F := fun _ => False) ((Upd.refl _ _).drewN q) (fun _ _ => id), (Upd.refl _ _).drewN q, fun k hk => Or.inl hk⟩
  · have hc : xs.contains x = false := by simpa using hx
    rw [hc] at BS
    have E := Lib.hid (wth_out hs hx)
    have hcl : xs.countP (· < x) ≤ xs.length := List.countP_le_length
    have H := Lib.hid h
    generalize xs.countP (· < x) = i at *
    clear hs hle hx hc h
    subst ev
    go_enter Try.func27, Try.ntmps27
    go_wp2_with fail
    refine (BS.out).mono ?_
    rintro e w1 ⟨rfl, q, rfl⟩
    have u1 : Upd (fun _ => False) w ((w.drewN q).alloc (.cells #[.int .i64 x] 3)) := ((Upd.refl _ w).drewN q).alloc _
    have I := Lib.hid (insert_any base i w.heap.size _ xs x _ (H.out.keep u1 (fun _ _ => id)) hcl (Blk.made (w.drewN q) [.int .i64 x] 3) (by simp; omega) (fun e => by
      have := (ints_block H.out e).2.1; omega) hl)
    have U1 := Lib.hid u1
    clear u1 BS
    go_wp2_with fail
    refine (I.out).mono ?_
    rintro e w2 ⟨v2, rfl, i2, u2, o2⟩
    have I2 := Lib.hid i2
    have U2 := Lib.hid u2
    have O2 := Lib.hid o2
    clear i2 u2 o2 I
    go_wp2
    go_ret
    rw [E.out]
    refine ⟨_, rfl, I2.out, (U1.out.weaken (F := fun k => (Value.slice p xs.length c).ownBlock = some k) (fun _ _ h => h.elim)).trans U2.out (fun _ _ h => h), fun k hk => ?_⟩
    rcases O2.out k hk with g | g
    · exact Or.inl g
    · right; simp at g; omega

theorem akeys_erase {ν : Type} (m : List (ByteArray × ν)) (k : ByteArray) : akeys (adel m k) = (akeys m).erase k := by
  induction m with
  | nil => rfl
  | cons p r ih =>
    unfold adel
    by_cases e : p.1 = k
    · rw [if_pos e]; simp [akeys, e]
    · rw [if_neg e]
      have e1 : akeys (p :: adel r k) = p.1 :: akeys (adel r k) := rfl
      rw [e1, ih]
      simp only [akeys, List.map_cons]
      rw [List.erase_cons_tail (by rw [bytes_beq]; simpa using e)]
abbrev Rows14 := List (ByteArray × List Int)
/-- Rows as they may be: rising, none empty, not too many. -/
structure KInv (L : Rows14) (n : Nat) : Prop where
  rise : ∀ k l, aget L k = some l → Rising l ∧ l ≠ [] ∧ l.length ≤ n
  len : L.length ≤ n
/-- In block kb lies who has read what: the rows L, in the order in which they came; it takes the blocks E. -/
def KAt (w : World) (base kb : Nat) (most : Int) (L : Rows14) (n : Nat) (E : Nat → Prop) : Prop :=
  ∃ rb rows reads F R rv Q iv im, KRaw w base kb rb rows reads most (akeys L) F R rv (aget L) Q iv im ∧ (∀ id k, k ∈ akeys (im id) ↔ ∃ l, aget L k = some l ∧ id ∈ l) ∧ KInv L n ∧ E = KFoot kb rows reads F rv (aget L) iv im
section
variable {w w' : World} {base kb : Nat} {most : Int} {L : Rows14} {n : Nat} {E : Nat → Prop}
theorem KAt.nodup (h : KAt w base kb most L n E) : (akeys L).Nodup := by
  obtain ⟨rb, rows, reads, F, R, rv, Q, iv, im, h, _⟩ := h; exact h.recent.nodup
theorem KAt.inv (h : KAt w base kb most L n E) : KInv L n := by
  obtain ⟨rb, rows, reads, F, R, rv, Q, iv, im, _, _, h, _⟩ := h; exact h
theorem KAt.keep {G : Nat → Prop} (h : KAt w base kb most L n E) (u : Upd G w w') (hd : ∀ b, E b → ¬ G b) : KAt w' base kb most L n E := by
  obtain ⟨rb, rows, reads, F, R, rv, Q, iv, im, h, h2, h3, rfl⟩ := h
  exact ⟨rb, rows, reads, F, R, rv, Q, iv, im, h.keep u hd, h2, h3, rfl⟩
theorem KAt.lt (h : KAt w base kb most L n E) : ∀ b, E b → base ≤ b ∧ b < w.heap.size := by
  obtain ⟨rb, rows, reads, F, R, rv, Q, iv, im, h, h2, h3, rfl⟩ := h; exact h.lt
theorem KAt.mono (h : KAt w base kb most L n E) {n' : Nat} (hn : n ≤ n') : KAt w base kb most L n' E := by
  obtain ⟨rb, rows, reads, F, R, rv, Q, iv, im, h, h2, h3, rfl⟩ := h
  exact ⟨rb, rows, reads, F, R, rv, Q, iv, im, h, h2, ⟨fun k l hk => ⟨(h3.rise k l hk).1, (h3.rise k l hk).2.1, Nat.le_trans (h3.rise k l hk).2.2 hn⟩, Nat.le_trans h3.len hn⟩, rfl⟩
end
theorem nodup_of_rising {l : List Int} (h : Rising l) : l.Nodup := h.imp (fun hab e => by omega)
theorem im_len {n : Nat} {L : Rows14} {im : Int → List (ByteArray × Value)} (hD : ∀ id k, k ∈ akeys (im id) ↔ ∃ l, aget L k = some l ∧ id ∈ l) (hn : ∀ id, im id ≠ [] → (akeys (im id)).Nodup) (hl : L.length ≤ n) (id : Int) : (im id).length ≤ n := by
  by_cases e : im id = []
  · rw [e]; simp
  · have : (akeys (im id)).length ≤ (akeys L).length := subset_len (hn id e) (fun k hk => by
      obtain ⟨l, h1, _⟩ := (hD id k).1 hk
      exact Decidable.not_not.1 fun hh => by rw [aget_none.2 hh] at h1; cases h1)
    simp only [akeys, List.length_map] at this; omega

theorem take_any (base kb : Nat) (most : Int) (L : Rows14) (n : Nat) (E : Nat → Prop) (key : ByteArray) (w : World) (h : KAt w base kb most L n E) (hn : n ≤ 100000) :
    Calls Try.prog 15 #[.pointer (some ⟨kb, 0, none⟩), .string key] w fun e w' => ∃ v, e = .returned v ∧ IntsAt w' base v ((aget L key).getD []) ∧
      ∃ E', KAt w' base kb most (adel L key) n E' ∧ Upd E w w' ∧ FromF E E' w ∧ (∀ b, v.ownBlock = some b → ¬ E' b) := by
  obtain ⟨rb, rows, reads, F, R, rv, Q, iv, im, h, hD, hI, rfl⟩ := h
  have hnd := h.recent.nodup
  have hrn : Rising ((aget L key).getD []) ∧ ((aget L key).getD []).length ≤ n := by
    cases hk : aget L key with
    | none => exact ⟨List.Pairwise.nil, Nat.zero_le _⟩
    | some l => exact ⟨(hI.rise key l hk).1, (hI.rise key l hk).2.2⟩
  refine (take_raw base kb rb rows reads most (akeys L) F R rv (aget L) Q iv im key w h (fun id hid => ?_) (nodup_of_rising hrn.1) (fun id => Nat.le_trans (im_len hD (fun id hid => (h.imap id hid).2) hI.len id) hn) (Nat.le_trans hrn.2 hn)).mono ?_
  · cases hk : aget L key with
    | none => rw [hk] at hid; simp at hid
    | some l => rw [hk] at hid; exact (hD id key).2 ⟨l, hk, hid⟩
  rintro e w' ⟨rfl, hv, ⟨F', Q', im', h2, hF, hle, hm⟩, u⟩
  have er : upd (aget L) key none = aget (adel L key) := by
    funext k
    rw [aget_adel hnd]
    by_cases e : key = k
    · subst e; rw [upd_at, if_pos rfl]
    · rw [upd_ne _ _ (Ne.symm e), if_neg e]
  rw [er, ← akeys_erase] at h2
  have hx : ∀ id, im' id ≠ [] → im id ≠ [] := fun id hid e => by have := hle id; rw [e] at this; exact hid (List.length_eq_zero_iff.1 (by simpa using this))
  refine ⟨_, rfl, hv, _, ⟨rb, rows, reads, F', adel R key, rv, Q', iv, im', h2, fun id k => ?_, ⟨fun k l hk => ?_, Nat.le_trans (adel_len L key) hI.len⟩, rfl⟩, u.weaken (fun i _ e => ?_), fun b hb => ?_, fun b hb hE => ?_⟩
  · rw [hm, hD, aget_adel hnd]
    by_cases e : key = k
    · subst e
      rw [if_pos rfl]
      constructor
      · rintro ⟨⟨l, h1, h2⟩, h3⟩
        exact absurd ⟨rfl, by rw [h1]; exact h2⟩ h3
      · rintro ⟨l, h1, _⟩; cases h1
    · rw [if_neg e]
      constructor
      · rintro ⟨h1, _⟩; exact h1
      · intro h1; exact ⟨h1, fun h2 => e h2.1.symm⟩
  · rw [aget_adel hnd] at hk
    split at hk
    · cases hk
    · exact hI.rise k l hk
  · rcases e with e | e | e | ⟨id, hid, e⟩
    · exact Or.inr (Or.inr (Or.inr (Or.inl e)))
    · exact Or.inr (Or.inl e)
    · exact Or.inr (Or.inr (Or.inl e))
    · exact Or.inr (Or.inr (Or.inr (Or.inr (Or.inr ⟨id, hid, e⟩))))
  · rcases hb with rfl | rfl | rfl | hb | ⟨k, l, hk, hb⟩ | ⟨id, hid, rfl⟩
    · exact Or.inl (Or.inl rfl)
    · exact Or.inl (Or.inr (Or.inl rfl))
    · exact Or.inl (Or.inr (Or.inr (Or.inl rfl)))
    · rcases hF b hb with g | g
      · exact Or.inl (Or.inr (Or.inr (Or.inr (Or.inl g))))
      · exact Or.inr g
    · rw [aget_adel hnd] at hk
      split at hk
      · cases hk
      · exact Or.inl (Or.inr (Or.inr (Or.inr (Or.inr (Or.inl ⟨k, l, hk, hb⟩)))))
    · exact Or.inl (Or.inr (Or.inr (Or.inr (Or.inr (Or.inr ⟨id, hx id hid, rfl⟩)))))
  · obtain ⟨l0, h1, h3⟩ := h.rowOwn hb
    obtain ⟨r1, r2, r3, r4, r5⟩ := h.rowF h1 h3
    rcases hE with g | g | g | g | ⟨k, l, hk, g⟩ | ⟨id, hid, g⟩
    · exact r2 g
    · exact r3 g
    · exact r4 g
    · rcases hF b g with g | g
      · exact r1 g
      · have := (ints_block (h.rrow key l0 h1) h3).2.1; omega
    · rw [aget_adel hnd] at hk
      split at hk
      · cases hk
      · next e => exact h.rne key k l0 l e h1 hk b h3 g
    · exact r5 id (hx id hid) g
end Go.Proofs.Ythgojhchakclcaa
