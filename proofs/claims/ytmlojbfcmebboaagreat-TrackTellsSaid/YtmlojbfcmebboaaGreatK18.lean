/- Walks: New, Clear, Ids of who has read what; a client's number struck from a row. -/
import Derived.Test.YtmlojbfcmebboaaGreatK17
import Derived.Lib.OwnBridge
set_option linter.unusedVariables false
set_option linter.unusedSimpArgs false
set_option maxRecDepth 100000
namespace Go.Proofs.YtmlojbfcmebboaaGreat
open Go.RowKit

theorem kclear_raw (base kb rb : Nat) (most : Int) (ks : List ByteArray) (F : Nat → Prop) (v1 v2 : Value) (w : World) (h : Blk w kb [ptr rb, v1, v2, .int .i64 most] 117) (hr : RecRep w rb ks F) (hkb : base ≤ kb) (hF : ∀ k, F k → base ≤ k) (hb : base ≤ w.heap.size) :
    Calls Tryz.prog 82 #[.pointer (some ⟨kb, 0, none⟩)] w fun e w' => e = .returned (.tuple #[]) ∧ ∃ E', KAt w' base kb most [] 0 E' ∧ Upd (fun k => k = kb ∨ F k) w w' ∧ (∀ k, E' k → k = kb ∨ F k ∨ w.heap.size ≤ k) := by
  have c0 : w.cell? ⟨kb, 0, none⟩ = some (.pointer (some ⟨rb, 0, none⟩)) := h.cellAt rfl
  have C := Lib.hid (clear_any rb ks F w hr)
  have hkF : ¬ F kb := hr.apart h (by decide) (by decide)
  have kl := h.lt
  have H := Lib.hid h
  clear h hr
  go_enter Tryz.func82, Tryz.ntmps82
  go_wp2_with fail
  refine (C.out).mono ?_
  rintro e w1 ⟨rfl, F', r1, u1, f1⟩
  have hb1 := u1.blk H.out hkF
  have hsz := u1.size
  have kl1 : kb < w1.heap.size := by omega
  have hrl := r1.lt
  have hF' : ∀ k, F' k → base ≤ k := fun k hk => by rcases f1 k hk with g | g; exact hF k g; exact Nat.le_trans hb g
  have f2 := hb1.free 1
  have f3 := hb1.free 2
  have e1 : w1.cell? ⟨kb, 1, none⟩ = some v1 := hb1.cellAt rfl
  have e2 : w1.cell? ⟨kb, 2, none⟩ = some v2 := hb1.cellAt rfl
  have mk1 := run_makeMap (P := Tryz.prog) 114 w1
  have mk2 := run_makeMap (P := Tryz.prog) 115 (w1.alloc (.map #[] 0))
  have R1 := Lib.hid r1
  have U1 := Lib.hid u1
  have F1 := Lib.hid f1
  have HB := Lib.hid hb1
  have HL := Lib.hid hrl
  have HF := Lib.hid hF'
  clear r1 u1 f1 hb1 C c0 hrl hF'
  go_wp2
  go_end0
  obtain ⟨X, hX⟩ : ∃ X, (w1.setCell ⟨kb, 1, none⟩ (.map (some w1.heap.size))).setCell ⟨kb, 2, none⟩ (.map (some (w1.heap.size + 1))) = X := ⟨_, rfl⟩
  rw [hX]
  have xs : X.heap.size = w1.heap.size := by rw [← hX]; simp [World.setCell]
  have uX : Upd (fun k => k = kb) w1 X := by rw [← hX]; exact ((Upd.refl (fun k => k = kb) w1).set (fun _ => rfl)).set (fun _ => rfl)
  have bX : Blk X kb [ptr rb, .map (some w1.heap.size), .map (some (w1.heap.size + 1)), .int .i64 most] 117 := by
    rw [← hX]; exact (HB.out.set 1 _).set 2 _
  have uA : Upd (fun _ => False) X ((X.alloc (.map #[] 0)).alloc (.map #[] 0)) := ((Upd.refl _ X).alloc _).alloc _
  have mA : MapAt strEnc (X.alloc (.map #[] 0)) w1.heap.size [] := by rw [← xs]; exact MapAt.made X
  have mB : MapAt intEnc ((X.alloc (.map #[] 0)).alloc (.map #[] 0)) (w1.heap.size + 1) [] := by
    have := MapAt.made (enc := intEnc) (X.alloc (.map #[] 0))
    rw [show (X.alloc (.map #[] 0)).heap.size = w1.heap.size + 1 by simp [xs]] at this; exact this
  have hk' : ¬ F' kb := fun hh => by rcases F1.out kb hh with g | g; exact hkF g; omega
  have hn : ∀ x, w1.heap.size ≤ x → ¬ F' x := fun x hx hh => by have := HL.out x hh; omega
  have ua : Upd (fun k => k = kb ∨ F k) w ((X.alloc (.map #[] 0)).alloc (.map #[] 0)) := ((U1.out.weaken (F := fun k => k = kb ∨ F k) (fun _ _ h => Or.inr h)).trans uX (fun _ _ h => Or.inl h)).trans uA (fun _ _ h => h.elim)
  refine ⟨rfl, _, ⟨rb, w1.heap.size, w1.heap.size + 1, F', [], fun _ => .slice none 0 0, [], fun _ => 0, fun _ => [], ?_, fun id k => ?_, ⟨fun k l hk => by simp [aget] at hk, by simp⟩, rfl⟩, ua, ?_⟩
  · exact {
      blk := uA.blk bX (fun h => h)
      recent := (R1.out.keep uX (fun k hk e => hk' (by have : k = kb := e; rw [← this]; exact hk))).keep uA (fun _ _ h => h)
      rmap := mA.keep ((Upd.refl (fun _ => False) _).alloc _) (fun h => h)
      rnd := by simp [akeys]
      rget := fun k => rfl
      rrow := fun k l hk => by simp [aget] at hk
      rne := fun k k' l l' _ hk => by simp [aget] at hk
      qmap := mB
      qnd := by simp [akeys]
      qget := fun id => rfl
      imap := fun id h => absurd rfl h
      ine := fun _ _ _ h => absurd rfl h
      iint := fun id k v hk => by simp [aget] at hk
      rr := by omega
      fr := ⟨hn _ (Nat.le_refl _), hn _ (by omega)⟩
      sep := fun id h => absurd rfl h
      lo := ⟨hkb, by omega, by omega⟩
      loF := HF.out
      loi := fun id h => absurd rfl h
      bl := Nat.le_trans hb ua.size }
  · simp [akeys, aget]
  · rintro k (e | e | e | e | ⟨k', l, hk, _⟩ | ⟨id, hid, _⟩)
    · exact Or.inl e
    · right; right; omega
    · right; right; omega
    · rcases F1.out k e with g | g
      · exact Or.inr (Or.inl g)
      · exact Or.inr (Or.inr g)
    · simp [aget] at hk
    · exact absurd rfl hid
theorem kclear_any (base kb : Nat) (most : Int) (L : Rows14) (n : Nat) (E : Nat → Prop) (w : World) (h : KAt w base kb most L n E) :
    Calls Tryz.prog 82 #[.pointer (some ⟨kb, 0, none⟩)] w fun e w' => e = .returned (.tuple #[]) ∧ ∃ E', KAt w' base kb most [] 0 E' ∧ Upd E w w' ∧ FromF E E' w := by
  obtain ⟨rb, rows, reads, F, R, rv, Q, iv, im, h, hD, hI, rfl⟩ := h
  refine (kclear_raw base kb rb most _ F _ _ w h.blk h.recent h.lo.1 h.loF h.bl).mono fun e w' ⟨h1, E', h2, h3, h4⟩ => ⟨h1, E', h2, h3.weaken (fun i _ e => ?_), fun k hk => ?_⟩
  · rcases e with e | e
    · exact Or.inl e
    · exact Or.inr (Or.inr (Or.inr (Or.inl e)))
  · rcases h4 k hk with e | e | e
    · exact Or.inl (Or.inl e)
    · exact Or.inl (Or.inr (Or.inr (Or.inr (Or.inl e))))
    · exact Or.inr e
theorem knew_any (most : Int) (w : World) (hm : -9223372036854775808 ≤ most) (hm2 : most ≤ 9223372036854775807) (base : Nat) (hb : base ≤ w.heap.size) :
    Calls Tryz.prog 42 #[.int .i64 most] w fun e w' => ∃ kb E, e = .returned (.pointer (some ⟨kb, 0, none⟩)) ∧ KAt w' base kb (max most 1) [] 0 E ∧ Upd (fun _ => False) w w' ∧ ∀ k, E k → w.heap.size ≤ k := by
  have N := Lib.hid (rnew_any w)
  go_enter Tryz.func42, Tryz.ntmps42
  go_wp2_with fail
  refine (N.out).mono ?_
  rintro e w1 ⟨rb, F, rfl, r1, u1, f1⟩
  have hs1 := u1.size
  have C := Lib.hid (kclear_raw base w1.heap.size rb (max most 1) [] F (.map none) (.map none) _ (Blk.made w1 [ptr rb, .map none, .map none, .int .i64 (max most 1)] 117) (r1.keep ((Upd.refl (fun _ => False) w1).alloc _) (fun _ _ h => h)) (by omega) (fun k hk => by have := f1 k hk; omega) (by simp; omega))
  have U1 := Lib.hid u1
  have F1 := Lib.hid f1
  have RL := Lib.hid r1.lt
  unfold ptr at C
  clear r1 u1 f1 N
  go_wp2_with fail
  refine (C.out).mono ?_
  rintro e w2 ⟨rfl, E', k2, u2, f2⟩
  have K2 := Lib.hid k2
  have U2 := Lib.hid u2
  have F2 := Lib.hid f2
  clear k2 u2 f2 C
  go_wp2
  go_ret
  refine ⟨w1.heap.size, E', rfl, K2.out, (U1.out.trans ((Upd.refl (fun _ => False) w1).alloc _) (fun _ _ h => h)).trans U2.out (fun i hi e => ?_), fun k hk => ?_⟩
  · rcases e with e | e
    · have : i = w1.heap.size := e; omega
    · have := F1.out i e; omega
  · rcases F2.out k hk with e | e | e
    · have : k = w1.heap.size := e; omega
    · exact F1.out k e
    · simp at e; omega
end Go.Proofs.YtmlojbfcmebboaaGreat
/- Walks: Ids; a client's number struck from a row. -/
set_option linter.unusedVariables false
set_option linter.unusedSimpArgs false
set_option maxRecDepth 100000
namespace Go.Proofs.YtmlojbfcmebboaaGreat
open Go.RowKit Go.Shelf Go.Sort

theorem clone_any (base : Nat) (v : Value) (xs : List Int) (w : World) (h : IntsAt w base v xs) (hl : xs.length ≤ 1000000) :
    Calls Tryz.prog 112 #[v] w fun e w' => ∃ v', e = .returned v' ∧ IntsAt w' w.heap.size v' xs ∧ Upd (fun _ => False) w w' := by
  rcases ints_blk h with ⟨rfl, rfl⟩ | ⟨b, cap, cs, rfl, _, hB, hc, hm⟩
  · exact (Tryz.slices_Clone_int_nil 0 0 w).mono fun e w' ⟨h1, h2⟩ => ⟨_, h1, World.ownsRow_nil _ _ _ _, by rw [h2]; exact Upd.refl _ _⟩
  · refine (Tryz.slices_Clone_int b 0 xs.length cap xs w (Nat.le_refl _) (by omega) (fun j hj => ?_)).mono ?_
    · rw [Nat.zero_add]
      refine hB.cellAt ?_
      rw [List.getElem?_append_left (by simpa using hj)]
      simp [hj]
    · rintro e w' ⟨v', rfl, h2, _, hb⟩
      rw [List.take_length] at h2
      exact ⟨v', rfl, h2, (Upd.of_below hb).weaken fun i hi h2 => by omega⟩
theorem kids_any (base kb : Nat) (most : Int) (L : Rows14) (n : Nat) (E : Nat → Prop) (key : ByteArray) (w : World) (h : KAt w base kb most L n E) (hn : n ≤ 100000) :
    Calls Tryz.prog 78 #[.pointer (some ⟨kb, 0, none⟩), .string key] w fun e w' => ∃ v, e = .returned v ∧ IntsAt w' w.heap.size v ((aget L key).getD []) ∧ Upd (fun _ => False) w w' := by
  obtain ⟨rb, rows, reads, F, R, rv, Q, iv, im, h, hD, hI, rfl⟩ := h
  have c1 : w.cell? ⟨kb, 1, none⟩ = some (.map (some rows)) := h.blk.cellAt rfl
  have lk := h.rowLook key
  have hra := h.rowAt key
  have hl : ((aget L key).getD []).length ≤ 1000000 := by
    cases hk : aget L key with
    | none => simp
    | some l => have := (hI.rise key l hk).2.2; simp; omega
  obtain ⟨p, c, ev, _⟩ := own_slice hra
  rw [ev] at lk
  have C := Lib.hid (clone_any base _ _ w hra hl)
  rw [ev] at C
  clear h hra ev hD
  go_enter Tryz.func78, Tryz.ntmps78
  go_wp2_with fail
  refine (C.out).mono ?_
  rintro e w1 ⟨v, rfl, h2, u2⟩
  have H2 := Lib.hid h2
  have U2 := Lib.hid u2
  clear h2 u2 C
  obtain ⟨p4, c4, e4, _⟩ := own_slice H2.out
  subst e4
  go_wp2
  go_ret
  exact ⟨_, rfl, H2.out, U2.out⟩

/-- The closure of Drop. -/
theorem isid_any (id x : Int) (B : Nat) (W : World) (hc : W.cell? ⟨B, 0, none⟩ = some (.int .i64 id)) :
    FnGives Tryz.prog 100 #[.pointer (some ⟨B, 0, none⟩)] #[.int .i64 x] (.bool (decide (x = id))) W := by
  show Calls Tryz.prog 100 #[.int .i64 x, .pointer (some ⟨B, 0, none⟩)] W _
  go_enter Tryz.func100, Tryz.ntmps100
  go_wp2
  all_goals (go_ret; exact ⟨ret_bool (by rfl), 0, rfl⟩)
theorem int_zero (w : World) : (zeroValue 3).run Tryz.prog w = .ok (.int .i64 0) w := Tryz.zeroValue3 w
/-- slices.DeleteFunc of a row of the call's own, without one number. -/
theorem delf_any (base B : Nat) (v : Value) (xs : List Int) (id : Int) (w : World) (h : IntsAt w base v xs) (hv : v ≠ .slice none 0 0) (hl : xs.length ≤ 1000000) (hB : B < w.heap.size) (hc : w.cell? ⟨B, 0, none⟩ = some (.int .i64 id)) (hne : v.ownBlock ≠ some B) :
    Calls Tryz.prog 90 #[v, .func (.func 100) #[] #[.pointer (some ⟨B, 0, none⟩)]] w fun e w' => ∃ v', e = .returned v' ∧ IntsAt w' base v' (xs.filter (· ≠ id)) ∧ v'.ownBlock = v.ownBlock ∧ Upd (fun k => v.ownBlock = some k) w w' := by
  have eg : ∀ args w, (callFunc 100 args).run Tryz.prog w = .ok (.enter 100 args) w := enters_of Tryz.func100 (by kernel_rfl) rfl
  obtain ⟨g, cap, rfl, hbg, hg, hnc, hcm, _, hH⟩ := Lib.holds_of_ownsRow h hv
  have hgB : B ≠ g := fun e => hne (by rw [e]; rfl)
  have hx : (xs.toArray).toList = xs := rfl
  have hle : (xs.filter fun x => !decide (x = id)).length ≤ xs.length := List.length_filter_le _ _
  refine (Tryz.slices_DeleteFunc (Value.int .i64) (fun _ => rfl) (fun x => decide (x = id)) 100 #[.pointer (some ⟨B, 0, none⟩)] eg 0 (fun w => int_zero w) g 0 cap xs.toArray w
    (fun W x hb => isid_any id x B W ((hb.cell (p := ⟨B, 0, none⟩) hB).trans hc))
    (fun n os dk x _ => isid_any id x B _ (by
      unfold sortWorld
      rw [cell?_grow _ _ _ (by show B < (putRow _ _ _ _ _).heap.size; rw [size_putRow]; exact hB), cell?_putRow_other _ _ g 0 _ _ (Or.inl hgB)]
      exact hc)) hH (by simp; omega) (by simpa using hnc)).mono ?_
  rintro e w' ⟨rfl, q, rfl⟩
  have er : (xs.filter fun x => !decide (x = id)) = xs.filter (· ≠ id) := by congr 1; funext x; simp
  have := Lib.ownsRow_putRow (q := q) (k := (xs.filter fun x => !decide (x = id)).length) (ys := (xs.filter fun x => !decide (x = id)) ++ List.replicate (xs.length - (xs.filter fun x => !decide (x = id)).length) 0) h (by simp; omega) hle
  refine ⟨_, rfl, ?_, rfl, ?_⟩
  · rw [List.take_left'] at this
    · rw [er] at this
      show World.ownsRow _ _ _ _ _ _ _
      rw [er]
      simpa [er] using this
    · rfl
  · have ub : ∀ k, k ≠ g → (putRow (Value.int .i64) (Sort.ahead w q) g 0 ((xs.filter fun x => !decide (x = id)) ++ List.replicate (xs.length - (xs.filter fun x => !decide (x = id)).length) 0).toArray).heap[k]? = w.heap[k]? := fun k hk => by
      simp [putRow, mapBlock, Sort.ahead, Array.getElem?_modify, Ne.symm hk]
    exact ⟨rfl, rfl, rfl, by simp [putRow, mapBlock, Sort.ahead], fun k _ hF => ub k (fun e => hF (by rw [e]; rfl))⟩
end Go.Proofs.YtmlojbfcmebboaaGreat
/- Walk: a client leaves. -/
set_option linter.unusedVariables false
set_option linter.unusedSimpArgs false
set_option maxRecDepth 100000
namespace Go.Proofs.YtmlojbfcmebboaaGreat
open Go.RowKit

def cutId (id : Int) (l : List Int) : List Int := l.filter (· ≠ id)
/-- One key's row without a client. -/
def dropOne (id : Int) (L : Rows14) (k : ByteArray) : Rows14 := match aget L k with
  | none => L
  | some l => if cutId id l = [] then adel L k else aset L k (cutId id l)
/-- All rows without a client. -/
def drop14 (L : Rows14) (id : Int) : Rows14 := L.filterMap fun p => if cutId id p.2 = [] then none else some (p.1, cutId id p.2)
def cutF (id : Int) (p : ByteArray × List Int) : Option (ByteArray × List Int) := if cutId id p.2 = [] then none else some (p.1, cutId id p.2)
theorem fm_congr {α β : Type} {f g : α → Option β} : ∀ {l : List α}, (∀ x ∈ l, f x = g x) → l.filterMap f = l.filterMap g
  | [], _ => rfl
  | a :: l, h => by rw [List.filterMap_cons, List.filterMap_cons, h a (by simp), fm_congr (fun x hx => h x (by simp [hx]))]
theorem dropOne_eq (id : Int) {L : Rows14} (h : (akeys L).Nodup) (k : ByteArray) : dropOne id L k = L.filterMap fun p => if p.1 = k then cutF id p else some p := by
  induction L with
  | nil => rfl
  | cons p r ih =>
    simp only [akeys, List.map_cons, List.nodup_cons] at h
    by_cases e : p.1 = k
    · have hr : r.filterMap (fun p => if p.1 = k then cutF id p else some p) = r := by
        have : ∀ q ∈ r, (if q.1 = k then cutF id q else some q) = some q := fun q hq => by
          rw [if_neg]; intro e2; exact h.1 (by rw [e, ← e2]; exact List.mem_map.2 ⟨q, hq, rfl⟩)
        rw [fm_congr this]; simp
      rw [List.filterMap_cons, if_pos e, hr]
      unfold dropOne cutF
      simp only [aget, e, if_true]
      by_cases hc : cutId id p.2 = []
      · simp [hc, adel, e]
      · simp [hc, aset, e]
    · rw [List.filterMap_cons, if_neg e, ← ih h.2]
      unfold dropOne
      simp only [aget, if_neg e]
      cases hk : aget r k with
      | none => rfl
      | some l =>
        simp only
        split
        · simp [adel, e]
        · simp [aset, e]
theorem keys_filterMap {L : Rows14} {f : ByteArray × List Int → Option (ByteArray × List Int)} (hf : ∀ p q, f p = some q → q.1 = p.1) (h : (akeys L).Nodup) : (akeys (L.filterMap f)).Nodup := by
  have : (akeys (L.filterMap f)).Sublist (akeys L) := by
    clear h
    induction L with
    | nil => simp [akeys]
    | cons p r ih =>
      rw [List.filterMap_cons]
      cases hp : f p with
      | none => simp only [akeys, List.map_cons] at ih ⊢; exact ih.cons _
      | some q => simp only [akeys, List.map_cons] at ih ⊢; rw [hf p q hp]; exact ih.cons_cons _
  exact h.sublist this
theorem cutF_key {id : Int} {p q : ByteArray × List Int} (h : cutF id p = some q) : q.1 = p.1 := by
  unfold cutF at h; split at h
  · cases h
  · cases h; rfl
theorem dropOne_nodup (id : Int) {L : Rows14} (h : (akeys L).Nodup) (k : ByteArray) : (akeys (dropOne id L k)).Nodup := by
  rw [dropOne_eq id h]
  refine keys_filterMap (fun p q hp => ?_) h
  split at hp
  · exact cutF_key hp
  · cases hp; rfl
theorem drop_fold (id : Int) : ∀ (ks : List ByteArray) {L : Rows14}, ks.Nodup → (akeys L).Nodup → ks.foldl (dropOne id) L = L.filterMap fun p => if p.1 ∈ ks then cutF id p else some p
  | [], L, _, _ => by simp
  | k :: ks, L, hk, h => by
    rw [List.foldl_cons, drop_fold id ks (List.nodup_cons.1 hk).2 (dropOne_nodup id h k), dropOne_eq id h, List.filterMap_filterMap]
    refine fm_congr fun p _ => ?_
    have hkn := (List.nodup_cons.1 hk).1
    by_cases e : p.1 = k
    · rw [if_pos e, if_pos (by simp [e])]
      cases hc : cutF id p with
      | none => rfl
      | some q =>
        have hq := cutF_key hc
        simp only [Option.bind_some]
        rw [if_neg (by rw [hq, e]; exact hkn)]
    · rw [if_neg e]
      simp only [Option.bind_some, List.mem_cons, e, false_or]
theorem drop_all (id : Int) {ks : List ByteArray} {L : Rows14} (hk : ks.Nodup) (h : (akeys L).Nodup) (hin : ∀ k l, aget L k = some l → (k ∈ ks ↔ id ∈ l)) (hne : ∀ k l, aget L k = some l → l ≠ []) : ks.foldl (dropOne id) L = drop14 L id := by
  rw [drop_fold id ks hk h]
  unfold drop14
  refine fm_congr fun p hp => ?_
  have hg : aget L p.1 = some p.2 := by
    clear hin hne hk
    induction L with
    | nil => simp at hp
    | cons q r ih =>
      simp only [akeys, List.map_cons, List.nodup_cons] at h
      simp only [aget]
      rcases List.mem_cons.1 hp with rfl | hp
      · rw [if_pos rfl]
      · rw [if_neg (fun e => h.1 (by rw [e]; exact List.mem_map.2 ⟨p, hp, rfl⟩))]; exact ih h.2 hp
  by_cases hm : p.1 ∈ ks
  · rw [if_pos hm]; rfl
  · rw [if_neg hm]
    have hni : id ∉ p.2 := fun hh => hm ((hin _ _ hg).2 hh)
    have hc : cutId id p.2 = p.2 := List.filter_eq_self.2 (fun x hx => by simp; rintro rfl; exact hni hx)
    rw [hc, if_neg (hne _ _ hg)]
theorem dropOne_get {id : Int} {L : Rows14} (h : (akeys L).Nodup) {k k' : ByteArray} (hk : k' ≠ k) : aget (dropOne id L k) k' = aget L k' := by
  unfold dropOne
  cases aget L k with
  | none => rfl
  | some l =>
    simp only
    split
    · rw [aget_adel h, if_neg (Ne.symm hk)]
    · rw [aget_aset, if_neg (Ne.symm hk)]

section
variable {w w1 w2 w3 w4 : World} {base kb rb rows reads : Nat} {most : Int} {ks : List ByteArray} {F F4 : Nat → Prop} {R R4 : List (ByteArray × Value)} {rv : ByteArray → Value} {Q Q4 : List (Int × Value)} {iv : Int → Nat} {im im4 : Int → List (ByteArray × Value)} {L : Rows14} {n : Nat} {id : Int} {key : ByteArray} {l : List Int} {v : Value}
/-- The rows behind one key's turn. -/
theorem cut_inv (hI : KInv L n) (hnd : (akeys L).Nodup) (hk : aget L key = some l) : KInv (dropOne id L key) n := by
  have hb := hI.rise key l hk
  refine ⟨fun k' l' hk' => ?_, ?_⟩
  · by_cases e : k' = key
    · subst e
      unfold dropOne at hk'
      rw [hk] at hk'
      simp only at hk'
      split at hk'
      · rw [aget_adel hnd, if_pos rfl] at hk'; cases hk'
      · next hc => rw [aget_aset, if_pos rfl] at hk'; cases hk'; exact ⟨hb.1.filter _, hc, Nat.le_trans (List.length_filter_le _ _) hb.2.2⟩
    · rw [dropOne_get hnd e] at hk'; exact hI.rise k' l' hk'
  · unfold dropOne
    rw [hk]
    simp only
    split
    · exact Nat.le_trans (adel_len _ _) hI.len
    · have : (akeys (aset L key (cutId id l))).length = (akeys L).length := by rw [akeys_aset, if_pos (aget_mem.2 (by rw [hk]; simp))]
      simp only [akeys, List.length_map] at this
      rw [this]; exact hI.len
theorem cut_reads (hD : ∀ id k, k ∈ akeys (im id) ↔ ∃ l, aget L k = some l ∧ id ∈ l) (hnd : (akeys L).Nodup) (hk : aget L key = some l) (hin : id ∈ l)
    (hm : ∀ id' k, k ∈ akeys (im4 id') ↔ k ∈ akeys (im id') ∧ ¬ (id' = id ∧ k = key)) (id' : Int) (k : ByteArray) : k ∈ akeys (im4 id') ↔ ∃ l', aget (dropOne id L key) k = some l' ∧ id' ∈ l' := by
  rw [hm, hD]
  by_cases e : k = key
  · subst e
    unfold dropOne
    rw [hk]
    simp only
    split
    · next hc =>
      rw [aget_adel hnd, if_pos rfl]
      constructor
      · rintro ⟨⟨l', h1, h2⟩, h3⟩
        cases h1
        have : id' ∈ cutId id l := List.mem_filter.2 ⟨h2, by simpa using fun e => h3 ⟨e, trivial⟩⟩
        rw [hc] at this; simp at this
      · rintro ⟨l', h1, _⟩; cases h1
    · next hc =>
      rw [aget_aset, if_pos rfl]
      constructor
      · rintro ⟨⟨l', h1, h2⟩, h3⟩
        cases h1
        exact ⟨_, rfl, List.mem_filter.2 ⟨h2, by simpa using fun e => h3 ⟨e, trivial⟩⟩⟩
      · rintro ⟨l', h1, h2⟩
        cases h1
        have := List.mem_filter.1 h2
        exact ⟨⟨_, rfl, this.1⟩, fun h => by simpa [h.1] using this.2⟩
  · rw [dropOne_get hnd e]
    constructor
    · rintro ⟨h1, _⟩; exact h1
    · intro h1; exact ⟨h1, fun h2 => e h2.2⟩
end
end Go.Proofs.YtmlojbfcmebboaaGreat
/- Walk: a client leaves. -/
set_option linter.unusedVariables false
set_option linter.unusedSimpArgs false
set_option maxRecDepth 100000
namespace Go.Proofs.YtmlojbfcmebboaaGreat
open Go.RowKit

theorem alloc_old {w : World} {o : Obj} {p : Addr} (h : p.block < w.heap.size) : (w.alloc o).cell? p = w.cell? p := World.cell?_of_block (w := w) (Below.heap_alloc _ _ _ h)

theorem strs_cell {w : World} {base : Nat} {v : Value} {xs : List ByteArray} (h : StrsAt w base v xs) {j : Nat} (hj : j < xs.length) : ∃ b cap, v = .slice (some ⟨b, 0, none⟩) xs.length cap ∧ w.cell? ⟨b, j, none⟩ = some (.string xs[j]) ∧ base ≤ b ∧ b < w.heap.size := by
  obtain ⟨h1, ⟨rfl, e⟩ | ⟨g, cap, cur, rfl, hg, hh, h2, h3, h4, h5⟩⟩ := h
  · omega
  · refine ⟨g, cap, rfl, ?_, hg, (Array.getElem?_eq_some_iff.1 hh).1⟩
    have e1 : (cur.toList.take (xs.length * 1))[j]? = (xs.map Value.string)[j]? := by rw [h5]
    rw [List.getElem?_take, if_pos (by omega), Array.getElem?_toList, List.getElem?_map, List.getElem?_eq_getElem hj] at e1
    simp only [World.cell?, hh, Option.isSome_none, Bool.false_eq_true, if_false]
    rw [e1]; rfl
theorem strs_block {w : World} {base b : Nat} {v : Value} {xs : List ByteArray} (h : StrsAt w base v xs) (hv : v.ownBlock = some b) : base ≤ b ∧ b < w.heap.size := by
  obtain ⟨_, ⟨rfl, e⟩ | ⟨g, cap, cur, rfl, hg, hh, _⟩⟩ := h
  · cases hv
  · cases hv; exact ⟨hg, (Array.getElem?_eq_some_iff.1 hh).1⟩

theorem drop_rest {id : Int} {ksl : List ByteArray} {Lj : Rows14} {j : Nat} {key : ByteArray} (hn : ksl.Nodup) (hlt : j < ksl.length) (hkey : ksl[j] = key) (hnd : (akeys Lj).Nodup) (h : ∀ k ∈ ksl.drop j, ∃ l, aget Lj k = some l ∧ id ∈ l) :
    ∀ k ∈ ksl.drop (j + 1), ∃ l, aget (dropOne id Lj key) k = some l ∧ id ∈ l := fun k hk => by
  have hne : k ≠ key := fun e => by
    have e1 : (ksl.drop j).Nodup := hn.sublist (List.drop_sublist _ _)
    rw [List.drop_eq_getElem_cons hlt, hkey] at e1
    exact (List.nodup_cons.1 e1).1 (e ▸ hk)
  rw [dropOne_get hnd hne]
  exact h k (by rw [List.drop_eq_getElem_cons hlt]; exact List.mem_cons_of_mem _ hk)

set_option maxHeartbeats 4000000 in
theorem kdrop_any (base kb : Nat) (most : Int) (L : Rows14) (n : Nat) (E : Nat → Prop) (id : Int) (w : World) (h : KAt w base kb most L n E) (hn : n ≤ 90000) (hks : ∀ k ∈ akeys L, k.size ≤ maxLen) :
    Calls Tryz.prog 48 #[.pointer (some ⟨kb, 0, none⟩), .int .i64 id] w fun e w' => e = .returned (.int .i64 ((L.length : Int) - (drop14 L id).length)) ∧ ∃ E', KAt w' base kb most (drop14 L id) n E' ∧ Upd E w w' ∧ FromF E E' w := by
  have hnd0 := h.nodup
  have hinv0 := h.inv
  have hlt0 := h.lt
  have HK0 := Lib.hid h
  obtain ⟨rb, rows, reads, F, R, rv, Q, iv, im, h, hD, hI, hE⟩ := h
  have uB : Upd (fun _ => False) w (w.alloc (.cells #[.int .i64 id] 3)).drew := ((Upd.refl _ w).alloc _).drew
  have hB := h.keep uB (fun _ _ h => h)
  have kbl := h.blk.lt
  have c2 : (w.alloc (.cells #[.int .i64 id] 3)).cell? ⟨kb, 2, none⟩ = some (.map (some reads)) := (alloc_old kbl).trans (h.blk.cellAt rfl)
  have ci : (w.alloc (.cells #[.int .i64 id] 3)).cell? ⟨w.heap.size, 0, none⟩ = some (.int .i64 id) := (Blk.made w [.int .i64 id] 3).cellAt rfl
  have lq := hB.qmap.look keyI Tryz.underlying115 (zeroM _) id false
  rw [hB.qget] at lq
  unfold intEnc at lq
  simp only [Bool.false_eq_true, if_false] at lq
  obtain ⟨o, lq, ho⟩ : ∃ o, (Instr.lookup 115 (.map (some reads)) (.int .i64 id) false).run Tryz.prog (w.alloc (.cells #[.int .i64 id] 3)).drew = .ok (.map o) (w.alloc (.cells #[.int .i64 id] 3)).drew ∧ ((o = none ∧ im id = []) ∨ ∃ b, o = some b ∧ MapAt strEnc (w.alloc (.cells #[.int .i64 id] 3)).drew b (im id)) := by
    by_cases e : im id = []
    · rw [if_pos e] at lq; exact ⟨none, lq, Or.inl ⟨rfl, e⟩⟩
    · rw [if_neg e] at lq; exact ⟨some (iv id), lq, Or.inr ⟨_, rfl, (hB.imap id e).1⟩⟩
  obtain ⟨wB, eB⟩ : ∃ x, w.alloc (.cells #[.int .i64 id] 3) = x := ⟨_, rfl⟩
  have hwB : wB.heap.size = w.heap.size + 1 := by rw [← eB]; simp
  have uK : Upd (fun _ => False) wB.drew (wB.drew.alloc (.cells #[.map o] 51)) := (Upd.refl _ _).alloc _
  have him : ∀ k, k ∈ akeys (im id) ↔ ∃ l, aget L k = some l ∧ id ∈ l := hD id
  have COL := Lib.hid (collect_any o (im id) wB.drew.heap.size (wB.drew.alloc (.cells #[.map o] 51)) (by simp) ((Blk.made wB.drew [.map o] 51).cellAt rfl) (by
    rw [← eB]
    rcases ho with h | ⟨b, h1, h2⟩
    · exact Or.inl h
    · exact Or.inr ⟨b, h1, h2.keep ((Upd.refl (fun _ => False) _).alloc _) (fun h => h)⟩) (fun k hk => hks k (by
      obtain ⟨l, h1, _⟩ := (him k).1 hk
      exact aget_mem.2 (by rw [h1]; simp))) (Nat.le_trans (im_len hD (fun id hid => (h.imap id hid).2) hI.len id) (by omega)))
  have KND : Hid (im id = [] ∨ (akeys (im id)).Nodup) := (by
    by_cases e : im id = []
    · exact Or.inl e
    · exact Or.inr (h.imap id e).2)
  have HIM := Lib.hid him
  have SB := Lib.hid eB
  have YB : Hid (∀ w2, Upd (fun _ => False) (wB.drew.alloc (.cells #[.map o] 51)) w2 → w2.cell? ⟨kb, 2, none⟩ = some (.map (some reads)) ∧ w2.cell? ⟨w.heap.size, 0, none⟩ = some (.int .i64 id)) := fun w2 u2 => by
    have u : Upd (fun _ => False) wB w2 := (((Upd.refl (fun _ => False) wB).drew).trans uK (fun _ _ h => h)).trans u2 (fun _ _ h => h)
    exact ⟨(u.cell (p := ⟨kb, 2, none⟩) (by show kb < _; omega) (fun h => h)).trans (eB ▸ c2), (u.cell (p := ⟨w.heap.size, 0, none⟩) (by show w.heap.size < _; omega) (fun h => h)).trans (eB ▸ ci)⟩
  have kbl2 : kb < wB.heap.size := by omega
  have wl2 : w.heap.size < wB.heap.size := by omega
  rw [eB] at lq c2 ci
  have HWB := Lib.hid hwB
  clear h hD hI hE hB uB ho him uK eB hwB
  go_enter Tryz.func48, Tryz.ntmps48
  go_wp2
  rw [SB.out]
  go_region_held3 (fun w' => w'.cell? ⟨kb, 2, none⟩ = some (.map (some reads)) ∧ w'.cell? ⟨w.heap.size, 0, none⟩ = some (.int .i64 id)) (go_keep)
    (first
      | (go_at_call 99; refine (keysf_any _ _).mono ?_; rintro e wK ⟨rfl, rfl⟩; (have y := YB.out _ (Upd.refl _ _)); (have y1 := y.1); (have y2 := y.2); clear y)
      | (go_at_call 98; refine COL.out.mono ?_; rintro e w2 ⟨kv, ksl, rfl, hp, hs, u2⟩; (have z := YB.out _ u2); (have z1 := z.1); (have z2 := z.2); (have HP := Lib.hid hp); (have HS := Lib.hid hs); (have U2 := Lib.hid u2); (obtain ⟨kp, kc, ekv, _⟩ := own_slice hs); subst ekv; clear z hp hs u2))
  have U02 : Hid (Upd (fun _ => False) w w2) := by
    have u1 : Upd (fun _ => False) w wB := by rw [← SB.out]; exact (Upd.refl _ w).alloc _
    exact (u1.trans ((((Upd.refl (fun _ => False) wB).drew).alloc _)) (fun _ _ h => h)).trans U2.out (fun _ _ h => h)
  have hE2 : Hid (¬ E w.heap.size ∧ w.heap.size + 1 < w2.heap.size ∧ ∀ b, (Value.slice kp ksl.length kc).ownBlock = some b → ¬ E b ∧ w.heap.size < b ∧ b < w2.heap.size) := by
    have hs2 := U2.out.size
    have hwb := HWB.out
    simp at hs2
    refine ⟨fun hh => by have := (hlt0 _ hh).2; omega, by omega, fun b hb => ?_⟩
    obtain ⟨h1, h2⟩ := strs_block HS.out hb
    simp at h1
    exact ⟨fun hh => by have := (hlt0 _ hh).2; omega, by omega, h2⟩
  have KS0 : Hid (ksl.Nodup ∧ ∀ k ∈ ksl, ∃ l, aget L k = some l ∧ id ∈ l) := by
    refine ⟨?_, fun k hk => (HIM.out k).1 (HP.out.mem_iff.1 hk)⟩
    rcases KND.out with e | e
    · have := HP.out; rw [e] at this; simp [akeys] at this; rw [this]; simp
    · exact HP.out.nodup_iff.2 e
  have HIN : Hid (∀ k l, aget L k = some l → id ∈ l → k ∈ ksl) := fun k l h1 h2 => HP.out.mem_iff.2 ((HIM.out k).2 ⟨l, h1, h2⟩)
  have K2 := Lib.hid (HK0.out.keep U02.out (fun _ _ h => h))
  have PB : Hid (Blk w2 w.heap.size [.int .i64 id] 3) := by
    have := Blk.made w [.int .i64 id] 3
    have hb : Blk wB w.heap.size [.int .i64 id] 3 := by rw [← SB.out]; exact this
    exact U2.out.blk ((hb.drew).alloc _) (fun h => h)
  have hkl : ksl.length ≤ n := by
    have := HP.out.length_eq
    have h2 : ksl.length ≤ L.length := by
      have := subset_len (l := ksl) (m := akeys L) KS0.out.1 (fun k hk => by obtain ⟨l, h1, _⟩ := KS0.out.2 k hk; exact aget_mem.2 (by rw [h1]; simp))
      simpa [akeys] using this
    have := hinv0.len; omega
  clear z1 z2 y1 y2 ci c2 lq KND HIM COL YB
  go_wp2
  go_loopw [5, 18] (fun c x wr => ∃ (j d : Nat) (Lj : Rows14) (Ej : Nat → Prop), j ≤ ksl.length ∧ x = .int .i64 (j : Int) ∧ c = .int .i64 (d : Int) ∧ d ≤ j ∧ Hid (d + Lj.length = L.length) ∧ Hid (KAt wr base kb most Lj n Ej) ∧ Hid (Lj = (ksl.take j).foldl (dropOne id) L) ∧ Hid (Upd E w2 wr) ∧ Hid (FromF E Ej w2) ∧
      Hid (∀ k ∈ ksl.drop j, ∃ l, aget Lj k = some l ∧ id ∈ l)) (fun _ x _ => ksl.length - (intOf x).toNat)
  case atStart => exact ⟨0, 0, L, E, by omega, rfl, rfl, by omega, Lib.hid (by omega), K2, Lib.hid rfl, Lib.hid (Upd.refl _ _), Lib.hid (FromF.refl _ _), Lib.hid KS0.out.2⟩
  case round =>
    obtain ⟨j, d, Lj, Ej, hj, rfl, rfl, hdj, HL, KJ, FJ, U, FF, RS⟩ := hrel
    by_cases hlt : j < ksl.length
    · have hs := HS.out.keep U.out (fun b hb => (hE2.out.2.2 b hb).1)
      obtain ⟨b, cap, e1, e2, _, _⟩ := strs_cell hs hlt
      injection e1 with e1 _ e4
      subst e1 e4
      have pi : wr.cell? ⟨w.heap.size, 0, none⟩ = some (.int .i64 id) := (U.out.cell (p := ⟨w.heap.size, 0, none⟩) (by show w.heap.size < _; have := hE2.out; omega) hE2.out.1).trans (PB.out.cellAt rfl)
      obtain ⟨key, hkey⟩ : ∃ x, ksl[j] = x := ⟨_, rfl⟩
      rw [hkey] at e2
      have hin : key ∈ ksl.drop j := by rw [← hkey]; have e := List.drop_eq_getElem_cons hlt; rw [e]; exact List.mem_cons_self
      obtain ⟨l, hl1, hl2⟩ := RS.out key hin
      have HKY := Lib.hid hkey
      have KND := KJ.out.nodup
      obtain ⟨rb1, rows1, reads1, F1, R1, rv1, Q1, iv1, im1, h1, hD1, hI1, hE1⟩ := KJ.out
      have hb1 := hI1.rise key l hl1
      have d1 : wr.cell? ⟨kb, 1, none⟩ = some (.map (some rows1)) := h1.blk.cellAt rfl
      have lk := h1.rowLook key
      have hrow := h1.rrow key l hl1
      have erv : rowV rv1 (aget Lj) key = rv1 key := by unfold rowV; rw [hl1]
      rw [erv] at lk
      have hnn : rv1 key ≠ .slice none 0 0 := fun e => by
        rw [e] at hrow
        have := hrow.1
        obtain ⟨_, ⟨_, e2⟩ | ⟨g, cap, cur, e2, _⟩⟩ := hrow
        · exact hb1.2.1 (List.length_eq_zero_iff.1 e2)
        · cases e2
      obtain ⟨p, c, ev, _⟩ := own_slice hrow
      have NB : ∀ b, Ej b → b ≠ w.heap.size := fun b hb e => by
        rcases FF.out _ hb with g | g
        · rw [e] at g; exact hE2.out.1 g
        · have := hE2.out; omega
      have inR : ∀ b, (rv1 key).ownBlock = some b → Ej b := fun b hb => by rw [hE1]; exact Or.inr (Or.inr (Or.inr (Or.inr (Or.inl ⟨key, l, hl1, hb⟩))))
      have hne : (rv1 key).ownBlock ≠ some w.heap.size := fun e => NB _ (inR _ e) rfl
      have hll : l.length ≤ 90000 := by have := hb1.2.2; omega
      have DF := Lib.hid (delf_any base w.heap.size (rv1 key) l id wr hrow hnn (by omega) (by have := hE2.out; have := U.out.size; omega) pi hne)
      have PBr : Hid (Blk wr w.heap.size [.int .i64 id] 3) := U.out.blk PB.out hE2.out.1
      have H1 := Lib.hid h1
      have HD1 := Lib.hid hD1
      have HI1 := Lib.hid hI1
      have HE1 := Lib.hid hE1
      have HL1 := Lib.hid (And.intro hl1 hl2)
      have HEV := Lib.hid ev
      rw [ev] at lk DF
      clear h1 hD1 hI1 hE1 hl1 hl2 ev erv hrow hnn hs hb1 hin hkey
      go_wp2_with fail
      refine (DF.out).mono ?_
      rintro e w3 ⟨v3, rfl, i3, o3, u3⟩
      obtain ⟨l2, el2⟩ : ∃ x, l.filter (· ≠ id) = x := ⟨_, rfl⟩
      rw [el2] at i3
      have EL2 : Hid (cutId id l = l2) := el2
      have hl2 : l2.length ≤ 90000 := by rw [← el2]; exact Nat.le_trans (List.length_filter_le _ _) hll
      clear el2
      have eown : ∀ b, (Value.slice p l.length c).ownBlock = some b → (rv1 key).ownBlock = some b := fun b hb => by rw [HEV.out]; exact hb
      have hrF := fun b (hb : (Value.slice p l.length c).ownBlock = some b) => H1.out.rowF HL1.out.1 (eown b hb)
      have d3 : w3.cell? ⟨kb, 1, none⟩ = some (.map (some rows1)) := (u3.blk H1.out.blk (fun e => (hrF _ e).2.1 rfl)).cellAt rfl
      have m3 := H1.out.rmap.keep u3 (fun e => (hrF _ e).2.2.1 rfl)
      obtain ⟨w4, de, m4, u4⟩ := m3.put keyS Tryz.underlying114 key v3
      have h4 := H1.out.rowPut (k := key) (u3.weaken (fun i _ e => ⟨l, HL1.out.1, eown i e⟩)) i3 (fun b hb => Or.inl ⟨l, HL1.out.1, eown b (by rw [← o3]; exact hb)⟩) m4 u4
      have rE : Ej rows1 := by rw [HE1.out]; exact Or.inr (Or.inl rfl)
      have B4 : Blk w4 w.heap.size [.int .i64 id] 3 := u4.blk (u3.blk PBr.out (fun e => hne (eown _ e))) (fun e => NB _ rE e.symm)
      have p4 : w4.cell? ⟨w.heap.size, 0, none⟩ = some (.int .i64 id) := B4.cellAt rfl
      have hk4 : key ∈ akeys (im1 id) := (HD1.out id key).2 ⟨l, HL1.out⟩
      have iml := im_len HD1.out (fun id hid => (H1.out.imap id hid).2) HI1.out.len
      have FG := Lib.hid (forget_raw base kb rb1 rows1 reads1 most _ F1 _ _ _ Q1 iv1 im1 id key w4 h4 hk4 (Nat.le_trans (iml id) (by omega)))
      have H4 := Lib.hid h4
      have U3 := Lib.hid u3
      have U4 := Lib.hid u4
      have I3 := Lib.hid i3
      have IML := Lib.hid iml
      have HK4 := Lib.hid hk4
      obtain ⟨p3, c3, e3, _⟩ := own_slice i3
      unfold strEnc at de
      clear i3 u3 m3 m4 u4 h4 B4 hk4 iml DF lk
      subst e3
      have O3 := Lib.hid o3
      clear o3
      go_wp2_with fail
      refine (FG.out).mono ?_
      rintro e w5 ⟨rfl, ⟨Q5, h5⟩, u5⟩
      have H5 := Lib.hid h5
      have U5 := Lib.hid u5
      clear h5 u5 FG de
      have inF : ∀ x, (x = iv1 id ∨ x = reads1) → Ej x := fun x hx => by
        rw [HE1.out]
        rcases hx with e | e
        · exact Or.inr (Or.inr (Or.inr (Or.inr (Or.inr ⟨id, fun h => by have := HK4.out; rw [h] at this; simp [akeys] at this, e⟩))))
        · exact Or.inr (Or.inr (Or.inl e))
      have U35 : Hid (Upd Ej wr w5) := ((U3.out.weaken (F := Ej) (fun i _ e => inR i (eown i e))).trans U4.out (fun i _ e => by rw [show i = rows1 from e]; exact rE)).trans U5.out (fun i _ e => inF i e)
      have MI : Hid (∀ id' k, k ∈ akeys (upd im1 id (adel (im1 id) key) id') ↔ k ∈ akeys (im1 id') ∧ ¬ (id' = id ∧ k = key)) := fun id' k => by
        by_cases e : id' = id
        · subst e
          have hnx : im1 id' ≠ [] := fun h => by have := HK4.out; rw [h] at this; simp [akeys] at this
          rw [upd_at, mem_adel (H1.out.imap id' hnx).2]; simp
        · rw [upd_ne _ _ e]; simp [e]
      have FOOT : Hid (∀ b, KFoot kb rows1 reads1 F1 (upd rv1 key (Value.slice p3 l2.length c3)) (upd (aget Lj) key (some l2)) iv1 (upd im1 id (adel (im1 id) key)) b → Ej b) := fun b hb => by
        rw [HE1.out]
        rcases hb with e | e | e | e | ⟨k, l', hk, hb⟩ | ⟨id', hid, e⟩
        · exact Or.inl e
        · exact Or.inr (Or.inl e)
        · exact Or.inr (Or.inr (Or.inl e))
        · exact Or.inr (Or.inr (Or.inr (Or.inl e)))
        · by_cases e : k = key
          · subst e
            rw [upd_at] at hb
            exact Or.inr (Or.inr (Or.inr (Or.inr (Or.inl ⟨k, l, HL1.out.1, eown b (by rw [← O3.out]; exact hb)⟩))))
          · rw [upd_ne _ _ e] at hk hb
            exact Or.inr (Or.inr (Or.inr (Or.inr (Or.inl ⟨k, l', hk, hb⟩))))
        · refine Or.inr (Or.inr (Or.inr (Or.inr (Or.inr ⟨id', fun h => hid ?_, e⟩))))
          by_cases e : id' = id
          · subst e; rw [upd_at, h]; rfl
          · rw [upd_ne _ _ e]; exact h
      clear U3 U4 U5 H4 eown hrF inF
      by_cases hz : l2 = []
      · have hzb : ((l2.length : Int) == 0) = true := by simp [hz]
        have hg : (upd (aget Lj) key (some l2) key).getD [] = [] := by rw [upd_at, hz]; rfl
        have TK := Lib.hid (take_raw base kb rb1 rows1 reads1 most _ F1 _ _ _ Q5 iv1 _ key w5 H5.out (fun id' hid => by rw [hg] at hid; simp at hid) (by rw [hg]; simp) (fun id' => by
          by_cases e : id' = id
          · subst e; rw [upd_at]; exact Nat.le_trans (adel_len _ _) (Nat.le_trans (IML.out _) (by omega))
          · rw [upd_ne _ _ e]; exact Nat.le_trans (IML.out _) (by omega)) (by rw [hg]; simp))
        have HZ := Lib.hid hz
        have HG := Lib.hid hg
        clear hz hg
        go_wp2_with fail
        refine (TK.out).mono ?_
        rintro e w6 ⟨rfl, v6, ⟨F6, Q6, im6, h6, f6, le6, m6⟩, u6⟩
        have ed : dropOne id Lj key = adel Lj key := by unfold dropOne; rw [HL1.out.1]; simp only; rw [EL2.out, if_pos HZ.out]
        have er : upd (upd (aget Lj) key (some l2)) key none = aget (dropOne id Lj key) := by
          rw [ed, ← upd_adel KND]
          funext x
          by_cases e : x = key
          · subst e; rw [upd_at, upd_at]
          · rw [upd_ne _ _ e, upd_ne _ _ e, upd_ne _ _ e]
        have ek : (akeys Lj).erase key = akeys (dropOne id Lj key) := by rw [ed, akeys_erase]
        rw [er, ek] at h6
        have M6 : ∀ id' k, k ∈ akeys (im6 id') ↔ k ∈ akeys (im1 id') ∧ ¬ (id' = id ∧ k = key) := fun id' k => by
          rw [m6, MI.out, HG.out]; simp
        have kat : KAt w6 base kb most (dropOne id Lj key) n (KFoot kb rows1 reads1 F6 (upd rv1 key (Value.slice p3 l2.length c3)) (aget (dropOne id Lj key)) iv1 im6) :=
          ⟨rb1, rows1, reads1, F6, _, _, Q6, iv1, im6, h6, fun id' k => cut_reads HD1.out KND HL1.out.1 HL1.out.2 M6 id' k, cut_inv HI1.out KND HL1.out.1, rfl⟩
        have KAT := Lib.hid kat
        have u6E : Upd Ej wr w6 := U35.out.trans u6 (fun i _ e => by
          rw [HE1.out]
          rcases e with e | e | e | ⟨id', hid, e⟩
          · exact Or.inr (Or.inr (Or.inr (Or.inl e)))
          · exact Or.inr (Or.inl e)
          · exact Or.inr (Or.inr (Or.inl e))
          · rw [← HE1.out]; exact FOOT.out i (Or.inr (Or.inr (Or.inr (Or.inr (Or.inr ⟨id', hid, e⟩))))))
        have f6E : FromF Ej (KFoot kb rows1 reads1 F6 (upd rv1 key (Value.slice p3 l2.length c3)) (aget (dropOne id Lj key)) iv1 im6) wr := fun x hx => by
          have hs5 := U35.out.size
          rcases hx with e | e | e | e | ⟨k, l', hk, hb⟩ | ⟨id', hid, e⟩
          · exact Or.inl (FOOT.out x (Or.inl e))
          · exact Or.inl (FOOT.out x (Or.inr (Or.inl e)))
          · exact Or.inl (FOOT.out x (Or.inr (Or.inr (Or.inl e))))
          · rcases f6 x e with g | g
            · exact Or.inl (FOOT.out x (Or.inr (Or.inr (Or.inr (Or.inl g)))))
            · exact Or.inr (Nat.le_trans hs5 g)
          · have hne' : k ≠ key := fun e => by rw [ed, aget_adel KND, e, if_pos rfl] at hk; cases hk
            rw [ed, aget_adel KND, if_neg (Ne.symm hne')] at hk
            exact Or.inl (FOOT.out x (Or.inr (Or.inr (Or.inr (Or.inr (Or.inl ⟨k, l', by rw [upd_ne _ _ hne']; exact hk, hb⟩))))))
          · exact Or.inl (FOOT.out x (Or.inr (Or.inr (Or.inr (Or.inr (Or.inr ⟨id', fun h => hid (by have := le6 id'; rw [h] at this; exact List.length_eq_zero_iff.1 (by simpa using this)), e⟩))))))
        have UE := Lib.hid u6E
        have FE := Lib.hid f6E
        have ED := Lib.hid ed
        clear h6 f6 le6 m6 u6 er ek M6 kat u6E f6E ed TK v6
        go_wp2
        go_roundw
        case rel =>
          have hlen : (adel Lj key).length + 1 = Lj.length := by
            have e1 := akeys_erase Lj key
            have e2 := congrArg List.length e1
            rw [List.length_erase_of_mem (aget_mem.2 (by rw [HL1.out.1]; simp))] at e2
            have : 0 < (akeys Lj).length := List.length_pos_of_mem (aget_mem.2 (by rw [HL1.out.1]; simp))
            simp only [akeys, List.length_map] at e2 this; omega
          refine ⟨j + 1, d + 1, dropOne id Lj key, _, by omega, by go_num, by go_num, by omega, Lib.hid ?_, KAT, Lib.hid ?_, Lib.hid (FF.out.lift U.out UE.out), Lib.hid (FF.out.trans FE.out U.out.size), Lib.hid ?_⟩
          · have := HL.out; rw [ED.out]; omega
          · rw [List.take_succ_eq_append_getElem hlt, List.foldl_append, ← FJ.out, HKY.out]; rfl
          · exact drop_rest KS0.out.1 hlt HKY.out KND RS.out
        case measure => simp [intOf]; omega
      · have hzb : ((l2.length : Int) == 0) = false := by simp; exact hz
        have ed : dropOne id Lj key = aset Lj key l2 := by unfold dropOne; rw [HL1.out.1]; simp only; rw [EL2.out, if_neg hz]
        have h6 := H5.out
        have ek : akeys Lj = akeys (dropOne id Lj key) := by rw [ed, akeys_aset, if_pos (aget_mem.2 (by rw [HL1.out.1]; simp))]
        rw [upd_aset, ← ed, ek] at h6
        have kat : KAt w5 base kb most (dropOne id Lj key) n (KFoot kb rows1 reads1 F1 (upd rv1 key (Value.slice p3 l2.length c3)) (aget (dropOne id Lj key)) iv1 (upd im1 id (adel (im1 id) key))) :=
          ⟨rb1, rows1, reads1, F1, _, _, Q5, iv1, _, h6, fun id' k => cut_reads HD1.out KND HL1.out.1 HL1.out.2 MI.out id' k, cut_inv HI1.out KND HL1.out.1, rfl⟩
        have KAT := Lib.hid kat
        have FE : Hid (FromF Ej (KFoot kb rows1 reads1 F1 (upd rv1 key (Value.slice p3 l2.length c3)) (aget (dropOne id Lj key)) iv1 (upd im1 id (adel (im1 id) key))) wr) := fun x hx => Or.inl (FOOT.out x (by rw [upd_aset, ← ed]; exact hx))
        have ED := Lib.hid ed
        have HLEN : Hid ((aset Lj key l2).length = Lj.length) := by
          have e1 := congrArg List.length ek
          rw [ed] at e1
          exact Lib.hid (by simpa [akeys] using e1.symm)
        clear ed h6 ek kat hz
        go_wp2
        go_roundw
        case rel =>
          refine ⟨j + 1, d, dropOne id Lj key, _, by omega, by go_num, rfl, by omega, Lib.hid ?_, KAT, Lib.hid ?_, Lib.hid (FF.out.lift U.out U35.out), Lib.hid (FF.out.trans FE.out U.out.size), Lib.hid ?_⟩
          · rw [ED.out, HLEN.out]; exact HL.out
          · rw [List.take_succ_eq_append_getElem hlt, List.foldl_append, ← FJ.out, HKY.out]; rfl
          · exact drop_rest KS0.out.1 hlt HKY.out KND RS.out
        case measure => simp [intOf]; omega
    · have hj2 : j = ksl.length := by omega
      subst hj2
      have hfin : Lj = drop14 L id := by
        rw [FJ.out, List.take_length]
        exact drop_all id KS0.out.1 hnd0 (fun k l hk => ⟨fun hh => by
          obtain ⟨l', h1, h2⟩ := KS0.out.2 k hh
          rw [hk] at h1; cases h1; exact h2, fun hh => HIN.out k l hk hh⟩) (fun k l hk => (hinv0.rise k l hk).2.1)
      have hd : (d : Int) = (L.length : Int) - (drop14 L id).length := by have := HL.out; rw [hfin] at this; omega
      have HD := Lib.hid hd
      have HF := Lib.hid hfin
      clear hd hfin
      go_wp2
      go_ret
      refine ⟨ret_int HD.out, Ej, HF.out ▸ KJ.out, U02.out.weaken (F := E) (fun _ _ h => h.elim) |>.trans U.out (fun _ _ h => h), fun k hk => ?_⟩
      rcases FF.out k hk with g | g
      · exact Or.inl g
      · exact Or.inr (Nat.le_trans U02.out.size g)
end Go.Proofs.YtmlojbfcmebboaaGreat
/- What the struct's first field is; who is fresh. -/
set_option linter.unusedVariables false
set_option linter.unusedSimpArgs false
namespace Go.Proofs.YtmlojbfcmebboaaGreat
open Go.RowKit

/-- What the struct's first field is, and how many rows there are. -/
theorem KAt.rec {w : World} {base kb : Nat} {most : Int} {L : Rows14} {n : Nat} {E : Nat → Prop} (h : KAt w base kb most L n E) : ∃ rb F, w.cell? ⟨kb, 0, none⟩ = some (.pointer (some ⟨rb, 0, none⟩)) ∧ RecRep w rb (akeys L) F := by
  obtain ⟨rb, rows, reads, F, R, rv, Q, iv, im, h, _⟩ := h
  exact ⟨rb, F, h.blk.cellAt rfl, h.recent⟩
theorem KAt.fresh {w w1 w2 : World} {kb : Nat} {most : Int} {L : Rows14} {n : Nat} {E : Nat → Prop} (h : KAt w1 w.heap.size kb most L n E) (u : Upd (fun _ => False) w w1) (u2 : Upd E w1 w2) : Upd (fun _ => False) w w2 :=
  u.trans u2 (fun i hi hE => by have := (h.lt i hE).1; omega)
end Go.Proofs.YtmlojbfcmebboaaGreat
