/- Plain: what holds of every table: the counts, and that there is always a free place. -/
import Derived.Test.YtgdenmddbgcacaaGreatDoorK03
set_option linter.unusedVariables false
set_option linter.unusedSimpArgs false
namespace Tbl

def cf (ps : List Pl) : Nat := ps.countP fun p => p.st = 1
def cg (ps : List Pl) : Nat := ps.countP fun p => p.st = 2

structure Row.Ok (r : Row) : Prop where
  full : r.full = (cf r.pl : Int)
  graves : r.graves = (cg r.pl : Int)
  keys : ∀ p ∈ r.pl, p.key.size ≤ 100000

theorem cf_le (ps : List Pl) : cf ps ≤ ps.length := List.countP_le_length
theorem cg_le (ps : List Pl) : cg ps ≤ ps.length := List.countP_le_length
theorem cfg_le (ps : List Pl) : cf ps + cg ps ≤ ps.length := by
  unfold cf cg
  induction ps with
  | nil => simp
  | cons p ps ih =>
    simp only [List.countP_cons, List.length_cons]
    by_cases h1 : p.st = 1 <;> by_cases h2 : p.st = 2 <;> simp [h1, h2] <;> omega

theorem getD_lt (ps : List Pl) (i : Nat) (h : i < ps.length) : ps.getD i default = ps[i] := by
  rw [List.getD_eq_getElem?_getD, List.getElem?_eq_getElem h]; rfl

theorem cf_set (ps : List Pl) (i : Nat) (p : Pl) (h : i < ps.length) :
    (cf (ps.set i p) : Int) = cf ps - (if (ps.getD i default).st = 1 then 1 else 0) + (if p.st = 1 then 1 else 0) := by
  rw [getD_lt ps i h]
  unfold cf
  rw [List.countP_set h]
  have : (if decide (ps[i].st = 1) = true then 1 else 0) ≤ List.countP (fun p => decide (p.st = 1)) ps := by
    split
    · next h1 => exact List.countP_pos_iff.2 ⟨ps[i], List.getElem_mem h, h1⟩
    · omega
  generalize List.countP (fun p => decide (p.st = 1)) ps = c at *
  by_cases h1 : ps[i].st = 1 <;> by_cases h2 : p.st = 1 <;> simp only [h1, h2, decide_true, decide_false, if_true, if_false, Bool.false_eq_true] at this ⊢ <;> omega
theorem cg_set (ps : List Pl) (i : Nat) (p : Pl) (h : i < ps.length) :
    (cg (ps.set i p) : Int) = cg ps - (if (ps.getD i default).st = 2 then 1 else 0) + (if p.st = 2 then 1 else 0) := by
  rw [getD_lt ps i h]
  unfold cg
  rw [List.countP_set h]
  have : (if decide (ps[i].st = 2) = true then 1 else 0) ≤ List.countP (fun p => decide (p.st = 2)) ps := by
    split
    · next h1 => exact List.countP_pos_iff.2 ⟨ps[i], List.getElem_mem h, h1⟩
    · omega
  generalize List.countP (fun p => decide (p.st = 2)) ps = c at *
  by_cases h1 : ps[i].st = 2 <;> by_cases h2 : p.st = 2 <;> simp only [h1, h2, decide_true, decide_false, if_true, if_false, Bool.false_eq_true] at this ⊢ <;> omega

theorem ok_made (n : Nat) : (made n).Ok :=
  ⟨by simp [made, cf, noPl, List.countP_replicate], by simp [made, cg, noPl, List.countP_replicate], fun p hp => by
    simp [made] at hp; rw [hp.2]; decide⟩
theorem ok_none : none.Ok := ⟨rfl, rfl, fun p hp => by simp [none] at hp⟩

theorem keys_set {ps : List Pl} (h : ∀ p ∈ ps, p.key.size ≤ 100000) (i : Nat) (q : Pl) (hq : q.key.size ≤ 100000) : ∀ p ∈ ps.set i q, p.key.size ≤ 100000 := by
  intro p hp
  rcases List.mem_or_eq_of_mem_set hp with h1 | rfl
  · exact h p h1
  · exact hq
theorem key_getD {ps : List Pl} (h : ∀ p ∈ ps, p.key.size ≤ 100000) (i : Nat) : (ps.getD i default).key.size ≤ 100000 := by
  by_cases hi : i < ps.length
  · rw [getD_lt ps i hi]; exact h _ (List.getElem_mem hi)
  · rw [List.getD_eq_getElem?_getD, List.getElem?_eq_none (by omega)]; decide

theorem ok_bury {r : Row} (h : r.Ok) (i : Nat) (hi : i < r.pl.length) (h1 : (r.pl.getD i default).st = 1) : (r.bury i).Ok := by
  refine ⟨?_, ?_, keys_set h.keys _ _ (by decide)⟩
  · show r.full - 1 = (cf (r.pl.set i gravePl) : Int)
    rw [cf_set _ _ _ hi, h.full, if_pos h1]; simp [gravePl]
  · show r.graves + 1 = (cg (r.pl.set i gravePl) : Int)
    rw [cg_set _ _ _ hi, h.graves, if_neg (by omega)]; simp [gravePl]
theorem ok_num {r : Row} (h : r.Ok) (i : Nat) (n : Int) (hi : i < r.pl.length) : (r.num i n).Ok := by
  refine ⟨?_, ?_, keys_set h.keys _ _ (key_getD h.keys i)⟩
  · show r.full = (cf (r.pl.set i _) : Int)
    rw [cf_set _ _ _ hi, h.full]; simp only; omega
  · show r.graves = (cg (r.pl.set i _) : Int)
    rw [cg_set _ _ _ hi, h.graves]; simp only; omega
theorem ok_putAt {r : Row} (h : r.Ok) (i : Nat) (there : Bool) (key : ByteArray) (n : Int) (hi : i < r.pl.length) (hk : key.size ≤ 100000)
    (ht : there = true → (r.pl.getD i default).st = 1) (hf : there = false → (r.pl.getD i default).st ≠ 1) : (r.putAt i there key n).Ok := by
  cases there
  · have hf := hf rfl
    refine ⟨?_, ?_, keys_set h.keys _ _ hk⟩
    · show r.full + 1 = (cf (r.pl.set i _) : Int)
      rw [cf_set _ _ _ hi, h.full, if_neg hf]; simp
    · show (if (r.pl.getD i default).st = 2 then r.graves - 1 else r.graves) = (cg (r.pl.set i _) : Int)
      rw [cg_set _ _ _ hi, h.graves]; simp only; split <;> simp
  · have ht := ht rfl
    refine ⟨?_, ?_, keys_set h.keys _ _ hk⟩
    · show r.full = (cf (r.pl.set i _) : Int)
      rw [cf_set _ _ _ hi, h.full, if_pos ht]; simp
    · show r.graves = (cg (r.pl.set i _) : Int)
      rw [cg_set _ _ _ hi, h.graves, if_neg (by omega)]; simp

/-- Where find says 'not there' and gives a place, it isn't full. -/
theorem findGo_free (ps : List Pl) (key : ByteArray) (f a : Nat) (free : Int) (h0 : 0 < ps.length) (ha : a < ps.length) (hfr : 0 ≤ free → (ps.getD free.toNat default).st ≠ 1)
    (ht : (findGo ps key f a free).2 = false) (hr : 0 ≤ (findGo ps key f a free).1) : (ps.getD (findGo ps key f a free).1.toNat default).st ≠ 1 := by
  induction f generalizing a free with
  | zero => simp only [findGo] at hr ⊢; exact hfr hr
  | succ f ih =>
    rw [findGo] at ht hr ⊢
    split
    · next h => rw [if_pos h] at ht; simp at ht
    · next h =>
      rw [if_neg h] at ht hr
      split
      · next h2 =>
        simp only
        split
        · next h3 => simpa using h3.1
        · next h3 => rw [if_pos h2, if_neg h3] at hr; exact hfr hr
      · next h2 =>
        rw [if_neg h2] at ht hr
        refine ih _ _ (Nat.mod_lt _ h0) ?_ ht hr
        intro hq
        split
        · next h3 => simpa using h3.1
        · next h3 => rw [if_neg h3] at hq; exact hfr hq
theorem find_free (ps : List Pl) (key : ByteArray) (h0 : 0 < ps.length) (ht : (find ps key).2 = false) (hr : 0 ≤ (find ps key).1) :
    (ps.getD (find ps key).1.toNat default).st ≠ 1 :=
  findGo_free _ _ _ _ _ h0 (Nat.mod_lt _ h0) (by omega) ht hr

/-- Where find gives none, all that it saw is full. -/
theorem findGo_none (ps : List Pl) (key : ByteArray) (f a : Nat) (free : Int) (h0 : 0 < ps.length) (ha : a < ps.length)
    (hr : (findGo ps key f a free).1 < 0) : free < 0 ∧ ∀ j, j < f → (ps.getD ((a + j) % ps.length) default).st = 1 := by
  induction f generalizing a free with
  | zero => simp only [findGo] at hr; exact ⟨hr, fun j hj => by omega⟩
  | succ f ih =>
    rw [findGo] at hr
    split at hr
    · simp only at hr; omega
    · next h =>
      split at hr
      · next h2 => 
        simp only at hr; split at hr
        · omega
        · next h3 => exfalso; apply h3; exact ⟨by omega, hr⟩
      · next h2 =>
        obtain ⟨h3, h4⟩ := ih _ _ (Nat.mod_lt _ h0) hr
        have h5 : ¬ ((ps.getD a default).st ≠ 1 ∧ free < 0) := fun h5 => by rw [if_pos h5] at h3; omega
        rw [if_neg h5] at h3
        refine ⟨h3, fun j hj => ?_⟩
        cases j with
        | zero => rw [Nat.add_zero, Nat.mod_eq_of_lt ha]; omega
        | succ j =>
          have := h4 j (by omega)
          rw [Nat.mod_add_mod] at this
          rw [show a + (j + 1) = a + 1 + j by omega]; exact this
theorem all_full (ps : List Pl) (h : ∀ i, i < ps.length → (ps.getD i default).st = 1) : cf ps = ps.length := by
  unfold cf
  rw [List.countP_eq_length]
  intro p hp
  obtain ⟨i, hi, rfl⟩ := List.getElem_of_mem hp
  have := h i hi
  rw [getD_lt ps i hi] at this
  simpa using this
theorem find_some (ps : List Pl) (key : ByteArray) (h0 : 0 < ps.length) (hf : cf ps < ps.length) : 0 ≤ (find ps key).1 := by
  apply Decidable.byContradiction; intro hn
  have hh : home ps key < ps.length := Nat.mod_lt _ h0
  obtain ⟨_, h⟩ := findGo_none ps key ps.length (home ps key) (-1) h0 hh (by unfold find at hn; omega)
  have := all_full ps fun i hi => by
    by_cases hc : home ps key ≤ i
    · have := h (i - home ps key) (by omega)
      rwa [show home ps key + (i - home ps key) = i by omega, Nat.mod_eq_of_lt hi] at this
    · have := h (i + ps.length - home ps key) (by omega)
      rwa [show home ps key + (i + ps.length - home ps key) = i + ps.length by omega, Nat.add_mod_right, Nat.mod_eq_of_lt hi] at this
  omega

theorem ok_put {r : Row} (h : r.Ok) (key : ByteArray) (n : Int) (h0 : 0 < r.pl.length) (hf : cf r.pl < r.pl.length) (hk : key.size ≤ 100000) : (r.put key n).Ok := by
  have h1 := find_some r.pl key h0 hf
  have h2 := find_range r.pl key h0
  refine ok_putAt h _ _ _ _ (by omega) hk (fun ht => ?_) (fun ht => find_free _ _ h0 ht h1)
  obtain ⟨i, _, hi, hs, _⟩ := find_there r.pl key h0 ht
  rw [hi, Int.toNat_natCast]; exact hs
theorem put_len (r : Row) (key : ByteArray) (n : Int) : (r.put key n).pl.length = r.pl.length := by simp [Row.put, Row.putAt]
theorem put_full (r : Row) (key : ByteArray) (n : Int) : (r.put key n).full ≤ r.full + 1 := by unfold Row.put Row.putAt; simp only; split <;> omega
theorem put_sum (r : Row) (key : ByteArray) (n : Int) : (r.put key n).full + (r.put key n).graves ≤ r.full + r.graves + 1 := by
  unfold Row.put Row.putAt; simp only; split
  · omega
  · split <;> omega

structure Tab.Inv (m : Nat) (t : Tab) : Prop where
  old : t.old.Ok
  fresh : t.fresh.Ok
  lo : 8 ≤ t.old.pl.length
  hi : t.old.pl.length ≤ 8 * m + 8
  hi2 : t.fresh.pl.length ≤ 8 * m + 8
  rest : t.moving = false → t.fresh = none ∧ t.next = 0 ∧ t.old.full + t.old.graves ≤ m ∧ t.old.full < t.old.pl.length
  mv : t.moving = true → 8 ≤ t.fresh.pl.length ∧ t.next < t.old.pl.length ∧ t.old.pl.length ≤ 2 * t.fresh.pl.length + 1 ∧ t.old.pl.length ≤ 2 * m ∧
    4 * (t.old.full + t.fresh.full) ≤ t.fresh.pl.length + t.next ∧ t.old.full + t.fresh.full + t.fresh.graves ≤ m ∧ ∀ i, i < t.next → (t.old.pl.getD i default).st ≠ 1

theorem inv_new (m : Nat) : Tab.new.Inv m :=
  ⟨ok_made 8, ok_none, by simp [Tab.new, made], by simp [Tab.new, made], by simp [Tab.new, none], fun _ => ⟨rfl, rfl, by simp [Tab.new, made], by simp [Tab.new, made]⟩, fun h => by cases h⟩

theorem Tab.Inv.of {m : Nat} {t : Tab} (h : t.Inv m) : 0 ≤ t.old.full ∧ 0 ≤ t.old.graves ∧ t.old.full ≤ t.old.pl.length ∧ t.old.graves ≤ t.old.pl.length := by
  have := cf_le t.old.pl; have := cg_le t.old.pl; rw [h.old.full, h.old.graves]; omega
theorem Tab.Inv.ff {m : Nat} {t : Tab} (h : t.Inv m) : 0 ≤ t.fresh.full ∧ 0 ≤ t.fresh.graves ∧ t.fresh.full ≤ t.fresh.pl.length ∧ t.fresh.graves ≤ t.fresh.pl.length := by
  have := cf_le t.fresh.pl; have := cg_le t.fresh.pl; rw [h.fresh.full, h.fresh.graves]; omega
theorem Tab.Inv.room {m : Nat} {t : Tab} (h : t.Inv m) (hm : t.moving = true) : cf t.fresh.pl < t.fresh.pl.length := by
  have := h.mv hm; have := h.of; have := h.fresh.full; omega

theorem getD_set_ne (ps : List Pl) (i j : Nat) (p : Pl) (h : i ≠ j) : (ps.set j p).getD i default = ps.getD i default := by
  rw [List.getD_eq_getElem?_getD, List.getD_eq_getElem?_getD, List.getElem?_set_ne (by omega)]
theorem getD_set_eq (ps : List Pl) (i : Nat) (p : Pl) (h : i < ps.length) : (ps.set i p).getD i default = p := by
  rw [List.getD_eq_getElem?_getD, List.getElem?_set_self h]; rfl

/-- What one move does, as far as the counts go. -/
theorem moved_inv {m : Nat} {t : Tab} (h : t.Inv m) (hm : t.moving = true) :
    t.moved.old.Ok ∧ t.moved.fresh.Ok ∧ t.moved.old.pl.length = t.old.pl.length ∧ t.moved.fresh.pl.length = t.fresh.pl.length ∧ t.moved.moving = true ∧ t.moved.next = t.next ∧
    t.moved.old.full + t.moved.fresh.full ≤ t.old.full + t.fresh.full ∧ t.moved.old.full + t.moved.fresh.full + t.moved.fresh.graves ≤ t.old.full + t.fresh.full + t.fresh.graves ∧
    ∀ i, i < t.next + 1 → (t.moved.old.pl.getD i default).st ≠ 1 := by
  obtain ⟨h1, h2, h3, h4, h5, h6, h7⟩ := h.mv hm
  unfold Tab.moved
  simp only
  split
  · next hs =>
    have ho := ok_bury h.old t.next h2 hs
    have hp := ok_put h.fresh (t.old.pl.getD t.next default).key (t.old.pl.getD t.next default).n (by omega) (h.room hm) (key_getD h.old.keys _)
    have q1 := put_full t.fresh (t.old.pl.getD t.next default).key (t.old.pl.getD t.next default).n
    have q2 := put_sum t.fresh (t.old.pl.getD t.next default).key (t.old.pl.getD t.next default).n
    refine ⟨ho, hp, by simp [Row.bury], put_len _ _ _, hm, rfl, ?_, ?_, ?_⟩
    · simp only [Row.bury] ; omega
    · simp only [Row.bury] ; omega
    · intro i hi
      simp only [Row.bury]
      by_cases e : i = t.next
      · subst e; rw [getD_set_eq _ _ _ h2]; simp [gravePl]
      · rw [getD_set_ne _ _ _ _ e]; exact h7 i (by omega)
  · next hs =>
    refine ⟨h.old, h.fresh, rfl, rfl, hm, rfl, Int.le_refl _, Int.le_refl _, ?_⟩
    intro i hi
    by_cases e : i = t.next
    · subst e; exact hs
    · exact h7 i (by omega)

theorem one_inv {m : Nat} {t : Tab} (h : t.Inv m) (hm : t.moving = true) : t.one.Inv m := by
  obtain ⟨h1, h2, h3, h4, h5, h6, h7⟩ := h.mv hm
  obtain ⟨g1, g2, g3, g4, g5, g6, g7, g8, g9⟩ := moved_inv h hm
  have ha := h.of
  have hb := h.ff
  have b1 := g1.full
  have b2 := g2.full
  have b3 := g2.graves
  unfold Tab.one
  simp only
  split
  · next he =>
    have hz : cf t.moved.old.pl = 0 := by
      unfold cf; rw [List.countP_eq_zero]
      intro p hp
      obtain ⟨i, hi, rfl⟩ := List.getElem_of_mem hp
      have := g9 i (by omega)
      rw [getD_lt _ i hi] at this
      simpa using this
    refine ⟨g2, ok_none, by simp only; omega, by simp only; have := h.hi2; omega, by simp [none], fun _ => ⟨rfl, rfl, ?_, ?_⟩, fun h => by cases h⟩
    · simp only; omega
    · simp only; omega
  · next he =>
    refine ⟨g1, g2, by simp only; have := h.lo; omega, by simp only; have := h.hi; omega, by simp only; have := h.hi2; omega, fun hh => ?_, fun _ => ?_⟩
    · rw [show ({ t.moved with next := t.next + 1 } : Tab).moving = t.moved.moving from rfl, g5] at hh; cases hh
    · simp only; refine ⟨by omega, by omega, by omega, by omega, by omega, by omega, fun i hi => g9 i hi⟩
theorem steps_inv {m : Nat} (k : Nat) {t : Tab} (h : t.Inv m) : (t.steps k).Inv m := by
  induction k generalizing t with
  | zero => exact h
  | succ k ih =>
    rw [Tab.steps]
    split
    · next hm => exact ih (one_inv h hm)
    · exact h
theorem step_inv {m : Nat} {t : Tab} (h : t.Inv m) : t.step.Inv m := steps_inv 4 h

theorem roomFor_spec (full : Int) (h0 : 0 ≤ full) (f : Nat) (R : Int) (hR : 8 ≤ R) (hf : 4 * full + 4 - R ≤ f) :
    R ≤ roomFor full f R ∧ full < roomFor full f R / 4 ∧ (roomFor full f R = R ∨ roomFor full f R ≤ 8 * full + 6) := by
  induction f generalizing R with
  | zero => simp only [roomFor]; exact ⟨Int.le_refl _, by omega, by simp⟩
  | succ f ih =>
    rw [roomFor]
    split
    · next h =>
      obtain ⟨h1, h2, h3⟩ := ih (R * 2) (by omega) (by omega)
      refine ⟨by omega, h2, Or.inr ?_⟩
      rcases h3 with h3 | h3
      · rw [h3]; omega
      · exact h3
    · next h => exact ⟨Int.le_refl _, by omega, by simp⟩
theorem room_spec (t : Tab) (h0 : 0 ≤ t.old.full) : 8 ≤ t.room ∧ t.old.pl.length ≤ 2 * t.room + 1 ∧ 4 * t.old.full + 4 ≤ t.room ∧ (t.room ≤ 8 ∨ t.room ≤ t.old.pl.length / 2 ∨ t.room ≤ 8 * t.old.full + 6) := by
  obtain ⟨h1, h2, h3⟩ := roomFor_spec t.old.full h0 (4 * t.old.full + 4).toNat (max 8 ((t.old.pl.length : Int) / 2)) (by omega) (by omega)
  unfold Tab.room
  generalize roomFor t.old.full (4 * t.old.full + 4).toNat (max 8 ((t.old.pl.length : Int) / 2)) = S at *
  refine ⟨by omega, by omega, by omega, ?_⟩
  rcases h3 with h3 | h3
  · rw [h3]; omega
  · exact Or.inr (Or.inr h3)

theorem at_fresh {t : Tab} {key : ByteArray} {i : Nat} (h : t.at key = some (true, i)) :
    t.fresh.pl.length ≠ 0 ∧ (find t.fresh.pl key).2 = true ∧ i = (find t.fresh.pl key).1.toNat ∧ i < t.fresh.pl.length ∧ (t.fresh.pl.getD i default).st = 1 ∧ (t.fresh.pl.getD i default).key = key := by
  unfold Tab.at at h
  split at h
  · next hc =>
    simp only [Option.some.injEq, Prod.mk.injEq, true_and] at h
    obtain ⟨j, h1, h2, h3, h4⟩ := find_there t.fresh.pl key (by omega) hc.2
    subst h
    rw [h2, Int.toNat_natCast]
    exact ⟨hc.1, hc.2, rfl, h1, h3, h4⟩
  · split at h <;> simp at h
theorem at_old {t : Tab} {key : ByteArray} {i : Nat} (h : t.at key = some (false, i)) :
    t.old.pl.length ≠ 0 ∧ (find t.old.pl key).2 = true ∧ i = (find t.old.pl key).1.toNat ∧ i < t.old.pl.length ∧ (t.old.pl.getD i default).st = 1 ∧ (t.old.pl.getD i default).key = key := by
  unfold Tab.at at h
  split at h
  · simp at h
  · split at h
    · next hc =>
      simp only [Option.some.injEq, Prod.mk.injEq, true_and] at h
      obtain ⟨j, h1, h2, h3, h4⟩ := find_there t.old.pl key (by omega) hc.2
      subst h
      rw [h2, Int.toNat_natCast]
      exact ⟨hc.1, hc.2, rfl, h1, h3, h4⟩
    · simp at h
theorem at_none {t : Tab} {key : ByteArray} (h : t.at key = Option.none) :
    (t.fresh.pl.length ≠ 0 → (find t.fresh.pl key).2 = false) ∧ (t.old.pl.length ≠ 0 → (find t.old.pl key).2 = false) := by
  unfold Tab.at at h
  split at h
  · simp at h
  · next h1 =>
    split at h
    · simp at h
    · next h2 => exact ⟨fun h0 => by simpa using fun hh => h1 ⟨h0, hh⟩, fun h0 => by simpa using fun hh => h2 ⟨h0, hh⟩⟩
theorem Tab.Inv.moving_of {m : Nat} {t : Tab} (h : t.Inv m) (hf : t.fresh.pl.length ≠ 0) : t.moving = true := by
  cases hm : t.moving
  · exact absurd (by rw [(h.rest hm).1]; rfl) hf
  · rfl

/-- A table of which it is known that one more key has room: behind 'grow'. -/
theorem grow_spec {m : Nat} {t : Tab} (h : t.Inv m) :
    t.grow.old = t.old ∧ t.grow.next = t.next ∧ (t.grow.moving = true → cf t.grow.fresh.pl < t.grow.fresh.pl.length ∧ t.grow.fresh.Ok ∧ t.grow.fresh.pl.length ≤ 8 * m + 8 ∧ 8 ≤ t.grow.fresh.pl.length) ∧
    (t.grow.moving = false → t.grow = t ∧ t.moving = false ∧ cf t.old.pl < t.old.pl.length) := by
  have hf := h.of
  unfold Tab.grow
  split
  · next hc =>
    refine ⟨rfl, rfl, fun hm => ⟨h.room hm, h.fresh, h.hi2, (h.mv hm).1⟩, fun hm => ⟨rfl, hm, ?_⟩⟩
    have := (h.rest hm).2.2.2
    rw [h.old.full] at this; omega
  · next hc =>
    simp only [not_or, Bool.not_eq_true] at hc
    have hr := h.rest hc.1
    have rs := room_spec t hf.1
    have hl := h.lo
    have hh := h.hi
    refine ⟨rfl, rfl, fun _ => ⟨?_, ok_made _, ?_, ?_⟩, fun hm => by cases hm⟩
    · simp only [made, List.length_replicate]
      have : cf (List.replicate t.room.toNat noPl) = 0 := by simp [cf, noPl, List.countP_replicate]
      omega
    · simp only [made, List.length_replicate]; omega
    · simp only [made, List.length_replicate]; omega

theorem put2_inv {m : Nat} {t : Tab} (h : t.Inv m) (key : ByteArray) (n : Int) (hk : key.size ≤ 100000) (hn : t.moving = true → 4 * (t.old.full + t.fresh.full) + 4 ≤ t.fresh.pl.length + t.next) : (t.put2 key n).1.Inv (m + 1) := by
  unfold Tab.put2
  have hf := h.of
  have hl := h.lo
  have hh := h.hi
  have hh2 := h.hi2
  split
  · next i e =>
    obtain ⟨a1, a2, a3, a4, a5, a6⟩ := at_fresh e
    have hm := h.moving_of a1
    obtain ⟨h1, h2, h3, h4, h5, h6, h7⟩ := h.mv hm
    refine ⟨h.old, ok_num h.fresh _ _ a4, hl, by simp only; omega, by simp [Row.num]; omega, fun hx => ?_, fun _ => ?_⟩
    · rw [show ({ t with fresh := t.fresh.num i n } : Tab).moving = t.moving from rfl, hm] at hx; cases hx
    · simp only [Row.num, List.length_set]; exact ⟨h1, h2, h3, by omega, h5, by omega, h7⟩
  · next i e =>
    obtain ⟨a1, a2, a3, a4, a5, a6⟩ := at_old e
    refine ⟨ok_num h.old _ _ a4, h.fresh, by simp [Row.num]; omega, by simp [Row.num]; omega, by simp only; omega, fun hx => ?_, fun hx => ?_⟩
    · have := h.rest hx
      simp only [Row.num, List.length_set]
      exact ⟨this.1, this.2.1, by omega, by omega⟩
    · obtain ⟨h1, h2, h3, h4, h5, h6, h7⟩ := h.mv hx
      simp only [Row.num, List.length_set]
      refine ⟨h1, h2, h3, by omega, h5, by omega, fun j hj => ?_⟩
      by_cases hji : j = i
      · subst hji; exact absurd a5 (h7 j hj)
      · rw [getD_set_ne _ _ _ _ hji]; exact h7 j hj
  · next e =>
    obtain ⟨g1, g2, g3, g4⟩ := grow_spec h
    simp only
    by_cases hm : t.grow.moving = true
    · rw [if_pos hm]
      obtain ⟨k1, k2, k3, k4⟩ := g3 hm
      have ho := ok_put k2 key n (by omega) k1 hk
      have p1 := put_full t.grow.fresh key n
      have p2 := put_sum t.grow.fresh key n
      have p3 := put_len t.grow.fresh key n
      refine ⟨by simp only; rw [g1]; exact h.old, ho, by simp only; rw [g1]; exact hl, by simp only; rw [g1]; omega, by simp only; omega, fun hx => ?_, fun _ => ?_⟩
      · rw [show ({ t.grow with fresh := t.grow.fresh.put key n } : Tab).moving = t.grow.moving from rfl, hm] at hx; cases hx
      · simp only
        rw [g1, g2, p3]
        cases hmm : t.moving
        · have hr := h.rest hmm
          have rs := room_spec t hf.1
          have e1 : t.grow = { t with fresh := made t.room.toNat, moving := true } := by
            unfold Tab.grow at hm ⊢
            split
            · next hc => rw [if_pos hc] at hm; rw [hmm] at hm; cases hm
            · rfl
          have hc : ¬ (t.moving = true ∨ 2 * (t.old.full + t.old.graves) < t.old.pl.length) := by
            intro hc; unfold Tab.grow at hm; rw [if_pos hc, hmm] at hm; cases hm
          simp only [not_or] at hc
          have hlen : t.grow.fresh.pl.length = t.room.toNat := by rw [e1]; simp [made]
          have hfu : t.grow.fresh.full = 0 := by rw [e1]; rfl
          have hgr : t.grow.fresh.graves = 0 := by rw [e1]; rfl
          rw [hfu] at p1 p2
          rw [hgr] at p2
          refine ⟨by omega, by omega, by omega, by omega, by omega, by omega, fun i hi => by omega⟩
        · obtain ⟨h1, h2, h3, h4, h5, h6, h7⟩ := h.mv hmm
          have hn := hn hmm
          have e1 : t.grow = t := by unfold Tab.grow; rw [if_pos (Or.inl hmm)]
          rw [e1] at p1 p2 p3 k3 ⊢
          exact ⟨h1, h2, h3, by omega, by omega, by omega, h7⟩
    · rw [if_neg hm]
      have hm : t.grow.moving = false := by simpa using hm
      obtain ⟨e1, e2, e3⟩ := g4 hm
      rw [e1]
      have hr := h.rest e2
      have ho := ok_put h.old key n (by omega) e3 hk
      have p1 := put_full t.old key n
      have p2 := put_sum t.old key n
      have p3 := put_len t.old key n
      have hc : 2 * (t.old.full + t.old.graves) < t.old.pl.length := by
        apply Decidable.byContradiction; intro hc
        unfold Tab.grow at hm; rw [if_neg (by rw [e2]; simp; omega)] at hm; cases hm
      refine ⟨ho, h.fresh, by simp only; omega, by simp only; omega, by simp only; omega, fun _ => ⟨hr.1, hr.2.1, by simp only; omega, by simp only; omega⟩, fun hx => ?_⟩
      rw [show ({ t with old := t.old.put key n } : Tab).moving = t.moving from rfl, e2] at hx; cases hx

/-- Behind a step that still moves, there is room for one more in the count. -/
theorem moved_slack {m : Nat} {t : Tab} (h : t.Inv m) (hm : t.moving = true) (ho : t.one.moving = true) :
    4 * (t.one.old.full + t.one.fresh.full) + 1 ≤ 4 * (t.old.full + t.fresh.full) + 1 ∧ t.one.next = t.next + 1 ∧ t.one.fresh.pl.length = t.fresh.pl.length := by
  obtain ⟨g1, g2, g3, g4, g5, g6, g7, g8, g9⟩ := moved_inv h hm
  unfold Tab.one at ho ⊢
  simp only at ho ⊢
  split
  · next he => rw [if_pos he] at ho; cases ho
  · next he => simp only; exact ⟨by omega, trivial, g4⟩
theorem steps_key {m : Nat} (k : Nat) {t : Tab} (h : t.Inv m) (hm : (t.steps k).moving = true) :
    t.moving = true ∧ 4 * ((t.steps k).old.full + (t.steps k).fresh.full) ≤ 4 * (t.old.full + t.fresh.full) ∧ (t.steps k).next = t.next + k ∧ (t.steps k).fresh.pl.length = t.fresh.pl.length := by
  induction k generalizing t with
  | zero => exact ⟨hm, Int.le_refl _, rfl, rfl⟩
  | succ k ih =>
    rw [Tab.steps] at hm ⊢
    by_cases hmm : t.moving = true
    · rw [if_pos hmm] at hm ⊢
      obtain ⟨i1, i2, i3, i4⟩ := ih (one_inv h hmm) hm
      obtain ⟨s1, s2, s3⟩ := moved_slack h hmm i1
      exact ⟨hmm, by omega, by omega, by omega⟩
    · rw [if_neg hmm] at hm; exact absurd hm hmm
theorem steps_slack {m : Nat} (k : Nat) {t : Tab} (h : t.Inv m) (hm : (t.steps k).moving = true) :
    4 * ((t.steps k).old.full + (t.steps k).fresh.full) + k ≤ (t.steps k).fresh.pl.length + (t.steps k).next := by
  obtain ⟨h1, h2, h3, h4⟩ := steps_key k h hm
  have := (h.mv h1).2.2.2.2.1
  omega
theorem put_inv {m : Nat} {t : Tab} (h : t.Inv m) (key : ByteArray) (n : Int) (hk : key.size ≤ 100000) : (t.put key n).1.Inv (m + 1) :=
  put2_inv (step_inv h) key n hk fun hm => steps_slack 4 h hm

theorem bury_sum (r : Row) (i : Nat) : (r.bury i).full = r.full - 1 ∧ (r.bury i).graves = r.graves + 1 ∧ (r.bury i).pl.length = r.pl.length := by
  simp [Row.bury]
theorem cut_inv {m : Nat} {t : Tab} (h : t.Inv m) (key : ByteArray) : (t.cut key).Inv m := by
  unfold Tab.cut
  have hf := h.of
  have hl := h.lo
  have hh := h.hi
  have hh2 := h.hi2
  split
  · next i e =>
    obtain ⟨a1, a2, a3, a4, a5, a6⟩ := at_fresh e
    have hm := h.moving_of a1
    obtain ⟨h1, h2, h3, h4, h5, h6, h7⟩ := h.mv hm
    have hs := bury_sum t.fresh i
    refine ⟨h.old, ok_bury h.fresh _ a4 a5, hl, hh, by simp only; omega, fun hx => ?_, fun _ => ?_⟩
    · rw [show ({ t with fresh := t.fresh.bury i } : Tab).moving = t.moving from rfl, hm] at hx; cases hx
    · simp only; exact ⟨by omega, h2, by omega, h4, by omega, by omega, h7⟩
  · next i e =>
    obtain ⟨a1, a2, a3, a4, a5, a6⟩ := at_old e
    have hs := bury_sum t.old i
    refine ⟨ok_bury h.old _ a4 a5, h.fresh, by simp only; omega, by simp only; omega, hh2, fun hx => ?_, fun hx => ?_⟩
    · have := h.rest hx
      simp only
      exact ⟨this.1, this.2.1, by omega, by omega⟩
    · obtain ⟨h1, h2, h3, h4, h5, h6, h7⟩ := h.mv hx
      simp only
      refine ⟨h1, by omega, by omega, by omega, by omega, by omega, fun j hj => ?_⟩
      unfold Row.bury; simp only
      by_cases hji : j = i
      · subst hji; exact absurd a5 (h7 j hj)
      · rw [getD_set_ne _ _ _ _ hji]; exact h7 j hj
  · exact h
theorem drop_inv {m : Nat} {t : Tab} (h : t.Inv m) (key : ByteArray) : (t.drop key).1.Inv m := cut_inv (step_inv h) key
theorem Tab.Inv.mono {m m' : Nat} {t : Tab} (h : t.Inv m) (hm : m ≤ m') : t.Inv m' := by
  have h1 := h.hi; have h2 := h.hi2
  refine ⟨h.old, h.fresh, h.lo, by omega, by omega, fun hx => ?_, fun hx => ?_⟩
  · have := h.rest hx; exact ⟨this.1, this.2.1, by omega, this.2.2.2⟩
  · have := h.mv hx; exact ⟨this.1, this.2.1, this.2.2.1, by omega, this.2.2.2.2.1, by omega, this.2.2.2.2.2.2⟩
end Tbl
