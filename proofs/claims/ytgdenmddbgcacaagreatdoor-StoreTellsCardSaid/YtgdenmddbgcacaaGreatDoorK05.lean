/- Plain: the table as a map from keys to numbers. -/
import Derived.Test.YtgdenmddbgcacaaGreatDoorK04
import Derived.Test.YtgdenmddbgcacaaGreatDoorChecked
import Derived.Test.YtgdenmddbgcacaaGreatDoorK01
import Derived.Test.YtgdenmddbgcacaaGreatDoorRows
import Derived.Test.YtgdenmddbgcacaaGreatDoorShelf
import Derived.Sort.OwnSorted
set_option linter.unusedVariables false
set_option linter.unusedSimpArgs false
namespace Tbl

/-- Place i holds key k with number n. -/
def At (ps : List Pl) (i : Nat) (k : ByteArray) (n : Int) : Prop := i < ps.length ∧ (ps.getD i default).st = 1 ∧ (ps.getD i default).key = k ∧ (ps.getD i default).n = n
def Has (ps : List Pl) (k : ByteArray) (n : Int) : Prop := ∃ i, At ps i k n
/-- Place i can be come to from k's home past places none of which is empty. -/
def Path (ps : List Pl) (k : ByteArray) (i : Nat) : Prop := ∃ d, d < ps.length ∧ (home ps k + d) % ps.length = i ∧ ∀ j, j < d → (ps.getD ((home ps k + j) % ps.length) default).st ≠ 0
structure Good (ps : List Pl) : Prop where
  uniq : ∀ i j k n m, At ps i k n → At ps j k m → i = j
  path : ∀ i k n, At ps i k n → Path ps k i

theorem findGo_present (ps : List Pl) (key : ByteArray) (f a : Nat) (free : Int) (h0 : 0 < ps.length) (ha : a < ps.length) (d : Nat) (hd : d < f)
    (h1 : (ps.getD ((a + d) % ps.length) default).st = 1) (h2 : (ps.getD ((a + d) % ps.length) default).key = key) (h3 : ∀ j, j < d → (ps.getD ((a + j) % ps.length) default).st ≠ 0) :
    (findGo ps key f a free).2 = true := by
  induction f generalizing a free d with
  | zero => omega
  | succ f ih =>
    rw [findGo]
    split
    · rfl
    · next hn =>
      cases d with
      | zero => rw [Nat.add_zero, Nat.mod_eq_of_lt ha] at h1 h2; exact absurd ⟨h1, h2⟩ hn
      | succ d =>
        have hz := h3 0 (by omega)
        rw [Nat.add_zero, Nat.mod_eq_of_lt ha] at hz
        rw [if_neg hz]
        have e : ∀ j, ((a + 1) % ps.length + j) % ps.length = (a + (j + 1)) % ps.length := fun j => by rw [Nat.mod_add_mod]; congr 1; omega
        exact ih _ _ (Nat.mod_lt _ h0) d (by omega) (by rw [e]; exact h1) (by rw [e]; exact h2) (fun j hj => by rw [e]; exact h3 (j + 1) (by omega))
theorem find_present {ps : List Pl} (hg : Good ps) {k : ByteArray} {n : Int} (h : Has ps k n) : ∃ i : Nat, find ps k = ((i : Int), true) ∧ At ps i k n := by
  obtain ⟨i, hi⟩ := h
  have h0 : 0 < ps.length := by have := hi.1; omega
  obtain ⟨d, hd, he, hp⟩ := hg.path i k n hi
  have ht : (find ps k).2 = true := findGo_present ps k ps.length (home ps k) (-1) h0 (Nat.mod_lt _ h0) d hd (by rw [he]; exact hi.2.1) (by rw [he]; exact hi.2.2.1) hp
  obtain ⟨j, hj, e1, e2, e3⟩ := find_there ps k h0 ht
  have : j = i := hg.uniq j i k _ n ⟨hj, e2, e3, rfl⟩ hi
  subst this
  exact ⟨j, Prod.ext e1 ht, hi⟩
theorem find_absent {ps : List Pl} (h0 : 0 < ps.length) {k : ByteArray} (h : ∀ n, ¬ Has ps k n) : (find ps k).2 = false := by
  cases ht : (find ps k).2
  · rfl
  · obtain ⟨j, hj, e1, e2, e3⟩ := find_there ps k h0 ht
    exact absurd ⟨j, hj, e2, e3, rfl⟩ (h _)
theorem find_has {ps : List Pl} (h0 : 0 < ps.length) {k : ByteArray} (ht : (find ps k).2 = true) : Has ps k (ps.getD (find ps k).1.toNat default).n := by
  obtain ⟨j, hj, e1, e2, e3⟩ := find_there ps k h0 ht
  rw [e1, Int.toNat_natCast]
  exact ⟨j, hj, e2, e3, rfl⟩

theorem findGo_path (ps : List Pl) (key : ByteArray) (f a : Nat) (free : Int) (h0 : 0 < ps.length) (ha : a < ps.length) (hfr : free < 0)
    (ht : (findGo ps key f a free).2 = false) (hr : 0 ≤ (findGo ps key f a free).1) :
    ∃ d, d < f ∧ (a + d) % ps.length = (findGo ps key f a free).1.toNat ∧ ∀ j, j < d → (ps.getD ((a + j) % ps.length) default).st = 1 := by
  have keep : ∀ (f a : Nat) (free : Int), 0 ≤ free → (findGo ps key f a free).2 = false → (findGo ps key f a free).1 = free := by
    intro f
    induction f with
    | zero => intro a free _ _; rfl
    | succ f ih =>
      intro a free hf ht
      rw [findGo] at ht ⊢
      split
      · next h => rw [if_pos h] at ht; simp at ht
      · next h =>
        rw [if_neg h] at ht
        have hn : ¬ ((ps.getD a default).st ≠ 1 ∧ free < 0) := fun hh => by omega
        split
        · first | (simp only; done) | (simp only; rw [if_neg hn])
        · next h2 => rw [if_neg h2, if_neg hn] at ht; (try rw [if_neg hn]); exact ih _ _ hf ht
  induction f generalizing a with
  | zero => simp only [findGo] at hr; omega
  | succ f ih =>
    rw [findGo] at ht hr ⊢
    split
    · next h => rw [if_pos h] at ht; simp at ht
    · next h =>
      rw [if_neg h] at ht hr
      by_cases hs : (ps.getD a default).st = 1
      · have hz : ¬ (ps.getD a default).st = 0 := by omega
        have hn : ¬ ((ps.getD a default).st ≠ 1 ∧ free < 0) := fun hh => hh.1 hs
        rw [if_neg hz, if_neg hn] at ht hr ⊢
        obtain ⟨d, d1, d2, d3⟩ := ih _ (Nat.mod_lt _ h0) ht hr
        have e : ∀ j, ((a + 1) % ps.length + j) % ps.length = (a + (j + 1)) % ps.length := fun j => by rw [Nat.mod_add_mod]; congr 1; omega
        refine ⟨d + 1, by omega, by rw [← e]; exact d2, fun j hj => ?_⟩
        cases j with
        | zero => rw [Nat.add_zero, Nat.mod_eq_of_lt ha]; exact hs
        | succ j => rw [← e]; exact d3 j (by omega)
      · have hp : (ps.getD a default).st ≠ 1 ∧ free < 0 := ⟨hs, hfr⟩
        have res : (if (ps.getD a default).st = 0 then ((if (ps.getD a default).st ≠ 1 ∧ free < 0 then (a : Int) else free), false)
            else findGo ps key f ((a + 1) % ps.length) (if (ps.getD a default).st ≠ 1 ∧ free < 0 then (a : Int) else free)).1 = a := by
          split
          · first | (simp only; done) | (simp only; rw [if_pos hp])
          · next h2 => rw [if_neg h2, if_pos hp] at ht; (try rw [if_pos hp]); exact keep _ _ _ (by omega) ht
        rw [res]
        exact ⟨0, by omega, by rw [Nat.add_zero, Nat.mod_eq_of_lt ha]; simp, fun j hj => by omega⟩
theorem find_path {ps : List Pl} {key : ByteArray} (h0 : 0 < ps.length) (ht : (find ps key).2 = false) (hr : 0 ≤ (find ps key).1) : Path ps key (find ps key).1.toNat := by
  obtain ⟨d, d1, d2, d3⟩ := findGo_path ps key ps.length (home ps key) (-1) h0 (Nat.mod_lt _ h0) (by omega) ht hr
  exact ⟨d, d1, d2, fun j hj => by rw [d3 j hj]; omega⟩

theorem at_set {ps : List Pl} {i : Nat} {p : Pl} (hi : i < ps.length) {j : Nat} {k : ByteArray} {n : Int} :
    At (ps.set i p) j k n ↔ (j = i ∧ p.st = 1 ∧ p.key = k ∧ p.n = n) ∨ (j ≠ i ∧ At ps j k n) := by
  unfold At
  rw [List.length_set]
  by_cases e : j = i
  · subst e; rw [getD_set_eq _ _ _ hi]; simp [hi]
  · rw [getD_set_ne _ _ _ _ e]; simp [e]
theorem path_set {ps : List Pl} {i : Nat} {p : Pl} (hi : i < ps.length) (hp : p.st ≠ 0) {j : Nat} {k : ByteArray} (h : Path ps k j) : Path (ps.set i p) k j := by
  obtain ⟨d, d1, d2, d3⟩ := h
  have hh : home (ps.set i p) k = home ps k := by unfold home; rw [List.length_set]
  refine ⟨d, by rwa [List.length_set], by rw [hh, List.length_set]; exact d2, fun x hx => ?_⟩
  rw [hh, List.length_set]
  by_cases e : (home ps k + x) % ps.length = i
  · rw [e, getD_set_eq _ _ _ hi]; exact hp
  · rw [getD_set_ne _ _ _ _ e]; exact d3 x hx

theorem good_made (n : Nat) : Good (made n).pl ∧ ∀ k v, ¬ Has (made n).pl k v := by
  have no : ∀ i k v, ¬ At (made n).pl i k v := by
    intro i k v h
    have := h.2.1
    rw [getD_lt _ _ h.1] at this
    simp [made, noPl] at this
  exact ⟨⟨fun i j k a b h => absurd h (no i k a), fun i k a h => absurd h (no i k a)⟩, fun k v ⟨i, h⟩ => no i k v h⟩
theorem good_none : Good none.pl ∧ ∀ k v, ¬ Has none.pl k v :=
  ⟨⟨fun i j k a b h => by have := h.1; simp [none] at this, fun i k a h => by have := h.1; simp [none] at this⟩, fun k v ⟨i, h⟩ => by have := h.1; simp [none] at this⟩

theorem good_bury {ps : List Pl} (h : Good ps) {i : Nat} {k : ByteArray} {n : Int} (hi : At ps i k n) :
    Good (ps.set i gravePl) ∧ ∀ k' v, Has (ps.set i gravePl) k' v ↔ (k' ≠ k ∧ Has ps k' v) := by
  have g2 : ¬ gravePl.st = 1 := by simp [gravePl]
  have key : ∀ j k' v, At (ps.set i gravePl) j k' v ↔ (j ≠ i ∧ At ps j k' v) := fun j k' v => by
    rw [at_set hi.1]; simp [g2]
  refine ⟨⟨fun a b k' x y ha hb => h.uniq a b k' x y ((key _ _ _).1 ha).2 ((key _ _ _).1 hb).2, fun a k' x ha => path_set hi.1 (by simp [gravePl]) (h.path a k' x ((key _ _ _).1 ha).2)⟩, fun k' v => ?_⟩
  constructor
  · rintro ⟨j, hj⟩
    obtain ⟨h1, h2⟩ := (key _ _ _).1 hj
    exact ⟨fun e => h1 (by subst e; exact h.uniq j i k' v n h2 hi), j, h2⟩
  · rintro ⟨h1, j, hj⟩
    refine ⟨j, (key _ _ _).2 ⟨fun e => ?_, hj⟩⟩
    subst e
    exact h1 (hj.2.2.1.symm.trans hi.2.2.1)
theorem good_num {ps : List Pl} (h : Good ps) {i : Nat} {k : ByteArray} {n x : Int} (hi : At ps i k n) :
    Good (ps.set i ⟨(ps.getD i default).st, (ps.getD i default).key, x⟩) ∧ ∀ k' v, Has (ps.set i ⟨(ps.getD i default).st, (ps.getD i default).key, x⟩) k' v ↔ if k' = k then v = x else Has ps k' v := by
  obtain ⟨h1, h2, h3, h4⟩ := hi
  have key : ∀ j k' v, At (ps.set i ⟨(ps.getD i default).st, (ps.getD i default).key, x⟩) j k' v ↔ (j = i ∧ k' = k ∧ v = x) ∨ (j ≠ i ∧ At ps j k' v) := fun j k' v => by
    rw [at_set h1]; simp only [h2, h3, true_and]
    constructor
    · rintro (⟨a, b, c⟩ | hh)
      · exact Or.inl ⟨a, b.symm, c.symm⟩
      · exact Or.inr hh
    · rintro (⟨a, b, c⟩ | hh)
      · exact Or.inl ⟨a, b.symm, c.symm⟩
      · exact Or.inr hh
  have back : ∀ j k' v, At (ps.set i ⟨(ps.getD i default).st, (ps.getD i default).key, x⟩) j k' v → ∃ u, At ps j k' u := fun j k' v hj => by
    rcases (key _ _ _).1 hj with ⟨rfl, rfl, rfl⟩ | ⟨_, hh⟩
    · exact ⟨n, h1, h2, h3, h4⟩
    · exact ⟨v, hh⟩
  refine ⟨⟨fun a b k' y z ha hb => ?_, fun a k' y ha => ?_⟩, fun k' v => ?_⟩
  · obtain ⟨u, hu⟩ := back _ _ _ ha
    obtain ⟨u2, hu2⟩ := back _ _ _ hb
    exact h.uniq a b k' u u2 hu hu2
  · obtain ⟨u, hu⟩ := back _ _ _ ha
    exact path_set h1 (by simp only; omega) (h.path a k' u hu)
  · split
    · next e =>
      subst e
      constructor
      · rintro ⟨j, hj⟩
        rcases (key _ _ _).1 hj with ⟨_, _, hv⟩ | ⟨hne, hh⟩
        · exact hv
        · exact absurd (h.uniq j i k' v n hh ⟨h1, h2, h3, h4⟩) hne
      · rintro rfl; exact ⟨i, (key _ _ _).2 (Or.inl ⟨rfl, rfl, rfl⟩)⟩
    · next e =>
      constructor
      · rintro ⟨j, hj⟩
        rcases (key _ _ _).1 hj with ⟨_, hk, _⟩ | ⟨_, hh⟩
        · exact absurd hk e
        · exact ⟨j, hh⟩
      · rintro ⟨j, hj⟩
        refine ⟨j, (key _ _ _).2 (Or.inr ⟨fun e2 => ?_, hj⟩)⟩
        subst e2
        exact e (hj.2.2.1.symm.trans h3)
/-- A key that isn't there comes in at the free place that find tells. -/
theorem good_new {ps : List Pl} (h : Good ps) (h0 : 0 < ps.length) {k : ByteArray} {x : Int} (ha : ∀ n, ¬ Has ps k n) (hr : 0 ≤ (find ps k).1) :
    Good (ps.set (find ps k).1.toNat ⟨1, k, x⟩) ∧ ∀ k' v, Has (ps.set (find ps k).1.toNat ⟨1, k, x⟩) k' v ↔ if k' = k then v = x else Has ps k' v := by
  have ht := find_absent h0 ha
  have hlt := find_range ps k h0
  have hp := find_path h0 ht hr
  have hfree := find_free ps k h0 ht hr
  generalize hi : (find ps k).1.toNat = i at *
  have h1 : i < ps.length := by omega
  have key : ∀ j k' v, At (ps.set i ⟨1, k, x⟩) j k' v ↔ (j = i ∧ k' = k ∧ v = x) ∨ (j ≠ i ∧ At ps j k' v) := fun j k' v => by
    rw [at_set h1]
    constructor
    · rintro (⟨a, _, b, c⟩ | hh)
      · exact Or.inl ⟨a, b.symm, c.symm⟩
      · exact Or.inr hh
    · rintro (⟨a, b, c⟩ | hh)
      · exact Or.inl ⟨a, rfl, b.symm, c.symm⟩
      · exact Or.inr hh
  refine ⟨⟨fun a b k' y z hya hzb => ?_, fun a k' y hya => ?_⟩, fun k' v => ?_⟩
  · rcases (key _ _ _).1 hya with ⟨rfl, rfl, _⟩ | ⟨n1, g1⟩
    · rcases (key _ _ _).1 hzb with ⟨rfl, _, _⟩ | ⟨n2, g2⟩
      · rfl
      · exact absurd ⟨b, g2⟩ (ha z)
    · rcases (key _ _ _).1 hzb with ⟨rfl, rfl, _⟩ | ⟨n2, g2⟩
      · exact absurd ⟨a, g1⟩ (ha y)
      · exact h.uniq a b k' y z g1 g2
  · rcases (key _ _ _).1 hya with ⟨rfl, rfl, _⟩ | ⟨n1, g1⟩
    · exact path_set h1 (by simp) hp
    · exact path_set h1 (by simp) (h.path a k' y g1)
  · split
    · next e =>
      subst e
      constructor
      · rintro ⟨j, hj⟩
        rcases (key _ _ _).1 hj with ⟨_, _, hv⟩ | ⟨_, hh⟩
        · exact hv
        · exact absurd ⟨j, hh⟩ (ha v)
      · rintro rfl; exact ⟨i, (key _ _ _).2 (Or.inl ⟨rfl, rfl, rfl⟩)⟩
    · next e =>
      constructor
      · rintro ⟨j, hj⟩
        rcases (key _ _ _).1 hj with ⟨_, hk, _⟩ | ⟨_, hh⟩
        · exact absurd hk e
        · exact ⟨j, hh⟩
      · rintro ⟨j, hj⟩
        refine ⟨j, (key _ _ _).2 (Or.inr ⟨fun e2 => ?_, hj⟩)⟩
        subst e2
        exact hfree hj.2.1

/-- The table's map. -/
def Tab.Has (t : Tab) (k : ByteArray) (n : Int) : Prop := Tbl.Has t.old.pl k n ∨ Tbl.Has t.fresh.pl k n
structure Tab.Good (t : Tab) : Prop where
  old : Tbl.Good t.old.pl
  fresh : Tbl.Good t.fresh.pl
  apart : ∀ k n m, Tbl.Has t.old.pl k n → ¬ Tbl.Has t.fresh.pl k m

theorem tgood_new : Tab.new.Good ∧ ∀ k n, ¬ Tab.new.Has k n :=
  ⟨⟨(good_made 8).1, good_none.1, fun k n m h => absurd h ((good_made 8).2 k n)⟩, fun k n h => by
    rcases h with h | h
    · exact (good_made 8).2 k n h
    · exact good_none.2 k n h⟩
theorem tgood_moved {m : Nat} {t : Tab} (h : t.Inv m) (hm : t.moving = true) (hg : t.Good) : t.moved.Good ∧ ∀ k n, t.moved.Has k n ↔ t.Has k n := by
  obtain ⟨h1, h2, h3, h4, h5, h6, h7⟩ := h.mv hm
  unfold Tab.moved
  simp only
  split
  · next hs =>
    have ha : At t.old.pl t.next (t.old.pl.getD t.next default).key (t.old.pl.getD t.next default).n := ⟨h2, hs, rfl, rfl⟩
    generalize t.old.pl.getD t.next default = q at *
    have hno : ∀ n, ¬ Tbl.Has t.fresh.pl q.key n := fun n => hg.apart q.key q.n n ⟨_, ha⟩
    have hr := find_some t.fresh.pl q.key (by omega) (h.room hm)
    obtain ⟨b1, b2⟩ := good_bury hg.old ha
    obtain ⟨p1, p2⟩ := good_new (x := q.n) hg.fresh (by omega) hno hr
    have e1 : (t.old.bury t.next).pl = t.old.pl.set t.next gravePl := rfl
    have e2 : (t.fresh.put q.key q.n).pl = t.fresh.pl.set (find t.fresh.pl q.key).1.toNat ⟨1, q.key, q.n⟩ := rfl
    refine ⟨⟨by simp only; rw [e1]; exact b1, by simp only; rw [e2]; exact p1, fun k n m' hk => ?_⟩, fun k n => ?_⟩
    · simp only at hk ⊢
      rw [e1] at hk; rw [e2]
      obtain ⟨k1, k2⟩ := (b2 _ _).1 hk
      rw [p2, if_neg k1]
      exact hg.apart k n m' k2
    · unfold Tab.Has; simp only
      rw [e1, e2, b2, p2]
      by_cases e : k = q.key
      · subst e
        simp only [ne_eq, not_true_eq_false, false_and, if_true, false_or]
        constructor
        · rintro rfl; exact Or.inl ⟨_, ha⟩
        · rintro (⟨j, hj⟩ | hh)
          · have := hg.old.uniq j t.next q.key n q.n hj ha
            subst this
            exact hj.2.2.2.symm.trans ha.2.2.2
          · exact absurd hh (hno n)
      · simp [e]
  · exact ⟨hg, fun k n => Iff.rfl⟩
theorem tgood_one {m : Nat} {t : Tab} (h : t.Inv m) (hm : t.moving = true) (hg : t.Good) : t.one.Good ∧ ∀ k n, t.one.Has k n ↔ t.Has k n := by
  obtain ⟨g1, g2⟩ := tgood_moved h hm hg
  obtain ⟨k1, k2, k3, k4, k5, k6, k7, k8, k9⟩ := moved_inv h hm
  unfold Tab.one
  simp only
  split
  · next he =>
    have no : ∀ k n, ¬ Tbl.Has t.moved.old.pl k n := fun k n ⟨i, hi⟩ => k9 i (by have := hi.1; omega) hi.2.1
    refine ⟨⟨g1.fresh, good_none.1, fun k n m' _ h2 => good_none.2 k m' h2⟩, fun k n => ?_⟩
    rw [← g2]
    unfold Tab.Has; simp only
    constructor
    · rintro (hh | hh)
      · exact Or.inr hh
      · exact absurd hh (good_none.2 k n)
    · rintro (hh | hh)
      · exact absurd hh (no k n)
      · exact Or.inl hh
  · exact ⟨⟨g1.old, g1.fresh, g1.apart⟩, fun k n => g2 k n⟩
theorem tgood_steps {m : Nat} (x : Nat) {t : Tab} (h : t.Inv m) (hg : t.Good) : (t.steps x).Good ∧ ∀ k n, (t.steps x).Has k n ↔ t.Has k n := by
  induction x generalizing t with
  | zero => exact ⟨hg, fun _ _ => Iff.rfl⟩
  | succ x ih =>
    rw [Tab.steps]
    split
    · next hm =>
      obtain ⟨a1, a2⟩ := tgood_one h hm hg
      obtain ⟨b1, b2⟩ := ih (one_inv h hm) a1
      exact ⟨b1, fun k n => (b2 k n).trans (a2 k n)⟩
    · exact ⟨hg, fun _ _ => Iff.rfl⟩

theorem Tab.Good.one_val {t : Tab} (h : t.Good) {k : ByteArray} {n m : Int} (h1 : t.Has k n) (h2 : t.Has k m) : n = m := by
  rcases h1 with ⟨i, hi⟩ | ⟨i, hi⟩
  · rcases h2 with ⟨j, hj⟩ | hj
    · have := h.old.uniq i j k n m hi hj; subst this; exact hi.2.2.2.symm.trans hj.2.2.2
    · exact absurd hj (h.apart k n m ⟨i, hi⟩)
  · rcases h2 with hj | ⟨j, hj⟩
    · exact absurd ⟨i, hi⟩ (h.apart k m n hj)
    · have := h.fresh.uniq i j k n m hi hj; subst this; exact hi.2.2.2.symm.trans hj.2.2.2

theorem look_has {m : Nat} {t : Tab} (h : t.Inv m) (hg : t.Good) (k : ByteArray) :
    (∀ n, t.Has k n → t.look k = (n, true)) ∧ ((∀ n, ¬ t.Has k n) → t.look k = (0, false)) := by
  unfold Tab.look
  split
  · next i e =>
    obtain ⟨a1, a2, a3, a4, a5, a6⟩ := at_fresh e
    have hh : t.Has k (t.fresh.pl.getD i default).n := Or.inr ⟨i, a4, a5, a6, rfl⟩
    exact ⟨fun n hn => by rw [hg.one_val hn hh], fun hn => absurd hh (hn _)⟩
  · next i e =>
    obtain ⟨a1, a2, a3, a4, a5, a6⟩ := at_old e
    have hh : t.Has k (t.old.pl.getD i default).n := Or.inl ⟨i, a4, a5, a6, rfl⟩
    exact ⟨fun n hn => by rw [hg.one_val hn hh], fun hn => absurd hh (hn _)⟩
  · next e =>
    obtain ⟨a1, a2⟩ := at_none e
    have hno : ∀ n, ¬ t.Has k n := by
      rintro n (hh | hh)
      · obtain ⟨i, e1, hi⟩ := find_present hg.old hh
        have := a2 (by have := hi.1; omega)
        rw [e1] at this; cases this
      · obtain ⟨i, e1, hi⟩ := find_present hg.fresh hh
        have := a1 (by have := hi.1; omega)
        rw [e1] at this; cases this
    exact ⟨fun n hn => absurd hn (hno n), fun _ => rfl⟩

theorem put2_has {m : Nat} {t : Tab} (h : t.Inv m) (hg : t.Good) (k : ByteArray) (n : Int) :
    (t.put2 k n).1.Good ∧ (∀ k' v, (t.put2 k n).1.Has k' v ↔ if k' = k then v = n else t.Has k' v) ∧ ((t.put2 k n).2 = true ↔ ∀ v, ¬ t.Has k v) := by
  unfold Tab.put2
  split
  · next i e =>
    obtain ⟨a1, a2, a3, a4, a5, a6⟩ := at_fresh e
    have ha : At t.fresh.pl i k (t.fresh.pl.getD i default).n := ⟨a4, a5, a6, rfl⟩
    obtain ⟨b1, b2⟩ := good_num (x := n) hg.fresh ha
    have e1 : (t.fresh.num i n).pl = t.fresh.pl.set i ⟨(t.fresh.pl.getD i default).st, (t.fresh.pl.getD i default).key, n⟩ := rfl
    have hno : ∀ v, ¬ Tbl.Has t.old.pl k v := fun v hv => hg.apart k v _ hv ⟨i, ha⟩
    refine ⟨⟨hg.old, by simp only; rw [e1]; exact b1, fun k' x y hx => ?_⟩, fun k' v => ?_, ?_⟩
    · simp only at hx ⊢; rw [e1, b2]
      split
      · next e2 => subst e2; exact absurd hx (hno x)
      · exact hg.apart k' x y hx
    · unfold Tab.Has; simp only; rw [e1, b2]
      split
      · next e2 => subst e2; exact ⟨fun hh => hh.elim (fun h1 => absurd h1 (hno v)) id, Or.inr⟩
      · exact Iff.rfl
    · simp only [Bool.false_eq_true, false_iff]
      exact fun hh => hh _ (Or.inr ⟨i, ha⟩)
  · next i e =>
    obtain ⟨a1, a2, a3, a4, a5, a6⟩ := at_old e
    have ha : At t.old.pl i k (t.old.pl.getD i default).n := ⟨a4, a5, a6, rfl⟩
    obtain ⟨b1, b2⟩ := good_num (x := n) hg.old ha
    have e1 : (t.old.num i n).pl = t.old.pl.set i ⟨(t.old.pl.getD i default).st, (t.old.pl.getD i default).key, n⟩ := rfl
    have hno : ∀ v, ¬ Tbl.Has t.fresh.pl k v := fun v hv => hg.apart k _ v ⟨i, ha⟩ hv
    refine ⟨⟨by simp only; rw [e1]; exact b1, hg.fresh, fun k' x y hx => ?_⟩, fun k' v => ?_, ?_⟩
    · simp only at hx ⊢; rw [e1, b2] at hx
      split at hx
      · next e2 => subst e2; exact hno y
      · exact hg.apart k' x y hx
    · unfold Tab.Has; simp only; rw [e1, b2]
      split
      · next e2 => subst e2; exact ⟨fun hh => hh.elim id (fun h1 => absurd h1 (hno v)), Or.inl⟩
      · exact Iff.rfl
    · simp only [Bool.false_eq_true, false_iff]
      exact fun hh => hh _ (Or.inl ⟨i, ha⟩)
  · next e =>
    obtain ⟨a1, a2⟩ := at_none e
    have hno1 : ∀ v, ¬ Tbl.Has t.old.pl k v := fun v hh => by
      obtain ⟨i, e1, hi⟩ := find_present hg.old hh
      have := a2 (by have := hi.1; omega)
      rw [e1] at this; cases this
    have hno2 : ∀ v, ¬ Tbl.Has t.fresh.pl k v := fun v hh => by
      obtain ⟨i, e1, hi⟩ := find_present hg.fresh hh
      have := a1 (by have := hi.1; omega)
      rw [e1] at this; cases this
    obtain ⟨g1, g2, g3, g4⟩ := grow_spec h
    simp only
    by_cases hm : t.grow.moving = true
    · rw [if_pos hm]
      obtain ⟨k1, k2, k3, k4⟩ := g3 hm
      have hsame : Tbl.Good t.grow.fresh.pl ∧ ∀ k' v, Tbl.Has t.grow.fresh.pl k' v ↔ Tbl.Has t.fresh.pl k' v := by
        cases hmv : t.moving
        · have hr := h.rest hmv
          have e1 : t.grow.fresh = made t.room.toNat := by
            unfold Tab.grow at hm ⊢
            split
            · next hc => rw [if_pos hc, hmv] at hm; cases hm
            · rfl
          rw [e1, hr.1]
          exact ⟨(good_made _).1, fun k' v => ⟨fun hh => absurd hh ((good_made _).2 k' v), fun hh => absurd hh (good_none.2 k' v)⟩⟩
        · have e1 : t.grow = t := by unfold Tab.grow; rw [if_pos (Or.inl hmv)]
          rw [e1]; exact ⟨hg.fresh, fun _ _ => Iff.rfl⟩
      have hr := find_some t.grow.fresh.pl k (by omega) k1
      obtain ⟨b1, b2⟩ := good_new (x := n) hsame.1 (by omega) (fun v hv => hno2 v ((hsame.2 k v).1 hv)) hr
      have e1 : (t.grow.fresh.put k n).pl = t.grow.fresh.pl.set (find t.grow.fresh.pl k).1.toNat ⟨1, k, n⟩ := rfl
      refine ⟨⟨by simp only; rw [g1]; exact hg.old, by simp only; rw [e1]; exact b1, fun k' x y hx => ?_⟩, fun k' v => ?_, ?_⟩
      · simp only at hx ⊢; rw [g1] at hx; rw [e1, b2]
        split
        · next e2 => subst e2; exact absurd hx (hno1 x)
        · rw [hsame.2]; exact hg.apart k' x y hx
      · unfold Tab.Has; simp only; rw [e1, b2, g1]
        split
        · next e2 => subst e2; exact ⟨fun hh => hh.elim (fun h1 => absurd h1 (hno1 v)) id, Or.inr⟩
        · rw [hsame.2]
      · simp only [true_iff]
        rintro v (hh | hh)
        · exact hno1 v hh
        · exact hno2 v hh
    · rw [if_neg hm]
      have hm : t.grow.moving = false := by simpa using hm
      obtain ⟨e1, e2, e3⟩ := g4 hm
      rw [e1]
      have hl := h.lo
      have hr := find_some t.old.pl k (by omega) e3
      obtain ⟨b1, b2⟩ := good_new (x := n) hg.old (by omega) hno1 hr
      have e4 : (t.old.put k n).pl = t.old.pl.set (find t.old.pl k).1.toNat ⟨1, k, n⟩ := rfl
      have hnone := (h.rest e2).1
      refine ⟨⟨by simp only; rw [e4]; exact b1, hg.fresh, fun k' x y hx hy => ?_⟩, fun k' v => ?_, ?_⟩
      · simp only at hy; rw [hnone] at hy; exact good_none.2 k' y hy
      · unfold Tab.Has; simp only; rw [e4, b2]
        split
        · next e2 => subst e2; exact ⟨fun hh => hh.elim id (fun h1 => absurd h1 (hno2 v)), Or.inl⟩
        · exact Iff.rfl
      · simp only [true_iff]
        rintro v (hh | hh)
        · exact hno1 v hh
        · exact hno2 v hh
theorem cut_has {m : Nat} {t : Tab} (h : t.Inv m) (hg : t.Good) (k : ByteArray) :
    (t.cut k).Good ∧ ∀ k' v, (t.cut k).Has k' v ↔ (k' ≠ k ∧ t.Has k' v) := by
  unfold Tab.cut
  split
  · next i e =>
    obtain ⟨a1, a2, a3, a4, a5, a6⟩ := at_fresh e
    have ha : At t.fresh.pl i k (t.fresh.pl.getD i default).n := ⟨a4, a5, a6, rfl⟩
    obtain ⟨b1, b2⟩ := good_bury hg.fresh ha
    have e1 : (t.fresh.bury i).pl = t.fresh.pl.set i gravePl := rfl
    have hno : ∀ v, ¬ Tbl.Has t.old.pl k v := fun v hv => hg.apart k v _ hv ⟨i, ha⟩
    refine ⟨⟨hg.old, by simp only; rw [e1]; exact b1, fun k' x y hx => ?_⟩, fun k' v => ?_⟩
    · simp only at hx ⊢; rw [e1, b2]; exact fun hh => hg.apart k' x y hx hh.2
    · unfold Tab.Has; simp only; rw [e1, b2]
      constructor
      · rintro (hh | hh)
        · exact ⟨fun e2 => by subst e2; exact hno v hh, Or.inl hh⟩
        · exact ⟨hh.1, Or.inr hh.2⟩
      · rintro ⟨h1, hh | hh⟩
        · exact Or.inl hh
        · exact Or.inr ⟨h1, hh⟩
  · next i e =>
    obtain ⟨a1, a2, a3, a4, a5, a6⟩ := at_old e
    have ha : At t.old.pl i k (t.old.pl.getD i default).n := ⟨a4, a5, a6, rfl⟩
    obtain ⟨b1, b2⟩ := good_bury hg.old ha
    have e1 : (t.old.bury i).pl = t.old.pl.set i gravePl := rfl
    have hno : ∀ v, ¬ Tbl.Has t.fresh.pl k v := fun v hv => hg.apart k _ v ⟨i, ha⟩ hv
    refine ⟨⟨by simp only; rw [e1]; exact b1, hg.fresh, fun k' x y hx => ?_⟩, fun k' v => ?_⟩
    · simp only at hx ⊢; rw [e1, b2] at hx; exact hg.apart k' x y hx.2
    · unfold Tab.Has; simp only; rw [e1, b2]
      constructor
      · rintro (hh | hh)
        · exact ⟨hh.1, Or.inl hh.2⟩
        · exact ⟨fun e2 => by subst e2; exact hno v hh, Or.inr hh⟩
      · rintro ⟨h1, hh | hh⟩
        · exact Or.inl ⟨h1, hh⟩
        · exact Or.inr hh
  · next e =>
    refine ⟨hg, fun k' v => ⟨fun hh => ⟨fun e2 => ?_, hh⟩, fun hh => hh.2⟩⟩
    subst e2
    have hl := (look_has h hg k').1 v hh
    unfold Tab.look at hl; rw [e] at hl; simp at hl

theorem put_has {m : Nat} {t : Tab} (h : t.Inv m) (hg : t.Good) (k : ByteArray) (n : Int) :
    (t.put k n).1.Good ∧ (∀ k' v, (t.put k n).1.Has k' v ↔ if k' = k then v = n else t.Has k' v) ∧ ((t.put k n).2 = true ↔ ∀ v, ¬ t.Has k v) := by
  obtain ⟨s1, s2⟩ := tgood_steps 4 h hg
  obtain ⟨p1, p2, p3⟩ := put2_has (step_inv h) s1 k n
  refine ⟨p1, fun k' v => ?_, ?_⟩
  · refine (p2 k' v).trans ?_
    split
    · exact Iff.rfl
    · exact s2 k' v
  · exact p3.trans ⟨fun hh v hv => hh v ((s2 k v).2 hv), fun hh v hv => hh v ((s2 k v).1 hv)⟩
theorem get_has {m : Nat} {t : Tab} (h : t.Inv m) (hg : t.Good) (k : ByteArray) :
    (t.get k).1.Good ∧ (∀ k' v, (t.get k).1.Has k' v ↔ t.Has k' v) ∧ (∀ n, t.Has k n → (t.get k).2 = (n, true)) ∧ ((∀ n, ¬ t.Has k n) → (t.get k).2 = (0, false)) := by
  obtain ⟨s1, s2⟩ := tgood_steps 4 h hg
  obtain ⟨l1, l2⟩ := look_has (step_inv h) s1 k
  exact ⟨s1, s2, fun n hn => l1 n ((s2 k n).2 hn), fun hn => l2 fun n hh => hn n ((s2 k n).1 hh)⟩
theorem drop_has {m : Nat} {t : Tab} (h : t.Inv m) (hg : t.Good) (k : ByteArray) :
    (t.drop k).1.Good ∧ (∀ k' v, (t.drop k).1.Has k' v ↔ (k' ≠ k ∧ t.Has k' v)) ∧ (∀ n, t.Has k n → (t.drop k).2 = (n, true)) ∧ ((∀ n, ¬ t.Has k n) → (t.drop k).2 = (0, false)) := by
  obtain ⟨s1, s2⟩ := tgood_steps 4 h hg
  obtain ⟨l1, l2⟩ := look_has (step_inv h) s1 k
  obtain ⟨c1, c2⟩ := cut_has (step_inv h) s1 k
  exact ⟨c1, fun k' v => (c2 k' v).trans ⟨fun hh => ⟨hh.1, (s2 k' v).1 hh.2⟩, fun hh => ⟨hh.1, (s2 k' v).2 hh.2⟩⟩, fun n hn => l1 n ((s2 k n).2 hn), fun hn => l2 fun n hh => hn n ((s2 k n).1 hh)⟩

/-- The keys, each once; as many as Len says. -/
theorem keysOf_mem {ps : List Pl} {k : ByteArray} : k ∈ keysOf ps ↔ ∃ n, Has ps k n := by
  unfold keysOf
  simp only [List.mem_map, List.mem_filter, decide_eq_true_eq]
  constructor
  · rintro ⟨p, ⟨hp, hs⟩, rfl⟩
    obtain ⟨i, hi, rfl⟩ := List.getElem_of_mem hp
    exact ⟨ps[i].n, i, hi, by rw [getD_lt _ _ hi]; exact hs, by rw [getD_lt _ _ hi], by rw [getD_lt _ _ hi]⟩
  · rintro ⟨n, i, hi, h1, h2, h3⟩
    rw [getD_lt _ _ hi] at h1 h2 h3
    exact ⟨ps[i], ⟨List.getElem_mem hi, h1⟩, h2⟩
theorem keysOf_nodup {ps : List Pl} (h : ∀ i j k n m, At ps i k n → At ps j k m → i = j) : (keysOf ps).Nodup := by
  induction ps with
  | nil => simp [keysOf]
  | cons p r ih =>
    have hr : (keysOf r).Nodup := ih fun i j k n m hi hj => by
      have := h (i + 1) (j + 1) k n m ⟨by have := hi.1; simp; omega, by simpa [At] using hi.2⟩ ⟨by have := hj.1; simp; omega, by simpa [At] using hj.2⟩
      omega
    unfold keysOf at hr ⊢
    rw [List.filter_cons]
    split
    · next hs =>
      rw [List.map_cons, List.nodup_cons]
      refine ⟨fun hm => ?_, hr⟩
      have hm' : p.key ∈ keysOf r := hm
      obtain ⟨n, i, hi⟩ := keysOf_mem.1 hm'
      have hs' : p.st = 1 := by simpa using hs
      have := h 0 (i + 1) p.key p.n n ⟨by simp, by simp [hs']⟩ ⟨by have := hi.1; simp; omega, by simpa [At] using hi.2⟩
      omega
    · exact hr
theorem keysRaw_mem {t : Tab} {k : ByteArray} : k ∈ t.keysRaw ↔ ∃ n, t.Has k n := by
  unfold Tab.keysRaw Tab.Has
  rw [List.mem_append, keysOf_mem, keysOf_mem]
  constructor
  · rintro (⟨n, hn⟩ | ⟨n, hn⟩)
    · exact ⟨n, Or.inl hn⟩
    · exact ⟨n, Or.inr hn⟩
  · rintro ⟨n, hn | hn⟩
    · exact Or.inl ⟨n, hn⟩
    · exact Or.inr ⟨n, hn⟩
theorem keysRaw_nodup {t : Tab} (h : t.Good) : t.keysRaw.Nodup := by
  unfold Tab.keysRaw
  rw [List.nodup_append]
  refine ⟨keysOf_nodup h.old.uniq, keysOf_nodup h.fresh.uniq, fun a ha b hb e => ?_⟩
  subst e
  obtain ⟨n, hn⟩ := keysOf_mem.1 ha
  obtain ⟨m, hm⟩ := keysOf_mem.1 hb
  exact h.apart a n m hn hm
theorem keysRaw_len {m : Nat} {t : Tab} (h : t.Inv m) : (t.keysRaw.length : Int) = t.len := by
  have e : ∀ ps : List Pl, (keysOf ps).length = cf ps := fun ps => by unfold keysOf cf; rw [List.length_map, List.countP_eq_length_filter]
  unfold Tab.keysRaw Tab.len
  rw [List.length_append, e, e, h.old.full, h.fresh.full]; omega
end Tbl
/- Rows of the call's own: texts, numbers. -/
set_option linter.unusedVariables false
set_option linter.unusedSimpArgs false
namespace Go.Proofs.YtgdenmddbgcacaaGreatDoor
open Go.RowKit

/-- v is a slice of texts of the call's own, from block base on. -/
def StrsAt (w : World) (base : Nat) (v : Value) (l : List ByteArray) : Prop := w.ownsRow base 9 1 v l.length (l.map Value.string)
/-- v is a slice of whole numbers of the call's own, from block base on. -/
def IntsAt (w : World) (base : Nat) (v : Value) (l : List Int) : Prop := w.ownsRow base 3 1 v l.length (l.map (Value.int .i64))
theorem string_info : (Tryz.prog.info? 9).map (fun i => (i.zero, i.size, i.bytes)) = some (some (.string ByteArray.empty), 1, 16) := by kernel_rfl
theorem int_info : (Tryz.prog.info? 3).map (fun i => (i.zero, i.size, i.bytes)) = some (some (.int .i64 0), 1, 8) := by kernel_rfl

theorem own_mono {w : World} {base base' : Nat} {e : TypeId} {size n : Nat} {v : Value} {xs : List Value} (h : w.ownsRow base e size v n xs) (hb : base' ≤ base) : w.ownsRow base' e size v n xs := by
  obtain ⟨h1, h2⟩ := h
  refine ⟨h1, ?_⟩
  rcases h2 with h2 | ⟨g, cap, cur, hv, hg, r⟩
  · exact Or.inl h2
  · exact Or.inr ⟨g, cap, cur, hv, Nat.le_trans hb hg, r⟩
theorem own_slice {w : World} {base n : Nat} {e : TypeId} {size : Nat} {v : Value} {xs : List Value} (h : w.ownsRow base e size v n xs) : ∃ p c, v = .slice p n c ∧ n ≤ maxLen := by
  obtain ⟨_, ⟨rfl, rfl⟩ | ⟨g, cap, cur, rfl, _, _, h1, h2, _⟩⟩ := h
  · exact ⟨_, _, rfl, by unfold maxLen; omega⟩
  · exact ⟨_, _, rfl, by omega⟩
section
variable {F : Nat → Prop} {w w' : World} {base : Nat} {v : Value}
theorem StrsAt.keep {l : List ByteArray} (h : StrsAt w base v l) (u : Upd F w w') (hd : ∀ k, v.ownBlock = some k → ¬ F k) : StrsAt w' base v l := own_keep h u hd
theorem IntsAt.keep {l : List Int} (h : IntsAt w base v l) (u : Upd F w w') (hd : ∀ k, v.ownBlock = some k → ¬ F k) : IntsAt w' base v l := own_keep h u hd
end
end Go.Proofs.YtgdenmddbgcacaaGreatDoor
/- A slice of texts of the call's own, and its sort by the library. -/
set_option linter.unusedVariables false
set_option linter.unusedSimpArgs false
namespace Go.Proofs.YtgdenmddbgcacaaGreatDoor
open Go.RowKit Go.Sort Go.Proofs

def bytesOf (l : List ByteArray) : List (List UInt8) := l.map (·.data.toList)
def ofBytes (l : List (List UInt8)) : List ByteArray := l.map fun s => ⟨s.toArray⟩
/-- Texts in order. -/
def sortStr (l : List ByteArray) : List ByteArray := ofBytes ((bytesOf l).mergeSort fun x y => decide (x ≤ y))

theorem enc_bytes (l : List ByteArray) : (bytesOf l).map encStr = l.map Value.string := by
  unfold bytesOf; rw [List.map_map]; rfl
theorem enc_of (l : List (List UInt8)) : l.map encStr = (ofBytes l).map Value.string := by
  unfold ofBytes; rw [List.map_map]; rfl
theorem sortStr_len (l : List ByteArray) : (sortStr l).length = l.length := by simp [sortStr, ofBytes, bytesOf]

theorem StrsAt.mono {w : World} {base base' : Nat} {v : Value} {l : List ByteArray} (h : StrsAt w base v l) (hb : base' ≤ base) : StrsAt w base' v l := by
  obtain ⟨h1, h2⟩ := h
  refine ⟨h1, ?_⟩
  rcases h2 with h2 | ⟨g, cap, cur, hv, hg, r⟩
  · exact Or.inl h2
  · exact Or.inr ⟨g, cap, cur, hv, Nat.le_trans hb hg, r⟩

theorem sortStr_any (base : Nat) (v : Value) (l : List ByteArray) (w : World) (h : StrsAt w base v l) (hl : l.length ≤ 10000000) :
    Calls Tryz.prog 43 #[v] w fun e w' => e = .returned (.tuple #[]) ∧ StrsAt w' base v (sortStr l) ∧ Upd (fun k => v.ownBlock = some k) w w' := by
  rcases h.2 with ⟨rfl, hn⟩ | ⟨g, cap, cur, rfl, hg, hb, h1, h2, h3, h4⟩
  · refine (Tryz.slices_Sort_string_none none 0 w).mono ?_
    rintro e w' ⟨rfl, rfl⟩
    have : l = [] := by cases l <;> simp_all
    subst this
    exact ⟨rfl, by simpa [sortStr, bytesOf, ofBytes] using h, Upd.refl _ _⟩
  · have hlen : (bytesOf l).length = l.length := by simp [bytesOf]
    rw [Nat.mul_one, ← enc_bytes, ← hlen] at h4
    have hH := holds_of_block hb h4
    rw [← hlen]
    refine (Tryz.slices_Sort_string g 0 cap (bytesOf l) w hH (Array.getElem?_eq_some_iff.1 hb).1 (by omega)).mono ?_
    rintro e w' ⟨rfl, n, os, rfl⟩
    refine ⟨rfl, ?_, (Upd.of_grown (grownBy_sorted _)).weaken (fun i _ hi => hi.symm)⟩
    have := ownsRow_sorted (n := n) (os := os) (ss := bytesOf l) (ts := (bytesOf l).mergeSort fun x y => decide (x ≤ y)) (by simp) hg hb (by omega) h2 h3
    unfold StrsAt sortStr
    rw [enc_of] at this
    have e2 : (ofBytes ((bytesOf l).mergeSort fun x y => decide (x ≤ y))).length = (bytesOf l).length := by simp [ofBytes]
    rw [e2]
    exact this
end Go.Proofs.YtgdenmddbgcacaaGreatDoor
/- The table as a map, plain. -/
set_option linter.unusedVariables false
set_option linter.unusedSimpArgs false
namespace Go.Proofs.YtgdenmddbgcacaaGreatDoor
open Go.RowKit
open Tbl (Tab)

theorem of_toList (s : List UInt8) : (⟨s.toArray⟩ : ByteArray).toList = s := by
  rw [ByteArray.toList_eq]
theorem sortStr_perm (l : List ByteArray) : (sortStr l).Perm l := by
  have h : ofBytes (bytesOf l) = l := by
    unfold ofBytes bytesOf
    rw [List.map_map]
    exact List.map_id' l
  unfold sortStr
  have := (List.mergeSort_perm (bytesOf l) fun x y => decide (x ≤ y)).map (fun s : List UInt8 => (⟨s.toArray⟩ : ByteArray))
  refine this.trans ?_
  exact List.Perm.of_eq h
abbrev Nums := List (ByteArray × Int)
/-- The table's numbers are the map's. -/
structure Alike (t : Tab) (m : Nums) : Prop where
  good : t.Good
  nd : (akeys m).Nodup
  same : ∀ k v, t.Has k v ↔ aget m k = some v
theorem Alike.new : Alike Tab.new [] := ⟨Tbl.tgood_new.1, by simp [akeys], fun k v => ⟨fun h => absurd h (Tbl.tgood_new.2 k v), fun h => by simp [aget] at h⟩⟩
theorem Alike.keys {t : Tab} {m : Nums} (h : Alike t m) (k : ByteArray) : k ∈ t.keysRaw ↔ k ∈ akeys m := by
  rw [Tbl.keysRaw_mem]
  constructor
  · rintro ⟨n, hn⟩
    have e := (h.same k n).1 hn
    refine Classical.byContradiction fun hk => ?_
    rw [aget_none.2 hk] at e; cases e
  · intro hk
    cases hg : aget m k with
    | none => exact absurd hk (aget_none.1 hg)
    | some v => exact ⟨v, (h.same k v).2 hg⟩
theorem Alike.len {n : Nat} {t : Tab} {m : Nums} (h : Alike t m) (i : t.Inv n) : t.len = (m.length : Int) := by
  rw [← Tbl.keysRaw_len i]
  have hp : t.keysRaw.Perm (akeys m) := (List.perm_ext_iff_of_nodup (Tbl.keysRaw_nodup h.good) h.nd).2 h.keys
  have := hp.length_eq
  rw [this]; simp [akeys]
theorem Alike.put {n : Nat} {t : Tab} {m : Nums} (h : Alike t m) (i : t.Inv n) (k : ByteArray) (x : Int) : Alike (t.put k x).1 (aset m k x) := by
  obtain ⟨p1, p2, _⟩ := Tbl.put_has i h.good k x
  refine ⟨p1, nodup_aset h.nd k x, fun k' v => ?_⟩
  rw [p2, aget_aset]
  by_cases e : k = k'
  · subst e; simp; exact eq_comm
  · have e2 : ¬ k' = k := fun e2 => e e2.symm
    rw [if_neg e, if_neg e2]; exact h.same k' v
theorem Alike.drop {n : Nat} {t : Tab} {m : Nums} (h : Alike t m) (i : t.Inv n) (k : ByteArray) : Alike (t.drop k).1 (adel m k) ∧ (t.drop k).2 = ((aget m k).getD 0, (aget m k).isSome) := by
  obtain ⟨p1, p2, p3, p4⟩ := Tbl.drop_has i h.good k
  refine ⟨⟨p1, nodup_adel h.nd k, fun k' v => ?_⟩, ?_⟩
  · rw [p2, aget_adel h.nd]
    by_cases e : k = k'
    · subst e; simp
    · have e2 : ¬ k' = k := fun e2 => e e2.symm
      rw [if_neg e]; simp only [ne_eq, e2, not_false_eq_true, true_and]; exact h.same k' v
  · cases hg : aget m k with
    | none => exact p4 fun v hv => by have := (h.same k v).1 hv; rw [hg] at this; cases this
    | some v => exact p3 v ((h.same k v).2 hg)
theorem Alike.get {n : Nat} {t : Tab} {m : Nums} (h : Alike t m) (i : t.Inv n) (k : ByteArray) : Alike (t.get k).1 m ∧ (t.get k).2 = ((aget m k).getD 0, (aget m k).isSome) := by
  obtain ⟨p1, p2, p3, p4⟩ := Tbl.get_has i h.good k
  refine ⟨⟨p1, h.nd, fun k' v => (p2 k' v).trans (h.same k' v)⟩, ?_⟩
  cases hg : aget m k with
  | none => exact p4 fun v hv => by have := (h.same k v).1 hv; rw [hg] at this; cases this
  | some v => exact p3 v ((h.same k v).2 hg)
end Go.Proofs.YtgdenmddbgcacaaGreatDoor
