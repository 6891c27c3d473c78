/- A ring of links, plain: keys between the one ahead and the next. -/
import Derived.Test.YthgojhchakclcaaHeap
set_option linter.unusedVariables false
set_option linter.unusedSimpArgs false
namespace Ring

structure Lk where
  key : ByteArray
  ahead : Nat
  next : Nat
def setNext (G : Nat → Lk) (x y : Nat) : Nat → Lk := fun b => if b = x then { G b with next := y } else G b
def setAhead (G : Nat → Lk) (x y : Nat) : Nat → Lk := fun b => if b = x then { G b with ahead := y } else G b
@[simp] theorem setNext_key (G : Nat → Lk) (x y b : Nat) : (setNext G x y b).key = (G b).key := by unfold setNext; split <;> rfl
@[simp] theorem setAhead_key (G : Nat → Lk) (x y b : Nat) : (setAhead G x y b).key = (G b).key := by unfold setAhead; split <;> rfl
@[simp] theorem setNext_ahead (G : Nat → Lk) (x y b : Nat) : (setNext G x y b).ahead = (G b).ahead := by unfold setNext; split <;> rfl
@[simp] theorem setAhead_next (G : Nat → Lk) (x y b : Nat) : (setAhead G x y b).next = (G b).next := by unfold setAhead; split <;> rfl
theorem setNext_next (G : Nat → Lk) (x y b : Nat) : (setNext G x y b).next = if b = x then y else (G b).next := by unfold setNext; split <;> rfl
theorem setAhead_ahead (G : Nat → Lk) (x y b : Nat) : (setAhead G x y b).ahead = if b = x then y else (G b).ahead := by unfold setAhead; split <;> rfl

/-- From x over the blocks of l to z, each next to the one ahead of it. -/
def chain (G : Nat → Lk) (x : Nat) : List Nat → Nat → Prop
  | [], z => (G x).next = z ∧ (G z).ahead = x
  | b :: r, z => (G x).next = b ∧ (G b).ahead = x ∧ chain G b r z
theorem chain_app {G : Nat → Lk} {x z b : Nat} {l r : List Nat} : chain G x (l ++ b :: r) z ↔ chain G x l b ∧ chain G b r z := by
  induction l generalizing x with
  | nil => simp only [List.nil_append, chain]; constructor
           · rintro ⟨h1, h2, h3⟩; exact ⟨⟨h1, h2⟩, h3⟩
           · rintro ⟨⟨h1, h2⟩, h3⟩; exact ⟨h1, h2, h3⟩
  | cons c l ih => simp only [List.cons_append, chain, ih]; constructor
                   · rintro ⟨h1, h2, h3, h4⟩; exact ⟨⟨h1, h2, h3⟩, h4⟩
                   · rintro ⟨⟨h1, h2, h3⟩, h4⟩; exact ⟨h1, h2, h3, h4⟩
/-- What is first, what is last. -/
def first (l : List Nat) (z : Nat) : Nat := l.headD z
def last (x : Nat) (l : List Nat) : Nat := l.getLastD x
theorem chain_next {G : Nat → Lk} {x z : Nat} {l : List Nat} (h : chain G x l z) : (G x).next = first l z := by
  cases l with
  | nil => exact h.1
  | cons b r => exact h.1
theorem chain_ahead {G : Nat → Lk} {x z : Nat} {l : List Nat} (h : chain G x l z) : (G z).ahead = last x l := by
  induction l generalizing x with
  | nil => exact h.2
  | cons b r ih =>
    rw [ih h.2.2]
    cases r <;> rfl
theorem chain_congr {G H : Nat → Lk} {x z : Nat} {l : List Nat} (h : chain G x l z) (hx : (H x).next = (G x).next) (hz : (H z).ahead = (G z).ahead) (hl : ∀ b ∈ l, (H b).next = (G b).next ∧ (H b).ahead = (G b).ahead) : chain H x l z := by
  induction l generalizing x with
  | nil => exact ⟨hx.trans h.1, hz.trans h.2⟩
  | cons b r ih =>
    have := hl b (by simp)
    exact ⟨hx.trans h.1, this.2.trans h.2.1, ih h.2.2 this.1 (fun c hc => hl c (by simp [hc]))⟩
/-- The end of a chain is turned to another block. -/
theorem chain_end {G : Nat → Lk} {x z z' : Nat} {l : List Nat} (h : chain G x l z) (hn : (x :: l).Nodup) (hz : z' ∉ l) :
    chain (setAhead (setNext G (last x l) z') z' (last x l)) x l z' := by
  induction l generalizing x with
  | nil => simp [chain, last, setNext_next, setAhead_ahead]
  | cons b r ih =>
    simp only [List.mem_cons, not_or] at hz
    have hn2 : (b :: r).Nodup := (List.nodup_cons.1 hn).2
    have hl : last x (b :: r) = last b r := by cases r <;> rfl
    have hin : last b r ∈ b :: r := by
      unfold last; rw [List.getLastD_eq_getLast?]
      cases hr : r.getLast? with
      | none => simp
      | some c => simp [List.mem_of_getLast? hr]
    have hne : x ≠ last b r := fun e => (List.nodup_cons.1 hn).1 (by rw [e]; exact hin)
    rw [hl]
    refine ⟨?_, ?_, ih h.2.2 hn2 hz.2⟩
    · simp only [setAhead_next, setNext_next, if_neg hne]; exact h.1
    · simp only [setAhead_ahead, setNext_ahead, if_neg (Ne.symm hz.1)]; exact h.2.1
theorem last_app (x b : Nat) (l r : List Nat) : last x (l ++ b :: r) = last b r := by
  unfold last; rw [List.getLastD_eq_getLast?, List.getLastD_eq_getLast?]; simp [List.getLast?_append, List.getLast?_cons]
theorem last_mem (x : Nat) (l : List Nat) : last x l ∈ x :: l := by
  unfold last; rw [List.getLastD_eq_getLast?]
  cases hr : l.getLast? with
  | none => simp
  | some c => simp [List.mem_of_getLast? hr]
theorem first_mem (z : Nat) (l : List Nat) : first l z ∈ z :: l := by
  unfold first; cases l <;> simp
/-- a link leaves the ring -/
theorem chain_out0 {G : Nat → Lk} {a b : Nat} {l r : List Nat} (h : chain G a (l ++ b :: r) a) (hn : (a :: (l ++ b :: r)).Nodup) :
    chain (setAhead (setNext G (G b).ahead (G b).next) (G b).next (G b).ahead) a (l ++ r) a := by
  obtain ⟨h1, h2⟩ := chain_app.1 h
  rw [chain_ahead h1, chain_next h2]
  have hn1 : (a :: l).Nodup := by
    have := hn.sublist (l₁ := a :: l) (by simp)
    exact this
  cases r with
  | nil =>
    rw [List.append_nil]
    exact chain_end h1 hn1 (fun hm => (List.nodup_cons.1 hn).1 (List.mem_append_left _ hm))
  | cons c r =>
    have hcl : c ∉ l := fun hm => by
      have := (List.nodup_append.1 (List.nodup_cons.1 hn).2).2.2 c hm c (by simp)
      exact this rfl
    rw [chain_app]
    refine ⟨chain_end h1 hn1 hcl, ?_⟩
    have h3 := h2.2.2
    have hcr : c ∉ r := fun hm => by
      have := (List.nodup_append.1 (List.nodup_cons.1 hn).2).2.1
      simp only [List.nodup_cons, List.mem_cons, not_or] at this
      exact this.2.1 hm
    have hlr : ∀ x ∈ c :: r, last a l ≠ x := fun x hx e => by
      have hm := last_mem a l
      rw [e, List.mem_cons] at hm
      rcases hm with rfl | hm
      · exact (List.nodup_cons.1 hn).1 (List.mem_append_right _ (List.mem_cons_of_mem _ hx))
      · have := (List.nodup_append.1 (List.nodup_cons.1 hn).2).2.2 x hm x (List.mem_cons_of_mem _ hx)
        exact this rfl
    refine chain_congr h3 ?_ ?_ ?_
    · simp only [first, List.headD_cons, setAhead_next, setNext_next, if_neg (Ne.symm (hlr c (by simp)))]
    · have : a ≠ c := fun e => (List.nodup_cons.1 hn).1 (by simp [e])
      simp only [first, List.headD_cons, setAhead_ahead, if_neg this, setNext_ahead]
    · intro x hx
      have h5 := hlr x (by simp [hx])
      have h6 : x ≠ c := fun e => hcr (e ▸ hx)
      simp only [first, List.headD_cons, setAhead_next, setNext_next, if_neg (Ne.symm h5), setAhead_ahead, if_neg h6, setNext_ahead, and_self]
/-- a link is the last one -/
theorem chain_last {G : Nat → Lk} {a b : Nat} {l : List Nat} (h : chain G a l a) (hn : (a :: l).Nodup) (hb : b ∉ a :: l) :
    chain (setAhead (setNext (setNext (setAhead G b (G a).ahead) b a) (G a).ahead b) a b) a (l ++ [b]) a := by
  simp only [List.mem_cons, not_or] at hb
  rw [chain_app, chain_ahead h]
  have hlb : last a l ≠ b := fun e => by
    have := last_mem a l
    rw [e, List.mem_cons] at this
    rcases this with g | g
    · exact hb.1 g
    · exact hb.2 g
  constructor
  · have h1 := chain_end (z' := b) h hn hb.2
    refine chain_congr h1 ?_ ?_ ?_
    · by_cases e : a = last a l
      · simp only [setAhead_next, setNext_next, if_pos e]
      · simp only [setAhead_next, setNext_next, if_neg e, if_neg (Ne.symm hb.1)]
    · simp only [setAhead_ahead, if_neg hb.1, setNext_ahead, if_true]
    · intro x hx
      have e1 : x ≠ b := fun e => hb.2 (e ▸ hx)
      have e2 : x ≠ a := fun e => (List.nodup_cons.1 hn).1 (e ▸ hx)
      simp only [setAhead_next, setNext_next, setAhead_ahead, setNext_ahead, if_neg e1, if_neg e2, and_self]
  · simp only [chain, setAhead_next, setNext_next, setAhead_ahead, if_neg (Ne.symm hlb), if_true, and_self]
theorem chain_out {G : Nat → Lk} {a b : Nat} {l r : List Nat} (h : chain G a (l ++ b :: r) a) (hn : (a :: (l ++ b :: r)).Nodup) :
    (G b).ahead ∈ a :: (l ++ r) ∧ (G b).next ∈ a :: (l ++ r) := by
  obtain ⟨h1, h2⟩ := chain_app.1 h
  rw [chain_ahead h1, chain_next h2]
  constructor
  · have := last_mem a l
    simp only [List.mem_cons, List.mem_append] at this ⊢
    rcases this with h | h
    · exact Or.inl h
    · exact Or.inr (Or.inl h)
  · have := first_mem a r
    simp only [List.mem_cons, List.mem_append] at this ⊢
    rcases this with h | h
    · exact Or.inl h
    · exact Or.inr (Or.inr h)
/-- one more block's link -/
def put (G : Nat → Lk) (b : Nat) (k : ByteArray) (x y : Nat) : Nat → Lk := fun i => if i = b then ⟨k, x, y⟩ else G i
theorem put_at (G : Nat → Lk) (b : Nat) (k : ByteArray) (x y : Nat) : put G b k x y b = ⟨k, x, y⟩ := by unfold put; rw [if_pos rfl]
theorem put_ne (G : Nat → Lk) {b i : Nat} (k : ByteArray) (x y : Nat) (h : i ≠ b) : put G b k x y i = G i := by unfold put; rw [if_neg h]
/-- The ring with the link b as the last one. -/
def withLast (G : Nat → Lk) (a b : Nat) (k : ByteArray) : Nat → Lk := setAhead (setNext (put G b k (G a).ahead a) (G a).ahead b) a b
theorem chain_with {G : Nat → Lk} {a b : Nat} {k : ByteArray} {l : List Nat} (h : chain G a l a) (hn : (a :: l).Nodup) (hb : b ∉ a :: l) : chain (withLast G a b k) a (l ++ [b]) a := by
  have h2 := chain_last h hn hb
  have e : ∀ i, (withLast G a b k i).next = (setAhead (setNext (setNext (setAhead G b (G a).ahead) b a) (G a).ahead b) a b i).next ∧ (withLast G a b k i).ahead = (setAhead (setNext (setNext (setAhead G b (G a).ahead) b a) (G a).ahead b) a b i).ahead := by
    intro i
    unfold withLast
    by_cases hi : i = b
    · subst hi; simp [setAhead_next, setNext_next, setAhead_ahead, put_at]
    · simp [setAhead_next, setNext_next, setAhead_ahead, put_ne G k _ _ hi, hi]
  exact chain_congr h2 (e _).1 (e _).2 (fun b _ => e b)
theorem with_key_at (G : Nat → Lk) (a b : Nat) (k : ByteArray) : (withLast G a b k b).key = k := by unfold withLast; simp [put_at]
theorem with_key (G : Nat → Lk) {a b i : Nat} (k : ByteArray) (h : i ≠ b) : (withLast G a b k i).key = (G i).key := by unfold withLast; simp [put_ne G k _ _ h]
/-- The ring without the link b. -/
def without (G : Nat → Lk) (b : Nat) : Nat → Lk := setAhead (setNext G (G b).ahead (G b).next) (G b).next (G b).ahead
theorem without_key (G : Nat → Lk) (b i : Nat) : (without G b i).key = (G i).key := by unfold without; simp
theorem chain_without {G : Nat → Lk} {a b : Nat} {l r : List Nat} (h : chain G a (l ++ b :: r) a) (hn : (a :: (l ++ b :: r)).Nodup) : chain (without G b) a (l ++ r) a := chain_out0 h hn
end Ring
