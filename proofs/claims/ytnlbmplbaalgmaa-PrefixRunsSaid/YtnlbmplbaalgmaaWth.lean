/- Rising lists, whatever they hold; functions that change at a point. -/
import Derived.Test.YtnlbmplbaalgmaaOwn
import Derived.Test.YtnlbmplbaalgmaaMap
import Derived.Shelf.Spec.SearchS
set_option linter.unusedVariables false
set_option linter.unusedSimpArgs false
set_option linter.unusedSectionVars false
namespace Go.Proofs.Ytnlbmplbaalgmaa
open Go.RowKit

def upd {α β : Type} [DecidableEq α] (f : α → β) (a : α) (b : β) : α → β := fun x => if x = a then b else f x
theorem upd_at {α β : Type} [DecidableEq α] (f : α → β) (a : α) (b : β) : upd f a b a = b := by unfold upd; rw [if_pos rfl]
theorem upd_ne {α β : Type} [DecidableEq α] (f : α → β) {a x : α} (b : β) (h : x ≠ a) : upd f a b x = f x := by unfold upd; rw [if_neg h]
def intEnc (n : Int) : Value := .int .i64 n

class LinO (α : Type) [LT α] : Prop where
  irr : ∀ a : α, ¬ a < a
  tr : ∀ {a b c : α}, a < b → b < c → a < c
  tri : ∀ a b : α, a < b ∨ a = b ∨ b < a
instance : LinO Int := ⟨fun a => Int.lt_irrefl a, fun h k => Int.lt_trans h k, fun a b => by omega⟩
instance : LinO (List UInt8) := ⟨fun a => List.lt_irrefl a, fun h k => List.lt_trans h k, fun a b => by
  by_cases h : a < b
  · exact Or.inl h
  · rcases List.le_iff_lt_or_eq.1 (List.not_lt.1 h) with g | g
    · exact Or.inr (Or.inr g)
    · exact Or.inr (Or.inl g.symm)⟩

section
variable {α : Type} [LT α] [DecidableLT α] [DecidableEq α] [LinO α]
/-- A rising list with one more, each once. -/
def wth (l : List α) (x : α) : List α := l.filter (· < x) ++ x :: l.filter (x < ·)
abbrev Rising (l : List α) : Prop := l.Pairwise (· < ·)
omit [DecidableLT α] [DecidableEq α] in
theorem lin_asymm {a b : α} (h : a < b) : ¬ b < a := fun k => LinO.irr a (LinO.tr h k)
omit [DecidableLT α] [DecidableEq α] in
theorem rising_head {y : α} {r : List α} (h : Rising (y :: r)) {z : α} (hz : z ∈ r) : y < z := (List.pairwise_cons.1 h).1 z hz
theorem rising_split {l : List α} (h : Rising l) (x : α) : l = l.filter (· < x) ++ (l.filter (· = x) ++ l.filter (x < ·)) := by
  induction l with
  | nil => rfl
  | cons y r ih =>
    obtain ⟨h1, h2⟩ := List.pairwise_cons.1 h
    rcases LinO.tri y x with a | b | c
    · have b : ¬ y = x := fun e => LinO.irr x (e ▸ a)
      have c : ¬ x < y := lin_asymm a
      simp only [List.filter_cons, a, b, c, decide_true, decide_false, if_true, Bool.false_eq_true, if_false, List.cons_append]
      rw [← ih h2]
    · have a : ¬ y < x := fun e => LinO.irr x (b ▸ e)
      have c : ¬ x < y := fun e => LinO.irr x (by rw [b] at e; exact e)
      have e1 : r.filter (· < x) = [] := List.filter_eq_nil_iff.2 (fun z hz => by have := h1 z hz; rw [b] at this; simpa using lin_asymm this)
      have e2 : r.filter (· = x) = [] := List.filter_eq_nil_iff.2 (fun z hz => by have := h1 z hz; rw [b] at this; simp; intro e; rw [e] at this; exact LinO.irr x this)
      have ih2 := ih h2
      rw [e1, e2] at ih2
      simp only [List.filter_cons, a, b, c, e1, e2, decide_true, decide_false, if_true, Bool.false_eq_true, if_false, List.nil_append, List.cons_append]
      have hx : decide (x < x) = false := by simpa using LinO.irr x
      simp only [List.nil_append] at ih2
      simp only [hx, Bool.false_eq_true, if_false, List.nil_append, List.cons_append]
      rw [← ih2]
    · have a : ¬ y < x := lin_asymm c
      have b : ¬ y = x := fun e => LinO.irr x (by rw [e] at c; exact c)
      have e1 : r.filter (· < x) = [] := List.filter_eq_nil_iff.2 (fun z hz => by simpa using lin_asymm (LinO.tr c (h1 z hz)))
      have e2 : r.filter (· = x) = [] := List.filter_eq_nil_iff.2 (fun z hz => by simp; intro e; exact lin_asymm c (e ▸ h1 z hz))
      have ih2 := ih h2
      rw [e1, e2] at ih2
      simp only [List.filter_cons, a, b, c, e1, e2, decide_true, decide_false, if_true, Bool.false_eq_true, if_false, List.nil_append, List.cons_append]
      simp only [List.nil_append] at ih2
      rw [← ih2]
omit [DecidableEq α] [LinO α] in
theorem count_len (l : List α) (x : α) : l.countP (· < x) = (l.filter (· < x)).length := List.countP_eq_length_filter
omit [DecidableLT α] [DecidableEq α] in
theorem nodup_of_rising {l : List α} (h : Rising l) : l.Nodup := List.Pairwise.imp (S := fun a b : α => a ≠ b) (fun {a b} hab e => LinO.irr b (by subst e; exact hab)) h
theorem wth_in {l : List α} (h : Rising l) {x : α} (hx : x ∈ l) : wth l x = l := by
  have e := rising_split h x
  have e2 : l.filter (· = x) = [x] := by
    have hn : l.Nodup := nodup_of_rising h
    have hm : x ∈ l.filter (· = x) := List.mem_filter.2 ⟨hx, by simp⟩
    have hn2 : (l.filter (· = x)).Nodup := hn.filter _
    cases hf : l.filter (· = x) with
    | nil => rw [hf] at hm; simp at hm
    | cons y r =>
      have ha : ∀ z ∈ l.filter (· = x), z = x := fun z hz => by simpa using (List.mem_filter.1 hz).2
      rw [hf] at ha hn2
      have hy := ha y (by simp)
      cases r with
      | nil => rw [hy]
      | cons z r =>
        have hz := ha z (by simp)
        rw [hy, hz] at hn2; simp at hn2
  rw [e2] at e
  unfold wth
  exact e.symm
theorem wth_out {l : List α} (h : Rising l) {x : α} (hx : x ∉ l) : wth l x = l.take (l.countP (· < x)) ++ x :: l.drop (l.countP (· < x)) := by
  have e := rising_split h x
  have e2 : l.filter (· = x) = [] := List.filter_eq_nil_iff.2 (fun y hy => by simp; rintro rfl; exact hx hy)
  rw [e2, List.nil_append] at e
  have h1 : l.take (l.countP (· < x)) = l.filter (· < x) := by rw [count_len]; conv => lhs; arg 2; rw [e]
                                                               rw [List.take_left']; rfl
  have h2 : l.drop (l.countP (· < x)) = l.filter (x < ·) := by rw [count_len]; conv => lhs; arg 2; rw [e]
                                                               rw [List.drop_left']; rfl
  rw [h1, h2]; rfl
omit [DecidableEq α] in
theorem wth_rising {l : List α} (h : Rising l) (x : α) : Rising (wth l x) := by
  unfold wth
  refine List.pairwise_append.2 ⟨h.filter _, List.pairwise_cons.2 ⟨fun y hy => by simpa using (List.mem_filter.1 hy).2, h.filter _⟩, fun a ha b hb => ?_⟩
  have h1 : a < x := by simpa using (List.mem_filter.1 ha).2
  rcases List.mem_cons.1 hb with rfl | hb
  · exact h1
  · have : x < b := by simpa using (List.mem_filter.1 hb).2
    exact LinO.tr h1 this
theorem wth_mem {l : List α} {x y : α} : y ∈ wth l x ↔ y = x ∨ y ∈ l := by
  unfold wth
  simp only [List.mem_append, List.mem_cons, List.mem_filter, decide_eq_true_eq]
  constructor
  · rintro (⟨h, _⟩ | h | ⟨h, _⟩)
    · exact Or.inr h
    · exact Or.inl h
    · exact Or.inr h
  · rintro (h | h)
    · exact Or.inr (Or.inl h)
    · rcases LinO.tri y x with a | b | c
      · exact Or.inl ⟨h, a⟩
      · exact Or.inr (Or.inl b)
      · exact Or.inr (Or.inr ⟨h, c⟩)
omit [DecidableEq α] in
theorem wth_len (l : List α) (x : α) : (wth l x).length ≤ l.length + 1 := by
  have h : ∀ l : List α, (l.filter (· < x)).length + (l.filter (x < ·)).length ≤ l.length := by
    intro l
    induction l with
    | nil => simp
    | cons y r ih =>
      simp only [List.filter_cons]
      by_cases a : y < x
      · have c : ¬ x < y := lin_asymm a
        simp only [a, c, decide_true, decide_false, if_true, Bool.false_eq_true, if_false, List.length_cons]; omega
      · by_cases c : x < y
        · simp only [a, c, decide_true, decide_false, if_true, Bool.false_eq_true, if_false, List.length_cons]; omega
        · simp only [a, c, decide_false, Bool.false_eq_true, if_false, List.length_cons]; omega
  have := h l
  unfold wth
  simp only [List.length_append, List.length_cons]; omega
omit [DecidableLT α] [DecidableEq α] in
/-- Two rising lists of the same things are the same. -/
theorem rising_ext : ∀ {a b : List α}, Rising a → Rising b → (∀ x, x ∈ a ↔ x ∈ b) → a = b
  | [], [], _, _, _ => rfl
  | [], y :: b, _, _, h => absurd ((h y).2 (by simp)) (by simp)
  | x :: a, [], _, _, h => absurd ((h x).1 (by simp)) (by simp)
  | x :: a, y :: b, ha, hb, h => by
    have hx : x = y := by
      rcases LinO.tri x y with g | g | g
      · rcases List.mem_cons.1 ((h x).1 (by simp)) with e | e
        · exact e
        · exact absurd (rising_head hb e) (lin_asymm g)
      · exact g
      · rcases List.mem_cons.1 ((h y).2 (by simp)) with e | e
        · exact e.symm
        · exact absurd (rising_head ha e) (lin_asymm g)
    subst hx
    rw [rising_ext (List.pairwise_cons.1 ha).2 (List.pairwise_cons.1 hb).2 (fun z => ?_)]
    constructor
    · intro hz
      rcases List.mem_cons.1 ((h z).1 (List.mem_cons_of_mem _ hz)) with e | e
      · exact absurd (e ▸ rising_head ha hz) (LinO.irr _)
      · exact e
    · intro hz
      rcases List.mem_cons.1 ((h z).2 (List.mem_cons_of_mem _ hz)) with e | e
      · exact absurd (e ▸ rising_head hb hz) (LinO.irr _)
      · exact e
omit [DecidableEq α] in
/-- Where a binary search ends. -/
theorem bsGo_rising {l : List α} (h : Rising l) (x : α) (d : α) (hd : ¬ d < x) (p : Nat → Bool) (hp : ∀ t, p t = decide (l.getD t d < x)) : Lib.bsGo p l.length 0 l.length = l.countP (· < x) := by
  have hs : ∀ t, (t < l.countP (· < x) → l.getD t d < x) ∧ (l.countP (· < x) ≤ t → ¬ l.getD t d < x) := by
    clear hp
    induction l with
    | nil => intro t; exact ⟨fun h => by simp at h, fun _ => by simpa using hd⟩
    | cons y r ih =>
      intro t
      obtain ⟨h1, h2⟩ := List.pairwise_cons.1 h
      by_cases a : y < x
      · rw [List.countP_cons_of_pos (by simpa using a)]
        cases t with
        | zero => exact ⟨fun _ => by simpa using a, fun h => by omega⟩
        | succ t => have := ih h2 t; simp only [List.getD_cons_succ]; exact ⟨fun h => this.1 (by omega), fun h => this.2 (by omega)⟩
      · rw [List.countP_cons_of_neg (by simpa using a)]
        have e0 : r.countP (· < x) = 0 := List.countP_eq_zero.2 (fun z hz hh => a (LinO.tr (h1 z hz) (by simpa using hh)))
        cases t with
        | zero => rw [e0]; exact ⟨fun h => by omega, fun _ => by simpa using a⟩
        | succ t =>
          have := ih h2 t; rw [e0] at this ⊢; simp only [List.getD_cons_succ]; exact ⟨fun h => by omega, fun _ => this.2 (Nat.zero_le _)⟩
  exact Lib.bsGo_spec p _ (fun t ht => by rw [hp]; exact decide_eq_true ((hs t).1 ht)) (fun t ht => by rw [hp]; exact decide_eq_false ((hs t).2 ht)) _ 0 _ (by omega) (Nat.zero_le _) List.countP_le_length
end
end Go.Proofs.Ytnlbmplbaalgmaa
