/- Plain: lines by the places of their ends; what stays when more bytes come; all commands. -/
import Derived.Test.YtkemjjhmabemiaaDoorK01
import Derived.Lib.Bytealg
import Derived.Handy
import Derived.WalkSpells
import Derived.WalkLawsBesides
import Derived.Deep.QuietTactic
import Derived.BigQuiet
import Derived.Lib.Hide
set_option linter.unusedVariables false
set_option linter.unusedSimpArgs false
namespace Lin
open Go.Lib (indexByte indexByte_ge)

theorem ix_nil (c : UInt8) : indexByte [] c = -1 := rfl
theorem ix_hit (c : UInt8) (l : Txt) : indexByte (c :: l) c = 0 := by rw [indexByte]; simp
theorem ix_next {b c : UInt8} (h : b ≠ c) (l : Txt) : (indexByte (b :: l) c = -1 ∧ indexByte l c = -1) ∨ (indexByte (b :: l) c = indexByte l c + 1 ∧ 0 ≤ indexByte l c) := by
  have hg := indexByte_ge l c
  rw [indexByte, if_neg (by simpa using h)]
  by_cases e : indexByte l c = -1
  · left; rw [if_pos (by simpa using e)]; exact ⟨rfl, e⟩
  · right; rw [if_neg (by simpa using e)]; exact ⟨rfl, by omega⟩
theorem ix_le (l : Txt) (c : UInt8) : indexByte l c < l.length := by
  induction l with
  | nil => rw [ix_nil]; simp
  | cons b r ih =>
    by_cases h : b = c
    · subst h; rw [ix_hit]; simp
    · rcases ix_next h r with ⟨e, _⟩ | ⟨e, _⟩ <;> rw [e] <;> simp <;> omega

/-- A line by the places of its ends. -/
def lineIx (acc t : Txt) (k : Nat) : R Txt :=
  if indexByte t 10 = 0 ∨ (0 < indexByte t 10 ∧ indexByte t 13 ≠ indexByte t 10 - 1) ∨ (indexByte t 10 < 0 ∧ 0 ≤ indexByte t 13 ∧ indexByte t 13 < (t.length : Int) - 1) ∨ (indexByte t 10 < 0 ∧ t.length = k) then .bad
  else if indexByte t 10 < 0 then .short
  else .there (acc ++ t.take ((indexByte t 10).toNat - 1)) (acc.length + (indexByte t 10).toNat + 1)
theorem lin_ix : ∀ (k : Nat) (acc s : Txt), lin false acc k s = lineIx acc (s.take k) k
  | 0, acc, s => by
    rw [lin, List.take_zero, lineIx, if_pos]
    rw [ix_nil]; simp
  | k + 1, acc, [] => by
    rw [lin, List.take_nil, lineIx, if_neg, if_pos]
    · rw [ix_nil]; omega
    · rw [ix_nil, ix_nil]; simp
  | k + 1, acc, c :: r => by
    rw [lin, List.take_succ_cons]
    by_cases h10 : c = 10
    · subst h10
      rw [if_pos rfl, lineIx, if_pos]
      left; exact ix_hit _ _
    rw [if_neg h10]
    by_cases h13 : c = 13
    · subst h13
      rw [if_pos rfl]
      have hb : indexByte (13 :: r.take k) 13 = 0 := ix_hit _ _
      cases k with
      | zero =>
        rw [lin, lineIx, if_pos]
        rcases ix_next h10 (r.take 0) with ⟨e, _⟩ | ⟨e, h2⟩
        · right; right; right; rw [e]; simp
        · rw [List.take_zero, ix_nil] at h2; omega
      | succ k =>
        cases r with
        | nil =>
          rw [lin, List.take_nil, lineIx]
          have e : indexByte ([13] : Txt) 10 = -1 := by decide
          have e2 : indexByte ([13] : Txt) 13 = 0 := by decide
          rw [e, e2, if_neg, if_pos (by omega)]
          simp
        | cons d q =>
          rw [lin, List.take_succ_cons]
          by_cases hd : d = 10
          · subst hd
            rw [if_pos rfl, lineIx]
            have e1 : indexByte (10 :: q.take k) 10 = 0 := ix_hit _ _
            have e2 : indexByte (13 :: 10 :: q.take k) 10 = 1 := by
              rcases ix_next h10 (10 :: q.take k) with ⟨_, e⟩ | ⟨e, _⟩
              · rw [e1] at e; omega
              · rw [e, e1]; rfl
            rw [List.take_succ_cons] at hb
            rw [hb, e2, if_neg (by omega), if_neg (by omega)]
            simp
          · rw [if_neg hd, lineIx]
            rw [List.take_succ_cons] at hb
            rw [hb, if_pos]
            rcases ix_next h10 (d :: q.take k) with ⟨e, _⟩ | ⟨e, h2⟩
            · rw [e]; right; right; left
              simp
            · rcases ix_next hd (q.take k) with ⟨e3, e4⟩ | ⟨e3, e4⟩
              · rw [e3] at h2; omega
              · rw [e, e3]; right; left; omega
    · rw [if_neg h13, lin_ix k (acc ++ [c]) r]
      unfold lineIx
      have h1 := ix_next h10 (r.take k)
      have h2 := ix_next h13 (r.take k)
      have g1 := indexByte_ge (r.take k) 10
      have g2 := indexByte_ge (r.take k) 13
      generalize indexByte (c :: r.take k) 10 = a at *
      generalize indexByte (c :: r.take k) 13 = b at *
      generalize hn : indexByte (r.take k) 10 = n at *
      generalize indexByte (r.take k) 13 = m at *
      rw [List.length_cons]
      rcases h1 with ⟨rfl, rfl⟩ | ⟨rfl, hn0⟩
      · by_cases hc : (0 ≤ m ∧ m < ((r.take k).length : Int) - 1) ∨ (r.take k).length = k
        · rw [if_pos (by omega), if_pos (by omega)]
        · rw [if_neg (by omega), if_pos (by omega), if_neg (by omega), if_pos (by omega)]
      · by_cases hc : n = 0 ∨ m ≠ n - 1
        · rw [if_pos (by omega), if_pos (by omega)]
        · rw [if_neg (by omega), if_neg (by omega), if_neg (by omega), if_neg (by omega)]
          obtain ⟨j, rfl⟩ : ∃ j : Nat, n = (j : Int) := ⟨n.toNat, by omega⟩
          have hj : 1 ≤ j := by omega
          have e1 : ((j : Int) + 1).toNat = j + 1 := by omega
          rw [e1]
          have e2 : (c :: r.take k).take (j + 1 - 1) = c :: (r.take k).take (j - 1) := by
            obtain ⟨i, rfl⟩ : ∃ i, j = i + 1 := ⟨j - 1, by omega⟩
            simp
          rw [e2]
          congr 1
          · simp
          · simp; omega
theorem line_ix (s : Txt) : line s = lineIx [] (s.take 4200) 4200 := lin_ix 4200 [] s

theorem feed_ix : ∀ (k : Nat) (acc s : Txt), feed acc k s = if indexByte (s.take k) 10 < 0 then (if (s.take k).length = k then .bad else .short) else .there (acc ++ (s.take k).take (indexByte (s.take k) 10).toNat) (acc.length + (indexByte (s.take k) 10).toNat + 1)
  | 0, acc, s => by rw [feed, List.take_zero, ix_nil, if_pos (by omega), if_pos (by simp)]
  | k + 1, acc, [] => by rw [feed, List.take_nil, ix_nil, if_pos (by omega), if_neg (by simp)]
  | k + 1, acc, c :: r => by
    rw [feed, List.take_succ_cons]
    by_cases h : c = 10
    · subst h; rw [if_pos rfl, ix_hit, if_neg (by omega)]; simp
    · rw [if_neg h, feed_ix k]
      rcases ix_next h (r.take k) with ⟨e1, e2⟩ | ⟨e1, e2⟩
      · rw [e1, e2]
        simp
      · rw [e1, if_neg (by omega), if_neg (by omega)]
        obtain ⟨j, hj⟩ : ∃ j : Nat, indexByte (r.take k) 10 = (j : Int) := ⟨(indexByte (r.take k) 10).toNat, by omega⟩
        rw [hj]
        have e : ((j : Int) + 1).toNat = j + 1 := by omega
        rw [e]
        simp
        omega

/-- What is told of some bytes stays when more come. -/
theorem lin_stay (t : Txt) : ∀ (b : Bool) (k : Nat) (acc s : Txt), (∀ a n, lin b acc k s = .there a n → lin b acc k (s ++ t) = .there a n) ∧ (lin b acc k s = .bad → lin b acc k (s ++ t) = .bad)
  | b, 0, acc, s => by
    cases b <;> (rw [lin, lin]; exact ⟨fun a n h => (by cases h), fun h => h⟩)
  | b, k + 1, acc, [] => by
    cases b <;> (rw [lin]; exact ⟨fun a n h => (by cases h), fun h => (by cases h)⟩)
  | true, k + 1, acc, c :: r => by
    rw [List.cons_append, lin, lin]
    exact ⟨fun a n h => h, fun h => h⟩
  | false, k + 1, acc, c :: r => by
    rw [List.cons_append, lin, lin]
    by_cases h : c = 10
    · rw [if_pos h, if_pos h]; exact ⟨fun a n h => h, fun h => h⟩
    · rw [if_neg h, if_neg h]
      by_cases h2 : c = 13
      · rw [if_pos h2, if_pos h2]; exact lin_stay t true k acc r
      · rw [if_neg h2, if_neg h2]; exact lin_stay t false k _ r
theorem lin_there : ∀ (b : Bool) (k : Nat) (acc s : Txt) (a : Txt) (n : Nat), lin b acc k s = .there a n → acc.length + 2 ≤ n ∧ n ≤ acc.length + (if b then 1 else 0) + s.length ∧ a.length + 2 = n
  | b, 0, acc, s, a, n, h => by cases b <;> (rw [lin] at h; cases h)
  | b, k + 1, acc, [], a, n, h => by cases b <;> (rw [lin] at h; cases h)
  | true, k + 1, acc, c :: r, a, n, h => by
    rw [lin] at h
    split at h
    · cases h; simp; omega
    · cases h
  | false, k + 1, acc, c :: r, a, n, h => by
    rw [lin] at h
    split at h
    · cases h
    · split at h
      · have := lin_there true k acc r a n h
        simp at this ⊢; omega
      · have := lin_there false k _ r a n h
        simp at this ⊢; omega
theorem line_stay {s : Txt} (t : Txt) : (∀ a n, line s = .there a n → line (s ++ t) = .there a n) ∧ (line s = .bad → line (s ++ t) = .bad) := lin_stay t false 4200 [] s
theorem line_there {s a : Txt} {n : Nat} (h : line s = .there a n) : 2 ≤ n ∧ n ≤ s.length ∧ a.length + 2 = n := by
  have := lin_there false 4200 [] s a n h
  simpa using this
theorem num_stay {m : UInt8} {x y : Int} {s : Txt} (t : Txt) : (∀ a n, num m x y s = .there a n → num m x y (s ++ t) = .there a n) ∧ (num m x y s = .bad → num m x y (s ++ t) = .bad) := by
  cases s with
  | nil => exact ⟨fun a n h => (by simp [num] at h), fun h => by simp [num] at h⟩
  | cons c r =>
    rw [List.cons_append]
    unfold num
    simp only
    by_cases hc : c = m
    · rw [if_pos hc, if_pos hc]
      cases e : line r with
      | there l n => rw [(line_stay t).1 l n e]; exact ⟨fun a n h => h, fun h => h⟩
      | short => exact ⟨fun a n h => (by cases h), fun h => (by cases h)⟩
      | bad => rw [(line_stay t).2 e]; exact ⟨fun a n h => h, fun h => h⟩
    · rw [if_neg hc, if_neg hc]; exact ⟨fun a n h => h, fun h => h⟩
theorem num_there {m : UInt8} {x y : Int} {s : Txt} {v : Int} {n : Nat} (h : num m x y s = .there v n) : 3 ≤ n ∧ n ≤ s.length ∧ x ≤ v ∧ v ≤ y := by
  cases s with
  | nil => simp [num] at h
  | cons c r =>
    unfold num at h
    simp only at h
    split at h
    · cases e : line r with
      | there l k =>
        rw [e] at h
        simp only at h
        have := line_there e
        cases e2 : Whole.wparse l with
        | none => rw [e2] at h; cases h
        | some q =>
          rw [e2] at h
          simp only at h
          split at h
          · cases h
          · next h3 => cases h; rw [List.length_cons]; omega
      | short => rw [e] at h; cases h
      | bad => rw [e] at h; cases h
    · cases h
theorem word_stay {s : Txt} (t : Txt) : (∀ a n, word s = .there a n → word (s ++ t) = .there a n) ∧ (word s = .bad → word (s ++ t) = .bad) := by
  unfold word
  cases e : num 36 0 4096 s with
  | short => exact ⟨fun a n h => (by cases h), fun h => (by cases h)⟩
  | bad => rw [(num_stay t).2 e]; exact ⟨fun a n h => h, fun h => h⟩
  | there v n =>
    rw [(num_stay t).1 v n e]
    obtain ⟨h1, h2, _, _⟩ := num_there e
    simp only
    have hd : (s ++ t).drop n = s.drop n ++ t := List.drop_append_of_le_length h2
    rw [hd]
    generalize s.drop n = r
    generalize v.toNat = k
    have g : ∀ i, i < r.length → (r ++ t).getD i 0 = r.getD i 0 := fun i hi => by
      rw [List.getD_eq_getElem?_getD, List.getD_eq_getElem?_getD, List.getElem?_append_left hi]
    rw [List.length_append]
    refine ⟨fun a q h => ?_, fun h => ?_⟩
    · split at h
      · cases h
      · next hb =>
        split at h
        · cases h
        · next hs =>
          rw [if_neg, if_neg (by omega), ← h]
          · rw [List.take_append_of_le_length (by omega)]
          · rintro (⟨p1, p2⟩ | ⟨p1, p2⟩)
            · rw [g k (by omega)] at p2; exact hb (Or.inl ⟨by omega, p2⟩)
            · rw [g (k + 1) (by omega)] at p2; exact hb (Or.inr ⟨by omega, p2⟩)
    · split at h
      · next hb =>
        rw [if_pos]
        rcases hb with ⟨p1, p2⟩ | ⟨p1, p2⟩
        · exact Or.inl ⟨by omega, by rw [g k p1]; exact p2⟩
        · exact Or.inr ⟨by omega, by rw [g (k + 1) p1]; exact p2⟩
      · split at h <;> cases h
theorem word_there {s w : Txt} {n : Nat} (h : word s = .there w n) : 3 ≤ n ∧ n ≤ s.length ∧ w.length ≤ 4096 := by
  unfold word at h
  cases e : num 36 0 4096 s with
  | short => rw [e] at h; cases h
  | bad => rw [e] at h; cases h
  | there v k =>
    rw [e] at h
    simp only at h
    obtain ⟨h1, h2, _, _⟩ := num_there e
    split at h
    · cases h
    · split at h
      · cases h
      · next hs =>
        rw [List.length_drop] at hs
        cases h
        rw [List.length_take, List.length_drop]; omega
theorem arr_stay (t : Txt) : ∀ (k at' : Nat) (out : List Txt) (s : Txt), (∀ a n, arr k at' out s = .there a n → arr k at' out (s ++ t) = .there a n) ∧ (arr k at' out s = .bad → arr k at' out (s ++ t) = .bad)
  | 0, at', out, s => by rw [arr, arr]; exact ⟨fun a n h => h, fun h => h⟩
  | k + 1, at', out, s => by
    rw [arr, arr]
    cases e : word s with
    | short => exact ⟨fun a n h => (by cases h), fun h => (by cases h)⟩
    | bad => rw [(word_stay t).2 e]; exact ⟨fun a n h => h, fun h => h⟩
    | there w n =>
      rw [(word_stay t).1 w n e]
      simp only
      rw [List.drop_append_of_le_length (word_there e).2.1]
      exact arr_stay t k _ _ _
theorem arr_there : ∀ (k at' : Nat) (out : List Txt) (s : Txt) (a : List Txt) (n : Nat), arr k at' out s = .there a n → at' ≤ n ∧ n ≤ at' + s.length ∧ a.length = out.length + k
  | 0, at', out, s, a, n, h => by rw [arr] at h; cases h; simp
  | k + 1, at', out, s, a, n, h => by
    rw [arr] at h
    cases e : word s with
    | short => rw [e] at h; cases h
    | bad => rw [e] at h; cases h
    | there w m =>
      rw [e] at h
      simp only at h
      have := arr_there k _ _ _ a n h
      have h2 := word_there e
      rw [List.length_drop, List.length_append] at this
      simp at this
      omega
theorem array_stay {s : Txt} (t : Txt) : (∀ a n, array s = .there a n → array (s ++ t) = .there a n) ∧ (array s = .bad → array (s ++ t) = .bad) := by
  unfold array
  cases e : num 42 (-1) 64 s with
  | short => exact ⟨fun a n h => (by cases h), fun h => (by cases h)⟩
  | bad => rw [(num_stay t).2 e]; exact ⟨fun a n h => h, fun h => h⟩
  | there v n =>
    rw [(num_stay t).1 v n e]
    simp only
    rw [List.drop_append_of_le_length (num_there e).2.1]
    exact arr_stay t _ _ _ _
theorem array_there {s : Txt} {a : List Txt} {n : Nat} (h : array s = .there a n) : 3 ≤ n ∧ n ≤ s.length ∧ a.length ≤ 64 := by
  unfold array at h
  cases e : num 42 (-1) 64 s with
  | short => rw [e] at h; cases h
  | bad => rw [e] at h; cases h
  | there v k =>
    rw [e] at h
    simp only at h
    have h1 := num_there e
    have h2 := arr_there _ _ _ _ _ _ h
    rw [List.length_drop] at h2
    simp at h2
    omega
theorem feed_stay (t : Txt) : ∀ (k : Nat) (acc s : Txt), (∀ a n, feed acc k s = .there a n → feed acc k (s ++ t) = .there a n) ∧ (feed acc k s = .bad → feed acc k (s ++ t) = .bad)
  | 0, acc, s => by rw [feed, feed]; exact ⟨fun a n h => h, fun h => h⟩
  | k + 1, acc, [] => by rw [feed]; exact ⟨fun a n h => (by cases h), fun h => (by cases h)⟩
  | k + 1, acc, c :: r => by
    rw [List.cons_append, feed, feed]
    by_cases h : c = 10
    · rw [if_pos h, if_pos h]; exact ⟨fun a n h => h, fun h => h⟩
    · rw [if_neg h, if_neg h]; exact feed_stay t k _ r
theorem feed_there : ∀ (k : Nat) (acc s a : Txt) (n : Nat), feed acc k s = .there a n → acc.length + 1 ≤ n ∧ n ≤ acc.length + s.length
  | 0, acc, s, a, n, h => by rw [feed] at h; cases h
  | k + 1, acc, [], a, n, h => by rw [feed] at h; cases h
  | k + 1, acc, c :: r, a, n, h => by
    rw [feed] at h
    split at h
    · cases h; simp
    · have := feed_there k _ r a n h
      simp at this ⊢; omega
theorem parse_nil : parse [] = .short := rfl
theorem parse_stay {s : Txt} (t : Txt) : (∀ a n, parse s = .there a n → parse (s ++ t) = .there a n) ∧ (parse s = .bad → parse (s ++ t) = .bad) := by
  cases s with
  | nil => rw [parse_nil]; exact ⟨fun a n h => (by cases h), fun h => (by cases h)⟩
  | cons c r =>
    unfold parse
    have hh : (c :: r ++ t).head? = (c :: r).head? := rfl
    rw [hh]
    split
    · exact array_stay t
    · cases e : feed [] 4200 (c :: r) with
      | short => exact ⟨fun a n h => (by cases h), fun h => (by cases h)⟩
      | bad => rw [(feed_stay t _ _ _).2 e]; exact ⟨fun a n h => h, fun h => h⟩
      | there l n => rw [(feed_stay t _ _ _).1 l n e]; exact ⟨fun a n h => h, fun h => h⟩
theorem parse_there {s : Txt} {a : List Txt} {n : Nat} (h : parse s = .there a n) : 1 ≤ n ∧ n ≤ s.length ∧ a.length ≤ 64 := by
  unfold parse at h
  split at h
  · have := array_there h; omega
  · cases e : feed [] 4200 s with
    | short => rw [e] at h; cases h
    | bad => rw [e] at h; cases h
    | there l k =>
      rw [e] at h
      simp only at h
      have h2 := feed_there _ _ _ _ _ e
      cases e3 : words (strip l) with
      | none => rw [e3] at h; cases h
      | some o =>
        rw [e3] at h
        cases h
        have := (words_some e3).2.1
        simp at h2
        omega
/-- All commands that bytes begin with, what is left, and whether it goes wrong. -/
def all (s : Txt) : List (List Txt) × Txt × Bool :=
  match h : parse s with
  | .bad => ([], [], true)
  | .short => ([], s, false)
  | .there l n => ((if l = [] then (all (s.drop n)).1 else l :: (all (s.drop n)).1), (all (s.drop n)).2)
termination_by s.length
decreasing_by
  all_goals
    have := parse_there h
    rw [List.length_drop]; omega
theorem all_bad {s : Txt} (h : parse s = .bad) : all s = ([], [], true) := by
  rw [all]; split <;> simp_all
theorem all_short {s : Txt} (h : parse s = .short) : all s = ([], s, false) := by
  rw [all]; split <;> simp_all
theorem all_there {s : Txt} {l : List Txt} {n : Nat} (h : parse s = .there l n) : all s = ((if l = [] then (all (s.drop n)).1 else l :: (all (s.drop n)).1), (all (s.drop n)).2) := by
  rw [all]
  split
  · next e => rw [h] at e; cases e
  · next e => rw [h] at e; cases e
  · next l' n' e => rw [h] at e; cases e; rfl
theorem all_app (t : Txt) (N : Nat) : ∀ s : Txt, s.length < N → all (s ++ t) = if (all s).2.2 = true then ((all s).1, [], true) else ((all s).1 ++ (all ((all s).2.1 ++ t)).1, (all ((all s).2.1 ++ t)).2) := by
  induction N with
  | zero => intro s h; omega
  | succ N ih =>
    intro s hs
    cases e : parse s with
    | bad => rw [all_bad ((parse_stay t).2 e), all_bad e]; simp
    | short => rw [all_short e]; simp
    | there l n =>
      have h1 := parse_there e
      rw [all_there ((parse_stay t).1 _ _ e), all_there e, List.drop_append_of_le_length h1.2.1, ih (s.drop n) (by rw [List.length_drop]; omega)]
      simp only
      by_cases hb : (all (s.drop n)).2.2 = true
      · rw [if_pos hb, if_pos hb]
      · rw [if_neg hb, if_neg hb]
        by_cases hl : l = []
        · simp [hl]
        · simp [hl]
theorem all_more (s t : Txt) : all (s ++ t) = if (all s).2.2 = true then ((all s).1, [], true) else ((all s).1 ++ (all ((all s).2.1 ++ t)).1, (all ((all s).2.1 ++ t)).2) := all_app t _ s (Nat.lt_succ_self _)
theorem all_bad_rest (N : Nat) : ∀ s : Txt, s.length < N → (all s).2.2 = true → (all s).2.1 = [] := by
  induction N with
  | zero => intro s h; omega
  | succ N ih =>
    intro s hs hb
    cases e : parse s with
    | bad => rw [all_bad e]
    | short => rw [all_short e] at hb; cases hb
    | there l n =>
      have h1 := parse_there e
      rw [all_there e] at hb ⊢
      exact ih (s.drop n) (by rw [List.length_drop]; omega) hb
/-- What is left begins with no command. -/
theorem all_rest (N : Nat) : ∀ s : Txt, s.length < N → (all s).2.2 = false → parse (all s).2.1 = .short := by
  induction N with
  | zero => intro s h; omega
  | succ N ih =>
    intro s hs hb
    cases e : parse s with
    | bad => rw [all_bad e] at hb; cases hb
    | short => rw [all_short e]; exact e
    | there l n =>
      have h1 := parse_there e
      rw [all_there e] at hb ⊢
      exact ih (s.drop n) (by rw [List.length_drop]; omega) hb
end Lin
/- Plain: words as a line, and back; words with their lengths, and back. -/
set_option linter.unusedVariables false
set_option linter.unusedSimpArgs false
namespace Lin
open Go.Lib (itoa)

/-- A digit, to sixteen. -/
def digit (k : Nat) : UInt8 := if k < 10 then UInt8.ofNat (48 + k) else UInt8.ofNat (87 + k)
/-- May a word stand without marks? -/
def bareB (c : UInt8) : Bool := decide (33 ≤ c.toNat) && decide (c.toNat ≤ 126) && c != 34 && c != 39 && c != 92
def bare (s : Txt) : Bool := s.all bareB && !s.isEmpty
/-- A byte between marks. -/
def qb (c : UInt8) : Txt := if c = 34 ∨ c = 92 then [92, c] else if c.toNat < 32 ∨ 126 < c.toNat then [92, 120, digit (c.toNat / 16), digit (c.toNat % 16)] else [c]
def qw (i : Nat) (s : Txt) : Txt := if bare s = true ∧ (0 < i ∨ s.headD 0 ≠ 42) then s else 34 :: (s.flatMap qb ++ [34])
def quoteF : Nat → List Txt → Txt
  | _, [] => []
  | i, s :: r => (if 0 < i then [32] else []) ++ (qw i s ++ quoteF (i + 1) r)
def quote (l : List Txt) : Txt := quoteF 0 l

theorem hexv_digit : ∀ k : Nat, k < 16 → hexv (digit k) = k := by decide
theorem gap_bare {c : UInt8} (h : bareB c = true) : gap c = false ∧ c ≠ 34 ∧ c ≠ 39 ∧ 33 ≤ c.toNat ∧ c.toNat ≤ 126 := by
  unfold bareB at h
  simp only [Bool.and_eq_true, decide_eq_true_eq, bne_iff_ne] at h
  obtain ⟨⟨⟨⟨h1, h2⟩, h3⟩, h4⟩, h5⟩ := h
  refine ⟨?_, h3, h4, h1, h2⟩
  unfold gap
  rw [Bool.or_eq_false_iff, beq_eq_false_iff_ne, beq_eq_false_iff_ne]
  constructor
  · rintro rfl; simp at h1
  · rintro rfl; simp at h1
theorem take_bare : ∀ (s t : Txt), s.all bareB = true → (t = [] ∨ gap (t.headD 0) = true) → (s ++ t).takeWhile (fun c => !gap c) = s ∧ (s ++ t).dropWhile (fun c => !gap c) = t
  | [], t, _, h => by
    cases t with
    | nil => simp
    | cons c r =>
      have : gap c = true := by simpa using h
      simp [this]
  | c :: r, t, hb, h => by
    simp only [List.all_cons, Bool.and_eq_true] at hb
    have hg := (gap_bare hb.1).1
    have := take_bare r t hb.2 h
    simp [hg, this]
theorem scan_bare {s t : Txt} (h : bare s = true) (out : List Txt) (ht : t = [] ∨ gap (t.headD 0) = true) : scan .sp out (s ++ t) = scan .sp (out ++ [s]) t := by
  unfold bare at h
  rw [Bool.and_eq_true] at h
  cases s with
  | nil => simp at h
  | cons c r =>
    obtain ⟨h1, _⟩ := h
    have hb := h1
    simp only [List.all_cons, Bool.and_eq_true] at hb
    obtain ⟨g1, g2, g3, _⟩ := gap_bare hb.1
    rw [List.cons_append, scan, if_neg (by simp [g1]), if_neg (by simp [g2, g3]), scan_pl]
    obtain ⟨e1, e2⟩ := take_bare r t hb.2 ht
    rw [e1, e2]; rfl
theorem esc_hex (x y : UInt8) (r : Txt) (hx : hexv x < 16) (hy : hexv y < 16) : esc 120 (x :: y :: r) = (UInt8.ofNat (16 * hexv x + hexv y), 3) := by
  unfold esc
  rw [if_neg (by decide), if_neg (by decide), if_neg (by decide), if_pos]
  · rfl
  · exact ⟨rfl, by simp, hx, hy⟩
theorem scan_qb (c : UInt8) (w : Txt) (out : List Txt) (t : Txt) : scan (.qu 34 0 w) out (qb c ++ t) = scan (.qu 34 0 (w ++ [c])) out t := by
  unfold qb
  by_cases h1 : c = 34 ∨ c = 92
  · rw [if_pos h1]
    show scan (.qu 34 0 w) out (92 :: c :: t) = _
    rw [scan, if_neg (by decide)]
    have e : step 34 92 (c :: t) = (c, 2) := by
      unfold step
      rw [if_pos ⟨rfl, by simp, Or.inl rfl⟩, if_pos rfl]
      have : esc ((c :: t).getD 0 0) (c :: t).tail = (c, 1) := by
        show esc c t = _
        unfold esc
        rcases h1 with rfl | rfl <;> (rw [if_neg (by decide), if_neg (by decide), if_neg (by decide), if_neg (by simp)])
      rw [this]
    rw [e]
    rfl
  · rw [if_neg h1]
    rw [not_or] at h1
    by_cases h2 : c.toNat < 32 ∨ 126 < c.toNat
    · rw [if_pos h2]
      show scan (.qu 34 0 w) out (92 :: 120 :: digit (c.toNat / 16) :: digit (c.toNat % 16) :: t) = _
      have hc : c.toNat < 256 := c.toNat_lt
      rw [scan, if_neg (by decide)]
      have d1 := hexv_digit (c.toNat / 16) (by omega)
      have d2 := hexv_digit (c.toNat % 16) (by omega)
      have e : step 34 92 (120 :: digit (c.toNat / 16) :: digit (c.toNat % 16) :: t) = (c, 4) := by
        unfold step
        rw [if_pos ⟨rfl, by simp, Or.inl rfl⟩, if_pos rfl]
        have : esc ((120 :: digit (c.toNat / 16) :: digit (c.toNat % 16) :: t).getD 0 0) (120 :: digit (c.toNat / 16) :: digit (c.toNat % 16) :: t).tail = (c, 3) := by
          show esc 120 (digit (c.toNat / 16) :: digit (c.toNat % 16) :: t) = _
          rw [esc_hex _ _ _ (by omega) (by omega), d1, d2]
          have : 16 * (c.toNat / 16) + c.toNat % 16 = c.toNat := by omega
          rw [this]; simp
        rw [this]
      rw [e]
      rfl
    · rw [if_neg h2]
      show scan (.qu 34 0 w) out (c :: t) = _
      rw [scan, if_neg h1.1]
      have e : step 34 c t = (c, 1) := by unfold step; rw [if_neg (fun h => h1.2 h.1)]
      rw [e]; rfl
theorem scan_qbs (out : List Txt) (t : Txt) : ∀ (s w : Txt), scan (.qu 34 0 w) out (s.flatMap qb ++ t) = scan (.qu 34 0 (w ++ s)) out t
  | [], w => by simp
  | c :: r, w => by
    rw [List.flatMap_cons, List.append_assoc, scan_qb, scan_qbs out t r]; simp
theorem scan_qw (i : Nat) (s t : Txt) (out : List Txt) (ht : t = [] ∨ gap (t.headD 0) = true) : scan .sp out (qw i s ++ t) = scan .sp (out ++ [s]) t := by
  unfold qw
  split
  · next h => exact scan_bare h.1 out ht
  · show scan .sp out (34 :: (s.flatMap qb ++ [34] ++ t)) = _
    rw [scan, if_neg (by decide), if_pos (Or.inl rfl), List.append_assoc, scan_qbs]
    show scan (.qu 34 0 ([] ++ s)) out (34 :: t) = _
    rw [scan, if_pos rfl, scan_be, if_pos ht, List.nil_append]
theorem quoteF_head (i : Nat) (hi : 0 < i) (l : List Txt) (t : Txt) (ht : t = [] ∨ gap (t.headD 0) = true) : quoteF i l ++ t = [] ∨ gap ((quoteF i l ++ t).headD 0) = true := by
  cases l with
  | nil => exact ht
  | cons s r => right; rw [quoteF, if_pos hi]; rfl
theorem scan_quoteF : ∀ (l : List Txt) (i : Nat) (out : List Txt) (t : Txt), (t = [] ∨ gap (t.headD 0) = true) → scan .sp out (quoteF i l ++ t) = scan .sp (out ++ l) t
  | [], i, out, t, ht => by simp [quoteF]
  | s :: r, i, out, t, ht => by
    have hq := quoteF_head (i + 1) (by omega) r t ht
    have h2 := scan_quoteF r (i + 1) (out ++ [s]) t ht
    rw [quoteF]
    have e : (if 0 < i then [32] else []) ++ (qw i s ++ quoteF (i + 1) r) ++ t = (if 0 < i then [32] else []) ++ (qw i s ++ (quoteF (i + 1) r ++ t)) := by simp
    rw [e]
    have e2 : scan .sp out ((if 0 < i then [32] else []) ++ (qw i s ++ (quoteF (i + 1) r ++ t))) = scan .sp out (qw i s ++ (quoteF (i + 1) r ++ t)) := by
      split
      · exact scan_gap (by decide) _ _
      · rfl
    rw [e2, scan_qw i s _ out hq, h2]; simp
theorem words_quote {l : List Txt} (h1 : l.length ≤ 64) (h2 : ∀ w ∈ l, w.length ≤ 4096) : words (quote l) = some l := by
  have := scan_quoteF l 0 [] [] (Or.inl rfl)
  rw [List.append_nil] at this
  unfold words quote
  rw [this, scan]
  exact lim_ok h1 h2
theorem words_again {l : List Txt} (h1 : l.length ≤ 64) (h2 : ∀ w ∈ l, w.length ≤ 4096) : words (([32, 9] : Txt) ++ quote l ++ [32]) = some l := by
  unfold words
  show (scan .sp [] (32 :: 9 :: (quoteF 0 l ++ [32]))).bind lim = _
  rw [scan_gap (by decide), scan_gap (by decide), scan_quoteF l 0 [] [32] (Or.inr rfl)]
  show (scan .sp l [32]).bind lim = _
  rw [scan_gap (by decide), scan]
  exact lim_ok h1 h2
theorem digit_print : ∀ k : Nat, k < 16 → 32 ≤ (digit k).toNat ∧ (digit k).toNat ≤ 126 := by decide
theorem qb_print (c : UInt8) : ∀ x ∈ qb c, 32 ≤ x.toNat ∧ x.toNat ≤ 126 := by
  intro x hx
  have hc : c.toNat < 256 := c.toNat_lt
  unfold qb at hx
  split at hx
  · next h =>
    simp only [List.mem_cons, List.not_mem_nil, or_false] at hx
    rcases hx with rfl | rfl
    · decide
    · rcases h with rfl | rfl <;> decide
  · split at hx
    · simp only [List.mem_cons, List.not_mem_nil, or_false] at hx
      rcases hx with rfl | rfl | rfl | rfl
      · decide
      · decide
      · exact digit_print _ (by omega)
      · exact digit_print _ (by omega)
    · simp only [List.mem_cons, List.not_mem_nil, or_false] at hx
      subst hx; omega
theorem qw_print (i : Nat) (s : Txt) : ∀ x ∈ qw i s, 32 ≤ x.toNat ∧ x.toNat ≤ 126 := by
  intro x hx
  unfold qw at hx
  split at hx
  · next h =>
    have h1 := h.1
    unfold bare at h1
    rw [Bool.and_eq_true, List.all_eq_true] at h1
    have := (gap_bare (h1.1 x hx)).2.2.2
    omega
  · simp only [List.mem_cons, List.mem_append, List.mem_flatMap, List.not_mem_nil, or_false] at hx
    rcases hx with rfl | ⟨c, _, h⟩ | rfl
    · decide
    · exact qb_print c x h
    · decide
theorem quoteF_print : ∀ (l : List Txt) (i : Nat), ∀ x ∈ quoteF i l, 32 ≤ x.toNat ∧ x.toNat ≤ 126
  | [], i, x, hx => by simp [quoteF] at hx
  | s :: r, i, x, hx => by
    rw [quoteF, List.mem_append, List.mem_append] at hx
    rcases hx with h | h | h
    · split at h
      · simp at h; subst h; decide
      · simp at h
    · exact qw_print i s x h
    · exact quoteF_print r (i + 1) x h
theorem feed_no : ∀ (s t : Txt) (k : Nat) (acc : Txt), (∀ x ∈ s, x ≠ 10) → s.length < k → feed acc k (s ++ 10 :: t) = .there (acc ++ s) ((acc ++ s).length + 1)
  | [], t, k, acc, _, hk => by
    obtain ⟨n, rfl⟩ : ∃ n, k = n + 1 := ⟨k - 1, by simp at hk; omega⟩
    rw [List.nil_append, feed, if_pos rfl]; simp
  | c :: r, t, k, acc, h, hk => by
    obtain ⟨n, rfl⟩ : ∃ n, k = n + 1 := ⟨k - 1, by simp at hk; omega⟩
    rw [List.cons_append, feed, if_neg (h c (by simp)), feed_no r t n _ (fun x hx => h x (by simp [hx])) (by simp at hk; omega)]
    simp
theorem qw_head (s t : Txt) : (qw 0 s ++ t).head? ≠ some 42 := by
  unfold qw
  split
  · next h =>
    have h1 := h.1
    unfold bare at h1
    rcases h.2 with h2 | h2
    · omega
    · cases s with
      | nil => simp at h1
      | cons c r => simpa using h2
  · show (34 :: _).head? ≠ _
    simp
theorem parse_quote {l : List Txt} (h0 : l ≠ []) (h1 : l.length ≤ 64) (h2 : ∀ w ∈ l, w.length ≤ 4096) (h3 : (quote l).length ≤ 4000) : parse (quote l ++ [13, 10]) = .there l ((quote l).length + 2) := by
  have hh : (quote l ++ [13, 10]).head? ≠ some 42 := by
    cases l with
    | nil => exact absurd rfl h0
    | cons s r =>
      show ([] ++ (qw 0 s ++ quoteF 1 r) ++ [13, 10]).head? ≠ some 42
      rw [List.nil_append, List.append_assoc]
      exact qw_head s _
  have hp : ∀ x ∈ quote l, x ≠ 10 := fun x hx => by
    have := quoteF_print l 0 x hx
    rintro rfl; simp at this
  unfold parse
  rw [if_neg hh]
  have e : quote l ++ [13, 10] = (quote l ++ [13]) ++ 10 :: [] := by simp
  have e2 := feed_no (quote l ++ [13]) [] 4200 [] (by
    intro x hx
    rw [List.mem_append] at hx
    rcases hx with h | h
    · exact hp x h
    · simp at h; subst h; decide) (by simp; omega)
  rw [e, e2]
  simp only [List.nil_append]
  have e3 : strip (quote l ++ [13]) = quote l := by unfold strip; simp
  rw [e3, words_quote h1 h2]
  simp
/-- Words with their lengths. -/
def long (s : Txt) : Txt := 36 :: (itoa s.length ++ 13 :: 10 :: (s ++ [13, 10]))
def command (l : List Txt) : Txt := 42 :: (itoa l.length ++ 13 :: 10 :: l.flatMap long)
theorem itoa_plain (n : Nat) : ∀ c ∈ itoa (n : Int), c ≠ 10 ∧ c ≠ 13 := by
  intro c hc
  have e : itoa (n : Int) = Go.Lib.decDigits n := by unfold itoa; rw [if_neg (by omega)]; simp
  rw [e] at hc
  have := Whole.dec_isD n c hc
  unfold Whole.isD at this
  constructor <;> (rintro rfl; simp at this)
theorem lin_no : ∀ (s t : Txt) (k : Nat) (acc : Txt), (∀ x ∈ s, x ≠ 10 ∧ x ≠ 13) → s.length + 1 < k → lin false acc k (s ++ 13 :: 10 :: t) = .there (acc ++ s) ((acc ++ s).length + 2)
  | [], t, k, acc, _, hk => by
    obtain ⟨n, rfl⟩ : ∃ n, k = n + 2 := ⟨k - 2, by simp at hk; omega⟩
    rw [List.nil_append, lin, if_neg (by decide), if_pos rfl, lin, if_pos rfl]; simp
  | c :: r, t, k, acc, h, hk => by
    obtain ⟨n, rfl⟩ : ∃ n, k = n + 1 := ⟨k - 1, by simp at hk; omega⟩
    have hc := h c (by simp)
    rw [List.cons_append, lin, if_neg hc.1, if_neg hc.2, lin_no r t n _ (fun x hx => h x (by simp [hx])) (by simp at hk; omega)]
    simp
theorem num_itoa (m : UInt8) (x y : Int) (n : Nat) (t : Txt) (h0 : x ≤ n) (h1 : (n : Int) ≤ y) (hy : y ≤ 100000) : num m x y (m :: (itoa (n : Int) ++ 13 :: 10 :: t)) = .there (n : Int) ((itoa (n : Int)).length + 3) := by
  unfold num
  simp only [if_true]
  have hl : (itoa (n : Int)).length ≤ 20 := Whole.itoa_len (by omega) (by omega)
  have e : line (itoa (n : Int) ++ 13 :: 10 :: t) = .there (itoa (n : Int)) ((itoa (n : Int)).length + 2) := by
    unfold line
    rw [lin_no _ _ _ _ (itoa_plain n) (by omega)]; simp
  rw [e]
  have e2 : Whole.wparse (itoa (n : Int)) = some (n : Int) := (Whole.wparse_is _ _).2 ⟨rfl, by omega, by omega⟩
  simp only [e2]
  rw [if_neg (by omega)]
theorem word_long {s t : Txt} (h : s.length ≤ 4096) : word (long s ++ t) = .there s (long s).length := by
  unfold word
  have e : long s ++ t = 36 :: (itoa (s.length : Int) ++ 13 :: 10 :: (s ++ 13 :: 10 :: t)) := by unfold long; simp
  have hn := num_itoa 36 0 4096 s.length (s ++ 13 :: 10 :: t) (by omega) (by omega) (by omega)
  rw [e, hn]
  simp only
  have e3 : (36 :: (itoa (s.length : Int) ++ 13 :: 10 :: (s ++ 13 :: 10 :: t))).drop ((itoa (s.length : Int)).length + 3) = s ++ 13 :: 10 :: t := by
    rw [show (itoa (s.length : Int)).length + 3 = (itoa (s.length : Int)).length + 2 + 1 by omega, List.drop_succ_cons, List.drop_append]
    simp
  rw [e3]
  simp only [Int.toNat_natCast]
  have g1 : (s ++ 13 :: 10 :: t).getD s.length 0 = 13 := by rw [List.getD_eq_getElem?_getD]; simp
  have g2 : (s ++ 13 :: 10 :: t).getD (s.length + 1) 0 = 10 := by
    rw [List.getD_eq_getElem?_getD, List.getElem?_append_right (by omega)]
    have : s.length + 1 - s.length = 1 := by omega
    rw [this]; rfl
  rw [if_neg (by rw [g1, g2]; simp), if_neg (by simp), List.take_left']
  · congr 1
    unfold long; simp; omega
  · rfl
theorem arr_longs (t : Txt) : ∀ (l : List Txt) (at' : Nat) (out : List Txt), (∀ w ∈ l, w.length ≤ 4096) → arr l.length at' out (l.flatMap long ++ t) = .there (out ++ l) (at' + (l.flatMap long).length)
  | [], at', out, _ => by simp [arr]
  | s :: r, at', out, h => by
    rw [List.length_cons, arr, List.flatMap_cons, List.append_assoc, word_long (h s (by simp))]
    simp only
    rw [List.drop_left, arr_longs t r _ _ (fun w hw => h w (by simp [hw]))]
    simp; omega
theorem parse_command {l : List Txt} (h1 : l.length ≤ 64) (h2 : ∀ w ∈ l, w.length ≤ 4096) : parse (command l) = .there l (command l).length := by
  unfold parse
  rw [if_pos (by unfold command; rfl)]
  unfold array
  have hn := num_itoa 42 (-1) 64 l.length (l.flatMap long) (by omega) (by omega) (by omega)
  have e : command l = 42 :: (itoa (l.length : Int) ++ 13 :: 10 :: l.flatMap long) := rfl
  rw [e, hn]
  simp only [Int.toNat_natCast]
  have e3 : (42 :: (itoa (l.length : Int) ++ 13 :: 10 :: l.flatMap long)).drop ((itoa (l.length : Int)).length + 3) = l.flatMap long := by
    rw [show (itoa (l.length : Int)).length + 3 = (itoa (l.length : Int)).length + 2 + 1 by omega, List.drop_succ_cons, List.drop_append]
    simp
  have h3 := arr_longs [] l ((itoa (l.length : Int)).length + 3) [] h2
  rw [List.append_nil] at h3
  rw [e3, h3]
  congr 1
  simp; omega
end Lin
/- A small library for heap facts: whole blocks, and a frame with a footprint. -/
set_option linter.unusedVariables false
set_option linter.unusedSimpArgs false
namespace Go.Proofs.YtkemjjhmabemiaaDoor
open Go.RowKit

/-- Block b is the row of cells cs, of type T, no cell of it frozen. -/
def Blk (w : World) (b : Nat) (cs : List Value) (T : TypeId) : Prop := w.heap[b]? = some (.cells cs.toArray T (0, 0))

theorem Blk.cell {w : World} {b : Nat} {cs : List Value} {T : TypeId} (h : Blk w b cs T) (i : Nat) : w.cell? ⟨b, i, none⟩ = cs[i]? := by
  unfold Blk at h; unfold World.cell?; simp [h]
theorem Blk.cellAt {w : World} {b : Nat} {cs : List Value} {T : TypeId} (h : Blk w b cs T) {i : Nat} {v : Value} (hv : cs[i]? = some v) : w.cell? ⟨b, i, none⟩ = some v := by
  rw [h.cell, hv]
theorem Blk.free {w : World} {b : Nat} {cs : List Value} {T : TypeId} (h : Blk w b cs T) (i : Nat) : w.frozen? ⟨b, i, none⟩ = false := by
  unfold Blk at h; unfold World.frozen?; simp [h]
theorem Blk.lt {w : World} {b : Nat} {cs : List Value} {T : TypeId} (h : Blk w b cs T) : b < w.heap.size := by
  unfold Blk at h
  by_cases hb : b < w.heap.size
  · exact hb
  · simp [Array.getElem?_eq_none (by omega : w.heap.size ≤ b)] at h
theorem Blk.shape {w : World} {b : Nat} {cs : List Value} {T : TypeId} (h : Blk w b cs T) : w.shape? b = some (T, cs.length) := by
  unfold Blk at h; unfold World.shape?; simp [h]
theorem Blk.set {w : World} {b : Nat} {cs : List Value} {T : TypeId} (h : Blk w b cs T) (o : Nat) (v : Value) : Blk (w.setCell ⟨b, o, none⟩ v) b (cs.set o v) T := by
  unfold Blk at *; unfold World.setCell
  simp [Array.getElem?_modify, h]
theorem Blk.set_other {w : World} {b : Nat} {cs : List Value} {T : TypeId} (h : Blk w b cs T) {b' o : Nat} {v : Value} (hne : b ≠ b') : Blk (w.setCell ⟨b', o, none⟩ v) b cs T := by
  unfold Blk at *; rw [Below.heap_setCell _ _ _ _ hne]; exact h
theorem Blk.alloc {w : World} {b : Nat} {cs : List Value} {T : TypeId} (h : Blk w b cs T) (o : Obj) : Blk (w.alloc o) b cs T := by
  have hb := h.lt
  unfold Blk at *; rw [Below.heap_alloc _ _ _ hb]; exact h
theorem Blk.made (w : World) (cs : List Value) (T : TypeId) : Blk (w.alloc (.cells cs.toArray T)) w.heap.size cs T := by
  unfold Blk; show (w.heap.push _)[w.heap.size]? = _
  simp
theorem Blk.drewN {w : World} {b : Nat} {cs : List Value} {T : TypeId} (h : Blk w b cs T) (n : Nat) : Blk (w.drewN n) b cs T := h
theorem Blk.drew {w : World} {b : Nat} {cs : List Value} {T : TypeId} (h : Blk w b cs T) : Blk w.drew b cs T := h
theorem Blk.inj {w : World} {b : Nat} {cs cs' : List Value} {T T' : TypeId} (h : Blk w b cs T) (h' : Blk w b cs' T') : cs = cs' := by
  unfold Blk at *; rw [h] at h'; simp at h'; exact h'.1

/-- A pointer to block b. -/
def ptr (b : Nat) : Value := .pointer (some ⟨b, 0, none⟩)
/-- But for the blocks of F (and new ones) the world w' is as w was. -/
structure Upd (F : Nat → Prop) (w w' : World) : Prop where
  os : w'.os = w.os
  tape : w'.tape = w.tape
  output : w'.output = w.output
  size : w.heap.size ≤ w'.heap.size
  block : ∀ k, k < w.heap.size → ¬ F k → w'.heap[k]? = w.heap[k]?

theorem Upd.refl (F : Nat → Prop) (w : World) : Upd F w w := ⟨rfl, rfl, rfl, Nat.le_refl _, fun _ _ _ => rfl⟩
theorem Upd.trans {F G : Nat → Prop} {a b c : World} (h : Upd F a b) (k : Upd G b c) (hs : ∀ i, i < a.heap.size → G i → F i) : Upd F a c :=
  ⟨k.os.trans h.os, k.tape.trans h.tape, k.output.trans h.output, Nat.le_trans h.size k.size, fun i hi hF =>
    (k.block i (Nat.lt_of_lt_of_le hi h.size) (fun hg => hF (hs i hi hg))).trans (h.block i hi hF)⟩
theorem Upd.weaken {F G : Nat → Prop} {w w' : World} (h : Upd G w w') (hs : ∀ i, i < w.heap.size → G i → F i) : Upd F w w' :=
  ⟨h.os, h.tape, h.output, h.size, fun k hk hF => h.block k hk fun hg => hF (hs k hk hg)⟩
theorem Upd.set {F : Nat → Prop} {a w : World} (h : Upd F a w) {b o : Nat} {v : Value} (hp : b < a.heap.size → F b) : Upd F a (w.setCell ⟨b, o, none⟩ v) :=
  ⟨h.os, h.tape, h.output, by simpa [World.setCell] using h.size, fun k hk hF => by
    have : k ≠ b := fun e => hF (e ▸ hp (e ▸ hk))
    rw [Below.heap_setCell _ _ _ _ this]; exact h.block k hk hF⟩
theorem Upd.alloc {F : Nat → Prop} {a w : World} (h : Upd F a w) (o : Obj) : Upd F a (w.alloc o) :=
  ⟨h.os, h.tape, h.output, by simpa using Nat.le_succ_of_le h.size, fun k hk hF => by
    rw [Below.heap_alloc _ _ _ (Nat.lt_of_lt_of_le hk h.size)]; exact h.block k hk hF⟩
theorem Upd.drewN {F : Nat → Prop} {a w : World} (h : Upd F a w) (n : Nat) : Upd F a (w.drewN n) := ⟨h.os, h.tape, h.output, h.size, h.block⟩
theorem Upd.drew {F : Nat → Prop} {a w : World} (h : Upd F a w) : Upd F a w.drew := ⟨h.os, h.tape, h.output, h.size, h.block⟩
theorem Upd.blk {F : Nat → Prop} {w w' : World} (h : Upd F w w') {b : Nat} {cs : List Value} {T : TypeId} (hb : Blk w b cs T) (hF : ¬ F b) : Blk w' b cs T := by
  have := hb.lt
  unfold Blk at *; rw [h.block b this hF]; exact hb
theorem Upd.below {F : Nat → Prop} {w w' : World} (h : Upd F w w') {B : Nat} (hB : B ≤ w.heap.size) (hF : ∀ i, F i → B ≤ i) : Below B w w' :=
  ⟨h.os, h.tape, h.output, h.size, fun k hk => h.block k (by omega) fun hf => by have := hF k hf; omega⟩
theorem Upd.of_below {w w' : World} {B : Nat} (h : Below B w w') : Upd (fun k => B ≤ k) w w' :=
  ⟨h.os, h.tape, h.output, h.size, fun k _ hF => h.block k (by omega)⟩
theorem Upd.cell {F : Nat → Prop} {w w' : World} (h : Upd F w w') {p : Addr} (hl : p.block < w.heap.size) (hF : ¬ F p.block) : w'.cell? p = w.cell? p :=
  World.cell?_of_block (w := w) (h.block p.block hl hF)
theorem Upd.frozen {F : Nat → Prop} {w w' : World} (h : Upd F w w') {p : Addr} (hl : p.block < w.heap.size) (hF : ¬ F p.block) : w'.frozen? p = w.frozen? p :=
  World.frozen?_of_block (w := w) (h.block p.block hl hF)

/-- Cells of a list of things, k cells each. -/
def flat {α : Type} (f : α → List Value) (l : List α) : List Value := l.flatMap f
theorem flat_length {α : Type} (f : α → List Value) (k : Nat) (hf : ∀ a, (f a).length = k) (l : List α) : (flat f l).length = l.length * k := by
  unfold flat
  induction l with
  | nil => simp
  | cons a l ih => simp only [List.flatMap_cons, List.length_append, hf, ih, List.length_cons]; rw [Nat.add_mul]; omega
theorem flat_get {α : Type} (f : α → List Value) (k : Nat) (hf : ∀ a, (f a).length = k) (l : List α) (i j : Nat) (hj : j < k) :
    (flat f l)[i * k + j]? = (l[i]?).bind fun a => (f a)[j]? := by
  unfold flat
  induction l generalizing i with
  | nil => simp
  | cons a l ih =>
    rw [List.flatMap_cons]
    cases i with
    | zero => simp only [Nat.zero_mul, Nat.zero_add, List.getElem?_cons_zero, Option.bind_some]; rw [List.getElem?_append_left (by rw [hf]; exact hj)]
    | succ i =>
      rw [List.getElem?_append_right (by rw [hf, Nat.add_mul]; omega), hf]
      have : (i + 1) * k + j - k = i * k + j := by rw [Nat.add_mul]; omega
      rw [this, ih]; simp
theorem flat_set {α : Type} (f : α → List Value) (k : Nat) (hf : ∀ a, (f a).length = k) (l : List α) (i j : Nat) (hj : j < k) (a b : α) (v : Value)
    (ha : l[i]? = some a) (hb : f b = (f a).set j v) : (flat f l).set (i * k + j) v = flat f (l.set i b) := by
  unfold flat
  induction l generalizing i with
  | nil => simp at ha
  | cons c l ih =>
    cases i with
    | zero =>
      simp only [List.getElem?_cons_zero, Option.some.injEq] at ha; subst ha
      simp only [Nat.zero_mul, Nat.zero_add, List.flatMap_cons, List.set_cons_zero]
      rw [List.set_append_left _ _ (by rw [hf]; exact hj), hb]
    | succ i =>
      simp only [List.getElem?_cons_succ] at ha
      simp only [List.flatMap_cons, List.set_cons_succ]
      rw [List.set_append_right _ _ (by rw [hf, Nat.add_mul]; omega), hf]
      have : (i + 1) * k + j - k = i * k + j := by rw [Nat.add_mul]; omega
      rw [this, ih i ha]

theorem Upd.of_grown {w w' : World} {row : Option Nat} (h : w.grownBy w' row) : Upd (fun k => some k = row) w w' :=
  ⟨h.os, h.tape, h.output, h.size, fun k hk hF => h.block k hk hF⟩
theorem own_keep {F : Nat → Prop} {w w' : World} {base : Nat} {e : TypeId} {size n : Nat} {v : Value} {xs : List Value} (h : w.ownsRow base e size v n xs) (u : Upd F w w') (hd : ∀ k, v.ownBlock = some k → ¬ F k) : w'.ownsRow base e size v n xs := by
  obtain ⟨h1, h2⟩ := h
  refine ⟨h1, ?_⟩
  rcases h2 with h2 | ⟨g, cap, cur, hv, hg, hh, r⟩
  · exact Or.inl h2
  · have hl : g < w.heap.size := by
      by_cases hb : g < w.heap.size
      · exact hb
      · simp [Array.getElem?_eq_none (by omega : w.heap.size ≤ g)] at hh
    exact Or.inr ⟨g, cap, cur, hv, hg, by rw [u.block g hl (hd g (by rw [hv]; rfl))]; exact hh, r⟩

theorem ret_int {k : IntKind} {a b : Int} (h : a = b) : Ending.returned (.int k a) = .returned (.int k b) := by rw [h]
theorem ret_bool {a b : Bool} (h : a = b) : Ending.returned (.bool a) = .returned (.bool b) := by rw [h]
theorem ret_ib {k : IntKind} {a : Int} {b : Bool} {x : Int × Bool} (h : (a, b) = x) : Ending.returned (.tuple #[.int k a, .bool b]) = .returned (.tuple #[.int k x.1, .bool x.2]) := by subst h; rfl
theorem toList_eq {a b : ByteArray} (h : (a.toList == b.toList) = true) : a = b := by
  have h' : a.toList = b.toList := by simpa using h
  rw [ByteArray.toList_eq, ByteArray.toList_eq] at h'
  cases a; cases b; simpa [Array.toList_inj] using h'
theorem toList_ne {a b : ByteArray} (h : (a.toList == b.toList) = false) : ¬ a = b := by
  rintro rfl; simp at h
theorem wrap_u64 (n : Int) : IntKind.u64.wrap n = n % 18446744073709551616 := by
  unfold IntKind.wrap; simp [IntKind.bits, IntKind.signed]
end Go.Proofs.YtkemjjhmabemiaaDoor
