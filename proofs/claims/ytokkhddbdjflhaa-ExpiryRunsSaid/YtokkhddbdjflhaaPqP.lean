/- A heap in a row: plain. -/
import Derived.RowKit
set_option linter.unusedVariables false
set_option linter.unusedSimpArgs false
set_option linter.unusedSectionVars false
namespace Go.Proofs.Ytokkhddbdjflhaa

namespace Pq
variable {β : Type} (le : β → β → Prop)
/-- Two change places. -/
def sw (e : Nat → β) (i j : Nat) : Nat → β := fun k => if k = i then e j else if k = j then e i else e k
/-- Each one of the first n is not ahead of the one above it. -/
def Heap (e : Nat → β) (n : Nat) : Prop := ∀ k, 0 < k → k < n → le (e ((k - 1) / 2)) (e k)
/-- But for place j, from which one goes up. -/
def UpOk (e : Nat → β) (n j : Nat) : Prop := (∀ k, 0 < k → k < n → k ≠ j → le (e ((k - 1) / 2)) (e k)) ∧ (∀ k, 0 < j → 0 < k → k < n → (k - 1) / 2 = j → le (e ((j - 1) / 2)) (e k))
/-- But for place i, from which one goes down; it came from i0. -/
def DownOk (e : Nat → β) (n i0 i : Nat) : Prop := i0 ≤ i ∧ (∀ k, 0 < k → k < n → (k - 1) / 2 ≠ i → ¬ (k = i ∧ i = i0) → le (e ((k - 1) / 2)) (e k)) ∧ (∀ k, 0 < i → 0 < k → k < n → (k - 1) / 2 = i → le (e ((i - 1) / 2)) (e k))
variable {le} (tr : ∀ a b c, le a b → le b c → le a c)
variable {e : Nat → β} {n i j i0 : Nat}
theorem UpOk.done0 (h : UpOk le e n 0) : Heap le e n := fun k h0 hn => h.1 k h0 hn (by omega)
theorem UpOk.done (h : UpOk le e n j) (hl : le (e ((j - 1) / 2)) (e j)) : Heap le e n := fun k h0 hn => by
  by_cases hk : k = j
  · rw [hk]; exact hl
  · exact h.1 k h0 hn hk
include tr in
theorem UpOk.step (h : UpOk le e n j) (h0 : 0 < j) (hn : j < n) (hl : le (e j) (e ((j - 1) / 2))) : UpOk le (sw e ((j - 1) / 2) j) n ((j - 1) / 2) := by
  obtain ⟨h1, h2⟩ := h
  generalize hi : (j - 1) / 2 = i at *
  refine ⟨fun k k0 kn ki => ?_, fun k i1 k0 kn ki => ?_⟩
  · unfold sw
    have hik : ¬ k = i := ki
    by_cases kj : k = j
    · subst kj; rw [hi, if_pos rfl, if_neg hik, if_pos rfl]; exact hl
    · rw [if_neg hik, if_neg kj]
      by_cases pj : (k - 1) / 2 = j
      · have : ¬ j = i := by omega
        rw [pj, if_neg this, if_pos rfl]; exact h2 k h0 k0 kn pj
      · by_cases pi : (k - 1) / 2 = i
        · rw [pi, if_pos rfl]
          have := h1 k k0 kn kj
          rw [pi] at this; exact tr _ _ _ hl this
        · rw [if_neg pi, if_neg pj]; exact h1 k k0 kn kj
  · unfold sw
    have g1 : ¬ (i - 1) / 2 = i := by omega
    have g2 : ¬ (i - 1) / 2 = j := by omega
    have hki : ¬ k = i := by omega
    have he := h1 i i1 (by omega) (by omega)
    rw [if_neg g1, if_neg g2, if_neg hki]
    by_cases kj : k = j
    · rw [if_pos kj]; exact he
    · rw [if_neg kj]
      have := h1 k k0 kn kj
      rw [ki] at this; exact tr _ _ _ he this
theorem DownOk.up (h : DownOk le e n i0 i0) (hc : ∀ k, 0 < k → k < n → (k - 1) / 2 = i0 → le (e i0) (e k)) : UpOk le e n i0 := by
  obtain ⟨_, h1, h2⟩ := h
  refine ⟨fun k k0 kn ki => ?_, h2⟩
  by_cases p : (k - 1) / 2 = i0
  · rw [p]; exact hc k k0 kn p
  · exact h1 k k0 kn p (fun h => ki h.1)
theorem DownOk.heap (h : DownOk le e n i0 i) (hi : i ≠ i0) (hc : ∀ k, 0 < k → k < n → (k - 1) / 2 = i → le (e i) (e k)) : Heap le e n := fun k k0 kn => by
  obtain ⟨_, h1, h2⟩ := h
  by_cases p : (k - 1) / 2 = i
  · rw [p]; exact hc k k0 kn p
  · exact h1 k k0 kn p (fun h => hi h.2)
theorem DownOk.heap0 (h : DownOk le e n 0 i) (hc : ∀ k, 0 < k → k < n → (k - 1) / 2 = i → le (e i) (e k)) : Heap le e n := fun k k0 kn => by
  obtain ⟨_, h1, h2⟩ := h
  by_cases p : (k - 1) / 2 = i
  · rw [p]; exact hc k k0 kn p
  · exact h1 k k0 kn p (fun h => by omega)
include tr in
theorem DownOk.step (h : DownOk le e n i0 i) (hj : (j - 1) / 2 = i) (j0 : 0 < j) (hn : j < n) (hl : le (e j) (e i)) (hm : ∀ k, 0 < k → k < n → (k - 1) / 2 = i → le (e j) (e k)) : DownOk le (sw e i j) n i0 j := by
  obtain ⟨h0, h1, h2⟩ := h
  refine ⟨by omega, fun k k0 kn kj kn2 => ?_, fun k i1 k0 kn ki => ?_⟩
  · unfold sw
    rw [if_neg kj]
    by_cases pi : (k - 1) / 2 = i
    · rw [if_pos pi]
      have hki : ¬ k = i := by omega
      rw [if_neg hki]
      by_cases e2 : k = j
      · rw [if_pos e2]; exact hl
      · rw [if_neg e2]; exact hm k k0 kn pi
    · rw [if_neg pi]
      by_cases e1 : k = i
      · rw [if_pos e1, e1]; exact h2 j (by omega) j0 hn hj
      · have e2 : ¬ k = j := fun e2 => pi (e2 ▸ hj)
        rw [if_neg e1, if_neg e2]
        exact h1 k k0 kn pi (fun h => e1 h.1)
  · unfold sw
    have e1 : ¬ k = i := by omega
    have e2 : ¬ k = j := by omega
    rw [hj, if_pos rfl, if_neg e1, if_neg e2]
    have := h1 k k0 kn (by omega) (by omega)
    rw [ki] at this; exact this
/-- The first one is ahead of all. -/
theorem Heap.first (rf : ∀ a, le a a) (tr : ∀ a b c, le a b → le b c → le a c) (h : Heap le e n) : ∀ k, k < n → le (e 0) (e k)
  | 0, _ => rf _
  | k + 1, hk => tr _ _ _ (Heap.first rf tr h (k / 2) (by omega)) (by have := h (k + 1) (by omega) hk; simpa using this)
theorem Heap.less {m : Nat} (h : Heap le e n) (hm : m ≤ n) : Heap le e m := fun k k0 kn => h k k0 (by omega)
/-- The last one has come. -/
theorem Heap.push (h : Heap le e n) : UpOk le e (n + 1) n := ⟨fun k k0 kn kj => h k k0 (by omega), fun k _ _ _ _ => by omega⟩
/-- One was turned into another one. -/
theorem Heap.turn (tr : ∀ a b c, le a b → le b c → le a c) (h : Heap le e n) (i : Nat) {e' : Nat → β} (he : ∀ k, k < n → k ≠ i → e' k = e k) : DownOk le e' n i i := by
  refine ⟨Nat.le_refl _, fun k k0 kn kp hk => ?_, fun k i1 k0 kn ki => ?_⟩
  · rw [he _ (by omega) kp, he k kn (fun h => hk ⟨h, rfl⟩)]; exact h k k0 kn
  · have a := h i i1 (by omega)
    have b := h k k0 kn
    rw [ki] at b
    rw [he k kn (by omega), he _ (by omega) (by omega)]; exact tr _ _ _ a b
theorem Heap.congr {e' : Nat → β} (h : Heap le e n) (he : ∀ k, k < n → e' k = e k) : Heap le e' n := fun k k0 kn => by
  rw [he k kn, he _ (by omega)]; exact h k k0 kn
end Pq

/-- Two of a list change places. -/
def swp {α : Type} (l : List α) (i j : Nat) : List α := match l[i]?, l[j]? with
  | some a, some b => (l.set i b).set j a
  | _, _ => l
theorem swp_len {α : Type} (l : List α) (i j : Nat) : (swp l i j).length = l.length := by unfold swp; split <;> simp
theorem swp_eq {α : Type} {l : List α} {i j : Nat} (hi : i < l.length) (hj : j < l.length) : swp l i j = (l.set i l[j]).set j l[i] := by
  unfold swp; rw [List.getElem?_eq_getElem hi, List.getElem?_eq_getElem hj]
theorem swp_get {α : Type} {l : List α} {i j : Nat} (hi : i < l.length) (hj : j < l.length) (k : Nat) : (swp l i j)[k]? = if k = i then l[j]? else if k = j then l[i]? else l[k]? := by
  rw [swp_eq hi hj, List.getElem?_set, List.getElem?_set]
  grind
theorem swp_perm {α : Type} [BEq α] [LawfulBEq α] (l : List α) (i j : Nat) : (swp l i j).Perm l := by
  by_cases hi : i < l.length
  · by_cases hj : j < l.length
    · rw [swp_eq hi hj]
      rw [List.perm_iff_count]
      intro a
      rw [List.count_set (by simpa using hj), List.count_set hi, List.getElem_set]
      have h1 : l[i] ∈ l := List.getElem_mem hi
      have h2 : l[j] ∈ l := List.getElem_mem hj
      have c1 : 0 < l.count l[i] := List.count_pos_iff.2 h1
      have c2 : 0 < l.count l[j] := List.count_pos_iff.2 h2
      by_cases e1 : l[i] = a <;> by_cases e2 : l[j] = a <;> by_cases e3 : i = j <;> grind
    · have : l[j]? = none := List.getElem?_eq_none (by omega)
      unfold swp; rw [this]; split <;> first | exact List.Perm.refl _ | simp_all
  · have : l[i]? = none := List.getElem?_eq_none (by omega)
    unfold swp; rw [this]
end Go.Proofs.Ytokkhddbdjflhaa
