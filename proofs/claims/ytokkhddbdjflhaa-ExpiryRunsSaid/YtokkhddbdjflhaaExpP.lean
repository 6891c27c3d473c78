/- Dues in order, plain: by their time, then by their key. -/
import Derived.Test.YtokkhddbdjflhaaPqP
import Derived.Test.YtokkhddbdjflhaaMap
import Derived.Sort.LotA
set_option linter.unusedVariables false
set_option linter.unusedSimpArgs false
namespace Go.Proofs.Ytokkhddbdjflhaa
open Go.RowKit

theorem bytesLess_lt (a b : List UInt8) : Op.bytesLess a b = decide (a < b) := by
  induction a generalizing b with
  | nil =>
    cases b with
    | nil => simp [Op.bytesLess]
    | cons y b => simp [Op.bytesLess]
  | cons x a ih =>
    cases b with
    | nil => simp [Op.bytesLess]
    | cons y b =>
      rw [Op.bytesLess, ih, Bool.eq_iff_iff]
      simp [List.cons_lt_cons_iff]
theorem bytes_ext {a b : ByteArray} (h : a.toList = b.toList) : a = b := by
  rw [ByteArray.toList_eq, ByteArray.toList_eq] at h
  cases a; cases b; simpa [Array.toList_inj] using h

def cmpV (l g : Bool) : Int := if l then -1 else if g then 1 else 0
def cmpS (a b : ByteArray) : Int := if Op.bytesLess a.toList b.toList then -1 else if a.toList == b.toList then 0 else 1
def orI (x y : Int) : Int := if x == 0 then y else x
/-- Which one is ahead, as the program says it. -/
def ordV (w1 : Int) (k1 : ByteArray) (w2 : Int) (k2 : ByteArray) : Int := orI (cmpV (decide (w1 < w2)) (decide (w2 < w1))) (cmpS k1 k2)

abbrev DueP := Int × ByteArray
/-- Is one ahead of another one? -/
def ltD (a b : DueP) : Prop := a.1 < b.1 ∨ a.1 = b.1 ∧ a.2.toList < b.2.toList
instance (a b : DueP) : Decidable (ltD a b) := by unfold ltD; infer_instance
theorem ltD_irrefl (a : DueP) : ¬ ltD a a := by
  rintro (h | ⟨_, h⟩)
  · omega
  · exact List.lt_irrefl _ h
theorem ltD_trans {a b c : DueP} (h : ltD a b) (k : ltD b c) : ltD a c := by
  rcases h with h | ⟨h1, h2⟩ <;> rcases k with k | ⟨k1, k2⟩
  · exact Or.inl (by omega)
  · exact Or.inl (by omega)
  · exact Or.inl (by omega)
  · exact Or.inr ⟨by omega, List.lt_trans h2 k2⟩
theorem ltD_total (a b : DueP) : ltD a b ∨ a = b ∨ ltD b a := by
  by_cases h : a.1 < b.1
  · exact Or.inl (Or.inl h)
  · by_cases k : b.1 < a.1
    · exact Or.inr (Or.inr (Or.inl k))
    · have e : a.1 = b.1 := by omega
      by_cases h2 : a.2.toList < b.2.toList
      · exact Or.inl (Or.inr ⟨e, h2⟩)
      · by_cases k2 : b.2.toList < a.2.toList
        · exact Or.inr (Or.inr (Or.inr ⟨e.symm, k2⟩))
        · exact Or.inr (Or.inl (Prod.ext e (bytes_ext (List.le_antisymm (List.not_lt.1 k2) (List.not_lt.1 h2)))))
theorem ltD_asymm {a b : DueP} (h : ltD a b) : ¬ ltD b a := fun k => ltD_irrefl a (ltD_trans h k)
/-- Not behind. -/
def leD (a b : DueP) : Prop := ¬ ltD b a
theorem leD_refl (a : DueP) : leD a a := ltD_irrefl a
theorem leD_trans (a b c : DueP) (h : leD a b) (k : leD b c) : leD a c := fun g => by
  rcases ltD_total a b with x | x | x
  · rcases ltD_total b c with y | y | y
    · exact ltD_asymm (ltD_trans x y) g
    · subst y; exact ltD_asymm x g
    · exact k y
  · subst x; exact k g
  · exact h x
theorem leD_of (a b : DueP) (h : ¬ ltD a b) : leD b a := h
theorem leD_lt {a b : DueP} (h : ltD a b) : leD a b := ltD_asymm h
theorem ord_neg (w1 : Int) (k1 : ByteArray) (w2 : Int) (k2 : ByteArray) : decide (ordV w1 k1 w2 k2 < 0) = decide (ltD (w1, k1) (w2, k2)) := by
  rw [Bool.eq_iff_iff, decide_eq_true_eq, decide_eq_true_eq]
  unfold ordV orI cmpV cmpS ltD
  rw [bytesLess_lt]
  simp only
  by_cases h : w1 < w2
  · simp [h]
  · by_cases k : w2 < w1
    · have : ¬ w1 = w2 := by omega
      simp [h, k, this]
    · have e : w1 = w2 := by omega
      subst e
      by_cases g : k1.toList < k2.toList
      · simp [g]
      · by_cases g2 : k1.toList = k2.toList
        · simp [g2, List.lt_irrefl]
        · simp [g, g2]

/-- In order, each once. -/
abbrev Rise (l : List DueP) : Prop := l.Pairwise ltD
theorem rise_eq {l m : List DueP} (hl : Rise l) (hm : Rise m) (h : l.Perm m) : l = m := by
  refine List.Perm.eq_of_pairwise (fun a b _ _ h1 h2 => absurd h2 (ltD_asymm h1)) hl hm h
theorem Rise.nodup {l : List DueP} (h : Rise l) : l.Nodup := h.imp fun hab e => by subst e; exact ltD_irrefl _ hab
/-- One more, in its place. -/
def insD (x : DueP) : List DueP → List DueP
  | [] => [x]
  | d :: r => if ltD x d then x :: d :: r else d :: insD x r
theorem insD_perm (x : DueP) (l : List DueP) : (insD x l).Perm (x :: l) := by
  induction l with
  | nil => exact List.Perm.refl _
  | cons d r ih =>
    unfold insD; split
    · exact List.Perm.refl _
    · exact (ih.cons d).trans (List.Perm.swap x d r)
theorem insD_rise {x : DueP} {l : List DueP} (h : Rise l) (hx : x ∉ l) : Rise (insD x l) := by
  induction l with
  | nil => exact List.pairwise_singleton _ _
  | cons d r ih =>
    obtain ⟨h1, h2⟩ := List.pairwise_cons.1 h
    unfold insD; split
    · next hd => exact List.pairwise_cons.2 ⟨fun y hy => by
        rcases List.mem_cons.1 hy with rfl | hy
        · exact hd
        · exact ltD_trans hd (h1 y hy), h⟩
    · next hd =>
      refine List.pairwise_cons.2 ⟨fun y hy => ?_, ih h2 (fun hm => hx (by simp [hm]))⟩
      rcases List.mem_cons.1 ((insD_perm x r).mem_iff.1 hy) with rfl | hy
      · rcases ltD_total y d with g | g | g
        · exact absurd g hd
        · exact absurd (by simp [g]) hx
        · exact g
      · exact h1 y hy
/-- Without a key's. -/
def dropD (k : ByteArray) (l : List DueP) : List DueP := l.filter fun d => decide (d.2 ≠ k)
/-- With a key's. -/
def putD (k : ByteArray) (t : Int) (l : List DueP) : List DueP := insD (t, k) (dropD k l)
theorem dropD_rise {l : List DueP} (h : Rise l) (k : ByteArray) : Rise (dropD k l) := h.filter _
theorem dropD_mem {l : List DueP} {k : ByteArray} {d : DueP} : d ∈ dropD k l ↔ d ∈ l ∧ d.2 ≠ k := by unfold dropD; simp
theorem putD_rise {l : List DueP} (h : Rise l) (k : ByteArray) (t : Int) : Rise (putD k t l) := insD_rise (dropD_rise h k) (fun hm => (dropD_mem.1 hm).2 rfl)
theorem putD_perm (l : List DueP) (k : ByteArray) (t : Int) : (putD k t l).Perm ((t, k) :: dropD k l) := insD_perm _ _
theorem dropD_none {l : List DueP} {k : ByteArray} (h : k ∉ l.map (·.2)) : dropD k l = l := by
  unfold dropD; rw [List.filter_eq_self]; intro d hd; simp only [decide_eq_true_eq]; exact fun e => h (List.mem_map.2 ⟨d, hd, e⟩)
/-- When a key ends. -/
def getD11 (k : ByteArray) (l : List DueP) : Option Int := (l.find? fun d => decide (d.2 = k)).map (·.1)
/-- Those that have ended. -/
def dueD (now : Int) (l : List DueP) : List DueP := l.takeWhile fun d => decide (d.1 ≤ now)
theorem dueD_filter {l : List DueP} (h : Rise l) (now : Int) : l.filter (fun d => decide (d.1 ≤ now)) = dueD now l := by
  unfold dueD
  induction l with
  | nil => rfl
  | cons d r ih =>
    obtain ⟨h1, h2⟩ := List.pairwise_cons.1 h
    by_cases g : d.1 ≤ now
    · simp [g, ih h2]
    · have : r.filter (fun d => decide (d.1 ≤ now)) = [] := by
        rw [List.filter_eq_nil_iff]; intro x hx; have := h1 x hx; rcases this with a | ⟨a, _⟩ <;> simp <;> omega
      simp [g, this]
/-- So many have ended, and no more are asked for. -/
theorem due_end {l : List DueP} {now most : Int} {k : Nat} (hk : (k : Int) ≤ most ∨ k = 0) (hall : ∀ d ∈ l.take k, d.1 ≤ now) (hend : ¬ (k : Int) < most ∨ l.drop k = [] ∨ ∃ d, (l.drop k).head? = some d ∧ now < d.1) : (dueD now l).take most.toNat = l.take k := by
  unfold dueD
  have e1 : l.takeWhile (fun d => decide (d.1 ≤ now)) = l.take k ++ (l.drop k).takeWhile (fun d => decide (d.1 ≤ now)) := by
    conv => lhs; rw [← List.take_append_drop k l]
    rw [List.takeWhile_append_of_pos (fun d hd => by simpa using hall d hd)]
  have hlen : (l.take k).length ≤ k := List.length_take_le _ _
  rw [e1]
  rcases hend with h | h | ⟨d, h, hd⟩
  · have : most.toNat ≤ k := by omega
    by_cases hkl : k ≤ l.length
    · rcases hk with hk | hk
      · have : most.toNat = k := by omega
        rw [this, List.take_left' (by simp; omega)]
      · subst hk
        have : most.toNat = 0 := by omega
        rw [this]; rfl
    · have hdr : l.drop k = [] := List.drop_eq_nil_of_le (by omega)
      rw [hdr, List.takeWhile_nil, List.append_nil, List.take_of_length_le]
      rcases hk with hk | hk
      · omega
      · omega
  · rw [h, List.takeWhile_nil, List.append_nil, List.take_of_length_le]
    rcases hk with hk | hk <;> omega
  · have : (l.drop k).takeWhile (fun d => decide (d.1 ≤ now)) = [] := by
      cases hl : l.drop k with
      | nil => rfl
      | cons x r => rw [hl] at h; cases h; rw [List.takeWhile_cons_of_neg (by simp; omega)]
    rw [this, List.append_nil, List.take_of_length_le]
    rcases hk with hk | hk <;> omega
end Go.Proofs.Ytokkhddbdjflhaa
