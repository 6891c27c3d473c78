/- Times that are set in whichever order, plain. -/
import Derived.Test.YtokkhddbdjflhaaExpP
set_option linter.unusedVariables false
set_option linter.unusedSimpArgs false
namespace Go.Proofs.Ytokkhddbdjflhaa
open Go.RowKit

theorem snocRec {α : Type} {P : List α → Prop} (h0 : P []) (h1 : ∀ l x, P l → P (l ++ [x])) (l : List α) : P l := by
  rw [← List.reverse_reverse l]
  induction l.reverse with
  | nil => exact h0
  | cons x r ih => rw [List.reverse_cons]; exact h1 _ _ ih
def vld (t : Int) : Prop := 0 ≤ t ∧ t ≤ 4611686018427387904
instance (t : Int) : Decidable (vld t) := by unfold vld; infer_instance
/-- A time is set; one that cannot be changes nothing. -/
def putV (l : List DueP) (d : DueP) : List DueP := if vld d.1 then putD d.2 d.1 l else l
def putsV (ds : List DueP) : List DueP := ds.foldl putV []
theorem putsV_snoc (ds : List DueP) (d : DueP) : putsV (ds ++ [d]) = putV (putsV ds) d := by unfold putsV; rw [List.foldl_append]; rfl
theorem putV_rise {l : List DueP} (h : Rise l) (d : DueP) : Rise (putV l d) := by
  unfold putV; split
  · exact putD_rise h _ _
  · exact h
theorem putsV_rise (ds : List DueP) : Rise (putsV ds) := by
  unfold putsV
  suffices h : ∀ l, Rise l → Rise (ds.foldl putV l) from h [] List.Pairwise.nil
  induction ds with
  | nil => intro l h; exact h
  | cons d r ih => intro l h; exact ih _ (putV_rise h d)
abbrev Apart (ds : List DueP) : Prop := ds.Pairwise fun a b => a.2 ≠ b.2
theorem putsV_mem : ∀ (ds : List DueP), Apart ds → ∀ d, d ∈ putsV ds ↔ d ∈ ds ∧ vld d.1 := by
  intro ds
  induction ds using snocRec with
  | h0 => intro _ d; simp [putsV]
  | h1 ds x ih =>
    intro hp d
    obtain ⟨h1, _, h3⟩ := List.pairwise_append.1 hp
    rw [putsV_snoc]
    unfold putV
    by_cases hv : vld x.1
    · rw [if_pos hv, (putD_perm _ _ _).mem_iff, List.mem_cons, dropD_mem, ih h1]
      constructor
      · rintro (e | ⟨⟨h4, h5⟩, _⟩)
        · subst e; exact ⟨by simp, hv⟩
        · exact ⟨by simp [h4], h5⟩
      · rintro ⟨h4, h5⟩
        rcases List.mem_append.1 h4 with h4 | h4
        · exact Or.inr ⟨⟨h4, h5⟩, h3 d h4 x (by simp)⟩
        · simp at h4; exact Or.inl h4
    · rw [if_neg hv, ih h1]
      constructor
      · rintro ⟨h4, h5⟩; exact ⟨by simp [h4], h5⟩
      · rintro ⟨h4, h5⟩
        rcases List.mem_append.1 h4 with h4 | h4
        · exact ⟨h4, h5⟩
        · simp at h4; subst h4; exact absurd h5 hv
/-- In whichever order: the same. -/
theorem putsV_rev {ds : List DueP} (h : Apart ds) : putsV ds.reverse = putsV ds := by
  have hr : Apart ds.reverse := by
    unfold Apart; rw [List.pairwise_reverse]; exact h.imp fun h => Ne.symm h
  refine rise_eq (putsV_rise _) (putsV_rise _) ((List.perm_ext_iff_of_nodup (putsV_rise _).nodup (putsV_rise _).nodup).2 fun d => ?_)
  rw [putsV_mem _ hr, putsV_mem _ h, List.mem_reverse]
theorem putV_len (l : List DueP) (d : DueP) : (putV l d).length ≤ l.length + 1 := by
  unfold putV; split
  · have := (putD_perm l d.2 d.1).length_eq
    have h2 : (dropD d.2 l).length ≤ l.length := List.length_filter_le _ _
    simp only [List.length_cons] at this; omega
  · omega
theorem putsV_len (ds : List DueP) : (putsV ds).length ≤ ds.length := by
  induction ds using snocRec with
  | h0 => simp [putsV]
  | h1 ds x ih => rw [putsV_snoc]; have := putV_len (putsV ds) x; simp; omega
theorem putsV_size {ds : List DueP} (h : ∀ d ∈ ds, d.2.size ≤ maxLen) : ∀ d ∈ putsV ds, d.2.size ≤ maxLen := by
  induction ds using snocRec with
  | h0 => intro d hd; simp [putsV] at hd
  | h1 ds x ih =>
    intro d hd
    rw [putsV_snoc] at hd
    unfold putV at hd
    split at hd
    · rcases List.mem_cons.1 ((putD_perm _ _ _).mem_iff.1 hd) with e | e
      · rw [e]; exact h x (by simp)
      · exact ih (fun d hd => h d (by simp [hd])) d (dropD_mem.1 e).1
    · exact ih (fun d hd => h d (by simp [hd])) d hd
/-- What has ended has ended later, too. -/
theorem dueD_prefix (l : List DueP) {a b : Int} (h : a ≤ b) : dueD a l = (dueD b l).take (dueD a l).length ∧ (dueD a l).length ≤ (dueD b l).length := by
  unfold dueD
  induction l with
  | nil => simp
  | cons d r ih =>
    by_cases g : d.1 ≤ a
    · have g2 : d.1 ≤ b := by omega
      simp only [List.takeWhile_cons, g, g2, decide_true, if_true, List.length_cons, List.take_succ_cons]
      exact ⟨by rw [← ih.1], by omega⟩
    · simp [g]
theorem dueD_len (l : List DueP) (a : Int) : (dueD a l).length ≤ l.length := by
  unfold dueD
  exact (List.takeWhile_prefix _).length_le
end Go.Proofs.Ytokkhddbdjflhaa
