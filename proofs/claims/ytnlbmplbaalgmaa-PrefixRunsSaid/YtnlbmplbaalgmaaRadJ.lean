/- Keys that share their beginnings, plain: the way of Put. -/
import Derived.Test.YtnlbmplbaalgmaaRadI
set_option linter.unusedVariables false
set_option linter.unusedSimpArgs false
namespace Go.Proofs.Ytnlbmplbaalgmaa

def needN (G : Nat → Nd) (b : Nat) : Prop := (G b).there = true ∨ 2 ≤ (G b).kids.length
/-- Put stands at x, and rest is still to be gone. -/
structure PutAt (r : Nat) (bs : List Nat) (G : Nat → Nd) (T : Nat → Txt) (L : List MarkP) (key : Txt) (x : Nat) (rest : Txt) : Prop where
  flat : Flat r bs G T
  marks : Marks bs G T L
  xm : x ∈ bs
  eqn : T x ++ rest = key
  need : ∀ b ∈ bs, b ≠ r → b ≠ x → needN G b
  ok : x = r ∨ needN G x ∨ rest = [] ∨ ∃ z, (G x).kids = [z] ∧ hdN G z ≠ rest.headD 0
section
variable {r : Nat} {bs : List Nat} {G : Nat → Nd} {T : Nat → Txt} {L : List MarkP} {key rest r1 : Txt} {x y d : Nat} {c : UInt8} {K1 K2 : List Nat}
theorem PutAt.begin (h : Flat r bs G T) (hm : Marks bs G T L) (hn : Need r bs G) (key : Txt) : PutAt r bs G T L key r key :=
  ⟨h, hm, h.root, by rw [h.troot]; rfl, fun b hb ne _ => hn b hb ne, Or.inl rfl⟩
theorem PutAt.need_x (h : PutAt r bs G T L key x rest) (hr : rest = c :: r1) (hy : y ∈ (G x).kids) (hc : hdN G y = c) : x = r ∨ needN G x := by
  rcases h.ok with e | e | e | ⟨z, e, ne⟩
  · exact Or.inl e
  · exact Or.inr e
  · rw [hr] at e; cases e
  · rw [e, List.mem_singleton] at hy
    subst hy; rw [hr] at ne; exact absurd hc ne
/-- On, to one below. -/
theorem PutAt.down (h : PutAt r bs G T L key x rest) (hr : rest = c :: r1) (hy : y ∈ (G x).kids) (hc : hdN G y = c) (hp : (G y).part <+: rest) : PutAt r bs G T L key y (rest.drop (G y).part.length) := by
  obtain ⟨m, n, e⟩ := h.flat.kid x h.xm y hy
  have yx : y ≠ x := by rintro rfl; exact absurd (h.flat.kid_len h.xm hy) (Nat.lt_irrefl _)
  have yr := h.flat.not_root h.xm hy
  refine ⟨h.flat, h.marks, m, ?_, fun b hb nr ny => ?_, Or.inr (Or.inl (h.need y m yr yx))⟩
  · obtain ⟨u, hu⟩ := hp
    rw [e, ← h.eqn, ← hu, List.append_assoc, List.drop_left]
  · by_cases bx : b = x
    · subst bx
      rcases h.need_x hr hy hc with e | e
      · exact absurd e nr
      · exact e
    · exact h.need b hb nr bx
/-- A new node. -/
theorem PutAt.leaf (h : PutAt r bs G T L key x rest) (hr : rest = c :: r1) (hd : d ∉ bs) (hk : (G x).kids = K1 ++ K2) (h1 : ∀ z ∈ K1, hdN G z < c) (h2 : ∀ z ∈ K2, c < hdN G z) :
    PutAt r (d :: bs) (leafG G x d rest K1 K2) (setT T d (T x ++ rest)) L key d [] := by
  have ne : ∀ z ∈ bs, z ≠ d := fun z hz e => hd (e ▸ hz)
  refine ⟨h.flat.leaf h.xm hd hk (by rw [hr]; simp) (by rw [hr]; exact h1) (by rw [hr]; exact h2), h.marks.leaf h.xm hd, List.mem_cons_self .., ?_, fun b hb nr nd => ?_, Or.inr (Or.inr (Or.inl rfl))⟩
  · unfold setT; rw [if_pos rfl, List.append_nil]; exact h.eqn
  · rcases List.mem_cons.1 hb with e | hb
    · exact absurd e nd
    · unfold needN leafG
      rw [if_neg nd]
      by_cases bx : b = x
      · rw [if_pos bx]
        subst bx
        rcases h.ok with e | e | e | ⟨z, e, _⟩
        · exact absurd e nr
        · rcases e with e | e
          · exact Or.inl e
          · right
            show 2 ≤ (K1 ++ d :: K2).length
            rw [hk, List.length_append] at e
            rw [List.length_append, List.length_cons]; omega
        · rw [hr] at e; cases e
        · right
          show 2 ≤ (K1 ++ d :: K2).length
          have := congrArg List.length e
          rw [hk, List.length_append] at this
          rw [List.length_append, List.length_cons]; simp at this; omega
      · rw [if_neg bx]; exact h.need b hb nr bx
theorem PutAt.split (h : PutAt r bs G T L key x rest) (hr : rest = c :: r1) (hd : d ∉ bs) (hk : (G x).kids = K1 ++ y :: K2) (hc : hdN G y = c) (hp : ¬ (G y).part <+: rest) :
    PutAt r (d :: bs) (partG G x d y (lcp (G y).part rest) ((G y).part.drop (lcp (G y).part rest).length) K1 K2) (setT T d (T x ++ lcp (G y).part rest)) L key d (rest.drop (lcp (G y).part rest).length) := by
  have hy : y ∈ (G x).kids := by rw [hk]; simp
  obtain ⟨m, n, e⟩ := h.flat.kid x h.xm y hy
  have yx : y ≠ x := by rintro rfl; exact absurd (h.flat.kid_len h.xm hy) (Nat.lt_irrefl _)
  have yr := h.flat.not_root h.xm hy
  have ne : ∀ z ∈ bs, z ≠ d := fun z hz e => hd (e ▸ hz)
  obtain ⟨u, hu⟩ := lcp_left (G y).part rest
  obtain ⟨v, hv⟩ := lcp_right (G y).part rest
  have hq : (G y).part = lcp (G y).part rest ++ (G y).part.drop (lcp (G y).part rest).length := by
    conv => lhs; rw [← hu]
    congr 1
    conv => rhs; rw [← hu]
    rw [hu, ← hu, List.drop_append]; simp [hu]
  have n1 : lcp (G y).part rest ≠ [] := by
    cases hg : (G y).part with
    | nil => exact absurd hg n
    | cons p0 p =>
      have : p0 = c := by unfold hdN at hc; rw [hg] at hc; exact hc
      rw [hr, this]; simp [lcp]
  have n2 : (G y).part.drop (lcp (G y).part rest).length ≠ [] := fun e0 => by
    rw [e0, List.append_nil] at hq
    exact hp (hq ▸ lcp_right _ _)
  have hdv : rest.drop (lcp (G y).part rest).length = v := by
    have : rest.drop (lcp (G y).part rest).length = (lcp (G y).part rest ++ v).drop (lcp (G y).part rest).length := by rw [hv]
    rw [this, List.drop_left]
  refine ⟨h.flat.split h.xm hd hk hq n1 n2, h.marks.split hd, List.mem_cons_self .., ?_, fun b hb nr nd => ?_, Or.inr (Or.inr ?_)⟩
  · unfold setT; rw [if_pos rfl, hdv, List.append_assoc, hv]; exact h.eqn
  · rcases List.mem_cons.1 hb with e | hb
    · exact absurd e nd
    · unfold needN partG
      rw [if_neg nd]
      by_cases bY : b = y
      · rw [if_pos bY]
        have := h.need y m yr yx
        exact this
      · rw [if_neg bY]
        by_cases bx : b = x
        · rw [if_pos bx]
          subst bx
          rcases h.need_x hr hy hc with e | e
          · exact absurd e nr
          · rcases e with e | e
            · exact Or.inl e
            · right
              show 2 ≤ (K1 ++ d :: K2).length
              rw [hk] at e
              simpa using e
        · rw [if_neg bx]; exact h.need b hb nr bx
  · by_cases hv0 : v = []
    · left; rw [hdv]; exact hv0
    · right
      refine ⟨y, by unfold partG; rw [if_pos rfl], ?_⟩
      rw [hdv]
      intro e0
      have hh : hdN (partG G x d y (lcp (G y).part rest) ((G y).part.drop (lcp (G y).part rest).length) K1 K2) y = ((G y).part.drop (lcp (G y).part rest).length).headD 0 := by
        unfold hdN partG; rw [if_neg (ne y m), if_pos rfl]
      rw [hh] at e0
      generalize hw : (G y).part.drop (lcp (G y).part rest).length = w at *
      have h3 : lcp (G y).part rest = lcp (G y).part rest ++ lcp w v := by
        conv => lhs; rw [hq, ← hv]
        rw [← lcp_append, hv]
      have h4 : lcp w v = [] := by
        have := congrArg List.length h3
        rw [List.length_append] at this
        exact List.length_eq_zero_iff.1 (by omega)
      cases w with
      | nil => exact n2 rfl
      | cons w0 w1 =>
        cases v with
        | nil => exact hv0 rfl
        | cons v0 v1 =>
          have : w0 = v0 := e0
          subst this
          simp [lcp] at h4
theorem PutAt.done (h : PutAt r bs G T L key x []) (n : Int) : Flat r bs (markG G x true n) T ∧ Need r bs (markG G x true n) ∧ Marks bs (markG G x true n) T (putM key n L) := by
  have e : T x = key := by rw [← h.eqn, List.append_nil]
  refine ⟨h.flat.mark x true n, fun b hb nr => ?_, by rw [← e]; exact h.marks.put h.flat h.xm n⟩
  by_cases bx : b = x
  · left; unfold markG; rw [if_pos bx]
  · have := h.need b hb nr bx
    unfold markG; rw [if_neg bx]; exact this
end
end Go.Proofs.Ytnlbmplbaalgmaa
