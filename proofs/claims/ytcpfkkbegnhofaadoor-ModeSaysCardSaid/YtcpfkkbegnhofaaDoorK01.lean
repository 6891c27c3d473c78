/- Keys that share their beginnings, plain: nodes by their number, each with its part; T says each node's text. -/
import Derived.Handy
import Derived.WalkSpells
import Derived.WalkLawsBesides
import Derived.Deep.QuietTactic
import Derived.BigQuiet
import Derived.Lib.Hide
import Derived.Test.YtcpfkkbegnhofaaDoorChecked
set_option linter.unusedVariables false
set_option linter.unusedSimpArgs false
namespace Go.Proofs.YtcpfkkbegnhofaaDoor

abbrev Txt := List UInt8
structure Nd where
  part : Txt
  there : Bool
  n : Int
  kids : List Nat
/-- The byte a node goes on with. -/
def hdN (G : Nat → Nd) (c : Nat) : UInt8 := (G c).part.headD 0
structure Flat (r : Nat) (bs : List Nat) (G : Nat → Nd) (T : Nat → Txt) : Prop where
  root : r ∈ bs
  nodup : bs.Nodup
  troot : T r = []
  kid : ∀ b ∈ bs, ∀ c ∈ (G b).kids, c ∈ bs ∧ (G c).part ≠ [] ∧ T c = T b ++ (G c).part
  sorted : ∀ b ∈ bs, (G b).kids.Pairwise fun c d => hdN G c < hdN G d
  up : ∀ c ∈ bs, c ≠ r → ∃ b ∈ bs, c ∈ (G b).kids
inductive Under (G : Nat → Nd) (b : Nat) : Nat → Prop
  | refl : Under G b b
  | step {d c : Nat} : Under G b d → c ∈ (G d).kids → Under G b c
theorem Under.head {G : Nat → Nd} {b d : Nat} (h : Under G b d) : d = b ∨ ∃ c ∈ (G b).kids, Under G c d := by
  induction h with
  | refl => exact Or.inl rfl
  | step h1 h2 ih =>
    rcases ih with rfl | ⟨c', h3, h4⟩
    · exact Or.inr ⟨_, h2, .refl⟩
    · exact Or.inr ⟨c', h3, .step h4 h2⟩
theorem Under.cons {G : Nat → Nd} {b c d : Nat} (hc : c ∈ (G b).kids) (h : Under G c d) : Under G b d := by
  induction h with
  | refl => exact .step .refl hc
  | step _ h2 ih => exact .step ih h2
theorem Under.trans {G : Nat → Nd} {b c d : Nat} (h1 : Under G b c) (h : Under G c d) : Under G b d := by
  induction h with
  | refl => exact h1
  | step _ h2 ih => exact .step ih h2
theorem headD_pre {a b t : Txt} (ha : a ≠ []) (hb : b ≠ []) (h1 : a <+: t) (h2 : b <+: t) : a.headD 0 = b.headD 0 := by
  obtain ⟨u, hu⟩ := h1
  obtain ⟨v, hv⟩ := h2
  cases a with
  | nil => exact absurd rfl ha
  | cons x a =>
    cases b with
    | nil => exact absurd rfl hb
    | cons y b =>
      rw [← hv] at hu
      simp at hu
      exact hu.1
theorem pairwise_head {G : Nat → Nd} {l : List Nat} (h : l.Pairwise fun c d => hdN G c < hdN G d) {c d : Nat} (hc : c ∈ l) (hd : d ∈ l) (e : hdN G c = hdN G d) : c = d := by
  induction l with
  | nil => cases hc
  | cons x l ih =>
    rw [List.pairwise_cons] at h
    rcases List.mem_cons.1 hc with rfl | hc' <;> rcases List.mem_cons.1 hd with rfl | hd'
    · rfl
    · exact absurd (e ▸ h.1 _ hd') (UInt8.lt_irrefl _)
    · exact absurd (e ▸ h.1 _ hc') (UInt8.lt_irrefl _)
    · exact ih h.2 hc' hd'
namespace Flat
variable {r : Nat} {bs : List Nat} {G : Nat → Nd} {T : Nat → Txt}
theorem under_mem (h : Flat r bs G T) {b d : Nat} (hb : b ∈ bs) (u : Under G b d) : d ∈ bs := by
  induction u with
  | refl => exact hb
  | step _ h2 ih => exact (h.kid _ ih _ h2).1
theorem kid_pre (h : Flat r bs G T) {b c : Nat} (hb : b ∈ bs) (hc : c ∈ (G b).kids) : T b <+: T c := by
  rw [(h.kid b hb c hc).2.2]; exact List.prefix_append _ _
theorem kid_len (h : Flat r bs G T) {b c : Nat} (hb : b ∈ bs) (hc : c ∈ (G b).kids) : (T b).length < (T c).length := by
  obtain ⟨_, h1, h2⟩ := h.kid b hb c hc
  rw [h2, List.length_append]
  have := List.length_pos_iff.2 h1
  omega
theorem under_pre (h : Flat r bs G T) {b d : Nat} (hb : b ∈ bs) (u : Under G b d) : T b <+: T d := by
  induction u with
  | refl => exact List.prefix_refl _
  | step h1 h2 ih => exact List.IsPrefix.trans ih (h.kid_pre (h.under_mem hb h1) h2)
theorem under_len (h : Flat r bs G T) {b d : Nat} (hb : b ∈ bs) (u : Under G b d) (ne : d ≠ b) : (T b).length < (T d).length := by
  rcases u.head with e | ⟨c, hc, u2⟩
  · exact absurd e ne
  · exact Nat.lt_of_lt_of_le (h.kid_len hb hc) (h.under_pre (h.kid b hb c hc).1 u2).length_le
theorem under_root (h : Flat r bs G T) : ∀ (n : Nat) (d : Nat), (T d).length ≤ n → d ∈ bs → Under G r d := by
  intro n
  induction n with
  | zero =>
    intro d hn hd
    by_cases e : d = r
    · exact e ▸ .refl
    · obtain ⟨b, hb, hc⟩ := h.up d hd e
      have := h.kid_len hb hc
      omega
  | succ n ih =>
    intro d hn hd
    by_cases e : d = r
    · exact e ▸ .refl
    · obtain ⟨b, hb, hc⟩ := h.up d hd e
      have := h.kid_len hb hc
      exact .step (ih b (by omega) hb) hc
theorem from_root (h : Flat r bs G T) {d : Nat} (hd : d ∈ bs) : Under G r d := h.under_root _ d (Nat.le_refl _) hd
/-- Of two below one, of which both begin a text, both are one. -/
theorem kid_eq (h : Flat r bs G T) {b c c' : Nat} {t : Txt} (hb : b ∈ bs) (hc : c ∈ (G b).kids) (hc' : c' ∈ (G b).kids) (p : T c <+: t) (p' : T c' <+: t) : c = c' := by
  obtain ⟨_, n1, e1⟩ := h.kid b hb c hc
  obtain ⟨_, n2, e2⟩ := h.kid b hb c' hc'
  have hp : T b <+: t := List.IsPrefix.trans (h.kid_pre hb hc) p
  obtain ⟨u, rfl⟩ := hp
  rw [e1, List.prefix_append_right_inj] at p
  rw [e2, List.prefix_append_right_inj] at p'
  exact pairwise_head (h.sorted b hb) hc hc' (headD_pre n1 n2 p p')
theorem pre_under (h : Flat r bs G T) {b d : Nat} (hb : b ∈ bs) (hd : d ∈ bs) (p : T b <+: T d) : Under G b d := by
  have hu := h.from_root hb
  clear hb
  induction hu with
  | refl => exact h.from_root hd
  | step h1 h2 ih =>
    rename_i b0 c
    have hb0 := h.under_mem h.root h1
    have u := ih (List.IsPrefix.trans (h.kid_pre hb0 h2) p)
    rcases u.head with rfl | ⟨c', hc', u'⟩
    · have := h.kid_len hb0 h2
      have := p.length_le
      omega
    · have hm' := (h.kid b0 hb0 c' hc').1
      obtain rfl := h.kid_eq hb0 h2 hc' p (h.under_pre hm' u')
      exact u'
theorem inj (h : Flat r bs G T) {b d : Nat} (hb : b ∈ bs) (hd : d ∈ bs) (e : T b = T d) : b = d := by
  have u := h.pre_under hb hd (e ▸ List.prefix_refl _)
  by_cases ne : d = b
  · exact ne.symm
  · have := h.under_len hb u ne
    rw [e] at this; omega
/-- The next one on the way to a text. -/
theorem down (h : Flat r bs G T) {b d : Nat} {t : Txt} (hb : b ∈ bs) (hd : d ∈ bs) (e : T d = T b ++ t) (ht : t ≠ []) : ∃ c ∈ (G b).kids, (G c).part <+: t ∧ T c <+: T d := by
  have u := h.pre_under hb hd (e ▸ List.prefix_append _ _)
  rcases u.head with rfl | ⟨c, hc, u'⟩
  · have := congrArg List.length e
    rw [List.length_append] at this
    have := List.length_pos_iff.2 ht
    omega
  · obtain ⟨hm, _, e1⟩ := h.kid b hb c hc
    have p := h.under_pre hm u'
    refine ⟨c, hc, ?_, p⟩
    rw [e1, e, List.prefix_append_right_inj] at p
    exact p
theorem not_root (h : Flat r bs G T) {b c : Nat} (hb : b ∈ bs) (hc : c ∈ (G b).kids) : c ≠ r := by
  rintro rfl
  have := h.kid_len hb hc
  rw [h.troot] at this
  simp at this
theorem parent_eq (h : Flat r bs G T) {b b' c : Nat} (hb : b ∈ bs) (hb' : b' ∈ bs) (hc : c ∈ (G b).kids) (hc' : c ∈ (G b').kids) : b = b' := by
  have e1 := (h.kid b hb c hc).2.2
  have e2 := (h.kid b' hb' c hc').2.2
  exact h.inj hb hb' (List.append_cancel_right (e1.symm.trans e2))
end Flat
/-! ### Order -/
theorem sorted_ext {α : Type} {R : α → α → Prop} (irr : ∀ a, ¬ R a a) (asy : ∀ a b, R a b → ¬ R b a) : ∀ {l1 l2 : List α}, l1.Pairwise R → l2.Pairwise R → (∀ x, x ∈ l1 ↔ x ∈ l2) → l1 = l2
  | [], [], _, _, _ => rfl
  | [], b :: l2, _, _, h => by have := (h b).2 (List.mem_cons_self ..); cases this
  | a :: l1, [], _, _, h => by have := (h a).1 (List.mem_cons_self ..); cases this
  | a :: l1, b :: l2, h1, h2, h => by
    rw [List.pairwise_cons] at h1 h2
    have e : a = b := by
      rcases List.mem_cons.1 ((h a).1 (List.mem_cons_self ..)) with e | ha
      · exact e
      · rcases List.mem_cons.1 ((h b).2 (List.mem_cons_self ..)) with e | hb
        · exact e.symm
        · exact absurd (h1.1 b hb) (asy _ _ (h2.1 a ha))
    subst e
    rw [sorted_ext irr asy h1.2 h2.2 fun x => ?_]
    constructor
    · intro hx
      rcases List.mem_cons.1 ((h x).1 (List.mem_cons_of_mem _ hx)) with e | h'
      · exact absurd (e ▸ h1.1 x hx) (irr _)
      · exact h'
    · intro hx
      rcases List.mem_cons.1 ((h x).2 (List.mem_cons_of_mem _ hx)) with e | h'
      · exact absurd (e ▸ h2.1 x hx) (irr _)
      · exact h'
theorem lt_append (t : Txt) {a b : Txt} (h : a < b) : t ++ a < t ++ b := by
  induction t with
  | nil => exact h
  | cons x t ih => rw [List.cons_append, List.cons_append, List.cons_lt_cons_iff]; exact Or.inr ⟨rfl, ih⟩
theorem lt_of_pre {a b : Txt} (h : a <+: b) (ne : a ≠ b) : a < b := by
  obtain ⟨u, rfl⟩ := h
  cases u with
  | nil => simp at ne
  | cons x u =>
    have := lt_append a (a := []) (b := x :: u) (List.nil_lt_cons _ _)
    rw [List.append_nil] at this; exact this
theorem lt_of_heads {t a b : Txt} (ha : a ≠ []) (hb : b ≠ []) (h : a.headD 0 < b.headD 0) : t ++ a < t ++ b := by
  apply lt_append
  cases a with
  | nil => exact absurd rfl ha
  | cons x a =>
    cases b with
    | nil => exact absurd rfl hb
    | cons y b => rw [List.cons_lt_cons_iff]; exact Or.inl h
abbrev ltT (T : Nat → Txt) (a b : Nat) : Prop := T a < T b
namespace Flat
variable {r : Nat} {bs : List Nat} {G : Nat → Nd} {T : Nat → Txt}
/-- All nodes, in their texts' order. -/
theorem sort_ex (h : Flat r bs G T) : ∃ S : List Nat, S.Perm bs ∧ S.Pairwise (ltT T) := by
  have hp := List.mergeSort_perm bs (fun a b => decide (T a ≤ T b))
  refine ⟨bs.mergeSort (fun a b => decide (T a ≤ T b)), hp, ?_⟩
  have hs := List.pairwise_mergeSort (le := fun a b => decide (T a ≤ T b)) (by intro a b c h1 h2; simp only [decide_eq_true_eq] at *; exact List.le_trans h1 h2) (by intro a b; simp only [Bool.or_eq_true, decide_eq_true_eq]; exact List.le_total _ _) bs
  have hn : (bs.mergeSort (fun a b => decide (T a ≤ T b))).Nodup := hp.nodup_iff.2 h.nodup
  refine List.Pairwise.imp_of_mem ?_ (hs.and hn)
  intro a b ha hb ⟨h1, h2⟩
  simp only [decide_eq_true_eq] at h1
  rcases List.le_iff_lt_or_eq.1 h1 with h3 | h3
  · exact h3
  · exact absurd (h.inj (hp.mem_iff.1 ha) (hp.mem_iff.1 hb) h3) h2
end Flat
/-- Those of S whose texts begin so. -/
def subs (T : Nat → Txt) (S : List Nat) (t : Txt) : List Nat := S.filter fun d => t.isPrefixOf (T d)
namespace Flat
variable {r : Nat} {bs S : List Nat} {G : Nat → Nd} {T : Nat → Txt}
theorem mem_subs (hp : S.Perm bs) {t : Txt} {d : Nat} : d ∈ subs T S t ↔ d ∈ bs ∧ t <+: T d := by
  unfold subs; rw [List.mem_filter, List.isPrefixOf_iff_prefix, hp.mem_iff]
theorem subs_cons (h : Flat r bs G T) (hp : S.Perm bs) (hs : S.Pairwise (ltT T)) {b : Nat} (hb : b ∈ bs) : subs T S (T b) = b :: (G b).kids.flatMap fun c => subs T S (T c) := by
  refine sorted_ext (R := ltT T) (fun a => List.lt_irrefl _) (fun a b h1 h2 => List.lt_irrefl _ (List.lt_trans h1 h2)) (hs.filter _) ?_ fun x => ?_
  · rw [List.pairwise_cons]
    constructor
    · intro d hd
      obtain ⟨c, hc, hd⟩ := List.mem_flatMap.1 hd
      have hd := (mem_subs hp).1 hd
      have hl := h.kid_len hb hc
      have hl2 := hd.2.length_le
      refine lt_of_pre (List.IsPrefix.trans (h.kid_pre hb hc) hd.2) fun e => ?_
      rw [← e] at hl2; omega
    · rw [List.pairwise_flatMap]
      refine ⟨fun c _ => hs.filter _, List.Pairwise.imp_of_mem ?_ (h.sorted b hb)⟩
      intro c c' hc hc' hlt x hx y hy
      have hx := ((mem_subs hp).1 hx).2
      have hy := ((mem_subs hp).1 hy).2
      obtain ⟨_, n1, e1⟩ := h.kid b hb c hc
      obtain ⟨_, n2, e2⟩ := h.kid b hb c' hc'
      obtain ⟨u, hu⟩ := hx
      obtain ⟨v, hv⟩ := hy
      show T x < T y
      rw [← hu, ← hv, e1, e2, List.append_assoc, List.append_assoc]
      refine lt_of_heads (by simp [n1]) (by simp [n2]) ?_
      unfold hdN at hlt
      cases hg : (G c).part with
      | nil => exact absurd hg n1
      | cons p0 p =>
        cases hg' : (G c').part with
        | nil => exact absurd hg' n2
        | cons q0 q => rw [hg, hg'] at hlt; simpa using hlt
  · rw [mem_subs hp, List.mem_cons, List.mem_flatMap]
    constructor
    · rintro ⟨hx, pre⟩
      rcases (h.pre_under hb hx pre).head with e | ⟨c, hc, u⟩
      · exact Or.inl e
      · exact Or.inr ⟨c, hc, (mem_subs hp).2 ⟨hx, h.under_pre (h.kid b hb c hc).1 u⟩⟩
    · rintro (rfl | ⟨c, hc, hx⟩)
      · exact ⟨hb, List.prefix_refl _⟩
      · have := (mem_subs hp).1 hx
        exact ⟨this.1, List.IsPrefix.trans (h.kid_pre hb hc) this.2⟩
theorem subs_root (h : Flat r bs G T) : subs T S (T r) = S := by
  unfold subs; rw [h.troot, List.filter_eq_self]; simp
end Flat
/-! ### What two begin with -/
def lcp : Txt → Txt → Txt
  | x :: a, y :: b => if x = y then x :: lcp a b else []
  | _, _ => []
theorem lcp_left : ∀ a b : Txt, lcp a b <+: a
  | [], b => by cases b <;> simp [lcp]
  | x :: a, [] => by simp [lcp]
  | x :: a, y :: b => by
    unfold lcp; split
    · rename_i e; subst e; exact List.cons_prefix_cons.2 ⟨rfl, lcp_left a b⟩
    · exact List.nil_prefix
theorem lcp_comm : ∀ a b : Txt, lcp a b = lcp b a
  | [], b => by cases b <;> simp [lcp]
  | x :: a, [] => by simp [lcp]
  | x :: a, y :: b => by
    unfold lcp
    by_cases e : x = y
    · subst e; rw [if_pos rfl, if_pos rfl, lcp_comm a b]
    · rw [if_neg e, if_neg (Ne.symm e)]
theorem lcp_right (a b : Txt) : lcp a b <+: b := by rw [lcp_comm]; exact lcp_left b a
theorem lcp_append (t a b : Txt) : lcp (t ++ a) (t ++ b) = t ++ lcp a b := by
  induction t with
  | nil => rfl
  | cons x t ih => simp [lcp, ih]
theorem lcp_heads {a b : Txt} (h : a.headD 0 ≠ b.headD 0) : lcp a b = [] := by
  cases a with
  | nil => cases b <;> simp [lcp]
  | cons x a =>
    cases b with
    | nil => simp [lcp]
    | cons y b => unfold lcp; rw [if_neg (by simpa using h)]
theorem lcp_pre {t a b : Txt} (h1 : t <+: a) (h2 : t <+: b) : t <+: lcp a b := by
  obtain ⟨u, rfl⟩ := h1
  obtain ⟨v, rfl⟩ := h2
  rw [lcp_append]; exact List.prefix_append _ _
theorem lcp_self (a : Txt) : lcp a a = a := by
  induction a with
  | nil => rfl
  | cons x a ih => simp [lcp, ih]
theorem lcp_of_pre {a b : Txt} (h : a <+: b) : lcp a b = a := by
  have h1 := lcp_pre (List.prefix_refl a) h
  have h2 := lcp_left a b
  exact (h1.eq_of_length (Nat.le_antisymm h1.length_le h2.length_le)).symm
/-! ### Which nodes there are -/
theorem len_le_of_nodup {α : Type} [DecidableEq α] : ∀ {l1 l2 : List α}, l1.Nodup → (∀ x ∈ l1, x ∈ l2) → l1.length ≤ l2.length
  | [], _, _, _ => Nat.zero_le _
  | a :: l1, l2, hn, hs => by
    rw [List.nodup_cons] at hn
    have ha := hs a (List.mem_cons_self ..)
    have := len_le_of_nodup (l1 := l1) (l2 := l2.erase a) hn.2 fun x hx => (List.mem_erase_of_ne (by rintro rfl; exact hn.1 hx)).2 (hs x (List.mem_cons_of_mem _ hx))
    rw [List.length_erase_of_mem ha] at this
    have := List.length_pos_of_mem ha
    rw [List.length_cons]; omega
theorem len_flatMap {α β : Type} (f : α → List β) {l : List α} {a : α} (h : a ∈ l) : (f a).length ≤ (l.flatMap f).length := by
  induction l with
  | nil => cases h
  | cons x l ih =>
    rw [List.flatMap_cons, List.length_append]
    rcases List.mem_cons.1 h with rfl | h
    · omega
    · have := ih h; omega
def Need (r : Nat) (bs : List Nat) (G : Nat → Nd) : Prop := ∀ b ∈ bs, b ≠ r → (G b).there = true ∨ 2 ≤ (G b).kids.length
namespace Flat
variable {r : Nat} {bs S : List Nat} {G : Nat → Nd} {T : Nat → Txt}
theorem kids_nodup (h : Flat r bs G T) {b : Nat} (hb : b ∈ bs) : (G b).kids.Nodup := by
  refine (h.sorted b hb).imp fun hlt e => ?_
  subst e; exact UInt8.lt_irrefl _ hlt
theorem subs_lt (h : Flat r bs G T) (hp : S.Perm bs) (hs : S.Pairwise (ltT T)) {b c : Nat} (hb : b ∈ bs) (hc : c ∈ (G b).kids) : (subs T S (T c)).length < (subs T S (T b)).length := by
  rw [h.subs_cons hp hs hb, List.length_cons]
  have := len_flatMap (fun c => subs T S (T c)) hc
  omega
theorem has_key (h : Flat r bs G T) (hn : Need r bs G) : ∀ b ∈ bs, b ≠ r → ∃ d ∈ bs, Under G b d ∧ (G d).there = true := by
  obtain ⟨S, hp, hs⟩ := h.sort_ex
  suffices H : ∀ (n : Nat) (b : Nat), (subs T S (T b)).length ≤ n → b ∈ bs → b ≠ r → ∃ d ∈ bs, Under G b d ∧ (G d).there = true from fun b hb ne => H _ b (Nat.le_refl _) hb ne
  intro n
  induction n with
  | zero =>
    intro b hl hb
    rw [h.subs_cons hp hs hb] at hl; simp at hl
  | succ n ih =>
    intro b hl hb ne
    rcases hn b hb ne with ht | ht
    · exact ⟨b, hb, .refl, ht⟩
    · obtain ⟨c, hc⟩ : ∃ c, c ∈ (G b).kids := List.exists_mem_of_length_pos (by omega)
      have := h.subs_lt hp hs hb hc
      obtain ⟨d, hd, u, ht⟩ := ih c (by omega) (h.kid b hb c hc).1 (h.not_root hb hc)
      exact ⟨d, hd, .cons hc u, ht⟩
theorem kids_lcp (h : Flat r bs G T) {b c c' : Nat} (hb : b ∈ bs) (hc : c ∈ (G b).kids) (hc' : c' ∈ (G b).kids) (ne : c ≠ c') {s t : Txt} (h1 : T c <+: s) (h2 : T c' <+: t) : lcp s t = T b := by
  obtain ⟨_, n1, e1⟩ := h.kid b hb c hc
  obtain ⟨_, n2, e2⟩ := h.kid b hb c' hc'
  obtain ⟨u, rfl⟩ := h1
  obtain ⟨v, rfl⟩ := h2
  rw [e1, e2, List.append_assoc, List.append_assoc, lcp_append, lcp_heads, List.append_nil]
  intro e
  have e : hdN G c = hdN G c' := by
    unfold hdN
    cases hg : (G c).part with
    | nil => exact absurd hg n1
    | cons p0 p =>
      cases hg' : (G c').part with
      | nil => exact absurd hg' n2
      | cons q0 q => rw [hg, hg'] at e; simpa using e
  exact ne (pairwise_head (h.sorted b hb) hc hc' e)
theorem lcp_node (h : Flat r bs G T) {a b : Nat} (ha : a ∈ bs) (hb : b ∈ bs) : ∃ d ∈ bs, T d = lcp (T a) (T b) := by
  obtain ⟨S, hp, hs⟩ := h.sort_ex
  suffices H : ∀ (n : Nat) (x : Nat), (subs T S (T x)).length ≤ n → x ∈ bs → Under G x a → Under G x b → ∃ d ∈ bs, T d = lcp (T a) (T b) from
    H _ r (Nat.le_refl _) h.root (h.from_root ha) (h.from_root hb)
  intro n
  induction n with
  | zero =>
    intro x hl hx
    rw [h.subs_cons hp hs hx] at hl; simp at hl
  | succ n ih =>
    intro x hl hx ua ub
    rcases ua.head with rfl | ⟨c, hc, uc⟩
    · exact ⟨_, hx, (lcp_of_pre (h.under_pre hx ub)).symm⟩
    · rcases ub.head with rfl | ⟨c', hc', uc'⟩
      · exact ⟨_, hx, by rw [lcp_comm]; exact (lcp_of_pre (h.under_pre hx ua)).symm⟩
      · have mc := (h.kid x hx c hc).1
        have mc' := (h.kid x hx c' hc').1
        by_cases e : c = c'
        · subst e
          have := h.subs_lt hp hs hx hc
          exact ih c (by omega) mc uc uc'
        · exact ⟨x, hx, (h.kids_lcp hx hc hc' e (h.under_pre mc uc) (h.under_pre mc' uc')).symm⟩
theorem texts_mem (h : Flat r bs G T) (hn : Need r bs G) (t : Txt) : t ∈ bs.map T ↔ t = [] ∨ (∃ b ∈ bs, (G b).there = true ∧ T b = t) ∨ (∃ a ∈ bs, ∃ b ∈ bs, (G a).there = true ∧ (G b).there = true ∧ lcp (T a) (T b) = t) := by
  rw [List.mem_map]
  constructor
  · rintro ⟨b, hb, rfl⟩
    by_cases e : b = r
    · subst e; exact Or.inl h.troot
    · rcases hn b hb e with ht | ht
      · exact Or.inr (Or.inl ⟨b, hb, ht, rfl⟩)
      · refine Or.inr (Or.inr ?_)
        obtain ⟨c, c', hc, hc', ne⟩ : ∃ c c', c ∈ (G b).kids ∧ c' ∈ (G b).kids ∧ c ≠ c' := by
          have hnd := h.kids_nodup hb
          match hk : (G b).kids, ht, hnd with
          | c :: c' :: l, _, hnd =>
            rw [List.nodup_cons] at hnd
            exact ⟨c, c', by simp, by simp, fun e => hnd.1 (by simp [e])⟩
        have mc := (h.kid b hb c hc).1
        have mc' := (h.kid b hb c' hc').1
        obtain ⟨d, hd, u, t1⟩ := h.has_key hn c mc (h.not_root hb hc)
        obtain ⟨d', hd', u', t2⟩ := h.has_key hn c' mc' (h.not_root hb hc')
        exact ⟨d, hd, d', hd', t1, t2, h.kids_lcp hb hc hc' ne (h.under_pre mc u) (h.under_pre mc' u')⟩
  · rintro (rfl | ⟨b, hb, _, rfl⟩ | ⟨a, ha, b, hb, _, _, rfl⟩)
    · exact ⟨r, h.root, h.troot⟩
    · exact ⟨b, hb, rfl⟩
    · exact h.lcp_node ha hb
theorem texts_nodup (h : Flat r bs G T) : (bs.map T).Nodup := by
  have hn := h.nodup
  unfold List.Nodup at *
  rw [List.pairwise_map]
  exact List.Pairwise.imp_of_mem (fun ha hb ne e => ne (h.inj ha hb e)) hn
theorem count (h : Flat r bs G T) (hn : Need r bs G) : bs.length ≤ 2 * (bs.filter fun b => (G b).there).length + 1 := by
  have e1 : bs.length = (bs.filter fun b => (G b).there).length + (bs.filter fun b => !(G b).there).length := by
    clear h hn
    induction bs with
    | nil => rfl
    | cons b bs ih => cases hb : (G b).there <;> simp [List.filter_cons, hb, ih] <;> omega
  have hB : (bs.filter fun b => !(G b).there).Nodup := h.nodup.filter _
  have e2 : (bs.filter fun b => !(G b).there).length ≤ ((bs.filter fun b => !(G b).there).erase r).length + 1 := by
    by_cases hr : r ∈ bs.filter fun b => !(G b).there
    · rw [List.length_erase_of_mem hr]; omega
    · rw [List.erase_of_not_mem hr]; omega
  have hB2 : ((bs.filter fun b => !(G b).there).erase r).Nodup := hB.erase _
  have mem : ∀ b ∈ (bs.filter fun b => !(G b).there).erase r, b ∈ bs ∧ (G b).there = false ∧ b ≠ r := fun b hb => by
    rw [hB.mem_erase_iff, List.mem_filter] at hb
    exact ⟨hb.2.1, by simpa using hb.2.2, hb.1⟩
  generalize (bs.filter fun b => !(G b).there).erase r = B at *
  have k1 : 2 * B.length ≤ (B.flatMap fun b => (G b).kids).length := by
    clear e2 hB2
    induction B with
    | nil => simp
    | cons b B ih =>
      have hb := mem b (List.mem_cons_self ..)
      have := hn b hb.1 hb.2.2
      rw [hb.2.1] at this
      have ih := ih fun x hx => mem x (List.mem_cons_of_mem _ hx)
      rw [List.flatMap_cons, List.length_append, List.length_cons]
      rcases this with t | t
      · cases t
      · omega
  have k2 : (B.flatMap fun b => (G b).kids).length ≤ (bs.erase r).length := by
    refine len_le_of_nodup ?_ fun x hx => ?_
    · unfold List.Nodup
      rw [List.pairwise_flatMap]
      refine ⟨fun b hb => h.kids_nodup (mem b hb).1, List.Pairwise.imp_of_mem ?_ hB2⟩
      intro a b ha hb ne x hx y hy e
      subst e
      exact ne (h.parent_eq (mem a ha).1 (mem b hb).1 hx hy)
    · obtain ⟨b, hb, hc⟩ := List.mem_flatMap.1 hx
      have hbm := (mem b hb).1
      exact (List.mem_erase_of_ne (h.not_root hbm hc)).2 (h.kid b hbm x hc).1
  rw [List.length_erase_of_mem h.root] at k2
  have := List.length_pos_of_mem h.root
  omega
end Flat
end Go.Proofs.YtcpfkkbegnhofaaDoor
/- A small library for heap facts: whole blocks, and a frame with a footprint. -/
set_option linter.unusedVariables false
set_option linter.unusedSimpArgs false
namespace Go.Proofs.YtcpfkkbegnhofaaDoor
open Go.RowKit

/-- Block b is the row of cells cs, of type T, no cell of it frozen. -/
def Blk (w : World) (b : Nat) (cs : List Value) (T : TypeId) : Prop := w.heap[b]? = some (.cells cs.toArray T (0, 0))

theorem Blk.cell {w : World} {b : Nat} {cs : List Value} {T : TypeId} (h : Blk w b cs T) (i : Nat) : w.cell? ⟨b, i, none⟩ = cs[i]? := by
  unfold Blk at h; unfold World.cell?; simp [h]
theorem Blk.cellAt {w : World} {b : Nat} {cs : List Value} {T : TypeId} (h : Blk w b cs T) {i : Nat} {v : Value} (hv : cs[i]? = some v) : w.cell? ⟨b, i, none⟩ = some v := by
  rw [h.cell, hv]
theorem Blk.free {w : World} {b : Nat} {cs : List Value} {T : TypeId} (h : Blk w b cs T) (i : Nat) : w.frozen? ⟨b, i, none⟩ = false := by
  unfold Blk at h; unfold World.frozen?; simp [h]
theorem Blk.lt {w : World} {b : Nat} {cs : List Value} {T : TypeId} (h : Blk w b cs T) : b < w.heap.size := by
  unfold Blk at h
  by_cases hb : b < w.heap.size
  · exact hb
  · simp [Array.getElem?_eq_none (by omega : w.heap.size ≤ b)] at h
theorem Blk.shape {w : World} {b : Nat} {cs : List Value} {T : TypeId} (h : Blk w b cs T) : w.shape? b = some (T, cs.length) := by
  unfold Blk at h; unfold World.shape?; simp [h]
theorem Blk.set {w : World} {b : Nat} {cs : List Value} {T : TypeId} (h : Blk w b cs T) (o : Nat) (v : Value) : Blk (w.setCell ⟨b, o, none⟩ v) b (cs.set o v) T := by
  unfold Blk at *; unfold World.setCell
  simp [Array.getElem?_modify, h]
theorem Blk.set_other {w : World} {b : Nat} {cs : List Value} {T : TypeId} (h : Blk w b cs T) {b' o : Nat} {v : Value} (hne : b ≠ b') : Blk (w.setCell ⟨b', o, none⟩ v) b cs T := by
  unfold Blk at *; rw [Below.heap_setCell _ _ _ _ hne]; exact h
theorem Blk.alloc {w : World} {b : Nat} {cs : List Value} {T : TypeId} (h : Blk w b cs T) (o : Obj) : Blk (w.alloc o) b cs T := by
  have hb := h.lt
  unfold Blk at *; rw [Below.heap_alloc _ _ _ hb]; exact h
theorem Blk.made (w : World) (cs : List Value) (T : TypeId) : Blk (w.alloc (.cells cs.toArray T)) w.heap.size cs T := by
  unfold Blk; show (w.heap.push _)[w.heap.size]? = _
  simp
theorem Blk.drewN {w : World} {b : Nat} {cs : List Value} {T : TypeId} (h : Blk w b cs T) (n : Nat) : Blk (w.drewN n) b cs T := h
theorem Blk.drew {w : World} {b : Nat} {cs : List Value} {T : TypeId} (h : Blk w b cs T) : Blk w.drew b cs T := h
theorem Blk.inj {w : World} {b : Nat} {cs cs' : List Value} {T T' : TypeId} (h : Blk w b cs T) (h' : Blk w b cs' T') : cs = cs' := by
  unfold Blk at *; rw [h] at h'; simp at h'; exact h'.1

/-- A pointer to block b. -/
def ptr (b : Nat) : Value := .pointer (some ⟨b, 0, none⟩)
/-- But for the blocks of F (and new ones) the world w' is as w was. -/
structure Upd (F : Nat → Prop) (w w' : World) : Prop where
  os : w'.os = w.os
  tape : w'.tape = w.tape
  output : w'.output = w.output
  size : w.heap.size ≤ w'.heap.size
  block : ∀ k, k < w.heap.size → ¬ F k → w'.heap[k]? = w.heap[k]?

theorem Upd.refl (F : Nat → Prop) (w : World) : Upd F w w := ⟨rfl, rfl, rfl, Nat.le_refl _, fun _ _ _ => rfl⟩
theorem Upd.trans {F G : Nat → Prop} {a b c : World} (h : Upd F a b) (k : Upd G b c) (hs : ∀ i, i < a.heap.size → G i → F i) : Upd F a c :=
  ⟨k.os.trans h.os, k.tape.trans h.tape, k.output.trans h.output, Nat.le_trans h.size k.size, fun i hi hF =>
    (k.block i (Nat.lt_of_lt_of_le hi h.size) (fun hg => hF (hs i hi hg))).trans (h.block i hi hF)⟩
theorem Upd.weaken {F G : Nat → Prop} {w w' : World} (h : Upd G w w') (hs : ∀ i, i < w.heap.size → G i → F i) : Upd F w w' :=
  ⟨h.os, h.tape, h.output, h.size, fun k hk hF => h.block k hk fun hg => hF (hs k hk hg)⟩
theorem Upd.set {F : Nat → Prop} {a w : World} (h : Upd F a w) {b o : Nat} {v : Value} (hp : b < a.heap.size → F b) : Upd F a (w.setCell ⟨b, o, none⟩ v) :=
  ⟨h.os, h.tape, h.output, by simpa [World.setCell] using h.size, fun k hk hF => by
    have : k ≠ b := fun e => hF (e ▸ hp (e ▸ hk))
    rw [Below.heap_setCell _ _ _ _ this]; exact h.block k hk hF⟩
theorem Upd.alloc {F : Nat → Prop} {a w : World} (h : Upd F a w) (o : Obj) : Upd F a (w.alloc o) :=
  ⟨h.os, h.tape, h.output, by simpa using Nat.le_succ_of_le h.size, fun k hk hF => by
    rw [Below.heap_alloc _ _ _ (Nat.lt_of_lt_of_le hk h.size)]; exact h.block k hk hF⟩
theorem Upd.drewN {F : Nat → Prop} {a w : World} (h : Upd F a w) (n : Nat) : Upd F a (w.drewN n) := ⟨h.os, h.tape, h.output, h.size, h.block⟩
theorem Upd.drew {F : Nat → Prop} {a w : World} (h : Upd F a w) : Upd F a w.drew := ⟨h.os, h.tape, h.output, h.size, h.block⟩
theorem Upd.blk {F : Nat → Prop} {w w' : World} (h : Upd F w w') {b : Nat} {cs : List Value} {T : TypeId} (hb : Blk w b cs T) (hF : ¬ F b) : Blk w' b cs T := by
  have := hb.lt
  unfold Blk at *; rw [h.block b this hF]; exact hb
theorem Upd.below {F : Nat → Prop} {w w' : World} (h : Upd F w w') {B : Nat} (hB : B ≤ w.heap.size) (hF : ∀ i, F i → B ≤ i) : Below B w w' :=
  ⟨h.os, h.tape, h.output, h.size, fun k hk => h.block k (by omega) fun hf => by have := hF k hf; omega⟩
theorem Upd.of_below {w w' : World} {B : Nat} (h : Below B w w') : Upd (fun k => B ≤ k) w w' :=
  ⟨h.os, h.tape, h.output, h.size, fun k _ hF => h.block k (by omega)⟩
theorem Upd.cell {F : Nat → Prop} {w w' : World} (h : Upd F w w') {p : Addr} (hl : p.block < w.heap.size) (hF : ¬ F p.block) : w'.cell? p = w.cell? p :=
  World.cell?_of_block (w := w) (h.block p.block hl hF)
theorem Upd.frozen {F : Nat → Prop} {w w' : World} (h : Upd F w w') {p : Addr} (hl : p.block < w.heap.size) (hF : ¬ F p.block) : w'.frozen? p = w.frozen? p :=
  World.frozen?_of_block (w := w) (h.block p.block hl hF)

/-- Cells of a list of things, k cells each. -/
def flat {α : Type} (f : α → List Value) (l : List α) : List Value := l.flatMap f
theorem flat_length {α : Type} (f : α → List Value) (k : Nat) (hf : ∀ a, (f a).length = k) (l : List α) : (flat f l).length = l.length * k := by
  unfold flat
  induction l with
  | nil => simp
  | cons a l ih => simp only [List.flatMap_cons, List.length_append, hf, ih, List.length_cons]; rw [Nat.add_mul]; omega
theorem flat_get {α : Type} (f : α → List Value) (k : Nat) (hf : ∀ a, (f a).length = k) (l : List α) (i j : Nat) (hj : j < k) :
    (flat f l)[i * k + j]? = (l[i]?).bind fun a => (f a)[j]? := by
  unfold flat
  induction l generalizing i with
  | nil => simp
  | cons a l ih =>
    rw [List.flatMap_cons]
    cases i with
    | zero => simp only [Nat.zero_mul, Nat.zero_add, List.getElem?_cons_zero, Option.bind_some]; rw [List.getElem?_append_left (by rw [hf]; exact hj)]
    | succ i =>
      rw [List.getElem?_append_right (by rw [hf, Nat.add_mul]; omega), hf]
      have : (i + 1) * k + j - k = i * k + j := by rw [Nat.add_mul]; omega
      rw [this, ih]; simp
theorem flat_set {α : Type} (f : α → List Value) (k : Nat) (hf : ∀ a, (f a).length = k) (l : List α) (i j : Nat) (hj : j < k) (a b : α) (v : Value)
    (ha : l[i]? = some a) (hb : f b = (f a).set j v) : (flat f l).set (i * k + j) v = flat f (l.set i b) := by
  unfold flat
  induction l generalizing i with
  | nil => simp at ha
  | cons c l ih =>
    cases i with
    | zero =>
      simp only [List.getElem?_cons_zero, Option.some.injEq] at ha; subst ha
      simp only [Nat.zero_mul, Nat.zero_add, List.flatMap_cons, List.set_cons_zero]
      rw [List.set_append_left _ _ (by rw [hf]; exact hj), hb]
    | succ i =>
      simp only [List.getElem?_cons_succ] at ha
      simp only [List.flatMap_cons, List.set_cons_succ]
      rw [List.set_append_right _ _ (by rw [hf, Nat.add_mul]; omega), hf]
      have : (i + 1) * k + j - k = i * k + j := by rw [Nat.add_mul]; omega
      rw [this, ih i ha]

theorem Upd.of_grown {w w' : World} {row : Option Nat} (h : w.grownBy w' row) : Upd (fun k => some k = row) w w' :=
  ⟨h.os, h.tape, h.output, h.size, fun k hk hF => h.block k hk hF⟩
theorem own_keep {F : Nat → Prop} {w w' : World} {base : Nat} {e : TypeId} {size n : Nat} {v : Value} {xs : List Value} (h : w.ownsRow base e size v n xs) (u : Upd F w w') (hd : ∀ k, v.ownBlock = some k → ¬ F k) : w'.ownsRow base e size v n xs := by
  obtain ⟨h1, h2⟩ := h
  refine ⟨h1, ?_⟩
  rcases h2 with h2 | ⟨g, cap, cur, hv, hg, hh, r⟩
  · exact Or.inl h2
  · have hl : g < w.heap.size := by
      by_cases hb : g < w.heap.size
      · exact hb
      · simp [Array.getElem?_eq_none (by omega : w.heap.size ≤ g)] at hh
    exact Or.inr ⟨g, cap, cur, hv, hg, by rw [u.block g hl (hd g (by rw [hv]; rfl))]; exact hh, r⟩

theorem ret_int {k : IntKind} {a b : Int} (h : a = b) : Ending.returned (.int k a) = .returned (.int k b) := by rw [h]
theorem ret_bool {a b : Bool} (h : a = b) : Ending.returned (.bool a) = .returned (.bool b) := by rw [h]
theorem ret_ib {k : IntKind} {a : Int} {b : Bool} {x : Int × Bool} (h : (a, b) = x) : Ending.returned (.tuple #[.int k a, .bool b]) = .returned (.tuple #[.int k x.1, .bool x.2]) := by subst h; rfl
theorem toList_eq {a b : ByteArray} (h : (a.toList == b.toList) = true) : a = b := by
  have h' : a.toList = b.toList := by simpa using h
  rw [ByteArray.toList_eq, ByteArray.toList_eq] at h'
  cases a; cases b; simpa [Array.toList_inj] using h'
theorem toList_ne {a b : ByteArray} (h : (a.toList == b.toList) = false) : ¬ a = b := by
  rintro rfl; simp at h
theorem wrap_u64 (n : Int) : IntKind.u64.wrap n = n % 18446744073709551616 := by
  unfold IntKind.wrap; simp [IntKind.bits, IntKind.signed]
end Go.Proofs.YtcpfkkbegnhofaaDoor
/- Rows of the call's own: texts, numbers. -/
set_option linter.unusedVariables false
set_option linter.unusedSimpArgs false
namespace Go.Proofs.YtcpfkkbegnhofaaDoor
open Go.RowKit

/-- v is a slice of texts of the call's own, from block base on. -/
def StrsAt (w : World) (base : Nat) (v : Value) (l : List ByteArray) : Prop := w.ownsRow base 9 1 v l.length (l.map Value.string)
/-- v is a slice of whole numbers of the call's own, from block base on. -/
def IntsAt (w : World) (base : Nat) (v : Value) (l : List Int) : Prop := w.ownsRow base 3 1 v l.length (l.map (Value.int .i64))
theorem string_info : (Tryd.prog.info? 9).map (fun i => (i.zero, i.size, i.bytes)) = some (some (.string ByteArray.empty), 1, 16) := by kernel_rfl
theorem int_info : (Tryd.prog.info? 3).map (fun i => (i.zero, i.size, i.bytes)) = some (some (.int .i64 0), 1, 8) := by kernel_rfl

theorem own_mono {w : World} {base base' : Nat} {e : TypeId} {size n : Nat} {v : Value} {xs : List Value} (h : w.ownsRow base e size v n xs) (hb : base' ≤ base) : w.ownsRow base' e size v n xs := by
  obtain ⟨h1, h2⟩ := h
  refine ⟨h1, ?_⟩
  rcases h2 with h2 | ⟨g, cap, cur, hv, hg, r⟩
  · exact Or.inl h2
  · exact Or.inr ⟨g, cap, cur, hv, Nat.le_trans hb hg, r⟩
theorem own_slice {w : World} {base n : Nat} {e : TypeId} {size : Nat} {v : Value} {xs : List Value} (h : w.ownsRow base e size v n xs) : ∃ p c, v = .slice p n c ∧ n ≤ maxLen := by
  obtain ⟨_, ⟨rfl, rfl⟩ | ⟨g, cap, cur, rfl, _, _, h1, h2, _⟩⟩ := h
  · exact ⟨_, _, rfl, by unfold maxLen; omega⟩
  · exact ⟨_, _, rfl, by omega⟩
section
variable {F : Nat → Prop} {w w' : World} {base : Nat} {v : Value}
theorem StrsAt.keep {l : List ByteArray} (h : StrsAt w base v l) (u : Upd F w w') (hd : ∀ k, v.ownBlock = some k → ¬ F k) : StrsAt w' base v l := own_keep h u hd
theorem IntsAt.keep {l : List Int} (h : IntsAt w base v l) (u : Upd F w w') (hd : ∀ k, v.ownBlock = some k → ¬ F k) : IntsAt w' base v l := own_keep h u hd
end
end Go.Proofs.YtcpfkkbegnhofaaDoor
