/- Keys that share their beginnings, plain: the node under which all stand that begin so; a walk's marks. -/
import Derived.Test.YtmlojbfcmebboaaGreatK05
import Derived.Test.YtmlojbfcmebboaaGreatK04
import Derived.Deep.Upon
set_option linter.unusedVariables false
set_option linter.unusedSimpArgs false
namespace Go.Proofs.YtmlojbfcmebboaaGreat

theorem lcp_whole {a b : Txt} : (lcp a b).length = a.length ↔ a <+: b := by
  constructor
  · intro h
    have := (lcp_left a b).eq_of_length h
    rw [← this]; exact lcp_right a b
  · intro h; rw [lcp_of_pre h]
theorem lcp_whole2 {a b : Txt} : (lcp a b).length = b.length ↔ b <+: a := by rw [lcp_comm]; exact lcp_whole
namespace Flat
variable {r : Nat} {bs S : List Nat} {G : Nat → Nd} {T : Nat → Txt}
theorem under_kid (h : Flat r bs G T) {x d : Nat} {p rest r1 : Txt} {c : UInt8} (hx : x ∈ bs) (hd : d ∈ bs) (e : T x ++ rest = p) (hr : rest = c :: r1) (hp : p <+: T d) :
    ∃ z ∈ (G x).kids, hdN G z = c ∧ T z <+: T d ∧ ((G z).part <+: rest ∨ rest <+: (G z).part) := by
  obtain ⟨u, hu⟩ := hp
  have ed : T d = T x ++ (rest ++ u) := by rw [← List.append_assoc, e, hu]
  obtain ⟨z, hz, pz, pz2⟩ := h.down hx hd ed (by rw [hr]; simp)
  have nz := (h.kid x hx z hz).2.1
  refine ⟨z, hz, ?_, pz2, ?_⟩
  · have := headD_pre nz (b := rest ++ u) (by rw [hr]; simp) pz (List.prefix_refl _)
    rw [hr] at this; exact this
  · rcases Nat.le_total (G z).part.length rest.length with g | g
    · exact Or.inl (List.prefix_of_prefix_length_le pz (List.prefix_append _ _) g)
    · exact Or.inr (List.prefix_of_prefix_length_le (List.prefix_append _ _) pz g)
theorem under_miss (h : Flat r bs G T) {x : Nat} {p rest r1 : Txt} {c : UInt8} (hx : x ∈ bs) (e : T x ++ rest = p) (hr : rest = c :: r1) (hn : ∀ z ∈ (G x).kids, hdN G z ≠ c) : ∀ d ∈ bs, ¬ p <+: T d := fun d hd hp => by
  obtain ⟨z, hz, hc, _⟩ := h.under_kid hx hd e hr hp
  exact hn z hz hc
theorem under_next (h : Flat r bs G T) {x y : Nat} {p rest r1 : Txt} {c : UInt8} (hx : x ∈ bs) (e : T x ++ rest = p) (hr : rest = c :: r1) (hy : y ∈ (G x).kids) (hc : hdN G y = c) : ∀ d ∈ bs, p <+: T d → T y <+: T d ∧ ((G y).part <+: rest ∨ rest <+: (G y).part) := fun d hd hp => by
  obtain ⟨z, hz, hc', h1, h2⟩ := h.under_kid hx hd e hr hp
  have := pairwise_head (h.sorted x hx) hz hy (hc'.trans hc.symm)
  subst this
  exact ⟨h1, h2⟩
end Flat
/-- The marks of a row of nodes. -/
def mksOf (G : Nat → Nd) (T : Nat → Txt) (l : List Nat) : List MarkP := (l.filter fun b => (G b).there).map fun b => (T b, (G b).n)
theorem mksOf_cons (G : Nat → Nd) (T : Nat → Txt) (b : Nat) (l : List Nat) : mksOf G T (b :: l) = (if (G b).there then [(T b, (G b).n)] else []) ++ mksOf G T l := by
  unfold mksOf
  cases h : (G b).there <;> simp [List.filter_cons, h]
theorem mksOf_append (G : Nat → Nd) (T : Nat → Txt) (l m : List Nat) : mksOf G T (l ++ m) = mksOf G T l ++ mksOf G T m := by
  unfold mksOf; simp
def walkL (L : List MarkP) (p : Txt) : List MarkP := L.filter fun m => decide (p <+: m.1)
section
variable {r : Nat} {bs S : List Nat} {G : Nat → Nd} {T : Nat → Txt} {L : List MarkP}
/-- All marks, by the nodes in order. -/
theorem Marks.all (hm : Marks bs G T L) (hp : S.Perm bs) (hs : S.Pairwise (ltT T)) : mksOf G T S = L := by
  refine marks_ext ?_ hm.rise fun m => ?_
  · unfold mksOf
    rw [List.pairwise_map]
    exact (hs.filter _).imp fun h => h
  · unfold mksOf
    rw [List.mem_map]
    constructor
    · rintro ⟨b, hb, rfl⟩
      rw [List.mem_filter] at hb
      exact (hm.mem _ _).2 ⟨b, hp.mem_iff.1 hb.1, rfl, hb.2, rfl⟩
    · intro h
      obtain ⟨b, hb, e, t, n⟩ := (hm.mem m.1 m.2).1 h
      exact ⟨b, List.mem_filter.2 ⟨hp.mem_iff.2 hb, t⟩, Prod.ext e n⟩
/-- A walk from the node under which all stand that begin so. -/
theorem Marks.walk (hm : Marks bs G T L) (hp : S.Perm bs) (hs : S.Pairwise (ltT T)) {p : Txt} {x : Nat} (hx : ∀ d ∈ bs, p <+: T d ↔ T x <+: T d) : walkL L p = mksOf G T (subs T S (T x)) := by
  rw [← hm.all hp hs]
  unfold walkL mksOf subs
  rw [List.filter_map, List.filter_filter, List.filter_filter]
  congr 1
  refine List.filter_congr fun d hd => ?_
  have := hx d (hp.mem_iff.1 hd)
  simp only [Function.comp]
  rw [Bool.and_comm]
  congr 1
  rw [Bool.eq_iff_iff, decide_eq_true_eq, List.isPrefixOf_iff_prefix]; exact this
theorem Marks.walk_none (hm : Marks bs G T L) {p : Txt} (hx : ∀ d ∈ bs, ¬ p <+: T d) : walkL L p = [] := by
  unfold walkL
  rw [List.filter_eq_nil_iff]
  intro m h
  obtain ⟨d, hd, e, _⟩ := (hm.mem m.1 m.2).1 h
  rw [← e]; simpa using hx d hd
end
end Go.Proofs.YtmlojbfcmebboaaGreat
/- Keys that share their beginnings, plain: the marks behind each operation on the nodes. -/
set_option linter.unusedVariables false
set_option linter.unusedSimpArgs false
namespace Go.Proofs.YtmlojbfcmebboaaGreat

def insM (x : MarkP) : List MarkP → List MarkP
  | [] => [x]
  | d :: r => if x.1 < d.1 then x :: d :: r else d :: insM x r
def cutM (k : Txt) (L : List MarkP) : List MarkP := L.filter fun m => decide (m.1 ≠ k)
def putM (k : Txt) (n : Int) (L : List MarkP) : List MarkP := insM (k, n) (cutM k L)
theorem insM_perm (x : MarkP) (l : List MarkP) : (insM x l).Perm (x :: l) := by
  induction l with
  | nil => exact List.Perm.refl _
  | cons d r ih =>
    unfold insM; split
    · exact List.Perm.refl _
    · exact (ih.cons d).trans (List.Perm.swap x d r)
theorem insM_rise {x : MarkP} {l : List MarkP} (h : l.Pairwise ltM) (hn : ∀ d ∈ l, d.1 ≠ x.1) : (insM x l).Pairwise ltM := by
  induction l with
  | nil => simp [insM]
  | cons d r ih =>
    rw [List.pairwise_cons] at h
    unfold insM
    by_cases hx : x.1 < d.1
    · rw [if_pos hx, List.pairwise_cons, List.pairwise_cons]
      refine ⟨fun y hy => ?_, h⟩
      rcases List.mem_cons.1 hy with rfl | hy
      · exact hx
      · exact List.lt_trans hx (h.1 y hy)
    · rw [if_neg hx, List.pairwise_cons]
      refine ⟨fun y hy => ?_, ih h.2 fun y hy => hn y (List.mem_cons_of_mem _ hy)⟩
      rcases List.mem_cons.1 ((insM_perm x r).mem_iff.1 hy) with rfl | hy
      · have hle := List.not_lt.1 hx
        rcases List.le_iff_lt_or_eq.1 hle with g | g
        · exact g
        · exact absurd g (hn d (List.mem_cons_self ..))
      · exact h.1 y hy
theorem cutM_mem {k : Txt} {L : List MarkP} {m : MarkP} : m ∈ cutM k L ↔ m ∈ L ∧ m.1 ≠ k := by unfold cutM; simp
theorem putM_mem {k : Txt} {n : Int} {L : List MarkP} {m : MarkP} : m ∈ putM k n L ↔ m = (k, n) ∨ m ∈ L ∧ m.1 ≠ k := by
  unfold putM; rw [(insM_perm _ _).mem_iff, List.mem_cons, cutM_mem]
theorem putM_rise {k : Txt} {n : Int} {L : List MarkP} (h : L.Pairwise ltM) : (putM k n L).Pairwise ltM := insM_rise (h.filter _) fun d hd => (cutM_mem.1 hd).2
section
variable {r : Nat} {bs bs' : List Nat} {G G' : Nat → Nd} {T T' : Nat → Txt} {L : List MarkP}
theorem Marks.same (hm : Marks bs G T L) (h1 : ∀ x ∈ bs, (G x).there = true → x ∈ bs' ∧ (G' x).there = true ∧ (G' x).n = (G x).n ∧ T' x = T x) (h2 : ∀ x ∈ bs', (G' x).there = true → x ∈ bs ∧ (G x).there = true ∧ (G' x).n = (G x).n ∧ T' x = T x) : Marks bs' G' T' L := by
  refine ⟨hm.rise, fun k n => ?_⟩
  rw [hm.mem]
  constructor
  · rintro ⟨b, hb, e, t, q⟩
    obtain ⟨a1, a2, a3, a4⟩ := h1 b hb t
    exact ⟨b, a1, a4.trans e, a2, a3.trans q⟩
  · rintro ⟨b, hb, e, t, q⟩
    obtain ⟨a1, a2, a3, a4⟩ := h2 b hb t
    exact ⟨b, a1, a4.symm.trans e, a2, a3.symm.trans q⟩
theorem Marks.leaf (hm : Marks bs G T L) {b c : Nat} {p t : Txt} {K1 K2 : List Nat} (hb : b ∈ bs) (hc : c ∉ bs) : Marks (c :: bs) (leafG G b c p K1 K2) (setT T c t) L := by
  have ne : ∀ x ∈ bs, x ≠ c := fun x hx e => hc (e ▸ hx)
  have gg : ∀ x ∈ bs, (leafG G b c p K1 K2 x).there = (G x).there ∧ (leafG G b c p K1 K2 x).n = (G x).n ∧ setT T c t x = T x := fun x hx => by
    unfold leafG setT; rw [if_neg (ne x hx), if_neg (ne x hx)]; split
    · rename_i e; subst e; exact ⟨rfl, rfl, rfl⟩
    · exact ⟨rfl, rfl, rfl⟩
  refine hm.same (fun x hx ht => ?_) (fun x hx ht => ?_)
  · obtain ⟨a1, a2, a3⟩ := gg x hx
    exact ⟨List.mem_cons_of_mem _ hx, a1.trans ht, a2, a3⟩
  · rcases List.mem_cons.1 hx with e | hx
    · rw [e] at ht; unfold leafG at ht; rw [if_pos rfl] at ht; cases ht
    · obtain ⟨a1, a2, a3⟩ := gg x hx
      exact ⟨hx, a1.symm.trans ht, a2, a3⟩
theorem Marks.split (hm : Marks bs G T L) {b d y : Nat} {p1 p2 t : Txt} {K1 K2 : List Nat} (hd : d ∉ bs) : Marks (d :: bs) (partG G b d y p1 p2 K1 K2) (setT T d t) L := by
  have ne : ∀ x ∈ bs, x ≠ d := fun x hx e => hd (e ▸ hx)
  have gg : ∀ x ∈ bs, (partG G b d y p1 p2 K1 K2 x).there = (G x).there ∧ (partG G b d y p1 p2 K1 K2 x).n = (G x).n ∧ setT T d t x = T x := fun x hx => by
    unfold partG setT; rw [if_neg (ne x hx), if_neg (ne x hx)]; split
    · rename_i e; subst e; exact ⟨rfl, rfl, rfl⟩
    · split
      · rename_i e; subst e; exact ⟨rfl, rfl, rfl⟩
      · exact ⟨rfl, rfl, rfl⟩
  refine hm.same (fun x hx ht => ?_) (fun x hx ht => ?_)
  · obtain ⟨a1, a2, a3⟩ := gg x hx
    exact ⟨List.mem_cons_of_mem _ hx, a1.trans ht, a2, a3⟩
  · rcases List.mem_cons.1 hx with e | hx
    · rw [e] at ht; unfold partG at ht; rw [if_pos rfl] at ht; cases ht
    · obtain ⟨a1, a2, a3⟩ := gg x hx
      exact ⟨hx, a1.symm.trans ht, a2, a3⟩
theorem Marks.less (hm : Marks bs G T L) (h : Flat r bs G T) {b x : Nat} {K : List Nat} (hx : (G x).there = false) : Marks (bs.erase x) (lessG G b K) T L := by
  have gg : ∀ y, (lessG G b K y).there = (G y).there ∧ (lessG G b K y).n = (G y).n := fun y => by
    unfold lessG; split
    · rename_i e; subst e; exact ⟨rfl, rfl⟩
    · exact ⟨rfl, rfl⟩
  refine hm.same (fun y hy ht => ⟨h.nodup.mem_erase_iff.2 ⟨?_, hy⟩, (gg y).1.trans ht, (gg y).2, rfl⟩) (fun y hy ht => ⟨(h.nodup.mem_erase_iff.1 hy).2, (gg y).1.symm.trans ht, (gg y).2, rfl⟩)
  rintro rfl; rw [hx] at ht; cases ht
theorem Marks.join (hm : Marks bs G T L) (h : Flat r bs G T) {b x y : Nat} {p : Txt} {K : List Nat} (hx : (G x).there = false) : Marks (bs.erase x) (joinG G b y p K) T L := by
  have gg : ∀ z, (joinG G b y p K z).there = (G z).there ∧ (joinG G b y p K z).n = (G z).n := fun z => by
    unfold joinG; split
    · rename_i e; subst e; exact ⟨rfl, rfl⟩
    · split
      · rename_i e; subst e; exact ⟨rfl, rfl⟩
      · exact ⟨rfl, rfl⟩
  refine hm.same (fun z hz ht => ⟨h.nodup.mem_erase_iff.2 ⟨?_, hz⟩, (gg z).1.trans ht, (gg z).2, rfl⟩) (fun z hz ht => ⟨(h.nodup.mem_erase_iff.1 hz).2, (gg z).1.symm.trans ht, (gg z).2, rfl⟩)
  rintro rfl; rw [hx] at ht; cases ht
theorem Marks.put (hm : Marks bs G T L) (h : Flat r bs G T) {b : Nat} (hb : b ∈ bs) (n : Int) : Marks bs (markG G b true n) T (putM (T b) n L) := by
  refine ⟨putM_rise hm.rise, fun k q => ?_⟩
  rw [putM_mem]
  constructor
  · rintro (e | ⟨hk, ne⟩)
    · cases e; exact ⟨b, hb, rfl, by unfold markG; rw [if_pos rfl], by unfold markG; rw [if_pos rfl]⟩
    · obtain ⟨c, hc, e, t, q'⟩ := (hm.mem k q).1 hk
      have cb : c ≠ b := by rintro rfl; exact ne e.symm
      exact ⟨c, hc, e, by unfold markG; rw [if_neg cb]; exact t, by unfold markG; rw [if_neg cb]; exact q'⟩
  · rintro ⟨c, hc, e, t, q'⟩
    by_cases cb : c = b
    · subst cb
      unfold markG at q'; rw [if_pos rfl] at q'
      left; rw [← e, ← q']
    · unfold markG at t q'; rw [if_neg cb] at t q'
      exact Or.inr ⟨(hm.mem k q).2 ⟨c, hc, e, t, q'⟩, fun e2 => cb (h.inj hc hb (e.trans e2))⟩
theorem Marks.cut (hm : Marks bs G T L) (h : Flat r bs G T) {b : Nat} (hb : b ∈ bs) (n : Int) : Marks bs (markG G b false n) T (cutM (T b) L) := by
  refine ⟨hm.rise.filter _, fun k q => ?_⟩
  rw [cutM_mem]
  constructor
  · rintro ⟨hk, ne⟩
    obtain ⟨c, hc, e, t, q'⟩ := (hm.mem k q).1 hk
    have cb : c ≠ b := by rintro rfl; exact ne e.symm
    exact ⟨c, hc, e, by unfold markG; rw [if_neg cb]; exact t, by unfold markG; rw [if_neg cb]; exact q'⟩
  · rintro ⟨c, hc, e, t, q'⟩
    by_cases cb : c = b
    · subst cb
      unfold markG at t; rw [if_pos rfl] at t; cases t
    · unfold markG at t q'; rw [if_neg cb] at t q'
      exact ⟨(hm.mem k q).2 ⟨c, hc, e, t, q'⟩, fun e2 => cb (h.inj hc hb (e.trans e2))⟩
end
end Go.Proofs.YtmlojbfcmebboaaGreat
/- Keys that share their beginnings, plain: the way of Put. -/
set_option linter.unusedVariables false
set_option linter.unusedSimpArgs false
namespace Go.Proofs.YtmlojbfcmebboaaGreat

def needN (G : Nat → Nd) (b : Nat) : Prop := (G b).there = true ∨ 2 ≤ (G b).kids.length
/-- Put stands at x, and rest is still to be gone. -/
structure PutAt (r : Nat) (bs : List Nat) (G : Nat → Nd) (T : Nat → Txt) (L : List MarkP) (key : Txt) (x : Nat) (rest : Txt) : Prop where
  flat : Flat r bs G T
  marks : Marks bs G T L
  xm : x ∈ bs
  eqn : T x ++ rest = key
  need : ∀ b ∈ bs, b ≠ r → b ≠ x → needN G b
  ok : x = r ∨ needN G x ∨ rest = [] ∨ ∃ z, (G x).kids = [z] ∧ hdN G z ≠ rest.headD 0
section
variable {r : Nat} {bs : List Nat} {G : Nat → Nd} {T : Nat → Txt} {L : List MarkP} {key rest r1 : Txt} {x y d : Nat} {c : UInt8} {K1 K2 : List Nat}
theorem PutAt.begin (h : Flat r bs G T) (hm : Marks bs G T L) (hn : Need r bs G) (key : Txt) : PutAt r bs G T L key r key :=
  ⟨h, hm, h.root, by rw [h.troot]; rfl, fun b hb ne _ => hn b hb ne, Or.inl rfl⟩
theorem PutAt.need_x (h : PutAt r bs G T L key x rest) (hr : rest = c :: r1) (hy : y ∈ (G x).kids) (hc : hdN G y = c) : x = r ∨ needN G x := by
  rcases h.ok with e | e | e | ⟨z, e, ne⟩
  · exact Or.inl e
  · exact Or.inr e
  · rw [hr] at e; cases e
  · rw [e, List.mem_singleton] at hy
    subst hy; rw [hr] at ne; exact absurd hc ne
/-- On, to one below. -/
theorem PutAt.down (h : PutAt r bs G T L key x rest) (hr : rest = c :: r1) (hy : y ∈ (G x).kids) (hc : hdN G y = c) (hp : (G y).part <+: rest) : PutAt r bs G T L key y (rest.drop (G y).part.length) := by
  obtain ⟨m, n, e⟩ := h.flat.kid x h.xm y hy
  have yx : y ≠ x := by rintro rfl; exact absurd (h.flat.kid_len h.xm hy) (Nat.lt_irrefl _)
  have yr := h.flat.not_root h.xm hy
  refine ⟨h.flat, h.marks, m, ?_, fun b hb nr ny => ?_, Or.inr (Or.inl (h.need y m yr yx))⟩
  · obtain ⟨u, hu⟩ := hp
    rw [e, ← h.eqn, ← hu, List.append_assoc, List.drop_left]
  · by_cases bx : b = x
    · subst bx
      rcases h.need_x hr hy hc with e | e
      · exact absurd e nr
      · exact e
    · exact h.need b hb nr bx
/-- A new node. -/
theorem PutAt.leaf (h : PutAt r bs G T L key x rest) (hr : rest = c :: r1) (hd : d ∉ bs) (hk : (G x).kids = K1 ++ K2) (h1 : ∀ z ∈ K1, hdN G z < c) (h2 : ∀ z ∈ K2, c < hdN G z) :
    PutAt r (d :: bs) (leafG G x d rest K1 K2) (setT T d (T x ++ rest)) L key d [] := by
  have ne : ∀ z ∈ bs, z ≠ d := fun z hz e => hd (e ▸ hz)
  refine ⟨h.flat.leaf h.xm hd hk (by rw [hr]; simp) (by rw [hr]; exact h1) (by rw [hr]; exact h2), h.marks.leaf h.xm hd, List.mem_cons_self .., ?_, fun b hb nr nd => ?_, Or.inr (Or.inr (Or.inl rfl))⟩
  · unfold setT; rw [if_pos rfl, List.append_nil]; exact h.eqn
  · rcases List.mem_cons.1 hb with e | hb
    · exact absurd e nd
    · unfold needN leafG
      rw [if_neg nd]
      by_cases bx : b = x
      · rw [if_pos bx]
        subst bx
        rcases h.ok with e | e | e | ⟨z, e, _⟩
        · exact absurd e nr
        · rcases e with e | e
          · exact Or.inl e
          · right
            show 2 ≤ (K1 ++ d :: K2).length
            rw [hk, List.length_append] at e
            rw [List.length_append, List.length_cons]; omega
        · rw [hr] at e; cases e
        · right
          show 2 ≤ (K1 ++ d :: K2).length
          have := congrArg List.length e
          rw [hk, List.length_append] at this
          rw [List.length_append, List.length_cons]; simp at this; omega
      · rw [if_neg bx]; exact h.need b hb nr bx
theorem PutAt.split (h : PutAt r bs G T L key x rest) (hr : rest = c :: r1) (hd : d ∉ bs) (hk : (G x).kids = K1 ++ y :: K2) (hc : hdN G y = c) (hp : ¬ (G y).part <+: rest) :
    PutAt r (d :: bs) (partG G x d y (lcp (G y).part rest) ((G y).part.drop (lcp (G y).part rest).length) K1 K2) (setT T d (T x ++ lcp (G y).part rest)) L key d (rest.drop (lcp (G y).part rest).length) := by
  have hy : y ∈ (G x).kids := by rw [hk]; simp
  obtain ⟨m, n, e⟩ := h.flat.kid x h.xm y hy
  have yx : y ≠ x := by rintro rfl; exact absurd (h.flat.kid_len h.xm hy) (Nat.lt_irrefl _)
  have yr := h.flat.not_root h.xm hy
  have ne : ∀ z ∈ bs, z ≠ d := fun z hz e => hd (e ▸ hz)
  obtain ⟨u, hu⟩ := lcp_left (G y).part rest
  obtain ⟨v, hv⟩ := lcp_right (G y).part rest
  have hq : (G y).part = lcp (G y).part rest ++ (G y).part.drop (lcp (G y).part rest).length := by
    conv => lhs; rw [← hu]
    congr 1
    conv => rhs; rw [← hu]
    rw [hu, ← hu, List.drop_append]; simp [hu]
  have n1 : lcp (G y).part rest ≠ [] := by
    cases hg : (G y).part with
    | nil => exact absurd hg n
    | cons p0 p =>
      have : p0 = c := by unfold hdN at hc; rw [hg] at hc; exact hc
      rw [hr, this]; simp [lcp]
  have n2 : (G y).part.drop (lcp (G y).part rest).length ≠ [] := fun e0 => by
    rw [e0, List.append_nil] at hq
    exact hp (hq ▸ lcp_right _ _)
  have hdv : rest.drop (lcp (G y).part rest).length = v := by
    have : rest.drop (lcp (G y).part rest).length = (lcp (G y).part rest ++ v).drop (lcp (G y).part rest).length := by rw [hv]
    rw [this, List.drop_left]
  refine ⟨h.flat.split h.xm hd hk hq n1 n2, h.marks.split hd, List.mem_cons_self .., ?_, fun b hb nr nd => ?_, Or.inr (Or.inr ?_)⟩
  · unfold setT; rw [if_pos rfl, hdv, List.append_assoc, hv]; exact h.eqn
  · rcases List.mem_cons.1 hb with e | hb
    · exact absurd e nd
    · unfold needN partG
      rw [if_neg nd]
      by_cases bY : b = y
      · rw [if_pos bY]
        have := h.need y m yr yx
        exact this
      · rw [if_neg bY]
        by_cases bx : b = x
        · rw [if_pos bx]
          subst bx
          rcases h.need_x hr hy hc with e | e
          · exact absurd e nr
          · rcases e with e | e
            · exact Or.inl e
            · right
              show 2 ≤ (K1 ++ d :: K2).length
              rw [hk] at e
              simpa using e
        · rw [if_neg bx]; exact h.need b hb nr bx
  · by_cases hv0 : v = []
    · left; rw [hdv]; exact hv0
    · right
      refine ⟨y, by unfold partG; rw [if_pos rfl], ?_⟩
      rw [hdv]
      intro e0
      have hh : hdN (partG G x d y (lcp (G y).part rest) ((G y).part.drop (lcp (G y).part rest).length) K1 K2) y = ((G y).part.drop (lcp (G y).part rest).length).headD 0 := by
        unfold hdN partG; rw [if_neg (ne y m), if_pos rfl]
      rw [hh] at e0
      generalize hw : (G y).part.drop (lcp (G y).part rest).length = w at *
      have h3 : lcp (G y).part rest = lcp (G y).part rest ++ lcp w v := by
        conv => lhs; rw [hq, ← hv]
        rw [← lcp_append, hv]
      have h4 : lcp w v = [] := by
        have := congrArg List.length h3
        rw [List.length_append] at this
        exact List.length_eq_zero_iff.1 (by omega)
      cases w with
      | nil => exact n2 rfl
      | cons w0 w1 =>
        cases v with
        | nil => exact hv0 rfl
        | cons v0 v1 =>
          have : w0 = v0 := e0
          subst this
          simp [lcp] at h4
theorem PutAt.done (h : PutAt r bs G T L key x []) (n : Int) : Flat r bs (markG G x true n) T ∧ Need r bs (markG G x true n) ∧ Marks bs (markG G x true n) T (putM key n L) := by
  have e : T x = key := by rw [← h.eqn, List.append_nil]
  refine ⟨h.flat.mark x true n, fun b hb nr => ?_, by rw [← e]; exact h.marks.put h.flat h.xm n⟩
  by_cases bx : b = x
  · left; unfold markG; rw [if_pos bx]
  · have := h.need b hb nr bx
    unfold markG; rw [if_neg bx]; exact this
end
end Go.Proofs.YtmlojbfcmebboaaGreat
/- Keys that share their beginnings, plain: the way of Drop. -/
set_option linter.unusedVariables false
set_option linter.unusedSimpArgs false
namespace Go.Proofs.YtmlojbfcmebboaaGreat

/-- Drop mends the way l, at whose end is x. -/
structure DropAt (r : Nat) (bs : List Nat) (G : Nat → Nd) (T : Nat → Txt) (L : List MarkP) (l : List Nat) (x : Nat) : Prop where
  flat : Flat r bs G T
  marks : Marks bs G T L
  way : WayTo G r l x
  xm : x ∈ bs
  need : ∀ b ∈ bs, b ≠ r → b ≠ x → needN G b
section
variable {r : Nat} {bs : List Nat} {G G' : Nat → Nd} {T : Nat → Txt} {L : List MarkP} {l l0 : List Nat} {x y up : Nat} {K1 K2 : List Nat}
theorem WayTo.mem (h : Flat r bs G T) (hw : WayTo G r l x) : x ∈ bs := by
  induction hw with
  | root => exact h.root
  | step _ hc ih => exact (h.kid _ ih _ hc).1
theorem WayTo.congr (h : Flat r bs G T) (hk : ∀ z ∈ bs, z ≠ up → (G' z).kids = (G z).kids) (hw : WayTo G r l x) (hl : (T x).length ≤ (T up).length) : WayTo G' r l x := by
  induction hw with
  | root => exact .root
  | step h1 hc ih =>
    rename_i l1 b c
    have hb := h1.mem h
    have hlen := h.kid_len hb hc
    refine .step (ih (by omega)) ?_
    rw [hk b hb (by rintro rfl; omega)]; exact hc
theorem DropAt.begin (h : Flat r bs G T) (hm : Marks bs G T L) (hn : Need r bs G) (hw : WayTo G r l x) (n : Int) : DropAt r bs (markG G x false n) T (cutM (T x) L) l x := by
  have hx := hw.mem h
  have gk : ∀ z, (markG G x false n z).kids = (G z).kids := fun z => by unfold markG; split <;> first | rfl | (rename_i e; subst e; rfl)
  refine ⟨h.mark x false n, hm.cut h hx n, hw.congr (up := x) h (fun z _ _ => gk z) (Nat.le_refl _), hx, fun b hb nr nx => ?_⟩
  have := hn b hb nr
  unfold needN markG; rw [if_neg nx]; exact this
theorem DropAt.keep (h : DropAt r bs G T L (l0 ++ [x]) x) (hw : WayTo G r l0 up) (hn : needN G x) : DropAt r bs G T L l0 up ∧ Need r bs G := by
  have N : Need r bs G := fun b hb nr => by
    by_cases bx : b = x
    · rw [bx]; exact hn
    · exact h.need b hb nr bx
  exact ⟨⟨h.flat, h.marks, hw, hw.mem h.flat, fun b hb nr _ => N b hb nr⟩, N⟩
theorem DropAt.less (h : DropAt r bs G T L (l0 ++ [x]) x) (hw : WayTo G r l0 up) (hk : (G up).kids = K1 ++ x :: K2) (ht : (G x).there = false) (hx : (G x).kids = []) :
    DropAt r (bs.erase x) (lessG G up (K1 ++ K2)) T L l0 up := by
  have hup := hw.mem h.flat
  have hxk : x ∈ (G up).kids := by rw [hk]; simp
  have ux : up ≠ x := by rintro rfl; exact absurd (h.flat.kid_len hup hxk) (Nat.lt_irrefl _)
  refine ⟨h.flat.less hup hk hx, h.marks.less h.flat ht, hw.congr (up := up) h.flat (fun z _ nz => by unfold lessG; rw [if_neg nz]) (Nat.le_refl _), h.flat.nodup.mem_erase_iff.2 ⟨ux, hup⟩, fun b hb nr nu => ?_⟩
  obtain ⟨bx, hb⟩ := h.flat.nodup.mem_erase_iff.1 hb
  have := h.need b hb nr bx
  unfold needN lessG; rw [if_neg nu]; exact this
theorem DropAt.join (h : DropAt r bs G T L (l0 ++ [x]) x) (hw : WayTo G r l0 up) (hk : (G up).kids = K1 ++ x :: K2) (ht : (G x).there = false) (hx : (G x).kids = [y]) :
    DropAt r (bs.erase x) (joinG G up y ((G x).part ++ (G y).part) (K1 ++ y :: K2)) T L l0 up := by
  have hup := hw.mem h.flat
  have hxk : x ∈ (G up).kids := by rw [hk]; simp
  have hxm := (h.flat.kid up hup x hxk).1
  have hyk : y ∈ (G x).kids := by rw [hx]; simp
  have l1 := h.flat.kid_len hup hxk
  have l2 := h.flat.kid_len hxm hyk
  have ux : up ≠ x := by rintro rfl; omega
  have yu : y ≠ up := by rintro rfl; omega
  have gk : ∀ z, z ≠ up → (joinG G up y ((G x).part ++ (G y).part) (K1 ++ y :: K2) z).kids = (G z).kids ∧ (joinG G up y ((G x).part ++ (G y).part) (K1 ++ y :: K2) z).there = (G z).there := fun z nz => by
    unfold joinG; split
    · rename_i e; subst e; exact ⟨rfl, rfl⟩
    · exact ⟨rfl, rfl⟩
  refine ⟨h.flat.join hup hk hx, h.marks.join h.flat ht, hw.congr (up := up) h.flat (fun z _ nz => (gk z nz).1) (Nat.le_refl _), h.flat.nodup.mem_erase_iff.2 ⟨ux, hup⟩, fun b hb nr nu => ?_⟩
  obtain ⟨bx, hb⟩ := h.flat.nodup.mem_erase_iff.1 hb
  have := h.need b hb nr bx
  unfold needN at *
  rw [(gk b nu).1, (gk b nu).2]; exact this
theorem DropAt.done (h : DropAt r bs G T L [r] x) : Need r bs G := by
  have : x = r := by
    have := h.way
    generalize hl : [r] = l1 at this
    cases this with
    | root => rfl
    | step h1 _ =>
      rename_i l2 b
      have := congrArg List.length hl
      obtain ⟨l3, e⟩ := h1.last
      rw [e] at this; simp at this
  subst this
  exact fun b hb nr => h.need b hb nr nr
end
end Go.Proofs.YtmlojbfcmebboaaGreat
/- Append of a whole row to a row of the call's own. -/
set_option linter.unusedVariables false
set_option linter.unusedSimpArgs false
namespace Go.Proofs.YtmlojbfcmebboaaGreat
open Go.RowKit

theorem append_row {P : Program} (w : World) (base base2 : Nat) (t ty e : TypeId) (i : TypeInfo) (z : Value) (bytes : Nat) (ht : P.underlying t = some (.slice e)) (hi : P.info? e = some i) (hz : i.zero = some z)
    (hsize : i.size = 1) (hby : i.bytes = bytes) (hzs : z.cells.size = 1) (v v2 : Value) (n m : Nat) (xs ys : List Value) (hown : w.ownsRow base e 1 v n xs) (h2 : w.ownsRow base2 e 1 v2 m ys) (h1 : ∀ u ∈ ys, u.oneCell' = true)
    (h63 : n + m ≤ maxLen) (hbytes : (n + m) * bytes ≤ 140737488355328) (hbase : base ≤ w.heap.size) :
    ∃ v' w', (Builtin.append_ #[t, t] ty #[v, v2]).run P w = .ok v' w' ∧ w'.ownsRow base e 1 v' (n + m) (xs ++ ys) ∧ Upd (fun k => v.ownBlock = some k) w w' ∧ NewOr v v' w := by
  obtain ⟨hlen, hv2⟩ := h2
  have hsh : ∃ a c, v2 = .slice a m c ∧ (m = 0 ∨ ∃ g, a = some ⟨g, 0, none⟩) ∧ (∀ g, a = some ⟨g, 0, none⟩ → ∀ j u, ys[j]? = some u → w.cell? ((⟨g, 0, none⟩ : Addr).add j) = some u) := by
    rcases hv2 with ⟨rfl, rfl⟩ | ⟨g, cap, cur, rfl, _, hh, q1, q2, q3, q4⟩
    · exact ⟨none, 0, rfl, Or.inl rfl, fun g h => by cases h⟩
    · refine ⟨some ⟨g, 0, none⟩, cap, rfl, Or.inr ⟨g, rfl⟩, fun g' hg' j u hj => ?_⟩
      cases hg'
      have : (⟨g, 0, none⟩ : Addr).add j = ⟨g, j, none⟩ := by unfold Addr.add; split <;> simp_all
      rw [this, cell_of_row w g j cur e (0, 0) hh]
      rw [← q4, List.getElem?_take] at hj
      split at hj
      · simpa using hj
      · cases hj
  obtain ⟨a, c, rfl, hm, hc⟩ := hsh
  by_cases h0 : m = 0
  · subst h0
    have hys : ys = [] := List.length_eq_zero_iff.1 (by omega)
    subst hys
    have hv : ∃ p cp, v = .slice p n cp ∧ n ≤ cp := by
      rcases hown.2 with ⟨rfl, rfl⟩ | ⟨g, cap, cur, rfl, _, _, q1, _⟩
      · exact ⟨_, _, rfl, Nat.le_refl _⟩
      · exact ⟨_, _, rfl, q1⟩
    obtain ⟨p, cp, rfl, hle⟩ := hv
    have hs : Src P i.size t (.slice a 0 c) 0 [] w := by
      cases a with
      | none => exact Src.ofNil w ht c
      | some a => exact Src.ofSlice w ht a 0 c [] (by simp) (fun j u h => by simp at h) (fun u h => by cases h)
    refine ⟨_, _, run_append_nothing (P := P) w t t ty e i ht hi p n cp hle _ hs, by simpa using hown, Upd.refl _ _, fun k hk => Or.inl hk⟩
  · obtain ⟨g, rfl⟩ : ∃ g, a = some ⟨g, 0, none⟩ := hm.elim (fun e => absurd e h0) id
    obtain ⟨v', w', hr, q2, q3, _⟩ := run_append_own (P := P) w base t ty e i z 1 bytes ht hi hz hsize hby hzs (by decide) v n xs hown ⟨g, 0, none⟩ m c ys hlen (hc g rfl) h1 h63 hbytes hbase
    exact ⟨v', w', hr, q2, (Upd.of_grown q3).weaken (fun k _ hk => hk.symm), run_append_where (P := P) w base t ty e i z 1 bytes ht hi hz hsize hby v n xs hown ⟨g, 0, none⟩ m c ys hlen (hc g rfl) h1 (Nat.pos_of_ne_zero h0) h63 hbytes v' w' hr⟩
/-- A step of a region that draws its order: append. -/
theorem step_builtin {P : Program} {ops : Array Oper} {o : Oper} {a : Act} {w w' : World} {K : Act → World → Prop} {Q : Exit → Act → World → Prop} {E : Prop} {v' : Value} (hg : o.guard = none) (s x : Operand) (t : TypeId)
    (ho : o.op = .call { callee := .builtin .append, args := #[s, x], argTypes := #[t, t] }) (u y : Value) (hs : a.eval s = u) (hx : a.eval x = y)
    (hr : (Builtin.append_ #[t, t] o.type #[u, y]).run P w = .ok v' w') (hK : K (a.put o.dst v') w') :
    if Region.wanted o (yielded ops a.tmps) = true then Oper.wp P o a w K Q else E := by
  have hw : Region.wanted o (yielded ops a.tmps) = true := by simp [Region.wanted, hg]
  rw [if_pos hw]
  unfold Oper.wp execOp
  subst hs hx
  simp only [ho, resolve, invoke, builtin, Sem.run_bind, Sem.run_pure, Result.andThen_ok, List.map_toArray, List.map_cons, List.map_nil, hr]
  exact hK
theorem wpList_builtin {P : Program} {ops : Array Oper} {rest : List Oper} {o : Oper} {a : Act} {w w' : World} {Q : Exit → Act → World → Prop} {v' : Value} (hg : o.guard = none) (s x : Operand) (t : TypeId)
    (ho : o.op = .call { callee := .builtin .append, args := #[s, x], argTypes := #[t, t] }) (u y : Value) (hs : a.eval s = u) (hx : a.eval x = y)
    (hr : (Builtin.append_ #[t, t] o.type #[u, y]).run P w = .ok v' w') (hK : wpList P ops Q rest (a.put o.dst v') w') : wpList P ops Q (o :: rest) a w :=
  wpList_plain hg fun K hK' => by
    unfold Oper.wp execOp
    subst hs hx
    simp only [ho, resolve, invoke, builtin, Sem.run_bind, Sem.run_pure, Result.andThen_ok, List.map_toArray, List.map_cons, List.map_nil, hr]
    exact hK' _ _ hK
/-- A row of the call's own, without its last ones. -/
theorem own_cut {w : World} {base n m : Nat} {e : TypeId} {p : Option Addr} {c : Nat} {xs ys : List Value} (h : w.ownsRow base e 1 (.slice p n c) n (xs ++ ys)) (hm : xs.length = m) : w.ownsRow base e 1 (.slice p m c) m xs := by
  obtain ⟨hl, hv⟩ := h
  rw [List.length_append] at hl
  rcases hv with ⟨e1, rfl⟩ | ⟨g, cap, cur, e1, hg, hh, q1, q2, q3, q4⟩
  · cases e1
    have : m = 0 := by omega
    subst this
    exact ⟨by omega, Or.inl ⟨rfl, rfl⟩⟩
  · cases e1
    refine ⟨by omega, Or.inr ⟨g, _, cur, rfl, hg, hh, by omega, q2, q3, ?_⟩⟩
    rw [Nat.mul_one] at *
    have : cur.toList.take m = (cur.toList.take n).take m := by rw [List.take_take, Nat.min_eq_left (by omega)]
    rw [this, q4, ← hm, List.take_left]
end Go.Proofs.YtmlojbfcmebboaaGreat
/- Keys that share their beginnings: how many nodes. -/
set_option linter.unusedVariables false
set_option linter.unusedSimpArgs false
namespace Go.Proofs.YtmlojbfcmebboaaGreat
open Go.RowKit
theorem NodesAt.cut {w : World} {base : Nat} {p : Option Addr} {c : Nat} {l : List Nat} {b n : Nat} (h : NodesAt w base (.slice p n c) (l ++ [b])) (hn : n = l.length + 1) : NodesAt w base (.slice p l.length c) l := by
  subst hn
  unfold NodesAt at *
  rw [List.length_append, List.map_append] at h
  exact own_cut h (by simp)
theorem nodes_append (w : World) (base base2 : Nat) (ty : TypeId) (v v2 : Value) (l m : List Nat) (h : NodesAt w base v l) (h2 : NodesAt w base2 v2 m) (hl : l.length + m.length ≤ 100000000) (hb : base ≤ w.heap.size) :
    ∃ v' w', (Builtin.append_ #[182, 182] ty #[v, v2]).run Tryz.prog w = .ok v' w' ∧ NodesAt w' base v' (l ++ m) ∧ Upd (fun k => v.ownBlock = some k) w w' ∧ NewOr v v' w := by
  obtain ⟨i0, hi0, hz0, hz1, hz2⟩ := rinfo_parts nodep_info
  obtain ⟨v', w', hr, h3, h4, h5⟩ := append_row (P := Tryz.prog) w base base2 182 ty 192 i0 (.pointer none) 8 Tryz.underlying182 hi0 hz0 hz1 hz2 rfl v v2 l.length m.length (l.map ptr) (m.map ptr) h h2 (by intro u hu; obtain ⟨_, _, rfl⟩ := List.mem_map.1 hu; rfl) (by unfold maxLen; omega) (by omega) hb
  exact ⟨v', w', hr, by unfold NodesAt; rw [List.length_append, List.map_append]; exact h3, h4, h5⟩
end Go.Proofs.YtmlojbfcmebboaaGreat
/- Keys that share their beginnings: what the operations do to the nodes in memory. -/
set_option linter.unusedVariables false
set_option linter.unusedSimpArgs false
namespace Go.Proofs.YtmlojbfcmebboaaGreat
open Go.RowKit
def tailC (xa b : Nat) (many : Int) : List Value := if b = xa then [.int .i64 many] else []
def tyC (xa b : Nat) : TypeId := if b = xa then 186 else 184
section
variable {w w' : World} {base xa x y d up : Nat} {bs : List Nat} {G : Nat → Nd} {T : Nat → Txt} {row : Nat → Value} {many many' : Int} {K1 K2 : List Nat} {p p1 p2 : Txt} {v' : Value}
theorem RadR.node (h : RadR w base xa bs G T row many) {b : Nat} (hb : b ∈ bs) : Blk w b (ndc (G b) (row b) ++ tailC xa b many) (tyC xa b) := by
  unfold tailC tyC
  by_cases e : b = xa
  · subst e; rw [if_pos rfl, if_pos rfl]; exact h.x
  · rw [if_neg e, if_neg e, List.append_nil]; exact h.at_ b hb e
theorem RadR.of {bs : List Nat} {G : Nat → Nd} {T : Nat → Txt} (hf : Flat xa bs G T) (hn : ∀ b ∈ bs, Blk w b (ndc (G b) (row b) ++ tailC xa b many) (tyC xa b)) (ho : ∀ b ∈ bs, NodesAt w base (row b) (G b).kids)
    (ha : ∀ b ∈ bs, ∀ c ∈ bs, b ≠ c → ∀ k, (row b).ownBlock = some k → (row c).ownBlock ≠ some k) (hl : ∀ b ∈ bs, base ≤ b) (hs : ∀ b ∈ bs, (T b).length ≤ maxLen) : RadR w base xa bs G T row many := by
  refine ⟨hf, ?_, fun b hb e => ?_, ho, ha, hl, hs⟩
  · have := hn xa hf.root; unfold tailC tyC at this; rw [if_pos rfl, if_pos rfl] at this; exact this
  · have := hn b hb; unfold tailC tyC at this; rw [if_neg e, if_neg e, List.append_nil] at this; exact this
theorem tyC_ne (xa b : Nat) : tyC xa b ≠ 192 := by unfold tyC; split <;> decide
theorem NodesAt.ne_node {b k : Nat} {cs : List Value} {l : List Nat} {v : Value} (h : NodesAt w base v l) (hB : Blk w b cs (tyC xa d)) (hk : v.ownBlock = some k) : k ≠ b := by
  rintro rfl
  obtain ⟨_, _, cs', hB'⟩ := own_lt h hk
  exact tyC_ne xa d (hB.ty hB')
/-- A node more. -/
theorem RadR.leaf (h : RadR w base xa bs G T row many) (hf : Flat xa (d :: bs) (leafG G x d p K1 K2) (setT T d (T x ++ p))) (hx : x ∈ bs) (hd : w.heap.size ≤ d) (hbd : base ≤ d) (u : Upd (fun k => k = x ∨ (row x).ownBlock = some k) w w')
    (hX : Blk w' x (ndc { G x with kids := K1 ++ d :: K2 } v' ++ tailC xa x many) (tyC xa x)) (hD : Blk w' d (ndc ⟨p, false, 0, []⟩ (.slice none 0 0)) 184) (ho : NodesAt w' base v' (K1 ++ d :: K2)) (hn : NewOr (row x) v' w) (hs : (T x ++ p).length ≤ maxLen) :
    RadR w' base xa (d :: bs) (leafG G x d p K1 K2) (setT T d (T x ++ p)) (fun b => if b = d then .slice none 0 0 else if b = x then v' else row b) many := by
  have ne : ∀ b ∈ bs, b ≠ d := fun b hb e => by have := h.lt hb; omega
  have dx : d ≠ xa := fun e => ne xa h.flat.root e.symm
  refine RadR.of hf ?_ ?_ ?_ ?_ ?_
  · intro b hb
    rcases List.mem_cons.1 hb with e | hb
    · rw [e, if_pos rfl]
      unfold leafG tailC tyC; rw [if_pos rfl, if_neg dx, if_neg dx, List.append_nil]; exact hD
    · rw [if_neg (ne b hb)]
      unfold leafG; rw [if_neg (ne b hb)]
      by_cases e : b = x
      · subst e; rw [if_pos rfl, if_pos rfl]; exact hX
      · rw [if_neg e, if_neg e]
        exact u.blk (h.node hb) (fun g => g.elim e (fun g => h.row_ne hb hx g rfl))
  · intro b hb
    rcases List.mem_cons.1 hb with e | hb
    · rw [e, if_pos rfl]; unfold leafG; rw [if_pos rfl]; exact ⟨rfl, Or.inl ⟨rfl, rfl⟩⟩
    · rw [if_neg (ne b hb)]
      unfold leafG; rw [if_neg (ne b hb)]
      by_cases e : b = x
      · subst e; rw [if_pos rfl, if_pos rfl]; exact ho
      · rw [if_neg e, if_neg e]
        exact own_keep (h.own b hb) u (fun k hk g => g.elim (h.row_ne hx hb hk) (fun g => h.apart b hb x hx e k hk g))
  · intro b hb c hc ne' k hk hk2
    have far : ∀ b ∈ bs, b ≠ x → ∀ k, v'.ownBlock = some k → (row b).ownBlock = some k → False := fun b hb e k h1 h2 => by
      rcases hn k h1 with g | g
      · exact h.apart b hb x hx e k h2 g
      · have := (own_lt (h.own b hb) h2).1; omega
    rcases List.mem_cons.1 hb with e | hb
    · rw [e, if_pos rfl] at hk; cases hk
    · rcases List.mem_cons.1 hc with e | hc
      · rw [e, if_pos rfl] at hk2; cases hk2
      · rw [if_neg (ne b hb)] at hk
        rw [if_neg (ne c hc)] at hk2
        by_cases e1 : b = x <;> by_cases e2 : c = x
        · exact ne' (e1.trans e2.symm)
        · rw [if_pos e1] at hk; rw [if_neg e2] at hk2; exact far c hc e2 k hk hk2
        · rw [if_neg e1] at hk; rw [if_pos e2] at hk2; exact far b hb e1 k hk2 hk
        · rw [if_neg e1] at hk; rw [if_neg e2] at hk2; exact h.apart b hb c hc ne' k hk hk2
  · intro b hb
    rcases List.mem_cons.1 hb with e | hb
    · rw [e]; exact hbd
    · exact h.lo b hb
  · intro b hb
    unfold setT
    rcases List.mem_cons.1 hb with e | hb
    · rw [if_pos e]; exact hs
    · rw [if_neg (ne b hb)]; exact h.small b hb
/-- A node parted in two. -/
theorem RadR.split (h : RadR w base xa bs G T row many) (hf : Flat xa (d :: bs) (partG G x d y p1 p2 K1 K2) (setT T d (T x ++ p1))) (hx : x ∈ bs) (hy : y ∈ (G x).kids) (hd : w.heap.size ≤ d) (hbd : base ≤ d) (u : Upd (fun k => k = y ∨ (row x).ownBlock = some k) w w')
    (hY : Blk w' y (ndc { G y with part := p2 } (row y)) 184) (hD : Blk w' d (ndc ⟨p1, false, 0, [y]⟩ v') 184) (hv : NodesAt w' base v' [y]) (hn : ∀ k, v'.ownBlock = some k → w.heap.size ≤ k)
    (ho : NodesAt w' base (row x) (K1 ++ d :: K2)) (hs : (T x ++ p1).length ≤ maxLen) :
    RadR w' base xa (d :: bs) (partG G x d y p1 p2 K1 K2) (setT T d (T x ++ p1)) (fun b => if b = d then v' else row b) many := by
  have ne : ∀ b ∈ bs, b ≠ d := fun b hb e => by have := h.lt hb; omega
  have dx : d ≠ xa := fun e => ne xa h.flat.root e.symm
  obtain ⟨ym, yn, _⟩ := h.flat.kid x hx y hy
  have yx : y ≠ x := by rintro rfl; exact absurd (h.flat.kid_len hx hy) (Nat.lt_irrefl _)
  have yr := h.flat.not_root hx hy
  refine RadR.of hf ?_ ?_ ?_ ?_ ?_
  · intro b hb
    rcases List.mem_cons.1 hb with e | hb
    · rw [e, if_pos rfl]
      unfold partG tailC tyC; rw [if_pos rfl, if_neg dx, if_neg dx, List.append_nil]; exact hD
    · rw [if_neg (ne b hb)]
      unfold partG; rw [if_neg (ne b hb)]
      by_cases e : b = y
      · subst e
        unfold tailC tyC; rw [if_pos rfl, if_neg yr, if_neg yr, List.append_nil]; exact hY
      · have hB := u.blk (h.node hb) (fun g => g.elim e (fun g => h.row_ne hb hx g rfl))
        rw [if_neg e]
        by_cases e2 : b = x
        · subst e2; rw [if_pos rfl]; exact hB
        · rw [if_neg e2]; exact hB
  · intro b hb
    rcases List.mem_cons.1 hb with e | hb
    · rw [e, if_pos rfl]; unfold partG; rw [if_pos rfl]; exact hv
    · rw [if_neg (ne b hb)]
      unfold partG; rw [if_neg (ne b hb)]
      by_cases e2 : b = x
      · subst e2
        rw [if_neg (Ne.symm yx), if_pos rfl]; exact ho
      · have := own_keep (h.own b hb) u (fun k hk g => g.elim (h.row_ne ym hb hk) (fun g => h.apart b hb x hx e2 k hk g))
        by_cases e : b = y
        · subst e; rw [if_pos rfl]; exact this
        · rw [if_neg e, if_neg e2]; exact this
  · intro b hb c hc ne' k hk hk2
    rcases List.mem_cons.1 hb with e | hb
    · rw [e, if_pos rfl] at hk
      rcases List.mem_cons.1 hc with e2 | hc
      · exact ne' (e.trans e2.symm)
      · rw [if_neg (ne c hc)] at hk2
        have := hn k hk; have := (own_lt (h.own c hc) hk2).1; omega
    · rw [if_neg (ne b hb)] at hk
      rcases List.mem_cons.1 hc with e2 | hc
      · rw [e2, if_pos rfl] at hk2
        have := hn k hk2; have := (own_lt (h.own b hb) hk).1; omega
      · rw [if_neg (ne c hc)] at hk2; exact h.apart b hb c hc ne' k hk hk2
  · intro b hb
    rcases List.mem_cons.1 hb with e | hb
    · rw [e]; exact hbd
    · exact h.lo b hb
  · intro b hb
    unfold setT
    rcases List.mem_cons.1 hb with e | hb
    · rw [if_pos e]; exact hs
    · rw [if_neg (ne b hb)]; exact h.small b hb
/-- A node's mark, and how many. -/
theorem RadR.mark (h : RadR w base xa bs G T row many) {t : Bool} {n : Int} (u : Upd (fun k => k = x ∨ k = xa) w w')
    (hx : x ∈ bs) (hX : ∀ b, b = x ∨ b = xa → Blk w' b (ndc (markG G x t n b) (row b) ++ tailC xa b many') (tyC xa b)) : RadR w' base xa bs (markG G x t n) T row many' := by
  have gk : ∀ z, (markG G x t n z).kids = (G z).kids := fun z => by unfold markG; split <;> first | rfl | (rename_i e; subst e; rfl)
  refine RadR.of (h.flat.mark x t n) ?_ ?_ h.apart h.lo h.small
  · intro b hb
    by_cases e : b = x ∨ b = xa
    · exact hX b e
    · have e1 : b ≠ x := fun g => e (Or.inl g)
      have e2 : b ≠ xa := fun g => e (Or.inr g)
      have := u.blk (h.node hb) e
      unfold markG; rw [if_neg e1]
      unfold tailC at *; rw [if_neg e2] at *; exact this
  · intro b hb
    rw [gk]
    exact own_keep (h.own b hb) u (fun k hk g => g.elim (h.row_ne hx hb hk) (h.row_ne h.flat.root hb hk))
/-- A node less. -/
theorem RadR.less (h : RadR w base xa bs G T row many) (hf : Flat xa (bs.erase x) (lessG G up (K1 ++ K2)) T) (hup : up ∈ bs) (ux : up ≠ x) (u : Upd (fun k => k = up ∨ (row up).ownBlock = some k) w w')
    (hU : Blk w' up (ndc { G up with kids := K1 ++ K2 } v' ++ tailC xa up many) (tyC xa up)) (ho : NodesAt w' base v' (K1 ++ K2)) (hn : NewOr (row up) v' w) :
    RadR w' base xa (bs.erase x) (lessG G up (K1 ++ K2)) T (fun b => if b = up then v' else row b) many := by
  have me : ∀ b ∈ bs.erase x, b ∈ bs := fun b hb => (h.flat.nodup.mem_erase_iff.1 hb).2
  refine RadR.of hf ?_ ?_ ?_ (fun b hb => h.lo b (me b hb)) (fun b hb => h.small b (me b hb))
  · intro b hb
    unfold lessG
    by_cases e : b = up
    · subst e; rw [if_pos rfl, if_pos rfl]; exact hU
    · rw [if_neg e, if_neg e]
      exact u.blk (h.node (me b hb)) (fun g => g.elim e (fun g => h.row_ne (me b hb) hup g rfl))
  · intro b hb
    unfold lessG
    by_cases e : b = up
    · subst e; rw [if_pos rfl, if_pos rfl]; exact ho
    · rw [if_neg e, if_neg e]
      exact own_keep (h.own b (me b hb)) u (fun k hk g => g.elim (h.row_ne hup (me b hb) hk) (fun g => h.apart b (me b hb) up hup e k hk g))
  · intro b hb c hc ne' k hk hk2
    have far : ∀ b ∈ bs, b ≠ up → ∀ k, v'.ownBlock = some k → (row b).ownBlock = some k → False := fun b hb e k h1 h2 => by
      rcases hn k h1 with g | g
      · exact h.apart b hb up hup e k h2 g
      · have := (own_lt (h.own b hb) h2).1; omega
    by_cases e1 : b = up <;> by_cases e2 : c = up
    · exact ne' (e1.trans e2.symm)
    · rw [if_pos e1] at hk; rw [if_neg e2] at hk2; exact far c (me c hc) e2 k hk hk2
    · rw [if_neg e1] at hk; rw [if_pos e2] at hk2; exact far b (me b hb) e1 k hk2 hk
    · rw [if_neg e1] at hk; rw [if_neg e2] at hk2; exact h.apart b (me b hb) c (me c hc) ne' k hk hk2
/-- A node becomes one with the one below it. -/
theorem RadR.join (h : RadR w base xa bs G T row many) (hf : Flat xa (bs.erase x) (joinG G up y p (K1 ++ y :: K2)) T) (hup : up ∈ bs) (hy : y ∈ bs) (yu : y ≠ up) (yr : y ≠ xa) (u : Upd (fun k => k = y ∨ (row up).ownBlock = some k) w w')
    (hY : Blk w' y (ndc { G y with part := p } (row y)) 184) (ho : NodesAt w' base (row up) (K1 ++ y :: K2)) :
    RadR w' base xa (bs.erase x) (joinG G up y p (K1 ++ y :: K2)) T row many := by
  have me : ∀ b ∈ bs.erase x, b ∈ bs := fun b hb => (h.flat.nodup.mem_erase_iff.1 hb).2
  refine RadR.of hf ?_ ?_ (fun b hb c hc => h.apart b (me b hb) c (me c hc)) (fun b hb => h.lo b (me b hb)) (fun b hb => h.small b (me b hb))
  · intro b hb
    unfold joinG
    by_cases e : b = y
    · subst e
      unfold tailC tyC; rw [if_pos rfl, if_neg yr, if_neg yr, List.append_nil]; exact hY
    · rw [if_neg e]
      have := u.blk (h.node (me b hb)) (fun g => g.elim e (fun g => h.row_ne (me b hb) hup g rfl))
      by_cases e2 : b = up
      · subst e2; rw [if_pos rfl]; exact this
      · rw [if_neg e2]; exact this
  · intro b hb
    unfold joinG
    by_cases e2 : b = up
    · subst e2; rw [if_neg (Ne.symm yu), if_pos rfl]; exact ho
    · have := own_keep (h.own b (me b hb)) u (fun k hk g => g.elim (h.row_ne hy (me b hb) hk) (fun g => h.apart b (me b hb) up hup e2 k hk g))
      by_cases e : b = y
      · subst e; rw [if_pos rfl]; exact this
      · rw [if_neg e, if_neg e2]; exact this
end
end Go.Proofs.YtmlojbfcmebboaaGreat
