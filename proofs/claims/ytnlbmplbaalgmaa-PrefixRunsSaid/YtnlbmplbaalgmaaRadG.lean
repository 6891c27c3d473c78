/- Keys that share their beginnings, plain: the node under which all stand that begin so; a walk's marks. -/
import Derived.Test.YtnlbmplbaalgmaaRadF
set_option linter.unusedVariables false
set_option linter.unusedSimpArgs false
namespace Go.Proofs.Ytnlbmplbaalgmaa

theorem lcp_whole {a b : Txt} : (lcp a b).length = a.length ↔ a <+: b := by
  constructor
  · intro h
    have := (lcp_left a b).eq_of_length h
    rw [← this]; exact lcp_right a b
  · intro h; rw [lcp_of_pre h]
theorem lcp_whole2 {a b : Txt} : (lcp a b).length = b.length ↔ b <+: a := by rw [lcp_comm]; exact lcp_whole
namespace Flat
variable {r : Nat} {bs S : List Nat} {G : Nat → Nd} {T : Nat → Txt}
theorem under_kid (h : Flat r bs G T) {x d : Nat} {p rest r1 : Txt} {c : UInt8} (hx : x ∈ bs) (hd : d ∈ bs) (e : T x ++ rest = p) (hr : rest = c :: r1) (hp : p <+: T d) :
    ∃ z ∈ (G x).kids, hdN G z = c ∧ T z <+: T d ∧ ((G z).part <+: rest ∨ rest <+: (G z).part) := by
  obtain ⟨u, hu⟩ := hp
  have ed : T d = T x ++ (rest ++ u) := by rw [← List.append_assoc, e, hu]
  obtain ⟨z, hz, pz, pz2⟩ := h.down hx hd ed (by rw [hr]; simp)
  have nz := (h.kid x hx z hz).2.1
  refine ⟨z, hz, ?_, pz2, ?_⟩
  · have := headD_pre nz (b := rest ++ u) (by rw [hr]; simp) pz (List.prefix_refl _)
    rw [hr] at this; exact this
  · rcases Nat.le_total (G z).part.length rest.length with g | g
    · exact Or.inl (List.prefix_of_prefix_length_le pz (List.prefix_append _ _) g)
    · exact Or.inr (List.prefix_of_prefix_length_le (List.prefix_append _ _) pz g)
theorem under_miss (h : Flat r bs G T) {x : Nat} {p rest r1 : Txt} {c : UInt8} (hx : x ∈ bs) (e : T x ++ rest = p) (hr : rest = c :: r1) (hn : ∀ z ∈ (G x).kids, hdN G z ≠ c) : ∀ d ∈ bs, ¬ p <+: T d := fun d hd hp => by
  obtain ⟨z, hz, hc, _⟩ := h.under_kid hx hd e hr hp
  exact hn z hz hc
theorem under_next (h : Flat r bs G T) {x y : Nat} {p rest r1 : Txt} {c : UInt8} (hx : x ∈ bs) (e : T x ++ rest = p) (hr : rest = c :: r1) (hy : y ∈ (G x).kids) (hc : hdN G y = c) : ∀ d ∈ bs, p <+: T d → T y <+: T d ∧ ((G y).part <+: rest ∨ rest <+: (G y).part) := fun d hd hp => by
  obtain ⟨z, hz, hc', h1, h2⟩ := h.under_kid hx hd e hr hp
  have := pairwise_head (h.sorted x hx) hz hy (hc'.trans hc.symm)
  subst this
  exact ⟨h1, h2⟩
end Flat
/-- The marks of a row of nodes. -/
def mksOf (G : Nat → Nd) (T : Nat → Txt) (l : List Nat) : List MarkP := (l.filter fun b => (G b).there).map fun b => (T b, (G b).n)
theorem mksOf_cons (G : Nat → Nd) (T : Nat → Txt) (b : Nat) (l : List Nat) : mksOf G T (b :: l) = (if (G b).there then [(T b, (G b).n)] else []) ++ mksOf G T l := by
  unfold mksOf
  cases h : (G b).there <;> simp [List.filter_cons, h]
theorem mksOf_append (G : Nat → Nd) (T : Nat → Txt) (l m : List Nat) : mksOf G T (l ++ m) = mksOf G T l ++ mksOf G T m := by
  unfold mksOf; simp
def walkL (L : List MarkP) (p : Txt) : List MarkP := L.filter fun m => decide (p <+: m.1)
section
variable {r : Nat} {bs S : List Nat} {G : Nat → Nd} {T : Nat → Txt} {L : List MarkP}
/-- All marks, by the nodes in order. -/
theorem Marks.all (hm : Marks bs G T L) (hp : S.Perm bs) (hs : S.Pairwise (ltT T)) : mksOf G T S = L := by
  refine marks_ext ?_ hm.rise fun m => ?_
  · unfold mksOf
    rw [List.pairwise_map]
    exact (hs.filter _).imp fun h => h
  · unfold mksOf
    rw [List.mem_map]
    constructor
    · rintro ⟨b, hb, rfl⟩
      rw [List.mem_filter] at hb
      exact (hm.mem _ _).2 ⟨b, hp.mem_iff.1 hb.1, rfl, hb.2, rfl⟩
    · intro h
      obtain ⟨b, hb, e, t, n⟩ := (hm.mem m.1 m.2).1 h
      exact ⟨b, List.mem_filter.2 ⟨hp.mem_iff.2 hb, t⟩, Prod.ext e n⟩
/-- A walk from the node under which all stand that begin so. -/
theorem Marks.walk (hm : Marks bs G T L) (hp : S.Perm bs) (hs : S.Pairwise (ltT T)) {p : Txt} {x : Nat} (hx : ∀ d ∈ bs, p <+: T d ↔ T x <+: T d) : walkL L p = mksOf G T (subs T S (T x)) := by
  rw [← hm.all hp hs]
  unfold walkL mksOf subs
  rw [List.filter_map, List.filter_filter, List.filter_filter]
  congr 1
  refine List.filter_congr fun d hd => ?_
  have := hx d (hp.mem_iff.1 hd)
  simp only [Function.comp]
  rw [Bool.and_comm]
  congr 1
  rw [Bool.eq_iff_iff, decide_eq_true_eq, List.isPrefixOf_iff_prefix]; exact this
theorem Marks.walk_none (hm : Marks bs G T L) {p : Txt} (hx : ∀ d ∈ bs, ¬ p <+: T d) : walkL L p = [] := by
  unfold walkL
  rw [List.filter_eq_nil_iff]
  intro m h
  obtain ⟨d, hd, e, _⟩ := (hm.mem m.1 m.2).1 h
  rw [← e]; simpa using hx d hd
end
end Go.Proofs.Ytnlbmplbaalgmaa
