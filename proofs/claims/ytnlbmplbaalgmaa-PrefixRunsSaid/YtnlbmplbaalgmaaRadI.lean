/- Keys that share their beginnings, plain: the marks behind each operation on the nodes. -/
import Derived.Test.YtnlbmplbaalgmaaRadG
set_option linter.unusedVariables false
set_option linter.unusedSimpArgs false
namespace Go.Proofs.Ytnlbmplbaalgmaa

def insM (x : MarkP) : List MarkP → List MarkP
  | [] => [x]
  | d :: r => if x.1 < d.1 then x :: d :: r else d :: insM x r
def cutM (k : Txt) (L : List MarkP) : List MarkP := L.filter fun m => decide (m.1 ≠ k)
def putM (k : Txt) (n : Int) (L : List MarkP) : List MarkP := insM (k, n) (cutM k L)
theorem insM_perm (x : MarkP) (l : List MarkP) : (insM x l).Perm (x :: l) := by
  induction l with
  | nil => exact List.Perm.refl _
  | cons d r ih =>
    unfold insM; split
    · exact List.Perm.refl _
    · exact (ih.cons d).trans (List.Perm.swap x d r)
theorem insM_rise {x : MarkP} {l : List MarkP} (h : l.Pairwise ltM) (hn : ∀ d ∈ l, d.1 ≠ x.1) : (insM x l).Pairwise ltM := by
  induction l with
  | nil => simp [insM]
  | cons d r ih =>
    rw [List.pairwise_cons] at h
    unfold insM
    by_cases hx : x.1 < d.1
    · rw [if_pos hx, List.pairwise_cons, List.pairwise_cons]
      refine ⟨fun y hy => ?_, h⟩
      rcases List.mem_cons.1 hy with rfl | hy
      · exact hx
      · exact List.lt_trans hx (h.1 y hy)
    · rw [if_neg hx, List.pairwise_cons]
      refine ⟨fun y hy => ?_, ih h.2 fun y hy => hn y (List.mem_cons_of_mem _ hy)⟩
      rcases List.mem_cons.1 ((insM_perm x r).mem_iff.1 hy) with rfl | hy
      · have hle := List.not_lt.1 hx
        rcases List.le_iff_lt_or_eq.1 hle with g | g
        · exact g
        · exact absurd g (hn d (List.mem_cons_self ..))
      · exact h.1 y hy
theorem cutM_mem {k : Txt} {L : List MarkP} {m : MarkP} : m ∈ cutM k L ↔ m ∈ L ∧ m.1 ≠ k := by unfold cutM; simp
theorem putM_mem {k : Txt} {n : Int} {L : List MarkP} {m : MarkP} : m ∈ putM k n L ↔ m = (k, n) ∨ m ∈ L ∧ m.1 ≠ k := by
  unfold putM; rw [(insM_perm _ _).mem_iff, List.mem_cons, cutM_mem]
theorem putM_rise {k : Txt} {n : Int} {L : List MarkP} (h : L.Pairwise ltM) : (putM k n L).Pairwise ltM := insM_rise (h.filter _) fun d hd => (cutM_mem.1 hd).2
section
variable {r : Nat} {bs bs' : List Nat} {G G' : Nat → Nd} {T T' : Nat → Txt} {L : List MarkP}
theorem Marks.same (hm : Marks bs G T L) (h1 : ∀ x ∈ bs, (G x).there = true → x ∈ bs' ∧ (G' x).there = true ∧ (G' x).n = (G x).n ∧ T' x = T x) (h2 : ∀ x ∈ bs', (G' x).there = true → x ∈ bs ∧ (G x).there = true ∧ (G' x).n = (G x).n ∧ T' x = T x) : Marks bs' G' T' L := by
  refine ⟨hm.rise, fun k n => ?_⟩
  rw [hm.mem]
  constructor
  · rintro ⟨b, hb, e, t, q⟩
    obtain ⟨a1, a2, a3, a4⟩ := h1 b hb t
    exact ⟨b, a1, a4.trans e, a2, a3.trans q⟩
  · rintro ⟨b, hb, e, t, q⟩
    obtain ⟨a1, a2, a3, a4⟩ := h2 b hb t
    exact ⟨b, a1, a4.symm.trans e, a2, a3.symm.trans q⟩
theorem Marks.leaf (hm : Marks bs G T L) {b c : Nat} {p t : Txt} {K1 K2 : List Nat} (hb : b ∈ bs) (hc : c ∉ bs) : Marks (c :: bs) (leafG G b c p K1 K2) (setT T c t) L := by
  have ne : ∀ x ∈ bs, x ≠ c := fun x hx e => hc (e ▸ hx)
  have gg : ∀ x ∈ bs, (leafG G b c p K1 K2 x).there = (G x).there ∧ (leafG G b c p K1 K2 x).n = (G x).n ∧ setT T c t x = T x := fun x hx => by
    unfold leafG setT; rw [if_neg (ne x hx), if_neg (ne x hx)]; split
    · rename_i e; subst e; exact ⟨rfl, rfl, rfl⟩
    · exact ⟨rfl, rfl, rfl⟩
  refine hm.same (fun x hx ht => ?_) (fun x hx ht => ?_)
  · obtain ⟨a1, a2, a3⟩ := gg x hx
    exact ⟨List.mem_cons_of_mem _ hx, a1.trans ht, a2, a3⟩
  · rcases List.mem_cons.1 hx with e | hx
    · rw [e] at ht; unfold leafG at ht; rw [if_pos rfl] at ht; cases ht
    · obtain ⟨a1, a2, a3⟩ := gg x hx
      exact ⟨hx, a1.symm.trans ht, a2, a3⟩
theorem Marks.split (hm : Marks bs G T L) {b d y : Nat} {p1 p2 t : Txt} {K1 K2 : List Nat} (hd : d ∉ bs) : Marks (d :: bs) (partG G b d y p1 p2 K1 K2) (setT T d t) L := by
  have ne : ∀ x ∈ bs, x ≠ d := fun x hx e => hd (e ▸ hx)
  have gg : ∀ x ∈ bs, (partG G b d y p1 p2 K1 K2 x).there = (G x).there ∧ (partG G b d y p1 p2 K1 K2 x).n = (G x).n ∧ setT T d t x = T x := fun x hx => by
    unfold partG setT; rw [if_neg (ne x hx), if_neg (ne x hx)]; split
    · rename_i e; subst e; exact ⟨rfl, rfl, rfl⟩
    · split
      · rename_i e; subst e; exact ⟨rfl, rfl, rfl⟩
      · exact ⟨rfl, rfl, rfl⟩
  refine hm.same (fun x hx ht => ?_) (fun x hx ht => ?_)
  · obtain ⟨a1, a2, a3⟩ := gg x hx
    exact ⟨List.mem_cons_of_mem _ hx, a1.trans ht, a2, a3⟩
  · rcases List.mem_cons.1 hx with e | hx
    · rw [e] at ht; unfold partG at ht; rw [if_pos rfl] at ht; cases ht
    · obtain ⟨a1, a2, a3⟩ := gg x hx
      exact ⟨hx, a1.symm.trans ht, a2, a3⟩
theorem Marks.less (hm : Marks bs G T L) (h : Flat r bs G T) {b x : Nat} {K : List Nat} (hx : (G x).there = false) : Marks (bs.erase x) (lessG G b K) T L := by
  have gg : ∀ y, (lessG G b K y).there = (G y).there ∧ (lessG G b K y).n = (G y).n := fun y => by
    unfold lessG; split
    · rename_i e; subst e; exact ⟨rfl, rfl⟩
    · exact ⟨rfl, rfl⟩
  refine hm.same (fun y hy ht => ⟨h.nodup.mem_erase_iff.2 ⟨?_, hy⟩, (gg y).1.trans ht, (gg y).2, rfl⟩) (fun y hy ht => ⟨(h.nodup.mem_erase_iff.1 hy).2, (gg y).1.symm.trans ht, (gg y).2, rfl⟩)
  rintro rfl; rw [hx] at ht; cases ht
theorem Marks.join (hm : Marks bs G T L) (h : Flat r bs G T) {b x y : Nat} {p : Txt} {K : List Nat} (hx : (G x).there = false) : Marks (bs.erase x) (joinG G b y p K) T L := by
  have gg : ∀ z, (joinG G b y p K z).there = (G z).there ∧ (joinG G b y p K z).n = (G z).n := fun z => by
    unfold joinG; split
    · rename_i e; subst e; exact ⟨rfl, rfl⟩
    · split
      · rename_i e; subst e; exact ⟨rfl, rfl⟩
      · exact ⟨rfl, rfl⟩
  refine hm.same (fun z hz ht => ⟨h.nodup.mem_erase_iff.2 ⟨?_, hz⟩, (gg z).1.trans ht, (gg z).2, rfl⟩) (fun z hz ht => ⟨(h.nodup.mem_erase_iff.1 hz).2, (gg z).1.symm.trans ht, (gg z).2, rfl⟩)
  rintro rfl; rw [hx] at ht; cases ht
theorem Marks.put (hm : Marks bs G T L) (h : Flat r bs G T) {b : Nat} (hb : b ∈ bs) (n : Int) : Marks bs (markG G b true n) T (putM (T b) n L) := by
  refine ⟨putM_rise hm.rise, fun k q => ?_⟩
  rw [putM_mem]
  constructor
  · rintro (e | ⟨hk, ne⟩)
    · cases e; exact ⟨b, hb, rfl, by unfold markG; rw [if_pos rfl], by unfold markG; rw [if_pos rfl]⟩
    · obtain ⟨c, hc, e, t, q'⟩ := (hm.mem k q).1 hk
      have cb : c ≠ b := by rintro rfl; exact ne e.symm
      exact ⟨c, hc, e, by unfold markG; rw [if_neg cb]; exact t, by unfold markG; rw [if_neg cb]; exact q'⟩
  · rintro ⟨c, hc, e, t, q'⟩
    by_cases cb : c = b
    · subst cb
      unfold markG at q'; rw [if_pos rfl] at q'
      left; rw [← e, ← q']
    · unfold markG at t q'; rw [if_neg cb] at t q'
      exact Or.inr ⟨(hm.mem k q).2 ⟨c, hc, e, t, q'⟩, fun e2 => cb (h.inj hc hb (e.trans e2))⟩
theorem Marks.cut (hm : Marks bs G T L) (h : Flat r bs G T) {b : Nat} (hb : b ∈ bs) (n : Int) : Marks bs (markG G b false n) T (cutM (T b) L) := by
  refine ⟨hm.rise.filter _, fun k q => ?_⟩
  rw [cutM_mem]
  constructor
  · rintro ⟨hk, ne⟩
    obtain ⟨c, hc, e, t, q'⟩ := (hm.mem k q).1 hk
    have cb : c ≠ b := by rintro rfl; exact ne e.symm
    exact ⟨c, hc, e, by unfold markG; rw [if_neg cb]; exact t, by unfold markG; rw [if_neg cb]; exact q'⟩
  · rintro ⟨c, hc, e, t, q'⟩
    by_cases cb : c = b
    · subst cb
      unfold markG at t; rw [if_pos rfl] at t; cases t
    · unfold markG at t q'; rw [if_neg cb] at t q'
      exact ⟨(hm.mem k q).2 ⟨c, hc, e, t, q'⟩, fun e2 => cb (h.inj hc hb (e.trans e2))⟩
end
end Go.Proofs.Ytnlbmplbaalgmaa
