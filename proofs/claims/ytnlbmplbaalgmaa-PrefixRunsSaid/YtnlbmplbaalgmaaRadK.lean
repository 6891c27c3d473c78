/- Keys that share their beginnings, plain: the way of Drop. -/
import Derived.Test.YtnlbmplbaalgmaaRadJ
set_option linter.unusedVariables false
set_option linter.unusedSimpArgs false
namespace Go.Proofs.Ytnlbmplbaalgmaa

/-- Drop mends the way l, at whose end is x. -/
structure DropAt (r : Nat) (bs : List Nat) (G : Nat → Nd) (T : Nat → Txt) (L : List MarkP) (l : List Nat) (x : Nat) : Prop where
  flat : Flat r bs G T
  marks : Marks bs G T L
  way : WayTo G r l x
  xm : x ∈ bs
  need : ∀ b ∈ bs, b ≠ r → b ≠ x → needN G b
section
variable {r : Nat} {bs : List Nat} {G G' : Nat → Nd} {T : Nat → Txt} {L : List MarkP} {l l0 : List Nat} {x y up : Nat} {K1 K2 : List Nat}
theorem WayTo.mem (h : Flat r bs G T) (hw : WayTo G r l x) : x ∈ bs := by
  induction hw with
  | root => exact h.root
  | step _ hc ih => exact (h.kid _ ih _ hc).1
theorem WayTo.congr (h : Flat r bs G T) (hk : ∀ z ∈ bs, z ≠ up → (G' z).kids = (G z).kids) (hw : WayTo G r l x) (hl : (T x).length ≤ (T up).length) : WayTo G' r l x := by
  induction hw with
  | root => exact .root
  | step h1 hc ih =>
    rename_i l1 b c
    have hb := h1.mem h
    have hlen := h.kid_len hb hc
    refine .step (ih (by omega)) ?_
    rw [hk b hb (by rintro rfl; omega)]; exact hc
theorem DropAt.begin (h : Flat r bs G T) (hm : Marks bs G T L) (hn : Need r bs G) (hw : WayTo G r l x) (n : Int) : DropAt r bs (markG G x false n) T (cutM (T x) L) l x := by
  have hx := hw.mem h
  have gk : ∀ z, (markG G x false n z).kids = (G z).kids := fun z => by unfold markG; split <;> first | rfl | (rename_i e; subst e; rfl)
  refine ⟨h.mark x false n, hm.cut h hx n, hw.congr (up := x) h (fun z _ _ => gk z) (Nat.le_refl _), hx, fun b hb nr nx => ?_⟩
  have := hn b hb nr
  unfold needN markG; rw [if_neg nx]; exact this
theorem DropAt.keep (h : DropAt r bs G T L (l0 ++ [x]) x) (hw : WayTo G r l0 up) (hn : needN G x) : DropAt r bs G T L l0 up ∧ Need r bs G := by
  have N : Need r bs G := fun b hb nr => by
    by_cases bx : b = x
    · rw [bx]; exact hn
    · exact h.need b hb nr bx
  exact ⟨⟨h.flat, h.marks, hw, hw.mem h.flat, fun b hb nr _ => N b hb nr⟩, N⟩
theorem DropAt.less (h : DropAt r bs G T L (l0 ++ [x]) x) (hw : WayTo G r l0 up) (hk : (G up).kids = K1 ++ x :: K2) (ht : (G x).there = false) (hx : (G x).kids = []) :
    DropAt r (bs.erase x) (lessG G up (K1 ++ K2)) T L l0 up := by
  have hup := hw.mem h.flat
  have hxk : x ∈ (G up).kids := by rw [hk]; simp
  have ux : up ≠ x := by rintro rfl; exact absurd (h.flat.kid_len hup hxk) (Nat.lt_irrefl _)
  refine ⟨h.flat.less hup hk hx, h.marks.less h.flat ht, hw.congr (up := up) h.flat (fun z _ nz => by unfold lessG; rw [if_neg nz]) (Nat.le_refl _), h.flat.nodup.mem_erase_iff.2 ⟨ux, hup⟩, fun b hb nr nu => ?_⟩
  obtain ⟨bx, hb⟩ := h.flat.nodup.mem_erase_iff.1 hb
  have := h.need b hb nr bx
  unfold needN lessG; rw [if_neg nu]; exact this
theorem DropAt.join (h : DropAt r bs G T L (l0 ++ [x]) x) (hw : WayTo G r l0 up) (hk : (G up).kids = K1 ++ x :: K2) (ht : (G x).there = false) (hx : (G x).kids = [y]) :
    DropAt r (bs.erase x) (joinG G up y ((G x).part ++ (G y).part) (K1 ++ y :: K2)) T L l0 up := by
  have hup := hw.mem h.flat
  have hxk : x ∈ (G up).kids := by rw [hk]; simp
  have hxm := (h.flat.kid up hup x hxk).1
  have hyk : y ∈ (G x).kids := by rw [hx]; simp
  have l1 := h.flat.kid_len hup hxk
  have l2 := h.flat.kid_len hxm hyk
  have ux : up ≠ x := by rintro rfl; omega
  have yu : y ≠ up := by rintro rfl; omega
  have gk : ∀ z, z ≠ up → (joinG G up y ((G x).part ++ (G y).part) (K1 ++ y :: K2) z).kids = (G z).kids ∧ (joinG G up y ((G x).part ++ (G y).part) (K1 ++ y :: K2) z).there = (G z).there := fun z nz => by
    unfold joinG; split
    · rename_i e; subst e; exact ⟨rfl, rfl⟩
    · exact ⟨rfl, rfl⟩
  refine ⟨h.flat.join hup hk hx, h.marks.join h.flat ht, hw.congr (up := up) h.flat (fun z _ nz => (gk z nz).1) (Nat.le_refl _), h.flat.nodup.mem_erase_iff.2 ⟨ux, hup⟩, fun b hb nr nu => ?_⟩
  obtain ⟨bx, hb⟩ := h.flat.nodup.mem_erase_iff.1 hb
  have := h.need b hb nr bx
  unfold needN at *
  rw [(gk b nu).1, (gk b nu).2]; exact this
theorem DropAt.done (h : DropAt r bs G T L [r] x) : Need r bs G := by
  have : x = r := by
    have := h.way
    generalize hl : [r] = l1 at this
    cases this with
    | root => rfl
    | step h1 _ =>
      rename_i l2 b
      have := congrArg List.length hl
      obtain ⟨l3, e⟩ := h1.last
      rw [e] at this; simp at this
  subst this
  exact fun b hb nr => h.need b hb nr nr
end
end Go.Proofs.Ytnlbmplbaalgmaa
