/- Keys that share their beginnings, plain: what the operations do to the nodes. -/
import Derived.Test.YtcpfkkbegnhofaaDoorK01
import Derived.IntWalk
import Derived.Deep.RegionHeld3
import Derived.Deep.QuietTactic
import Derived.BigQuiet
import Derived.Lib.Hide
import Derived.Test.YtcpfkkbegnhofaaDoorK02
import Derived.Test.YtcpfkkbegnhofaaDoorShelf
set_option linter.unusedVariables false
set_option linter.unusedSimpArgs false
namespace Go.Proofs.YtcpfkkbegnhofaaDoor

/-- A new node without any below it. -/
def leafG (G : Nat → Nd) (b c : Nat) (p : Txt) (K1 K2 : List Nat) : Nat → Nd := fun x => if x = c then ⟨p, false, 0, []⟩ else if x = b then { G b with kids := K1 ++ c :: K2 } else G x
def setT (T : Nat → Txt) (c : Nat) (t : Txt) : Nat → Txt := fun x => if x = c then t else T x
/-- A node parted in two. -/
def partG (G : Nat → Nd) (b h y : Nat) (p1 p2 : Txt) (K1 K2 : List Nat) : Nat → Nd := fun x => if x = h then ⟨p1, false, 0, [y]⟩ else if x = y then { G y with part := p2 } else if x = b then { G b with kids := K1 ++ h :: K2 } else G x
/-- A node's own mark. -/
def markG (G : Nat → Nd) (b : Nat) (t : Bool) (n : Int) : Nat → Nd := fun x => if x = b then { G b with there := t, n := n } else G x
/-- A node less. -/
def lessG (G : Nat → Nd) (b : Nat) (K : List Nat) : Nat → Nd := fun x => if x = b then { G b with kids := K } else G x
/-- A node becomes one with the one below it. -/
def joinG (G : Nat → Nd) (b y : Nat) (p : Txt) (K : List Nat) : Nat → Nd := fun x => if x = y then { G y with part := p } else if x = b then { G b with kids := K } else G x
namespace Flat
variable {r : Nat} {bs S : List Nat} {G : Nat → Nd} {T : Nat → Txt}
theorem leaf (h : Flat r bs G T) {b c : Nat} {p : Txt} {K1 K2 : List Nat} (hb : b ∈ bs) (hc : c ∉ bs) (hk : (G b).kids = K1 ++ K2) (hp : p ≠ [])
    (h1 : ∀ x ∈ K1, hdN G x < p.headD 0) (h2 : ∀ x ∈ K2, p.headD 0 < hdN G x) : Flat r (c :: bs) (leafG G b c p K1 K2) (setT T c (T b ++ p)) := by
  have ne : ∀ x ∈ bs, x ≠ c := fun x hx e => hc (e ▸ hx)
  have gp : ∀ x ∈ bs, (leafG G b c p K1 K2 x).part = (G x).part := fun x hx => by
    unfold leafG; rw [if_neg (ne x hx)]; split
    · rename_i e; subst e; rfl
    · rfl
  have gh : ∀ x ∈ bs, hdN (leafG G b c p K1 K2) x = hdN G x := fun x hx => by unfold hdN; rw [gp x hx]
  have gc : hdN (leafG G b c p K1 K2) c = p.headD 0 := by unfold hdN leafG; rw [if_pos rfl]
  have gt : ∀ x ∈ bs, setT T c (T b ++ p) x = T x := fun x hx => by unfold setT; rw [if_neg (ne x hx)]
  have kb : (leafG G b c p K1 K2 b).kids = K1 ++ c :: K2 := by unfold leafG; rw [if_neg (ne b hb), if_pos rfl]
  have kc : (leafG G b c p K1 K2 c).kids = [] := by unfold leafG; rw [if_pos rfl]
  have ko : ∀ x ∈ bs, x ≠ b → (leafG G b c p K1 K2 x).kids = (G x).kids := fun x hx e => by unfold leafG; rw [if_neg (ne x hx), if_neg e]
  have old : ∀ x ∈ bs, ∀ y ∈ (leafG G b c p K1 K2 x).kids, x = b ∧ y = c ∨ y ∈ (G x).kids := fun x hx y hy => by
    by_cases e : x = b
    · subst e
      rw [kb, List.mem_append, List.mem_cons] at hy
      rw [hk, List.mem_append]
      rcases hy with hy | hy | hy
      · exact Or.inr (Or.inl hy)
      · exact Or.inl ⟨rfl, hy⟩
      · exact Or.inr (Or.inr hy)
    · rw [ko x hx e] at hy; exact Or.inr hy
  have mono : ∀ x ∈ bs, ∀ y ∈ (G x).kids, y ∈ (leafG G b c p K1 K2 x).kids := fun x hx y hy => by
    by_cases e : x = b
    · subst e
      rw [hk, List.mem_append] at hy
      rw [kb, List.mem_append, List.mem_cons]
      rcases hy with hy | hy
      · exact Or.inl hy
      · exact Or.inr (Or.inr hy)
    · rw [ko x hx e]; exact hy
  refine ⟨List.mem_cons_of_mem _ h.root, List.nodup_cons.2 ⟨hc, h.nodup⟩, by rw [gt r h.root]; exact h.troot, ?_, ?_, ?_⟩
  · intro x hx y hy
    rcases List.mem_cons.1 hx with rfl | hx
    · rw [kc] at hy; cases hy
    · rcases old x hx y hy with ⟨rfl, rfl⟩ | hy
      · refine ⟨List.mem_cons_self .., ?_, ?_⟩
        · unfold leafG; rw [if_pos rfl]; exact hp
        · rw [gt _ hb]; unfold setT leafG; rw [if_pos rfl, if_pos rfl]
      · obtain ⟨m, n, e⟩ := h.kid x hx y hy
        exact ⟨List.mem_cons_of_mem _ m, by rw [gp y m]; exact n, by rw [gt y m, gt x hx, gp y m]; exact e⟩
  · intro x hx
    rcases List.mem_cons.1 hx with rfl | hx
    · rw [kc]; exact List.Pairwise.nil
    · by_cases e : x = b
      · subst e
        have hs := h.sorted x hx
        rw [hk, List.pairwise_append] at hs
        have m1 : ∀ y ∈ K1, y ∈ bs := fun y hy => (h.kid x hx y (by rw [hk]; exact List.mem_append_left _ hy)).1
        have m2 : ∀ y ∈ K2, y ∈ bs := fun y hy => (h.kid x hx y (by rw [hk]; exact List.mem_append_right _ hy)).1
        rw [kb, List.pairwise_append, List.pairwise_cons]
        refine ⟨hs.1.imp_of_mem fun ha hb' hlt => ?_, ⟨fun y hy => ?_, hs.2.1.imp_of_mem fun ha hb' hlt => ?_⟩, fun y hy z hz => ?_⟩
        · rw [gh _ (m1 _ ha), gh _ (m1 _ hb')]; exact hlt
        · rw [gc, gh y (m2 y hy)]; exact h2 y hy
        · rw [gh _ (m2 _ ha), gh _ (m2 _ hb')]; exact hlt
        · rw [gh y (m1 y hy)]
          rcases List.mem_cons.1 hz with rfl | hz
          · rw [gc]; exact h1 y hy
          · rw [gh z (m2 z hz)]; exact hs.2.2 y hy z hz
      · rw [ko x hx e]
        exact (h.sorted x hx).imp_of_mem fun ha hb' hlt => by rw [gh _ (h.kid x hx _ ha).1, gh _ (h.kid x hx _ hb').1]; exact hlt
  · intro y hy ne'
    rcases List.mem_cons.1 hy with rfl | hy
    · exact ⟨b, List.mem_cons_of_mem _ hb, by rw [kb]; simp⟩
    · obtain ⟨x, hx, hm⟩ := h.up y hy ne'
      exact ⟨x, List.mem_cons_of_mem _ hx, mono x hx y hm⟩
theorem mark (h : Flat r bs G T) (b : Nat) (t : Bool) (n : Int) : Flat r bs (markG G b t n) T := by
  have gp : ∀ x, (markG G b t n x).part = (G x).part := fun x => by unfold markG; split <;> first | rfl | (rename_i e; subst e; rfl)
  have gk : ∀ x, (markG G b t n x).kids = (G x).kids := fun x => by unfold markG; split <;> first | rfl | (rename_i e; subst e; rfl)
  have gh : ∀ x, hdN (markG G b t n) x = hdN G x := fun x => by unfold hdN; rw [gp x]
  exact ⟨h.root, h.nodup, h.troot, fun x hx y hy => by rw [gp y]; rw [gk x] at hy; exact h.kid x hx y hy, fun x hx => by rw [gk x]; exact (h.sorted x hx).imp fun hlt => by rw [gh, gh]; exact hlt, fun y hy ne => by
    obtain ⟨x, hx, hm⟩ := h.up y hy ne
    exact ⟨x, hx, by rw [gk x]; exact hm⟩⟩
theorem less (h : Flat r bs G T) {b x : Nat} {K1 K2 : List Nat} (hb : b ∈ bs) (hk : (G b).kids = K1 ++ x :: K2) (hx : (G x).kids = []) : Flat r (bs.erase x) (lessG G b (K1 ++ K2)) T := by
  have hxk : x ∈ (G b).kids := by rw [hk]; simp
  have hxm := (h.kid b hb x hxk).1
  have xr := h.not_root hb hxk
  have gp : ∀ y, (lessG G b (K1 ++ K2) y).part = (G y).part := fun y => by unfold lessG; split <;> first | rfl | (rename_i e; subst e; rfl)
  have gh : ∀ y, hdN (lessG G b (K1 ++ K2)) y = hdN G y := fun y => by unfold hdN; rw [gp y]
  have kb : (lessG G b (K1 ++ K2) b).kids = K1 ++ K2 := by unfold lessG; rw [if_pos rfl]
  have ko : ∀ y, y ≠ b → (lessG G b (K1 ++ K2) y).kids = (G y).kids := fun y e => by unfold lessG; rw [if_neg e]
  have nd := h.kids_nodup hb
  rw [hk, List.nodup_append, List.nodup_cons] at nd
  have kn : ∀ y, y ∈ K1 ++ K2 → y ≠ x := fun y hy e => by
    subst e
    rcases List.mem_append.1 hy with hy | hy
    · exact nd.2.2 _ hy _ (List.mem_cons_self ..) rfl
    · exact nd.2.1.1 hy
  have sub : ∀ y ∈ K1 ++ K2, y ∈ (G b).kids := fun y hy => by
    rw [hk]; rcases List.mem_append.1 hy with hy | hy <;> simp [hy]
  have me : ∀ y, y ∈ bs.erase x ↔ y ≠ x ∧ y ∈ bs := fun y => h.nodup.mem_erase_iff
  refine ⟨(me r).2 ⟨fun e => xr e.symm, h.root⟩, h.nodup.erase _, h.troot, ?_, ?_, ?_⟩
  · intro y hy z hz
    replace hy := (me y).1 hy
    obtain ⟨yx, hy⟩ := hy
    rw [gp z]
    by_cases e : y = b
    · subst e
      rw [kb] at hz
      obtain ⟨m, n, e⟩ := h.kid y hy z (sub z hz)
      exact ⟨(me z).2 ⟨kn z hz, m⟩, n, e⟩
    · rw [ko y e] at hz
      obtain ⟨m, n, e'⟩ := h.kid y hy z hz
      refine ⟨(me z).2 ⟨?_, m⟩, n, e'⟩
      rintro rfl
      exact e (h.parent_eq hy hb hz hxk)
  · intro y hy
    replace hy := (me y).1 hy
    obtain ⟨yx, hy⟩ := hy
    have hs := h.sorted y hy
    by_cases e : y = b
    · subst e
      rw [kb]
      rw [hk] at hs
      refine List.Pairwise.imp (fun hlt => by rw [gh, gh]; exact hlt) (List.Pairwise.sublist ?_ hs)
      exact List.Sublist.append_left (List.sublist_cons_self _ _) _
    · rw [ko y e]; exact hs.imp fun hlt => by rw [gh, gh]; exact hlt
  · intro y hy ne
    replace hy := (me y).1 hy
    obtain ⟨yx, hy⟩ := hy
    obtain ⟨z, hz, hm⟩ := h.up y hy ne
    have zx : z ≠ x := by rintro rfl; rw [hx] at hm; cases hm
    refine ⟨z, (me z).2 ⟨zx, hz⟩, ?_⟩
    by_cases e : z = b
    · subst e
      rw [hk, List.mem_append, List.mem_cons] at hm
      rw [kb, List.mem_append]
      rcases hm with hm | hm | hm
      · exact Or.inl hm
      · exact absurd hm yx
      · exact Or.inr hm
    · rw [ko z e]; exact hm
/-- One is parted: a new one stands in its place, with the part that both share. -/
theorem split (h : Flat r bs G T) {b d y : Nat} {p1 p2 : Txt} {K1 K2 : List Nat} (hb : b ∈ bs) (hd : d ∉ bs) (hk : (G b).kids = K1 ++ y :: K2) (hp : (G y).part = p1 ++ p2) (n1 : p1 ≠ []) (n2 : p2 ≠ []) :
    Flat r (d :: bs) (partG G b d y p1 p2 K1 K2) (setT T d (T b ++ p1)) := by
  have hyk : y ∈ (G b).kids := by rw [hk]; simp
  obtain ⟨hym, _, ey⟩ := h.kid b hb y hyk
  have yb : y ≠ b := by rintro rfl; exact absurd (h.kid_len hb hyk) (Nat.lt_irrefl _)
  have ne : ∀ x ∈ bs, x ≠ d := fun x hx e => hd (e ▸ hx)
  have gp : ∀ x ∈ bs, x ≠ y → (partG G b d y p1 p2 K1 K2 x).part = (G x).part := fun x hx e => by
    unfold partG; rw [if_neg (ne x hx), if_neg e]; split <;> first | rfl | (rename_i e; subst e; rfl)
  have gy : (partG G b d y p1 p2 K1 K2 y).part = p2 := by unfold partG; rw [if_neg (ne y hym), if_pos rfl]
  have gd : (partG G b d y p1 p2 K1 K2 d).part = p1 := by unfold partG; rw [if_pos rfl]
  have gh : ∀ x ∈ bs, x ≠ y → hdN (partG G b d y p1 p2 K1 K2) x = hdN G x := fun x hx e => by unfold hdN; rw [gp x hx e]
  have gdh : hdN (partG G b d y p1 p2 K1 K2) d = hdN G y := by
    unfold hdN; rw [gd, hp]
    cases p1 with
    | nil => exact absurd rfl n1
    | cons => rfl
  have gt : ∀ x ∈ bs, setT T d (T b ++ p1) x = T x := fun x hx => by unfold setT; rw [if_neg (ne x hx)]
  have gtd : setT T d (T b ++ p1) d = T b ++ p1 := by unfold setT; rw [if_pos rfl]
  have kb : (partG G b d y p1 p2 K1 K2 b).kids = K1 ++ d :: K2 := by unfold partG; rw [if_neg (ne b hb), if_neg (Ne.symm yb), if_pos rfl]
  have kd : (partG G b d y p1 p2 K1 K2 d).kids = [y] := by unfold partG; rw [if_pos rfl]
  have ko : ∀ x ∈ bs, x ≠ b → (partG G b d y p1 p2 K1 K2 x).kids = (G x).kids := fun x hx e => by
    unfold partG; rw [if_neg (ne x hx)]; split
    · rename_i e; subst e; rfl
    · rfl
  have nd := h.kids_nodup hb
  rw [hk, List.nodup_append, List.nodup_cons] at nd
  have kn : ∀ z, z ∈ K1 ∨ z ∈ K2 → z ≠ y := fun z hz e => by
    subst e
    rcases hz with hz | hz
    · exact nd.2.2 _ hz _ (List.mem_cons_self ..) rfl
    · exact nd.2.1.1 hz
  have sub : ∀ z, z ∈ K1 ∨ z ∈ K2 → z ∈ (G b).kids := fun z hz => by
    rw [hk]; rcases hz with hz | hz <;> simp [hz]
  have oth : ∀ x ∈ bs, x ≠ b → ∀ z ∈ (G x).kids, z ≠ y := fun x hx e z hz e2 => by
    subst e2; exact e (h.parent_eq hx hb hz hyk)
  refine ⟨List.mem_cons_of_mem _ h.root, List.nodup_cons.2 ⟨hd, h.nodup⟩, by rw [gt r h.root]; exact h.troot, ?_, ?_, ?_⟩
  · intro x hx z hz
    rcases List.mem_cons.1 hx with e | hx
    · rw [e, kd, List.mem_singleton] at hz
      subst hz
      refine ⟨List.mem_cons_of_mem _ hym, by rw [gy]; exact n2, ?_⟩
      rw [e, gt _ hym, gtd, gy, ey, hp, List.append_assoc]
    · by_cases e : x = b
      · rw [e, kb, List.mem_append, List.mem_cons] at hz
        rw [e]
        have : z = d ∨ (z ∈ K1 ∨ z ∈ K2) := by rcases hz with hz | hz | hz <;> simp [hz]
        rcases this with e2 | hz
        · rw [e2]
          exact ⟨List.mem_cons_self .., by rw [gd]; exact n1, by rw [gtd, gt b hb, gd]⟩
        · obtain ⟨m, n, e'⟩ := h.kid b hb z (sub z hz)
          have hzy := kn z hz
          exact ⟨List.mem_cons_of_mem _ m, by rw [gp z m hzy]; exact n, by rw [gt z m, gt b hb, gp z m hzy]; exact e'⟩
      · rw [ko x hx e] at hz
        obtain ⟨m, n, e'⟩ := h.kid x hx z hz
        have hzy := oth x hx e z hz
        exact ⟨List.mem_cons_of_mem _ m, by rw [gp z m hzy]; exact n, by rw [gt z m, gt x hx, gp z m hzy]; exact e'⟩
  · intro x hx
    rcases List.mem_cons.1 hx with e | hx
    · rw [e, kd]; simp
    · by_cases e : x = b
      · rw [e]
        have hs := h.sorted b hb
        rw [hk, List.pairwise_append, List.pairwise_cons] at hs
        have m1 : ∀ z ∈ K1, z ∈ bs := fun z hz => (h.kid b hb z (sub z (Or.inl hz))).1
        have m2 : ∀ z ∈ K2, z ∈ bs := fun z hz => (h.kid b hb z (sub z (Or.inr hz))).1
        have g1 : ∀ z ∈ K1, hdN (partG G b d y p1 p2 K1 K2) z = hdN G z := fun z hz => gh z (m1 z hz) (kn z (Or.inl hz))
        have g2 : ∀ z ∈ K2, hdN (partG G b d y p1 p2 K1 K2) z = hdN G z := fun z hz => gh z (m2 z hz) (kn z (Or.inr hz))
        rw [kb, List.pairwise_append, List.pairwise_cons]
        refine ⟨hs.1.imp_of_mem fun ha hb' hlt => ?_, ⟨fun z hz => ?_, hs.2.1.2.imp_of_mem fun ha hb' hlt => ?_⟩, fun z hz u hu => ?_⟩
        · rw [g1 _ ha, g1 _ hb']; exact hlt
        · rw [gdh, g2 z hz]; exact hs.2.1.1 z hz
        · rw [g2 _ ha, g2 _ hb']; exact hlt
        · rw [g1 z hz]
          rcases List.mem_cons.1 hu with e2 | hu
          · rw [e2, gdh]; exact hs.2.2 z hz y (List.mem_cons_self ..)
          · rw [g2 u hu]; exact hs.2.2 z hz u (List.mem_cons_of_mem _ hu)
      · rw [ko x hx e]
        exact (h.sorted x hx).imp_of_mem fun ha hb' hlt => by rw [gh _ (h.kid x hx _ ha).1 (oth x hx e _ ha), gh _ (h.kid x hx _ hb').1 (oth x hx e _ hb')]; exact hlt
  · intro z hz nr
    rcases List.mem_cons.1 hz with e | hz
    · exact ⟨b, List.mem_cons_of_mem _ hb, by rw [e, kb]; simp⟩
    · by_cases e : z = y
      · exact ⟨d, List.mem_cons_self .., by rw [e, kd]; simp⟩
      · obtain ⟨x, hx, hm⟩ := h.up z hz nr
        refine ⟨x, List.mem_cons_of_mem _ hx, ?_⟩
        by_cases e2 : x = b
        · rw [e2] at hm ⊢
          rw [hk, List.mem_append, List.mem_cons] at hm
          rw [kb, List.mem_append, List.mem_cons]
          rcases hm with hm | hm | hm
          · exact Or.inl hm
          · exact absurd hm e
          · exact Or.inr (Or.inr hm)
        · rw [ko x hx e2]; exact hm
/-- A node with one below it becomes one with that. -/
theorem join (h : Flat r bs G T) {b x y : Nat} {K1 K2 : List Nat} (hb : b ∈ bs) (hk : (G b).kids = K1 ++ x :: K2) (hx : (G x).kids = [y]) :
    Flat r (bs.erase x) (joinG G b y ((G x).part ++ (G y).part) (K1 ++ y :: K2)) T := by
  have hxk : x ∈ (G b).kids := by rw [hk]; simp
  obtain ⟨hxm, nx, ex⟩ := h.kid b hb x hxk
  have hyk : y ∈ (G x).kids := by rw [hx]; simp
  obtain ⟨hym, ny, ey⟩ := h.kid x hxm y hyk
  have xr := h.not_root hb hxk
  have l1 := h.kid_len hb hxk
  have l2 := h.kid_len hxm hyk
  have yb : y ≠ b := by rintro rfl; omega
  have yx : y ≠ x := by rintro rfl; omega
  have xb : x ≠ b := by rintro rfl; omega
  have gy : (joinG G b y ((G x).part ++ (G y).part) (K1 ++ y :: K2) y).part = (G x).part ++ (G y).part := by unfold joinG; rw [if_pos rfl]
  have gp : ∀ z, z ≠ y → (joinG G b y ((G x).part ++ (G y).part) (K1 ++ y :: K2) z).part = (G z).part := fun z e => by
    unfold joinG; rw [if_neg e]; split <;> first | rfl | (rename_i e; subst e; rfl)
  have gh : ∀ z, z ≠ y → hdN (joinG G b y ((G x).part ++ (G y).part) (K1 ++ y :: K2)) z = hdN G z := fun z e => by unfold hdN; rw [gp z e]
  have gyh : hdN (joinG G b y ((G x).part ++ (G y).part) (K1 ++ y :: K2)) y = hdN G x := by
    unfold hdN; rw [gy]
    cases hg : (G x).part with
    | nil => exact absurd hg nx
    | cons => rfl
  have kb : (joinG G b y ((G x).part ++ (G y).part) (K1 ++ y :: K2) b).kids = K1 ++ y :: K2 := by unfold joinG; rw [if_neg (Ne.symm yb), if_pos rfl]
  have ko : ∀ z, z ≠ b → (joinG G b y ((G x).part ++ (G y).part) (K1 ++ y :: K2) z).kids = (G z).kids := fun z e => by
    unfold joinG; split
    · rename_i e; subst e; rfl
    · rfl
  have nd := h.kids_nodup hb
  rw [hk, List.nodup_append, List.nodup_cons] at nd
  have kn : ∀ z, z ∈ K1 ∨ z ∈ K2 → z ≠ x := fun z hz e => by
    subst e
    rcases hz with hz | hz
    · exact nd.2.2 _ hz _ (List.mem_cons_self ..) rfl
    · exact nd.2.1.1 hz
  have sub : ∀ z, z ∈ K1 ∨ z ∈ K2 → z ∈ (G b).kids := fun z hz => by
    rw [hk]; rcases hz with hz | hz <;> simp [hz]
  have kny : ∀ z, z ∈ K1 ∨ z ∈ K2 → z ≠ y := fun z hz e => by
    subst e; exact xb (h.parent_eq hb hxm (sub z hz) hyk).symm
  have oth : ∀ u ∈ bs, u ≠ x → ∀ z ∈ (G u).kids, z ≠ y := fun u hu e z hz e2 => by
    subst e2; exact e (h.parent_eq hu hxm hz hyk)
  have othx : ∀ u ∈ bs, u ≠ b → ∀ z ∈ (G u).kids, z ≠ x := fun u hu e z hz e2 => by
    subst e2; exact e (h.parent_eq hu hb hz hxk)
  have me : ∀ z, z ∈ bs.erase x ↔ z ≠ x ∧ z ∈ bs := fun z => h.nodup.mem_erase_iff
  refine ⟨(me r).2 ⟨fun e => xr e.symm, h.root⟩, h.nodup.erase _, h.troot, ?_, ?_, ?_⟩
  · intro u hu z hz
    replace hu := (me u).1 hu
    obtain ⟨ux, hu⟩ := hu
    by_cases e : u = b
    · rw [e, kb, List.mem_append, List.mem_cons] at hz
      rw [e]
      have : z = y ∨ (z ∈ K1 ∨ z ∈ K2) := by rcases hz with hz | hz | hz <;> simp [hz]
      rcases this with e2 | hz
      · rw [e2]
        exact ⟨(me y).2 ⟨yx, hym⟩, by rw [gy]; simp [nx], by rw [gy, ey, ex, List.append_assoc]⟩
      · obtain ⟨m, n, e'⟩ := h.kid b hb z (sub z hz)
        exact ⟨(me z).2 ⟨kn z hz, m⟩, by rw [gp z (kny z hz)]; exact n, by rw [gp z (kny z hz)]; exact e'⟩
    · rw [ko u e] at hz
      obtain ⟨m, n, e'⟩ := h.kid u hu z hz
      have zy := oth u hu ux z hz
      exact ⟨(me z).2 ⟨othx u hu e z hz, m⟩, by rw [gp z zy]; exact n, by rw [gp z zy]; exact e'⟩
  · intro u hu
    replace hu := (me u).1 hu
    obtain ⟨ux, hu⟩ := hu
    by_cases e : u = b
    · rw [e]
      have hs := h.sorted b hb
      rw [hk, List.pairwise_append, List.pairwise_cons] at hs
      have g1 : ∀ z ∈ K1, hdN (joinG G b y ((G x).part ++ (G y).part) (K1 ++ y :: K2)) z = hdN G z := fun z hz => gh z (kny z (Or.inl hz))
      have g2 : ∀ z ∈ K2, hdN (joinG G b y ((G x).part ++ (G y).part) (K1 ++ y :: K2)) z = hdN G z := fun z hz => gh z (kny z (Or.inr hz))
      rw [kb, List.pairwise_append, List.pairwise_cons]
      refine ⟨hs.1.imp_of_mem fun ha hb' hlt => ?_, ⟨fun z hz => ?_, hs.2.1.2.imp_of_mem fun ha hb' hlt => ?_⟩, fun z hz u hu => ?_⟩
      · rw [g1 _ ha, g1 _ hb']; exact hlt
      · rw [gyh, g2 z hz]; exact hs.2.1.1 z hz
      · rw [g2 _ ha, g2 _ hb']; exact hlt
      · rw [g1 z hz]
        rcases List.mem_cons.1 hu with e2 | hu
        · rw [e2, gyh]; exact hs.2.2 z hz x (List.mem_cons_self ..)
        · rw [g2 u hu]; exact hs.2.2 z hz u (List.mem_cons_of_mem _ hu)
    · rw [ko u e]
      exact (h.sorted u hu).imp_of_mem fun ha hb' hlt => by rw [gh _ (oth u hu ux _ ha), gh _ (oth u hu ux _ hb')]; exact hlt
  · intro z hz nr
    replace hz := (me z).1 hz
    obtain ⟨zx, hz⟩ := hz
    by_cases e : z = y
    · exact ⟨b, (me b).2 ⟨Ne.symm xb, hb⟩, by rw [e, kb]; simp⟩
    · obtain ⟨u, hu, hm⟩ := h.up z hz nr
      have ux : u ≠ x := by
        rintro rfl
        rw [hx, List.mem_singleton] at hm
        exact e hm
      refine ⟨u, (me u).2 ⟨ux, hu⟩, ?_⟩
      by_cases e2 : u = b
      · rw [e2] at hm ⊢
        rw [hk, List.mem_append, List.mem_cons] at hm
        rw [kb, List.mem_append, List.mem_cons]
        rcases hm with hm | hm | hm
        · exact Or.inl hm
        · exact absurd hm zx
        · exact Or.inr (Or.inr hm)
      · rw [ko u e2]; exact hm
end Flat
end Go.Proofs.YtcpfkkbegnhofaaDoor
/- Texts as lists of bytes. -/
set_option linter.unusedVariables false
set_option linter.unusedSimpArgs false
namespace Go.Proofs.YtcpfkkbegnhofaaDoor
open Go.RowKit

def ofL (l : Txt) : ByteArray := ⟨l.toArray⟩
theorem ofL_toList (l : Txt) : (ofL l).toList = l := by rw [ByteArray.toList_eq]; unfold ofL; simp
theorem ofL_of (b : ByteArray) : ofL b.toList = b := by rw [ByteArray.toList_eq]; unfold ofL; cases b; simp
theorem ofL_size (l : Txt) : (ofL l).size = l.length := by unfold ofL; simp [ByteArray.size]
theorem ofL_inj {a b : Txt} (h : ofL a = ofL b) : a = b := by rw [← ofL_toList a, ← ofL_toList b, h]

theorem lcp_next : ∀ (a b : Txt) (k : Nat), k ≤ (lcp a b).length → (k < (lcp a b).length ↔ ∃ x, a[k]? = some x ∧ b[k]? = some x)
  | [], b, k, _ => by cases b <;> simp [lcp]
  | x :: a, [], k, _ => by simp [lcp]
  | x :: a, y :: b, 0, _ => by
    unfold lcp
    by_cases e : x = y
    · subst e; simp
    · rw [if_neg e]; simp [e, Ne.symm e]
  | x :: a, y :: b, k + 1, h => by
    unfold lcp at h ⊢
    by_cases e : x = y
    · subst e
      rw [if_pos rfl] at h ⊢
      rw [List.length_cons] at h ⊢
      have := lcp_next a b k (by omega)
      simp only [List.getElem?_cons_succ]
      rw [← this]; omega
    · rw [if_neg e] at h; simp at h
theorem run_at (a : Txt) (k : Nat) (x : UInt8) (h : a[k]? = some x) (w : World) : (Instr.index 9 (.string (ofL a)) (.int .i64 (k : Int))).run Tryd.prog w = .ok (.int .u8 (x.toNat : Int)) w := by
  obtain ⟨hk, e⟩ := List.getElem?_eq_some_iff.1 h
  have hs : (0 : Int) ≤ (k : Int) ∧ (k : Int) < ((ofL a).size : Int) := ⟨by omega, by rw [ofL_size]; omega⟩
  rw [run_index_string w _ _ _ _ Tryd.underlying9, dif_pos hs]
  subst e
  rfl
end Go.Proofs.YtcpfkkbegnhofaaDoor
/- A slice of things of k cells each, that is only read. -/
set_option linter.unusedVariables false
set_option linter.unusedSimpArgs false
namespace Go.Proofs.YtcpfkkbegnhofaaDoor
open Go.RowKit

/-- v is a slice that reads as l, each thing by its k cells. -/
def RowOf {α : Type} (f : α → List Value) (k : Nat) (w : World) (v : Value) (l : List α) : Prop :=
  (∃ p cap, v = .slice p 0 cap ∧ l = []) ∨
  ∃ b off cap, v = .slice (some ⟨b, off, none⟩) l.length cap ∧ b < w.heap.size ∧ l.length ≤ maxLen ∧ ∀ i a, l[i]? = some a → ∀ j, j < k → w.cell? ⟨b, off + (i * k + j), none⟩ = (f a)[j]?

theorem RowOf.keep {α : Type} {f : α → List Value} {k : Nat} {w w' : World} {v : Value} {l : List α} (h : RowOf f k w v l) {F : Nat → Prop} (u : Upd F w w') (hd : ∀ b, b < w.heap.size → v.ownBlock = some b → ¬ F b) : RowOf f k w' v l := by
  rcases h with h | ⟨b, off, cap, rfl, hb, hl, hc⟩
  · exact Or.inl h
  · refine Or.inr ⟨b, off, cap, rfl, Nat.lt_of_lt_of_le hb u.size, hl, fun i a hi j hj => ?_⟩
    rw [u.cell (p := ⟨b, off + (i * k + j), none⟩) hb (hd b hb rfl)]
    exact hc i a hi j hj
theorem RowOf.len {α : Type} {f : α → List Value} {k : Nat} {w : World} {v : Value} {l : List α} (h : RowOf f k w v l) : ∃ p cap, v = .slice p l.length cap ∧ l.length ≤ maxLen := by
  rcases h with ⟨p, cap, rfl, rfl⟩ | ⟨b, off, cap, rfl, _, hl, _⟩
  · exact ⟨p, cap, rfl, by unfold maxLen; simp⟩
  · exact ⟨_, cap, rfl, hl⟩

def strc (s : ByteArray) : List Value := [.string s]
end Go.Proofs.YtcpfkkbegnhofaaDoor
/- Texts, and rows of texts and of other things. -/
set_option linter.unusedVariables false
set_option linter.unusedSimpArgs false
namespace Go.Proofs.YtcpfkkbegnhofaaDoor
open Go.RowKit

theorem own_blk {w : World} {base n : Nat} {e : TypeId} {v : Value} {xs : List Value} (h : w.ownsRow base e 1 v n xs) : xs.length = n ∧ ((v = .slice none 0 0 ∧ n = 0) ∨ ∃ b cap cs, v = .slice (some ⟨b, 0, none⟩) n cap ∧ base ≤ b ∧ Blk w b (xs ++ cs) e ∧ n + cs.length = cap ∧ cap ≤ maxLen) := by
  obtain ⟨h0, ⟨rfl, e⟩ | ⟨g, cap, cur, rfl, hg, hh, h1, h2, h3, h4⟩⟩ := h
  · exact ⟨by simpa using h0, Or.inl ⟨rfl, e⟩⟩
  · rw [Nat.mul_one] at h0 h4
    refine ⟨h0, Or.inr ⟨g, cap, cur.toList.drop n, rfl, hg, ?_, ?_, h2⟩⟩
    · unfold Blk
      rw [← h4, List.take_append_drop]; exact hh
    · simp; omega
theorem own_of {w : World} {base b cap n : Nat} {e : TypeId} {xs cs : List Value} (hb : base ≤ b) (h : Blk w b (xs ++ cs) e) (hn : xs.length = n) (hc : n + cs.length = cap) (hm : cap ≤ maxLen) : w.ownsRow base e 1 (.slice (some ⟨b, 0, none⟩) n cap) n xs :=
  ⟨by omega, Or.inr ⟨b, cap, _, rfl, hb, h, by omega, hm, by simp; omega, by subst hn; simp⟩⟩
theorem Blk.ty {w : World} {b : Nat} {cs cs' : List Value} {T T' : TypeId} (h : Blk w b cs T) (h' : Blk w b cs' T') : T = T' := by
  unfold Blk at *; rw [h] at h'; simp at h'; exact h'.2
theorem own_lt {w : World} {base n : Nat} {e : TypeId} {v : Value} {xs : List Value} (h : w.ownsRow base e 1 v n xs) {k : Nat} (hk : v.ownBlock = some k) : k < w.heap.size ∧ base ≤ k ∧ ∃ cs, Blk w k cs e := by
  obtain ⟨_, ⟨rfl, _⟩ | ⟨b, cap, cs, rfl, hb, hB, _⟩⟩ := own_blk h
  · cases hk
  · cases hk; exact ⟨hB.lt, hb, _, hB⟩
theorem bytesLess_lt (a b : List UInt8) : Op.bytesLess a b = decide (a < b) := by
  induction a generalizing b with
  | nil =>
    cases b with
    | nil => simp [Op.bytesLess]
    | cons y b => simp [Op.bytesLess]
  | cons x a ih =>
    cases b with
    | nil => simp [Op.bytesLess]
    | cons y b =>
      unfold Op.bytesLess
      rw [ih, Bool.eq_iff_iff]
      simp [List.cons_lt_cons_iff]
theorem less_txt (a b : Txt) : Op.bytesLess (ofL a).toList (ofL b).toList = decide (a < b) := by rw [ofL_toList, ofL_toList, bytesLess_lt]
theorem beq_txt (a b : Txt) : ((ofL a).toList == (ofL b).toList) = decide (a = b) := by
  rw [ofL_toList, ofL_toList]
  by_cases h : a = b
  · rw [h]; simp
  · rw [decide_eq_false h, beq_eq_false_iff_ne]; exact h
def TxtsAt (w : World) (base : Nat) (v : Value) (l : List Txt) : Prop := w.ownsRow base 9 1 v l.length (l.map fun t => .string (ofL t))
theorem txts_get {w : World} {base : Nat} {p : Option Addr} {c : Nat} {l : List Txt} (h : TxtsAt w base (.slice p l.length c) l) {k : Nat} (hk : k < l.length) :
    ∃ g, p = some ⟨g, 0, none⟩ ∧ g < w.heap.size ∧ w.cell? ⟨g, k, none⟩ = some (.string (ofL l[k])) := by
  obtain ⟨_, ⟨_, e0⟩ | ⟨g, cap, cs, ev, hg, hB, hc, hm⟩⟩ := own_blk h
  · omega
  · refine ⟨g, by injection ev, hB.lt, hB.cellAt ?_⟩
    rw [List.getElem?_append_left (by simpa using hk), List.getElem?_map, List.getElem?_eq_getElem hk]; rfl
theorem txts_one {l : List Txt} : ∀ u ∈ l.map (fun t => Value.string (ofL t)), u.oneCell' = true := by intro u hu; obtain ⟨_, _, rfl⟩ := List.mem_map.1 hu; rfl
theorem own2_of {w : World} {base b cap n : Nat} {e : TypeId} {xs cs : List Value} (hb : base ≤ b) (h : Blk w b (xs ++ cs) e) (hn : xs.length = n * 2) (hc : n * 2 + cs.length = cap * 2) (hm : cap ≤ maxLen) : w.ownsRow base e 2 (.slice (some ⟨b, 0, none⟩) n cap) n xs :=
  ⟨hn, Or.inr ⟨b, cap, _, rfl, hb, h, by omega, hm, by simp; omega, by rw [← hn]; simp⟩⟩
theorem own2_blk {w : World} {base n : Nat} {e : TypeId} {v : Value} {xs : List Value} (h : w.ownsRow base e 2 v n xs) : xs.length = n * 2 ∧ ((v = .slice none 0 0 ∧ n = 0) ∨ ∃ b cap cs, v = .slice (some ⟨b, 0, none⟩) n cap ∧ base ≤ b ∧ Blk w b (xs ++ cs) e ∧ n * 2 + cs.length = cap * 2 ∧ cap ≤ maxLen ∧ n ≤ cap) := by
  obtain ⟨h0, ⟨rfl, e⟩ | ⟨g, cap, cur, rfl, hg, hh, h1, h2, h3, h4⟩⟩ := h
  · exact ⟨h0, Or.inl ⟨rfl, e⟩⟩
  · refine ⟨h0, Or.inr ⟨g, cap, cur.toList.drop (n * 2), rfl, hg, ?_, ?_, h2, h1⟩⟩
    · unfold Blk
      rw [← h4, List.take_append_drop]; exact hh
    · simp; omega
theorem own2_lt {w : World} {base n : Nat} {e : TypeId} {v : Value} {xs : List Value} (h : w.ownsRow base e 2 v n xs) {k : Nat} (hk : v.ownBlock = some k) : k < w.heap.size ∧ base ≤ k ∧ ∃ cs, Blk w k cs e := by
  obtain ⟨_, ⟨rfl, _⟩ | ⟨b, cap, cs, rfl, hb, hB, _⟩⟩ := own2_blk h
  · cases hk
  · cases hk; exact ⟨hB.lt, hb, _, hB⟩
end Go.Proofs.YtcpfkkbegnhofaaDoor
/- Keys that share their beginnings: texts cut and joined. -/
set_option linter.unusedVariables false
set_option linter.unusedSimpArgs false
namespace Go.Proofs.YtcpfkkbegnhofaaDoor
open Go.RowKit

theorem ofL_extract (a : Txt) (i j : Nat) : (ofL a).extract i j = ofL ((a.take j).drop i) := by
  rw [← ofL_of ((ofL a).extract i j)]
  congr 1
  rw [ByteArray.toList_eq]
  show ((ofL a).extract i j).data.toList = _
  rw [ByteArray.data_extract]
  unfold ofL
  simp [Array.toList_extract, List.drop_take]
theorem ofL_append (a b : Txt) : ofL a ++ ofL b = ofL (a ++ b) := by
  rw [← ofL_of (ofL a ++ ofL b)]
  congr 1
  rw [ByteArray.toList_eq, ByteArray.data_append]
  unfold ofL; simp
/-- A text's first k bytes. -/
theorem run_take (a : Txt) (k : Int) (h0 : 0 ≤ k) (h1 : k ≤ (a.length : Int)) (w : World) : (Instr.slice 9 (.string (ofL a)) none (some (.int .i64 k)) none).run Tryd.prog w = .ok (.string (ofL (a.take k.toNat))) w := by
  have hs := ofL_size a
  have h2 : k ≤ ((ofL a).size : Int) := by rw [hs]; exact h1
  simp [Instr.slice, run_underlying Tryd.underlying9, Instr.sliceBounds, run_sliceBound, h0, h2, ofL_extract]
/-- A text from its byte k on. -/
theorem run_drop (a : Txt) (k : Int) (h0 : 0 ≤ k) (h1 : k ≤ (a.length : Int)) (w : World) : (Instr.slice 9 (.string (ofL a)) (some (.int .i64 k)) none none).run Tryd.prog w = .ok (.string (ofL (a.drop k.toNat))) w := by
  have hs := ofL_size a
  have h2 : k ≤ ((ofL a).size : Int) := by rw [hs]; exact h1
  simp [Instr.slice, run_underlying Tryd.underlying9, Instr.sliceBounds, run_sliceBound, h0, h1, h2, ofL_extract, hs]
theorem take_pre {a p : Txt} : a.take p.length = p ↔ p <+: a := by
  rw [List.prefix_iff_eq_take]; exact eq_comm
set_option maxHeartbeats 4000000 in
set_option maxRecDepth 100000 in
theorem begins_any (a p : Txt) (w : World) : Calls Tryd.prog 44 #[.string (ofL a), .string (ofL p)] w fun e w' => e = .returned (.bool (decide (p <+: a))) ∧ w' = w := by
  have s1 := ofL_size a
  have s2 := ofL_size p
  have key : Calls Tryd.prog 67 #[.string (ofL a), .string (ofL p)] w fun e w' => e = .returned (.bool (decide (p <+: a))) ∧ w' = w := by
    by_cases hl : p.length ≤ a.length
    · have q1 : (p.length : Int) ≤ (a.length : Int) := by omega
      have q2 : ((p.length : Int)).toNat = p.length := by omega
      have rt := run_take a (p.length : Int) (by omega) (by omega)
      rw [q2] at rt
      have hb : ((ofL (a.take p.length)).toList == (ofL p).toList) = decide (p <+: a) := by
        rw [ofL_toList, ofL_toList]
        by_cases h : p <+: a
        · rw [decide_eq_true h, take_pre.2 h]; simp
        · rw [decide_eq_false h]
          rw [beq_eq_false_iff_ne]; exact fun e => h (take_pre.1 e)
      generalize decide (p <+: a) = res at *
      generalize ofL (a.take p.length) = t at *
      generalize ofL a = sa at *
      generalize ofL p = sp at *
      generalize a.length = la at *
      generalize p.length = lp at *
      clear hl
      go_enter Tryd.func67, Tryd.ntmps67
      go_wp2
      go_ret
      exact ⟨rfl, rfl⟩
    · have q1 : ¬ (p.length : Int) ≤ (a.length : Int) := by omega
      have hr : decide (p <+: a) = false := decide_eq_false fun h => hl h.length_le
      rw [hr]
      generalize ofL a = sa at *
      generalize ofL p = sp at *
      generalize a.length = la at *
      generalize p.length = lp at *
      clear hl hr
      go_enter Tryd.func67, Tryd.ntmps67
      go_wp2
      go_ret
      exact ⟨rfl, rfl⟩
  have KK := Lib.hid key
  clear key
  generalize decide (p <+: a) = res at *
  generalize ofL a = sa at *
  generalize ofL p = sp at *
  go_enter Tryd.func44, Tryd.ntmps44
  go_wp2_with fail
  refine (KK.out).mono ?_
  rintro e w1 ⟨rfl, rfl⟩
  go_wp2
  go_ret
  exact ⟨rfl, rfl⟩
end Go.Proofs.YtcpfkkbegnhofaaDoor
/- Modes: what may be said, and what is told; the same mode; which can be. -/
set_option linter.unusedVariables false
set_option linter.unusedSimpArgs false
namespace Go.Proofs.YtcpfkkbegnhofaaDoor
open Go.RowKit

def txtc (t : Txt) : List Value := [.string (ofL t)]
def mdc (m : MD) (v : Value) : List Value := [.bool m.on, .bool m.bc, .bool m.oi, .bool m.oo, .bool m.nl, .int .i64 m.rd, v]
def mdV (m : MD) (v : Value) : Value := .agg #[.bool m.on, .bool m.bc, .bool m.oi, .bool m.oo, .bool m.nl, .int .i64 m.rd, v]
theorem txts_row {w : World} {base : Nat} {v : Value} {l : List Txt} (h : TxtsAt w base v l) : RowOf txtc 1 w v l := by
  obtain ⟨_, ⟨rfl, e⟩ | ⟨g, cap, cs, rfl, hg, hB, hc, hm⟩⟩ := own_blk h
  · exact Or.inl ⟨none, 0, rfl, List.length_eq_zero_iff.1 e⟩
  · refine Or.inr ⟨g, 0, cap, rfl, hB.lt, by omega, fun i t hi j hj => ?_⟩
    obtain rfl : j = 0 := by omega
    have hil := (List.getElem?_eq_some_iff.1 hi).1
    rw [Nat.mul_one, Nat.zero_add, Nat.add_zero, hB.cell, List.getElem?_append_left (by simpa using hil), List.getElem?_map, hi]; rfl
theorem txt_rcell {w : World} {p : Option Addr} {cap : Nat} {l : List Txt} (h : RowOf txtc 1 w (.slice p l.length cap) l) {k : Nat} (hk : k < l.length) :
    ∃ b off, p = some ⟨b, off, none⟩ ∧ b < w.heap.size ∧ w.cell? ⟨b, off + k, none⟩ = some (.string (ofL l[k])) := by
  rcases h with ⟨_, _, _, e⟩ | ⟨b, off, c, e, hb, _, hc⟩
  · rw [e] at hk; simp at hk
  · simp only [Value.slice.injEq] at e
    refine ⟨b, off, e.1, hb, ?_⟩
    have := hc k _ (List.getElem?_eq_getElem hk) 0 (by omega); simpa [txtc] using this
set_option maxHeartbeats 2000000 in
theorem tracks_any (m : MD) (v : Value) (c : Int) (w : World) : Calls Tryd.prog 20 #[mdV m v, .int .i64 c] w fun e w' => e = .returned (.bool (tracksM m c)) ∧ Upd (fun _ => False) w w' := by
  obtain ⟨on, bc, oi, oo, nl, rd, ps⟩ := m
  have U : Hid (∀ o, Upd (fun _ => False) w (w.alloc o)) := fun o => (Upd.refl _ _).alloc o
  unfold mdV tracksM
  dsimp only
  by_cases h1 : c = 1
  · subst h1
    cases on <;> cases bc <;> cases oi <;> cases oo <;> (
      go_enter Tryd.func20, Tryd.ntmps20
      go_wp2
      go_ret
      exact ⟨rfl, U.out _⟩)
  · by_cases h2 : c = 2
    · subst h2
      cases on <;> cases bc <;> cases oi <;> cases oo <;> (
        go_enter Tryd.func20, Tryd.ntmps20
        go_wp2
        go_ret
        exact ⟨rfl, U.out _⟩)
    · have e1 : decide (c = 1) = false := decide_eq_false h1
      have e2 : decide (c ≠ 2) = true := decide_eq_true h2
      have e3 : (c == 1) = false := beq_eq_false_iff_ne.2 h1
      have e4 : (c != 2) = true := by rw [bne_iff_ne]; exact h2
      rw [e1, e2]
      cases on <;> cases bc <;> cases oi <;> cases oo <;> (
        go_enter Tryd.func20, Tryd.ntmps20
        go_wp2
        go_ret
        exact ⟨rfl, U.out _⟩)
set_option maxHeartbeats 2000000 in
theorem caching_any (m : MD) (v : Value) (yes : Bool) (w : World) : Calls Tryd.prog 19 #[mdV m v, .bool yes] w fun e w' => e = .returned (.int .i64 (cachM m yes)) ∧ Upd (fun _ => False) w w' := by
  obtain ⟨on, bc, oi, oo, nl, rd, ps⟩ := m
  have U : Hid (∀ o, Upd (fun _ => False) w (w.alloc o)) := fun o => (Upd.refl _ _).alloc o
  unfold mdV cachM
  dsimp only
  cases on <;> cases oi <;> cases oo <;> cases yes <;> (
    go_enter Tryd.func19, Tryd.ntmps19
    go_wp2
    go_ret
    exact ⟨rfl, U.out _⟩)
set_option maxHeartbeats 4000000 in
set_option maxRecDepth 100000 in
theorem prefixes_any (v : Value) (l : List Txt) (w : World) (h : RowOf txtc 1 w v l) (hl : l.length ≤ 1000000) (hs : ∀ t ∈ l, t.length ≤ maxLen) :
    Calls Tryd.prog 36 #[v] w fun e w' => e = .returned (.bool (decide (preR l))) ∧ Upd (fun _ => False) w w' := by
  obtain ⟨p, c, ev, hm⟩ := h.len
  subst ev
  have H := Lib.hid h
  have HS := Lib.hid hs
  obtain ⟨nl, hnl⟩ : ∃ nl, nl = l.length := ⟨_, rfl⟩
  rw [← hnl] at hl hm ⊢
  have NL := Lib.hid hnl
  have PR := Lib.hid (preR_iff (l := l))
  clear h hs hnl
  go_enter Tryd.func36, Tryd.ntmps36
  go_wp2
  go_loopw [7] (fun x7 wr => ∃ (k : Nat), k ≤ nl ∧ x7 = .int .i64 (k : Int) ∧ Hid (preA l k) ∧ Hid (Upd (fun _ => False) w wr)) (fun x7 _ => nl - (intOf x7).toNat)
  case atStart => exact ⟨0, by omega, rfl, Lib.hid (preA_zero l), Lib.hid (Upd.refl _ _)⟩
  case round =>
    obtain ⟨k, hk, rfl, PA, U⟩ := hrel
    by_cases hlt : k < nl
    · have q1 : (k : Int) < (nl : Int) := by omega
      have hkl : k < l.length := by rw [← NL.out]; exact hlt
      obtain ⟨b, off, ep, hb, c0⟩ := txt_rcell (H.out.keep U.out (fun _ _ _ h => h)) hkl
      have GK := Lib.hid (List.getElem?_eq_getElem hkl)
      obtain ⟨t, ht⟩ : ∃ t, t = l[k] := ⟨_, rfl⟩
      rw [← ht] at c0 GK
      have tsz := ofL_size t
      have HT := Lib.hid (HS.out t (List.mem_of_getElem? GK.out))
      clear ht
      have CELL : Hid (∀ j (hj : j < l.length), wr.cell? ⟨b, off + j, none⟩ = some (.string (ofL l[j])) ∧ l[j]? = some l[j]) := fun j hjl => by
        obtain ⟨b', off', ep', hb', c0'⟩ := txt_rcell (H.out.keep U.out (fun _ _ _ h => h)) hjl
        obtain ⟨rfl, rfl⟩ : b = b' ∧ off = off' := by rw [ep] at ep'; injection ep' with e; injection e with e1 e2; exact ⟨e1, e2⟩
        exact ⟨c0', List.getElem?_eq_getElem hjl⟩
      subst ep
      by_cases h5 : 512 < t.length
      · have q2 : (512 : Int) < (t.length : Int) := by omega
        have R : Hid (decide (preR l) = false) := decide_eq_false (fun hR => preA_not hkl GK.out (Or.inl h5) (PR.out.1 hR).1)
        clear hkl CELL
        generalize ofL t = st at *
        generalize t.length = lt at *
        go_wp2
        go_ret
        exact ⟨by rw [R.out]; rfl, U.out⟩
      · have q2 : ¬ (512 : Int) < (t.length : Int) := by omega
        have H5 := Lib.hid h5
        by_cases hk0 : k = 0
        · subst hk0
          rw [Nat.add_zero] at c0
          have PA2 : Hid (preA l (0 + 1)) := preA_succ PA.out GK.out (by have := H5.out; omega) (fun q h0 => by omega)
          clear hkl CELL h5
          generalize ofL t = st at *
          generalize t.length = lt at *
          go_wp2
          go_roundw
          case rel => exact ⟨0 + 1, by omega, by simp, PA2, U⟩
          case measure => simp [intOf]; omega
        · obtain ⟨j, rfl⟩ : ∃ j, k = j + 1 := ⟨k - 1, by omega⟩
          obtain ⟨c1, gj⟩ := CELL.out j (by have := NL.out; omega)
          have GJ := Lib.hid gj
          obtain ⟨q, hq⟩ : ∃ q, q = l[j]'(by have := NL.out; omega) := ⟨_, rfl⟩
          rw [← hq] at c1 GJ
          have q3 : (0 : Int) < (j : Int) + 1 := by omega
          have q4 : (j : Int) < (nl : Int) := by omega
          have LQ := less_txt q t
          have BE := Lib.hid (begins_any t q wr)
          clear hq gj CELL hkl hk0 h5
          have NO : Hid ((¬ q < t ∨ q <+: t) → decide (preR l) = false) := fun hh => decide_eq_false (fun hR => preA_not (k := j + 1) (by have := NL.out; omega) GK.out (Or.inr ⟨q, by omega, by rw [Nat.add_sub_cancel]; exact GJ.out, hh⟩) (PR.out.1 hR).1)
          by_cases hlt2 : q < t
          · rw [decide_eq_true hlt2] at LQ
            by_cases hpre : q <+: t
            · rw [decide_eq_true hpre] at BE
              have R := Lib.hid (NO.out (Or.inr hpre))
              clear hlt2 hpre NO
              generalize ofL q = sq at *
              generalize ofL t = st at *
              generalize t.length = lt at *
              go_wp2_with (go_at_call 44; refine (BE.out).mono ?_; rintro e w5 ⟨rfl, rfl⟩)
              go_ret
              exact ⟨by rw [R.out]; rfl, U.out⟩
            · rw [decide_eq_false hpre] at BE
              have PA2 : Hid (preA l (j + 1 + 1)) := preA_succ PA.out GK.out (by have := H5.out; omega) (fun q' h0 hq' => by
                rw [Nat.add_sub_cancel, GJ.out] at hq'; injection hq' with e; subst e; exact ⟨hlt2, hpre⟩)
              clear hlt2 hpre NO
              generalize ofL q = sq at *
              generalize ofL t = st at *
              generalize t.length = lt at *
              go_wp2_with (go_at_call 44; refine (BE.out).mono ?_; rintro e w5 ⟨rfl, rfl⟩)
              go_roundw
              case rel => exact ⟨j + 1 + 1, by omega, by simp, PA2, U⟩
              case measure => simp [intOf]; omega
          · rw [decide_eq_false hlt2] at LQ
            have R := Lib.hid (NO.out (Or.inl hlt2))
            clear hlt2 NO BE
            generalize ofL q = sq at *
            generalize ofL t = st at *
            generalize t.length = lt at *
            go_wp2
            go_ret
            exact ⟨by rw [R.out]; rfl, U.out⟩
    · have q1 : ¬ (k : Int) < (nl : Int) := by omega
      have ek : k = l.length := by have := NL.out; omega
      have PA3 : Hid (preA l l.length) := by rw [ek] at PA; exact PA
      clear PA ek
      by_cases h1 : 1 ≤ nl
      · have q5 : (1 : Int) ≤ (nl : Int) := by omega
        by_cases h2 : nl ≤ 32
        · have q6 : (nl : Int) ≤ 32 := by omega
          have R : Hid (decide (preR l) = true) := decide_eq_true (PR.out.2 ⟨PA3.out, by rw [← NL.out]; exact h1, by rw [← NL.out]; exact h2⟩)
          clear h1 h2
          go_wp2
          go_ret
          exact ⟨by rw [R.out]; first | rfl | simp [q6], U.out⟩
        · have q6 : ¬ (nl : Int) ≤ 32 := by omega
          have R : Hid (decide (preR l) = false) := decide_eq_false (fun hR => by have := (PR.out.1 hR).2.2; rw [← NL.out] at this; exact h2 this)
          clear h1 h2
          go_wp2
          go_ret
          exact ⟨by rw [R.out]; first | rfl | simp [q6], U.out⟩
      · have q5 : ¬ (1 : Int) ≤ (nl : Int) := by omega
        have R : Hid (decide (preR l) = false) := decide_eq_false (fun hR => by have := (PR.out.1 hR).2.1; rw [← NL.out] at this; exact h1 this)
        clear h1
        go_wp2
        go_ret
        exact ⟨by rw [R.out]; first | rfl | simp [q5], U.out⟩
end Go.Proofs.YtcpfkkbegnhofaaDoor
