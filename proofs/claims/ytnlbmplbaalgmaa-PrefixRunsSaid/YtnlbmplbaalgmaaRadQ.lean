/- Keys that share their beginnings, plain: what the operations do to the nodes. -/
import Derived.Test.YtnlbmplbaalgmaaRadP
set_option linter.unusedVariables false
set_option linter.unusedSimpArgs false
namespace Go.Proofs.Ytnlbmplbaalgmaa

/-- A new node without any below it. -/
def leafG (G : Nat → Nd) (b c : Nat) (p : Txt) (K1 K2 : List Nat) : Nat → Nd := fun x => if x = c then ⟨p, false, 0, []⟩ else if x = b then { G b with kids := K1 ++ c :: K2 } else G x
def setT (T : Nat → Txt) (c : Nat) (t : Txt) : Nat → Txt := fun x => if x = c then t else T x
/-- A node parted in two. -/
def partG (G : Nat → Nd) (b h y : Nat) (p1 p2 : Txt) (K1 K2 : List Nat) : Nat → Nd := fun x => if x = h then ⟨p1, false, 0, [y]⟩ else if x = y then { G y with part := p2 } else if x = b then { G b with kids := K1 ++ h :: K2 } else G x
/-- A node's own mark. -/
def markG (G : Nat → Nd) (b : Nat) (t : Bool) (n : Int) : Nat → Nd := fun x => if x = b then { G b with there := t, n := n } else G x
/-- A node less. -/
def lessG (G : Nat → Nd) (b : Nat) (K : List Nat) : Nat → Nd := fun x => if x = b then { G b with kids := K } else G x
/-- A node becomes one with the one below it. -/
def joinG (G : Nat → Nd) (b y : Nat) (p : Txt) (K : List Nat) : Nat → Nd := fun x => if x = y then { G y with part := p } else if x = b then { G b with kids := K } else G x
namespace Flat
variable {r : Nat} {bs S : List Nat} {G : Nat → Nd} {T : Nat → Txt}
theorem leaf (h : Flat r bs G T) {b c : Nat} {p : Txt} {K1 K2 : List Nat} (hb : b ∈ bs) (hc : c ∉ bs) (hk : (G b).kids = K1 ++ K2) (hp : p ≠ [])
    (h1 : ∀ x ∈ K1, hdN G x < p.headD 0) (h2 : ∀ x ∈ K2, p.headD 0 < hdN G x) : Flat r (c :: bs) (leafG G b c p K1 K2) (setT T c (T b ++ p)) := by
  have ne : ∀ x ∈ bs, x ≠ c := fun x hx e => hc (e ▸ hx)
  have gp : ∀ x ∈ bs, (leafG G b c p K1 K2 x).part = (G x).part := fun x hx => by
    unfold leafG; rw [if_neg (ne x hx)]; split
    · rename_i e; subst e; rfl
    · rfl
  have gh : ∀ x ∈ bs, hdN (leafG G b c p K1 K2) x = hdN G x := fun x hx => by unfold hdN; rw [gp x hx]
  have gc : hdN (leafG G b c p K1 K2) c = p.headD 0 := by unfold hdN leafG; rw [if_pos rfl]
  have gt : ∀ x ∈ bs, setT T c (T b ++ p) x = T x := fun x hx => by unfold setT; rw [if_neg (ne x hx)]
  have kb : (leafG G b c p K1 K2 b).kids = K1 ++ c :: K2 := by unfold leafG; rw [if_neg (ne b hb), if_pos rfl]
  have kc : (leafG G b c p K1 K2 c).kids = [] := by unfold leafG; rw [if_pos rfl]
  have ko : ∀ x ∈ bs, x ≠ b → (leafG G b c p K1 K2 x).kids = (G x).kids := fun x hx e => by unfold leafG; rw [if_neg (ne x hx), if_neg e]
  have old : ∀ x ∈ bs, ∀ y ∈ (leafG G b c p K1 K2 x).kids, x = b ∧ y = c ∨ y ∈ (G x).kids := fun x hx y hy => by
    by_cases e : x = b
    · subst e
      rw [kb, List.mem_append, List.mem_cons] at hy
      rw [hk, List.mem_append]
      rcases hy with hy | hy | hy
      · exact Or.inr (Or.inl hy)
      · exact Or.inl ⟨rfl, hy⟩
      · exact Or.inr (Or.inr hy)
    · rw [ko x hx e] at hy; exact Or.inr hy
  have mono : ∀ x ∈ bs, ∀ y ∈ (G x).kids, y ∈ (leafG G b c p K1 K2 x).kids := fun x hx y hy => by
    by_cases e : x = b
    · subst e
      rw [hk, List.mem_append] at hy
      rw [kb, List.mem_append, List.mem_cons]
      rcases hy with hy | hy
      · exact Or.inl hy
      · exact Or.inr (Or.inr hy)
    · rw [ko x hx e]; exact hy
  refine ⟨List.mem_cons_of_mem _ h.root, List.nodup_cons.2 ⟨hc, h.nodup⟩, by rw [gt r h.root]; exact h.troot, ?_, ?_, ?_⟩
  · intro x hx y hy
    rcases List.mem_cons.1 hx with rfl | hx
    · rw [kc] at hy; cases hy
    · rcases old x hx y hy with ⟨rfl, rfl⟩ | hy
      · refine ⟨List.mem_cons_self .., ?_, ?_⟩
        · unfold leafG; rw [if_pos rfl]; exact hp
        · rw [gt _ hb]; unfold setT leafG; rw [if_pos rfl, if_pos rfl]
      · obtain ⟨m, n, e⟩ := h.kid x hx y hy
        exact ⟨List.mem_cons_of_mem _ m, by rw [gp y m]; exact n, by rw [gt y m, gt x hx, gp y m]; exact e⟩
  · intro x hx
    rcases List.mem_cons.1 hx with rfl | hx
    · rw [kc]; exact List.Pairwise.nil
    · by_cases e : x = b
      · subst e
        have hs := h.sorted x hx
        rw [hk, List.pairwise_append] at hs
        have m1 : ∀ y ∈ K1, y ∈ bs := fun y hy => (h.kid x hx y (by rw [hk]; exact List.mem_append_left _ hy)).1
        have m2 : ∀ y ∈ K2, y ∈ bs := fun y hy => (h.kid x hx y (by rw [hk]; exact List.mem_append_right _ hy)).1
        rw [kb, List.pairwise_append, List.pairwise_cons]
        refine ⟨hs.1.imp_of_mem fun ha hb' hlt => ?_, ⟨fun y hy => ?_, hs.2.1.imp_of_mem fun ha hb' hlt => ?_⟩, fun y hy z hz => ?_⟩
        · rw [gh _ (m1 _ ha), gh _ (m1 _ hb')]; exact hlt
        · rw [gc, gh y (m2 y hy)]; exact h2 y hy
        · rw [gh _ (m2 _ ha), gh _ (m2 _ hb')]; exact hlt
        · rw [gh y (m1 y hy)]
          rcases List.mem_cons.1 hz with rfl | hz
          · rw [gc]; exact h1 y hy
          · rw [gh z (m2 z hz)]; exact hs.2.2 y hy z hz
      · rw [ko x hx e]
        exact (h.sorted x hx).imp_of_mem fun ha hb' hlt => by rw [gh _ (h.kid x hx _ ha).1, gh _ (h.kid x hx _ hb').1]; exact hlt
  · intro y hy ne'
    rcases List.mem_cons.1 hy with rfl | hy
    · exact ⟨b, List.mem_cons_of_mem _ hb, by rw [kb]; simp⟩
    · obtain ⟨x, hx, hm⟩ := h.up y hy ne'
      exact ⟨x, List.mem_cons_of_mem _ hx, mono x hx y hm⟩
theorem mark (h : Flat r bs G T) (b : Nat) (t : Bool) (n : Int) : Flat r bs (markG G b t n) T := by
  have gp : ∀ x, (markG G b t n x).part = (G x).part := fun x => by unfold markG; split <;> first | rfl | (rename_i e; subst e; rfl)
  have gk : ∀ x, (markG G b t n x).kids = (G x).kids := fun x => by unfold markG; split <;> first | rfl | (rename_i e; subst e; rfl)
  have gh : ∀ x, hdN (markG G b t n) x = hdN G x := fun x => by unfold hdN; rw [gp x]
  exact ⟨h.root, h.nodup, h.troot, fun x hx y hy => by rw [gp y]; rw [gk x] at hy; exact h.kid x hx y hy, fun x hx => by rw [gk x]; exact (h.sorted x hx).imp fun hlt => by rw [gh, gh]; exact hlt, fun y hy ne => by
    obtain ⟨x, hx, hm⟩ := h.up y hy ne
    exact ⟨x, hx, by rw [gk x]; exact hm⟩⟩
theorem less (h : Flat r bs G T) {b x : Nat} {K1 K2 : List Nat} (hb : b ∈ bs) (hk : (G b).kids = K1 ++ x :: K2) (hx : (G x).kids = []) : Flat r (bs.erase x) (lessG G b (K1 ++ K2)) T := by
  have hxk : x ∈ (G b).kids := by rw [hk]; simp
  have hxm := (h.kid b hb x hxk).1
  have xr := h.not_root hb hxk
  have gp : ∀ y, (lessG G b (K1 ++ K2) y).part = (G y).part := fun y => by unfold lessG; split <;> first | rfl | (rename_i e; subst e; rfl)
  have gh : ∀ y, hdN (lessG G b (K1 ++ K2)) y = hdN G y := fun y => by unfold hdN; rw [gp y]
  have kb : (lessG G b (K1 ++ K2) b).kids = K1 ++ K2 := by unfold lessG; rw [if_pos rfl]
  have ko : ∀ y, y ≠ b → (lessG G b (K1 ++ K2) y).kids = (G y).kids := fun y e => by unfold lessG; rw [if_neg e]
  have nd := h.kids_nodup hb
  rw [hk, List.nodup_append, List.nodup_cons] at nd
  have kn : ∀ y, y ∈ K1 ++ K2 → y ≠ x := fun y hy e => by
    subst e
    rcases List.mem_append.1 hy with hy | hy
    · exact nd.2.2 _ hy _ (List.mem_cons_self ..) rfl
    · exact nd.2.1.1 hy
  have sub : ∀ y ∈ K1 ++ K2, y ∈ (G b).kids := fun y hy => by
    rw [hk]; rcases List.mem_append.1 hy with hy | hy <;> simp [hy]
  have me : ∀ y, y ∈ bs.erase x ↔ y ≠ x ∧ y ∈ bs := fun y => h.nodup.mem_erase_iff
  refine ⟨(me r).2 ⟨fun e => xr e.symm, h.root⟩, h.nodup.erase _, h.troot, ?_, ?_, ?_⟩
  · intro y hy z hz
    replace hy := (me y).1 hy
    obtain ⟨yx, hy⟩ := hy
    rw [gp z]
    by_cases e : y = b
    · subst e
      rw [kb] at hz
      obtain ⟨m, n, e⟩ := h.kid y hy z (sub z hz)
      exact ⟨(me z).2 ⟨kn z hz, m⟩, n, e⟩
    · rw [ko y e] at hz
      obtain ⟨m, n, e'⟩ := h.kid y hy z hz
      refine ⟨(me z).2 ⟨?_, m⟩, n, e'⟩
      rintro rfl
      exact e (h.parent_eq hy hb hz hxk)
  · intro y hy
    replace hy := (me y).1 hy
    obtain ⟨yx, hy⟩ := hy
    have hs := h.sorted y hy
    by_cases e : y = b
    · subst e
      rw [kb]
      rw [hk] at hs
      refine List.Pairwise.imp (fun hlt => by rw [gh, gh]; exact hlt) (List.Pairwise.sublist ?_ hs)
      exact List.Sublist.append_left (List.sublist_cons_self _ _) _
    · rw [ko y e]; exact hs.imp fun hlt => by rw [gh, gh]; exact hlt
  · intro y hy ne
    replace hy := (me y).1 hy
    obtain ⟨yx, hy⟩ := hy
    obtain ⟨z, hz, hm⟩ := h.up y hy ne
    have zx : z ≠ x := by rintro rfl; rw [hx] at hm; cases hm
    refine ⟨z, (me z).2 ⟨zx, hz⟩, ?_⟩
    by_cases e : z = b
    · subst e
      rw [hk, List.mem_append, List.mem_cons] at hm
      rw [kb, List.mem_append]
      rcases hm with hm | hm | hm
      · exact Or.inl hm
      · exact absurd hm yx
      · exact Or.inr hm
    · rw [ko z e]; exact hm
/-- One is parted: a new one stands in its place, with the part that both share. -/
theorem split (h : Flat r bs G T) {b d y : Nat} {p1 p2 : Txt} {K1 K2 : List Nat} (hb : b ∈ bs) (hd : d ∉ bs) (hk : (G b).kids = K1 ++ y :: K2) (hp : (G y).part = p1 ++ p2) (n1 : p1 ≠ []) (n2 : p2 ≠ []) :
    Flat r (d :: bs) (partG G b d y p1 p2 K1 K2) (setT T d (T b ++ p1)) := by
  have hyk : y ∈ (G b).kids := by rw [hk]; simp
  obtain ⟨hym, _, ey⟩ := h.kid b hb y hyk
  have yb : y ≠ b := by rintro rfl; exact absurd (h.kid_len hb hyk) (Nat.lt_irrefl _)
  have ne : ∀ x ∈ bs, x ≠ d := fun x hx e => hd (e ▸ hx)
  have gp : ∀ x ∈ bs, x ≠ y → (partG G b d y p1 p2 K1 K2 x).part = (G x).part := fun x hx e => by
    unfold partG; rw [if_neg (ne x hx), if_neg e]; split <;> first | rfl | (rename_i e; subst e; rfl)
  have gy : (partG G b d y p1 p2 K1 K2 y).part = p2 := by unfold partG; rw [if_neg (ne y hym), if_pos rfl]
  have gd : (partG G b d y p1 p2 K1 K2 d).part = p1 := by unfold partG; rw [if_pos rfl]
  have gh : ∀ x ∈ bs, x ≠ y → hdN (partG G b d y p1 p2 K1 K2) x = hdN G x := fun x hx e => by unfold hdN; rw [gp x hx e]
  have gdh : hdN (partG G b d y p1 p2 K1 K2) d = hdN G y := by
    unfold hdN; rw [gd, hp]
    cases p1 with
    | nil => exact absurd rfl n1
    | cons => rfl
  have gt : ∀ x ∈ bs, setT T d (T b ++ p1) x = T x := fun x hx => by unfold setT; rw [if_neg (ne x hx)]
  have gtd : setT T d (T b ++ p1) d = T b ++ p1 := by unfold setT; rw [if_pos rfl]
  have kb : (partG G b d y p1 p2 K1 K2 b).kids = K1 ++ d :: K2 := by unfold partG; rw [if_neg (ne b hb), if_neg (Ne.symm yb), if_pos rfl]
  have kd : (partG G b d y p1 p2 K1 K2 d).kids = [y] := by unfold partG; rw [if_pos rfl]
  have ko : ∀ x ∈ bs, x ≠ b → (partG G b d y p1 p2 K1 K2 x).kids = (G x).kids := fun x hx e => by
    unfold partG; rw [if_neg (ne x hx)]; split
    · rename_i e; subst e; rfl
    · rfl
  have nd := h.kids_nodup hb
  rw [hk, List.nodup_append, List.nodup_cons] at nd
  have kn : ∀ z, z ∈ K1 ∨ z ∈ K2 → z ≠ y := fun z hz e => by
    subst e
    rcases hz with hz | hz
    · exact nd.2.2 _ hz _ (List.mem_cons_self ..) rfl
    · exact nd.2.1.1 hz
  have sub : ∀ z, z ∈ K1 ∨ z ∈ K2 → z ∈ (G b).kids := fun z hz => by
    rw [hk]; rcases hz with hz | hz <;> simp [hz]
  have oth : ∀ x ∈ bs, x ≠ b → ∀ z ∈ (G x).kids, z ≠ y := fun x hx e z hz e2 => by
    subst e2; exact e (h.parent_eq hx hb hz hyk)
  refine ⟨List.mem_cons_of_mem _ h.root, List.nodup_cons.2 ⟨hd, h.nodup⟩, by rw [gt r h.root]; exact h.troot, ?_, ?_, ?_⟩
  · intro x hx z hz
    rcases List.mem_cons.1 hx with e | hx
    · rw [e, kd, List.mem_singleton] at hz
      subst hz
      refine ⟨List.mem_cons_of_mem _ hym, by rw [gy]; exact n2, ?_⟩
      rw [e, gt _ hym, gtd, gy, ey, hp, List.append_assoc]
    · by_cases e : x = b
      · rw [e, kb, List.mem_append, List.mem_cons] at hz
        rw [e]
        have : z = d ∨ (z ∈ K1 ∨ z ∈ K2) := by rcases hz with hz | hz | hz <;> simp [hz]
        rcases this with e2 | hz
        · rw [e2]
          exact ⟨List.mem_cons_self .., by rw [gd]; exact n1, by rw [gtd, gt b hb, gd]⟩
        · obtain ⟨m, n, e'⟩ := h.kid b hb z (sub z hz)
          have hzy := kn z hz
          exact ⟨List.mem_cons_of_mem _ m, by rw [gp z m hzy]; exact n, by rw [gt z m, gt b hb, gp z m hzy]; exact e'⟩
      · rw [ko x hx e] at hz
        obtain ⟨m, n, e'⟩ := h.kid x hx z hz
        have hzy := oth x hx e z hz
        exact ⟨List.mem_cons_of_mem _ m, by rw [gp z m hzy]; exact n, by rw [gt z m, gt x hx, gp z m hzy]; exact e'⟩
  · intro x hx
    rcases List.mem_cons.1 hx with e | hx
    · rw [e, kd]; simp
    · by_cases e : x = b
      · rw [e]
        have hs := h.sorted b hb
        rw [hk, List.pairwise_append, List.pairwise_cons] at hs
        have m1 : ∀ z ∈ K1, z ∈ bs := fun z hz => (h.kid b hb z (sub z (Or.inl hz))).1
        have m2 : ∀ z ∈ K2, z ∈ bs := fun z hz => (h.kid b hb z (sub z (Or.inr hz))).1
        have g1 : ∀ z ∈ K1, hdN (partG G b d y p1 p2 K1 K2) z = hdN G z := fun z hz => gh z (m1 z hz) (kn z (Or.inl hz))
        have g2 : ∀ z ∈ K2, hdN (partG G b d y p1 p2 K1 K2) z = hdN G z := fun z hz => gh z (m2 z hz) (kn z (Or.inr hz))
        rw [kb, List.pairwise_append, List.pairwise_cons]
        refine ⟨hs.1.imp_of_mem fun ha hb' hlt => ?_, ⟨fun z hz => ?_, hs.2.1.2.imp_of_mem fun ha hb' hlt => ?_⟩, fun z hz u hu => ?_⟩
        · rw [g1 _ ha, g1 _ hb']; exact hlt
        · rw [gdh, g2 z hz]; exact hs.2.1.1 z hz
        · rw [g2 _ ha, g2 _ hb']; exact hlt
        · rw [g1 z hz]
          rcases List.mem_cons.1 hu with e2 | hu
          · rw [e2, gdh]; exact hs.2.2 z hz y (List.mem_cons_self ..)
          · rw [g2 u hu]; exact hs.2.2 z hz u (List.mem_cons_of_mem _ hu)
      · rw [ko x hx e]
        exact (h.sorted x hx).imp_of_mem fun ha hb' hlt => by rw [gh _ (h.kid x hx _ ha).1 (oth x hx e _ ha), gh _ (h.kid x hx _ hb').1 (oth x hx e _ hb')]; exact hlt
  · intro z hz nr
    rcases List.mem_cons.1 hz with e | hz
    · exact ⟨b, List.mem_cons_of_mem _ hb, by rw [e, kb]; simp⟩
    · by_cases e : z = y
      · exact ⟨d, List.mem_cons_self .., by rw [e, kd]; simp⟩
      · obtain ⟨x, hx, hm⟩ := h.up z hz nr
        refine ⟨x, List.mem_cons_of_mem _ hx, ?_⟩
        by_cases e2 : x = b
        · rw [e2] at hm ⊢
          rw [hk, List.mem_append, List.mem_cons] at hm
          rw [kb, List.mem_append, List.mem_cons]
          rcases hm with hm | hm | hm
          · exact Or.inl hm
          · exact absurd hm e
          · exact Or.inr (Or.inr hm)
        · rw [ko x hx e2]; exact hm
/-- A node with one below it becomes one with that. -/
theorem join (h : Flat r bs G T) {b x y : Nat} {K1 K2 : List Nat} (hb : b ∈ bs) (hk : (G b).kids = K1 ++ x :: K2) (hx : (G x).kids = [y]) :
    Flat r (bs.erase x) (joinG G b y ((G x).part ++ (G y).part) (K1 ++ y :: K2)) T := by
  have hxk : x ∈ (G b).kids := by rw [hk]; simp
  obtain ⟨hxm, nx, ex⟩ := h.kid b hb x hxk
  have hyk : y ∈ (G x).kids := by rw [hx]; simp
  obtain ⟨hym, ny, ey⟩ := h.kid x hxm y hyk
  have xr := h.not_root hb hxk
  have l1 := h.kid_len hb hxk
  have l2 := h.kid_len hxm hyk
  have yb : y ≠ b := by rintro rfl; omega
  have yx : y ≠ x := by rintro rfl; omega
  have xb : x ≠ b := by rintro rfl; omega
  have gy : (joinG G b y ((G x).part ++ (G y).part) (K1 ++ y :: K2) y).part = (G x).part ++ (G y).part := by unfold joinG; rw [if_pos rfl]
  have gp : ∀ z, z ≠ y → (joinG G b y ((G x).part ++ (G y).part) (K1 ++ y :: K2) z).part = (G z).part := fun z e => by
    unfold joinG; rw [if_neg e]; split <;> first | rfl | (rename_i e; subst e; rfl)
  have gh : ∀ z, z ≠ y → hdN (joinG G b y ((G x).part ++ (G y).part) (K1 ++ y :: K2)) z = hdN G z := fun z e => by unfold hdN; rw [gp z e]
  have gyh : hdN (joinG G b y ((G x).part ++ (G y).part) (K1 ++ y :: K2)) y = hdN G x := by
    unfold hdN; rw [gy]
    cases hg : (G x).part with
    | nil => exact absurd hg nx
    | cons => rfl
  have kb : (joinG G b y ((G x).part ++ (G y).part) (K1 ++ y :: K2) b).kids = K1 ++ y :: K2 := by unfold joinG; rw [if_neg (Ne.symm yb), if_pos rfl]
  have ko : ∀ z, z ≠ b → (joinG G b y ((G x).part ++ (G y).part) (K1 ++ y :: K2) z).kids = (G z).kids := fun z e => by
    unfold joinG; split
    · rename_i e; subst e; rfl
    · rfl
  have nd := h.kids_nodup hb
  rw [hk, List.nodup_append, List.nodup_cons] at nd
  have kn : ∀ z, z ∈ K1 ∨ z ∈ K2 → z ≠ x := fun z hz e => by
    subst e
    rcases hz with hz | hz
    · exact nd.2.2 _ hz _ (List.mem_cons_self ..) rfl
    · exact nd.2.1.1 hz
  have sub : ∀ z, z ∈ K1 ∨ z ∈ K2 → z ∈ (G b).kids := fun z hz => by
    rw [hk]; rcases hz with hz | hz <;> simp [hz]
  have kny : ∀ z, z ∈ K1 ∨ z ∈ K2 → z ≠ y := fun z hz e => by
    subst e; exact xb (h.parent_eq hb hxm (sub z hz) hyk).symm
  have oth : ∀ u ∈ bs, u ≠ x → ∀ z ∈ (G u).kids, z ≠ y := fun u hu e z hz e2 => by
    subst e2; exact e (h.parent_eq hu hxm hz hyk)
  have othx : ∀ u ∈ bs, u ≠ b → ∀ z ∈ (G u).kids, z ≠ x := fun u hu e z hz e2 => by
    subst e2; exact e (h.parent_eq hu hb hz hxk)
  have me : ∀ z, z ∈ bs.erase x ↔ z ≠ x ∧ z ∈ bs := fun z => h.nodup.mem_erase_iff
  refine ⟨(me r).2 ⟨fun e => xr e.symm, h.root⟩, h.nodup.erase _, h.troot, ?_, ?_, ?_⟩
  · intro u hu z hz
    replace hu := (me u).1 hu
    obtain ⟨ux, hu⟩ := hu
    by_cases e : u = b
    · rw [e, kb, List.mem_append, List.mem_cons] at hz
      rw [e]
      have : z = y ∨ (z ∈ K1 ∨ z ∈ K2) := by rcases hz with hz | hz | hz <;> simp [hz]
      rcases this with e2 | hz
      · rw [e2]
        exact ⟨(me y).2 ⟨yx, hym⟩, by rw [gy]; simp [nx], by rw [gy, ey, ex, List.append_assoc]⟩
      · obtain ⟨m, n, e'⟩ := h.kid b hb z (sub z hz)
        exact ⟨(me z).2 ⟨kn z hz, m⟩, by rw [gp z (kny z hz)]; exact n, by rw [gp z (kny z hz)]; exact e'⟩
    · rw [ko u e] at hz
      obtain ⟨m, n, e'⟩ := h.kid u hu z hz
      have zy := oth u hu ux z hz
      exact ⟨(me z).2 ⟨othx u hu e z hz, m⟩, by rw [gp z zy]; exact n, by rw [gp z zy]; exact e'⟩
  · intro u hu
    replace hu := (me u).1 hu
    obtain ⟨ux, hu⟩ := hu
    by_cases e : u = b
    · rw [e]
      have hs := h.sorted b hb
      rw [hk, List.pairwise_append, List.pairwise_cons] at hs
      have g1 : ∀ z ∈ K1, hdN (joinG G b y ((G x).part ++ (G y).part) (K1 ++ y :: K2)) z = hdN G z := fun z hz => gh z (kny z (Or.inl hz))
      have g2 : ∀ z ∈ K2, hdN (joinG G b y ((G x).part ++ (G y).part) (K1 ++ y :: K2)) z = hdN G z := fun z hz => gh z (kny z (Or.inr hz))
      rw [kb, List.pairwise_append, List.pairwise_cons]
      refine ⟨hs.1.imp_of_mem fun ha hb' hlt => ?_, ⟨fun z hz => ?_, hs.2.1.2.imp_of_mem fun ha hb' hlt => ?_⟩, fun z hz u hu => ?_⟩
      · rw [g1 _ ha, g1 _ hb']; exact hlt
      · rw [gyh, g2 z hz]; exact hs.2.1.1 z hz
      · rw [g2 _ ha, g2 _ hb']; exact hlt
      · rw [g1 z hz]
        rcases List.mem_cons.1 hu with e2 | hu
        · rw [e2, gyh]; exact hs.2.2 z hz x (List.mem_cons_self ..)
        · rw [g2 u hu]; exact hs.2.2 z hz u (List.mem_cons_of_mem _ hu)
    · rw [ko u e]
      exact (h.sorted u hu).imp_of_mem fun ha hb' hlt => by rw [gh _ (oth u hu ux _ ha), gh _ (oth u hu ux _ hb')]; exact hlt
  · intro z hz nr
    replace hz := (me z).1 hz
    obtain ⟨zx, hz⟩ := hz
    by_cases e : z = y
    · exact ⟨b, (me b).2 ⟨Ne.symm xb, hb⟩, by rw [e, kb]; simp⟩
    · obtain ⟨u, hu, hm⟩ := h.up z hz nr
      have ux : u ≠ x := by
        rintro rfl
        rw [hx, List.mem_singleton] at hm
        exact e hm
      refine ⟨u, (me u).2 ⟨ux, hu⟩, ?_⟩
      by_cases e2 : u = b
      · rw [e2] at hm ⊢
        rw [hk, List.mem_append, List.mem_cons] at hm
        rw [kb, List.mem_append, List.mem_cons]
        rcases hm with hm | hm | hm
        · exact Or.inl hm
        · exact absurd hm zx
        · exact Or.inr (Or.inr hm)
      · rw [ko u e2]; exact hm
end Flat
end Go.Proofs.Ytnlbmplbaalgmaa
