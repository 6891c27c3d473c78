/- Which clients are told of which beginnings: how it lies in memory. Each block has an owner (lab). -/
import Derived.Test.YtnlbmplbaalgmaaPfxP
import Derived.Test.YtnlbmplbaalgmaaRefC
import Derived.Test.YtnlbmplbaalgmaaInsS
set_option linter.unusedVariables false
set_option linter.unusedSimpArgs false
set_option linter.unusedSectionVars false
namespace Go.Proofs.Ytnlbmplbaalgmaa
open Go.RowKit

theorem keyI64 : KeyOk Try.prog 2 intEnc := intKey Try.underlying2
theorem keyI : KeyOk Try.prog 3 intEnc := intKey Try.underlying3
theorem ints_block {w : World} {base b : Nat} {v : Value} {xs : List Int} (h : IntsAt w base v xs) (hv : v.ownBlock = some b) : base ≤ b ∧ b < w.heap.size ∧ ∃ cs, w.heap[b]? = some (.cells cs 3 (0, 0)) := by
  obtain ⟨_, ⟨rfl, e⟩ | ⟨g, cap, cur, rfl, hg, hh, _⟩⟩ := h
  · cases hv
  · cases hv; exact ⟨hg, (Array.getElem?_eq_some_iff.1 hh).1, _, hh⟩
theorem txts_block {w : World} {base b : Nat} {v : Value} {xs : List Txt} (h : TxtsAt w base v xs) (hv : v.ownBlock = some b) : base ≤ b ∧ b < w.heap.size ∧ ∃ cs, w.heap[b]? = some (.cells cs 9 (0, 0)) := by
  obtain ⟨_, ⟨rfl, e⟩ | ⟨g, cap, cur, rfl, hg, hh, _⟩⟩ := h
  · cases hv
  · cases hv; exact ⟨hg, (Array.getElem?_eq_some_iff.1 hh).1, _, hh⟩
theorem TxtsAt.strs {w : World} {base : Nat} {v : Value} {l : List Txt} : TxtsAt w base v l ↔ StrsAt w base v (l.map ofL) := by
  unfold TxtsAt StrsAt; rw [List.length_map, List.map_map]; exact Iff.rfl

inductive Lb | no | blk | tree | rm | om | row (n : Int) | cl (id : Int)
  deriving DecidableEq
def relab (lab : Nat → Lb) (l : Lb) (a b : Nat) : Nat → Lb := fun k => if a ≤ k ∧ k < b then l else lab k
theorem relab_new {lab : Nat → Lb} {l : Lb} {a b k : Nat} (h : a ≤ k) (h2 : k < b) : relab lab l a b k = l := if_pos ⟨h, h2⟩
theorem relab_old {lab : Nat → Lb} {l : Lb} {a b k : Nat} (h : k < a) : relab lab l a b k = lab k := if_neg (by omega)

structure PRaw (w : World) (base pb xb rm om : Nat) (lab : Nat → Lb) (L : List MarkP) (E : Nat → Prop) (nx : Int)
    (R : List (Int × Value)) (rv : Int → Value) (ri : Int → Option (List Int)) (Q : List (Int × Value)) (qv : Int → Value) (qi : Int → Option (List Txt)) : Prop where
  blk : Blk w pb [ptr xb, .map (some rm), .int .i64 nx, .map (some om)] 62
  lblk : lab pb = .blk
  tree : TreeAt w base xb L E
  ltree : ∀ b, E b → lab b = .tree
  rmap : MapAt intEnc w rm R
  lrm : lab rm = .rm
  rnd : (akeys R).Nodup
  rget : ∀ n, aget R n = (ri n).map fun _ => rv n
  rrow : ∀ n l, ri n = some l → IntsAt w base (rv n) l ∧ ∀ b, (rv n).ownBlock = some b → lab b = .row n
  qmap : MapAt intEnc w om Q
  lom : lab om = .om
  qnd : (akeys Q).Nodup
  qget : ∀ n, aget Q n = (qi n).map fun _ => qv n
  qrow : ∀ n l, qi n = some l → TxtsAt w base (qv n) l ∧ ∀ b, (qv n).ownBlock = some b → lab b = .cl n
  bnd : ∀ b, lab b ≠ .no → base ≤ b ∧ b < w.heap.size
  bl : base ≤ w.heap.size
section
variable {w w' : World} {base pb xb rm om : Nat} {lab : Nat → Lb} {L : List MarkP} {E : Nat → Prop} {nx : Int} {R : List (Int × Value)} {rv : Int → Value} {ri : Int → Option (List Int)} {Q : List (Int × Value)} {qv : Int → Value} {qi : Int → Option (List Txt)}
theorem PRaw.keep {F : Nat → Prop} (h : PRaw w base pb xb rm om lab L E nx R rv ri Q qv qi) (u : Upd F w w') (hd : ∀ b, lab b ≠ .no → ¬ F b) : PRaw w' base pb xb rm om lab L E nx R rv ri Q qv qi :=
  { h with
    blk := u.blk h.blk (hd _ (by rw [h.lblk]; decide))
    tree := h.tree.keep u (fun k hk => hd _ (by rw [h.ltree k hk]; decide))
    rmap := h.rmap.keep u (hd _ (by rw [h.lrm]; decide))
    rrow := fun n l hn => ⟨(h.rrow n l hn).1.keep u (fun b hb => hd _ (by rw [(h.rrow n l hn).2 b hb]; exact fun e => by cases e)), (h.rrow n l hn).2⟩
    qmap := h.qmap.keep u (hd _ (by rw [h.lom]; decide))
    qrow := fun n l hn => ⟨own_keep (h.qrow n l hn).1 u (fun b hb => hd _ (by rw [(h.qrow n l hn).2 b hb]; exact fun e => by cases e)), (h.qrow n l hn).2⟩
    bnd := fun b hb => ⟨(h.bnd b hb).1, Nat.lt_of_lt_of_le (h.bnd b hb).2 u.size⟩
    bl := Nat.le_trans h.bl u.size }
theorem PRaw.old (h : PRaw w base pb xb rm om lab L E nx R rv ri Q qv qi) {b : Nat} (hb : lab b ≠ .no) (l : Lb) (n : Nat) : relab lab l w.heap.size n b = lab b := relab_old (h.bnd b hb).2
theorem PRaw.bnd2 (h : PRaw w base pb xb rm om lab L E nx R rv ri Q qv qi) {n : Nat} (hn : w.heap.size ≤ n) (l : Lb) : ∀ b, relab lab l w.heap.size n b ≠ .no → base ≤ b ∧ b < n := fun b hb => by
  by_cases e : w.heap.size ≤ b ∧ b < n
  · exact ⟨Nat.le_trans h.bl e.1, e.2⟩
  · have : relab lab l w.heap.size n b = lab b := if_neg e
    rw [this] at hb
    exact ⟨(h.bnd b hb).1, Nat.lt_of_lt_of_le (h.bnd b hb).2 hn⟩
theorem PRaw.ofLab (h : PRaw w base pb xb rm om lab L E nx R rv ri Q qv qi) {b : Nat} {l l' : Lb} (hb : lab b = l) (hn : l ≠ .no) (n : Nat) : relab lab l' w.heap.size n b = l := by
  rw [h.old (by rw [hb]; exact hn)]; exact hb
/-- (1) the tree moves -/
theorem PRaw.treeTo (h : PRaw w base pb xb rm om lab L E nx R rv ri Q qv qi) {L' : List MarkP} {E' : Nat → Prop} (t : TreeAt w' base xb L' E') (u : Upd E w w') (f : ∀ k, E' k → E k ∨ w.heap.size ≤ k) :
    PRaw w' base pb xb rm om (relab lab .tree w.heap.size w'.heap.size) L' E' nx R rv ri Q qv qi := by
  have hE : ∀ {b l}, lab b = l → l ≠ .tree → ¬ E b := fun hb hl e => by rw [h.ltree _ e] at hb; exact hl hb.symm
  exact { h with
    blk := u.blk h.blk (hE h.lblk (by decide))
    lblk := h.ofLab h.lblk (by decide) _
    tree := t
    ltree := fun b hb => by
      rcases f b hb with g | g
      · exact h.ofLab (h.ltree b g) (by decide) _
      · exact relab_new g (t.ge hb).2
    rmap := h.rmap.keep u (hE h.lrm (by decide))
    lrm := h.ofLab h.lrm (by decide) _
    rrow := fun n l hn => ⟨(h.rrow n l hn).1.keep u (fun b hb => hE ((h.rrow n l hn).2 b hb) (fun e => by cases e)), fun b hb => h.ofLab ((h.rrow n l hn).2 b hb) (fun e => by cases e) _⟩
    qmap := h.qmap.keep u (hE h.lom (by decide))
    lom := h.ofLab h.lom (by decide) _
    qrow := fun n l hn => ⟨own_keep (h.qrow n l hn).1 u (fun b hb => hE ((h.qrow n l hn).2 b hb) (fun e => by cases e)), fun b hb => h.ofLab ((h.qrow n l hn).2 b hb) (fun e => by cases e) _⟩
    bnd := h.bnd2 u.size _
    bl := Nat.le_trans h.bl u.size }
/-- (2) the next row's number -/
theorem PRaw.nxTo (h : PRaw w base pb xb rm om lab L E nx R rv ri Q qv qi) (nx' : Int) : PRaw (w.setCell ⟨pb, 2, none⟩ (.int .i64 nx')) base pb xb rm om lab L E nx' R rv ri Q qv qi := by
  have u : Upd (fun b => lab b = .blk) w (w.setCell ⟨pb, 2, none⟩ (.int .i64 nx')) := (Upd.refl _ _).set (fun _ => h.lblk)
  have hE : ∀ {b l}, lab b = l → l ≠ .blk → ¬ lab b = .blk := fun hb hl e => by rw [e] at hb; exact hl hb.symm
  exact { h with
    blk := h.blk.set 2 (.int .i64 nx')
    tree := h.tree.keep u (fun k hk => hE (h.ltree k hk) (by decide))
    rmap := h.rmap.keep u (hE h.lrm (by decide))
    rrow := fun n l hn => ⟨(h.rrow n l hn).1.keep u (fun b hb => hE ((h.rrow n l hn).2 b hb) (fun e => by cases e)), (h.rrow n l hn).2⟩
    qmap := h.qmap.keep u (hE h.lom (by decide))
    qrow := fun n l hn => ⟨own_keep (h.qrow n l hn).1 u (fun b hb => hE ((h.qrow n l hn).2 b hb) (fun e => by cases e)), (h.qrow n l hn).2⟩
    bnd := fun b hb => ⟨(h.bnd b hb).1, Nat.lt_of_lt_of_le (h.bnd b hb).2 u.size⟩
    bl := Nat.le_trans h.bl u.size }
/-- (3) a row has another slice; the old one's block may have been written -/
theorem PRaw.rowTo (h : PRaw w base pb xb rm om lab L E nx R rv ri Q qv qi) {n : Int} {v : Value} {l : List Int} {w1 : World}
    (u1 : Upd (fun b => lab b = .row n) w w1) (hv : IntsAt w1 base v l) (hvo : ∀ b, v.ownBlock = some b → lab b = .row n ∨ w.heap.size ≤ b)
    (hm : MapAt intEnc w' rm (aset R n v)) (u2 : Upd (fun b => b = rm) w1 w') : PRaw w' base pb xb rm om (relab lab (.row n) w.heap.size w'.heap.size) L E nx (aset R n v) (upd rv n v) (upd ri n (some l)) Q qv qi := by
  have u : Upd (fun b => lab b = .row n ∨ b = rm) w w' := (u1.weaken (fun _ _ h => Or.inl h)).trans u2 (fun _ _ h => Or.inr h)
  have hE : ∀ {b l}, lab b = l → l ≠ .row n → l ≠ .rm → ¬ (lab b = .row n ∨ b = rm) := fun hb h1 h2 e => by
    rcases e with e | e
    · rw [e] at hb; exact h1 hb.symm
    · subst e; rw [h.lrm] at hb; exact h2 hb.symm
  have hvr : ∀ b, v.ownBlock = some b → b ≠ rm := fun b hb e => by
    rcases hvo b hb with g | g
    · rw [e, h.lrm] at g; cases g
    · have := (h.bnd rm (by rw [h.lrm]; decide)).2; omega
  exact { h with
    blk := u.blk h.blk (hE h.lblk (fun e => by cases e) (by decide))
    lblk := h.ofLab h.lblk (by decide) _
    tree := h.tree.keep u (fun k hk => hE (h.ltree k hk) (fun e => by cases e) (by decide))
    ltree := fun b hb => h.ofLab (h.ltree b hb) (by decide) _
    rmap := hm
    lrm := h.ofLab h.lrm (by decide) _
    rnd := nodup_aset h.rnd n v
    rget := fun m => by
      rw [aget_aset]
      by_cases e : n = m
      · subst e; rw [if_pos rfl, upd_at, upd_at]; rfl
      · rw [if_neg e, upd_ne _ _ (Ne.symm e), upd_ne _ _ (Ne.symm e)]; exact h.rget m
    rrow := fun m l' hm' => by
      by_cases e : m = n
      · subst e
        rw [upd_at] at hm' ⊢
        cases hm'
        refine ⟨hv.keep u2 (fun b hb e => hvr b hb e), fun b hb => ?_⟩
        rcases hvo b hb with g | g
        · exact h.ofLab g (fun e => by cases e) _
        · exact relab_new g (Nat.lt_of_lt_of_le (ints_block hv hb).2.1 u2.size)
      · rw [upd_ne _ _ e] at hm' ⊢
        obtain ⟨h1, h2⟩ := h.rrow m l' hm'
        exact ⟨h1.keep u (fun b hb => hE (h2 b hb) (fun e2 => by injection e2 with e2; exact e e2) (fun e => by cases e)), fun b hb => h.ofLab (h2 b hb) (fun e => by cases e) _⟩
    qmap := h.qmap.keep u (hE h.lom (fun e => by cases e) (by decide))
    lom := h.ofLab h.lom (by decide) _
    qrow := fun m l hn => ⟨own_keep (h.qrow m l hn).1 u (fun b hb => hE ((h.qrow m l hn).2 b hb) (fun e => by cases e) (fun e => by cases e)), fun b hb => h.ofLab ((h.qrow m l hn).2 b hb) (fun e => by cases e) _⟩
    bnd := h.bnd2 u.size _
    bl := Nat.le_trans h.bl u.size }
/-- (4) a row goes -/
theorem PRaw.rowDel (h : PRaw w base pb xb rm om lab L E nx R rv ri Q qv qi) {n : Int} (hm : MapAt intEnc w' rm (adel R n)) (u : Upd (fun b => b = rm) w w') : PRaw w' base pb xb rm om lab L E nx (adel R n) rv (upd ri n none) Q qv qi := by
  have hE : ∀ {b l}, lab b = l → l ≠ .rm → ¬ b = rm := fun hb h2 e => by subst e; rw [h.lrm] at hb; exact h2 hb.symm
  exact { h with
    blk := u.blk h.blk (hE h.lblk (by decide))
    tree := h.tree.keep u (fun k hk => hE (h.ltree k hk) (by decide))
    rmap := hm
    rnd := nodup_adel h.rnd n
    rget := fun m => by
      rw [aget_adel h.rnd]
      by_cases e : n = m
      · subst e; rw [if_pos rfl, upd_at]; rfl
      · rw [if_neg e, upd_ne _ _ (Ne.symm e)]; exact h.rget m
    rrow := fun m l' hm' => by
      by_cases e : m = n
      · subst e; rw [upd_at] at hm'; cases hm'
      · rw [upd_ne _ _ e] at hm'
        obtain ⟨h1, h2⟩ := h.rrow m l' hm'
        exact ⟨h1.keep u (fun b hb => hE (h2 b hb) (fun e => by cases e)), h2⟩
    qmap := h.qmap.keep u (hE h.lom (by decide))
    qrow := fun m l hn => ⟨own_keep (h.qrow m l hn).1 u (fun b hb => hE ((h.qrow m l hn).2 b hb) (fun e => by cases e)), (h.qrow m l hn).2⟩
    bnd := fun b hb => ⟨(h.bnd b hb).1, Nat.lt_of_lt_of_le (h.bnd b hb).2 u.size⟩
    bl := Nat.le_trans h.bl u.size }
/-- (5) a client's beginnings -/
theorem PRaw.clTo (h : PRaw w base pb xb rm om lab L E nx R rv ri Q qv qi) {n : Int} {v : Value} {l : List Txt} {w1 : World}
    (u1 : Upd (fun b => lab b = .cl n) w w1) (hv : TxtsAt w1 base v l) (hvo : ∀ b, v.ownBlock = some b → lab b = .cl n ∨ w.heap.size ≤ b)
    (hm : MapAt intEnc w' om (aset Q n v)) (u2 : Upd (fun b => b = om) w1 w') : PRaw w' base pb xb rm om (relab lab (.cl n) w.heap.size w'.heap.size) L E nx R rv ri (aset Q n v) (upd qv n v) (upd qi n (some l)) := by
  have u : Upd (fun b => lab b = .cl n ∨ b = om) w w' := (u1.weaken (fun _ _ h => Or.inl h)).trans u2 (fun _ _ h => Or.inr h)
  have hE : ∀ {b l}, lab b = l → l ≠ .cl n → l ≠ .om → ¬ (lab b = .cl n ∨ b = om) := fun hb h1 h2 e => by
    rcases e with e | e
    · rw [e] at hb; exact h1 hb.symm
    · subst e; rw [h.lom] at hb; exact h2 hb.symm
  have hvr : ∀ b, v.ownBlock = some b → b ≠ om := fun b hb e => by
    rcases hvo b hb with g | g
    · rw [e, h.lom] at g; cases g
    · have := (h.bnd om (by rw [h.lom]; decide)).2; omega
  exact { h with
    blk := u.blk h.blk (hE h.lblk (fun e => by cases e) (by decide))
    lblk := h.ofLab h.lblk (by decide) _
    tree := h.tree.keep u (fun k hk => hE (h.ltree k hk) (fun e => by cases e) (by decide))
    ltree := fun b hb => h.ofLab (h.ltree b hb) (by decide) _
    rmap := h.rmap.keep u (hE h.lrm (fun e => by cases e) (by decide))
    lrm := h.ofLab h.lrm (by decide) _
    rrow := fun m l hn => ⟨(h.rrow m l hn).1.keep u (fun b hb => hE ((h.rrow m l hn).2 b hb) (fun e => by cases e) (fun e => by cases e)), fun b hb => h.ofLab ((h.rrow m l hn).2 b hb) (fun e => by cases e) _⟩
    qmap := hm
    lom := h.ofLab h.lom (by decide) _
    qnd := nodup_aset h.qnd n v
    qget := fun m => by
      rw [aget_aset]
      by_cases e : n = m
      · subst e; rw [if_pos rfl, upd_at, upd_at]; rfl
      · rw [if_neg e, upd_ne _ _ (Ne.symm e), upd_ne _ _ (Ne.symm e)]; exact h.qget m
    qrow := fun m l' hm' => by
      by_cases e : m = n
      · subst e
        rw [upd_at] at hm' ⊢
        cases hm'
        refine ⟨own_keep hv u2 (fun b hb e => hvr b hb e), fun b hb => ?_⟩
        rcases hvo b hb with g | g
        · exact h.ofLab g (fun e => by cases e) _
        · exact relab_new g (Nat.lt_of_lt_of_le (txts_block hv hb).2.1 u2.size)
      · rw [upd_ne _ _ e] at hm' ⊢
        obtain ⟨h1, h2⟩ := h.qrow m l' hm'
        exact ⟨own_keep h1 u (fun b hb => hE (h2 b hb) (fun e2 => by injection e2 with e2; exact e e2) (fun e => by cases e)), fun b hb => h.ofLab (h2 b hb) (fun e => by cases e) _⟩
    bnd := h.bnd2 u.size _
    bl := Nat.le_trans h.bl u.size }
/-- (6) a client goes -/
theorem PRaw.clDel (h : PRaw w base pb xb rm om lab L E nx R rv ri Q qv qi) {n : Int} (hm : MapAt intEnc w' om (adel Q n)) (u : Upd (fun b => b = om) w w') : PRaw w' base pb xb rm om lab L E nx R rv ri (adel Q n) qv (upd qi n none) := by
  have hE : ∀ {b l}, lab b = l → l ≠ .om → ¬ b = om := fun hb h2 e => by subst e; rw [h.lom] at hb; exact h2 hb.symm
  exact { h with
    blk := u.blk h.blk (hE h.lblk (by decide))
    tree := h.tree.keep u (fun k hk => hE (h.ltree k hk) (by decide))
    rmap := h.rmap.keep u (hE h.lrm (by decide))
    rrow := fun m l hn => ⟨(h.rrow m l hn).1.keep u (fun b hb => hE ((h.rrow m l hn).2 b hb) (fun e => by cases e)), (h.rrow m l hn).2⟩
    qmap := hm
    qnd := nodup_adel h.qnd n
    qget := fun m => by
      rw [aget_adel h.qnd]
      by_cases e : n = m
      · subst e; rw [if_pos rfl, upd_at]; rfl
      · rw [if_neg e, upd_ne _ _ (Ne.symm e)]; exact h.qget m
    qrow := fun m l' hm' => by
      by_cases e : m = n
      · subst e; rw [upd_at] at hm'; cases hm'
      · rw [upd_ne _ _ e] at hm'
        obtain ⟨h1, h2⟩ := h.qrow m l' hm'
        exact ⟨own_keep h1 u (fun b hb => hE (h2 b hb) (fun e => by cases e)), h2⟩
    bnd := fun b hb => ⟨(h.bnd b hb).1, Nat.lt_of_lt_of_le (h.bnd b hb).2 u.size⟩
    bl := Nat.le_trans h.bl u.size }
/-- A row's slice, if it is there; else nothing. -/
theorem PRaw.rowAt (h : PRaw w base pb xb rm om lab L E nx R rv ri Q qv qi) (n : Int) : IntsAt w base ((aget R n).getD (.slice none 0 0)) ((ri n).getD []) ∧ ∀ b, ((aget R n).getD (.slice none 0 0)).ownBlock = some b → lab b = .row n := by
  rw [h.rget]
  cases e : ri n with
  | none => exact ⟨World.ownsRow_nil _ _ _ _, fun b hb => by cases hb⟩
  | some l => exact h.rrow n l e
theorem PRaw.clAt (h : PRaw w base pb xb rm om lab L E nx R rv ri Q qv qi) (n : Int) : TxtsAt w base ((aget Q n).getD (.slice none 0 0)) ((qi n).getD []) ∧ ∀ b, ((aget Q n).getD (.slice none 0 0)).ownBlock = some b → lab b = .cl n := by
  rw [h.qget]
  cases e : qi n with
  | none => exact ⟨World.ownsRow_nil _ _ _ _, fun b hb => by cases hb⟩
  | some l => exact h.qrow n l e
theorem PRaw.rowLook (h : PRaw w base pb xb rm om lab L E nx R rv ri Q qv qi) (n : Int) : (Instr.lookup 59 (.map (some rm)) (.int .i64 n) false).run Try.prog w = .ok ((aget R n).getD (.slice none 0 0)) w := by
  have := h.rmap.look (T := 59) keyI64 Try.underlying59 (z := .slice none 0 0) (Try.zeroValue56 w) n false
  exact this
theorem PRaw.clLook (h : PRaw w base pb xb rm om lab L E nx R rv ri Q qv qi) (n : Int) : (Instr.lookup 60 (.map (some om)) (.int .i64 n) false).run Try.prog w = .ok ((aget Q n).getD (.slice none 0 0)) w := by
  have := h.qmap.look (T := 60) keyI Try.underlying60 (z := .slice none 0 0) (Try.zeroValue22 w) n false
  exact this
end
/-- At pb lies who is told of what, as P says; at most N are told; it takes the blocks F. -/
def PAt (w : World) (base pb : Nat) (P : Txt → Int → Prop) (N : Nat) (F : Nat → Prop) : Prop :=
  ∃ xb rm om lab L E nx R rv ri Q qv qi, PRaw w base pb xb rm om lab L E nx R rv ri Q qv qi ∧ RowsOk P N L ri nx ∧ OfOk P N qi ∧ F = fun b => lab b ≠ .no
section
variable {w w' : World} {base pb : Nat} {P Q : Txt → Int → Prop} {N : Nat} {F : Nat → Prop}
theorem PAt.keep {G : Nat → Prop} (h : PAt w base pb P N F) (u : Upd G w w') (hd : ∀ b, F b → ¬ G b) : PAt w' base pb P N F := by
  obtain ⟨xb, rm, om, lab, L, E, nx, R, rv, ri, Q, qv, qi, h1, h2, h3, rfl⟩ := h
  exact ⟨xb, rm, om, lab, L, E, nx, R, rv, ri, Q, qv, qi, h1.keep u hd, h2, h3, rfl⟩
theorem PAt.lt (h : PAt w base pb P N F) : ∀ b, F b → base ≤ b ∧ b < w.heap.size := by
  obtain ⟨xb, rm, om, lab, L, E, nx, R, rv, ri, Q, qv, qi, h1, h2, h3, rfl⟩ := h
  exact h1.bnd
theorem PAt.congr (h : PAt w base pb P N F) (e : ∀ t id, P t id ↔ Q t id) : PAt w base pb Q N F := by
  have : P = Q := funext fun t => funext fun id => propext (e t id)
  subst this; exact h
theorem PAt.more (h : PAt w base pb P N F) {M : Nat} (hm : N ≤ M) : PAt w base pb P M F := by
  obtain ⟨xb, rm, om, lab, L, E, nx, R, rv, ri, Q, qv, qi, h1, h2, h3, rfl⟩ := h
  exact ⟨xb, rm, om, lab, L, E, nx, R, rv, ri, Q, qv, qi, h1, h2.more hm, h3.more hm, rfl⟩
end
end Go.Proofs.Ytnlbmplbaalgmaa
