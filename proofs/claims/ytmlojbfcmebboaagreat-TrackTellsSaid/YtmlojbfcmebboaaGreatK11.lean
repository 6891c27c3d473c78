/- Which clients are told of which beginnings: how it lies in memory. Each block has an owner (lab). -/
import Derived.Test.YtmlojbfcmebboaaGreatK09
import Derived.Test.YtmlojbfcmebboaaGreatK10
import Derived.Lib.OwnBridge
set_option linter.unusedVariables false
set_option linter.unusedSimpArgs false
set_option linter.unusedSectionVars false
namespace Go.Proofs.YtmlojbfcmebboaaGreat
open Go.RowKit

theorem keyI64 : KeyOk Tryz.prog 2 intEnc := intKey Tryz.underlying2
theorem txts_block {w : World} {base b : Nat} {v : Value} {xs : List Txt} (h : TxtsAt w base v xs) (hv : v.ownBlock = some b) : base ≤ b ∧ b < w.heap.size ∧ ∃ cs, w.heap[b]? = some (.cells cs 9 (0, 0)) := by
  obtain ⟨_, ⟨rfl, e⟩ | ⟨g, cap, cur, rfl, hg, hh, _⟩⟩ := h
  · cases hv
  · cases hv; exact ⟨hg, (Array.getElem?_eq_some_iff.1 hh).1, _, hh⟩
theorem TxtsAt.strs {w : World} {base : Nat} {v : Value} {l : List Txt} : TxtsAt w base v l ↔ StrsAt w base v (l.map ofL) := by
  unfold TxtsAt StrsAt; rw [List.length_map, List.map_map]; exact Iff.rfl

inductive Lb | no | blk | tree | rm | om | row (n : Int) | cl (id : Int)
  deriving DecidableEq
def relab (lab : Nat → Lb) (l : Lb) (a b : Nat) : Nat → Lb := fun k => if a ≤ k ∧ k < b then l else lab k
theorem relab_new {lab : Nat → Lb} {l : Lb} {a b k : Nat} (h : a ≤ k) (h2 : k < b) : relab lab l a b k = l := if_pos ⟨h, h2⟩
theorem relab_old {lab : Nat → Lb} {l : Lb} {a b k : Nat} (h : k < a) : relab lab l a b k = lab k := if_neg (by omega)

structure PRaw (w : World) (base pb xb rm om : Nat) (lab : Nat → Lb) (L : List MarkP) (E : Nat → Prop) (nx : Int)
    (R : List (Int × Value)) (rv : Int → Value) (ri : Int → Option (List Int)) (Q : List (Int × Value)) (qv : Int → Value) (qi : Int → Option (List Txt)) : Prop where
  blk : Blk w pb [ptr xb, .map (some rm), .int .i64 nx, .map (some om)] 148
  lblk : lab pb = .blk
  tree : TreeAt w base xb L E
  ltree : ∀ b, E b → lab b = .tree
  rmap : MapAt intEnc w rm R
  lrm : lab rm = .rm
  rnd : (akeys R).Nodup
  rget : ∀ n, aget R n = (ri n).map fun _ => rv n
  rrow : ∀ n l, ri n = some l → IntsAt w base (rv n) l ∧ ∀ b, (rv n).ownBlock = some b → lab b = .row n
  qmap : MapAt intEnc w om Q
  lom : lab om = .om
  qnd : (akeys Q).Nodup
  qget : ∀ n, aget Q n = (qi n).map fun _ => qv n
  qrow : ∀ n l, qi n = some l → TxtsAt w base (qv n) l ∧ ∀ b, (qv n).ownBlock = some b → lab b = .cl n
  bnd : ∀ b, lab b ≠ .no → base ≤ b ∧ b < w.heap.size
  bl : base ≤ w.heap.size
section
variable {w w' : World} {base pb xb rm om : Nat} {lab : Nat → Lb} {L : List MarkP} {E : Nat → Prop} {nx : Int} {R : List (Int × Value)} {rv : Int → Value} {ri : Int → Option (List Int)} {Q : List (Int × Value)} {qv : Int → Value} {qi : Int → Option (List Txt)}
theorem PRaw.keep {F : Nat → Prop} (h : PRaw w base pb xb rm om lab L E nx R rv ri Q qv qi) (u : Upd F w w') (hd : ∀ b, lab b ≠ .no → ¬ F b) : PRaw w' base pb xb rm om lab L E nx R rv ri Q qv qi :=
  { h with
    blk := u.blk h.blk (hd _ (by rw [h.lblk]; decide))
    tree := h.tree.keep u (fun k hk => hd _ (by rw [h.ltree k hk]; decide))
    rmap := h.rmap.keep u (hd _ (by rw [h.lrm]; decide))
    rrow := fun n l hn => ⟨(h.rrow n l hn).1.keep u (fun b hb => hd _ (by rw [(h.rrow n l hn).2 b hb]; exact fun e => by cases e)), (h.rrow n l hn).2⟩
    qmap := h.qmap.keep u (hd _ (by rw [h.lom]; decide))
    qrow := fun n l hn => ⟨own_keep (h.qrow n l hn).1 u (fun b hb => hd _ (by rw [(h.qrow n l hn).2 b hb]; exact fun e => by cases e)), (h.qrow n l hn).2⟩
    bnd := fun b hb => ⟨(h.bnd b hb).1, Nat.lt_of_lt_of_le (h.bnd b hb).2 u.size⟩
    bl := Nat.le_trans h.bl u.size }
theorem PRaw.old (h : PRaw w base pb xb rm om lab L E nx R rv ri Q qv qi) {b : Nat} (hb : lab b ≠ .no) (l : Lb) (n : Nat) : relab lab l w.heap.size n b = lab b := relab_old (h.bnd b hb).2
theorem PRaw.bnd2 (h : PRaw w base pb xb rm om lab L E nx R rv ri Q qv qi) {n : Nat} (hn : w.heap.size ≤ n) (l : Lb) : ∀ b, relab lab l w.heap.size n b ≠ .no → base ≤ b ∧ b < n := fun b hb => by
  by_cases e : w.heap.size ≤ b ∧ b < n
  · exact ⟨Nat.le_trans h.bl e.1, e.2⟩
  · have : relab lab l w.heap.size n b = lab b := if_neg e
    rw [this] at hb
    exact ⟨(h.bnd b hb).1, Nat.lt_of_lt_of_le (h.bnd b hb).2 hn⟩
theorem PRaw.ofLab (h : PRaw w base pb xb rm om lab L E nx R rv ri Q qv qi) {b : Nat} {l l' : Lb} (hb : lab b = l) (hn : l ≠ .no) (n : Nat) : relab lab l' w.heap.size n b = l := by
  rw [h.old (by rw [hb]; exact hn)]; exact hb
/-- (1) the tree moves -/
theorem PRaw.treeTo (h : PRaw w base pb xb rm om lab L E nx R rv ri Q qv qi) {L' : List MarkP} {E' : Nat → Prop} (t : TreeAt w' base xb L' E') (u : Upd E w w') (f : ∀ k, E' k → E k ∨ w.heap.size ≤ k) :
    PRaw w' base pb xb rm om (relab lab .tree w.heap.size w'.heap.size) L' E' nx R rv ri Q qv qi := by
  have hE : ∀ {b l}, lab b = l → l ≠ .tree → ¬ E b := fun hb hl e => by rw [h.ltree _ e] at hb; exact hl hb.symm
  exact { h with
    blk := u.blk h.blk (hE h.lblk (by decide))
    lblk := h.ofLab h.lblk (by decide) _
    tree := t
    ltree := fun b hb => by
      rcases f b hb with g | g
      · exact h.ofLab (h.ltree b g) (by decide) _
      · exact relab_new g (t.ge hb).2
    rmap := h.rmap.keep u (hE h.lrm (by decide))
    lrm := h.ofLab h.lrm (by decide) _
    rrow := fun n l hn => ⟨(h.rrow n l hn).1.keep u (fun b hb => hE ((h.rrow n l hn).2 b hb) (fun e => by cases e)), fun b hb => h.ofLab ((h.rrow n l hn).2 b hb) (fun e => by cases e) _⟩
    qmap := h.qmap.keep u (hE h.lom (by decide))
    lom := h.ofLab h.lom (by decide) _
    qrow := fun n l hn => ⟨own_keep (h.qrow n l hn).1 u (fun b hb => hE ((h.qrow n l hn).2 b hb) (fun e => by cases e)), fun b hb => h.ofLab ((h.qrow n l hn).2 b hb) (fun e => by cases e) _⟩
    bnd := h.bnd2 u.size _
    bl := Nat.le_trans h.bl u.size }
/-- (2) the next row's number -/
theorem PRaw.nxTo (h : PRaw w base pb xb rm om lab L E nx R rv ri Q qv qi) (nx' : Int) : PRaw (w.setCell ⟨pb, 2, none⟩ (.int .i64 nx')) base pb xb rm om lab L E nx' R rv ri Q qv qi := by
  have u : Upd (fun b => lab b = .blk) w (w.setCell ⟨pb, 2, none⟩ (.int .i64 nx')) := (Upd.refl _ _).set (fun _ => h.lblk)
  have hE : ∀ {b l}, lab b = l → l ≠ .blk → ¬ lab b = .blk := fun hb hl e => by rw [e] at hb; exact hl hb.symm
  exact { h with
    blk := h.blk.set 2 (.int .i64 nx')
    tree := h.tree.keep u (fun k hk => hE (h.ltree k hk) (by decide))
    rmap := h.rmap.keep u (hE h.lrm (by decide))
    rrow := fun n l hn => ⟨(h.rrow n l hn).1.keep u (fun b hb => hE ((h.rrow n l hn).2 b hb) (fun e => by cases e)), (h.rrow n l hn).2⟩
    qmap := h.qmap.keep u (hE h.lom (by decide))
    qrow := fun n l hn => ⟨own_keep (h.qrow n l hn).1 u (fun b hb => hE ((h.qrow n l hn).2 b hb) (fun e => by cases e)), (h.qrow n l hn).2⟩
    bnd := fun b hb => ⟨(h.bnd b hb).1, Nat.lt_of_lt_of_le (h.bnd b hb).2 u.size⟩
    bl := Nat.le_trans h.bl u.size }
/-- (3) a row has another slice; the old one's block may have been written -/
theorem PRaw.rowTo (h : PRaw w base pb xb rm om lab L E nx R rv ri Q qv qi) {n : Int} {v : Value} {l : List Int} {w1 : World}
    (u1 : Upd (fun b => lab b = .row n) w w1) (hv : IntsAt w1 base v l) (hvo : ∀ b, v.ownBlock = some b → lab b = .row n ∨ w.heap.size ≤ b)
    (hm : MapAt intEnc w' rm (aset R n v)) (u2 : Upd (fun b => b = rm) w1 w') : PRaw w' base pb xb rm om (relab lab (.row n) w.heap.size w'.heap.size) L E nx (aset R n v) (upd rv n v) (upd ri n (some l)) Q qv qi := by
  have u : Upd (fun b => lab b = .row n ∨ b = rm) w w' := (u1.weaken (fun _ _ h => Or.inl h)).trans u2 (fun _ _ h => Or.inr h)
  have hE : ∀ {b l}, lab b = l → l ≠ .row n → l ≠ .rm → ¬ (lab b = .row n ∨ b = rm) := fun hb h1 h2 e => by
    rcases e with e | e
    · rw [e] at hb; exact h1 hb.symm
    · subst e; rw [h.lrm] at hb; exact h2 hb.symm
  have hvr : ∀ b, v.ownBlock = some b → b ≠ rm := fun b hb e => by
    rcases hvo b hb with g | g
    · rw [e, h.lrm] at g; cases g
    · have := (h.bnd rm (by rw [h.lrm]; decide)).2; omega
  exact { h with
    blk := u.blk h.blk (hE h.lblk (fun e => by cases e) (by decide))
    lblk := h.ofLab h.lblk (by decide) _
    tree := h.tree.keep u (fun k hk => hE (h.ltree k hk) (fun e => by cases e) (by decide))
    ltree := fun b hb => h.ofLab (h.ltree b hb) (by decide) _
    rmap := hm
    lrm := h.ofLab h.lrm (by decide) _
    rnd := nodup_aset h.rnd n v
    rget := fun m => by
      rw [aget_aset]
      by_cases e : n = m
      · subst e; rw [if_pos rfl, upd_at, upd_at]; rfl
      · rw [if_neg e, upd_ne _ _ (Ne.symm e), upd_ne _ _ (Ne.symm e)]; exact h.rget m
    rrow := fun m l' hm' => by
      by_cases e : m = n
      · subst e
        rw [upd_at] at hm' ⊢
        cases hm'
        refine ⟨hv.keep u2 (fun b hb e => hvr b hb e), fun b hb => ?_⟩
        rcases hvo b hb with g | g
        · exact h.ofLab g (fun e => by cases e) _
        · exact relab_new g (Nat.lt_of_lt_of_le (ints_block hv hb).2.1 u2.size)
      · rw [upd_ne _ _ e] at hm' ⊢
        obtain ⟨h1, h2⟩ := h.rrow m l' hm'
        exact ⟨h1.keep u (fun b hb => hE (h2 b hb) (fun e2 => by injection e2 with e2; exact e e2) (fun e => by cases e)), fun b hb => h.ofLab (h2 b hb) (fun e => by cases e) _⟩
    qmap := h.qmap.keep u (hE h.lom (fun e => by cases e) (by decide))
    lom := h.ofLab h.lom (by decide) _
    qrow := fun m l hn => ⟨own_keep (h.qrow m l hn).1 u (fun b hb => hE ((h.qrow m l hn).2 b hb) (fun e => by cases e) (fun e => by cases e)), fun b hb => h.ofLab ((h.qrow m l hn).2 b hb) (fun e => by cases e) _⟩
    bnd := h.bnd2 u.size _
    bl := Nat.le_trans h.bl u.size }
/-- (4) a row goes -/
theorem PRaw.rowDel (h : PRaw w base pb xb rm om lab L E nx R rv ri Q qv qi) {n : Int} (hm : MapAt intEnc w' rm (adel R n)) (u : Upd (fun b => b = rm) w w') : PRaw w' base pb xb rm om lab L E nx (adel R n) rv (upd ri n none) Q qv qi := by
  have hE : ∀ {b l}, lab b = l → l ≠ .rm → ¬ b = rm := fun hb h2 e => by subst e; rw [h.lrm] at hb; exact h2 hb.symm
  exact { h with
    blk := u.blk h.blk (hE h.lblk (by decide))
    tree := h.tree.keep u (fun k hk => hE (h.ltree k hk) (by decide))
    rmap := hm
    rnd := nodup_adel h.rnd n
    rget := fun m => by
      rw [aget_adel h.rnd]
      by_cases e : n = m
      · subst e; rw [if_pos rfl, upd_at]; rfl
      · rw [if_neg e, upd_ne _ _ (Ne.symm e)]; exact h.rget m
    rrow := fun m l' hm' => by
      by_cases e : m = n
      · subst e; rw [upd_at] at hm'; cases hm'
      · rw [upd_ne _ _ e] at hm'
        obtain ⟨h1, h2⟩ := h.rrow m l' hm'
        exact ⟨h1.keep u (fun b hb => hE (h2 b hb) (fun e => by cases e)), h2⟩
    qmap := h.qmap.keep u (hE h.lom (by decide))
    qrow := fun m l hn => ⟨own_keep (h.qrow m l hn).1 u (fun b hb => hE ((h.qrow m l hn).2 b hb) (fun e => by cases e)), (h.qrow m l hn).2⟩
    bnd := fun b hb => ⟨(h.bnd b hb).1, Nat.lt_of_lt_of_le (h.bnd b hb).2 u.size⟩
    bl := Nat.le_trans h.bl u.size }
/-- (5) a client's beginnings -/
theorem PRaw.clTo (h : PRaw w base pb xb rm om lab L E nx R rv ri Q qv qi) {n : Int} {v : Value} {l : List Txt} {w1 : World}
    (u1 : Upd (fun b => lab b = .cl n) w w1) (hv : TxtsAt w1 base v l) (hvo : ∀ b, v.ownBlock = some b → lab b = .cl n ∨ w.heap.size ≤ b)
    (hm : MapAt intEnc w' om (aset Q n v)) (u2 : Upd (fun b => b = om) w1 w') : PRaw w' base pb xb rm om (relab lab (.cl n) w.heap.size w'.heap.size) L E nx R rv ri (aset Q n v) (upd qv n v) (upd qi n (some l)) := by
  have u : Upd (fun b => lab b = .cl n ∨ b = om) w w' := (u1.weaken (fun _ _ h => Or.inl h)).trans u2 (fun _ _ h => Or.inr h)
  have hE : ∀ {b l}, lab b = l → l ≠ .cl n → l ≠ .om → ¬ (lab b = .cl n ∨ b = om) := fun hb h1 h2 e => by
    rcases e with e | e
    · rw [e] at hb; exact h1 hb.symm
    · subst e; rw [h.lom] at hb; exact h2 hb.symm
  have hvr : ∀ b, v.ownBlock = some b → b ≠ om := fun b hb e => by
    rcases hvo b hb with g | g
    · rw [e, h.lom] at g; cases g
    · have := (h.bnd om (by rw [h.lom]; decide)).2; omega
  exact { h with
    blk := u.blk h.blk (hE h.lblk (fun e => by cases e) (by decide))
    lblk := h.ofLab h.lblk (by decide) _
    tree := h.tree.keep u (fun k hk => hE (h.ltree k hk) (fun e => by cases e) (by decide))
    ltree := fun b hb => h.ofLab (h.ltree b hb) (by decide) _
    rmap := h.rmap.keep u (hE h.lrm (fun e => by cases e) (by decide))
    lrm := h.ofLab h.lrm (by decide) _
    rrow := fun m l hn => ⟨(h.rrow m l hn).1.keep u (fun b hb => hE ((h.rrow m l hn).2 b hb) (fun e => by cases e) (fun e => by cases e)), fun b hb => h.ofLab ((h.rrow m l hn).2 b hb) (fun e => by cases e) _⟩
    qmap := hm
    lom := h.ofLab h.lom (by decide) _
    qnd := nodup_aset h.qnd n v
    qget := fun m => by
      rw [aget_aset]
      by_cases e : n = m
      · subst e; rw [if_pos rfl, upd_at, upd_at]; rfl
      · rw [if_neg e, upd_ne _ _ (Ne.symm e), upd_ne _ _ (Ne.symm e)]; exact h.qget m
    qrow := fun m l' hm' => by
      by_cases e : m = n
      · subst e
        rw [upd_at] at hm' ⊢
        cases hm'
        refine ⟨own_keep hv u2 (fun b hb e => hvr b hb e), fun b hb => ?_⟩
        rcases hvo b hb with g | g
        · exact h.ofLab g (fun e => by cases e) _
        · exact relab_new g (Nat.lt_of_lt_of_le (txts_block hv hb).2.1 u2.size)
      · rw [upd_ne _ _ e] at hm' ⊢
        obtain ⟨h1, h2⟩ := h.qrow m l' hm'
        exact ⟨own_keep h1 u (fun b hb => hE (h2 b hb) (fun e2 => by injection e2 with e2; exact e e2) (fun e => by cases e)), fun b hb => h.ofLab (h2 b hb) (fun e => by cases e) _⟩
    bnd := h.bnd2 u.size _
    bl := Nat.le_trans h.bl u.size }
/-- (6) a client goes -/
theorem PRaw.clDel (h : PRaw w base pb xb rm om lab L E nx R rv ri Q qv qi) {n : Int} (hm : MapAt intEnc w' om (adel Q n)) (u : Upd (fun b => b = om) w w') : PRaw w' base pb xb rm om lab L E nx R rv ri (adel Q n) qv (upd qi n none) := by
  have hE : ∀ {b l}, lab b = l → l ≠ .om → ¬ b = om := fun hb h2 e => by subst e; rw [h.lom] at hb; exact h2 hb.symm
  exact { h with
    blk := u.blk h.blk (hE h.lblk (by decide))
    tree := h.tree.keep u (fun k hk => hE (h.ltree k hk) (by decide))
    rmap := h.rmap.keep u (hE h.lrm (by decide))
    rrow := fun m l hn => ⟨(h.rrow m l hn).1.keep u (fun b hb => hE ((h.rrow m l hn).2 b hb) (fun e => by cases e)), (h.rrow m l hn).2⟩
    qmap := hm
    qnd := nodup_adel h.qnd n
    qget := fun m => by
      rw [aget_adel h.qnd]
      by_cases e : n = m
      · subst e; rw [if_pos rfl, upd_at]; rfl
      · rw [if_neg e, upd_ne _ _ (Ne.symm e)]; exact h.qget m
    qrow := fun m l' hm' => by
      by_cases e : m = n
      · subst e; rw [upd_at] at hm'; cases hm'
      · rw [upd_ne _ _ e] at hm'
        obtain ⟨h1, h2⟩ := h.qrow m l' hm'
        exact ⟨own_keep h1 u (fun b hb => hE (h2 b hb) (fun e => by cases e)), h2⟩
    bnd := fun b hb => ⟨(h.bnd b hb).1, Nat.lt_of_lt_of_le (h.bnd b hb).2 u.size⟩
    bl := Nat.le_trans h.bl u.size }
/-- A row's slice, if it is there; else nothing. -/
theorem PRaw.rowAt (h : PRaw w base pb xb rm om lab L E nx R rv ri Q qv qi) (n : Int) : IntsAt w base ((aget R n).getD (.slice none 0 0)) ((ri n).getD []) ∧ ∀ b, ((aget R n).getD (.slice none 0 0)).ownBlock = some b → lab b = .row n := by
  rw [h.rget]
  cases e : ri n with
  | none => exact ⟨World.ownsRow_nil _ _ _ _, fun b hb => by cases hb⟩
  | some l => exact h.rrow n l e
theorem PRaw.clAt (h : PRaw w base pb xb rm om lab L E nx R rv ri Q qv qi) (n : Int) : TxtsAt w base ((aget Q n).getD (.slice none 0 0)) ((qi n).getD []) ∧ ∀ b, ((aget Q n).getD (.slice none 0 0)).ownBlock = some b → lab b = .cl n := by
  rw [h.qget]
  cases e : qi n with
  | none => exact ⟨World.ownsRow_nil _ _ _ _, fun b hb => by cases hb⟩
  | some l => exact h.qrow n l e
theorem PRaw.rowLook (h : PRaw w base pb xb rm om lab L E nx R rv ri Q qv qi) (n : Int) : (Instr.lookup 145 (.map (some rm)) (.int .i64 n) false).run Tryz.prog w = .ok ((aget R n).getD (.slice none 0 0)) w := by
  have := h.rmap.look (T := 145) keyI64 Tryz.underlying145 (z := .slice none 0 0) (Tryz.zeroValue85 w) n false
  exact this
theorem PRaw.clLook (h : PRaw w base pb xb rm om lab L E nx R rv ri Q qv qi) (n : Int) : (Instr.lookup 146 (.map (some om)) (.int .i64 n) false).run Tryz.prog w = .ok ((aget Q n).getD (.slice none 0 0)) w := by
  have := h.qmap.look (T := 146) keyI Tryz.underlying146 (z := .slice none 0 0) (Tryz.zeroValue30 w) n false
  exact this
end
/-- At pb lies who is told of what, as P says; at most N are told; it takes the blocks F. -/
def PAt (w : World) (base pb : Nat) (P : Txt → Int → Prop) (N : Nat) (F : Nat → Prop) : Prop :=
  ∃ xb rm om lab L E nx R rv ri Q qv qi, PRaw w base pb xb rm om lab L E nx R rv ri Q qv qi ∧ RowsOk P N L ri nx ∧ OfOk P N qi ∧ F = fun b => lab b ≠ .no
section
variable {w w' : World} {base pb : Nat} {P Q : Txt → Int → Prop} {N : Nat} {F : Nat → Prop}
theorem PAt.keep {G : Nat → Prop} (h : PAt w base pb P N F) (u : Upd G w w') (hd : ∀ b, F b → ¬ G b) : PAt w' base pb P N F := by
  obtain ⟨xb, rm, om, lab, L, E, nx, R, rv, ri, Q, qv, qi, h1, h2, h3, rfl⟩ := h
  exact ⟨xb, rm, om, lab, L, E, nx, R, rv, ri, Q, qv, qi, h1.keep u hd, h2, h3, rfl⟩
theorem PAt.lt (h : PAt w base pb P N F) : ∀ b, F b → base ≤ b ∧ b < w.heap.size := by
  obtain ⟨xb, rm, om, lab, L, E, nx, R, rv, ri, Q, qv, qi, h1, h2, h3, rfl⟩ := h
  exact h1.bnd
theorem PAt.congr (h : PAt w base pb P N F) (e : ∀ t id, P t id ↔ Q t id) : PAt w base pb Q N F := by
  have : P = Q := funext fun t => funext fun id => propext (e t id)
  subst this; exact h
theorem PAt.more (h : PAt w base pb P N F) {M : Nat} (hm : N ≤ M) : PAt w base pb P M F := by
  obtain ⟨xb, rm, om, lab, L, E, nx, R, rv, ri, Q, qv, qi, h1, h2, h3, rfl⟩ := h
  exact ⟨xb, rm, om, lab, L, E, nx, R, rv, ri, Q, qv, qi, h1, h2.more hm, h3.more hm, rfl⟩
end
end Go.Proofs.YtmlojbfcmebboaaGreat
/- The library's functions at rows of numbers and of texts: search, insert, strike, sort, copy. -/
set_option linter.unusedVariables false
set_option linter.unusedSimpArgs false
set_option linter.unusedSectionVars false
namespace Go.Proofs.YtmlojbfcmebboaaGreat
open Go.RowKit Go.Shelf Go.Sort

theorem bsi_any (base : Nat) (v : Value) (xs : List Int) (x : Int) (w : World) (h : IntsAt w base v xs) (hs : Rising xs) (hl : xs.length ≤ 1000000) :
    Calls Tryz.prog 94 #[v, .int .i64 x] w fun e w' => e = .returned (.tuple #[.int .i64 (xs.countP (· < x) : Nat), .bool (xs.contains x)]) ∧ ∃ q, w' = w.drewN q := by
  have hle : xs.Pairwise (· ≤ ·) := List.Pairwise.imp (fun h => by omega) hs
  rcases ints_blk h with ⟨rfl, rfl⟩ | ⟨b, cap, cs, rfl, _, hB, hc, hm⟩
  · exact (Tryz.slices_BinarySearch_int_empty none 0 x w).mono fun e w' ⟨h1, h2⟩ => ⟨h1, 0, by rw [h2]; rfl⟩
  · have := Tryz.slices_BinarySearch_int b 0 xs.length cap xs x w (Nat.le_refl _) (by omega) (fun j hj => by
      rw [Nat.zero_add]
      refine hB.cellAt ?_
      rw [List.getElem?_append_left (by simpa using hj)]
      simp [hj]) (by simpa using hle)
    rw [List.take_length] at this
    exact this
theorem bss_any (base : Nat) (v : Value) (xs : List Txt) (x : Txt) (w : World) (h : TxtsAt w base v xs) (hs : Rising xs) (hl : xs.length ≤ 1000000) :
    Calls Tryz.prog 96 #[v, .string (ofL x)] w fun e w' => ∃ b, e = .returned (.tuple #[.int .i64 (xs.countP (· < x) : Nat), .bool b]) ∧ ∃ q, w' = w.drewN q := by
  rcases strs_blk (TxtsAt.strs.1 h) with ⟨rfl, e0⟩ | ⟨b, cap, cs, rfl, _, hB, hc, hm⟩
  · have : xs = [] := by cases xs <;> simp_all
    subst this
    exact (Any2.slices_BinarySearch_string_empty bssLay none 0 (ofL x) w).mono fun e w' ⟨h1, h2⟩ => ⟨_, h1, 0, by rw [h2]; rfl⟩
  · rw [List.length_map]
    rw [List.length_map] at hc
    refine (Any2.slices_BinarySearch_string bssLay b 0 xs.length cap (fun t => ofL (xs.getD t x)) (ofL x) w (by omega) (fun j hj => ?_)).mono ?_
    · rw [Nat.zero_add]
      refine hB.cellAt ?_
      rw [List.getElem?_append_left (by simpa using hj)]
      simp [hj]
    · rintro e w' ⟨rfl, q, rfl⟩
      rw [bsGo_rising hs x x (LinO.irr x) _ (fun t => less_txt _ _)]
      exact ⟨_, rfl, q, rfl⟩
theorem insertT_any (base i vb : Nat) (v : Value) (xs : List Txt) (x : Txt) (w : World) (h : TxtsAt w base v xs) (hi : i ≤ xs.length) (hvb : Blk w vb [.string (ofL x)] 9) (hb : base ≤ w.heap.size) (hne : v.ownBlock ≠ some vb) (hl : xs.length ≤ 1000000) :
    Calls Tryz.prog 97 #[v, .int .i64 (i : Int), .slice (some ⟨vb, 0, none⟩) 1 1] w fun e w' => ∃ v', e = .returned v' ∧ TxtsAt w' base v' (xs.take i ++ x :: xs.drop i) ∧ Upd (fun k => v.ownBlock = some k) w w' ∧
      (∀ k, v'.ownBlock = some k → v.ownBlock = some k ∨ w.heap.size ≤ k) := by
  refine (insertS_any base i vb v (xs.map ofL) (ofL x) w (TxtsAt.strs.1 h) (by simpa using hi) hvb hb hne (by simpa using hl)).mono ?_
  rintro e w' ⟨v', rfl, h1, h2, h3⟩
  refine ⟨v', rfl, TxtsAt.strs.2 ?_, h2, h3⟩
  rw [List.map_append, List.map_cons, List.map_take, List.map_drop]; exact h1
theorem cloneT_any (base : Nat) (v : Value) (xs : List Txt) (w : World) (h : TxtsAt w base v xs) (hl : xs.length ≤ 1000000) :
    Calls Tryz.prog 111 #[v] w fun e w' => ∃ v', e = .returned v' ∧ TxtsAt w' w.heap.size v' xs ∧ Upd (fun _ => False) w w' := by
  rcases strs_blk (TxtsAt.strs.1 h) with ⟨rfl, e0⟩ | ⟨b, cap, cs, rfl, _, hB, hc, hm⟩
  · have : xs = [] := by cases xs <;> simp_all
    subst this
    exact (Tryz.slices_Clone_string_nil 0 0 w).mono fun e w' ⟨h1, h2⟩ => ⟨_, h1, World.ownsRow_nil _ _ _ _, by rw [h2]; exact Upd.refl _ _⟩
  · have hll : (xs.map ofL).length = xs.length := List.length_map ..
    refine (Tryz.slices_Clone_string b 0 (xs.map ofL).length cap (xs.map ofL) w (Nat.le_refl _) (by omega) (fun j hj => ?_)).mono ?_
    · rw [Nat.zero_add]
      refine hB.cellAt ?_
      rw [List.getElem?_append_left (by simpa using hj), List.getElem?_map, List.getElem?_eq_getElem hj, List.getD_eq_getElem?_getD, List.getElem?_eq_getElem hj]; rfl
    · rintro e w' ⟨v', rfl, h2, _, hb⟩
      rw [List.take_length] at h2
      exact ⟨v', rfl, TxtsAt.strs.2 h2, (Upd.of_below hb).weaken fun i hi h2 => by omega⟩
set_option maxRecDepth 100000 in
/-- The closure of Drop. -/
theorem isidP_any (id x : Int) (B : Nat) (W : World) (hc : W.cell? ⟨B, 0, none⟩ = some (.int .i64 id)) :
    FnGives Tryz.prog 91 #[.pointer (some ⟨B, 0, none⟩)] #[.int .i64 x] (.bool (decide (x = id))) W := by
  show Calls Tryz.prog 91 #[.int .i64 x, .pointer (some ⟨B, 0, none⟩)] W _
  go_enter Tryz.func91, Tryz.ntmps91
  go_wp2
  all_goals (go_ret; exact ⟨ret_bool (by rfl), 0, rfl⟩)
/-- slices.DeleteFunc of a row of the call's own, without one number. -/
theorem delfP_any (base B : Nat) (v : Value) (xs : List Int) (id : Int) (w : World) (h : IntsAt w base v xs) (hv : v ≠ .slice none 0 0) (hl : xs.length ≤ 1000000) (hB : B < w.heap.size) (hc : w.cell? ⟨B, 0, none⟩ = some (.int .i64 id)) (hne : v.ownBlock ≠ some B) :
    Calls Tryz.prog 90 #[v, .func (.func 91) #[] #[.pointer (some ⟨B, 0, none⟩)]] w fun e w' => ∃ v', e = .returned v' ∧ IntsAt w' base v' (xs.filter (· ≠ id)) ∧ v'.ownBlock = v.ownBlock ∧ Upd (fun k => v.ownBlock = some k) w w' := by
  have eg : ∀ args w, (callFunc 91 args).run Tryz.prog w = .ok (.enter 91 args) w := enters_of Tryz.func91 (by kernel_rfl) rfl
  obtain ⟨g, cap, rfl, hbg, hg, hnc, hcm, _, hH⟩ := Lib.holds_of_ownsRow h hv
  have hgB : B ≠ g := fun e => hne (by rw [e]; rfl)
  have hx : (xs.toArray).toList = xs := rfl
  have hle : (xs.filter fun x => !decide (x = id)).length ≤ xs.length := List.length_filter_le _ _
  refine (Tryz.slices_DeleteFunc (Value.int .i64) (fun _ => rfl) (fun x => decide (x = id)) 91 #[.pointer (some ⟨B, 0, none⟩)] eg 0 Tryz.zeroValue3 g 0 cap xs.toArray w
    (fun W x hb => isidP_any id x B W ((hb.cell (p := ⟨B, 0, none⟩) hB).trans hc))
    (fun n os dk x _ => isidP_any id x B _ (by
      unfold sortWorld
      rw [cell?_grow _ _ _ (by show B < (putRow _ _ _ _ _).heap.size; rw [size_putRow]; exact hB), cell?_putRow_other _ _ g 0 _ _ (Or.inl hgB)]
      exact hc)) hH (by simp; omega) (by simpa using hnc)).mono ?_
  rintro e w' ⟨rfl, q, rfl⟩
  have er : (xs.filter fun x => !decide (x = id)) = xs.filter (· ≠ id) := by congr 1; funext x; simp
  have := Lib.ownsRow_putRow (q := q) (k := (xs.filter fun x => !decide (x = id)).length) (ys := (xs.filter fun x => !decide (x = id)) ++ List.replicate (xs.length - (xs.filter fun x => !decide (x = id)).length) 0) h (by simp; omega) hle
  refine ⟨_, rfl, ?_, rfl, ?_⟩
  · rw [List.take_left'] at this
    · rw [er] at this
      show World.ownsRow _ _ _ _ _ _ _
      rw [er]
      simpa [er] using this
    · rfl
  · have ub : ∀ k, k ≠ g → (putRow (Value.int .i64) (Sort.ahead w q) g 0 ((xs.filter fun x => !decide (x = id)) ++ List.replicate (xs.length - (xs.filter fun x => !decide (x = id)).length) 0).toArray).heap[k]? = w.heap[k]? := fun k hk => by
      simp [putRow, mapBlock, Sort.ahead, Array.getElem?_modify, Ne.symm hk]
    exact ⟨rfl, rfl, rfl, by simp [putRow, mapBlock, Sort.ahead], fun k _ hF => ub k (fun e => hF (by rw [e]; rfl))⟩
theorem Upd.grow {F : Nat → Prop} {a w : World} (h : Upd F a w) (os : Array Obj) : Upd F a (grow w os) :=
  ⟨h.os, h.tape, h.output, by have := h.size; simp [Sort.grow]; omega, fun k hk hF => by
    have := h.size
    simp only [Sort.grow]
    rw [Array.getElem?_append_left (by omega)]; exact h.block k hk hF⟩
theorem sorti_any (base : Nat) (v : Value) (xs : List Int) (w : World) (h : IntsAt w base v xs) (hl : xs.length ≤ 1000000000) :
    Calls Tryz.prog 56 #[v] w fun e w' => e = .returned (.tuple #[]) ∧ IntsAt w' base v (xs.mergeSort fun x y => decide (x ≤ y)) ∧ Upd (fun k => v.ownBlock = some k) w w' := by
  by_cases hv : v = .slice none 0 0
  · subst hv
    have : xs = [] := by
      rcases ints_blk h with ⟨_, e⟩ | ⟨b, cap, cs, e, _⟩
      · exact e
      · cases e
    subst this
    refine (Tryz.slices_Sort_int_none none 0 w).mono ?_
    rintro e w' ⟨rfl, rfl⟩
    exact ⟨rfl, by simpa using h, Upd.refl _ _⟩
  · obtain ⟨g, cap, rfl, hbg, hg, hnc, hcm, _, hH⟩ := Lib.holds_of_ownsRow h hv
    refine (Tryz.slices_Sort_int g 0 cap xs w hH hg (by omega)).mono ?_
    rintro e w' ⟨rfl, q, os, rfl⟩
    have hys : (xs.mergeSort fun x y => decide (x ≤ y)).length = xs.length := List.length_mergeSort _
    have := Lib.ownsRow_putRow (q := q) (k := xs.length) (ys := xs.mergeSort fun x y => decide (x ≤ y)) h hys (Nat.le_refl _)
    rw [List.take_of_length_le (by omega)] at this
    have uP : Upd (fun k => (Value.slice (some ⟨g, 0, none⟩) xs.length cap).ownBlock = some k) w (putRow (Value.int .i64) (Sort.ahead w q) g 0 (xs.mergeSort fun x y => decide (x ≤ y)).toArray) :=
      ⟨rfl, rfl, rfl, by simp [putRow, mapBlock, Sort.ahead], fun k _ hF => by
        have hk : g ≠ k := fun e => hF (by rw [← e]; rfl)
        simp [putRow, mapBlock, Sort.ahead, Array.getElem?_modify, hk]⟩
    refine ⟨rfl, ?_, uP.grow os⟩
    refine own_keep (F := fun _ => False) ?_ ((Upd.refl _ _).grow os) (fun _ _ h => h)
    show World.ownsRow _ _ _ _ _ _ _
    rw [hys]; exact this
theorem compact_upTo {zs : List Int} (hs : zs.Pairwise (· ≤ ·)) : ∀ m, m ≤ zs.length → Rising (Lib.compactUpTo zs.toArray m) ∧ ∀ x, x ∈ Lib.compactUpTo zs.toArray m ↔ x ∈ zs.take m
  | 0, _ => ⟨List.Pairwise.nil, fun x => by simp [Lib.compactUpTo]⟩
  | m + 1, hm => by
    obtain ⟨h1, h2⟩ := compact_upTo hs m (by omega)
    have hml : m < zs.length := by omega
    have e0 : zs.toArray[m]! = zs[m] := by simp [hml]
    rw [Lib.compactUpTo_succ, List.take_succ_eq_append_getElem hml]
    have hle : ∀ j, (hj : j < m) → zs[j] ≤ zs[m] := fun j hj => List.pairwise_iff_getElem.1 hs j m (by omega) hml hj
    by_cases hk : Lib.keeps zs.toArray m = true
    · rw [if_pos hk, e0]
      refine ⟨List.pairwise_append.2 ⟨h1, List.pairwise_singleton _ _, fun a ha b hb => ?_⟩, fun x => by rw [List.mem_append, List.mem_append, h2]⟩
      rw [List.mem_singleton] at hb
      subst hb
      obtain ⟨j, hj, rfl⟩ := List.mem_iff_getElem.1 ((h2 a).1 ha)
      rw [List.length_take] at hj
      rw [List.getElem_take]
      simp only [Lib.keeps, decide_eq_true_eq] at hk
      rcases hk with hk | hk
      · omega
      · have e1 : zs.toArray[m - 1]! = zs[m - 1] := by simp [show m - 1 < zs.length by omega]
        rw [e0, e1] at hk
        have g1 := hle (m - 1) (by omega)
        have g2 : zs[j] ≤ zs[m - 1] := by
          rcases Nat.lt_or_ge j (m - 1) with g | g
          · exact List.pairwise_iff_getElem.1 hs j (m - 1) (by omega) (by omega) g
          · have : j = m - 1 := by omega
            subst this; exact Int.le_refl _
        omega
    · rw [if_neg hk, List.append_nil]
      refine ⟨h1, fun x => ?_⟩
      rw [h2, List.mem_append, List.mem_singleton]
      refine ⟨Or.inl, fun g => g.elim (fun g => g) (fun g => ?_)⟩
      simp only [Lib.keeps, decide_eq_true_eq, not_or, Decidable.not_not] at hk
      have e1 : zs.toArray[m - 1]! = zs[m - 1] := by simp [show m - 1 < zs.length by omega]
      rw [e0, e1] at hk
      rw [g, hk.2]
      exact List.mem_iff_getElem.2 ⟨m - 1, by rw [List.length_take]; omega, by rw [List.getElem_take]⟩
theorem compact_rising {zs : List Int} (hs : zs.Pairwise (· ≤ ·)) : Rising (Lib.compact zs) ∧ ∀ x, x ∈ Lib.compact zs ↔ x ∈ zs := by
  have := compact_upTo hs zs.length (Nat.le_refl _)
  rw [List.take_length] at this; exact this
/-- slices.Sort, then slices.Compact: the numbers, rising, each once. -/
theorem compacti_any (base : Nat) (v : Value) (xs : List Int) (w : World) (h : IntsAt w base v xs) (hl : xs.length ≤ 1000000000) :
    Calls Tryz.prog 57 #[v] w fun e w' => ∃ v', e = .returned v' ∧ IntsAt w' base v' (Lib.compact xs) ∧ Upd (fun k => v.ownBlock = some k) w w' := by
  rcases ints_blk h with ⟨rfl, rfl⟩ | ⟨b, cap, cs, rfl, hbb, hB, hc, hm⟩
  · exact (Tryz.slices_Compact_int_empty none 0 w).mono fun e w' ⟨h1, h2⟩ => ⟨_, h1, by rw [h2]; exact h, by rw [h2]; exact Upd.refl _ _⟩
  · have hcl : (Lib.compact xs).length ≤ xs.length := Lib.compact_length_le xs
    refine (Tryz.slices_Compact_int_cells b 0 xs.length cap xs w (Nat.le_refl _) (by omega) (by omega) (fun j hj => ?_) (fun j _ => hB.free _)).mono ?_
    · rw [Nat.zero_add]
      refine hB.cellAt ?_
      rw [List.getElem?_append_left (by simpa using hj)]
      simp [hj]
    · rintro e w' ⟨rfl, q, rfl⟩
      rw [List.take_length]
      refine ⟨_, rfl, ?_, Upd.setCellsL _ _ ((Upd.refl _ w).drewN q) (fun _ => rfl)⟩
      have hb2 := (hB.drewN q).setCellsL ((Lib.compact xs ++ List.replicate (xs.length - (Lib.compact xs).length) 0).map (Value.int .i64)) 0
      rw [setL_eq _ _ _ (by simp; omega), List.take_zero, List.nil_append, Nat.zero_add, List.map_append, List.append_assoc] at hb2
      rw [List.map_append]
      refine ints_of (cs := (List.replicate (xs.length - (Lib.compact xs).length) 0).map (Value.int .i64) ++ ((xs.map (Value.int .i64)) ++ cs).drop ((Lib.compact xs).map (Value.int .i64) ++ (List.replicate (xs.length - (Lib.compact xs).length) 0).map (Value.int .i64)).length) hbb hb2 ?_ hm
      simp; omega
end Go.Proofs.YtmlojbfcmebboaaGreat
