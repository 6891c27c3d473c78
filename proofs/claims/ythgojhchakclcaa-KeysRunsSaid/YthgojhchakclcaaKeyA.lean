/- Which clients have read which keys: how it lies in memory. -/
import Derived.Test.YthgojhchakclcaaRecE
import Derived.Test.YthgojhchakclcaaIns
set_option linter.unusedVariables false
set_option linter.unusedSimpArgs false
namespace Go.Proofs.Ythgojhchakclcaa
open Go.RowKit

def upd {α β : Type} [DecidableEq α] (f : α → β) (a : α) (b : β) : α → β := fun x => if x = a then b else f x
theorem upd_at {α β : Type} [DecidableEq α] (f : α → β) (a : α) (b : β) : upd f a b a = b := by unfold upd; rw [if_pos rfl]
theorem upd_ne {α β : Type} [DecidableEq α] (f : α → β) {a x : α} (b : β) (h : x ≠ a) : upd f a b x = f x := by unfold upd; rw [if_neg h]
def intEnc (n : Int) : Value := .int .i64 n
theorem keyI : KeyOk Try.prog 3 intEnc := intKey Try.underlying3

/-- What lies in blocks of ints or of other things is none of the ring's. -/
theorem RecRep.apart {w : World} {a : Nat} {ks : List ByteArray} {F : Nat → Prop} (h : RecRep w a ks F) {b : Nat} {cs : Array Value} {T : TypeId} (hb : w.heap[b]? = some (.cells cs T (0, 0))) (h1 : T ≠ 68) (h2 : T ≠ 65) : ¬ F b := by
  obtain ⟨mb, G, bs, m, h, rfl, rfl⟩ := h
  have hn : ∀ x ∈ a :: bs, x ≠ b := fun x hx e => by
    have := h.nodes x hx
    unfold Blk at this
    rw [e, hb] at this
    have hT : T = nodet a b := by injection this with this; injection this
    unfold nodet at hT
    split at hT
    · exact h1 hT
    · exact h2 hT
  rintro (rfl | rfl | hm)
  · exact hn b (by simp) rfl
  · obtain ⟨es, c, he, _⟩ := h.map
    rw [hb] at he; injection he with he; cases he
  · exact hn b (by simp [hm]) rfl
theorem RecRep.lt {w : World} {a : Nat} {ks : List ByteArray} {F : Nat → Prop} (h : RecRep w a ks F) : ∀ k, F k → k < w.heap.size := by
  obtain ⟨mb, G, bs, m, h, rfl, rfl⟩ := h; exact h.lt
theorem RecRep.keep {w w' : World} {a : Nat} {ks : List ByteArray} {F E : Nat → Prop} (h : RecRep w a ks F) (u : Upd E w w') (hd : ∀ k, F k → ¬ E k) : RecRep w' a ks F := by
  obtain ⟨mb, G, bs, m, h, rfl, rfl⟩ := h; exact ⟨mb, G, bs, m, h.keep u hd, rfl, rfl⟩
theorem RecRep.nodup {w : World} {a : Nat} {ks : List ByteArray} {F : Nat → Prop} (h : RecRep w a ks F) : ks.Nodup := by
  obtain ⟨mb, G, bs, m, h, rfl, rfl⟩ := h; exact h.knd
theorem ints_block {w : World} {base b : Nat} {v : Value} {xs : List Int} (h : IntsAt w base v xs) (hv : v.ownBlock = some b) : base ≤ b ∧ b < w.heap.size ∧ ∃ cs, w.heap[b]? = some (.cells cs 3 (0, 0)) := by
  obtain ⟨_, ⟨rfl, e⟩ | ⟨g, cap, cur, rfl, hg, hh, _⟩⟩ := h
  · cases hv
  · cases hv; exact ⟨hg, (Array.getElem?_eq_some_iff.1 hh).1, _, hh⟩
/-- In block kb lies who has read what: the recent keys ks, the rows ri, and of each client im. -/
structure KRaw (w : World) (base kb rb rows reads : Nat) (most : Int) (ks : List ByteArray) (F : Nat → Prop) (R : List (ByteArray × Value)) (rv : ByteArray → Value) (ri : ByteArray → Option (List Int))
    (Q : List (Int × Value)) (iv : Int → Nat) (im : Int → List (ByteArray × Value)) : Prop where
  blk : Blk w kb [ptr rb, .map (some rows), .map (some reads), .int .i64 most] 38
  recent : RecRep w rb ks F
  rmap : MapAt strEnc w rows R
  rnd : (akeys R).Nodup
  rget : ∀ k, aget R k = (ri k).map fun _ => rv k
  rrow : ∀ k l, ri k = some l → IntsAt w base (rv k) l
  rne : ∀ k k' l l', k ≠ k' → ri k = some l → ri k' = some l' → ∀ b, (rv k).ownBlock = some b → (rv k').ownBlock ≠ some b
  qmap : MapAt intEnc w reads Q
  qnd : (akeys Q).Nodup
  qget : ∀ id, aget Q id = if im id = [] then none else some (.map (some (iv id)))
  imap : ∀ id, im id ≠ [] → MapAt strEnc w (iv id) (im id) ∧ (akeys (im id)).Nodup
  ine : ∀ id id', id ≠ id' → im id ≠ [] → im id' ≠ [] → iv id ≠ iv id'
  iint : ∀ id k v, aget (im id) k = some v → ∃ c, v = .int .i64 c
  rr : rows ≠ reads
  fr : ¬ F rows ∧ ¬ F reads
  sep : ∀ id, im id ≠ [] → iv id ≠ rows ∧ iv id ≠ reads ∧ ¬ F (iv id)
  lo : base ≤ kb ∧ base ≤ rows ∧ base ≤ reads
  loF : ∀ k, F k → base ≤ k
  loi : ∀ id, im id ≠ [] → base ≤ iv id
  bl : base ≤ w.heap.size

section
variable {w w' : World} {base kb rb rows reads : Nat} {most : Int} {ks : List ByteArray} {F : Nat → Prop} {R : List (ByteArray × Value)} {rv : ByteArray → Value} {ri : ByteArray → Option (List Int)} {Q : List (Int × Value)} {iv : Int → Nat} {im : Int → List (ByteArray × Value)}
theorem KRaw.kbF (h : KRaw w base kb rb rows reads most ks F R rv ri Q iv im) : ¬ F kb := h.recent.apart h.blk (by decide) (by decide)
theorem KRaw.rowF (h : KRaw w base kb rb rows reads most ks F R rv ri Q iv im) {k : ByteArray} {l : List Int} (hk : ri k = some l) {b : Nat} (hb : (rv k).ownBlock = some b) : ¬ F b ∧ b ≠ kb ∧ b ≠ rows ∧ b ≠ reads ∧ ∀ id, im id ≠ [] → b ≠ iv id := by
  obtain ⟨_, _, cs, hc⟩ := ints_block (h.rrow k l hk) hb
  refine ⟨h.recent.apart hc (by decide) (by decide), ?_, fun e => h.rmap.notCells hc e.symm, fun e => h.qmap.notCells hc e.symm, fun id hid e => (h.imap id hid).1.notCells hc e.symm⟩
  rintro rfl
  have := h.blk
  unfold Blk at this
  rw [hc] at this; injection this with this; injection this with _ h2
  exact absurd h2 (by decide)
theorem KRaw.kbm (h : KRaw w base kb rb rows reads most ks F R rv ri Q iv im) : kb ≠ rows ∧ kb ≠ reads ∧ ∀ id, im id ≠ [] → kb ≠ iv id :=
  ⟨fun e => h.rmap.notCells h.blk e.symm, fun e => h.qmap.notCells h.blk e.symm, fun id hid e => (h.imap id hid).1.notCells h.blk e.symm⟩
/-- What it takes. -/
def KFoot (kb rows reads : Nat) (F : Nat → Prop) (rv : ByteArray → Value) (ri : ByteArray → Option (List Int)) (iv : Int → Nat) (im : Int → List (ByteArray × Value)) : Nat → Prop :=
  fun b => b = kb ∨ b = rows ∨ b = reads ∨ F b ∨ (∃ k l, ri k = some l ∧ (rv k).ownBlock = some b) ∨ ∃ id, im id ≠ [] ∧ b = iv id
theorem KRaw.keep {E : Nat → Prop} (h : KRaw w base kb rb rows reads most ks F R rv ri Q iv im) (u : Upd E w w') (hd : ∀ b, KFoot kb rows reads F rv ri iv im b → ¬ E b) : KRaw w' base kb rb rows reads most ks F R rv ri Q iv im :=
  { h with
    blk := u.blk h.blk (hd _ (Or.inl rfl))
    recent := h.recent.keep u (fun k hk => hd _ (Or.inr (Or.inr (Or.inr (Or.inl hk)))))
    rmap := h.rmap.keep u (hd _ (Or.inr (Or.inl rfl)))
    rrow := fun k l hk => (h.rrow k l hk).keep u (fun b hb => hd _ (Or.inr (Or.inr (Or.inr (Or.inr (Or.inl ⟨k, l, hk, hb⟩))))))
    qmap := h.qmap.keep u (hd _ (Or.inr (Or.inr (Or.inl rfl))))
    imap := fun id hid => ⟨(h.imap id hid).1.keep u (hd _ (Or.inr (Or.inr (Or.inr (Or.inr (Or.inr ⟨id, hid, rfl⟩)))))), (h.imap id hid).2⟩
    bl := Nat.le_trans h.bl u.size }
theorem KRaw.lt (h : KRaw w base kb rb rows reads most ks F R rv ri Q iv im) : ∀ b, KFoot kb rows reads F rv ri iv im b → base ≤ b ∧ b < w.heap.size := by
  rintro b (rfl | rfl | rfl | hb | ⟨k, l, hk, hb⟩ | ⟨id, hid, rfl⟩)
  · exact ⟨h.lo.1, h.blk.lt⟩
  · exact ⟨h.lo.2.1, h.rmap.lt⟩
  · exact ⟨h.lo.2.2, h.qmap.lt⟩
  · exact ⟨h.loF b hb, h.recent.lt b hb⟩
  · have := ints_block (h.rrow k l hk) hb; exact ⟨this.1, this.2.1⟩
  · exact ⟨h.loi id hid, (h.imap id hid).1.lt⟩
/-- (1) the recent keys alone move -/
theorem KRaw.recentTo {ks' : List ByteArray} (h : KRaw w base kb rb rows reads most ks F R rv ri Q iv im) (t : RecTo w w' rb F ks') : ∃ F', KRaw w' base kb rb rows reads most ks' F' R rv ri Q iv im ∧ FromF F F' w ∧ Upd F w w' := by
  obtain ⟨F', h1, u, f⟩ := t
  have hn : ∀ b, b < w.heap.size → ¬ F b → ¬ F' b := fun b hb hF hF' => by rcases f b hF' with g | g; exact hF g; omega
  exact ⟨F', { h with
    blk := u.blk h.blk h.kbF
    recent := h1
    rmap := h.rmap.keep u h.fr.1
    rrow := fun k l hk => (h.rrow k l hk).keep u (fun b hb => (h.rowF hk hb).1)
    qmap := h.qmap.keep u h.fr.2
    imap := fun id hid => ⟨(h.imap id hid).1.keep u (h.sep id hid).2.2, (h.imap id hid).2⟩
    fr := ⟨hn _ h.rmap.lt h.fr.1, hn _ h.qmap.lt h.fr.2⟩
    sep := fun id hid => ⟨(h.sep id hid).1, (h.sep id hid).2.1, hn _ (h.imap id hid).1.lt (h.sep id hid).2.2⟩
    loF := fun k hk => by rcases f k hk with g | g; exact h.loF k g; exact Nat.le_trans h.bl g
    bl := Nat.le_trans h.bl u.size }, f, u⟩
/-- (2) a row has another slice; the old one's block may have been written -/
theorem KRaw.rowPut (h : KRaw w base kb rb rows reads most ks F R rv ri Q iv im) {k : ByteArray} {v : Value} {l : List Int} {w1 : World}
    (u1 : Upd (fun b => ∃ l', ri k = some l' ∧ (rv k).ownBlock = some b) w w1) (hv : IntsAt w1 base v l) (hvo : ∀ b, v.ownBlock = some b → (∃ l', ri k = some l' ∧ (rv k).ownBlock = some b) ∨ w.heap.size ≤ b)
    (hm : MapAt strEnc w' rows (aset R k v)) (u2 : Upd (fun b => b = rows) w1 w') : KRaw w' base kb rb rows reads most ks F (aset R k v) (upd rv k v) (upd ri k (some l)) Q iv im := by
  have hne : ∀ b, b = kb ∨ F b ∨ b = reads ∨ (∃ id, im id ≠ [] ∧ b = iv id) → ¬ ∃ l', ri k = some l' ∧ (rv k).ownBlock = some b := by
    rintro b hb ⟨l', h1, h2⟩
    have := h.rowF h1 h2
    rcases hb with rfl | hb | rfl | ⟨id, hid, rfl⟩
    · exact this.2.1 rfl
    · exact this.1 hb
    · exact this.2.2.2.1 rfl
    · exact this.2.2.2.2 id hid rfl
  have hvb : ∀ b, v.ownBlock = some b → b ≠ rows := fun b hb e => by
    rcases hvo b hb with ⟨l', h1, h2⟩ | hg
    · exact (h.rowF h1 h2).2.2.1 e
    · have := h.rmap.lt; omega
  exact { h with
    blk := u2.blk (u1.blk h.blk (hne _ (Or.inl rfl))) h.kbm.1
    recent := (h.recent.keep u1 (fun b hb => hne b (Or.inr (Or.inl hb)))).keep u2 (fun b hb e => h.fr.1 (by have : b = rows := e; rw [← this]; exact hb))
    rmap := hm
    rnd := nodup_aset h.rnd k v
    rget := fun k' => by
      rw [aget_aset]
      by_cases e : k = k'
      · subst e; rw [if_pos rfl, upd_at, upd_at]; rfl
      · rw [if_neg e, upd_ne _ _ (Ne.symm e), upd_ne _ _ (Ne.symm e)]; exact h.rget k'
    rrow := fun k' l' hk' => by
      by_cases e : k' = k
      · subst e
        rw [upd_at] at hk' ⊢
        cases hk'
        exact hv.keep u2 (fun b hb e => hvb b hb e)
      · rw [upd_ne _ _ e] at hk' ⊢
        refine ((h.rrow k' l' hk').keep u1 (fun b hb ⟨l2, h1, h2⟩ => ?_)).keep u2 (fun b hb e2 => (h.rowF hk' hb).2.2.1 e2)
        exact h.rne k k' l2 l' (Ne.symm e) h1 hk' b h2 hb
    rne := fun a a' la la' hne' ha ha' b hb => by
      by_cases e : a = k
      · subst e
        rw [upd_at] at hb
        rw [upd_ne _ _ (Ne.symm hne')] at ha' ⊢
        rcases hvo b hb with ⟨l', h1, h2⟩ | hg
        · exact h.rne a a' l' la' hne' h1 ha' b h2
        · intro hh; have := ints_block (h.rrow a' la' ha') hh; omega
      · rw [upd_ne _ _ e] at ha hb
        by_cases e' : a' = k
        · subst e'
          rw [upd_at]
          intro hh
          rcases hvo b hh with ⟨l', h1, h2⟩ | hg
          · exact h.rne a a' la l' hne' ha h1 b hb h2
          · have := ints_block (h.rrow a la ha) hb; omega
        · rw [upd_ne _ _ e'] at ha' ⊢
          exact h.rne a a' la la' hne' ha ha' b hb
    qmap := (h.qmap.keep u1 (hne _ (Or.inr (Or.inr (Or.inl rfl))))).keep u2 (fun e => h.rr e.symm)
    imap := fun id hid => ⟨((h.imap id hid).1.keep u1 (hne _ (Or.inr (Or.inr (Or.inr ⟨id, hid, rfl⟩))))).keep u2 (fun e => (h.sep id hid).1 e), (h.imap id hid).2⟩
    bl := Nat.le_trans h.bl (Nat.le_trans u1.size u2.size) }
/-- (3) a row goes -/
theorem KRaw.rowDel (h : KRaw w base kb rb rows reads most ks F R rv ri Q iv im) {k : ByteArray} (hm : MapAt strEnc w' rows (adel R k)) (u : Upd (fun b => b = rows) w w') : KRaw w' base kb rb rows reads most ks F (adel R k) rv (upd ri k none) Q iv im :=
  { h with
    blk := u.blk h.blk h.kbm.1
    recent := h.recent.keep u (fun b hb e => h.fr.1 (by have : b = rows := e; rw [← this]; exact hb))
    rmap := hm
    rnd := nodup_adel h.rnd k
    rget := fun k' => by
      rw [aget_adel h.rnd]
      by_cases e : k = k'
      · subst e; rw [if_pos rfl, upd_at]; rfl
      · rw [if_neg e, upd_ne _ _ (Ne.symm e)]; exact h.rget k'
    rrow := fun k' l' hk' => by
      by_cases e : k' = k
      · subst e; rw [upd_at] at hk'; cases hk'
      · rw [upd_ne _ _ e] at hk'
        exact (h.rrow k' l' hk').keep u (fun b hb e2 => (h.rowF hk' hb).2.2.1 e2)
    rne := fun a a' la la' hne' ha ha' b hb => by
      by_cases e : a = k
      · subst e; rw [upd_at] at ha; cases ha
      · by_cases e' : a' = k
        · subst e'; rw [upd_at] at ha'; cases ha'
        · rw [upd_ne _ _ e] at ha
          rw [upd_ne _ _ e'] at ha'
          exact h.rne a a' la la' hne' ha ha' b hb
    qmap := h.qmap.keep u (fun e => h.rr e.symm)
    imap := fun id hid => ⟨(h.imap id hid).1.keep u (fun e => (h.sep id hid).1 e), (h.imap id hid).2⟩
    bl := Nat.le_trans h.bl u.size }
end
end Go.Proofs.Ythgojhchakclcaa
