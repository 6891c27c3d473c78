/- Walk: All of what is recent. -/
import Derived.Test.YtmlojbfcmebboaaGreatK14
import Derived.Test.YtmlojbfcmebboaaGreatK01
import Derived.Test.YtmlojbfcmebboaaGreatK10
set_option linter.unusedVariables false
set_option linter.unusedSimpArgs false
set_option maxRecDepth 100000
namespace Go.Proofs.YtmlojbfcmebboaaGreat
open Go.RowKit
open Ring (Lk setNext setAhead chain)

set_option maxHeartbeats 2000000 in
theorem all_any (a : Nat) (ks : List ByteArray) (F : Nat → Prop) (w : World) (h : RecRep w a ks F) (hl : ks.length ≤ 100000) :
    Calls Tryz.prog 75 #[.pointer (some ⟨a, 0, none⟩)] w fun e w' => ∃ v, e = .returned v ∧ StrsAt w' w.heap.size v ks ∧ Upd (fun _ => False) w w' := by
  obtain ⟨mb, G, bs, m, h, rfl, rfl⟩ := h
  have a2 := h.nodes.c2 (show a ∈ a :: bs by simp)
  rw [Ring.chain_next h.ring] at a2
  have H := Lib.hid h
  have hbl : bs.length ≤ 100000 := by simpa [keysOfG] using hl
  clear h hl
  go_enter Tryz.func75, Tryz.ntmps75
  go_wp2
  obtain ⟨i0, hi0, hz0, hz1, hz2⟩ := info_parts string_info
  go_loopw [3, 4] (fun out x wr => ∃ (pre suf : List Nat), Hid (bs = pre ++ suf) ∧ x = .pointer (some ⟨Ring.first suf a, 0, none⟩) ∧ Hid (StrsAt wr w.heap.size out (keysOfG G pre)) ∧ Hid (Upd (fun _ => False) w wr)) (fun out _ _ => match out with | .slice _ n _ => bs.length - n | _ => 0)
  case atStart => exact ⟨[], bs, Lib.hid rfl, rfl, World.ownsRow_nil _ _ _ _, Upd.refl _ _⟩
  case round =>
    obtain ⟨pre, suf, HB, rfl, OW, U⟩ := hrel
    have hN := H.out.nodes.keep U.out (fun _ _ => id)
    have hn1 := hN _ (show a ∈ a :: bs by simp)
    cases suf with
    | nil =>
      have ns := neq_same a wr
      have E : pre = bs := by have := HB.out; simpa using this.symm
      rw [E] at OW
      have x0 : Ring.first [] a = a := rfl
      simp only [x0]
      clear hN hn1 E a2
      go_wp2
      go_ret
      exact ⟨_, rfl, OW.out, U.out⟩
    | cons b suf =>
      have hb : b ∈ bs := by rw [HB.out]; simp
      have hba : b ≠ a := fun e => (List.nodup_cons.1 H.out.nd).1 (by rw [← e]; exact hb)
      have n1 := neq_other hba (hN b (by simp [hb])) hn1
      have b0 := hN.c0 (show b ∈ a :: bs by simp [hb])
      have b2 := hN.c2 (show b ∈ a :: bs by simp [hb])
      have ch := H.out.ring
      rw [HB.out, Ring.chain_app] at ch
      rw [Ring.chain_next ch.2] at b2
      have x0 : Ring.first (b :: suf) a = b := rfl
      simp only [x0]
      have bl := (hN b (by simp [hb])).lt
      have hwl := U.out.size
      have hpl : pre.length + 1 ≤ 100000 := by have := congrArg List.length HB.out; simp at this; omega
      have kl : (keysOfG G pre).length = pre.length := by simp [keysOfG]
      have OWN : Hid (wr.ownsRow w.heap.size 9 1 u3 (keysOfG G pre).length ((keysOfG G pre).map Value.string)) := OW.out
      have e1 : keysOfG G (pre ++ [b]) = keysOfG G pre ++ [(G b).key] := by rw [keysOf_app]; rfl
      have E1 := Lib.hid e1
      have HB2 : Hid (bs = (pre ++ [b]) ++ suf) := by show _ = _; rw [HB.out]; simp
      have U1 := Lib.hid (U.out.alloc (.cells #[.string (G b).key] 9))
      have PL := Lib.hid kl
      have hkl : (keysOfG G pre).length + 1 ≤ 100000 := by omega
      obtain ⟨p3, c3, e3, _⟩ := own_slice OWN.out
      have BB := Lib.hid (hN b (by simp [hb]))
      clear hN hn1 ch hba e1 OW a2
      generalize keysOfG G pre = acc at *
      subst e3
      go_wp2_with (at_builtin; refine wpList_append_own _ rfl _ _ 30 rfl (w.heap.size) 9 i0 (.string ByteArray.empty) 1 16 Tryz.underlying30 hi0 hz0 hz1 hz2 rfl (by decide) _ _ _ rfl (OWN.out.alloc _) ⟨wr.heap.size, 0, none⟩ 1 1 [.string (G b).key] rfl rfl ?c1 ?c2 ?c3 ?c4 ?c5 ?_)
      case c1 =>
        intro x u hx
        match x with
        | 0 => simp at hx; subst hx; simp [Addr.add, World.cell?_alloc_at]
        | x + 1 => simp at hx
      case c2 => intro u hu; simp at hu; subst hu; rfl
      case c3 => unfold maxLen; omega
      case c4 => first | omega | (simp; omega)
      case c5 => simp; omega
      intro v' w' hown' hgrow _
      have U' : Upd (fun _ => False) w w' := U1.out.trans (Upd.of_grown hgrow) (fun i hi hh => by
        have hh2 : (Value.slice p3 acc.length c3).ownBlock = some i := by simpa [PL.out] using hh.symm
        have := OWN.out.lt i hh2; omega)
      have OW' : Hid (StrsAt w' w.heap.size v' (keysOfG G (pre ++ [b]))) := by
        show StrsAt _ _ _ _
        rw [E1.out]
        unfold StrsAt
        simpa [PL.out] using hown'
      have b3 := (H.out.nodes.keep U' (fun _ _ => id)).c2 (show b ∈ a :: bs by simp [hb])
      have ch := H.out.ring
      rw [HB.out, Ring.chain_app] at ch
      rw [Ring.chain_next ch.2] at b3
      have U2 := Lib.hid U'
      clear hown' hgrow U' ch b2 b0 n1 kl hkl
      obtain ⟨p4, c4, e4, _⟩ := own_slice OW'.out
      have kl2 : (keysOfG G (pre ++ [b])).length = pre.length + 1 := by simp [keysOfG]
      rw [kl2] at e4
      have hlt : pre.length < bs.length := by have := congrArg List.length HB2.out; simp at this; omega
      subst e4
      clear kl2
      go_wp2
      go_roundw
      case rel => exact ⟨pre ++ [b], suf, HB2, rfl, OW', U2⟩
      case measure => have := PL.out; simp; omega
end Go.Proofs.YtmlojbfcmebboaaGreat
/- Which clients have read which keys: how it lies in memory. -/
set_option linter.unusedVariables false
set_option linter.unusedSimpArgs false
namespace Go.Proofs.YtmlojbfcmebboaaGreat
open Go.RowKit

/-- What lies in blocks of ints or of other things is none of the ring's. -/
theorem RecRep.apart {w : World} {a : Nat} {ks : List ByteArray} {F : Nat → Prop} (h : RecRep w a ks F) {b : Nat} {cs : Array Value} {T : TypeId} (hb : w.heap[b]? = some (.cells cs T (0, 0))) (h1 : T ≠ 181) (h2 : T ≠ 178) : ¬ F b := by
  obtain ⟨mb, G, bs, m, h, rfl, rfl⟩ := h
  have hn : ∀ x ∈ a :: bs, x ≠ b := fun x hx e => by
    have := h.nodes x hx
    unfold Blk at this
    rw [e, hb] at this
    have hT : T = nodet a b := by injection this with this; injection this
    unfold nodet at hT
    split at hT
    · exact h1 hT
    · exact h2 hT
  rintro (rfl | rfl | hm)
  · exact hn b (by simp) rfl
  · obtain ⟨es, c, he, _⟩ := h.map
    rw [hb] at he; injection he with he; cases he
  · exact hn b (by simp [hm]) rfl
theorem RecRep.lt {w : World} {a : Nat} {ks : List ByteArray} {F : Nat → Prop} (h : RecRep w a ks F) : ∀ k, F k → k < w.heap.size := by
  obtain ⟨mb, G, bs, m, h, rfl, rfl⟩ := h; exact h.lt
theorem RecRep.keep {w w' : World} {a : Nat} {ks : List ByteArray} {F E : Nat → Prop} (h : RecRep w a ks F) (u : Upd E w w') (hd : ∀ k, F k → ¬ E k) : RecRep w' a ks F := by
  obtain ⟨mb, G, bs, m, h, rfl, rfl⟩ := h; exact ⟨mb, G, bs, m, h.keep u hd, rfl, rfl⟩
theorem RecRep.nodup {w : World} {a : Nat} {ks : List ByteArray} {F : Nat → Prop} (h : RecRep w a ks F) : ks.Nodup := by
  obtain ⟨mb, G, bs, m, h, rfl, rfl⟩ := h; exact h.knd
/-- In block kb lies who has read what: the recent keys ks, the rows ri, and of each client im. -/
structure KRaw (w : World) (base kb rb rows reads : Nat) (most : Int) (ks : List ByteArray) (F : Nat → Prop) (R : List (ByteArray × Value)) (rv : ByteArray → Value) (ri : ByteArray → Option (List Int))
    (Q : List (Int × Value)) (iv : Int → Nat) (im : Int → List (ByteArray × Value)) : Prop where
  blk : Blk w kb [ptr rb, .map (some rows), .map (some reads), .int .i64 most] 117
  recent : RecRep w rb ks F
  rmap : MapAt strEnc w rows R
  rnd : (akeys R).Nodup
  rget : ∀ k, aget R k = (ri k).map fun _ => rv k
  rrow : ∀ k l, ri k = some l → IntsAt w base (rv k) l
  rne : ∀ k k' l l', k ≠ k' → ri k = some l → ri k' = some l' → ∀ b, (rv k).ownBlock = some b → (rv k').ownBlock ≠ some b
  qmap : MapAt intEnc w reads Q
  qnd : (akeys Q).Nodup
  qget : ∀ id, aget Q id = if im id = [] then none else some (.map (some (iv id)))
  imap : ∀ id, im id ≠ [] → MapAt strEnc w (iv id) (im id) ∧ (akeys (im id)).Nodup
  ine : ∀ id id', id ≠ id' → im id ≠ [] → im id' ≠ [] → iv id ≠ iv id'
  iint : ∀ id k v, aget (im id) k = some v → ∃ c, v = .int .i64 c
  rr : rows ≠ reads
  fr : ¬ F rows ∧ ¬ F reads
  sep : ∀ id, im id ≠ [] → iv id ≠ rows ∧ iv id ≠ reads ∧ ¬ F (iv id)
  lo : base ≤ kb ∧ base ≤ rows ∧ base ≤ reads
  loF : ∀ k, F k → base ≤ k
  loi : ∀ id, im id ≠ [] → base ≤ iv id
  bl : base ≤ w.heap.size

section
variable {w w' : World} {base kb rb rows reads : Nat} {most : Int} {ks : List ByteArray} {F : Nat → Prop} {R : List (ByteArray × Value)} {rv : ByteArray → Value} {ri : ByteArray → Option (List Int)} {Q : List (Int × Value)} {iv : Int → Nat} {im : Int → List (ByteArray × Value)}
theorem KRaw.kbF (h : KRaw w base kb rb rows reads most ks F R rv ri Q iv im) : ¬ F kb := h.recent.apart h.blk (by decide) (by decide)
theorem KRaw.rowF (h : KRaw w base kb rb rows reads most ks F R rv ri Q iv im) {k : ByteArray} {l : List Int} (hk : ri k = some l) {b : Nat} (hb : (rv k).ownBlock = some b) : ¬ F b ∧ b ≠ kb ∧ b ≠ rows ∧ b ≠ reads ∧ ∀ id, im id ≠ [] → b ≠ iv id := by
  obtain ⟨_, _, cs, hc⟩ := ints_block (h.rrow k l hk) hb
  refine ⟨h.recent.apart hc (by decide) (by decide), ?_, fun e => h.rmap.notCells hc e.symm, fun e => h.qmap.notCells hc e.symm, fun id hid e => (h.imap id hid).1.notCells hc e.symm⟩
  rintro rfl
  have := h.blk
  unfold Blk at this
  rw [hc] at this; injection this with this; injection this with _ h2
  exact absurd h2 (by decide)
theorem KRaw.kbm (h : KRaw w base kb rb rows reads most ks F R rv ri Q iv im) : kb ≠ rows ∧ kb ≠ reads ∧ ∀ id, im id ≠ [] → kb ≠ iv id :=
  ⟨fun e => h.rmap.notCells h.blk e.symm, fun e => h.qmap.notCells h.blk e.symm, fun id hid e => (h.imap id hid).1.notCells h.blk e.symm⟩
/-- What it takes. -/
def KFoot (kb rows reads : Nat) (F : Nat → Prop) (rv : ByteArray → Value) (ri : ByteArray → Option (List Int)) (iv : Int → Nat) (im : Int → List (ByteArray × Value)) : Nat → Prop :=
  fun b => b = kb ∨ b = rows ∨ b = reads ∨ F b ∨ (∃ k l, ri k = some l ∧ (rv k).ownBlock = some b) ∨ ∃ id, im id ≠ [] ∧ b = iv id
theorem KRaw.keep {E : Nat → Prop} (h : KRaw w base kb rb rows reads most ks F R rv ri Q iv im) (u : Upd E w w') (hd : ∀ b, KFoot kb rows reads F rv ri iv im b → ¬ E b) : KRaw w' base kb rb rows reads most ks F R rv ri Q iv im :=
  { h with
    blk := u.blk h.blk (hd _ (Or.inl rfl))
    recent := h.recent.keep u (fun k hk => hd _ (Or.inr (Or.inr (Or.inr (Or.inl hk)))))
    rmap := h.rmap.keep u (hd _ (Or.inr (Or.inl rfl)))
    rrow := fun k l hk => (h.rrow k l hk).keep u (fun b hb => hd _ (Or.inr (Or.inr (Or.inr (Or.inr (Or.inl ⟨k, l, hk, hb⟩))))))
    qmap := h.qmap.keep u (hd _ (Or.inr (Or.inr (Or.inl rfl))))
    imap := fun id hid => ⟨(h.imap id hid).1.keep u (hd _ (Or.inr (Or.inr (Or.inr (Or.inr (Or.inr ⟨id, hid, rfl⟩)))))), (h.imap id hid).2⟩
    bl := Nat.le_trans h.bl u.size }
theorem KRaw.lt (h : KRaw w base kb rb rows reads most ks F R rv ri Q iv im) : ∀ b, KFoot kb rows reads F rv ri iv im b → base ≤ b ∧ b < w.heap.size := by
  rintro b (rfl | rfl | rfl | hb | ⟨k, l, hk, hb⟩ | ⟨id, hid, rfl⟩)
  · exact ⟨h.lo.1, h.blk.lt⟩
  · exact ⟨h.lo.2.1, h.rmap.lt⟩
  · exact ⟨h.lo.2.2, h.qmap.lt⟩
  · exact ⟨h.loF b hb, h.recent.lt b hb⟩
  · have := ints_block (h.rrow k l hk) hb; exact ⟨this.1, this.2.1⟩
  · exact ⟨h.loi id hid, (h.imap id hid).1.lt⟩
/-- (1) the recent keys alone move -/
theorem KRaw.recentTo {ks' : List ByteArray} (h : KRaw w base kb rb rows reads most ks F R rv ri Q iv im) (t : RecTo w w' rb F ks') : ∃ F', KRaw w' base kb rb rows reads most ks' F' R rv ri Q iv im ∧ FromF F F' w ∧ Upd F w w' := by
  obtain ⟨F', h1, u, f⟩ := t
  have hn : ∀ b, b < w.heap.size → ¬ F b → ¬ F' b := fun b hb hF hF' => by rcases f b hF' with g | g; exact hF g; omega
  exact ⟨F', { h with
    blk := u.blk h.blk h.kbF
    recent := h1
    rmap := h.rmap.keep u h.fr.1
    rrow := fun k l hk => (h.rrow k l hk).keep u (fun b hb => (h.rowF hk hb).1)
    qmap := h.qmap.keep u h.fr.2
    imap := fun id hid => ⟨(h.imap id hid).1.keep u (h.sep id hid).2.2, (h.imap id hid).2⟩
    fr := ⟨hn _ h.rmap.lt h.fr.1, hn _ h.qmap.lt h.fr.2⟩
    sep := fun id hid => ⟨(h.sep id hid).1, (h.sep id hid).2.1, hn _ (h.imap id hid).1.lt (h.sep id hid).2.2⟩
    loF := fun k hk => by rcases f k hk with g | g; exact h.loF k g; exact Nat.le_trans h.bl g
    bl := Nat.le_trans h.bl u.size }, f, u⟩
/-- (2) a row has another slice; the old one's block may have been written -/
theorem KRaw.rowPut (h : KRaw w base kb rb rows reads most ks F R rv ri Q iv im) {k : ByteArray} {v : Value} {l : List Int} {w1 : World}
    (u1 : Upd (fun b => ∃ l', ri k = some l' ∧ (rv k).ownBlock = some b) w w1) (hv : IntsAt w1 base v l) (hvo : ∀ b, v.ownBlock = some b → (∃ l', ri k = some l' ∧ (rv k).ownBlock = some b) ∨ w.heap.size ≤ b)
    (hm : MapAt strEnc w' rows (aset R k v)) (u2 : Upd (fun b => b = rows) w1 w') : KRaw w' base kb rb rows reads most ks F (aset R k v) (upd rv k v) (upd ri k (some l)) Q iv im := by
  have hne : ∀ b, b = kb ∨ F b ∨ b = reads ∨ (∃ id, im id ≠ [] ∧ b = iv id) → ¬ ∃ l', ri k = some l' ∧ (rv k).ownBlock = some b := by
    rintro b hb ⟨l', h1, h2⟩
    have := h.rowF h1 h2
    rcases hb with rfl | hb | rfl | ⟨id, hid, rfl⟩
    · exact this.2.1 rfl
    · exact this.1 hb
    · exact this.2.2.2.1 rfl
    · exact this.2.2.2.2 id hid rfl
  have hvb : ∀ b, v.ownBlock = some b → b ≠ rows := fun b hb e => by
    rcases hvo b hb with ⟨l', h1, h2⟩ | hg
    · exact (h.rowF h1 h2).2.2.1 e
    · have := h.rmap.lt; omega
  exact { h with
    blk := u2.blk (u1.blk h.blk (hne _ (Or.inl rfl))) h.kbm.1
    recent := (h.recent.keep u1 (fun b hb => hne b (Or.inr (Or.inl hb)))).keep u2 (fun b hb e => h.fr.1 (by have : b = rows := e; rw [← this]; exact hb))
    rmap := hm
    rnd := nodup_aset h.rnd k v
    rget := fun k' => by
      rw [aget_aset]
      by_cases e : k = k'
      · subst e; rw [if_pos rfl, upd_at, upd_at]; rfl
      · rw [if_neg e, upd_ne _ _ (Ne.symm e), upd_ne _ _ (Ne.symm e)]; exact h.rget k'
    rrow := fun k' l' hk' => by
      by_cases e : k' = k
      · subst e
        rw [upd_at] at hk' ⊢
        cases hk'
        exact hv.keep u2 (fun b hb e => hvb b hb e)
      · rw [upd_ne _ _ e] at hk' ⊢
        refine ((h.rrow k' l' hk').keep u1 (fun b hb ⟨l2, h1, h2⟩ => ?_)).keep u2 (fun b hb e2 => (h.rowF hk' hb).2.2.1 e2)
        exact h.rne k k' l2 l' (Ne.symm e) h1 hk' b h2 hb
    rne := fun a a' la la' hne' ha ha' b hb => by
      by_cases e : a = k
      · subst e
        rw [upd_at] at hb
        rw [upd_ne _ _ (Ne.symm hne')] at ha' ⊢
        rcases hvo b hb with ⟨l', h1, h2⟩ | hg
        · exact h.rne a a' l' la' hne' h1 ha' b h2
        · intro hh; have := ints_block (h.rrow a' la' ha') hh; omega
      · rw [upd_ne _ _ e] at ha hb
        by_cases e' : a' = k
        · subst e'
          rw [upd_at]
          intro hh
          rcases hvo b hh with ⟨l', h1, h2⟩ | hg
          · exact h.rne a a' la l' hne' ha h1 b hb h2
          · have := ints_block (h.rrow a la ha) hb; omega
        · rw [upd_ne _ _ e'] at ha' ⊢
          exact h.rne a a' la la' hne' ha ha' b hb
    qmap := (h.qmap.keep u1 (hne _ (Or.inr (Or.inr (Or.inl rfl))))).keep u2 (fun e => h.rr e.symm)
    imap := fun id hid => ⟨((h.imap id hid).1.keep u1 (hne _ (Or.inr (Or.inr (Or.inr ⟨id, hid, rfl⟩))))).keep u2 (fun e => (h.sep id hid).1 e), (h.imap id hid).2⟩
    bl := Nat.le_trans h.bl (Nat.le_trans u1.size u2.size) }
/-- (3) a row goes -/
theorem KRaw.rowDel (h : KRaw w base kb rb rows reads most ks F R rv ri Q iv im) {k : ByteArray} (hm : MapAt strEnc w' rows (adel R k)) (u : Upd (fun b => b = rows) w w') : KRaw w' base kb rb rows reads most ks F (adel R k) rv (upd ri k none) Q iv im :=
  { h with
    blk := u.blk h.blk h.kbm.1
    recent := h.recent.keep u (fun b hb e => h.fr.1 (by have : b = rows := e; rw [← this]; exact hb))
    rmap := hm
    rnd := nodup_adel h.rnd k
    rget := fun k' => by
      rw [aget_adel h.rnd]
      by_cases e : k = k'
      · subst e; rw [if_pos rfl, upd_at]; rfl
      · rw [if_neg e, upd_ne _ _ (Ne.symm e)]; exact h.rget k'
    rrow := fun k' l' hk' => by
      by_cases e : k' = k
      · subst e; rw [upd_at] at hk'; cases hk'
      · rw [upd_ne _ _ e] at hk'
        exact (h.rrow k' l' hk').keep u (fun b hb e2 => (h.rowF hk' hb).2.2.1 e2)
    rne := fun a a' la la' hne' ha ha' b hb => by
      by_cases e : a = k
      · subst e; rw [upd_at] at ha; cases ha
      · by_cases e' : a' = k
        · subst e'; rw [upd_at] at ha'; cases ha'
        · rw [upd_ne _ _ e] at ha
          rw [upd_ne _ _ e'] at ha'
          exact h.rne a a' la la' hne' ha ha' b hb
    qmap := h.qmap.keep u (fun e => h.rr e.symm)
    imap := fun id hid => ⟨(h.imap id hid).1.keep u (fun e => (h.sep id hid).1 e), (h.imap id hid).2⟩
    bl := Nat.le_trans h.bl u.size }
end
end Go.Proofs.YtmlojbfcmebboaaGreat
/- Walks: what a client has read, forgotten; a row taken. -/
set_option linter.unusedVariables false
set_option linter.unusedSimpArgs false
set_option maxRecDepth 100000
namespace Go.Proofs.YtmlojbfcmebboaaGreat
open Go.RowKit

section
variable {w w' : World} {base kb rb rows reads : Nat} {most : Int} {ks : List ByteArray} {F : Nat → Prop} {R : List (ByteArray × Value)} {rv : ByteArray → Value} {ri : ByteArray → Option (List Int)} {Q : List (Int × Value)} {iv : Int → Nat} {im : Int → List (ByteArray × Value)}
/-- (4) of one client other keys -/
theorem KRaw.innerPut (h : KRaw w base kb rb rows reads most ks F R rv ri Q iv im) {id : Int} {m : List (ByteArray × Value)} (hid : im id ≠ []) (hm : m ≠ []) (hM : MapAt strEnc w' (iv id) m) (hn : (akeys m).Nodup) (hi : ∀ k v, aget m k = some v → ∃ c, v = .int .i64 c)
    (u : Upd (fun b => b = iv id) w w') : KRaw w' base kb rb rows reads most ks F R rv ri Q iv (upd im id m) := by
  have hs := h.sep id hid
  have hx : ∀ id', upd im id m id' ≠ [] → im id' ≠ [] := fun id' hh => by
    by_cases e : id' = id
    · subst e; exact hid
    · rw [upd_ne _ _ e] at hh; exact hh
  exact { h with
    blk := u.blk h.blk (h.kbm.2.2 id hid)
    recent := h.recent.keep u (fun b hb e => hs.2.2 (by have : b = iv id := e; rw [← this]; exact hb))
    rmap := h.rmap.keep u (fun e => hs.1 e.symm)
    rrow := fun k l hk => (h.rrow k l hk).keep u (fun b hb e => (h.rowF hk hb).2.2.2.2 id hid e)
    qmap := h.qmap.keep u (fun e => hs.2.1 e.symm)
    qget := fun id' => by
      by_cases e : id' = id
      · subst e; rw [upd_at, if_neg hm, h.qget, if_neg hid]
      · rw [upd_ne _ _ e]; exact h.qget id'
    imap := fun id' hh => by
      by_cases e : id' = id
      · subst e; rw [upd_at]; exact ⟨hM, hn⟩
      · rw [upd_ne _ _ e] at hh ⊢
        exact ⟨(h.imap id' hh).1.keep u (fun e2 => h.ine id' id e hh hid e2), (h.imap id' hh).2⟩
    ine := fun a b hab ha hb => h.ine a b hab (hx a ha) (hx b hb)
    iint := fun id' k v hk => by
      by_cases e : id' = id
      · subst e; rw [upd_at] at hk; exact hi k v hk
      · rw [upd_ne _ _ e] at hk; exact h.iint id' k v hk
    sep := fun id' hh => h.sep id' (hx id' hh)
    loi := fun id' hh => h.loi id' (hx id' hh)
    bl := Nat.le_trans h.bl u.size }
/-- (5) a client has read nothing more -/
theorem KRaw.innerGone (h : KRaw w base kb rb rows reads most ks F R rv ri Q iv im) {id : Int} (hid : im id ≠ []) {w1 : World} (u1 : Upd (fun b => b = iv id) w w1) (hM : MapAt intEnc w' reads (adel Q id)) (u2 : Upd (fun b => b = reads) w1 w') :
    KRaw w' base kb rb rows reads most ks F R rv ri (adel Q id) iv (upd im id []) := by
  have hs := h.sep id hid
  have u : Upd (fun b => b = iv id ∨ b = reads) w w' := (u1.weaken (F := fun b => b = iv id ∨ b = reads) (fun _ _ e => Or.inl e)).trans u2 (fun _ _ e => Or.inr e)
  have hx : ∀ id', upd im id [] id' ≠ [] → im id' ≠ [] ∧ id' ≠ id := fun id' hh => by
    by_cases e : id' = id
    · subst e; rw [upd_at] at hh; exact absurd rfl hh
    · rw [upd_ne _ _ e] at hh; exact ⟨hh, e⟩
  exact { h with
    blk := u.blk h.blk (by rintro (e | e); exact h.kbm.2.2 id hid e; exact h.kbm.2.1 e)
    recent := h.recent.keep u (fun b hb => by
      rintro (e | e)
      · exact hs.2.2 (by rw [← e]; exact hb)
      · exact h.fr.2 (by rw [← e]; exact hb))
    rmap := h.rmap.keep u (by rintro (e | e); exact hs.1 e.symm; exact h.rr e)
    rrow := fun k l hk => (h.rrow k l hk).keep u (fun b hb => by
      rintro (e | e)
      · exact (h.rowF hk hb).2.2.2.2 id hid e
      · exact (h.rowF hk hb).2.2.2.1 e)
    qmap := hM
    qnd := nodup_adel h.qnd id
    qget := fun id' => by
      rw [aget_adel h.qnd]
      by_cases e : id = id'
      · subst e; rw [if_pos rfl, upd_at, if_pos rfl]
      · rw [if_neg e, upd_ne _ _ (Ne.symm e)]; exact h.qget id'
    imap := fun id' hh => by
      obtain ⟨h1, h2⟩ := hx id' hh
      rw [upd_ne _ _ h2]
      exact ⟨(h.imap id' h1).1.keep u (by rintro (e | e); exact h.ine id' id h2 h1 hid e; exact (h.sep id' h1).2.1 e), (h.imap id' h1).2⟩
    ine := fun a b hab ha hb => h.ine a b hab (hx a ha).1 (hx b hb).1
    iint := fun id' k v hk => by
      by_cases e : id' = id
      · subst e; rw [upd_at] at hk; simp [aget] at hk
      · rw [upd_ne _ _ e] at hk; exact h.iint id' k v hk
    sep := fun id' hh => h.sep id' (hx id' hh).1
    loi := fun id' hh => h.loi id' (hx id' hh).1
    bl := Nat.le_trans h.bl u.size }
/-- (6) a client has read its first key -/
theorem KRaw.innerNew (h : KRaw w base kb rb rows reads most ks F R rv ri Q iv im) {id : Int} {b : Nat} {m : List (ByteArray × Value)} (hid : im id = []) (hb : w.heap.size ≤ b) (hm : m ≠ []) (hM : MapAt strEnc w' b m) (hn : (akeys m).Nodup) (hi : ∀ k v, aget m k = some v → ∃ c, v = .int .i64 c)
    (hQ : MapAt intEnc w' reads (aset Q id (.map (some b)))) (u : Upd (fun b => b = reads) w w') :
    KRaw w' base kb rb rows reads most ks F R rv ri (aset Q id (.map (some b))) (upd iv id b) (upd im id m) := by
  have hx : ∀ id', upd im id m id' ≠ [] → id' ≠ id → im id' ≠ [] := fun id' hh e => by rw [upd_ne _ _ e] at hh; exact hh
  have hlt : ∀ id', im id' ≠ [] → iv id' < b := fun id' hh => by have := (h.imap id' hh).1.lt; omega
  exact { h with
    blk := u.blk h.blk h.kbm.2.1
    recent := h.recent.keep u (fun x hx e => h.fr.2 (by have : x = reads := e; rw [← this]; exact hx))
    rmap := h.rmap.keep u h.rr
    rrow := fun k l hk => (h.rrow k l hk).keep u (fun x hx e => (h.rowF hk hx).2.2.2.1 e)
    qmap := hQ
    qnd := nodup_aset h.qnd id _
    qget := fun id' => by
      rw [aget_aset]
      by_cases e : id = id'
      · subst e; rw [if_pos rfl, upd_at, upd_at, if_neg hm]
      · rw [if_neg e, upd_ne _ _ (Ne.symm e), upd_ne _ _ (Ne.symm e)]; exact h.qget id'
    imap := fun id' hh => by
      by_cases e : id' = id
      · subst e; rw [upd_at, upd_at]; exact ⟨hM, hn⟩
      · have h1 := hx id' hh e
        rw [upd_ne _ _ e, upd_ne _ _ e]
        exact ⟨(h.imap id' h1).1.keep u (fun e2 => (h.sep id' h1).2.1 e2), (h.imap id' h1).2⟩
    ine := fun a c hac ha hc => by
      by_cases e : a = id
      · subst e
        rw [upd_at, upd_ne _ _ (Ne.symm hac)]
        have := hlt c (hx c hc (Ne.symm hac)); omega
      · by_cases e' : c = id
        · subst e'
          rw [upd_at, upd_ne _ _ e]
          have := hlt a (hx a ha e); omega
        · rw [upd_ne _ _ e, upd_ne _ _ e']
          exact h.ine a c hac (hx a ha e) (hx c hc e')
    iint := fun id' k v hk => by
      by_cases e : id' = id
      · subst e; rw [upd_at] at hk; exact hi k v hk
      · rw [upd_ne _ _ e] at hk; exact h.iint id' k v hk
    sep := fun id' hh => by
      by_cases e : id' = id
      · subst e
        rw [upd_at]
        have h1 := h.rmap.lt
        have h2 := h.qmap.lt
        exact ⟨by omega, by omega, fun hF => by have := h.recent.lt b hF; omega⟩
      · rw [upd_ne _ _ e]; exact h.sep id' (hx id' hh e)
    loi := fun id' hh => by
      by_cases e : id' = id
      · subst e; rw [upd_at]; exact Nat.le_trans h.bl hb
      · rw [upd_ne _ _ e]; exact h.loi id' (hx id' hh e)
    bl := Nat.le_trans h.bl u.size }
end

theorem adel_len {κ ν : Type} [DecidableEq κ] (m : List (κ × ν)) (k : κ) : (adel m k).length ≤ m.length := by
  induction m with
  | nil => simp [adel]
  | cons p r ih =>
    unfold adel
    split
    · simp
    · simp only [List.length_cons]; omega
/-- What the state's maps and blocks are, hidden. -/
def KRep (w : World) (base kb : Nat) (most : Int) (ks : List ByteArray) (ri : ByteArray → Option (List Int)) (im : Int → List ByteArray) : Prop :=
  ∃ rb rows reads F R rv Q iv im', KRaw w base kb rb rows reads most ks F R rv ri Q iv im' ∧ im = fun id => akeys (im' id)
theorem zeroM (w : World) : (zeroValue 51).run Tryz.prog w = .ok (.map none) w := Tryz.zeroValue51 w

set_option maxHeartbeats 2000000 in
/-- forget: a key that the client has read -/
theorem forget_raw (base kb rb rows reads : Nat) (most : Int) (ks : List ByteArray) (F : Nat → Prop) (R : List (ByteArray × Value)) (rv : ByteArray → Value) (ri : ByteArray → Option (List Int)) (Q : List (Int × Value)) (iv : Int → Nat) (im : Int → List (ByteArray × Value))
    (id : Int) (key : ByteArray) (w : World) (h : KRaw w base kb rb rows reads most ks F R rv ri Q iv im) (hk : key ∈ akeys (im id)) (hl : (im id).length ≤ 100000) :
    Calls Tryz.prog 101 #[.pointer (some ⟨kb, 0, none⟩), .int .i64 id, .string key] w fun e w' => e = .returned (.tuple #[]) ∧
      (∃ Q', KRaw w' base kb rb rows reads most ks F R rv ri Q' iv (upd im id (adel (im id) key))) ∧ Upd (fun b => b = iv id ∨ b = reads) w w' := by
  have hid : im id ≠ [] := fun e => by rw [e] at hk; simp [akeys] at hk
  have c2 : w.cell? ⟨kb, 2, none⟩ = some (.map (some reads)) := h.blk.cellAt rfl
  have lk := h.qmap.look keyI Tryz.underlying115 (zeroM w) id false
  rw [h.qget, if_neg hid] at lk
  simp only [Bool.false_eq_true, if_false, Option.getD_some] at lk
  obtain ⟨hM, hN⟩ := h.imap id hid
  obtain ⟨w1, de, hM1, u1⟩ := hM.del keyS Tryz.underlying51 key 0
  have hM1' := hM1
  have q1 := h.qmap.keep u1 (fun e => (h.sep id hid).2.1 e.symm)
  have lk1 := q1.look keyI Tryz.underlying115 (zeroM w1) id false
  rw [h.qget, if_neg hid] at lk1
  simp only [Bool.false_eq_true, if_false, Option.getD_some] at lk1
  have b1 := u1.blk h.blk (h.kbm.2.2 id hid)
  have c2' : w1.cell? ⟨kb, 2, none⟩ = some (.map (some reads)) := b1.cellAt rfl
  have al := adel_len (im id) key
  have ln := hM1.len 3 Tryz.underlying51 (by omega)
  unfold intEnc at lk lk1
  unfold strEnc at de
  by_cases hz : adel (im id) key = []
  · rw [hz]
    rw [hz] at ln
    obtain ⟨w2, de2, q2, u2⟩ := q1.del keyI Tryz.underlying115 id 0
    unfold intEnc at de2
    have H2 := Lib.hid (h.innerGone hid u1 q2 u2)
    have U := Lib.hid ((u1.weaken (F := fun b => b = iv id ∨ b = reads) (fun _ _ e => Or.inl e)).trans u2 (fun _ _ e => Or.inr e))
    clear h hk hM hM1 hM1' q1 b1 u1 u2 q2 hz al
    go_enter Tryz.func101, Tryz.ntmps101
    go_wp2
    go_returns
    exact ⟨rfl, ⟨_, H2.out⟩, U.out⟩
  · have hlen : ((adel (im id) key).length : Int) ≠ 0 := fun e => hz (List.length_eq_zero_iff.1 (by omega))
    have hb : (((adel (im id) key).length : Int) == 0) = false := by simpa using hz
    have H2 := Lib.hid (h.innerPut hid hz hM1 (nodup_adel hN key) (fun k v hv => by
      rw [aget_adel hN] at hv
      split at hv
      · cases hv
      · exact h.iint id k v hv) u1)
    have U := Lib.hid (u1.weaken (F := fun b => b = iv id ∨ b = reads) (fun _ _ e => Or.inl e))
    clear h hk hM hM1 hM1' q1 b1 u1 hz al hlen
    go_enter Tryz.func101, Tryz.ntmps101
    go_wp2
    go_returns
    exact ⟨rfl, ⟨_, H2.out⟩, U.out⟩
end Go.Proofs.YtmlojbfcmebboaaGreat
/- Walks: a row taken. -/
set_option linter.unusedVariables false
set_option linter.unusedSimpArgs false
set_option maxRecDepth 100000
namespace Go.Proofs.YtmlojbfcmebboaaGreat
open Go.RowKit

theorem zeroI (w : World) : (zeroValue 85).run Tryz.prog w = .ok (.slice none 0 0) w := Tryz.zeroValue85 w
theorem mem_adel {κ ν : Type} [DecidableEq κ] {m : List (κ × ν)} (h : (akeys m).Nodup) (k k' : κ) : k' ∈ akeys (adel m k) ↔ k' ∈ akeys m ∧ k' ≠ k := by
  have h1 : ∀ {m : List (κ × ν)} {x : κ}, x ∈ akeys m ↔ aget m x ≠ none := fun {m x} => by
    constructor
    · intro hx e; exact (aget_none.1 e) hx
    · intro hx; exact Decidable.not_not.1 fun hh => hx (aget_none.2 hh)
  rw [h1, h1, aget_adel h]
  by_cases e : k = k'
  · subst e; simp
  · rw [if_neg e]; exact ⟨fun h => ⟨h, fun e2 => e e2.symm⟩, fun h => h.1⟩
theorem ints_cell {w : World} {base : Nat} {v : Value} {xs : List Int} (h : IntsAt w base v xs) {j : Nat} (hj : j < xs.length) : ∃ b cap, v = .slice (some ⟨b, 0, none⟩) xs.length cap ∧ w.cell? ⟨b, j, none⟩ = some (.int .i64 xs[j]) ∧ b < w.heap.size := by
  rcases ints_blk h with ⟨_, rfl⟩ | ⟨b, cap, cs, rfl, hb, hB, hc, hm⟩
  · simp at hj
  · refine ⟨b, cap, rfl, hB.cellAt ?_, hB.lt⟩
    rw [List.getElem?_append_left (by simpa using hj)]
    simp [hj]

/-- The row of a key, as a slice. -/
def rowV (rv : ByteArray → Value) (ri : ByteArray → Option (List Int)) (k : ByteArray) : Value := match ri k with
  | none => .slice none 0 0
  | some _ => rv k
section
variable {w w' : World} {base kb rb rows reads : Nat} {most : Int} {ks : List ByteArray} {F : Nat → Prop} {R : List (ByteArray × Value)} {rv : ByteArray → Value} {ri : ByteArray → Option (List Int)} {Q : List (Int × Value)} {iv : Int → Nat} {im : Int → List (ByteArray × Value)}
theorem KRaw.rowAt (h : KRaw w base kb rb rows reads most ks F R rv ri Q iv im) (k : ByteArray) : IntsAt w base (rowV rv ri k) ((ri k).getD []) := by
  unfold rowV
  cases e : ri k with
  | none => exact World.ownsRow_nil _ _ _ _
  | some l => exact h.rrow k l e
theorem KRaw.rowLook (h : KRaw w base kb rb rows reads most ks F R rv ri Q iv im) (k : ByteArray) :
    (Instr.lookup 114 (.map (some rows)) (.string k) false).run Tryz.prog w = .ok (rowV rv ri k) w := by
  have := h.rmap.look keyS Tryz.underlying114 (zeroI w) k false
  refine Eq.trans this ?_
  rw [h.rget]
  unfold rowV
  cases ri k <;> rfl
theorem KRaw.rowOwn (h : KRaw w base kb rb rows reads most ks F R rv ri Q iv im) {k : ByteArray} {b : Nat} (hb : (rowV rv ri k).ownBlock = some b) : ∃ l, ri k = some l ∧ (rv k).ownBlock = some b := by
  unfold rowV at hb
  cases e : ri k with
  | none => rw [e] at hb; cases hb
  | some l => rw [e] at hb; exact ⟨l, rfl, hb⟩
end

set_option maxHeartbeats 2000000 in
theorem take_raw (base kb rb rows reads : Nat) (most : Int) (ks : List ByteArray) (F : Nat → Prop) (R : List (ByteArray × Value)) (rv : ByteArray → Value) (ri : ByteArray → Option (List Int)) (Q : List (Int × Value)) (iv : Int → Nat) (im : Int → List (ByteArray × Value))
    (key : ByteArray) (w : World) (h : KRaw w base kb rb rows reads most ks F R rv ri Q iv im) (hD : ∀ id ∈ (ri key).getD [], key ∈ akeys (im id)) (hnd : ((ri key).getD []).Nodup) (hl : ∀ id, (im id).length ≤ 100000) (hrl : ((ri key).getD []).length ≤ 100000) :
    Calls Tryz.prog 54 #[.pointer (some ⟨kb, 0, none⟩), .string key] w fun e w' => e = .returned (rowV rv ri key) ∧ IntsAt w' base (rowV rv ri key) ((ri key).getD []) ∧
      (∃ F' Q' im', KRaw w' base kb rb rows reads most (ks.erase key) F' (adel R key) rv (upd ri key none) Q' iv im' ∧ FromF F F' w ∧ (∀ id, (im' id).length ≤ (im id).length) ∧ (∀ id k, k ∈ akeys (im' id) ↔ k ∈ akeys (im id) ∧ ¬ (k = key ∧ id ∈ (ri key).getD []))) ∧
      Upd (fun b => F b ∨ b = rows ∨ b = reads ∨ ∃ id, im id ≠ [] ∧ b = iv id) w w' := by
  have c1 : w.cell? ⟨kb, 1, none⟩ = some (.map (some rows)) := h.blk.cellAt rfl
  have lk := h.rowLook key
  have hra := h.rowAt key
  obtain ⟨p, c, ev, _⟩ := own_slice hra
  rw [ev] at lk
  have HV := Lib.hid ev
  have H := Lib.hid h
  have HD := Lib.hid hD
  have HN := Lib.hid hnd
  have HL := Lib.hid hl
  obtain ⟨l, el⟩ : ∃ l, (ri key).getD [] = l := ⟨_, rfl⟩
  rw [el] at lk hrl HD HN hra
  have EL := Lib.hid el
  have RA := Lib.hid hra
  clear ev h hD hnd hl hra
  rw [el] at HV ⊢
  rw [HV.out]
  clear el
  go_enter Tryz.func54, Tryz.ntmps54
  go_wp2
  go_loopw [16] (fun x wr => ∃ (j : Nat) (Qj : List (Int × Value)) (imj : Int → List (ByteArray × Value)), j ≤ l.length ∧ x = .int .i64 (j : Int) ∧ Hid (KRaw wr base kb rb rows reads most ks F R rv ri Qj iv imj) ∧ Hid (Upd (fun b => b = reads ∨ ∃ id, im id ≠ [] ∧ b = iv id) w wr) ∧
      Hid (∀ id, (imj id).length ≤ (im id).length) ∧ Hid (∀ id k, k ∈ akeys (imj id) ↔ k ∈ akeys (im id) ∧ ¬ (k = key ∧ id ∈ l.take j))) (fun x _ => l.length - (intOf x).toNat)
  case atStart => exact ⟨0, Q, im, by omega, rfl, H, Lib.hid (Upd.refl _ _), Lib.hid (fun _ => Nat.le_refl _), Lib.hid (fun id k => by simp)⟩
  case round =>
    obtain ⟨j, Qj, imj, hj, rfl, HJ, U, LE, MEM⟩ := hrel
    by_cases hlt : j < l.length
    · have rj := HJ.out.rowAt key
      rw [EL.out] at rj
      obtain ⟨b, cap, e1, e2, e3⟩ := ints_cell rj hlt
      rw [HV.out] at e1
      injection e1 with e1 _ e4
      subst e1 e4
      have hin : l[j] ∈ l := List.getElem_mem hlt
      have hk : key ∈ akeys (imj l[j]) := (MEM.out _ _).2 ⟨HD.out _ hin, fun ⟨_, hh⟩ => by
        obtain ⟨i, hi, ei⟩ := List.mem_iff_getElem.1 hh
        rw [List.getElem_take] at ei
        have := (List.getElem_inj HN.out).1 ei
        simp at hi; omega⟩
      have FG := Lib.hid (forget_raw base kb rb rows reads most ks F R rv ri Qj iv imj l[j] key wr HJ.out hk (Nat.le_trans (LE.out _) (HL.out _)))
      have HK := Lib.hid hk
      clear rj hin hk
      obtain ⟨x, hx⟩ : ∃ x, l[j] = x := ⟨_, rfl⟩
      rw [hx] at e2 FG HK
      have HX := Lib.hid hx
      clear hx
      go_wp2_with fail
      refine (FG.out).mono ?_
      rintro e w2 ⟨rfl, ⟨Q2, h2⟩, u2⟩
      have H2 := Lib.hid h2
      have U2 := Lib.hid u2
      clear h2 u2 FG
      go_wp2
      go_roundw
      case rel =>
        have hne : im x ≠ [] := fun e => by
          have := ((MEM.out x key).1 HK.out).1
          rw [e] at this; simp [akeys] at this
        refine ⟨j + 1, Q2, _, by omega, by go_num, H2, Lib.hid (U.out.trans U2.out ?_), Lib.hid ?_, Lib.hid ?_⟩
        · rintro i _ (e | e)
          · exact Or.inr ⟨x, hne, e⟩
          · exact Or.inl e
        · intro id
          by_cases e : id = x
          · subst e; rw [upd_at]; exact Nat.le_trans (adel_len _ _) (LE.out _)
          · rw [upd_ne _ _ e]; exact LE.out id
        · intro id k
          have ht : id ∈ l.take (j + 1) ↔ id ∈ l.take j ∨ id = x := by
            rw [List.take_succ_eq_append_getElem hlt, HX.out]; simp
          rw [ht]
          by_cases e : id = x
          · subst e
            have hnx : imj id ≠ [] := fun e => by have := HK.out; rw [e] at this; simp [akeys] at this
            rw [upd_at, mem_adel (HJ.out.imap id hnx).2, MEM.out]
            constructor
            · rintro ⟨⟨h1, h2⟩, h3⟩; exact ⟨h1, fun h4 => h3 h4.1⟩
            · rintro ⟨h1, h2⟩; exact ⟨⟨h1, fun h4 => h2 ⟨h4.1, Or.inl h4.2⟩⟩, fun h4 => h2 ⟨h4, Or.inr rfl⟩⟩
          · rw [upd_ne _ _ e, MEM.out]
            simp only [e, or_false]
      case measure => simp [intOf]; omega
    · have hk2 : j = l.length := by omega
      subst hk2
      have d1 : wr.cell? ⟨kb, 1, none⟩ = some (.map (some rows)) := HJ.out.blk.cellAt rfl
      obtain ⟨w2, de, m2, u2⟩ := HJ.out.rmap.del keyS Tryz.underlying114 key 0
      have h2 := HJ.out.rowDel m2 u2
      have d0 : w2.cell? ⟨kb, 0, none⟩ = some (.pointer (some ⟨rb, 0, none⟩)) := h2.blk.cellAt rfl
      have RD := Lib.hid (rdrop_any rb ks F key w2 h2.recent)
      have H2 := Lib.hid h2
      have U2 := Lib.hid u2
      unfold strEnc at de
      clear h2 u2 m2
      go_wp2_with fail
      refine (RD.out).mono ?_
      rintro e w3 ⟨rfl, t3⟩
      have T3 := Lib.hid t3
      clear t3 RD
      go_wp2
      go_ret
      obtain ⟨F', h3, f3, u3⟩ := H2.out.recentTo T3.out
      have hw2 : w.heap.size ≤ w2.heap.size := Nat.le_trans U.out.size U2.out.size
      have ua : Upd (fun b => F b ∨ b = rows ∨ b = reads ∨ ∃ id, im id ≠ [] ∧ b = iv id) w w3 :=
        ((U.out.weaken (F := fun b => F b ∨ b = rows ∨ b = reads ∨ ∃ id, im id ≠ [] ∧ b = iv id) (fun i _ e => by rcases e with e | e; exact Or.inr (Or.inr (Or.inl e)); exact Or.inr (Or.inr (Or.inr e)))).trans U2.out (fun i _ e => Or.inr (Or.inl e))).trans u3 (fun i _ e => Or.inl e)
      refine ⟨rfl, ?_, ⟨F', Qj, imj, h3, fun k hk => ?_, LE.out, fun id k => ?_⟩, ua⟩
      · have := RA.out.keep ua (fun b hb => by
          obtain ⟨l', h1, h2⟩ := H.out.rowOwn hb
          obtain ⟨r1, r2, r3, r4, r5⟩ := H.out.rowF h1 h2
          rintro (e | e | e | ⟨id, hid, e⟩)
          · exact r1 e
          · exact r3 e
          · exact r4 e
          · exact r5 id hid e)
        rw [HV.out] at this; exact this
      · rcases f3 k hk with g | g
        · exact Or.inl g
        · exact Or.inr (Nat.le_trans hw2 g)
      · rw [MEM.out, List.take_length]
end Go.Proofs.YtmlojbfcmebboaaGreat
