/- Walks: what a client has read, forgotten; a row taken. -/
import Derived.Test.YthgojhchakclcaaKeyA
set_option linter.unusedVariables false
set_option linter.unusedSimpArgs false
namespace Go.Proofs.Ythgojhchakclcaa
open Go.RowKit

section
variable {w w' : World} {base kb rb rows reads : Nat} {most : Int} {ks : List ByteArray} {F : Nat → Prop} {R : List (ByteArray × Value)} {rv : ByteArray → Value} {ri : ByteArray → Option (List Int)} {Q : List (Int × Value)} {iv : Int → Nat} {im : Int → List (ByteArray × Value)}
/-- (4) of one client other keys -/
theorem KRaw.innerPut (h : KRaw w base kb rb rows reads most ks F R rv ri Q iv im) {id : Int} {m : List (ByteArray × Value)} (hid : im id ≠ []) (hm : m ≠ []) (hM : MapAt strEnc w' (iv id) m) (hn : (akeys m).Nodup) (hi : ∀ k v, aget m k = some v → ∃ c, v = .int .i64 c)
    (u : Upd (fun b => b = iv id) w w') : KRaw w' base kb rb rows reads most ks F R rv ri Q iv (upd im id m) := by
  have hs := h.sep id hid
  have hx : ∀ id', upd im id m id' ≠ [] → im id' ≠ [] := fun id' hh => by
    by_cases e : id' = id
    · subst e; exact hid
    · rw [upd_ne _ _ e] at hh; exact hh
  exact { h with
    blk := u.blk h.blk (h.kbm.2.2 id hid)
    recent := h.recent.keep u (fun b hb e => hs.2.2 (by have : b = iv id := e; rw [← this]; exact hb))
    rmap := h.rmap.keep u (fun e => hs.1 e.symm)
    rrow := fun k l hk => (h.rrow k l hk).keep u (fun b hb e => (h.rowF hk hb).2.2.2.2 id hid e)
    qmap := h.qmap.keep u (fun e => hs.2.1 e.symm)
    qget := fun id' => by
      by_cases e : id' = id
      · subst e; rw [upd_at, if_neg hm, h.qget, if_neg hid]
      · rw [upd_ne _ _ e]; exact h.qget id'
    imap := fun id' hh => by
      by_cases e : id' = id
      · subst e; rw [upd_at]; exact ⟨hM, hn⟩
      · rw [upd_ne _ _ e] at hh ⊢
        exact ⟨(h.imap id' hh).1.keep u (fun e2 => h.ine id' id e hh hid e2), (h.imap id' hh).2⟩
    ine := fun a b hab ha hb => h.ine a b hab (hx a ha) (hx b hb)
    iint := fun id' k v hk => by
      by_cases e : id' = id
      · subst e; rw [upd_at] at hk; exact hi k v hk
      · rw [upd_ne _ _ e] at hk; exact h.iint id' k v hk
    sep := fun id' hh => h.sep id' (hx id' hh)
    loi := fun id' hh => h.loi id' (hx id' hh)
    bl := Nat.le_trans h.bl u.size }
/-- (5) a client has read nothing more -/
theorem KRaw.innerGone (h : KRaw w base kb rb rows reads most ks F R rv ri Q iv im) {id : Int} (hid : im id ≠ []) {w1 : World} (u1 : Upd (fun b => b = iv id) w w1) (hM : MapAt intEnc w' reads (adel Q id)) (u2 : Upd (fun b => b = reads) w1 w') :
    KRaw w' base kb rb rows reads most ks F R rv ri (adel Q id) iv (upd im id []) := by
  have hs := h.sep id hid
  have u : Upd (fun b => b = iv id ∨ b = reads) w w' := (u1.weaken (F := fun b => b = iv id ∨ b = reads) (fun _ _ e => Or.inl e)).trans u2 (fun _ _ e => Or.inr e)
  have hx : ∀ id', upd im id [] id' ≠ [] → im id' ≠ [] ∧ id' ≠ id := fun id' hh => by
    by_cases e : id' = id
    · subst e; rw [upd_at] at hh; exact absurd rfl hh
    · rw [upd_ne _ _ e] at hh; exact ⟨hh, e⟩
  exact { h with
    blk := u.blk h.blk (by rintro (e | e); exact h.kbm.2.2 id hid e; exact h.kbm.2.1 e)
    recent := h.recent.keep u (fun b hb => by
      rintro (e | e)
      · exact hs.2.2 (by rw [← e]; exact hb)
      · exact h.fr.2 (by rw [← e]; exact hb))
    rmap := h.rmap.keep u (by rintro (e | e); exact hs.1 e.symm; exact h.rr e)
    rrow := fun k l hk => (h.rrow k l hk).keep u (fun b hb => by
      rintro (e | e)
      · exact (h.rowF hk hb).2.2.2.2 id hid e
      · exact (h.rowF hk hb).2.2.2.1 e)
    qmap := hM
    qnd := nodup_adel h.qnd id
    qget := fun id' => by
      rw [aget_adel h.qnd]
      by_cases e : id = id'
      · subst e; rw [if_pos rfl, upd_at, if_pos rfl]
      · rw [if_neg e, upd_ne _ _ (Ne.symm e)]; exact h.qget id'
    imap := fun id' hh => by
      obtain ⟨h1, h2⟩ := hx id' hh
      rw [upd_ne _ _ h2]
      exact ⟨(h.imap id' h1).1.keep u (by rintro (e | e); exact h.ine id' id h2 h1 hid e; exact (h.sep id' h1).2.1 e), (h.imap id' h1).2⟩
    ine := fun a b hab ha hb => h.ine a b hab (hx a ha).1 (hx b hb).1
    iint := fun id' k v hk => by
      by_cases e : id' = id
      · subst e; rw [upd_at] at hk; simp [aget] at hk
      · rw [upd_ne _ _ e] at hk; exact h.iint id' k v hk
    sep := fun id' hh => h.sep id' (hx id' hh).1
    loi := fun id' hh => h.loi id' (hx id' hh).1
    bl := Nat.le_trans h.bl u.size }
/-- (6) a client has read its first key -/
theorem KRaw.innerNew (h : KRaw w base kb rb rows reads most ks F R rv ri Q iv im) {id : Int} {b : Nat} {m : List (ByteArray × Value)} (hid : im id = []) (hb : w.heap.size ≤ b) (hm : m ≠ []) (hM : MapAt strEnc w' b m) (hn : (akeys m).Nodup) (hi : ∀ k v, aget m k = some v → ∃ c, v = .int .i64 c)
    (hQ : MapAt intEnc w' reads (aset Q id (.map (some b)))) (u : Upd (fun b => b = reads) w w') :
    KRaw w' base kb rb rows reads most ks F R rv ri (aset Q id (.map (some b))) (upd iv id b) (upd im id m) := by
  have hx : ∀ id', upd im id m id' ≠ [] → id' ≠ id → im id' ≠ [] := fun id' hh e => by rw [upd_ne _ _ e] at hh; exact hh
  have hlt : ∀ id', im id' ≠ [] → iv id' < b := fun id' hh => by have := (h.imap id' hh).1.lt; omega
  exact { h with
    blk := u.blk h.blk h.kbm.2.1
    recent := h.recent.keep u (fun x hx e => h.fr.2 (by have : x = reads := e; rw [← this]; exact hx))
    rmap := h.rmap.keep u h.rr
    rrow := fun k l hk => (h.rrow k l hk).keep u (fun x hx e => (h.rowF hk hx).2.2.2.1 e)
    qmap := hQ
    qnd := nodup_aset h.qnd id _
    qget := fun id' => by
      rw [aget_aset]
      by_cases e : id = id'
      · subst e; rw [if_pos rfl, upd_at, upd_at, if_neg hm]
      · rw [if_neg e, upd_ne _ _ (Ne.symm e), upd_ne _ _ (Ne.symm e)]; exact h.qget id'
    imap := fun id' hh => by
      by_cases e : id' = id
      · subst e; rw [upd_at, upd_at]; exact ⟨hM, hn⟩
      · have h1 := hx id' hh e
        rw [upd_ne _ _ e, upd_ne _ _ e]
        exact ⟨(h.imap id' h1).1.keep u (fun e2 => (h.sep id' h1).2.1 e2), (h.imap id' h1).2⟩
    ine := fun a c hac ha hc => by
      by_cases e : a = id
      · subst e
        rw [upd_at, upd_ne _ _ (Ne.symm hac)]
        have := hlt c (hx c hc (Ne.symm hac)); omega
      · by_cases e' : c = id
        · subst e'
          rw [upd_at, upd_ne _ _ e]
          have := hlt a (hx a ha e); omega
        · rw [upd_ne _ _ e, upd_ne _ _ e']
          exact h.ine a c hac (hx a ha e) (hx c hc e')
    iint := fun id' k v hk => by
      by_cases e : id' = id
      · subst e; rw [upd_at] at hk; exact hi k v hk
      · rw [upd_ne _ _ e] at hk; exact h.iint id' k v hk
    sep := fun id' hh => by
      by_cases e : id' = id
      · subst e
        rw [upd_at]
        have h1 := h.rmap.lt
        have h2 := h.qmap.lt
        exact ⟨by omega, by omega, fun hF => by have := h.recent.lt b hF; omega⟩
      · rw [upd_ne _ _ e]; exact h.sep id' (hx id' hh e)
    loi := fun id' hh => by
      by_cases e : id' = id
      · subst e; rw [upd_at]; exact Nat.le_trans h.bl hb
      · rw [upd_ne _ _ e]; exact h.loi id' (hx id' hh e)
    bl := Nat.le_trans h.bl u.size }
end

theorem adel_len {κ ν : Type} [DecidableEq κ] (m : List (κ × ν)) (k : κ) : (adel m k).length ≤ m.length := by
  induction m with
  | nil => simp [adel]
  | cons p r ih =>
    unfold adel
    split
    · simp
    · simp only [List.length_cons]; omega
/-- What the state's maps and blocks are, hidden. -/
def KRep (w : World) (base kb : Nat) (most : Int) (ks : List ByteArray) (ri : ByteArray → Option (List Int)) (im : Int → List ByteArray) : Prop :=
  ∃ rb rows reads F R rv Q iv im', KRaw w base kb rb rows reads most ks F R rv ri Q iv im' ∧ im = fun id => akeys (im' id)
theorem zeroM (w : World) : (zeroValue 62).run Try.prog w = .ok (.map none) w := by rfl

set_option maxHeartbeats 2000000 in
/-- forget: a key that the client has read -/
theorem forget_raw (base kb rb rows reads : Nat) (most : Int) (ks : List ByteArray) (F : Nat → Prop) (R : List (ByteArray × Value)) (rv : ByteArray → Value) (ri : ByteArray → Option (List Int)) (Q : List (Int × Value)) (iv : Int → Nat) (im : Int → List (ByteArray × Value))
    (id : Int) (key : ByteArray) (w : World) (h : KRaw w base kb rb rows reads most ks F R rv ri Q iv im) (hk : key ∈ akeys (im id)) (hl : (im id).length ≤ 100000) :
    Calls Try.prog 32 #[.pointer (some ⟨kb, 0, none⟩), .int .i64 id, .string key] w fun e w' => e = .returned (.tuple #[]) ∧
      (∃ Q', KRaw w' base kb rb rows reads most ks F R rv ri Q' iv (upd im id (adel (im id) key))) ∧ Upd (fun b => b = iv id ∨ b = reads) w w' := by
  have hid : im id ≠ [] := fun e => by rw [e] at hk; simp [akeys] at hk
  have c2 : w.cell? ⟨kb, 2, none⟩ = some (.map (some reads)) := h.blk.cellAt rfl
  have lk := h.qmap.look keyI Try.underlying36 (zeroM w) id false
  rw [h.qget, if_neg hid] at lk
  simp only [Bool.false_eq_true, if_false, Option.getD_some] at lk
  obtain ⟨hM, hN⟩ := h.imap id hid
  obtain ⟨w1, de, hM1, u1⟩ := hM.del keyS Try.underlying62 key 0
  have hM1' := hM1
  have q1 := h.qmap.keep u1 (fun e => (h.sep id hid).2.1 e.symm)
  have lk1 := q1.look keyI Try.underlying36 (zeroM w1) id false
  rw [h.qget, if_neg hid] at lk1
  simp only [Bool.false_eq_true, if_false, Option.getD_some] at lk1
  have b1 := u1.blk h.blk (h.kbm.2.2 id hid)
  have c2' : w1.cell? ⟨kb, 2, none⟩ = some (.map (some reads)) := b1.cellAt rfl
  have al := adel_len (im id) key
  have ln := hM1.len 3 Try.underlying62 (by omega)
  unfold intEnc at lk lk1
  unfold strEnc at de
  by_cases hz : adel (im id) key = []
  · rw [hz]
    rw [hz] at ln
    obtain ⟨w2, de2, q2, u2⟩ := q1.del keyI Try.underlying36 id 0
    unfold intEnc at de2
    have H2 := Lib.hid (h.innerGone hid u1 q2 u2)
    have U := Lib.hid ((u1.weaken (F := fun b => b = iv id ∨ b = reads) (fun _ _ e => Or.inl e)).trans u2 (fun _ _ e => Or.inr e))
    clear h hk hM hM1 hM1' q1 b1 u1 u2 q2 hz al
    go_enter Try.func32, Try.ntmps32
    go_wp2
    go_returns
    exact ⟨rfl, ⟨_, H2.out⟩, U.out⟩
  · have hlen : ((adel (im id) key).length : Int) ≠ 0 := fun e => hz (List.length_eq_zero_iff.1 (by omega))
    have hb : (((adel (im id) key).length : Int) == 0) = false := by simpa using hz
    have H2 := Lib.hid (h.innerPut hid hz hM1 (nodup_adel hN key) (fun k v hv => by
      rw [aget_adel hN] at hv
      split at hv
      · cases hv
      · exact h.iint id k v hv) u1)
    have U := Lib.hid (u1.weaken (F := fun b => b = iv id ∨ b = reads) (fun _ _ e => Or.inl e))
    clear h hk hM hM1 hM1' q1 b1 u1 hz al hlen
    go_enter Try.func32, Try.ntmps32
    go_wp2
    go_returns
    exact ⟨rfl, ⟨_, H2.out⟩, U.out⟩
end Go.Proofs.Ythgojhchakclcaa
