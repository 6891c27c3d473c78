/- Walk: a client has read a key. -/
import Derived.Test.YthgojhchakclcaaKeyD
import Derived.Deep.RegionHeld3
set_option linter.unusedVariables false
set_option linter.unusedSimpArgs false
namespace Go.Proofs.Ythgojhchakclcaa
open Go.RowKit

theorem zeroN (w : World) : (zeroValue 3).run Try.prog w = .ok (.int .i64 0) w := by rfl
theorem Blk.keep2 {w w' : World} {b : Nat} {cs : List Value} {T : TypeId} {F : Nat → Prop} (h : Blk w b cs T) (u : Upd F w w') (hF : ¬ F b) : Blk w' b cs T := u.blk h hF
/-- A client more in a key's row: what lies there then, what was written, what is new. -/
def AddTo (w w' : World) (base kb rb rows reads : Nat) (most : Int) (ks : List ByteArray) (F : Nat → Prop) (rv : ByteArray → Value) (ri : ByteArray → Option (List Int)) (iv : Int → Nat) (im : Int → List (ByteArray × Value)) (key : ByteArray) (id : Int) : Prop :=
  ∃ R' rv' Q' iv' im', KRaw w' base kb rb rows reads most ks F R' rv' (upd ri key (some (wth ((ri key).getD []) id))) Q' iv' im' ∧ (∀ id' k, k ∈ akeys (im' id') ↔ k ∈ akeys (im id') ∨ (id' = id ∧ k = key)) ∧
    Upd (KFoot kb rows reads F rv ri iv im) w w' ∧ FromF (KFoot kb rows reads F rv ri iv im) (KFoot kb rows reads F rv' (upd ri key (some (wth ((ri key).getD []) id))) iv' im') w
section
variable {w w2 w3 w5 : World} {base kb rb rows reads : Nat} {most : Int} {ks : List ByteArray} {F : Nat → Prop} {R : List (ByteArray × Value)} {rv : ByteArray → Value} {ri : ByteArray → Option (List Int)} {Q Q' : List (Int × Value)} {iv : Int → Nat} {im : Int → List (ByteArray × Value)} {key : ByteArray} {id : Int} {v2 : Value} {R' : List (ByteArray × Value)}
theorem AddTo.of (h : KRaw w base kb rb rows reads most ks F R rv ri Q iv im) (u2 : Upd (fun b => (rowV rv ri key).ownBlock = some b) w.drew w2) (o2 : ∀ b, v2.ownBlock = some b → (rowV rv ri key).ownBlock = some b ∨ w.drew.heap.size ≤ b) (u3 : Upd (fun b => b = rows) w2 w3)
    {iv' : Int → Nat} {im' : Int → List (ByteArray × Value)} (h5 : KRaw w5 base kb rb rows reads most ks F R' (upd rv key v2) (upd ri key (some (wth ((ri key).getD []) id))) Q' iv' im') (u5 : Upd (fun b => b = reads ∨ (im id ≠ [] ∧ b = iv id)) w3 w5)
    (hm : ∀ id' k, k ∈ akeys (im' id') ↔ k ∈ akeys (im id') ∨ (id' = id ∧ k = key)) (hf : ∀ id', im' id' ≠ [] → (im id' ≠ [] ∧ iv' id' = iv id') ∨ w.heap.size ≤ iv' id') : AddTo w w5 base kb rb rows reads most ks F rv ri iv im key id := by
  have own : ∀ b, (rowV rv ri key).ownBlock = some b → KFoot kb rows reads F rv ri iv im b := fun b hb => by
    obtain ⟨l, h1, h2⟩ := h.rowOwn hb
    exact Or.inr (Or.inr (Or.inr (Or.inr (Or.inl ⟨key, l, h1, h2⟩))))
  refine ⟨R', _, Q', iv', im', h5, hm, ?_, ?_⟩
  · refine ((((Upd.refl (KFoot kb rows reads F rv ri iv im) w).drew).trans u2 (fun i _ e => own i e)).trans u3 (fun i _ e => Or.inr (Or.inl e))).trans u5 (fun i _ e => ?_)
    rcases e with e | ⟨hid, e⟩
    · exact Or.inr (Or.inr (Or.inl e))
    · exact Or.inr (Or.inr (Or.inr (Or.inr (Or.inr ⟨id, hid, e⟩))))
  · rintro b (e | e | e | e | ⟨k, l, hk, hb⟩ | ⟨id', hid, e⟩)
    · exact Or.inl (Or.inl e)
    · exact Or.inl (Or.inr (Or.inl e))
    · exact Or.inl (Or.inr (Or.inr (Or.inl e)))
    · exact Or.inl (Or.inr (Or.inr (Or.inr (Or.inl e))))
    · by_cases e : k = key
      · subst e
        rw [upd_at] at hb
        rcases o2 b hb with g | g
        · exact Or.inl (own b g)
        · exact Or.inr g
      · rw [upd_ne _ _ e] at hk hb
        exact Or.inl (Or.inr (Or.inr (Or.inr (Or.inr (Or.inl ⟨k, l, hk, hb⟩)))))
    · rcases hf id' hid with ⟨g1, g2⟩ | g
      · exact Or.inl (Or.inr (Or.inr (Or.inr (Or.inr (Or.inr ⟨id', g1, by rw [e, g2]⟩)))))
      · exact Or.inr (by rw [e]; exact g)
end
theorem mem_aset {κ ν : Type} [DecidableEq κ] (m : List (κ × ν)) (k : κ) (v : ν) (x : κ) : x ∈ akeys (aset m k v) ↔ x ∈ akeys m ∨ x = k := by
  rw [akeys_aset]
  split
  · next h => exact ⟨Or.inl, fun h2 => by rcases h2 with h2 | rfl; exact h2; exact h⟩
  · simp

set_option maxHeartbeats 4000000 in
theorem addA_raw (base kb rb rows reads : Nat) (most : Int) (ks : List ByteArray) (F : Nat → Prop) (R : List (ByteArray × Value)) (rv : ByteArray → Value) (ri : ByteArray → Option (List Int)) (Q : List (Int × Value)) (iv : Int → Nat) (im : Int → List (ByteArray × Value))
    (key : ByteArray) (id : Int) (w : World) (h : KRaw w base kb rb rows reads most ks F R rv ri Q iv im) (hks : key ∈ ks) (hr : Rising ((ri key).getD [])) (hl : ((ri key).getD []).length ≤ 100000) :
    Calls Try.prog 8 #[.pointer (some ⟨kb, 0, none⟩), .string key, .int .i64 id] w fun e w' => e = .returned (.tuple #[.string ByteArray.empty, .slice none 0 0, .bool false]) ∧ AddTo w w' base kb rb rows reads most ks F rv ri iv im key id := by
  have c0 : w.cell? ⟨kb, 0, none⟩ = some (.pointer (some ⟨rb, 0, none⟩)) := h.blk.cellAt rfl
  have HA := has_any rb ks F key w h.recent
  rw [decide_eq_true hks] at HA
  have HA := Lib.hid HA
  have hd : KRaw w.drew base kb rb rows reads most ks F R rv ri Q iv im := h.keep (E := fun _ => False) ((Upd.refl _ w).drew) (fun _ _ hh => hh)
  have lk := hd.rowLook key
  have hra := hd.rowAt key
  obtain ⟨p, c, ev, _⟩ := own_slice hra
  rw [ev] at lk
  have W := Lib.hid (with_any base (rowV rv ri key) _ id w.drew hra hr hd.bl (by omega))
  have H := Lib.hid h
  have HD := Lib.hid hd
  have HV := Lib.hid ev
  rw [ev] at W
  have PUT := Lib.hid (fun (w2 : World) (v2 : Value) (u2 : Upd (fun k => (Value.slice p ((ri key).getD []).length c).ownBlock = some k) w.drew w2) => (hd.rmap.keep u2 (fun e => by
    obtain ⟨l', h1, h2⟩ := hd.rowOwn (by rw [ev]; exact e); exact (hd.rowF h1 h2).2.2.1 rfl)).put keyS Try.underlying35 key v2)
  have KB3 := Lib.hid (fun (w2 w3 : World) (u2 : Upd (fun k => (Value.slice p ((ri key).getD []).length c).ownBlock = some k) w.drew w2) (u3 : Upd (fun b => b = rows) w2 w3) => (u3.blk (u2.blk hd.blk (fun e => by
    obtain ⟨l', h1, h2⟩ := hd.rowOwn (by rw [ev]; exact e); exact (hd.rowF h1 h2).2.1 rfl)) hd.kbm.1).cellAt (i := 1) rfl)
  have KB := Lib.hid (fun (w2 : World) (u2 : Upd (fun k => (Value.slice p ((ri key).getD []).length c).ownBlock = some k) w.drew w2) => (u2.blk hd.blk (fun e => by
    obtain ⟨l', h1, h2⟩ := hd.rowOwn (by rw [ev]; exact e); exact (hd.rowF h1 h2).2.1 rfl)).cellAt (i := 1) rfl)
  have c1 : w.cell? ⟨kb, 1, none⟩ = some (.map (some rows)) := h.blk.cellAt rfl
  clear h hra ev hd
  go_enter Try.func8, Try.ntmps8
  go_wp2_with fail
  refine (HA.out).mono ?_
  rintro e w1 ⟨rfl, rfl⟩
  go_wp2
  go_region_held3 (fun w' => w'.cell? ⟨kb, 1, none⟩ = some (.map (some rows))) (go_keep)
    (first | (go_at_call 27; refine W.out.mono ?_; rintro e w2 ⟨v2, rfl, i2, u2, o2⟩; (have y1 := KB.out w2 u2); (obtain ⟨w3, de, m3, u3⟩ := PUT.out w2 v2 u2); (have y2 := KB3.out w2 w3 u2 u3); (unfold strEnc at de); (have I2 := Lib.hid i2); (have U2 := Lib.hid u2); (have O2 := Lib.hid o2); (have M3 := Lib.hid m3); (have U3 := Lib.hid u3); clear i2 u2 o2 m3 u3))
  have h3 : KRaw w3 base kb rb rows reads most ks F (aset R key v2) (upd rv key v2) (upd ri key (some (wth ((ri key).getD []) id))) Q iv im :=
    HD.out.rowPut (w1 := w2) (U2.out.weaken (fun i _ e => HD.out.rowOwn (by rw [HV.out]; exact e))) I2.out (fun b hb => by
      rcases O2.out b hb with g | g
      · exact Or.inl (HD.out.rowOwn (by rw [HV.out]; exact g))
      · exact Or.inr g) M3.out U3.out
  have d2 : w3.cell? ⟨kb, 2, none⟩ = some (.map (some reads)) := h3.blk.cellAt rfl
  have lq := h3.qmap.look keyI Try.underlying36 (zeroM w3) id false
  rw [h3.qget] at lq
  unfold intEnc at lq
  have H3 := Lib.hid h3
  clear c1 y1 y2 de h3
  by_cases hz : im id = []
  · rw [if_pos hz] at lq
    simp only [Bool.false_eq_true, if_false, Option.getD_none] at lq
    have mk := run_makeMap (P := Try.prog) 62 w3
    have qn := run_eql_map_nil (P := Try.prog) w3 62 _ _ none Try.underlying62
    simp only [Option.isNone_none] at qn
    have ua : Upd (fun _ => False) w3 (w3.alloc (.map #[] 0)) := (Upd.refl _ _).alloc _
    have ql := H3.out.qmap.lt
    obtain ⟨w4, de1, q4, u4⟩ := (H3.out.qmap.keep ua (fun hh => hh)).put keyI Try.underlying36 id (.map (some w3.heap.size))
    have lq4 := q4.look keyI Try.underlying36 (zeroM w4) id false
    rw [aget_aset, if_pos rfl] at lq4
    simp only [Bool.false_eq_true, if_false, Option.getD_some] at lq4
    have m4 : MapAt strEnc w4 w3.heap.size [] := (MapAt.made w3).keep u4 (fun e => by have : w3.heap.size = reads := e; omega)
    have lm4 := m4.look keyS Try.underlying62 (zeroN w4) key false
    simp only [aget, Bool.false_eq_true, if_false, Option.getD_none] at lm4
    obtain ⟨w5, de2, m5, u5⟩ := m4.put keyS Try.underlying62 key (.int .i64 1)
    have c4 : w4.cell? ⟨kb, 2, none⟩ = some (.map (some reads)) := ((H3.out.blk.alloc _).keep2 u4 H3.out.kbm.2.1).cellAt rfl
    have U5 := Lib.hid (((ua.weaken (F := fun b => b = reads) (fun _ _ h => h.elim)).trans u4 (fun _ _ h => h)).trans u5 (fun i hi e => by have : i = w3.heap.size := e; omega))
    have H5 := Lib.hid (H3.out.innerNew (w' := w5) (id := id) (b := w3.heap.size) (m := aset [] key (.int .i64 1)) hz (Nat.le_refl _) (by simp [aset]) m5 (by simp [aset, akeys]) (fun k v hk => by
      simp only [aset, aget] at hk
      split at hk
      · cases hk; exact ⟨1, rfl⟩
      · cases hk) (q4.keep u5 (fun e => by have : reads = w3.heap.size := e; omega)) U5.out)
    unfold intEnc at de1 lq4
    unfold strEnc at de2 lm4
    have HZ := Lib.hid hz
    clear hz q4 u4 m4 m5 u5 ua ql
    go_wp2
    go_ret3
    refine ⟨rfl, AddTo.of H.out (U2.out.weaken (fun i _ e => by rw [HV.out]; exact e)) (by rw [HV.out]; exact O2.out) U3.out H5.out (U5.out.weaken (fun i _ e => Or.inl e)) (fun id' k => ?_) (fun id' hid => ?_)⟩
    · by_cases e : id' = id
      · subst e; rw [upd_at, mem_aset, HZ.out]; simp [akeys]
      · rw [upd_ne _ _ e]; simp [e]
    · by_cases e : id' = id
      · subst e; rw [upd_at]; right
        have := U2.out.size; have := U3.out.size; simp at *; omega
      · rw [upd_ne _ _ e] at hid ⊢; exact Or.inl ⟨hid, rfl⟩
  · rw [if_neg hz] at lq
    simp only [Bool.false_eq_true, if_false, Option.getD_some] at lq
    have qn := run_eql_map_nil (P := Try.prog) w3 62 _ _ (some (iv id)) Try.underlying62
    simp only [Option.isNone_some] at qn
    have hm := H3.out.imap id hz
    have lm := hm.1.look keyS Try.underlying62 (zeroN w3) key false
    simp only [Bool.false_eq_true, if_false] at lm
    obtain ⟨c5, hc5⟩ : ∃ c5, (aget (im id) key).getD (.int .i64 0) = .int .i64 c5 := by
      cases hk : aget (im id) key with
      | none => exact ⟨0, rfl⟩
      | some v => obtain ⟨c, hc⟩ := H3.out.iint id key v hk; exact ⟨c, hc⟩
    rw [hc5] at lm
    obtain ⟨w5, de2, m5, u5⟩ := hm.1.put keyS Try.underlying62 key (.int .i64 (wrap64 (c5 + 1)))
    have U5 := Lib.hid u5
    have H5 := Lib.hid (H3.out.innerPut (w' := w5) (id := id) (m := aset (im id) key (.int .i64 (wrap64 (c5 + 1)))) hz (fun e => by have := congrArg akeys e; rw [akeys_aset] at this; split at this <;> simp_all [akeys]) m5 (nodup_aset hm.2 key _) (fun k v hk => by
      rw [aget_aset] at hk
      split at hk
      · cases hk; exact ⟨_, rfl⟩
      · exact H3.out.iint id k v hk) u5)
    unfold strEnc at lm de2
    have HZ := Lib.hid hz
    clear hz hc5 hm m5 u5
    go_wp2
    go_ret3
    refine ⟨rfl, AddTo.of H.out (U2.out.weaken (fun i _ e => by rw [HV.out]; exact e)) (by rw [HV.out]; exact O2.out) U3.out H5.out (U5.out.weaken (fun i _ e => Or.inr ⟨HZ.out, e⟩)) (fun id' k => ?_) (fun id' hid => ?_)⟩
    · by_cases e : id' = id
      · subst e; rw [upd_at, mem_aset]; simp
      · rw [upd_ne _ _ e]; simp [e]
    · left
      by_cases e : id' = id
      · subst e; exact ⟨HZ.out, rfl⟩
      · rw [upd_ne _ _ e] at hid; exact ⟨hid, rfl⟩
end Go.Proofs.Ythgojhchakclcaa
