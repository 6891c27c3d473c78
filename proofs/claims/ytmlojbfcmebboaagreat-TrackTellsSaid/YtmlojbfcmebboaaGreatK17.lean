/- Walk: a client has read a key that had no row. -/
import Derived.Test.YtmlojbfcmebboaaGreatK16
import Derived.Test.YtmlojbfcmebboaaGreatK14
import Derived.Test.YtmlojbfcmebboaaGreatK01
import Derived.Shelf.SlIter.Collect
import Derived.Shelf.SlIter.Keys
import Derived.Shelf.SlIter.Nil
set_option linter.unusedVariables false
set_option linter.unusedSimpArgs false
set_option maxRecDepth 100000
namespace Go.Proofs.YtmlojbfcmebboaaGreat
open Go.RowKit

theorem foot_recent {kb rows reads : Nat} {F F' : Nat → Prop} {rv : ByteArray → Value} {ri : ByteArray → Option (List Int)} {iv : Int → Nat} {im : Int → List (ByteArray × Value)} {w w0 : World} (h : FromF F F' w) (hs : w0.heap.size ≤ w.heap.size) : FromF (KFoot kb rows reads F rv ri iv im) (KFoot kb rows reads F' rv ri iv im) w0 := by
  rintro b (e | e | e | e | e | e)
  · exact Or.inl (Or.inl e)
  · exact Or.inl (Or.inr (Or.inl e))
  · exact Or.inl (Or.inr (Or.inr (Or.inl e)))
  · rcases h b e with g | g
    · exact Or.inl (Or.inr (Or.inr (Or.inr (Or.inl g))))
    · exact Or.inr (Nat.le_trans hs g)
  · exact Or.inl (Or.inr (Or.inr (Or.inr (Or.inr (Or.inl e)))))
  · exact Or.inl (Or.inr (Or.inr (Or.inr (Or.inr (Or.inr e)))))

set_option maxHeartbeats 4000000 in
theorem addC_raw (base kb rb rows reads : Nat) (most : Int) (ks : List ByteArray) (F : Nat → Prop) (R : List (ByteArray × Value)) (rv : ByteArray → Value) (ri : ByteArray → Option (List Int)) (Q : List (Int × Value)) (iv : Int → Nat) (im : Int → List (ByteArray × Value))
    (key : ByteArray) (id : Int) (w : World) (h : KRaw w base kb rb rows reads most ks F R rv ri Q iv im) (hks : key ∉ ks) (hm : (ks.length : Int) < most) (hkl : ks.length ≤ 100000) (hr : Rising ((ri key).getD [])) (hl : ((ri key).getD []).length ≤ 100000) :
    Calls Tryz.prog 50 #[.pointer (some ⟨kb, 0, none⟩), .string key, .int .i64 id] w fun e w' => e = .returned (.tuple #[.string ByteArray.empty, .slice none 0 0, .bool false]) ∧
      ∃ w1 F1, KRaw w1 base kb rb rows reads most (touched ks key) F1 R rv ri Q iv im ∧ Upd (KFoot kb rows reads F rv ri iv im) w w1 ∧ FromF (KFoot kb rows reads F rv ri iv im) (KFoot kb rows reads F1 rv ri iv im) w ∧ AddTo w1 w' base kb rb rows reads most (touched ks key) F1 rv ri iv im key id := by
  have c0 : w.cell? ⟨kb, 0, none⟩ = some (.pointer (some ⟨rb, 0, none⟩)) := h.blk.cellAt rfl
  have c3 : w.cell? ⟨kb, 3, none⟩ = some (.int .i64 most) := h.blk.cellAt rfl
  have HA := has_any rb ks F key w h.recent
  rw [decide_eq_false hks] at HA
  have HA := Lib.hid HA
  have LN := Lib.hid (fun (v : World) (u : Upd (fun _ => False) w v) => rlen_any rb ks F v (h.recent.keep u (fun _ _ hh => hh)) (by omega))
  have hmb : decide (most ≤ (ks.length : Int)) = false := by simp; omega
  have TC := Lib.hid (fun (v : World) (u : Upd (fun _ => False) w v) => touch_any rb ks F key v (h.recent.keep u (fun _ _ hh => hh)))
  have HH := Lib.hid h
  clear h
  go_enter Tryz.func50, Tryz.ntmps50
  go_wp2_with fail
  refine (HA.out).mono ?_
  rintro e w1 ⟨rfl, rfl⟩
  go_wp2
  go_quiet ((go_at_call 59; exact Calls.quiet_of_same (LN.out _ (by first | exact Upd.refl _ _ | exact (Upd.refl _ _).drewN _))))
  go_wp2_with fail
  refine (TC.out _ ((Upd.refl _ _).drewN nq)).mono ?_
  rintro e wC ⟨rfl, t⟩
  obtain ⟨F1, h, f1, u1⟩ := (HH.out.keep (E := fun _ => False) ((Upd.refl _ _).drewN nq) (fun _ _ hh => hh)).recentTo t
  have UW := Lib.hid ((((Upd.refl (fun _ => False) w1).drewN nq).weaken (F := KFoot kb rows reads F rv ri iv im) (fun _ _ hh => hh.elim)).trans u1 (fun i _ e => Or.inr (Or.inr (Or.inr (Or.inl e)))))
  have FF := Lib.hid (foot_recent (kb := kb) (rows := rows) (reads := reads) (rv := rv) (ri := ri) (iv := iv) (im := im) f1 (Nat.le_refl w1.heap.size))
  clear t u1 f1 c0 c3 hmb LN TC HA
  have hd : KRaw wC.drew base kb rb rows reads most (touched ks key) F1 R rv ri Q iv im := h.keep (E := fun _ => False) ((Upd.refl _ wC).drew) (fun _ _ hh => hh)
  have lk := hd.rowLook key
  have hra := hd.rowAt key
  obtain ⟨p, c, ev, _⟩ := own_slice hra
  rw [ev] at lk
  have W := Lib.hid (with_any base (rowV rv ri key) _ id wC.drew hra hr hd.bl (by omega))
  have H := Lib.hid h
  have HD := Lib.hid hd
  have HV := Lib.hid ev
  rw [ev] at W
  have PUT := Lib.hid (fun (w2 : World) (v2 : Value) (u2 : Upd (fun k => (Value.slice p ((ri key).getD []).length c).ownBlock = some k) wC.drew w2) => (hd.rmap.keep u2 (fun e => by
    obtain ⟨l', h1, h2⟩ := hd.rowOwn (by rw [ev]; exact e); exact (hd.rowF h1 h2).2.2.1 rfl)).put keyS Tryz.underlying114 key v2)
  have KB3 := Lib.hid (fun (w2 w3 : World) (u2 : Upd (fun k => (Value.slice p ((ri key).getD []).length c).ownBlock = some k) wC.drew w2) (u3 : Upd (fun b => b = rows) w2 w3) => (u3.blk (u2.blk hd.blk (fun e => by
    obtain ⟨l', h1, h2⟩ := hd.rowOwn (by rw [ev]; exact e); exact (hd.rowF h1 h2).2.1 rfl)) hd.kbm.1).cellAt (i := 1) rfl)
  have KB := Lib.hid (fun (w2 : World) (u2 : Upd (fun k => (Value.slice p ((ri key).getD []).length c).ownBlock = some k) wC.drew w2) => (u2.blk hd.blk (fun e => by
    obtain ⟨l', h1, h2⟩ := hd.rowOwn (by rw [ev]; exact e); exact (hd.rowF h1 h2).2.1 rfl)).cellAt (i := 1) rfl)
  have c1 : wC.cell? ⟨kb, 1, none⟩ = some (.map (some rows)) := h.blk.cellAt rfl
  clear h hra ev hd
  go_wp2
  go_region_held3 (fun w' => w'.cell? ⟨kb, 1, none⟩ = some (.map (some rows))) (go_keep)
    (first | (go_at_call 105; refine W.out.mono ?_; rintro e w2 ⟨v2, rfl, i2, u2, o2⟩; (have y1 := KB.out w2 u2); (obtain ⟨w3, de, m3, u3⟩ := PUT.out w2 v2 u2); (have y2 := KB3.out w2 w3 u2 u3); (unfold strEnc at de); (have I2 := Lib.hid i2); (have U2 := Lib.hid u2); (have O2 := Lib.hid o2); (have M3 := Lib.hid m3); (have U3 := Lib.hid u3); clear i2 u2 o2 m3 u3))
  have h3 : KRaw w3 base kb rb rows reads most (touched ks key) F1 (aset R key v2) (upd rv key v2) (upd ri key (some (wth ((ri key).getD []) id))) Q iv im :=
    HD.out.rowPut (w1 := w2) (U2.out.weaken (fun i _ e => HD.out.rowOwn (by rw [HV.out]; exact e))) I2.out (fun b hb => by
      rcases O2.out b hb with g | g
      · exact Or.inl (HD.out.rowOwn (by rw [HV.out]; exact g))
      · exact Or.inr g) M3.out U3.out
  have d2 : w3.cell? ⟨kb, 2, none⟩ = some (.map (some reads)) := h3.blk.cellAt rfl
  have lq := h3.qmap.look keyI Tryz.underlying115 (zeroM w3) id false
  rw [h3.qget] at lq
  unfold intEnc at lq
  have H3 := Lib.hid h3
  clear c1 y1 y2 de h3
  by_cases hz : im id = []
  · rw [if_pos hz] at lq
    simp only [Bool.false_eq_true, if_false, Option.getD_none] at lq
    have mk := run_makeMap (P := Tryz.prog) 51 w3
    have qn := run_eql_map_nil (P := Tryz.prog) w3 51 _ _ none Tryz.underlying51
    simp only [Option.isNone_none] at qn
    have ua : Upd (fun _ => False) w3 (w3.alloc (.map #[] 0)) := (Upd.refl _ _).alloc _
    have ql := H3.out.qmap.lt
    obtain ⟨w4, de1, q4, u4⟩ := (H3.out.qmap.keep ua (fun hh => hh)).put keyI Tryz.underlying115 id (.map (some w3.heap.size))
    have lq4 := q4.look keyI Tryz.underlying115 (zeroM w4) id false
    rw [aget_aset, if_pos rfl] at lq4
    simp only [Bool.false_eq_true, if_false, Option.getD_some] at lq4
    have m4 : MapAt strEnc w4 w3.heap.size [] := (MapAt.made w3).keep u4 (fun e => by have : w3.heap.size = reads := e; omega)
    have lm4 := m4.look keyS Tryz.underlying51 (zeroN w4) key false
    simp only [aget, Bool.false_eq_true, if_false, Option.getD_none] at lm4
    obtain ⟨w5, de2, m5, u5⟩ := m4.put keyS Tryz.underlying51 key (.int .i64 1)
    have c4 : w4.cell? ⟨kb, 2, none⟩ = some (.map (some reads)) := ((H3.out.blk.alloc _).keep2 u4 H3.out.kbm.2.1).cellAt rfl
    have U5 := Lib.hid (((ua.weaken (F := fun b => b = reads) (fun _ _ h => h.elim)).trans u4 (fun _ _ h => h)).trans u5 (fun i hi e => by have : i = w3.heap.size := e; omega))
    have H5 := Lib.hid (H3.out.innerNew (w' := w5) (id := id) (b := w3.heap.size) (m := aset [] key (.int .i64 1)) hz (Nat.le_refl _) (by simp [aset]) m5 (by simp [aset, akeys]) (fun k v hk => by
      simp only [aset, aget] at hk
      split at hk
      · cases hk; exact ⟨1, rfl⟩
      · cases hk) (q4.keep u5 (fun e => by have : reads = w3.heap.size := e; omega)) U5.out)
    unfold intEnc at de1 lq4
    unfold strEnc at de2 lm4
    have HZ := Lib.hid hz
    clear hz q4 u4 m4 m5 u5 ua ql
    go_wp2
    go_ret3
    refine ⟨rfl, _, _, H.out, UW.out, FF.out, AddTo.of H.out (U2.out.weaken (fun i _ e => by rw [HV.out]; exact e)) (by rw [HV.out]; exact O2.out) U3.out H5.out (U5.out.weaken (fun i _ e => Or.inl e)) (fun id' k => ?_) (fun id' hid => ?_)⟩
    · by_cases e : id' = id
      · subst e; rw [upd_at, mem_aset, HZ.out]; simp [akeys]
      · rw [upd_ne _ _ e]; simp [e]
    · by_cases e : id' = id
      · subst e; rw [upd_at]; right
        have := U2.out.size; have := U3.out.size; simp at *; omega
      · rw [upd_ne _ _ e] at hid ⊢; exact Or.inl ⟨hid, rfl⟩
  · rw [if_neg hz] at lq
    simp only [Bool.false_eq_true, if_false, Option.getD_some] at lq
    have qn := run_eql_map_nil (P := Tryz.prog) w3 51 _ _ (some (iv id)) Tryz.underlying51
    simp only [Option.isNone_some] at qn
    have hm := H3.out.imap id hz
    have lm := hm.1.look keyS Tryz.underlying51 (zeroN w3) key false
    simp only [Bool.false_eq_true, if_false] at lm
    obtain ⟨c5, hc5⟩ : ∃ c5, (aget (im id) key).getD (.int .i64 0) = .int .i64 c5 := by
      cases hk : aget (im id) key with
      | none => exact ⟨0, rfl⟩
      | some v => obtain ⟨c, hc⟩ := H3.out.iint id key v hk; exact ⟨c, hc⟩
    rw [hc5] at lm
    obtain ⟨w5, de2, m5, u5⟩ := hm.1.put keyS Tryz.underlying51 key (.int .i64 (wrap64 (c5 + 1)))
    have U5 := Lib.hid u5
    have H5 := Lib.hid (H3.out.innerPut (w' := w5) (id := id) (m := aset (im id) key (.int .i64 (wrap64 (c5 + 1)))) hz (fun e => by have := congrArg akeys e; rw [akeys_aset] at this; split at this <;> simp_all [akeys]) m5 (nodup_aset hm.2 key _) (fun k v hk => by
      rw [aget_aset] at hk
      split at hk
      · cases hk; exact ⟨_, rfl⟩
      · exact H3.out.iint id k v hk) u5)
    unfold strEnc at lm de2
    have HZ := Lib.hid hz
    clear hz hc5 hm m5 u5
    go_wp2
    go_ret3
    refine ⟨rfl, _, _, H.out, UW.out, FF.out, AddTo.of H.out (U2.out.weaken (fun i _ e => by rw [HV.out]; exact e)) (by rw [HV.out]; exact O2.out) U3.out H5.out (U5.out.weaken (fun i _ e => Or.inr ⟨HZ.out, e⟩)) (fun id' k => ?_) (fun id' hid => ?_)⟩
    · by_cases e : id' = id
      · subst e; rw [upd_at, mem_aset]; simp
      · rw [upd_ne _ _ e]; simp [e]
    · left
      by_cases e : id' = id
      · subst e; exact ⟨HZ.out, rfl⟩
      · rw [upd_ne _ _ e] at hid; exact ⟨hid, rfl⟩

theorem foot_less {kb rows reads : Nat} {F : Nat → Prop} {rv : ByteArray → Value} {ri : ByteArray → Option (List Int)} {iv : Int → Nat} {im im' : Int → List (ByteArray × Value)} {k0 : ByteArray} (hx : ∀ id, (im' id).length ≤ (im id).length) (b : Nat) (h : KFoot kb rows reads F rv (upd ri k0 none) iv im' b) : KFoot kb rows reads F rv ri iv im b := by
  rcases h with e | e | e | e | ⟨k, l, hk, hb⟩ | ⟨id, hid, e⟩
  · exact Or.inl e
  · exact Or.inr (Or.inl e)
  · exact Or.inr (Or.inr (Or.inl e))
  · exact Or.inr (Or.inr (Or.inr (Or.inl e)))
  · by_cases e : k = k0
    · subst e; rw [upd_at] at hk; cases hk
    · rw [upd_ne _ _ e] at hk
      exact Or.inr (Or.inr (Or.inr (Or.inr (Or.inl ⟨k, l, hk, hb⟩))))
  · exact Or.inr (Or.inr (Or.inr (Or.inr (Or.inr ⟨id, fun h => hid (by have := hx id; rw [h] at this; exact List.length_eq_zero_iff.1 (by simpa using this)), e⟩))))

set_option maxHeartbeats 4000000 in
theorem addB_raw (base kb rb rows reads : Nat) (most : Int) (ks : List ByteArray) (F : Nat → Prop) (R : List (ByteArray × Value)) (rv : ByteArray → Value) (ri : ByteArray → Option (List Int)) (Q : List (Int × Value)) (iv : Int → Nat) (im : Int → List (ByteArray × Value))
    (key : ByteArray) (id : Int) (w : World) (k0 : ByteArray) (kr : List ByteArray) (h : KRaw w base kb rb rows reads most ks F R rv ri Q iv im) (hks : key ∉ ks) (hk0 : ks = k0 :: kr) (hm : most ≤ (ks.length : Int)) (hkl : ks.length ≤ 100000) (hr : Rising ((ri key).getD [])) (hl : ((ri key).getD []).length ≤ 100000)
    (hD : ∀ id ∈ (ri k0).getD [], k0 ∈ akeys (im id)) (hnd : ((ri k0).getD []).Nodup) (hil : ∀ id, (im id).length ≤ 100000) (hrl : ((ri k0).getD []).length ≤ 100000) :
    Calls Tryz.prog 50 #[.pointer (some ⟨kb, 0, none⟩), .string key, .int .i64 id] w fun e w' => e = .returned (.tuple #[.string k0, rowV rv ri k0, .bool true]) ∧
      ∃ w1 F1 R1 Q1 im1, KRaw w1 base kb rb rows reads most (touched (ks.erase k0) key) F1 R1 rv (upd ri k0 none) Q1 iv im1 ∧ ((∀ id, (im1 id).length ≤ (im id).length) ∧ ∀ id k, k ∈ akeys (im1 id) ↔ k ∈ akeys (im id) ∧ ¬ (k = k0 ∧ id ∈ (ri k0).getD [])) ∧
        IntsAt w1 base (rowV rv ri k0) ((ri k0).getD []) ∧ Upd (KFoot kb rows reads F rv ri iv im) w w1 ∧ FromF (KFoot kb rows reads F rv ri iv im) (KFoot kb rows reads F1 rv (upd ri k0 none) iv im1) w ∧
        AddTo w1 w' base kb rb rows reads most (touched (ks.erase k0) key) F1 rv (upd ri k0 none) iv im1 key id := by
  have c0 : w.cell? ⟨kb, 0, none⟩ = some (.pointer (some ⟨rb, 0, none⟩)) := h.blk.cellAt rfl
  have c3 : w.cell? ⟨kb, 3, none⟩ = some (.int .i64 most) := h.blk.cellAt rfl
  have HA := has_any rb ks F key w h.recent
  rw [decide_eq_false hks] at HA
  have HA := Lib.hid HA
  have LN := Lib.hid (fun (v : World) (u : Upd (fun _ => False) w v) => rlen_any rb ks F v (h.recent.keep u (fun _ _ hh => hh)) (by omega))
  have hmb : decide (most ≤ (ks.length : Int)) = true := by simp; omega
  have hne : key ≠ k0 := fun e => hks (by rw [e, hk0]; simp)
  have OL := Lib.hid (fun (v : World) (u : Upd (fun _ => False) w v) => (by
    have := oldest_any rb ks F key v (h.recent.keep u (fun _ _ hh => hh))
    rw [show oldest key ks = (k0, true) by rw [hk0]; simp [oldest, Ne.symm hne]] at this
    exact this : Calls Tryz.prog 103 #[.pointer (some ⟨rb, 0, none⟩), .string key] v fun e w' => e = .returned (.tuple #[.string k0, .bool true]) ∧ ∃ n, w' = v.drewN n))
  obtain ⟨p0, q0, ev0, _⟩ := own_slice (h.rowAt k0)
  have TK := Lib.hid (fun (v : World) (u : Upd (fun _ => False) w v) => (by
    have := take_raw base kb rb rows reads most ks F R rv ri Q iv im k0 v (h.keep u (fun _ _ hh => hh)) hD hnd hil hrl
    rw [ev0] at this; exact this))
  have HH := Lib.hid h
  have HR := Lib.hid (And.intro hr hl)
  have HK0 := Lib.hid hk0
  have EV0 := Lib.hid ev0
  rw [ev0]
  clear h hD hnd hr hl ev0 hk0
  go_enter Tryz.func50, Tryz.ntmps50
  go_wp2_with fail
  refine (HA.out).mono ?_
  rintro e w1 ⟨rfl, rfl⟩
  go_wp2
  go_quiet ((go_at_call 59; exact Calls.quiet_of_same (LN.out _ (by first | exact Upd.refl _ _ | exact (Upd.refl _ _).drewN _))))
  have c5 : (w1.drewN nq).cell? ⟨kb, 0, none⟩ = some (.pointer (some ⟨rb, 0, none⟩)) := c0
  go_wp2_with fail
  refine (OL.out _ ((Upd.refl _ _).drewN nq)).mono ?_
  rintro e w2 ⟨rfl, n2, rfl⟩
  have UU : Upd (fun _ => False) w1 ((w1.drewN nq).drewN n2) := ((Upd.refl _ _).drewN nq).drewN n2
  have UU := Lib.hid UU
  rw [World.drewN_drewN] at UU
  go_wp2_with fail
  refine (TK.out _ UU.out).mono ?_
  rintro e w3 ⟨rfl, hv3, ⟨F', Q2, im2, h3, f3, il3, im3⟩, u3⟩
  have d0 : w3.cell? ⟨kb, 0, none⟩ = some (.pointer (some ⟨rb, 0, none⟩)) := h3.blk.cellAt rfl
  have TC := Lib.hid (touch_any rb _ F' key w3 h3.recent)
  have H3 := Lib.hid h3
  have V3 := Lib.hid hv3
  have F3 := Lib.hid f3
  have IM := Lib.hid (And.intro il3 im3)
  have U3 := Lib.hid u3
  clear h3 hv3 f3 il3 im3 u3 c0 c3 c5 hmb LN OL TK HA
  go_wp2_with fail
  refine (TC.out).mono ?_
  rintro e wT ⟨rfl, t4⟩
  obtain ⟨F2, h4, f4, u4⟩ := H3.out.recentTo t4
  have hs3 := Nat.le_trans UU.out.size U3.out.size
  have hF2 : FromF F F2 w1 := FromF.trans (w1 := w3) (fun k hk => F3.out k hk) f4 hs3
  have UW : Hid (Upd (KFoot kb rows reads F rv ri iv im) w1 wT) := ((UU.out.weaken (F := KFoot kb rows reads F rv ri iv im) (fun _ _ hh => hh.elim)).trans U3.out (fun i _ e => by
    rcases e with e | e | e | ⟨id, hid, e⟩
    · exact Or.inr (Or.inr (Or.inr (Or.inl e)))
    · exact Or.inr (Or.inl e)
    · exact Or.inr (Or.inr (Or.inl e))
    · exact Or.inr (Or.inr (Or.inr (Or.inr (Or.inr ⟨id, hid, e⟩)))))).trans u4 (fun i hi e => by
    rcases F3.out i e with g | g
    · exact Or.inr (Or.inr (Or.inr (Or.inl g)))
    · have : w1.heap.size ≤ i := g; omega)
  have FF : Hid (FromF (KFoot kb rows reads F rv ri iv im) (KFoot kb rows reads F2 rv (upd ri k0 none) iv im2) w1) := fun b hb => by
    rcases foot_recent (kb := kb) (rows := rows) (reads := reads) (rv := rv) (ri := upd ri k0 none) (iv := iv) (im := im2) hF2 (Nat.le_refl _) b hb with g | g
    · exact Or.inl (foot_less IM.out.1 b g)
    · exact Or.inr g
  have VG : Hid (IntsAt wT base (Value.slice p0 ((ri k0).getD []).length q0) ((ri k0).getD [])) := V3.out.keep u4 (fun b hb e => by
    obtain ⟨l', h1, h2⟩ := HH.out.rowOwn (k := k0) (by rw [EV0.out]; exact hb)
    rcases F3.out b e with g | g
    · exact (HH.out.rowF h1 h2).1 g
    · have := (ints_block (HH.out.rrow k0 l' h1) h2).2.1
      have : w1.heap.size ≤ b := g; omega)
  obtain ⟨ks2, eks⟩ : ∃ x, touched (ks.erase k0) key = x := ⟨_, rfl⟩
  obtain ⟨ri2, eri⟩ : ∃ x, upd ri k0 none = x := ⟨_, rfl⟩
  have hr2 : Rising ((ri2 key).getD []) := by rw [← eri, upd_ne _ _ hne]; exact HR.out.1
  have hl2 : ((ri2 key).getD []).length ≤ 100000 := by rw [← eri, upd_ne _ _ hne]; exact HR.out.2
  have h : KRaw wT base kb rb rows reads most ks2 F2 (adel R k0) rv ri2 Q2 iv im2 := by rw [← eks, ← eri]; exact h4
  have HKS := Lib.hid eks
  have HRI := Lib.hid eri
  obtain ⟨R2, eR⟩ : ∃ x, adel R k0 = x := ⟨_, rfl⟩
  rw [eR] at h
  clear t4 h4 f4 u4 hF2 eks eri eR hs3 TC d0
  have hd : KRaw wT.drew base kb rb rows reads most ks2 F2 R2 rv ri2 Q2 iv im2 := h.keep (E := fun _ => False) ((Upd.refl _ wT).drew) (fun _ _ hh => hh)
  have lk := hd.rowLook key
  have hra := hd.rowAt key
  obtain ⟨p, c, ev, _⟩ := own_slice hra
  rw [ev] at lk
  have W := Lib.hid (with_any base (rowV rv ri2 key) _ id wT.drew hra hr2 hd.bl (by omega))
  have H := Lib.hid h
  have HD := Lib.hid hd
  have HV := Lib.hid ev
  rw [ev] at W
  have PUT := Lib.hid (fun (w2 : World) (v2 : Value) (u2 : Upd (fun k => (Value.slice p ((ri2 key).getD []).length c).ownBlock = some k) wT.drew w2) => (hd.rmap.keep u2 (fun e => by
    obtain ⟨l', h1, h2⟩ := hd.rowOwn (by rw [ev]; exact e); exact (hd.rowF h1 h2).2.2.1 rfl)).put keyS Tryz.underlying114 key v2)
  have KB3 := Lib.hid (fun (w2 w3 : World) (u2 : Upd (fun k => (Value.slice p ((ri2 key).getD []).length c).ownBlock = some k) wT.drew w2) (u3 : Upd (fun b => b = rows) w2 w3) => (u3.blk (u2.blk hd.blk (fun e => by
    obtain ⟨l', h1, h2⟩ := hd.rowOwn (by rw [ev]; exact e); exact (hd.rowF h1 h2).2.1 rfl)) hd.kbm.1).cellAt (i := 1) rfl)
  have KB := Lib.hid (fun (w2 : World) (u2 : Upd (fun k => (Value.slice p ((ri2 key).getD []).length c).ownBlock = some k) wT.drew w2) => (u2.blk hd.blk (fun e => by
    obtain ⟨l', h1, h2⟩ := hd.rowOwn (by rw [ev]; exact e); exact (hd.rowF h1 h2).2.1 rfl)).cellAt (i := 1) rfl)
  have c1 : wT.cell? ⟨kb, 1, none⟩ = some (.map (some rows)) := h.blk.cellAt rfl
  clear h hra ev hd
  go_wp2
  go_region_held3 (fun w' => w'.cell? ⟨kb, 1, none⟩ = some (.map (some rows))) (go_keep)
    (first | (go_at_call 105; refine W.out.mono ?_; rintro e w2 ⟨v2, rfl, i2, u2, o2⟩; (have y1 := KB.out w2 u2); (obtain ⟨w3, de, m3, u3⟩ := PUT.out w2 v2 u2); (have y2 := KB3.out w2 w3 u2 u3); (unfold strEnc at de); (have I2 := Lib.hid i2); (have U2 := Lib.hid u2); (have O2 := Lib.hid o2); (have M3 := Lib.hid m3); (have U3 := Lib.hid u3); clear i2 u2 o2 m3 u3))
  have h3 : KRaw w3 base kb rb rows reads most ks2 F2 (aset R2 key v2) (upd rv key v2) (upd ri2 key (some (wth ((ri2 key).getD []) id))) Q2 iv im2 :=
    HD.out.rowPut (w1 := w2) (U2.out.weaken (fun i _ e => HD.out.rowOwn (by rw [HV.out]; exact e))) I2.out (fun b hb => by
      rcases O2.out b hb with g | g
      · exact Or.inl (HD.out.rowOwn (by rw [HV.out]; exact g))
      · exact Or.inr g) M3.out U3.out
  have d2 : w3.cell? ⟨kb, 2, none⟩ = some (.map (some reads)) := h3.blk.cellAt rfl
  have lq := h3.qmap.look keyI Tryz.underlying115 (zeroM w3) id false
  rw [h3.qget] at lq
  unfold intEnc at lq
  have H3 := Lib.hid h3
  clear c1 y1 y2 de h3
  by_cases hz : im2 id = []
  · rw [if_pos hz] at lq
    simp only [Bool.false_eq_true, if_false, Option.getD_none] at lq
    have mk := run_makeMap (P := Tryz.prog) 51 w3
    have qn := run_eql_map_nil (P := Tryz.prog) w3 51 _ _ none Tryz.underlying51
    simp only [Option.isNone_none] at qn
    have ua : Upd (fun _ => False) w3 (w3.alloc (.map #[] 0)) := (Upd.refl _ _).alloc _
    have ql := H3.out.qmap.lt
    obtain ⟨w4, de1, q4, u4⟩ := (H3.out.qmap.keep ua (fun hh => hh)).put keyI Tryz.underlying115 id (.map (some w3.heap.size))
    have lq4 := q4.look keyI Tryz.underlying115 (zeroM w4) id false
    rw [aget_aset, if_pos rfl] at lq4
    simp only [Bool.false_eq_true, if_false, Option.getD_some] at lq4
    have m4 : MapAt strEnc w4 w3.heap.size [] := (MapAt.made w3).keep u4 (fun e => by have : w3.heap.size = reads := e; omega)
    have lm4 := m4.look keyS Tryz.underlying51 (zeroN w4) key false
    simp only [aget, Bool.false_eq_true, if_false, Option.getD_none] at lm4
    obtain ⟨w5, de2, m5, u5⟩ := m4.put keyS Tryz.underlying51 key (.int .i64 1)
    have c4 : w4.cell? ⟨kb, 2, none⟩ = some (.map (some reads)) := ((H3.out.blk.alloc _).keep2 u4 H3.out.kbm.2.1).cellAt rfl
    have U5 := Lib.hid (((ua.weaken (F := fun b => b = reads) (fun _ _ h => h.elim)).trans u4 (fun _ _ h => h)).trans u5 (fun i hi e => by have : i = w3.heap.size := e; omega))
    have H5 := Lib.hid (H3.out.innerNew (w' := w5) (id := id) (b := w3.heap.size) (m := aset [] key (.int .i64 1)) hz (Nat.le_refl _) (by simp [aset]) m5 (by simp [aset, akeys]) (fun k v hk => by
      simp only [aset, aget] at hk
      split at hk
      · cases hk; exact ⟨1, rfl⟩
      · cases hk) (q4.keep u5 (fun e => by have : reads = w3.heap.size := e; omega)) U5.out)
    unfold intEnc at de1 lq4
    unfold strEnc at de2 lm4
    have HZ := Lib.hid hz
    clear hz q4 u4 m4 m5 u5 ua ql
    go_wp2
    go_ret3
    rw [HKS.out, HRI.out]
    refine ⟨rfl, _, _, _, _, _, H.out, IM.out, VG.out, UW.out, (by rw [← HRI.out]; exact FF.out), AddTo.of H.out (U2.out.weaken (fun i _ e => by rw [HV.out]; exact e)) (by rw [HV.out]; exact O2.out) U3.out H5.out (U5.out.weaken (fun i _ e => Or.inl e)) (fun id' k => ?_) (fun id' hid => ?_)⟩
    · by_cases e : id' = id
      · subst e; rw [upd_at, mem_aset, HZ.out]; simp [akeys]
      · rw [upd_ne _ _ e]; simp [e]
    · by_cases e : id' = id
      · subst e; rw [upd_at]; right
        have := U2.out.size; have := U3.out.size; simp at *; omega
      · rw [upd_ne _ _ e] at hid ⊢; exact Or.inl ⟨hid, rfl⟩
  · rw [if_neg hz] at lq
    simp only [Bool.false_eq_true, if_false, Option.getD_some] at lq
    have qn := run_eql_map_nil (P := Tryz.prog) w3 51 _ _ (some (iv id)) Tryz.underlying51
    simp only [Option.isNone_some] at qn
    have hm := H3.out.imap id hz
    have lm := hm.1.look keyS Tryz.underlying51 (zeroN w3) key false
    simp only [Bool.false_eq_true, if_false] at lm
    obtain ⟨c5, hc5⟩ : ∃ c5, (aget (im2 id) key).getD (.int .i64 0) = .int .i64 c5 := by
      cases hk : aget (im2 id) key with
      | none => exact ⟨0, rfl⟩
      | some v => obtain ⟨c, hc⟩ := H3.out.iint id key v hk; exact ⟨c, hc⟩
    rw [hc5] at lm
    obtain ⟨w5, de2, m5, u5⟩ := hm.1.put keyS Tryz.underlying51 key (.int .i64 (wrap64 (c5 + 1)))
    have U5 := Lib.hid u5
    have H5 := Lib.hid (H3.out.innerPut (w' := w5) (id := id) (m := aset (im2 id) key (.int .i64 (wrap64 (c5 + 1)))) hz (fun e => by have := congrArg akeys e; rw [akeys_aset] at this; split at this <;> simp_all [akeys]) m5 (nodup_aset hm.2 key _) (fun k v hk => by
      rw [aget_aset] at hk
      split at hk
      · cases hk; exact ⟨_, rfl⟩
      · exact H3.out.iint id k v hk) u5)
    unfold strEnc at lm de2
    have HZ := Lib.hid hz
    clear hz hc5 hm m5 u5
    go_wp2
    go_ret3
    rw [HKS.out, HRI.out]
    refine ⟨rfl, _, _, _, _, _, H.out, IM.out, VG.out, UW.out, (by rw [← HRI.out]; exact FF.out), AddTo.of H.out (U2.out.weaken (fun i _ e => by rw [HV.out]; exact e)) (by rw [HV.out]; exact O2.out) U3.out H5.out (U5.out.weaken (fun i _ e => Or.inr ⟨HZ.out, e⟩)) (fun id' k => ?_) (fun id' hid => ?_)⟩
    · by_cases e : id' = id
      · subst e; rw [upd_at, mem_aset]; simp
      · rw [upd_ne _ _ e]; simp [e]
    · left
      by_cases e : id' = id
      · subst e; exact ⟨HZ.out, rfl⟩
      · rw [upd_ne _ _ e] at hid; exact ⟨hid, rfl⟩
end Go.Proofs.YtmlojbfcmebboaaGreat
/- A client has read a key: on the list of rows. -/
set_option linter.unusedVariables false
set_option linter.unusedSimpArgs false
set_option maxRecDepth 100000
namespace Go.Proofs.YtmlojbfcmebboaaGreat
open Go.RowKit

/-- A client has read a key: whose row went, its clients, whether one went; the rows then. -/
def add14 (most : Int) (L : Rows14) (key : ByteArray) (id : Int) : ByteArray × List Int × Bool × Rows14 :=
  match aget L key with
  | some l => (ByteArray.empty, [], false, aset L key (wth l id))
  | none => if most ≤ L.length then (match L with
      | [] => (ByteArray.empty, [], false, [(key, [id])])
      | p :: r => (p.1, p.2, true, r ++ [(key, [id])])) else (ByteArray.empty, [], false, L ++ [(key, [id])])
theorem aset_out {κ ν : Type} [DecidableEq κ] {m : List (κ × ν)} {k : κ} (h : aget m k = none) (v : ν) : aset m k v = m ++ [(k, v)] := by
  induction m with
  | nil => rfl
  | cons p r ih =>
    simp only [aget] at h
    split at h
    · cases h
    · next hp => simp only [aset, if_neg hp, List.cons_append, ih h]
theorem aset_len {κ ν : Type} [DecidableEq κ] (m : List (κ × ν)) (k : κ) (v : ν) : (aset m k v).length ≤ m.length + 1 := by
  induction m with
  | nil => simp [aset]
  | cons p r ih =>
    unfold aset
    split
    · simp
    · simp only [List.length_cons]; omega
theorem upd_aset {ν : Type} (L : List (ByteArray × ν)) (k : ByteArray) (v : ν) : upd (aget L) k (some v) = aget (aset L k v) := by
  funext x
  rw [aget_aset]
  by_cases e : k = x
  · subst e; rw [upd_at, if_pos rfl]
  · rw [upd_ne _ _ (Ne.symm e), if_neg e]
theorem upd_adel {ν : Type} {L : List (ByteArray × ν)} (h : (akeys L).Nodup) (k : ByteArray) : upd (aget L) k none = aget (adel L k) := by
  funext x
  rw [aget_adel h]
  by_cases e : k = x
  · subst e; rw [upd_at, if_pos rfl]
  · rw [upd_ne _ _ (Ne.symm e), if_neg e]
theorem aget_mem {ν : Type} {L : List (ByteArray × ν)} {k : ByteArray} : k ∈ akeys L ↔ aget L k ≠ none := by
  constructor
  · intro hx e; exact (aget_none.1 e) hx
  · intro hx; exact Decidable.not_not.1 fun hh => hx (aget_none.2 hh)

theorem kat_of_add {w1 w' : World} {base kb rb rows reads : Nat} {most : Int} {F : Nat → Prop} {rv : ByteArray → Value} {iv : Int → Nat} {im : Int → List (ByteArray × Value)} {L : Rows14} {n : Nat} {key : ByteArray} {id : Int}
    (hD : ∀ id k, k ∈ akeys (im id) ↔ ∃ l, aget L k = some l ∧ id ∈ l) (hI : KInv L n) (t : AddTo w1 w' base kb rb rows reads most (akeys (aset L key (wth ((aget L key).getD []) id))) F rv (aget L) iv im key id) :
    ∃ E', KAt w' base kb most (aset L key (wth ((aget L key).getD []) id)) (n + 1) E' ∧ Upd (KFoot kb rows reads F rv (aget L) iv im) w1 w' ∧ FromF (KFoot kb rows reads F rv (aget L) iv im) E' w1 := by
  obtain ⟨R', rv', Q', iv', im', h, hm, u, f⟩ := t
  rw [upd_aset] at h f
  refine ⟨_, ⟨rb, rows, reads, F, R', rv', Q', iv', im', h, fun id' k => ?_, ⟨fun k l hk => ?_, Nat.le_trans (aset_len _ _ _) (by have := hI.len; omega)⟩, rfl⟩, u, f⟩
  · rw [hm, hD, aget_aset]
    by_cases e : key = k
    · subst e
      rw [if_pos rfl]
      constructor
      · rintro (⟨l, h1, h2⟩ | ⟨h1, _⟩)
        · exact ⟨_, rfl, wth_mem.2 (Or.inr (by rw [h1]; exact h2))⟩
        · exact ⟨_, rfl, wth_mem.2 (Or.inl h1)⟩
      · rintro ⟨l, h1, h2⟩
        cases h1
        rcases wth_mem.1 h2 with h2 | h2
        · exact Or.inr ⟨h2, rfl⟩
        · cases hk : aget L key with
          | none => rw [hk] at h2; simp at h2
          | some l => rw [hk] at h2; exact Or.inl ⟨l, rfl, h2⟩
    · rw [if_neg e]
      constructor
      · rintro (h1 | ⟨_, h1⟩)
        · exact h1
        · exact absurd h1.symm e
      · exact Or.inl
  · rw [aget_aset] at hk
    split at hk
    · cases hk
      have hb : Rising ((aget L key).getD []) ∧ ((aget L key).getD []).length ≤ n := by
        cases hk : aget L key with
        | none => exact ⟨List.Pairwise.nil, Nat.zero_le _⟩
        | some l => exact ⟨(hI.rise key l hk).1, (hI.rise key l hk).2.2⟩
      exact ⟨wth_rising hb.1 id, by unfold wth; simp, Nat.le_trans (wth_len _ _) (by omega)⟩
    · have := hI.rise k l hk
      exact ⟨this.1, this.2.1, by omega⟩

theorem wth_nil (x : Int) : wth [] x = [x] := rfl
theorem kadd_own (base kb : Nat) (most : Int) (L : Rows14) (n : Nat) (E : Nat → Prop) (key : ByteArray) (id : Int) (w : World) (h : KAt w base kb most L n E) (hn : n ≤ 90000) (hmost : 1 ≤ most) :
    Calls Tryz.prog 50 #[.pointer (some ⟨kb, 0, none⟩), .string key, .int .i64 id] w fun e w' => ∃ v, e = .returned (.tuple #[.string (add14 most L key id).1, v, .bool (add14 most L key id).2.2.1]) ∧ IntsAt w' base v (add14 most L key id).2.1 ∧
      ∃ E', KAt w' base kb most (add14 most L key id).2.2.2 (n + 1) E' ∧ Upd E w w' ∧ FromF E E' w ∧ (∀ b, v.ownBlock = some b → E b ∧ ¬ E' b) := by
  obtain ⟨rb, rows, reads, F, R, rv, Q, iv, im, h, hD, hI, rfl⟩ := h
  have hnd := h.recent.nodup
  have hkl : (akeys L).length = L.length := by simp [akeys]
  have hrn : ∀ k, Rising ((aget L k).getD []) ∧ ((aget L k).getD []).length ≤ n := fun k => by
    cases hk : aget L k with
    | none => exact ⟨List.Pairwise.nil, Nat.zero_le _⟩
    | some l => exact ⟨(hI.rise k l hk).1, (hI.rise k l hk).2.2⟩
  have nb : ∀ {E E' : Nat → Prop} (b : Nat), (Value.slice none 0 0).ownBlock = some b → E b ∧ ¬ E' b := fun b hb => by cases hb
  unfold add14
  cases hk : aget L key with
  | some l =>
    have hin : key ∈ akeys L := aget_mem.2 (by rw [hk]; simp)
    refine (addA_raw base kb rb rows reads most (akeys L) F R rv (aget L) Q iv im key id w h hin (hrn key).1 (by have := (hrn key).2; omega)).mono ?_
    rintro e w' ⟨rfl, t⟩
    have ek : akeys L = akeys (aset L key (wth ((aget L key).getD []) id)) := by rw [akeys_aset, if_pos hin]
    rw [ek] at t
    obtain ⟨E', h1, h2, h3⟩ := kat_of_add hD hI t
    rw [hk] at h1
    exact ⟨_, rfl, World.ownsRow_nil _ _ _ _, E', h1, h2, h3, nb⟩
  | none =>
    have hout : key ∉ akeys L := aget_none.1 hk
    simp only
    by_cases hm : most ≤ (L.length : Int)
    · rw [if_pos hm]
      match L, h, hD, hI, hnd, hkl, hrn, hk, hout, hm with
      | [], _, _, _, _, _, _, _, _, hm => simp at hm; omega
      | (k0, l0) :: r, h, hD, hI, hnd, hkl, hrn, hk, hout, hm =>
        have e0 : aget ((k0, l0) :: r) k0 = some l0 := by simp [aget]
        have hne : k0 ≠ key := fun e => hout (by simp [akeys, e])
        have er : adel ((k0, l0) :: r) k0 = r := by simp [adel]
        have hkr : aget r key = none := by simpa [aget, hne] using hk
        have hr0 := hrn k0
        rw [e0] at hr0
        refine (addB_raw base kb rb rows reads most (akeys ((k0, l0) :: r)) F R rv (aget ((k0, l0) :: r)) Q iv im key id w k0 (akeys r) h hout rfl (by rw [hkl]; exact hm) (by rw [hkl]; have := hI.len; omega) (hrn key).1 (by have := (hrn key).2; omega)
          (fun id hid => by rw [e0] at hid; exact (hD id k0).2 ⟨l0, e0, hid⟩) (by rw [e0]; exact nodup_of_rising hr0.1) (fun id => Nat.le_trans (im_len hD (fun id hid => (h.imap id hid).2) hI.len id) (by omega)) (by rw [e0]; have := hr0.2; simp at this ⊢; omega)).mono ?_
        rintro e w' ⟨rfl, w1, F1, R1, Q1, im1, h1, ⟨im3, im4⟩, hv, u1, f1, t⟩
        rw [upd_adel hnd, er] at h1 f1 t
        rw [e0] at hv
        have ekk : (akeys ((k0, l0) :: r)).erase k0 = akeys r := by simp [akeys]
        have hD1 : ∀ id k, k ∈ akeys (im1 id) ↔ ∃ l, aget r k = some l ∧ id ∈ l := fun id' k => by
          rw [im4, hD]
          have hx : aget r k = if k0 = k then none else aget ((k0, l0) :: r) k := by rw [← aget_adel hnd, er]
          rw [hx]
          by_cases e : k0 = k
          · subst e
            rw [if_pos rfl, e0]
            constructor
            · rintro ⟨⟨l, h1, h2⟩, h3⟩; cases h1; exact absurd ⟨rfl, h2⟩ h3
            · rintro ⟨l, h1, _⟩; cases h1
          · rw [if_neg e]
            constructor
            · rintro ⟨h1, _⟩; exact h1
            · intro h1; exact ⟨h1, fun h2 => e h2.1.symm⟩
        have hI1 : KInv r n := ⟨fun k l hk => hI.rise k l (by
          have hx : aget r k = if k0 = k then none else aget ((k0, l0) :: r) k := by rw [← aget_adel hnd, er]
          rw [hx] at hk
          split at hk
          · cases hk
          · exact hk), by have := hI.len; simp at this; omega⟩
        have ek : touched ((akeys ((k0, l0) :: r)).erase k0) key = akeys (aset r key (wth ((aget r key).getD []) id)) := by
          rw [ekk, akeys_aset, if_neg (aget_none.1 hkr)]
          unfold touched; rw [erase_none (aget_none.1 hkr)]
        rw [ek] at t
        obtain ⟨E', g1, g2, g3⟩ := kat_of_add hD1 hI1 t
        rw [hkr, Option.getD_none, wth_nil, aset_out hkr] at g1
        have own1 : ∀ b, (rowV rv (aget ((k0, l0) :: r)) k0).ownBlock = some b → ¬ KFoot kb rows reads F1 rv (aget r) iv im1 b ∧ b < w.heap.size := fun b hb => by
          obtain ⟨l', x1, x2⟩ := h.rowOwn hb
          have hlt := (ints_block (h.rrow k0 l' x1) x2).2.1
          refine ⟨?_, hlt⟩
          obtain ⟨_, _, cs, hc⟩ := ints_block hv hb
          rintro (g | g | g | g | ⟨k, l, hk, g⟩ | ⟨id, hid, g⟩)
          · have := h1.blk; unfold Blk at this; rw [← g, hc] at this; injection this with this; injection this with _ h2; exact absurd h2 (by decide)
          · exact h1.rmap.notCells hc g.symm
          · exact h1.qmap.notCells hc g.symm
          · exact h1.recent.apart hc (by decide) (by decide) g
          · have hx : aget r k = if k0 = k then none else aget ((k0, l0) :: r) k := by rw [← aget_adel hnd, er]
            rw [hx] at hk
            split at hk
            · cases hk
            · next e => exact h.rne k0 k l' l e x1 hk b x2 g
          · exact (h1.imap id hid).1.notCells hc g.symm
        refine ⟨_, rfl, hv.keep g2 (fun b hb => (own1 b hb).1), E', g1, f1.lift u1 g2, FromF.trans f1 g3 u1.size, fun b hb => ⟨?_, fun hE => ?_⟩⟩
        · obtain ⟨l', x1, x2⟩ := h.rowOwn hb
          exact Or.inr (Or.inr (Or.inr (Or.inr (Or.inl ⟨k0, l', x1, x2⟩))))
        obtain ⟨o1, o2⟩ := own1 b hb
        rcases g3 b hE with g | g
        · exact o1 g
        · have := u1.size; omega
    · rw [if_neg hm]
      refine (addC_raw base kb rb rows reads most (akeys L) F R rv (aget L) Q iv im key id w h hout (by rw [hkl]; omega) (by rw [hkl]; have := hI.len; omega) (hrn key).1 (by have := (hrn key).2; omega)).mono ?_
      rintro e w' ⟨rfl, w1, F1, h1, u1, f1, t⟩
      have ek : touched (akeys L) key = akeys (aset L key (wth ((aget L key).getD []) id)) := by
        rw [akeys_aset, if_neg hout]; unfold touched; rw [erase_none hout]
      rw [ek] at t
      obtain ⟨E', g1, g2, g3⟩ := kat_of_add hD hI t
      rw [hk, Option.getD_none, wth_nil, aset_out hk] at g1
      exact ⟨_, rfl, World.ownsRow_nil _ _ _ _, E', g1, f1.lift u1 g2, FromF.trans f1 g3 u1.size, nb⟩
theorem kadd_any (base kb : Nat) (most : Int) (L : Rows14) (n : Nat) (E : Nat → Prop) (key : ByteArray) (id : Int) (w : World) (h : KAt w base kb most L n E) (hn : n ≤ 90000) (hmost : 1 ≤ most) :
    Calls Tryz.prog 50 #[.pointer (some ⟨kb, 0, none⟩), .string key, .int .i64 id] w fun e w' => ∃ v, e = .returned (.tuple #[.string (add14 most L key id).1, v, .bool (add14 most L key id).2.2.1]) ∧ IntsAt w' base v (add14 most L key id).2.1 ∧
      ∃ E', KAt w' base kb most (add14 most L key id).2.2.2 (n + 1) E' ∧ Upd E w w' ∧ FromF E E' w ∧ (∀ b, v.ownBlock = some b → ¬ E' b) :=
  (kadd_own base kb most L n E key id w h hn hmost).mono fun e w' ⟨v, h1, h2, E', h3, h4, h5, h6⟩ => ⟨v, h1, h2, E', h3, h4, h5, fun b hb => (h6 b hb).2⟩
end Go.Proofs.YtmlojbfcmebboaaGreat
/- slices.Collect(maps.Keys(m)) of a map of texts. -/
set_option linter.unusedVariables false
set_option linter.unusedSimpArgs false
namespace Go.Proofs.YtmlojbfcmebboaaGreat
open Go.RowKit Go.Sort Go.Maps Go.WideElems Go.Proofs

def colRen : Go.Shelf.Ren := ⟨fun | 7 => 99 | 8 => 98 | 10 => 135 | 11 => 134 | n => n, fun | 0 => 0 | 3 => 3 | 4 => 4 | 23 => 51 | 24 => 30 | 26 => 9 | 27 => 162 | 28 => 163 | 33 => 155 | n => n, fun | n => n⟩
theorem colLay7 : SlLaysZ.n7 Tryz.prog colRen := {
  mixed := by kernel_rfl
  f7 := ⟨Tryz.f99.name, by decide, Tryz.func99.trans (congrArg some (by kernel_rfl))⟩
  f10 := ⟨Tryz.f135.name, by decide, Tryz.func135.trans (congrArg some (by kernel_rfl))⟩
  t0 := Tryz.underlying0, a0 := Tryz.isAgg0, z0 := Tryz.sizeOf0, v0 := Tryz.zeroValue0
  t4 := Tryz.underlying4, a4 := Tryz.isAgg4, z4 := Tryz.sizeOf4, v4 := Tryz.zeroValue4
  t23 := Tryz.underlying51, a23 := Tryz.isAgg51, z23 := Tryz.sizeOf51, v23 := Tryz.zeroValue51
  t26 := Tryz.underlying9, a26 := Tryz.isAgg9, z26 := Tryz.sizeOf9, v26 := Tryz.zeroValue9
  t27 := Tryz.underlying162, a27 := Tryz.isAgg162, z27 := Tryz.sizeOf162, v27 := Tryz.zeroValue162
  t28 := Tryz.underlying163, a28 := Tryz.isAgg163, z28 := Tryz.sizeOf163, v28 := Tryz.zeroValue163
  t33 := Tryz.underlying155, a33 := Tryz.isAgg155, z33 := Tryz.sizeOf155, v33 := Tryz.zeroValue155 }
theorem colLay8 : SlLaysZ.n8 Tryz.prog colRen := {
  mixed := by kernel_rfl
  f8 := ⟨Tryz.f98.name, by decide, Tryz.func98.trans (congrArg some (by kernel_rfl))⟩
  f11 := ⟨Tryz.f134.name, by decide, Tryz.func134.trans (congrArg some (by kernel_rfl))⟩
  t0 := Tryz.underlying0, a0 := Tryz.isAgg0, z0 := Tryz.sizeOf0, v0 := Tryz.zeroValue0
  t24 := Tryz.underlying30, a24 := Tryz.isAgg30, z24 := Tryz.sizeOf30, v24 := Tryz.zeroValue30
  t26 := Tryz.underlying9, a26 := Tryz.isAgg9, z26 := Tryz.sizeOf9, v26 := Tryz.zeroValue9
  t28 := Tryz.underlying163, a28 := Tryz.isAgg163, z28 := Tryz.sizeOf163, v28 := Tryz.zeroValue163
  i26 := by kernel_rfl }
theorem colLay10 : SlLaysZ.n10 Tryz.prog colRen := { colLay7 with }

/-- A map of the call's own, in the library's words. -/
theorem MapAt.owns {w : World} {b : Nat} {m : List (ByteArray × Value)} {P : Program} {K : TypeId} (h : MapAt strEnc w b m) (hK : P.underlying K = some .string) (hs : ∀ k ∈ akeys m, k.size ≤ maxLen) (hl : m.length ≤ maxLen) :
    ∃ D0 : DataW Unit, w.ownsMap P K (fun _ => some (.nil, [])) b m.length D0 ∧ (strKeys D0).Perm ((akeys m).map fun k => k.data.toList) ∧ Maps.size D0 ≤ m.length := by
  obtain ⟨es, clock, hb, he, hst⟩ := h
  have hsz : es.size = m.length := by have := congrArg List.length he; simpa using this
  have hkeys : es.toList.map (·.key) = (akeys m).map strEnc := by
    have := congrArg (List.map Prod.fst) he
    simpa [akeys, List.map_map, Function.comp_def] using this
  have hrd : ∀ x ∈ es.toList, ∃ k ∈ akeys m, x.key = strEnc k := fun x hx => by
    have : x.key ∈ es.toList.map (·.key) := List.mem_map.2 ⟨x, hx, rfl⟩
    rw [hkeys] at this
    obtain ⟨k, hk, e⟩ := List.mem_map.1 this
    exact ⟨k, hk, e.symm⟩
  have hrg : ∀ x ∈ es.toList, ∀ k ∈ akeys m, x.key = strEnc k → WideElems.rd P K (fun _ => some ((.nil : DataW Unit), [])) x = some (.string k.data.toList, .nil) := fun x _ k hk e => by
    unfold WideElems.rd
    rw [e, show strEnc k = .string k from rfl, WideMaps.keyOf_string_mk hK (hs k hk)]; rfl
  have F : Fit P K (fun _ => some ((.nil : DataW Unit), [])) es clock := ⟨by omega, hst, fun x hx => by
    obtain ⟨k, hk, e⟩ := hrd x hx
    exact ⟨_, hrg x hx k hk e⟩⟩
  have hl2 : (es.toList.map (rg P K (fun _ => some ((.nil : DataW Unit), [])))).map (fun p => strOf p.1) = (akeys m).map fun k => k.data.toList := by
    have e1 : ∀ x ∈ es.toList, strOf (rg P K (fun _ => some ((.nil : DataW Unit), [])) x).1 = (match x.key with | .string s => s.data.toList | _ => []) := fun x hx => by
      obtain ⟨k, hk, e⟩ := hrd x hx
      unfold rg
      rw [hrg x hx k hk e, e]; rfl
    rw [List.map_map, show (es.toList.map ((fun p : Lit × DataW Unit => strOf p.1) ∘ rg P K (fun _ => some ((.nil : DataW Unit), [])))) = es.toList.map (fun x => match x.key with | .string s => s.data.toList | _ => []) from List.map_congr_left e1]
    have e2 : es.toList.map (fun x => match x.key with | .string s => s.data.toList | _ => []) = (es.toList.map (·.key)).map (fun v => match v with | .string s => s.data.toList | _ => []) := by rw [List.map_map]; rfl
    rw [e2, hkeys, List.map_map]; rfl
  refine ⟨.map ((es.toList.map (rg P K (fun _ => some ((.nil : DataW Unit), [])))).foldr DataW.insert []), ⟨es, clock, hb, F, by omega, rfl⟩, ?_, ?_⟩
  · show (((es.toList.map (rg P K (fun _ => some ((.nil : DataW Unit), [])))).foldr DataW.insert []).map fun p => strOf p.1).Perm _
    rw [← hl2]
    exact (WideShapes.sorted_perm _).map _
  · show ((es.toList.map (rg P K (fun _ => some ((.nil : DataW Unit), [])))).foldr DataW.insert []).length ≤ _
    rw [DataW.length_sorted]; simp; omega

theorem keysf_any (mb : Option Nat) (w : World) : Calls Tryz.prog 99 #[.map mb] w fun e w' => e = .returned (.func (.func 135) #[] #[.pointer (some ⟨w.heap.size, 0, none⟩)]) ∧ w' = w.alloc (.cells #[.map mb] 51) :=
  callsIn_wide.1 (AnyZ.keys_in colLay7 Fence.wide 5 trivial rfl mb w)
theorem ofBytes_map (l : List (List UInt8)) : (l.map encStr) = (l.map fun s => (⟨s.toArray⟩ : ByteArray)).map Value.string := by rw [List.map_map]; rfl
/-- The keys of a map, each once, in some order, in a slice of the call's own. -/
theorem collect_any (o : Option Nat) (m : List (ByteArray × Value)) (Bm : Nat) (w : World) (hB : Bm < w.heap.size) (hc : w.cell? ⟨Bm, 0, none⟩ = some (.map o)) (h : (o = none ∧ m = []) ∨ ∃ b, o = some b ∧ MapAt strEnc w b m) (hs : ∀ k ∈ akeys m, k.size ≤ maxLen) (hl : m.length ≤ 100000) :
    Calls Tryz.prog 98 #[.func (.func 135) #[] #[.pointer (some ⟨Bm, 0, none⟩)]] w fun e w' => ∃ v ks, e = .returned v ∧ ks.Perm (akeys m) ∧ StrsAt w' w.heap.size v ks ∧ Upd (fun _ => False) w w' := by
  have eg : ∀ args w, (callFunc 135 args).run Tryz.prog w = .ok (.enter 135 args) w := enters_of Tryz.func135 (by kernel_rfl) rfl
  have fin : ∀ (ss : List (List UInt8)), ss.Perm ((akeys m).map fun k => k.data.toList) → (ss.map fun s => (⟨s.toArray⟩ : ByteArray)).Perm (akeys m) := fun ss hp => by
    have := hp.map (fun s => (⟨s.toArray⟩ : ByteArray))
    rw [List.map_map] at this
    refine this.trans (List.Perm.of_eq ?_)
    conv => rhs; rw [← List.map_id (akeys m)]
    exact List.map_congr_left fun k _ => by cases k; rfl
  rcases h with ⟨rfl, rfl⟩ | ⟨b, rfl, hM⟩
  · refine (callsIn_wide.1 (AnyZ.collect_in colLay8 Fence.wide 5 trivial trivial rfl (by omega) 135 #[.pointer (some ⟨Bm, 0, none⟩)] trivial eg (fun ss => ss = []) 0 (Nat.zero_le _) (by omega) w (AnyZ.keys_gives_nil colLay10 Fence.wide _ trivial rfl Bm w hB hc))).mono ?_
    rintro e w' ⟨v, ss, rfl, rfl, hrow, _, hb⟩
    refine ⟨v, [], rfl, List.Perm.refl _, ?_, (Upd.of_below hb).weaken fun i hi h2 => by omega⟩
    exact hrow
  · obtain ⟨D0, hown, hp, hsz⟩ := hM.owns (P := Tryz.prog) (K := 9) Tryz.underlying9 hs (by unfold maxLen; omega)
    refine (callsIn_wide.1 (AnyZ.collect_in colLay8 Fence.wide 5 trivial trivial rfl (by omega) 135 #[.pointer (some ⟨Bm, 0, none⟩)] trivial eg (fun ss => ss.Perm (strKeys D0)) (Maps.size D0) (by unfold maxLen; omega) (by omega) w (AnyZ.keys_gives colLay10 Fence.wide _ trivial rfl (by omega) Bm b m.length D0 w hB hc hown))).mono ?_
    rintro e w' ⟨v, ss, rfl, hS, hrow, _, hb⟩
    refine ⟨v, _, rfl, fin ss (hS.trans hp), ?_, (Upd.of_below hb).weaken fun i hi h2 => by omega⟩
    unfold StrsAt
    rw [← ofBytes_map]
    rw [List.length_map]; exact hrow
end Go.Proofs.YtmlojbfcmebboaaGreat
