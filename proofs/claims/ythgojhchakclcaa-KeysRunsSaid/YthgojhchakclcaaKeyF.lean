/- Walk: a client has read a key that had no row. -/
import Derived.Test.YthgojhchakclcaaKeyE
set_option linter.unusedVariables false
set_option linter.unusedSimpArgs false
namespace Go.Proofs.Ythgojhchakclcaa
open Go.RowKit

theorem foot_recent {kb rows reads : Nat} {F F' : Nat → Prop} {rv : ByteArray → Value} {ri : ByteArray → Option (List Int)} {iv : Int → Nat} {im : Int → List (ByteArray × Value)} {w w0 : World} (h : FromF F F' w) (hs : w0.heap.size ≤ w.heap.size) : FromF (KFoot kb rows reads F rv ri iv im) (KFoot kb rows reads F' rv ri iv im) w0 := by
  rintro b (e | e | e | e | e | e)
  · exact Or.inl (Or.inl e)
  · exact Or.inl (Or.inr (Or.inl e))
  · exact Or.inl (Or.inr (Or.inr (Or.inl e)))
  · rcases h b e with g | g
    · exact Or.inl (Or.inr (Or.inr (Or.inr (Or.inl g))))
    · exact Or.inr (Nat.le_trans hs g)
  · exact Or.inl (Or.inr (Or.inr (Or.inr (Or.inr (Or.inl e)))))
  · exact Or.inl (Or.inr (Or.inr (Or.inr (Or.inr (Or.inr e)))))

set_option maxHeartbeats 4000000 in
theorem addC_raw (base kb rb rows reads : Nat) (most : Int) (ks : List ByteArray) (F : Nat → Prop) (R : List (ByteArray × Value)) (rv : ByteArray → Value) (ri : ByteArray → Option (List Int)) (Q : List (Int × Value)) (iv : Int → Nat) (im : Int → List (ByteArray × Value))
    (key : ByteArray) (id : Int) (w : World) (h : KRaw w base kb rb rows reads most ks F R rv ri Q iv im) (hks : key ∉ ks) (hm : (ks.length : Int) < most) (hkl : ks.length ≤ 100000) (hr : Rising ((ri key).getD [])) (hl : ((ri key).getD []).length ≤ 100000) :
    Calls Try.prog 8 #[.pointer (some ⟨kb, 0, none⟩), .string key, .int .i64 id] w fun e w' => e = .returned (.tuple #[.string ByteArray.empty, .slice none 0 0, .bool false]) ∧
      ∃ w1 F1, KRaw w1 base kb rb rows reads most (touched ks key) F1 R rv ri Q iv im ∧ Upd (KFoot kb rows reads F rv ri iv im) w w1 ∧ FromF (KFoot kb rows reads F rv ri iv im) (KFoot kb rows reads F1 rv ri iv im) w ∧ AddTo w1 w' base kb rb rows reads most (touched ks key) F1 rv ri iv im key id := by
  have c0 : w.cell? ⟨kb, 0, none⟩ = some (.pointer (some ⟨rb, 0, none⟩)) := h.blk.cellAt rfl
  have c3 : w.cell? ⟨kb, 3, none⟩ = some (.int .i64 most) := h.blk.cellAt rfl
  have HA := has_any rb ks F key w h.recent
  rw [decide_eq_false hks] at HA
  have HA := Lib.hid HA
  have LN := Lib.hid (fun (v : World) (u : Upd (fun _ => False) w v) => rlen_any rb ks F v (h.recent.keep u (fun _ _ hh => hh)) (by omega))
  have hmb : decide (most ≤ (ks.length : Int)) = false := by simp; omega
  have TC := Lib.hid (fun (v : World) (u : Upd (fun _ => False) w v) => touch_any rb ks F key v (h.recent.keep u (fun _ _ hh => hh)))
  have HH := Lib.hid h
  clear h
  go_enter Try.func8, Try.ntmps8
  go_wp2_with fail
  refine (HA.out).mono ?_
  rintro e w1 ⟨rfl, rfl⟩
  go_wp2
  go_quiet ((go_at_call 9; exact Calls.quiet_of_same (LN.out _ (by first | exact Upd.refl _ _ | exact (Upd.refl _ _).drewN _))))
  go_wp2_with fail
  refine (TC.out _ ((Upd.refl _ _).drewN nq)).mono ?_
  rintro e wC ⟨rfl, t⟩
  obtain ⟨F1, h, f1, u1⟩ := (HH.out.keep (E := fun _ => False) ((Upd.refl _ _).drewN nq) (fun _ _ hh => hh)).recentTo t
  have UW := Lib.hid ((((Upd.refl (fun _ => False) w1).drewN nq).weaken (F := KFoot kb rows reads F rv ri iv im) (fun _ _ hh => hh.elim)).trans u1 (fun i _ e => Or.inr (Or.inr (Or.inr (Or.inl e)))))
  have FF := Lib.hid (foot_recent (kb := kb) (rows := rows) (reads := reads) (rv := rv) (ri := ri) (iv := iv) (im := im) f1 (Nat.le_refl w1.heap.size))
  clear t u1 f1 c0 c3 hmb LN TC HA
  have hd : KRaw wC.drew base kb rb rows reads most (touched ks key) F1 R rv ri Q iv im := h.keep (E := fun _ => False) ((Upd.refl _ wC).drew) (fun _ _ hh => hh)
  have lk := hd.rowLook key
  have hra := hd.rowAt key
  obtain ⟨p, c, ev, _⟩ := own_slice hra
  rw [ev] at lk
  have W := Lib.hid (with_any base (rowV rv ri key) _ id wC.drew hra hr hd.bl (by omega))
  have H := Lib.hid h
  have HD := Lib.hid hd
  have HV := Lib.hid ev
  rw [ev] at W
  have PUT := Lib.hid (fun (w2 : World) (v2 : Value) (u2 : Upd (fun k => (Value.slice p ((ri key).getD []).length c).ownBlock = some k) wC.drew w2) => (hd.rmap.keep u2 (fun e => by
    obtain ⟨l', h1, h2⟩ := hd.rowOwn (by rw [ev]; exact e); exact (hd.rowF h1 h2).2.2.1 rfl)).put keyS Try.underlying35 key v2)
  have KB3 := Lib.hid (fun (w2 w3 : World) (u2 : Upd (fun k => (Value.slice p ((ri key).getD []).length c).ownBlock = some k) wC.drew w2) (u3 : Upd (fun b => b = rows) w2 w3) => (u3.blk (u2.blk hd.blk (fun e => by
    obtain ⟨l', h1, h2⟩ := hd.rowOwn (by rw [ev]; exact e); exact (hd.rowF h1 h2).2.1 rfl)) hd.kbm.1).cellAt (i := 1) rfl)
  have KB := Lib.hid (fun (w2 : World) (u2 : Upd (fun k => (Value.slice p ((ri key).getD []).length c).ownBlock = some k) wC.drew w2) => (u2.blk hd.blk (fun e => by
    obtain ⟨l', h1, h2⟩ := hd.rowOwn (by rw [ev]; exact e); exact (hd.rowF h1 h2).2.1 rfl)).cellAt (i := 1) rfl)
  have c1 : wC.cell? ⟨kb, 1, none⟩ = some (.map (some rows)) := h.blk.cellAt rfl
  clear h hra ev hd
  go_wp2
  go_region_held3 (fun w' => w'.cell? ⟨kb, 1, none⟩ = some (.map (some rows))) (go_keep)
    (first | (go_at_call 27; refine W.out.mono ?_; rintro e w2 ⟨v2, rfl, i2, u2, o2⟩; (have y1 := KB.out w2 u2); (obtain ⟨w3, de, m3, u3⟩ := PUT.out w2 v2 u2); (have y2 := KB3.out w2 w3 u2 u3); (unfold strEnc at de); (have I2 := Lib.hid i2); (have U2 := Lib.hid u2); (have O2 := Lib.hid o2); (have M3 := Lib.hid m3); (have U3 := Lib.hid u3); clear i2 u2 o2 m3 u3))
  have h3 : KRaw w3 base kb rb rows reads most (touched ks key) F1 (aset R key v2) (upd rv key v2) (upd ri key (some (wth ((ri key).getD []) id))) Q iv im :=
    HD.out.rowPut (w1 := w2) (U2.out.weaken (fun i _ e => HD.out.rowOwn (by rw [HV.out]; exact e))) I2.out (fun b hb => by
      rcases O2.out b hb with g | g
      · exact Or.inl (HD.out.rowOwn (by rw [HV.out]; exact g))
      · exact Or.inr g) M3.out U3.out
  have d2 : w3.cell? ⟨kb, 2, none⟩ = some (.map (some reads)) := h3.blk.cellAt rfl
  have lq := h3.qmap.look keyI Try.underlying36 (zeroM w3) id false
  rw [h3.qget] at lq
  unfold intEnc at lq
  have H3 := Lib.hid h3
  clear c1 y1 y2 de h3
  by_cases hz : im id = []
  · rw [if_pos hz] at lq
    simp only [Bool.false_eq_true, if_false, Option.getD_none] at lq
    have mk := run_makeMap (P := Try.prog) 62 w3
    have qn := run_eql_map_nil (P := Try.prog) w3 62 _ _ none Try.underlying62
    simp only [Option.isNone_none] at qn
    have ua : Upd (fun _ => False) w3 (w3.alloc (.map #[] 0)) := (Upd.refl _ _).alloc _
    have ql := H3.out.qmap.lt
    obtain ⟨w4, de1, q4, u4⟩ := (H3.out.qmap.keep ua (fun hh => hh)).put keyI Try.underlying36 id (.map (some w3.heap.size))
    have lq4 := q4.look keyI Try.underlying36 (zeroM w4) id false
    rw [aget_aset, if_pos rfl] at lq4
    simp only [Bool.false_eq_true, if_false, Option.getD_some] at lq4
    have m4 : MapAt strEnc w4 w3.heap.size [] := (MapAt.made w3).keep u4 (fun e => by have : w3.heap.size = reads := e; omega)
    have lm4 := m4.look keyS Try.underlying62 (zeroN w4) key false
    simp only [aget, Bool.false_eq_true, if_false, Option.getD_none] at lm4
    obtain ⟨w5, de2, m5, u5⟩ := m4.put keyS Try.underlying62 key (.int .i64 1)
    have c4 : w4.cell? ⟨kb, 2, none⟩ = some (.map (some reads)) := ((H3.out.blk.alloc _).keep2 u4 H3.out.kbm.2.1).cellAt rfl
    have U5 := Lib.hid (((ua.weaken (F := fun b => b = reads) (fun _ _ h => h.elim)).trans u4 (fun _ _ h => h)).trans u5 (fun i hi e => by have : i = w3.heap.size := e; omega))
    have H5 := Lib.hid (H3.out.innerNew (w' := w5) (id := id) (b := w3.heap.size) (m := aset [] key (.int .i64 1)) hz (Nat.le_refl _) (by simp [aset]) m5 (by simp [aset, akeys]) (fun k v hk => by
      simp only [aset, aget] at hk
      split at hk
      · cases hk; exact ⟨1, rfl⟩
      · cases hk) (q4.keep u5 (fun e => by have : reads = w3.heap.size := e; omega)) U5.out)
    unfold intEnc at de1 lq4
    unfold strEnc at de2 lm4
    have HZ := Lib.hid hz
    clear hz q4 u4 m4 m5 u5 ua ql
    go_wp2
    go_ret3
    refine ⟨rfl, _, _, H.out, UW.out, FF.out, AddTo.of H.out (U2.out.weaken (fun i _ e => by rw [HV.out]; exact e)) (by rw [HV.out]; exact O2.out) U3.out H5.out (U5.out.weaken (fun i _ e => Or.inl e)) (fun id' k => ?_) (fun id' hid => ?_)⟩
    · by_cases e : id' = id
      · subst e; rw [upd_at, mem_aset, HZ.out]; simp [akeys]
      · rw [upd_ne _ _ e]; simp [e]
    · by_cases e : id' = id
      · subst e; rw [upd_at]; right
        have := U2.out.size; have := U3.out.size; simp at *; omega
      · rw [upd_ne _ _ e] at hid ⊢; exact Or.inl ⟨hid, rfl⟩
  · rw [if_neg hz] at lq
    simp only [Bool.false_eq_true, if_false, Option.getD_some] at lq
    have qn := run_eql_map_nil (P := Try.prog) w3 62 _ _ (some (iv id)) Try.underlying62
    simp only [Option.isNone_some] at qn
    have hm := H3.out.imap id hz
    have lm := hm.1.look keyS Try.underlying62 (zeroN w3) key false
    simp only [Bool.false_eq_true, if_false] at lm
    obtain ⟨c5, hc5⟩ : ∃ c5, (aget (im id) key).getD (.int .i64 0) = .int .i64 c5 := by
      cases hk : aget (im id) key with
      | none => exact ⟨0, rfl⟩
      | some v => obtain ⟨c, hc⟩ := H3.out.iint id key v hk; exact ⟨c, hc⟩
    rw [hc5] at lm
    obtain ⟨w5, de2, m5, u5⟩ := hm.1.put keyS Try.underlying62 key (.int .i64 (wrap64 (c5 + 1)))
    have U5 := Lib.hid u5
    have H5 := Lib.hid (H3.out.innerPut (w' := w5) (id := id) (m := aset (im id) key (.int .i64 (wrap64 (c5 + 1)))) hz (fun e => by have := congrArg akeys e; rw [akeys_aset] at this; split at this <;> simp_all [akeys]) m5 (nodup_aset hm.2 key _) (fun k v hk => by
      rw [aget_aset] at hk
      split at hk
      · cases hk; exact ⟨_, rfl⟩
      · exact H3.out.iint id k v hk) u5)
    unfold strEnc at lm de2
    have HZ := Lib.hid hz
    clear hz hc5 hm m5 u5
    go_wp2
    go_ret3
    refine ⟨rfl, _, _, H.out, UW.out, FF.out, AddTo.of H.out (U2.out.weaken (fun i _ e => by rw [HV.out]; exact e)) (by rw [HV.out]; exact O2.out) U3.out H5.out (U5.out.weaken (fun i _ e => Or.inr ⟨HZ.out, e⟩)) (fun id' k => ?_) (fun id' hid => ?_)⟩
    · by_cases e : id' = id
      · subst e; rw [upd_at, mem_aset]; simp
      · rw [upd_ne _ _ e]; simp [e]
    · left
      by_cases e : id' = id
      · subst e; exact ⟨HZ.out, rfl⟩
      · rw [upd_ne _ _ e] at hid; exact ⟨hid, rfl⟩

theorem foot_less {kb rows reads : Nat} {F : Nat → Prop} {rv : ByteArray → Value} {ri : ByteArray → Option (List Int)} {iv : Int → Nat} {im im' : Int → List (ByteArray × Value)} {k0 : ByteArray} (hx : ∀ id, (im' id).length ≤ (im id).length) (b : Nat) (h : KFoot kb rows reads F rv (upd ri k0 none) iv im' b) : KFoot kb rows reads F rv ri iv im b := by
  rcases h with e | e | e | e | ⟨k, l, hk, hb⟩ | ⟨id, hid, e⟩
  · exact Or.inl e
  · exact Or.inr (Or.inl e)
  · exact Or.inr (Or.inr (Or.inl e))
  · exact Or.inr (Or.inr (Or.inr (Or.inl e)))
  · by_cases e : k = k0
    · subst e; rw [upd_at] at hk; cases hk
    · rw [upd_ne _ _ e] at hk
      exact Or.inr (Or.inr (Or.inr (Or.inr (Or.inl ⟨k, l, hk, hb⟩))))
  · exact Or.inr (Or.inr (Or.inr (Or.inr (Or.inr ⟨id, fun h => hid (by have := hx id; rw [h] at this; exact List.length_eq_zero_iff.1 (by simpa using this)), e⟩))))

set_option maxHeartbeats 4000000 in
theorem addB_raw (base kb rb rows reads : Nat) (most : Int) (ks : List ByteArray) (F : Nat → Prop) (R : List (ByteArray × Value)) (rv : ByteArray → Value) (ri : ByteArray → Option (List Int)) (Q : List (Int × Value)) (iv : Int → Nat) (im : Int → List (ByteArray × Value))
    (key : ByteArray) (id : Int) (w : World) (k0 : ByteArray) (kr : List ByteArray) (h : KRaw w base kb rb rows reads most ks F R rv ri Q iv im) (hks : key ∉ ks) (hk0 : ks = k0 :: kr) (hm : most ≤ (ks.length : Int)) (hkl : ks.length ≤ 100000) (hr : Rising ((ri key).getD [])) (hl : ((ri key).getD []).length ≤ 100000)
    (hD : ∀ id ∈ (ri k0).getD [], k0 ∈ akeys (im id)) (hnd : ((ri k0).getD []).Nodup) (hil : ∀ id, (im id).length ≤ 100000) (hrl : ((ri k0).getD []).length ≤ 100000) :
    Calls Try.prog 8 #[.pointer (some ⟨kb, 0, none⟩), .string key, .int .i64 id] w fun e w' => e = .returned (.tuple #[.string k0, rowV rv ri k0, .bool true]) ∧
      ∃ w1 F1 R1 Q1 im1, KRaw w1 base kb rb rows reads most (touched (ks.erase k0) key) F1 R1 rv (upd ri k0 none) Q1 iv im1 ∧ ((∀ id, (im1 id).length ≤ (im id).length) ∧ ∀ id k, k ∈ akeys (im1 id) ↔ k ∈ akeys (im id) ∧ ¬ (k = k0 ∧ id ∈ (ri k0).getD [])) ∧
        IntsAt w1 base (rowV rv ri k0) ((ri k0).getD []) ∧ Upd (KFoot kb rows reads F rv ri iv im) w w1 ∧ FromF (KFoot kb rows reads F rv ri iv im) (KFoot kb rows reads F1 rv (upd ri k0 none) iv im1) w ∧
        AddTo w1 w' base kb rb rows reads most (touched (ks.erase k0) key) F1 rv (upd ri k0 none) iv im1 key id := by
  have c0 : w.cell? ⟨kb, 0, none⟩ = some (.pointer (some ⟨rb, 0, none⟩)) := h.blk.cellAt rfl
  have c3 : w.cell? ⟨kb, 3, none⟩ = some (.int .i64 most) := h.blk.cellAt rfl
  have HA := has_any rb ks F key w h.recent
  rw [decide_eq_false hks] at HA
  have HA := Lib.hid HA
  have LN := Lib.hid (fun (v : World) (u : Upd (fun _ => False) w v) => rlen_any rb ks F v (h.recent.keep u (fun _ _ hh => hh)) (by omega))
  have hmb : decide (most ≤ (ks.length : Int)) = true := by simp; omega
  have hne : key ≠ k0 := fun e => hks (by rw [e, hk0]; simp)
  have OL := Lib.hid (fun (v : World) (u : Upd (fun _ => False) w v) => (by
    have := oldest_any rb ks F key v (h.recent.keep u (fun _ _ hh => hh))
    rw [show oldest key ks = (k0, true) by rw [hk0]; simp [oldest, Ne.symm hne]] at this
    exact this : Calls Try.prog 25 #[.pointer (some ⟨rb, 0, none⟩), .string key] v fun e w' => e = .returned (.tuple #[.string k0, .bool true]) ∧ ∃ n, w' = v.drewN n))
  obtain ⟨p0, q0, ev0, _⟩ := own_slice (h.rowAt k0)
  have TK := Lib.hid (fun (v : World) (u : Upd (fun _ => False) w v) => (by
    have := take_raw base kb rb rows reads most ks F R rv ri Q iv im k0 v (h.keep u (fun _ _ hh => hh)) hD hnd hil hrl
    rw [ev0] at this; exact this))
  have HH := Lib.hid h
  have HR := Lib.hid (And.intro hr hl)
  have HK0 := Lib.hid hk0
  have EV0 := Lib.hid ev0
  rw [ev0]
  clear h hD hnd hr hl ev0 hk0
  go_enter Try.func8, Try.ntmps8
  go_wp2_with fail
  refine (HA.out).mono ?_
  rintro e w1 ⟨rfl, rfl⟩
  go_wp2
  go_quiet ((go_at_call 9; exact Calls.quiet_of_same (LN.out _ (by first | exact Upd.refl _ _ | exact (Upd.refl _ _).drewN _))))
  have c5 : (w1.drewN nq).cell? ⟨kb, 0, none⟩ = some (.pointer (some ⟨rb, 0, none⟩)) := c0
  go_wp2_with fail
  refine (OL.out _ ((Upd.refl _ _).drewN nq)).mono ?_
  rintro e w2 ⟨rfl, n2, rfl⟩
  have UU : Upd (fun _ => False) w1 ((w1.drewN nq).drewN n2) := ((Upd.refl _ _).drewN nq).drewN n2
  have UU := Lib.hid UU
  rw [World.drewN_drewN] at UU
  go_wp2_with fail
  refine (TK.out _ UU.out).mono ?_
  rintro e w3 ⟨rfl, hv3, ⟨F', Q2, im2, h3, f3, il3, im3⟩, u3⟩
  have d0 : w3.cell? ⟨kb, 0, none⟩ = some (.pointer (some ⟨rb, 0, none⟩)) := h3.blk.cellAt rfl
  have TC := Lib.hid (touch_any rb _ F' key w3 h3.recent)
  have H3 := Lib.hid h3
  have V3 := Lib.hid hv3
  have F3 := Lib.hid f3
  have IM := Lib.hid (And.intro il3 im3)
  have U3 := Lib.hid u3
  clear h3 hv3 f3 il3 im3 u3 c0 c3 c5 hmb LN OL TK HA
  go_wp2_with fail
  refine (TC.out).mono ?_
  rintro e wT ⟨rfl, t4⟩
  obtain ⟨F2, h4, f4, u4⟩ := H3.out.recentTo t4
  have hs3 := Nat.le_trans UU.out.size U3.out.size
  have hF2 : FromF F F2 w1 := FromF.trans (w1 := w3) (fun k hk => F3.out k hk) f4 hs3
  have UW : Hid (Upd (KFoot kb rows reads F rv ri iv im) w1 wT) := ((UU.out.weaken (F := KFoot kb rows reads F rv ri iv im) (fun _ _ hh => hh.elim)).trans U3.out (fun i _ e => by
    rcases e with e | e | e | ⟨id, hid, e⟩
    · exact Or.inr (Or.inr (Or.inr (Or.inl e)))
    · exact Or.inr (Or.inl e)
    · exact Or.inr (Or.inr (Or.inl e))
    · exact Or.inr (Or.inr (Or.inr (Or.inr (Or.inr ⟨id, hid, e⟩)))))).trans u4 (fun i hi e => by
    rcases F3.out i e with g | g
    · exact Or.inr (Or.inr (Or.inr (Or.inl g)))
    · have : w1.heap.size ≤ i := g; omega)
  have FF : Hid (FromF (KFoot kb rows reads F rv ri iv im) (KFoot kb rows reads F2 rv (upd ri k0 none) iv im2) w1) := fun b hb => by
    rcases foot_recent (kb := kb) (rows := rows) (reads := reads) (rv := rv) (ri := upd ri k0 none) (iv := iv) (im := im2) hF2 (Nat.le_refl _) b hb with g | g
    · exact Or.inl (foot_less IM.out.1 b g)
    · exact Or.inr g
  have VG : Hid (IntsAt wT base (Value.slice p0 ((ri k0).getD []).length q0) ((ri k0).getD [])) := V3.out.keep u4 (fun b hb e => by
    obtain ⟨l', h1, h2⟩ := HH.out.rowOwn (k := k0) (by rw [EV0.out]; exact hb)
    rcases F3.out b e with g | g
    · exact (HH.out.rowF h1 h2).1 g
    · have := (ints_block (HH.out.rrow k0 l' h1) h2).2.1
      have : w1.heap.size ≤ b := g; omega)
  obtain ⟨ks2, eks⟩ : ∃ x, touched (ks.erase k0) key = x := ⟨_, rfl⟩
  obtain ⟨ri2, eri⟩ : ∃ x, upd ri k0 none = x := ⟨_, rfl⟩
  have hr2 : Rising ((ri2 key).getD []) := by rw [← eri, upd_ne _ _ hne]; exact HR.out.1
  have hl2 : ((ri2 key).getD []).length ≤ 100000 := by rw [← eri, upd_ne _ _ hne]; exact HR.out.2
  have h : KRaw wT base kb rb rows reads most ks2 F2 (adel R k0) rv ri2 Q2 iv im2 := by rw [← eks, ← eri]; exact h4
  have HKS := Lib.hid eks
  have HRI := Lib.hid eri
  obtain ⟨R2, eR⟩ : ∃ x, adel R k0 = x := ⟨_, rfl⟩
  rw [eR] at h
  clear t4 h4 f4 u4 hF2 eks eri eR hs3 TC d0
  have hd : KRaw wT.drew base kb rb rows reads most ks2 F2 R2 rv ri2 Q2 iv im2 := h.keep (E := fun _ => False) ((Upd.refl _ wT).drew) (fun _ _ hh => hh)
  have lk := hd.rowLook key
  have hra := hd.rowAt key
  obtain ⟨p, c, ev, _⟩ := own_slice hra
  rw [ev] at lk
  have W := Lib.hid (with_any base (rowV rv ri2 key) _ id wT.drew hra hr2 hd.bl (by omega))
  have H := Lib.hid h
  have HD := Lib.hid hd
  have HV := Lib.hid ev
  rw [ev] at W
  have PUT := Lib.hid (fun (w2 : World) (v2 : Value) (u2 : Upd (fun k => (Value.slice p ((ri2 key).getD []).length c).ownBlock = some k) wT.drew w2) => (hd.rmap.keep u2 (fun e => by
    obtain ⟨l', h1, h2⟩ := hd.rowOwn (by rw [ev]; exact e); exact (hd.rowF h1 h2).2.2.1 rfl)).put keyS Try.underlying35 key v2)
  have KB3 := Lib.hid (fun (w2 w3 : World) (u2 : Upd (fun k => (Value.slice p ((ri2 key).getD []).length c).ownBlock = some k) wT.drew w2) (u3 : Upd (fun b => b = rows) w2 w3) => (u3.blk (u2.blk hd.blk (fun e => by
    obtain ⟨l', h1, h2⟩ := hd.rowOwn (by rw [ev]; exact e); exact (hd.rowF h1 h2).2.1 rfl)) hd.kbm.1).cellAt (i := 1) rfl)
  have KB := Lib.hid (fun (w2 : World) (u2 : Upd (fun k => (Value.slice p ((ri2 key).getD []).length c).ownBlock = some k) wT.drew w2) => (u2.blk hd.blk (fun e => by
    obtain ⟨l', h1, h2⟩ := hd.rowOwn (by rw [ev]; exact e); exact (hd.rowF h1 h2).2.1 rfl)).cellAt (i := 1) rfl)
  have c1 : wT.cell? ⟨kb, 1, none⟩ = some (.map (some rows)) := h.blk.cellAt rfl
  clear h hra ev hd
  go_wp2
  go_region_held3 (fun w' => w'.cell? ⟨kb, 1, none⟩ = some (.map (some rows))) (go_keep)
    (first | (go_at_call 27; refine W.out.mono ?_; rintro e w2 ⟨v2, rfl, i2, u2, o2⟩; (have y1 := KB.out w2 u2); (obtain ⟨w3, de, m3, u3⟩ := PUT.out w2 v2 u2); (have y2 := KB3.out w2 w3 u2 u3); (unfold strEnc at de); (have I2 := Lib.hid i2); (have U2 := Lib.hid u2); (have O2 := Lib.hid o2); (have M3 := Lib.hid m3); (have U3 := Lib.hid u3); clear i2 u2 o2 m3 u3))
  have h3 : KRaw w3 base kb rb rows reads most ks2 F2 (aset R2 key v2) (upd rv key v2) (upd ri2 key (some (wth ((ri2 key).getD []) id))) Q2 iv im2 :=
    HD.out.rowPut (w1 := w2) (U2.out.weaken (fun i _ e => HD.out.rowOwn (by rw [HV.out]; exact e))) I2.out (fun b hb => by
      rcases O2.out b hb with g | g
      · exact Or.inl (HD.out.rowOwn (by rw [HV.out]; exact g))
      · exact Or.inr g) M3.out U3.out
  have d2 : w3.cell? ⟨kb, 2, none⟩ = some (.map (some reads)) := h3.blk.cellAt rfl
  have lq := h3.qmap.look keyI Try.underlying36 (zeroM w3) id false
  rw [h3.qget] at lq
  unfold intEnc at lq
  have H3 := Lib.hid h3
  clear c1 y1 y2 de h3
  by_cases hz : im2 id = []
  · rw [if_pos hz] at lq
    simp only [Bool.false_eq_true, if_false, Option.getD_none] at lq
    have mk := run_makeMap (P := Try.prog) 62 w3
    have qn := run_eql_map_nil (P := Try.prog) w3 62 _ _ none Try.underlying62
    simp only [Option.isNone_none] at qn
    have ua : Upd (fun _ => False) w3 (w3.alloc (.map #[] 0)) := (Upd.refl _ _).alloc _
    have ql := H3.out.qmap.lt
    obtain ⟨w4, de1, q4, u4⟩ := (H3.out.qmap.keep ua (fun hh => hh)).put keyI Try.underlying36 id (.map (some w3.heap.size))
    have lq4 := q4.look keyI Try.underlying36 (zeroM w4) id false
    rw [aget_aset, if_pos rfl] at lq4
    simp only [Bool.false_eq_true, if_false, Option.getD_some] at lq4
    have m4 : MapAt strEnc w4 w3.heap.size [] := (MapAt.made w3).keep u4 (fun e => by have : w3.heap.size = reads := e; omega)
    have lm4 := m4.look keyS Try.underlying62 (zeroN w4) key false
    simp only [aget, Bool.false_eq_true, if_false, Option.getD_none] at lm4
    obtain ⟨w5, de2, m5, u5⟩ := m4.put keyS Try.underlying62 key (.int .i64 1)
    have c4 : w4.cell? ⟨kb, 2, none⟩ = some (.map (some reads)) := ((H3.out.blk.alloc _).keep2 u4 H3.out.kbm.2.1).cellAt rfl
    have U5 := Lib.hid (((ua.weaken (F := fun b => b = reads) (fun _ _ h => h.elim)).trans u4 (fun _ _ h => h)).trans u5 (fun i hi e => by have : i = w3.heap.size := e; omega))
    have H5 := Lib.hid (H3.out.innerNew (w' := w5) (id := id) (b := w3.heap.size) (m := aset [] key (.int .i64 1)) hz (Nat.le_refl _) (by simp [aset]) m5 (by simp [aset, akeys]) (fun k v hk => by
      simp only [aset, aget] at hk
      split at hk
      · cases hk; exact ⟨1, rfl⟩
      · cases hk) (q4.keep u5 (fun e => by have : reads = w3.heap.size := e; omega)) U5.out)
    unfold intEnc at de1 lq4
    unfold strEnc at de2 lm4
    have HZ := Lib.hid hz
    clear hz q4 u4 m4 m5 u5 ua ql
    go_wp2
    go_ret3
    rw [HKS.out, HRI.out]
    refine ⟨rfl, _, _, _, _, _, H.out, IM.out, VG.out, UW.out, (by rw [← HRI.out]; exact FF.out), AddTo.of H.out (U2.out.weaken (fun i _ e => by rw [HV.out]; exact e)) (by rw [HV.out]; exact O2.out) U3.out H5.out (U5.out.weaken (fun i _ e => Or.inl e)) (fun id' k => ?_) (fun id' hid => ?_)⟩
    · by_cases e : id' = id
      · subst e; rw [upd_at, mem_aset, HZ.out]; simp [akeys]
      · rw [upd_ne _ _ e]; simp [e]
    · by_cases e : id' = id
      · subst e; rw [upd_at]; right
        have := U2.out.size; have := U3.out.size; simp at *; omega
      · rw [upd_ne _ _ e] at hid ⊢; exact Or.inl ⟨hid, rfl⟩
  · rw [if_neg hz] at lq
    simp only [Bool.false_eq_true, if_false, Option.getD_some] at lq
    have qn := run_eql_map_nil (P := Try.prog) w3 62 _ _ (some (iv id)) Try.underlying62
    simp only [Option.isNone_some] at qn
    have hm := H3.out.imap id hz
    have lm := hm.1.look keyS Try.underlying62 (zeroN w3) key false
    simp only [Bool.false_eq_true, if_false] at lm
    obtain ⟨c5, hc5⟩ : ∃ c5, (aget (im2 id) key).getD (.int .i64 0) = .int .i64 c5 := by
      cases hk : aget (im2 id) key with
      | none => exact ⟨0, rfl⟩
      | some v => obtain ⟨c, hc⟩ := H3.out.iint id key v hk; exact ⟨c, hc⟩
    rw [hc5] at lm
    obtain ⟨w5, de2, m5, u5⟩ := hm.1.put keyS Try.underlying62 key (.int .i64 (wrap64 (c5 + 1)))
    have U5 := Lib.hid u5
    have H5 := Lib.hid (H3.out.innerPut (w' := w5) (id := id) (m := aset (im2 id) key (.int .i64 (wrap64 (c5 + 1)))) hz (fun e => by have := congrArg akeys e; rw [akeys_aset] at this; split at this <;> simp_all [akeys]) m5 (nodup_aset hm.2 key _) (fun k v hk => by
      rw [aget_aset] at hk
      split at hk
      · cases hk; exact ⟨_, rfl⟩
      · exact H3.out.iint id k v hk) u5)
    unfold strEnc at lm de2
    have HZ := Lib.hid hz
    clear hz hc5 hm m5 u5
    go_wp2
    go_ret3
    rw [HKS.out, HRI.out]
    refine ⟨rfl, _, _, _, _, _, H.out, IM.out, VG.out, UW.out, (by rw [← HRI.out]; exact FF.out), AddTo.of H.out (U2.out.weaken (fun i _ e => by rw [HV.out]; exact e)) (by rw [HV.out]; exact O2.out) U3.out H5.out (U5.out.weaken (fun i _ e => Or.inr ⟨HZ.out, e⟩)) (fun id' k => ?_) (fun id' hid => ?_)⟩
    · by_cases e : id' = id
      · subst e; rw [upd_at, mem_aset]; simp
      · rw [upd_ne _ _ e]; simp [e]
    · left
      by_cases e : id' = id
      · subst e; exact ⟨HZ.out, rfl⟩
      · rw [upd_ne _ _ e] at hid; exact ⟨hid, rfl⟩
end Go.Proofs.Ythgojhchakclcaa
