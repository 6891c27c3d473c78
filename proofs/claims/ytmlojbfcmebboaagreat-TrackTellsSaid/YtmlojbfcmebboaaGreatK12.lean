/- Add: a client is told of a beginning. -/
import Derived.Test.YtmlojbfcmebboaaGreatK11
set_option linter.unusedVariables false
set_option linter.unusedSimpArgs false
set_option linter.unusedSectionVars false
namespace Go.Proofs.YtmlojbfcmebboaaGreat
open Go.RowKit

section
variable {w w' : World} {base pb xb rm om : Nat} {lab : Nat → Lb} {L : List MarkP} {E : Nat → Prop} {nx : Int} {R : List (Int × Value)} {rv : Int → Value} {ri : Int → Option (List Int)} {Q : List (Int × Value)} {qv : Int → Value} {qi : Int → Option (List Txt)}
/-- What Add's region behind the search of a row leaves. -/
theorem PRaw.keep0 (h : PRaw w base pb xb rm om lab L E nx R rv ri Q qv qi) (u : Upd (fun _ => False) w w') : PRaw w' base pb xb rm om lab L E nx R rv ri Q qv qi := h.keep u (fun _ _ h => h)
end
set_option maxHeartbeats 4000000 in
set_option maxRecDepth 100000 in
theorem padd_raw {base pb xb rm om : Nat} {lab : Nat → Lb} {L : List MarkP} {E : Nat → Prop} {nx : Int} {R : List (Int × Value)} {rv : Int → Value} {ri : Int → Option (List Int)} {Q : List (Int × Value)} {qv : Int → Value} {qi : Int → Option (List Txt)}
    {P : Txt → Int → Prop} {N : Nat} (s : Txt) (id : Int) (w : World) (h : PRaw w base pb xb rm om lab L E nx R rv ri Q qv qi) (hR : RowsOk P N L ri nx) (hO : OfOk P N qi) (hN : N ≤ 9000) (hs : s.length ≤ 9223372036854775807) :
    Calls Tryz.prog 47 #[.pointer (some ⟨pb, 0, none⟩), .string (ofL s), .int .i64 id] w fun e w' => ((e = .returned (.bool false) ∧ P s id) ∨ (e = .returned (.bool true) ∧ ¬ P s id)) ∧
      ∃ F', PAt w' base pb (fun t i => P t i ∨ t = s ∧ i = id) (N + 1) F' ∧ Upd (fun b => lab b ≠ .no) w w' ∧ ∀ b, F' b → lab b ≠ .no ∨ w.heap.size ≤ b := by
  have GE := radGet_big w base xb L E s h.tree (by have := hR.len; omega) hs
  obtain ⟨sk, hsk⟩ : ∃ sk, sk = ofL s := ⟨_, rfl⟩
  rw [← hsk] at GE ⊢
  have SK := Lib.hid hsk
  have c0 : w.cell? ⟨pb, 0, none⟩ = some (ptr xb) := h.blk.cellAt rfl
  unfold ptr at c0
  have H := Lib.hid h
  have HR := Lib.hid hR
  have HO := Lib.hid hO
  clear hsk h hR hO
  by_cases hg : (getL L s).2 = true
  · have hL := HR.out.there hg
    rw [hg] at GE
    generalize (getL L s).1 = r at *
    obtain ⟨l0, hr, hrl, hne, hlN, hmem⟩ := HR.out.row s r hL
    have GE := Lib.hid GE
    have HG := Lib.hid hg
    have ROK := Lib.hid (HR.out.also (id := id) hL hr)
    clear hg
    go_enter Tryz.func47, Tryz.ntmps47
    go_wp2_with fail
    refine (GE.out).mono ?_
    rintro e wA ⟨rfl, u1⟩
    have UW : Hid (Upd (fun b => lab b ≠ .no) w wA) := u1.weaken (fun _ _ h => h.elim)
    have HA := Lib.hid (H.out.keep0 u1)
    have LABN : Hid (∀ b, lab b ≠ .no → lab b ≠ .no ∨ w.heap.size ≤ b) := fun b h => Or.inl h
    obtain ⟨hra, hrb⟩ := HA.out.rowAt r
    have LK0 : Hid ((aget R r).getD (.slice none 0 0) = rv r) := by show _ = _; rw [HA.out.rget, hr]; rfl
    rw [LK0.out, hr] at hra
    rw [LK0.out] at hrb
    simp only [Option.getD_some] at hra
    obtain ⟨p, c, ev, _⟩ := own_slice hra
    rw [ev] at hra hrb LK0
    have HRA := Lib.hid hra
    have HRB := Lib.hid hrb
    have RIS := Lib.hid hrl
    clear u1 GE hra hrb ev
    by_cases hid : id ∈ l0
    · have hc : l0.contains id = true := by simpa using hid
      have lk := HA.out.rowLook r
      have dA1 : wA.cell? ⟨pb, 1, none⟩ = some (.map (some rm)) := HA.out.blk.cellAt rfl
      rw [LK0.out] at lk
      have BS := bsi_any base (.slice p l0.length c) l0 id wA HRA.out RIS.out (by omega)
      rw [hc] at BS
      have BS := Lib.hid BS
      have PS : Hid (P s id) := (hmem id).1 hid
      clear hc hid hmem hrl hne
      go_wp2_with fail
      refine (BS.out).mono ?_
      rintro e w2 ⟨rfl, q, rfl⟩
      go_wp2
      go_ret
      exact ⟨Or.inl ⟨rfl, PS.out⟩, _, PAt.more (N := N) (PAt.congr ⟨xb, rm, om, lab, L, E, nx, R, rv, ri, Q, qv, qi, HA.out.keep0 ((Upd.refl _ _).drewN q), HR.out, HO.out, rfl⟩ (fun t i => ⟨Or.inl, fun g => g.elim (fun g => g) (fun g => by rw [g.1, g.2]; exact PS.out)⟩)) (by omega), UW.out.drewN q, fun b hb => Or.inl hb⟩
    · have NIN : Hid (l0.contains id = false) := by show _ = _; simpa using hid
      have PS : Hid (¬ P s id) := fun g => hid ((hmem id).2 g)
      have WO := Lib.hid (wth_out hrl hid)
      obtain ⟨labA, hlabA⟩ : ∃ labA, labA = lab := ⟨_, rfl⟩
      rw [← hlabA] at HA HRB
      have LABN : Hid (∀ b, labA b ≠ .no → lab b ≠ .no ∨ w.heap.size ≤ b) := by show ∀ _, _; rw [hlabA]; exact LABN.out
      clear hid hmem hrl hne hr hlabA
      have lk := HA.out.rowLook r
      have dA1 : wA.cell? ⟨pb, 1, none⟩ = some (.map (some rm)) := HA.out.blk.cellAt rfl
      rw [LK0.out] at lk
      have BS := bsi_any base (.slice p l0.length c) l0 id wA HRA.out RIS.out (by omega)
      rw [NIN.out] at BS
      have BS := Lib.hid BS
      have hcl : l0.countP (· < id) ≤ l0.length := List.countP_le_length
      generalize hi : l0.countP (· < id) = i at *
      clear hi
      go_wp2_with fail
      refine (BS.out).mono ?_
      rintro e w2 ⟨rfl, q, rfl⟩
      have uq : Upd (fun _ => False) wA (wA.drewN (q + 1)) := (Upd.refl _ _).drewN _
      have ua : Upd (fun _ => False) wA ((wA.drewN (q + 1)).alloc (.cells #[.int .i64 id] 3)) := uq.alloc _
      have lk1 := (HA.out.keep0 uq).rowLook r
      rw [LK0.out] at lk1
      have lk2 := (HA.out.keep0 ua).rowLook r
      rw [LK0.out] at lk2
      have IN := insert_any base i wA.heap.size (.slice p l0.length c) l0 id ((wA.drewN (q + 1)).alloc (.cells #[.int .i64 id] 3)) (HRA.out.keep ua (fun _ _ h => h)) hcl (Blk.made (wA.drewN (q + 1)) [.int .i64 id] _) (Nat.le_trans HA.out.bl ua.size) (fun e => by have := (ints_block HRA.out e).2.1; omega) (by omega)
      rw [← WO.out] at IN
      have IN := Lib.hid IN
      have PUT := Lib.hid (fun (w2 : World) (v2 : Value) (u2 : Upd (fun k => (Value.slice p l0.length c).ownBlock = some k) ((wA.drewN (q + 1)).alloc (.cells #[.int .i64 id] 3)) w2) => (((HA.out.keep0 ua).rmap.keep u2 (fun e => by
        have := HRB.out _ e; rw [HA.out.lrm] at this; cases this)).put keyI64 Tryz.underlying145 r v2))
      have KB := Lib.hid (fun (w2 : World) (u2 : Upd (fun k => (Value.slice p l0.length c).ownBlock = some k) ((wA.drewN (q + 1)).alloc (.cells #[.int .i64 id] 3)) w2) => (u2.blk (HA.out.keep0 ua).blk (fun e => by
        have := HRB.out _ e; rw [HA.out.lblk] at this; cases this)).cellAt (i := 1) rfl)
      have KB3 := Lib.hid (fun (w2 w3 : World) (u2 : Upd (fun k => (Value.slice p l0.length c).ownBlock = some k) ((wA.drewN (q + 1)).alloc (.cells #[.int .i64 id] 3)) w2) (u3 : Upd (fun b => b = rm) w2 w3) => (u3.blk (u2.blk (HA.out.keep0 ua).blk (fun e => by
        have := HRB.out _ e; rw [HA.out.lblk] at this; cases this)) (fun e => by
        have := HA.out.lblk; rw [e, HA.out.lrm] at this; cases this)).cellAt (i := 1) rfl)
      have UA := Lib.hid ua
      clear uq ua
      go_wp2
      go_region_held3 (fun w' => w'.cell? ⟨pb, 1, none⟩ = some (.map (some rm))) (go_keep)
        (first | (go_at_call 95; refine IN.out.mono ?_; rintro e w3 ⟨v3, rfl, i3, u3, o3⟩; (have y1 := KB.out w3 u3); (obtain ⟨w4, de, m4, u4⟩ := PUT.out w3 v3 u3); (have y2 := KB3.out w3 w4 u3 u4); (unfold intEnc at de); (have I3 := Lib.hid i3); (have U3 := Lib.hid u3); (have O3 := Lib.hid o3); (have M4 := Lib.hid m4); (have U4 := Lib.hid u4); clear i3 u3 o3 m4 u4))
      all_goals
        have HB := HA.out.rowTo (w1 := w3) (UA.out.weaken (fun _ _ h => h.elim) |>.trans U3.out (fun b _ e => HRB.out b e)) I3.out (fun b hb => by
          rcases O3.out b hb with g | g
          · exact Or.inl (HRB.out b g)
          · exact Or.inr (Nat.le_trans UA.out.size g)) M4.out U4.out
        have u04 : Upd (fun b => lab b ≠ .no) w w4 := (UW.out.trans (UA.out.weaken (fun _ _ h => h.elim) |>.trans U3.out (fun b _ e => (show labA b ≠ .no by rw [HRB.out b e]; exact fun e => by cases e))) (fun b hb e => (LABN.out b e).elim (fun g => g) (fun g => by omega))).trans U4.out (fun b hb e => by
          have e : b = rm := e
          subst e; exact (LABN.out b (by rw [HA.out.lrm]; decide)).elim (fun g => g) (fun g => by omega))
        have lab4 : ∀ b, relab labA (.row r) wA.heap.size w4.heap.size b ≠ .no → lab b ≠ .no ∨ w.heap.size ≤ b := fun b hb => by
          by_cases e : wA.heap.size ≤ b ∧ b < w4.heap.size
          · right; have := UW.out.size; omega
          · rw [show relab labA (.row r) wA.heap.size w4.heap.size b = labA b from if_neg e] at hb; exact LABN.out b hb
        have HB := Lib.hid HB
        have UB := Lib.hid u04
        have LABB := Lib.hid lab4
        clear y1 y2 de lk lk1 lk2 dA1 IN PUT KB KB3 UA I3 U3 O3 M4 U4 HRA HRB BS WO u04 lab4
        generalize relab labA (.row r) wA.heap.size w4.heap.size = labB at *
        generalize aset R r v3 = R2 at *
        generalize upd rv r v3 = rv2 at *
        generalize upd ri r (some (wth l0 id)) = ri2 at *
        have lc := HB.out.clLook id
        have dB3 : w4.cell? ⟨pb, 3, none⟩ = some (.map (some om)) := HB.out.blk.cellAt rfl
        obtain ⟨hca, hcb⟩ := HB.out.clAt id
        obtain ⟨hor, hol, hom⟩ := HO.out.at_ id
        have OAL := Lib.hid (HO.out.also s id)
        obtain ⟨pc, cc, ec, _⟩ := own_slice hca
        rw [ec] at lc hca hcb
        have LC0 := Lib.hid ec
        have BT := bss_any base _ _ s w4 hca hor (by omega)
        have hnin : s ∉ (qi id).getD [] := fun g => PS.out ((hom s).1 g)
        have WO2 := Lib.hid (wth_out hor hnin)
        rw [← SK.out] at BT
        have BT := Lib.hid BT
        have HCA := Lib.hid hca
        have HCB := Lib.hid hcb
        generalize hl2 : (qi id).getD [] = l2 at *
        have hcl2 : l2.countP (· < s) ≤ l2.length := List.countP_le_length
        generalize hi2 : l2.countP (· < s) = i2 at *
        clear hi2 hl2 hca hcb hor hom ec hnin
        go_wp2_with fail
        refine (BT.out).mono ?_
        rintro e w5 ⟨b5, rfl, q2, rfl⟩
        have uq : Upd (fun _ => False) w4 (w4.drewN (q2 + 1)) := (Upd.refl _ _).drewN _
        have ua : Upd (fun _ => False) w4 ((w4.drewN (q2 + 1)).alloc (.cells #[.string sk] 9)) := uq.alloc _
        have lc1 := (HB.out.keep0 uq).clLook id
        rw [LC0.out] at lc1
        have lc2 := (HB.out.keep0 ua).clLook id
        rw [LC0.out] at lc2
        have IN := insertT_any base i2 w4.heap.size (.slice pc l2.length cc) l2 s ((w4.drewN (q2 + 1)).alloc (.cells #[.string sk] 9)) (own_keep HCA.out ua (fun _ _ h => h)) hcl2 (by rw [← SK.out]; exact Blk.made (w4.drewN (q2 + 1)) [.string sk] _) (Nat.le_trans HB.out.bl ua.size) (fun e => by have := (txts_block HCA.out e).2.1; omega) (by omega)
        rw [← WO2.out] at IN
        have IN := Lib.hid IN
        have PUT := Lib.hid (fun (w2 : World) (v2 : Value) (u2 : Upd (fun k => (Value.slice pc l2.length cc).ownBlock = some k) ((w4.drewN (q2 + 1)).alloc (.cells #[.string sk] 9)) w2) => (((HB.out.keep0 ua).qmap.keep u2 (fun e => by
          have := HCB.out _ e; rw [HB.out.lom] at this; cases this)).put keyI Tryz.underlying146 id v2))
        have KB := Lib.hid (fun (w2 : World) (u2 : Upd (fun k => (Value.slice pc l2.length cc).ownBlock = some k) ((w4.drewN (q2 + 1)).alloc (.cells #[.string sk] 9)) w2) => (u2.blk (HB.out.keep0 ua).blk (fun e => by
          have := HCB.out _ e; rw [HB.out.lblk] at this; cases this)).cellAt (i := 3) rfl)
        have KB3 := Lib.hid (fun (w2 w3 : World) (u2 : Upd (fun k => (Value.slice pc l2.length cc).ownBlock = some k) ((w4.drewN (q2 + 1)).alloc (.cells #[.string sk] 9)) w2) (u3 : Upd (fun b => b = om) w2 w3) => (u3.blk (u2.blk (HB.out.keep0 ua).blk (fun e => by
          have := HCB.out _ e; rw [HB.out.lblk] at this; cases this)) (fun e => by
          have := HB.out.lblk; rw [e, HB.out.lom] at this; cases this)).cellAt (i := 3) rfl)
        have UA := Lib.hid ua
        clear uq ua
        go_wp2
        go_region_held3 (fun w' => w'.cell? ⟨pb, 3, none⟩ = some (.map (some om))) (go_keep)
          (first | (go_at_call 97; refine IN.out.mono ?_; rintro e w6 ⟨v6, rfl, i6, u6, o6⟩; (have y1 := KB.out w6 u6); (obtain ⟨w7, de, m7, u7⟩ := PUT.out w6 v6 u6); (have y2 := KB3.out w6 w7 u6 u7); (unfold intEnc at de); (have I6 := Lib.hid i6); (have U6 := Lib.hid u6); (have O6 := Lib.hid o6); (have M7 := Lib.hid m7); (have U7 := Lib.hid u7); clear i6 u6 o6 m7 u7))
        all_goals
          go_wp2
          go_ret
          have HC := HB.out.clTo (w1 := w6) (UA.out.weaken (fun _ _ h => h.elim) |>.trans U6.out (fun b _ e => HCB.out b e)) I6.out (fun b hb => by
            rcases O6.out b hb with g | g
            · exact Or.inl (HCB.out b g)
            · exact Or.inr (Nat.le_trans UA.out.size g)) M7.out U7.out
          refine ⟨Or.inr ⟨rfl, PS.out⟩, _, ⟨xb, rm, om, _, _, _, _, _, _, _, _, _, _, HC, ROK.out, OAL.out, rfl⟩, (UB.out.trans (UA.out.weaken (fun _ _ h => h.elim) |>.trans U6.out (fun b _ e => (show labB b ≠ .no by rw [HCB.out b e]; exact fun e => by cases e))) (fun b hb e => (LABB.out b e).elim (fun g => g) (fun g => by omega))).trans U7.out (fun b hb e => by
            have e : b = om := e
            subst e; exact (LABB.out b (by rw [HB.out.lom]; decide)).elim (fun g => g) (fun g => by omega)), fun b hb => ?_⟩
          by_cases e : w4.heap.size ≤ b ∧ b < w7.heap.size
          · right; have := UB.out.size; omega
          · rw [show relab labB (.cl id) w4.heap.size w7.heap.size b = labB b from if_neg e] at hb; exact LABB.out b hb
  · generalize nx = r at *
    have hg2 : (getL L s).2 = false := by simpa using hg
    rw [hg2] at GE
    generalize (getL L s).1 = g1 at *
    have GE := Lib.hid GE
    have hno : ∀ n, (s, n) ∉ L := fun n hn => hg ((getL_iff HR.out.rise s).2 ⟨n, hn⟩)
    have PS : Hid (¬ P s id) := fun hp => by obtain ⟨n, hn⟩ := HR.out.key s id hp; exact hno n hn
    have hrn : ri r = none := by
      cases e : ri r with
      | none => rfl
      | some l => obtain ⟨t, ht⟩ := HR.out.rev r l e; have := (HR.out.num t r ht).2; omega
    obtain ⟨l0, hl0⟩ : ∃ l0 : List Int, l0 = [] := ⟨_, rfl⟩
    have ROK : Hid (RowsOk (fun t i => P t i ∨ t = s ∧ i = id) (N + 1) (putM s r L) (upd ri r (some (wth l0 id))) (r + 1)) := by
      have := HR.out.fresh (id := id) hg hs
      rw [hl0]; exact this
    have hn0 := HR.out.nx
    have qw : IntKind.i64.wrap (r + 1) = r + 1 := IntWalk.i64_in _ (by omega)
    have LEN := HR.out.len
    clear hg hg2 hno
    go_enter Tryz.func47, Tryz.ntmps47
    go_wp2_with fail
    refine (GE.out).mono ?_
    rintro e w1 ⟨rfl, u1⟩
    have H1 := H.out.keep0 u1
    have d2 : w1.cell? ⟨pb, 2, none⟩ = some (.int .i64 r) := H1.blk.cellAt rfl
    have f2 : w1.frozen? ⟨pb, 2, none⟩ = false := H1.blk.free 2
    have d0 : (w1.setCell ⟨pb, 2, none⟩ (.int .i64 (r + 1))).cell? ⟨pb, 0, none⟩ = some (.pointer (some ⟨xb, 0, none⟩)) := (H1.nxTo (r + 1)).blk.cellAt rfl
    have HS := Lib.hid (H1.nxTo (r + 1))
    have UWS : Hid (Upd (fun b => lab b ≠ .no) w (w1.setCell ⟨pb, 2, none⟩ (.int .i64 (r + 1)))) := (u1.weaken (F := fun b => lab b ≠ .no) (fun _ _ h => h.elim)).set (fun _ => by rw [H1.lblk]; decide)
    have PUT := radPut_any _ base xb L E HS.out.tree (by omega) HS.out.bl s r hs
    rw [← SK.out] at PUT
    have PUT := Lib.hid PUT
    clear u1 GE H1
    go_wp2_with fail
    refine (PUT.out).mono ?_
    rintro e wA ⟨rfl, uA, E', tA, fA⟩
    have HA := Lib.hid (HS.out.treeTo tA uA fA)
    have UW : Hid (Upd (fun b => lab b ≠ .no) w wA) := UWS.out.trans uA (fun b _ e => by rw [HS.out.ltree b e]; decide)
    have LABN : Hid (∀ b, relab lab .tree (w1.setCell ⟨pb, 2, none⟩ (.int .i64 (r + 1))).heap.size wA.heap.size b ≠ .no → lab b ≠ .no ∨ w.heap.size ≤ b) := fun b hb => by
      by_cases e : (w1.setCell ⟨pb, 2, none⟩ (.int .i64 (r + 1))).heap.size ≤ b ∧ b < wA.heap.size
      · right; have := UWS.out.size; omega
      · rw [show relab lab .tree (w1.setCell ⟨pb, 2, none⟩ (.int .i64 (r + 1))).heap.size wA.heap.size b = lab b from if_neg e] at hb; exact Or.inl hb
    generalize relab lab .tree (w1.setCell ⟨pb, 2, none⟩ (.int .i64 (r + 1))).heap.size wA.heap.size = labA at *
    obtain ⟨hra, hrb⟩ := HA.out.rowAt r
    obtain ⟨p, hp⟩ : ∃ p : Option Addr, p = none := ⟨_, rfl⟩
    obtain ⟨c, hc⟩ : ∃ c : Nat, c = 0 := ⟨_, rfl⟩
    have LK0 : Hid ((aget R r).getD (.slice none 0 0) = .slice p l0.length c) := by show _ = _; rw [HA.out.rget, hrn, hp, hc, hl0]; rfl
    rw [LK0.out, hrn, show (none : Option (List Int)).getD [] = l0 from hl0.symm] at hra
    rw [LK0.out] at hrb
    have HRA := Lib.hid hra
    have HRB := Lib.hid hrb
    have RIS : Hid (Rising l0) := by rw [hl0]; exact List.Pairwise.nil
    have NIN : Hid (l0.contains id = false) := by rw [hl0]; rfl
    have WO : Hid (wth l0 id = l0.take (l0.countP (· < id)) ++ id :: l0.drop (l0.countP (· < id))) := wth_out RIS.out (by rw [hl0]; simp)
    have hlN : l0.length ≤ N := by rw [hl0]; simp
    clear tA uA fA PUT HS UWS d0 d2 f2 hra hrb hl0 hp hc hrn qw
    have lk := HA.out.rowLook r
    have dA1 : wA.cell? ⟨pb, 1, none⟩ = some (.map (some rm)) := HA.out.blk.cellAt rfl
    rw [LK0.out] at lk
    have BS := bsi_any base (.slice p l0.length c) l0 id wA HRA.out RIS.out (by omega)
    rw [NIN.out] at BS
    have BS := Lib.hid BS
    have hcl : l0.countP (· < id) ≤ l0.length := List.countP_le_length
    generalize hi : l0.countP (· < id) = i at *
    clear hi
    go_wp2_with fail
    refine (BS.out).mono ?_
    rintro e w2 ⟨rfl, q, rfl⟩
    have uq : Upd (fun _ => False) wA (wA.drewN (q + 1)) := (Upd.refl _ _).drewN _
    have ua : Upd (fun _ => False) wA ((wA.drewN (q + 1)).alloc (.cells #[.int .i64 id] 3)) := uq.alloc _
    have lk1 := (HA.out.keep0 uq).rowLook r
    rw [LK0.out] at lk1
    have lk2 := (HA.out.keep0 ua).rowLook r
    rw [LK0.out] at lk2
    have IN := insert_any base i wA.heap.size (.slice p l0.length c) l0 id ((wA.drewN (q + 1)).alloc (.cells #[.int .i64 id] 3)) (HRA.out.keep ua (fun _ _ h => h)) hcl (Blk.made (wA.drewN (q + 1)) [.int .i64 id] _) (Nat.le_trans HA.out.bl ua.size) (fun e => by have := (ints_block HRA.out e).2.1; omega) (by omega)
    rw [← WO.out] at IN
    have IN := Lib.hid IN
    have PUT := Lib.hid (fun (w2 : World) (v2 : Value) (u2 : Upd (fun k => (Value.slice p l0.length c).ownBlock = some k) ((wA.drewN (q + 1)).alloc (.cells #[.int .i64 id] 3)) w2) => (((HA.out.keep0 ua).rmap.keep u2 (fun e => by
      have := HRB.out _ e; rw [HA.out.lrm] at this; cases this)).put keyI64 Tryz.underlying145 r v2))
    have KB := Lib.hid (fun (w2 : World) (u2 : Upd (fun k => (Value.slice p l0.length c).ownBlock = some k) ((wA.drewN (q + 1)).alloc (.cells #[.int .i64 id] 3)) w2) => (u2.blk (HA.out.keep0 ua).blk (fun e => by
      have := HRB.out _ e; rw [HA.out.lblk] at this; cases this)).cellAt (i := 1) rfl)
    have KB3 := Lib.hid (fun (w2 w3 : World) (u2 : Upd (fun k => (Value.slice p l0.length c).ownBlock = some k) ((wA.drewN (q + 1)).alloc (.cells #[.int .i64 id] 3)) w2) (u3 : Upd (fun b => b = rm) w2 w3) => (u3.blk (u2.blk (HA.out.keep0 ua).blk (fun e => by
      have := HRB.out _ e; rw [HA.out.lblk] at this; cases this)) (fun e => by
      have := HA.out.lblk; rw [e, HA.out.lrm] at this; cases this)).cellAt (i := 1) rfl)
    have UA := Lib.hid ua
    clear uq ua
    go_wp2
    go_region_held3 (fun w' => w'.cell? ⟨pb, 1, none⟩ = some (.map (some rm))) (go_keep)
      (first | (go_at_call 95; refine IN.out.mono ?_; rintro e w3 ⟨v3, rfl, i3, u3, o3⟩; (have y1 := KB.out w3 u3); (obtain ⟨w4, de, m4, u4⟩ := PUT.out w3 v3 u3); (have y2 := KB3.out w3 w4 u3 u4); (unfold intEnc at de); (have I3 := Lib.hid i3); (have U3 := Lib.hid u3); (have O3 := Lib.hid o3); (have M4 := Lib.hid m4); (have U4 := Lib.hid u4); clear i3 u3 o3 m4 u4))
    all_goals
      have HB := HA.out.rowTo (w1 := w3) (UA.out.weaken (fun _ _ h => h.elim) |>.trans U3.out (fun b _ e => HRB.out b e)) I3.out (fun b hb => by
        rcases O3.out b hb with g | g
        · exact Or.inl (HRB.out b g)
        · exact Or.inr (Nat.le_trans UA.out.size g)) M4.out U4.out
      have u04 : Upd (fun b => lab b ≠ .no) w w4 := (UW.out.trans (UA.out.weaken (fun _ _ h => h.elim) |>.trans U3.out (fun b _ e => (show labA b ≠ .no by rw [HRB.out b e]; exact fun e => by cases e))) (fun b hb e => (LABN.out b e).elim (fun g => g) (fun g => by omega))).trans U4.out (fun b hb e => by
        have e : b = rm := e
        subst e; exact (LABN.out b (by rw [HA.out.lrm]; decide)).elim (fun g => g) (fun g => by omega))
      have lab4 : ∀ b, relab labA (.row r) wA.heap.size w4.heap.size b ≠ .no → lab b ≠ .no ∨ w.heap.size ≤ b := fun b hb => by
        by_cases e : wA.heap.size ≤ b ∧ b < w4.heap.size
        · right; have := UW.out.size; omega
        · rw [show relab labA (.row r) wA.heap.size w4.heap.size b = labA b from if_neg e] at hb; exact LABN.out b hb
      have HB := Lib.hid HB
      have UB := Lib.hid u04
      have LABB := Lib.hid lab4
      clear y1 y2 de lk lk1 lk2 dA1 IN PUT KB KB3 UA I3 U3 O3 M4 U4 HRA HRB BS WO u04 lab4
      generalize relab labA (.row r) wA.heap.size w4.heap.size = labB at *
      generalize aset R r v3 = R2 at *
      generalize upd rv r v3 = rv2 at *
      generalize upd ri r (some (wth l0 id)) = ri2 at *
      have lc := HB.out.clLook id
      have dB3 : w4.cell? ⟨pb, 3, none⟩ = some (.map (some om)) := HB.out.blk.cellAt rfl
      obtain ⟨hca, hcb⟩ := HB.out.clAt id
      obtain ⟨hor, hol, hom⟩ := HO.out.at_ id
      have OAL := Lib.hid (HO.out.also s id)
      obtain ⟨pc, cc, ec, _⟩ := own_slice hca
      rw [ec] at lc hca hcb
      have LC0 := Lib.hid ec
      have BT := bss_any base _ _ s w4 hca hor (by omega)
      have hnin : s ∉ (qi id).getD [] := fun g => PS.out ((hom s).1 g)
      have WO2 := Lib.hid (wth_out hor hnin)
      rw [← SK.out] at BT
      have BT := Lib.hid BT
      have HCA := Lib.hid hca
      have HCB := Lib.hid hcb
      generalize hl2 : (qi id).getD [] = l2 at *
      have hcl2 : l2.countP (· < s) ≤ l2.length := List.countP_le_length
      generalize hi2 : l2.countP (· < s) = i2 at *
      clear hi2 hl2 hca hcb hor hom ec hnin
      go_wp2_with fail
      refine (BT.out).mono ?_
      rintro e w5 ⟨b5, rfl, q2, rfl⟩
      have uq : Upd (fun _ => False) w4 (w4.drewN (q2 + 1)) := (Upd.refl _ _).drewN _
      have ua : Upd (fun _ => False) w4 ((w4.drewN (q2 + 1)).alloc (.cells #[.string sk] 9)) := uq.alloc _
      have lc1 := (HB.out.keep0 uq).clLook id
      rw [LC0.out] at lc1
      have lc2 := (HB.out.keep0 ua).clLook id
      rw [LC0.out] at lc2
      have IN := insertT_any base i2 w4.heap.size (.slice pc l2.length cc) l2 s ((w4.drewN (q2 + 1)).alloc (.cells #[.string sk] 9)) (own_keep HCA.out ua (fun _ _ h => h)) hcl2 (by rw [← SK.out]; exact Blk.made (w4.drewN (q2 + 1)) [.string sk] _) (Nat.le_trans HB.out.bl ua.size) (fun e => by have := (txts_block HCA.out e).2.1; omega) (by omega)
      rw [← WO2.out] at IN
      have IN := Lib.hid IN
      have PUT := Lib.hid (fun (w2 : World) (v2 : Value) (u2 : Upd (fun k => (Value.slice pc l2.length cc).ownBlock = some k) ((w4.drewN (q2 + 1)).alloc (.cells #[.string sk] 9)) w2) => (((HB.out.keep0 ua).qmap.keep u2 (fun e => by
        have := HCB.out _ e; rw [HB.out.lom] at this; cases this)).put keyI Tryz.underlying146 id v2))
      have KB := Lib.hid (fun (w2 : World) (u2 : Upd (fun k => (Value.slice pc l2.length cc).ownBlock = some k) ((w4.drewN (q2 + 1)).alloc (.cells #[.string sk] 9)) w2) => (u2.blk (HB.out.keep0 ua).blk (fun e => by
        have := HCB.out _ e; rw [HB.out.lblk] at this; cases this)).cellAt (i := 3) rfl)
      have KB3 := Lib.hid (fun (w2 w3 : World) (u2 : Upd (fun k => (Value.slice pc l2.length cc).ownBlock = some k) ((w4.drewN (q2 + 1)).alloc (.cells #[.string sk] 9)) w2) (u3 : Upd (fun b => b = om) w2 w3) => (u3.blk (u2.blk (HB.out.keep0 ua).blk (fun e => by
        have := HCB.out _ e; rw [HB.out.lblk] at this; cases this)) (fun e => by
        have := HB.out.lblk; rw [e, HB.out.lom] at this; cases this)).cellAt (i := 3) rfl)
      have UA := Lib.hid ua
      clear uq ua
      go_wp2
      go_region_held3 (fun w' => w'.cell? ⟨pb, 3, none⟩ = some (.map (some om))) (go_keep)
        (first | (go_at_call 97; refine IN.out.mono ?_; rintro e w6 ⟨v6, rfl, i6, u6, o6⟩; (have y1 := KB.out w6 u6); (obtain ⟨w7, de, m7, u7⟩ := PUT.out w6 v6 u6); (have y2 := KB3.out w6 w7 u6 u7); (unfold intEnc at de); (have I6 := Lib.hid i6); (have U6 := Lib.hid u6); (have O6 := Lib.hid o6); (have M7 := Lib.hid m7); (have U7 := Lib.hid u7); clear i6 u6 o6 m7 u7))
      all_goals
        go_wp2
        go_ret
        have HC := HB.out.clTo (w1 := w6) (UA.out.weaken (fun _ _ h => h.elim) |>.trans U6.out (fun b _ e => HCB.out b e)) I6.out (fun b hb => by
          rcases O6.out b hb with g | g
          · exact Or.inl (HCB.out b g)
          · exact Or.inr (Nat.le_trans UA.out.size g)) M7.out U7.out
        refine ⟨Or.inr ⟨rfl, PS.out⟩, _, ⟨xb, rm, om, _, _, _, _, _, _, _, _, _, _, HC, ROK.out, OAL.out, rfl⟩, (UB.out.trans (UA.out.weaken (fun _ _ h => h.elim) |>.trans U6.out (fun b _ e => (show labB b ≠ .no by rw [HCB.out b e]; exact fun e => by cases e))) (fun b hb e => (LABB.out b e).elim (fun g => g) (fun g => by omega))).trans U7.out (fun b hb e => by
          have e : b = om := e
          subst e; exact (LABB.out b (by rw [HB.out.lom]; decide)).elim (fun g => g) (fun g => by omega)), fun b hb => ?_⟩
        by_cases e : w4.heap.size ≤ b ∧ b < w7.heap.size
        · right; have := UB.out.size; omega
        · rw [show relab labB (.cl id) w4.heap.size w7.heap.size b = labB b from if_neg e] at hb; exact LABB.out b hb
end Go.Proofs.YtmlojbfcmebboaaGreat
/- Drop: a client leaves. -/
set_option linter.unusedVariables false
set_option linter.unusedSimpArgs false
set_option linter.unusedSectionVars false
namespace Go.Proofs.YtmlojbfcmebboaaGreat
open Go.RowKit

set_option maxHeartbeats 4000000 in
set_option maxRecDepth 100000 in
theorem pdrop_raw {base pb xb rm om : Nat} {lab : Nat → Lb} {L : List MarkP} {E : Nat → Prop} {nx : Int} {R : List (Int × Value)} {rv : Int → Value} {ri : Int → Option (List Int)} {Q : List (Int × Value)} {qv : Int → Value} {qi : Int → Option (List Txt)}
    {P : Txt → Int → Prop} {N : Nat} (id : Int) (w : World) (h : PRaw w base pb xb rm om lab L E nx R rv ri Q qv qi) (hR : RowsOk P N L ri nx) (hO : OfOk P N qi) (hN : N ≤ 9000) :
    Calls Tryz.prog 46 #[.pointer (some ⟨pb, 0, none⟩), .int .i64 id] w fun e w' => ∃ l : List Txt, e = .returned (.int .i64 (l.length : Int)) ∧ Rising l ∧ (∀ t, t ∈ l ↔ P t id) ∧
      ∃ F', PAt w' base pb (fun t i => P t i ∧ i ≠ id) N F' ∧ Upd (fun b => lab b ≠ .no) w w' ∧ ∀ b, F' b → lab b ≠ .no ∨ w.heap.size ≤ b := by
  have uB : Upd (fun _ => False) w (w.alloc (.cells #[.int .i64 id] 3)) := (Upd.refl _ _).alloc _
  have BX : Blk (w.alloc (.cells #[.int .i64 id] 3)) w.heap.size [.int .i64 id] 3 := Blk.made w [.int .i64 id] _
  have H := Lib.hid (h.keep0 uB)
  have H0 := Lib.hid h
  have cB := BX.cellAt (i := 0) (v := .int .i64 id) rfl
  have c3 : (w.alloc (.cells #[.int .i64 id] 3)).cell? ⟨pb, 3, none⟩ = some (.map (some om)) := H.out.blk.cellAt rfl
  have lc := H.out.clLook id
  have HR := Lib.hid hR
  have HO := Lib.hid hO
  have UB := Lib.hid uB
  have HBX := Lib.hid BX
  clear h hR hO uB BX
  go_enter Tryz.func46, Tryz.ntmps46
  go_wp2
  have lc := (H.out.keep0 ((Upd.refl _ _).drew)).clLook id
  have u1 : Upd (fun _ => False) (w.alloc (.cells #[.int .i64 id] 3)) (w.alloc (.cells #[.int .i64 id] 3)).drew.drew := (Upd.refl _ _).drew.drew
  have H1 := H.out.keep0 u1
  obtain ⟨w3, de, m3, u3⟩ := H1.qmap.del keyI Tryz.underlying146 id 0
  obtain ⟨hca, hcb⟩ := H.out.clAt id
  obtain ⟨hor, hol, hom⟩ := HO.out.at_ id
  obtain ⟨p, c, ec, _⟩ := own_slice hca
  rw [ec] at lc hca hcb
  unfold intEnc at de
  have hBno : lab w.heap.size = .no := Decidable.not_not.1 fun e => by
    have := (H.out.bnd _ e).2
    have hh := (H0.out.bnd _ e).2; omega
  have hBom : w.heap.size ≠ om := fun e => by rw [e, H.out.lom] at hBno; cases hBno
  have y1 : w3.cell? ⟨pb, 3, none⟩ = some (.map (some om)) := (u3.blk H1.blk (fun e => by have := H1.lblk; rw [e, H1.lom] at this; cases this)).cellAt rfl
  have BX3 := u3.blk (u1.blk HBX.out (fun h => h)) hBom
  have y2 : w3.cell? ⟨w.heap.size, 0, none⟩ = some (.int .i64 id) := BX3.cellAt rfl
  have HD := Lib.hid (H1.clDel m3 u3)
  have OG := Lib.hid (HO.out.gone id)
  have U3 : Hid (Upd (fun b => lab b ≠ .no) w w3) := ((UB.out.trans u1 (fun _ _ h => h)).weaken (F := fun b => lab b ≠ .no) (fun _ _ h => h.elim)).trans u3 (fun b _ e => by
    have e : b = om := e
    rw [e, H.out.lom]; decide)
  have HCA : Hid (TxtsAt w3 base (.slice p ((qi id).getD []).length c) ((qi id).getD [])) := own_keep (own_keep hca u1 (fun _ _ h => h)) u3 (fun b hb e => by
    have e : b = om := e
    have := hcb b hb; rw [e, H.out.lom] at this; cases this)
  have HCB := Lib.hid hcb
  have HOR := Lib.hid hor
  have HOM := Lib.hid hom
  have HBXX := Lib.hid BX3
  have hs3 : w.heap.size < w3.heap.size := BX3.lt
  generalize (qi id).getD [] = l at *
  have HBNO := Lib.hid hBno
  clear H1 hca hcb hor hom BX3 m3 u3 u1 hBno
  go_region_held3 (fun w' => w'.cell? ⟨pb, 3, none⟩ = some (.map (some om)) ∧ w'.cell? ⟨w.heap.size, 0, none⟩ = some (.int .i64 id)) (go_keep) (fail)
  go_wp2
  go_region_held3 (fun w' => w'.cell? ⟨pb, 3, none⟩ = some (.map (some om)) ∧ w'.cell? ⟨w.heap.size, 0, none⟩ = some (.int .i64 id)) (go_keep) (fail)
  clear lc de y1 y2 c3 cB
  go_wp2
  go_loopw [23] (fun x wr => ∃ (j : Nat) (lab' : Nat → Lb) (L' : List MarkP) (E' : Nat → Prop) (R' : List (Int × Value)) (rv' : Int → Value) (ri' : Int → Option (List Int)), x = .int .i64 (j : Int) ∧ j ≤ l.length ∧
      Hid (PRaw wr base pb xb rm om lab' L' E' nx R' rv' ri' (adel Q id) qv (upd qi id none)) ∧ Hid (RowsOk (fun t i => P t i ∧ ¬ (i = id ∧ t ∈ l.take j)) N L' ri' nx) ∧
      Hid (Upd (fun b => lab b ≠ .no ∧ lab b ≠ .cl id) w3 wr) ∧ Hid (∀ b, b < w3.heap.size → lab' b = lab b)) (fun x _ => l.length - (intOf x).toNat)
  case atStart => exact ⟨0, lab, L, E, R, rv, ri, rfl, by omega, HD, Lib.hid (HR.out.congr (fun t i => by simp)), Lib.hid (Upd.refl _ _), Lib.hid (fun b _ => rfl)⟩
  case round =>
    obtain ⟨j, lab', L', E', R', rv', ri', rfl, hj, HJ, RJ, UJ, LJ⟩ := hrel
    have hsz := UJ.out.size
    by_cases hlt : j < l.length
    · have q1 : (j : Int) < (l.length : Int) := by omega
      obtain ⟨g, ep, hg, ck⟩ := txts_get (own_keep HCA.out UJ.out (fun b hb e => e.2 (HCB.out b hb))) hlt
      subst ep
      obtain ⟨s, hs⟩ : ∃ s, s = l[j] := ⟨_, rfl⟩
      rw [← hs] at ck
      have hsl : s ∈ l := hs ▸ List.getElem_mem hlt
      have hnt : s ∉ l.take j := fun hm => by
        obtain ⟨i, hi, e⟩ := List.mem_iff_getElem.1 hm
        rw [List.length_take] at hi
        rw [List.getElem_take, hs] at e
        have := List.pairwise_iff_getElem.1 HOR.out i j (by omega) hlt (by omega)
        rw [e] at this; exact LinO.irr _ this
      have hP : P s id := (HOM.out s).1 hsl
      obtain ⟨r0, hr0⟩ := RJ.out.key s id ⟨hP, fun e => hnt e.2⟩
      have hgt : (getL L' s).2 = true := (getL_iff RJ.out.rise s).2 ⟨r0, hr0⟩
      have hL := RJ.out.there hgt
      have hsl2 := RJ.out.long s _ hL
      have GE := radGet_big wr base xb L' E' s HJ.out.tree (by have := RJ.out.len; omega) hsl2
      rw [hgt] at GE
      generalize (getL L' s).1 = r at *
      obtain ⟨l0, hr, hrl, hne, hlN, hmem⟩ := RJ.out.row s r hL
      obtain ⟨sk, hsk⟩ : ∃ sk, sk = ofL s := ⟨_, rfl⟩
      rw [← hsk] at GE ck
      have SK := Lib.hid hsk
      have GE := Lib.hid GE
      have TKS : Hid (∀ t, t ∈ l.take (j + 1) ↔ t ∈ l.take j ∨ t = s) := fun t => by rw [List.take_succ_eq_append_getElem hlt, List.mem_append, List.mem_singleton, hs]
      have d0 : wr.cell? ⟨pb, 0, none⟩ = some (.pointer (some ⟨xb, 0, none⟩)) := HJ.out.blk.cellAt rfl
      clear hsk hP hnt hsl hgt hr0 hs hmem hlt
      generalize hnl : l.length = nl at *
      go_wp2_with fail
      refine (GE.out).mono ?_
      rintro e w4 ⟨rfl, u4⟩
      have H4 := Lib.hid (HJ.out.keep0 u4)
      have U4 : Hid (Upd (fun b => lab b ≠ .no ∧ lab b ≠ .cl id) w3 w4) := UJ.out.trans u4 (fun _ _ h => h.elim)
      clear u4 GE
      have uq : Upd (fun _ => False) w4 w4.drew := (Upd.refl _ _).drew
      have lk := (H4.out.keep0 uq).rowLook r
      obtain ⟨hra, hrb⟩ := H4.out.rowAt r
      have d1 : w4.cell? ⟨pb, 1, none⟩ = some (.map (some rm)) := H4.out.blk.cellAt rfl
      rw [H4.out.rget, hr] at lk hra hrb
      simp only [Option.map_some, Option.getD_some] at lk hra hrb
      have hvn : rv' r ≠ .slice none 0 0 := fun e => by
        rcases ints_blk hra with ⟨_, e2⟩ | ⟨_, _, _, e2, _⟩
        · exact hne e2
        · rw [e] at e2; cases e2
      have hBl : lab' w.heap.size = .no := by rw [LJ.out _ hs3]; exact HBNO.out
      have BX4 := U4.out.blk HBXX.out (fun e => e.1 HBNO.out)
      have DF := delfP_any base w.heap.size (rv' r) l0 id w4.drew (hra.keep uq (fun _ _ h => h)) hvn (by omega) BX4.lt ((uq.blk BX4 (fun h => h)).cellAt rfl) (fun e => by have := hrb _ e; rw [hBl] at this; cases this)
      obtain ⟨p4, c4, ev4, _⟩ := own_slice hra
      rw [ev4] at lk hra hrb DF
      have DF := Lib.hid DF
      have HRA := Lib.hid hra
      have HRB := Lib.hid hrb
      have PUT := Lib.hid (fun (w2 : World) (v2 : Value) (u2 : Upd (fun k => (Value.slice p4 l0.length c4).ownBlock = some k) w4.drew w2) => (((H4.out.keep0 uq).rmap.keep u2 (fun e => by
        have := HRB.out _ e; rw [H4.out.lrm] at this; cases this)).put keyI64 Tryz.underlying145 r v2))
      have KB := Lib.hid (fun (w2 : World) (u2 : Upd (fun k => (Value.slice p4 l0.length c4).ownBlock = some k) w4.drew w2) => (u2.blk (H4.out.keep0 uq).blk (fun e => by
        have := HRB.out _ e; rw [H4.out.lblk] at this; cases this)).cellAt (i := 1) rfl)
      have KB3 := Lib.hid (fun (w2 w3 : World) (u2 : Upd (fun k => (Value.slice p4 l0.length c4).ownBlock = some k) w4.drew w2) (u3 : Upd (fun b => b = rm) w2 w3) => (u3.blk (u2.blk (H4.out.keep0 uq).blk (fun e => by
        have := HRB.out _ e; rw [H4.out.lblk] at this; cases this)) (fun e => by
        have := H4.out.lblk; rw [e, H4.out.lrm] at this; cases this)).cellAt (i := 1) rfl)
      have FLL : Hid ((l0.filter (· ≠ id)).length ≤ l0.length) := List.length_filter_le _ _
      clear uq hra hrb hrl ev4
      go_wp2
      go_region_held3 (fun w' => w'.cell? ⟨pb, 1, none⟩ = some (.map (some rm))) (go_keep)
        (first | (go_at_call 90; refine DF.out.mono ?_; rintro e w5 ⟨v5, rfl, i5, ob5, u5⟩; (have z1 := KB.out w5 u5); (obtain ⟨w6, de, m6, u6⟩ := PUT.out w5 v5 u5); (have z2 := KB3.out w5 w6 u5 u6); (unfold intEnc at de); (have I5 := Lib.hid i5); (have OB5 := Lib.hid ob5); (have U5 := Lib.hid u5); (have M6 := Lib.hid m6); (have U6 := Lib.hid u6); clear i5 u5 ob5 m6 u6))
      all_goals
        have H6 := Lib.hid (H4.out.rowTo (n := r) (v := v5) (l := l0.filter (· ≠ id)) (w1 := w5) (((Upd.refl (fun b => lab' b = .row r) w4).drew).trans U5.out (fun b _ e => HRB.out b e)) I5.out (fun b hb => by rw [OB5.out] at hb; exact Or.inl (HRB.out b hb)) M6.out U6.out)
        have UF6 : Hid (Upd (fun b => lab b ≠ .no ∧ lab b ≠ .cl id) w3 w6) := (U4.out.trans (((Upd.refl (fun b => lab' b = .row r) w4).drew).trans U5.out (fun b _ e => HRB.out b e)) (fun b hb e => by
          have e : lab' b = .row r := e
          rw [LJ.out b hb] at e; rw [e]; exact ⟨fun e => (by cases e), fun e => (by cases e)⟩)).trans U6.out (fun b _ e => by
          have e : b = rm := e
          rw [e, H.out.lrm]; exact ⟨by decide, fun e => by cases e⟩)
        have hw4 := U4.out.size
        have LF6 : Hid (∀ b, b < w3.heap.size → relab lab' (.row r) w4.heap.size w6.heap.size b = lab b) := fun b hb => by rw [relab_old (by omega)]; exact LJ.out b hb
        have lk6 := H6.out.rowLook r
        have d6 : w6.cell? ⟨pb, 1, none⟩ = some (.map (some rm)) := H6.out.blk.cellAt rfl
        rw [aget_aset, if_pos rfl] at lk6
        simp only [Option.getD_some] at lk6
        obtain ⟨p5, c5, ev5, _⟩ := own_slice I5.out
        subst ev5
        clear z1 z2 de lk I5 OB5 U5 M6 U6 PUT KB KB3 HRA HRB DF d0 d1 ck hw4 H4 U4 HJ
        generalize relab lab' (.row r) w4.heap.size w6.heap.size = lab6 at *
        by_cases hz : l0.filter (· ≠ id) = []
        · have RK := Lib.hid (RJ.out.last hL hr hz)
          have q5 : (l0.filter (· ≠ id)).length = 0 := by rw [hz]; rfl
          obtain ⟨w7, de7, m7, u7⟩ := H6.out.rmap.del keyI64 Tryz.underlying145 r 0
          have H7 := Lib.hid (H6.out.rowDel m7 u7)
          have d7 : w7.cell? ⟨pb, 0, none⟩ = some (.pointer (some ⟨xb, 0, none⟩)) := H7.out.blk.cellAt rfl
          have TD := radDrop_any w7 base xb L' E' H7.out.tree (by have := RJ.out.len; omega) s hsl2
          rw [← SK.out] at TD
          have TD := Lib.hid TD
          have U7 : Hid (Upd (fun b => lab b ≠ .no ∧ lab b ≠ .cl id) w3 w7) := UF6.out.trans u7 (fun b _ e => by
            have e : b = rm := e
            rw [e, H.out.lrm]; exact ⟨by decide, fun e => by cases e⟩)
          unfold intEnc at de7
          clear hz m7 u7
          generalize (l0.filter (· ≠ id)).length = n5 at *
          subst q5
          go_wp2_with fail
          refine (TD.out).mono ?_
          rintro e w8 ⟨rfl, u8, E8, t8, f8⟩
          have H8 := Lib.hid (H7.out.treeTo t8 u8 (fun b hb => Or.inl (f8 b hb)))
          have U8 : Hid (Upd (fun b => lab b ≠ .no ∧ lab b ≠ .cl id) w3 w8) := U7.out.trans u8 (fun b hb e => by
            have := H7.out.ltree b e
            rw [LF6.out b hb] at this; rw [this]; exact ⟨by decide, fun e => by cases e⟩)
          have hw7 := U7.out.size
          have LF8 : Hid (∀ b, b < w3.heap.size → relab lab6 .tree w7.heap.size w8.heap.size b = lab b) := fun b hb => by rw [relab_old (by omega)]; exact LF6.out b hb
          clear t8 u8 f8 de7 d7 lk6 d6
          go_wp2
          go_roundw
          case rel => exact ⟨j + 1, _, _, _, _, _, _, by simp, by omega, H8, Lib.hid (RK.out.congr (fun t i => by
            rw [TKS.out]
            constructor
            · rintro ⟨⟨a, b⟩, c⟩; exact ⟨a, fun ⟨e, m⟩ => m.elim (fun m => b ⟨e, m⟩) (fun m => c ⟨m, e⟩)⟩
            · rintro ⟨a, b⟩; exact ⟨⟨a, fun ⟨e, m⟩ => b ⟨e, Or.inl m⟩⟩, fun ⟨m, e⟩ => b ⟨e, Or.inr m⟩⟩)), U8, LF8⟩
          case measure => simp [intOf]; omega
        · have RK := Lib.hid (RJ.out.less hL hr hz)
          have q5 : ¬ (l0.filter (· ≠ id)).length = 0 := fun e => hz (List.length_eq_zero_iff.1 e)
          have FL5 := FLL.out
          clear hz
          generalize (l0.filter (· ≠ id)).length = n5 at *
          have q6 : ¬ (n5 : Int) = 0 := by omega
          clear q5
          go_wp2
          go_roundw
          case rel => exact ⟨j + 1, _, _, _, _, _, _, by simp, by omega, H6, Lib.hid (RK.out.congr (fun t i => by
            rw [TKS.out]
            constructor
            · rintro ⟨⟨a, b⟩, c⟩; exact ⟨a, fun ⟨e, m⟩ => m.elim (fun m => b ⟨e, m⟩) (fun m => c ⟨m, e⟩)⟩
            · rintro ⟨a, b⟩; exact ⟨⟨a, fun ⟨e, m⟩ => b ⟨e, Or.inl m⟩⟩, fun ⟨m, e⟩ => b ⟨e, Or.inr m⟩⟩)), UF6, LF6⟩
          case measure => simp [intOf]; omega
    · have q1 : ¬ (j : Int) < (l.length : Int) := by omega
      have hjl : j = l.length := by omega
      subst hjl
      have FIN : Hid (PAt wr base pb (fun t i => P t i ∧ i ≠ id) N fun b => lab' b ≠ .no) := ⟨xb, rm, om, lab', L', E', nx, R', rv', ri', _, qv, _, HJ.out, RJ.out.congr (fun t i => by
        rw [List.take_length]
        constructor
        · rintro ⟨a, b⟩; exact ⟨a, fun e => b ⟨e, (HOM.out t).2 (e ▸ a)⟩⟩
        · rintro ⟨a, b⟩; exact ⟨a, fun e => b e.1⟩), OG.out, rfl⟩
      have LE := Lib.hid (rfl : l.length = l.length)
      generalize hnl : l.length = nl at *
      go_wp2
      go_ret
      refine ⟨l, by rw [hnl]; rfl, HOR.out, HOM.out, _, FIN.out, U3.out.trans UJ.out (fun b _ e => e.1), fun b hb => ?_⟩
      by_cases e : b < w3.heap.size
      · rw [LJ.out b e] at hb; exact Or.inl hb
      · right; omega
end Go.Proofs.YtmlojbfcmebboaaGreat
