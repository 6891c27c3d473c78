/- Add: a client is told of a beginning. -/
import Derived.Test.YtnlbmplbaalgmaaPfxB
set_option linter.unusedVariables false
set_option linter.unusedSimpArgs false
set_option linter.unusedSectionVars false
namespace Go.Proofs.Ytnlbmplbaalgmaa
open Go.RowKit

section
variable {w w' : World} {base pb xb rm om : Nat} {lab : Nat → Lb} {L : List MarkP} {E : Nat → Prop} {nx : Int} {R : List (Int × Value)} {rv : Int → Value} {ri : Int → Option (List Int)} {Q : List (Int × Value)} {qv : Int → Value} {qi : Int → Option (List Txt)}
/-- What Add's region behind the search of a row leaves. -/
theorem PRaw.keep0 (h : PRaw w base pb xb rm om lab L E nx R rv ri Q qv qi) (u : Upd (fun _ => False) w w') : PRaw w' base pb xb rm om lab L E nx R rv ri Q qv qi := h.keep u (fun _ _ h => h)
end
set_option maxHeartbeats 4000000 in
set_option maxRecDepth 100000 in
theorem padd_raw {base pb xb rm om : Nat} {lab : Nat → Lb} {L : List MarkP} {E : Nat → Prop} {nx : Int} {R : List (Int × Value)} {rv : Int → Value} {ri : Int → Option (List Int)} {Q : List (Int × Value)} {qv : Int → Value} {qi : Int → Option (List Txt)}
    {P : Txt → Int → Prop} {N : Nat} (s : Txt) (id : Int) (w : World) (h : PRaw w base pb xb rm om lab L E nx R rv ri Q qv qi) (hR : RowsOk P N L ri nx) (hO : OfOk P N qi) (hN : N ≤ 1000) (hs : s.length ≤ 9223372036854775807) :
    Calls Try.prog 30 #[.pointer (some ⟨pb, 0, none⟩), .string (ofL s), .int .i64 id] w fun e w' => ((e = .returned (.bool false) ∧ P s id) ∨ (e = .returned (.bool true) ∧ ¬ P s id)) ∧
      ∃ F', PAt w' base pb (fun t i => P t i ∨ t = s ∧ i = id) (N + 1) F' ∧ Upd (fun b => lab b ≠ .no) w w' ∧ ∀ b, F' b → lab b ≠ .no ∨ w.heap.size ≤ b := by
  have GE := radGet_big w base xb L E s h.tree (by have := hR.len; omega) hs
  obtain ⟨sk, hsk⟩ : ∃ sk, sk = ofL s := ⟨_, rfl⟩
  rw [← hsk] at GE ⊢
  have SK := Lib.hid hsk
  have c0 : w.cell? ⟨pb, 0, none⟩ = some (ptr xb) := h.blk.cellAt rfl
  unfold ptr at c0
  have H := Lib.hid h
  have HR := Lib.hid hR
  have HO := Lib.hid hO
  clear hsk h hR hO
  by_cases hg : (getL L s).2 = true
  · have hL := HR.out.there hg
    rw [hg] at GE
    generalize (getL L s).1 = r at *
    obtain ⟨l0, hr, hrl, hne, hlN, hmem⟩ := HR.out.row s r hL
    have GE := Lib.hid GE
    have HG := Lib.hid hg
    have ROK := Lib.hid (HR.out.also (id := id) hL hr)
    clear hg
    go_enter Try.func30, Try.ntmps30
    go_wp2_with fail
    refine (GE.out).mono ?_
    rintro e wA ⟨rfl, u1⟩
    have UW : Hid (Upd (fun b => lab b ≠ .no) w wA) := u1.weaken (fun _ _ h => h.elim)
    have HA := Lib.hid (H.out.keep0 u1)
    have LABN : Hid (∀ b, lab b ≠ .no → lab b ≠ .no ∨ w.heap.size ≤ b) := fun b h => Or.inl h
    obtain ⟨hra, hrb⟩ := HA.out.rowAt r
    have LK0 : Hid ((aget R r).getD (.slice none 0 0) = rv r) := by show _ = _; rw [HA.out.rget, hr]; rfl
    rw [LK0.out, hr] at hra
    rw [LK0.out] at hrb
    simp only [Option.getD_some] at hra
    obtain ⟨p, c, ev, _⟩ := own_slice hra
    rw [ev] at hra hrb LK0
    have HRA := Lib.hid hra
    have HRB := Lib.hid hrb
    have RIS := Lib.hid hrl
    clear u1 GE hra hrb ev
    by_cases hid : id ∈ l0
    · have hc : l0.contains id = true := by simpa using hid
      have lk := HA.out.rowLook r
      have dA1 : wA.cell? ⟨pb, 1, none⟩ = some (.map (some rm)) := HA.out.blk.cellAt rfl
      rw [LK0.out] at lk
      have BS := bsi_any base (.slice p l0.length c) l0 id wA HRA.out RIS.out (by omega)
      rw [hc] at BS
      have BS := Lib.hid BS
      have PS : Hid (P s id) := (hmem id).1 hid
      clear hc hid hmem hrl hne
      go_wp2_with fail
      refine (BS.out).mono ?_
      rintro e w2 ⟨rfl, q, rfl⟩
      go_wp2
      go_ret
      exact ⟨Or.inl ⟨rfl, PS.out⟩, _, PAt.more (N := N) (PAt.congr ⟨xb, rm, om, lab, L, E, nx, R, rv, ri, Q, qv, qi, HA.out.keep0 ((Upd.refl _ _).drewN q), HR.out, HO.out, rfl⟩ (fun t i => ⟨Or.inl, fun g => g.elim (fun g => g) (fun g => by rw [g.1, g.2]; exact PS.out)⟩)) (by omega), UW.out.drewN q, fun b hb => Or.inl hb⟩
    · have NIN : Hid (l0.contains id = false) := by show _ = _; simpa using hid
      have PS : Hid (¬ P s id) := fun g => hid ((hmem id).2 g)
      have WO := Lib.hid (wth_out hrl hid)
      obtain ⟨labA, hlabA⟩ : ∃ labA, labA = lab := ⟨_, rfl⟩
      rw [← hlabA] at HA HRB
      have LABN : Hid (∀ b, labA b ≠ .no → lab b ≠ .no ∨ w.heap.size ≤ b) := by show ∀ _, _; rw [hlabA]; exact LABN.out
      clear hid hmem hrl hne hr hlabA
      have lk := HA.out.rowLook r
      have dA1 : wA.cell? ⟨pb, 1, none⟩ = some (.map (some rm)) := HA.out.blk.cellAt rfl
      rw [LK0.out] at lk
      have BS := bsi_any base (.slice p l0.length c) l0 id wA HRA.out RIS.out (by omega)
      rw [NIN.out] at BS
      have BS := Lib.hid BS
      have hcl : l0.countP (· < id) ≤ l0.length := List.countP_le_length
      generalize hi : l0.countP (· < id) = i at *
      clear hi
      go_wp2_with fail
      refine (BS.out).mono ?_
      rintro e w2 ⟨rfl, q, rfl⟩
      have uq : Upd (fun _ => False) wA (wA.drewN (q + 1)) := (Upd.refl _ _).drewN _
      have ua : Upd (fun _ => False) wA ((wA.drewN (q + 1)).alloc (.cells #[.int .i64 id] 3)) := uq.alloc _
      have lk1 := (HA.out.keep0 uq).rowLook r
      rw [LK0.out] at lk1
      have lk2 := (HA.out.keep0 ua).rowLook r
      rw [LK0.out] at lk2
      have IN := insert_any base i wA.heap.size (.slice p l0.length c) l0 id ((wA.drewN (q + 1)).alloc (.cells #[.int .i64 id] 3)) (HRA.out.keep ua (fun _ _ h => h)) hcl (Blk.made (wA.drewN (q + 1)) [.int .i64 id] _) (Nat.le_trans HA.out.bl ua.size) (fun e => by have := (ints_block HRA.out e).2.1; omega) (by omega)
      rw [← WO.out] at IN
      have IN := Lib.hid IN
      have PUT := Lib.hid (fun (w2 : World) (v2 : Value) (u2 : Upd (fun k => (Value.slice p l0.length c).ownBlock = some k) ((wA.drewN (q + 1)).alloc (.cells #[.int .i64 id] 3)) w2) => (((HA.out.keep0 ua).rmap.keep u2 (fun e => by
        have := HRB.out _ e; rw [HA.out.lrm] at this; cases this)).put keyI64 Try.underlying59 r v2))
      have KB := Lib.hid (fun (w2 : World) (u2 : Upd (fun k => (Value.slice p l0.length c).ownBlock = some k) ((wA.drewN (q + 1)).alloc (.cells #[.int .i64 id] 3)) w2) => (u2.blk (HA.out.keep0 ua).blk (fun e => by
        have := HRB.out _ e; rw [HA.out.lblk] at this; cases this)).cellAt (i := 1) rfl)
      have KB3 := Lib.hid (fun (w2 w3 : World) (u2 : Upd (fun k => (Value.slice p l0.length c).ownBlock = some k) ((wA.drewN (q + 1)).alloc (.cells #[.int .i64 id] 3)) w2) (u3 : Upd (fun b => b = rm) w2 w3) => (u3.blk (u2.blk (HA.out.keep0 ua).blk (fun e => by
        have := HRB.out _ e; rw [HA.out.lblk] at this; cases this)) (fun e => by
        have := HA.out.lblk; rw [e, HA.out.lrm] at this; cases this)).cellAt (i := 1) rfl)
      have UA := Lib.hid ua
      clear uq ua
      go_wp2
      go_region_held3 (fun w' => w'.cell? ⟨pb, 1, none⟩ = some (.map (some rm))) (go_keep)
        (first | (go_at_call 52; refine IN.out.mono ?_; rintro e w3 ⟨v3, rfl, i3, u3, o3⟩; (have y1 := KB.out w3 u3); (obtain ⟨w4, de, m4, u4⟩ := PUT.out w3 v3 u3); (have y2 := KB3.out w3 w4 u3 u4); (unfold intEnc at de); (have I3 := Lib.hid i3); (have U3 := Lib.hid u3); (have O3 := Lib.hid o3); (have M4 := Lib.hid m4); (have U4 := Lib.hid u4); clear i3 u3 o3 m4 u4))
      all_goals
        have HB := HA.out.rowTo (w1 := w3) (UA.out.weaken (fun _ _ h => h.elim) |>.trans U3.out (fun b _ e => HRB.out b e)) I3.out (fun b hb => by
          rcases O3.out b hb with g | g
          · exact Or.inl (HRB.out b g)
          · exact Or.inr (Nat.le_trans UA.out.size g)) M4.out U4.out
        have u04 : Upd (fun b => lab b ≠ .no) w w4 := (UW.out.trans (UA.out.weaken (fun _ _ h => h.elim) |>.trans U3.out (fun b _ e => (show labA b ≠ .no by rw [HRB.out b e]; exact fun e => by cases e))) (fun b hb e => (LABN.out b e).elim (fun g => g) (fun g => by omega))).trans U4.out (fun b hb e => by
          have e : b = rm := e
          subst e; exact (LABN.out b (by rw [HA.out.lrm]; decide)).elim (fun g => g) (fun g => by omega))
        have lab4 : ∀ b, relab labA (.row r) wA.heap.size w4.heap.size b ≠ .no → lab b ≠ .no ∨ w.heap.size ≤ b := fun b hb => by
          by_cases e : wA.heap.size ≤ b ∧ b < w4.heap.size
          · right; have := UW.out.size; omega
          · rw [show relab labA (.row r) wA.heap.size w4.heap.size b = labA b from if_neg e] at hb; exact LABN.out b hb
        have HB := Lib.hid HB
        have UB := Lib.hid u04
        have LABB := Lib.hid lab4
        clear y1 y2 de lk lk1 lk2 dA1 IN PUT KB KB3 UA I3 U3 O3 M4 U4 HRA HRB BS WO u04 lab4
        generalize relab labA (.row r) wA.heap.size w4.heap.size = labB at *
        generalize aset R r v3 = R2 at *
        generalize upd rv r v3 = rv2 at *
        generalize upd ri r (some (wth l0 id)) = ri2 at *
        have lc := HB.out.clLook id
        have dB3 : w4.cell? ⟨pb, 3, none⟩ = some (.map (some om)) := HB.out.blk.cellAt rfl
        obtain ⟨hca, hcb⟩ := HB.out.clAt id
        obtain ⟨hor, hol, hom⟩ := HO.out.at_ id
        have OAL := Lib.hid (HO.out.also s id)
        obtain ⟨pc, cc, ec, _⟩ := own_slice hca
        rw [ec] at lc hca hcb
        have LC0 := Lib.hid ec
        have BT := bss_any base _ _ s w4 hca hor (by omega)
        have hnin : s ∉ (qi id).getD [] := fun g => PS.out ((hom s).1 g)
        have WO2 := Lib.hid (wth_out hor hnin)
        rw [← SK.out] at BT
        have BT := Lib.hid BT
        have HCA := Lib.hid hca
        have HCB := Lib.hid hcb
        generalize hl2 : (qi id).getD [] = l2 at *
        have hcl2 : l2.countP (· < s) ≤ l2.length := List.countP_le_length
        generalize hi2 : l2.countP (· < s) = i2 at *
        clear hi2 hl2 hca hcb hor hom ec hnin
        go_wp2_with fail
        refine (BT.out).mono ?_
        rintro e w5 ⟨b5, rfl, q2, rfl⟩
        have uq : Upd (fun _ => False) w4 (w4.drewN (q2 + 1)) := (Upd.refl _ _).drewN _
        have ua : Upd (fun _ => False) w4 ((w4.drewN (q2 + 1)).alloc (.cells #[.string sk] 9)) := uq.alloc _
        have lc1 := (HB.out.keep0 uq).clLook id
        rw [LC0.out] at lc1
        have lc2 := (HB.out.keep0 ua).clLook id
        rw [LC0.out] at lc2
        have IN := insertT_any base i2 w4.heap.size (.slice pc l2.length cc) l2 s ((w4.drewN (q2 + 1)).alloc (.cells #[.string sk] 9)) (own_keep HCA.out ua (fun _ _ h => h)) hcl2 (by rw [← SK.out]; exact Blk.made (w4.drewN (q2 + 1)) [.string sk] _) (Nat.le_trans HB.out.bl ua.size) (fun e => by have := (txts_block HCA.out e).2.1; omega) (by omega)
        rw [← WO2.out] at IN
        have IN := Lib.hid IN
        have PUT := Lib.hid (fun (w2 : World) (v2 : Value) (u2 : Upd (fun k => (Value.slice pc l2.length cc).ownBlock = some k) ((w4.drewN (q2 + 1)).alloc (.cells #[.string sk] 9)) w2) => (((HB.out.keep0 ua).qmap.keep u2 (fun e => by
          have := HCB.out _ e; rw [HB.out.lom] at this; cases this)).put keyI Try.underlying60 id v2))
        have KB := Lib.hid (fun (w2 : World) (u2 : Upd (fun k => (Value.slice pc l2.length cc).ownBlock = some k) ((w4.drewN (q2 + 1)).alloc (.cells #[.string sk] 9)) w2) => (u2.blk (HB.out.keep0 ua).blk (fun e => by
          have := HCB.out _ e; rw [HB.out.lblk] at this; cases this)).cellAt (i := 3) rfl)
        have KB3 := Lib.hid (fun (w2 w3 : World) (u2 : Upd (fun k => (Value.slice pc l2.length cc).ownBlock = some k) ((w4.drewN (q2 + 1)).alloc (.cells #[.string sk] 9)) w2) (u3 : Upd (fun b => b = om) w2 w3) => (u3.blk (u2.blk (HB.out.keep0 ua).blk (fun e => by
          have := HCB.out _ e; rw [HB.out.lblk] at this; cases this)) (fun e => by
          have := HB.out.lblk; rw [e, HB.out.lom] at this; cases this)).cellAt (i := 3) rfl)
        have UA := Lib.hid ua
        clear uq ua
        go_wp2
        go_region_held3 (fun w' => w'.cell? ⟨pb, 3, none⟩ = some (.map (some om))) (go_keep)
          (first | (go_at_call 54; refine IN.out.mono ?_; rintro e w6 ⟨v6, rfl, i6, u6, o6⟩; (have y1 := KB.out w6 u6); (obtain ⟨w7, de, m7, u7⟩ := PUT.out w6 v6 u6); (have y2 := KB3.out w6 w7 u6 u7); (unfold intEnc at de); (have I6 := Lib.hid i6); (have U6 := Lib.hid u6); (have O6 := Lib.hid o6); (have M7 := Lib.hid m7); (have U7 := Lib.hid u7); clear i6 u6 o6 m7 u7))
        all_goals
          go_wp2
          go_ret
          have HC := HB.out.clTo (w1 := w6) (UA.out.weaken (fun _ _ h => h.elim) |>.trans U6.out (fun b _ e => HCB.out b e)) I6.out (fun b hb => by
            rcases O6.out b hb with g | g
            · exact Or.inl (HCB.out b g)
            · exact Or.inr (Nat.le_trans UA.out.size g)) M7.out U7.out
          refine ⟨Or.inr ⟨rfl, PS.out⟩, _, ⟨xb, rm, om, _, _, _, _, _, _, _, _, _, _, HC, ROK.out, OAL.out, rfl⟩, (UB.out.trans (UA.out.weaken (fun _ _ h => h.elim) |>.trans U6.out (fun b _ e => (show labB b ≠ .no by rw [HCB.out b e]; exact fun e => by cases e))) (fun b hb e => (LABB.out b e).elim (fun g => g) (fun g => by omega))).trans U7.out (fun b hb e => by
            have e : b = om := e
            subst e; exact (LABB.out b (by rw [HB.out.lom]; decide)).elim (fun g => g) (fun g => by omega)), fun b hb => ?_⟩
          by_cases e : w4.heap.size ≤ b ∧ b < w7.heap.size
          · right; have := UB.out.size; omega
          · rw [show relab labB (.cl id) w4.heap.size w7.heap.size b = labB b from if_neg e] at hb; exact LABB.out b hb
  · generalize nx = r at *
    have hg2 : (getL L s).2 = false := by simpa using hg
    rw [hg2] at GE
    generalize (getL L s).1 = g1 at *
    have GE := Lib.hid GE
    have hno : ∀ n, (s, n) ∉ L := fun n hn => hg ((getL_iff HR.out.rise s).2 ⟨n, hn⟩)
    have PS : Hid (¬ P s id) := fun hp => by obtain ⟨n, hn⟩ := HR.out.key s id hp; exact hno n hn
    have hrn : ri r = none := by
      cases e : ri r with
      | none => rfl
      | some l => obtain ⟨t, ht⟩ := HR.out.rev r l e; have := (HR.out.num t r ht).2; omega
    obtain ⟨l0, hl0⟩ : ∃ l0 : List Int, l0 = [] := ⟨_, rfl⟩
    have ROK : Hid (RowsOk (fun t i => P t i ∨ t = s ∧ i = id) (N + 1) (putM s r L) (upd ri r (some (wth l0 id))) (r + 1)) := by
      have := HR.out.fresh (id := id) hg hs
      rw [hl0]; exact this
    have hn0 := HR.out.nx
    have qw : IntKind.i64.wrap (r + 1) = r + 1 := IntWalk.i64_in _ (by omega)
    have LEN := HR.out.len
    clear hg hg2 hno
    go_enter Try.func30, Try.ntmps30
    go_wp2_with fail
    refine (GE.out).mono ?_
    rintro e w1 ⟨rfl, u1⟩
    have H1 := H.out.keep0 u1
    have d2 : w1.cell? ⟨pb, 2, none⟩ = some (.int .i64 r) := H1.blk.cellAt rfl
    have f2 : w1.frozen? ⟨pb, 2, none⟩ = false := H1.blk.free 2
    have d0 : (w1.setCell ⟨pb, 2, none⟩ (.int .i64 (r + 1))).cell? ⟨pb, 0, none⟩ = some (.pointer (some ⟨xb, 0, none⟩)) := (H1.nxTo (r + 1)).blk.cellAt rfl
    have HS := Lib.hid (H1.nxTo (r + 1))
    have UWS : Hid (Upd (fun b => lab b ≠ .no) w (w1.setCell ⟨pb, 2, none⟩ (.int .i64 (r + 1)))) := (u1.weaken (F := fun b => lab b ≠ .no) (fun _ _ h => h.elim)).set (fun _ => by rw [H1.lblk]; decide)
    have PUT := radPut_any _ base xb L E HS.out.tree (by omega) HS.out.bl s r hs
    rw [← SK.out] at PUT
    have PUT := Lib.hid PUT
    clear u1 GE H1
    go_wp2_with fail
    refine (PUT.out).mono ?_
    rintro e wA ⟨rfl, uA, E', tA, fA⟩
    have HA := Lib.hid (HS.out.treeTo tA uA fA)
    have UW : Hid (Upd (fun b => lab b ≠ .no) w wA) := UWS.out.trans uA (fun b _ e => by rw [HS.out.ltree b e]; decide)
    have LABN : Hid (∀ b, relab lab .tree (w1.setCell ⟨pb, 2, none⟩ (.int .i64 (r + 1))).heap.size wA.heap.size b ≠ .no → lab b ≠ .no ∨ w.heap.size ≤ b) := fun b hb => by
      by_cases e : (w1.setCell ⟨pb, 2, none⟩ (.int .i64 (r + 1))).heap.size ≤ b ∧ b < wA.heap.size
      · right; have := UWS.out.size; omega
      · rw [show relab lab .tree (w1.setCell ⟨pb, 2, none⟩ (.int .i64 (r + 1))).heap.size wA.heap.size b = lab b from if_neg e] at hb; exact Or.inl hb
    generalize relab lab .tree (w1.setCell ⟨pb, 2, none⟩ (.int .i64 (r + 1))).heap.size wA.heap.size = labA at *
    obtain ⟨hra, hrb⟩ := HA.out.rowAt r
    obtain ⟨p, hp⟩ : ∃ p : Option Addr, p = none := ⟨_, rfl⟩
    obtain ⟨c, hc⟩ : ∃ c : Nat, c = 0 := ⟨_, rfl⟩
    have LK0 : Hid ((aget R r).getD (.slice none 0 0) = .slice p l0.length c) := by show _ = _; rw [HA.out.rget, hrn, hp, hc, hl0]; rfl
    rw [LK0.out, hrn, show (none : Option (List Int)).getD [] = l0 from hl0.symm] at hra
    rw [LK0.out] at hrb
    have HRA := Lib.hid hra
    have HRB := Lib.hid hrb
    have RIS : Hid (Rising l0) := by rw [hl0]; exact List.Pairwise.nil
    have NIN : Hid (l0.contains id = false) := by rw [hl0]; rfl
    have WO : Hid (wth l0 id = l0.take (l0.countP (· < id)) ++ id :: l0.drop (l0.countP (· < id))) := wth_out RIS.out (by rw [hl0]; simp)
    have hlN : l0.length ≤ N := by rw [hl0]; simp
    clear tA uA fA PUT HS UWS d0 d2 f2 hra hrb hl0 hp hc hrn qw
    have lk := HA.out.rowLook r
    have dA1 : wA.cell? ⟨pb, 1, none⟩ = some (.map (some rm)) := HA.out.blk.cellAt rfl
    rw [LK0.out] at lk
    have BS := bsi_any base (.slice p l0.length c) l0 id wA HRA.out RIS.out (by omega)
    rw [NIN.out] at BS
    have BS := Lib.hid BS
    have hcl : l0.countP (· < id) ≤ l0.length := List.countP_le_length
    generalize hi : l0.countP (· < id) = i at *
    clear hi
    go_wp2_with fail
    refine (BS.out).mono ?_
    rintro e w2 ⟨rfl, q, rfl⟩
    have uq : Upd (fun _ => False) wA (wA.drewN (q + 1)) := (Upd.refl _ _).drewN _
    have ua : Upd (fun _ => False) wA ((wA.drewN (q + 1)).alloc (.cells #[.int .i64 id] 3)) := uq.alloc _
    have lk1 := (HA.out.keep0 uq).rowLook r
    rw [LK0.out] at lk1
    have lk2 := (HA.out.keep0 ua).rowLook r
    rw [LK0.out] at lk2
    have IN := insert_any base i wA.heap.size (.slice p l0.length c) l0 id ((wA.drewN (q + 1)).alloc (.cells #[.int .i64 id] 3)) (HRA.out.keep ua (fun _ _ h => h)) hcl (Blk.made (wA.drewN (q + 1)) [.int .i64 id] _) (Nat.le_trans HA.out.bl ua.size) (fun e => by have := (ints_block HRA.out e).2.1; omega) (by omega)
    rw [← WO.out] at IN
    have IN := Lib.hid IN
    have PUT := Lib.hid (fun (w2 : World) (v2 : Value) (u2 : Upd (fun k => (Value.slice p l0.length c).ownBlock = some k) ((wA.drewN (q + 1)).alloc (.cells #[.int .i64 id] 3)) w2) => (((HA.out.keep0 ua).rmap.keep u2 (fun e => by
      have := HRB.out _ e; rw [HA.out.lrm] at this; cases this)).put keyI64 Try.underlying59 r v2))
    have KB := Lib.hid (fun (w2 : World) (u2 : Upd (fun k => (Value.slice p l0.length c).ownBlock = some k) ((wA.drewN (q + 1)).alloc (.cells #[.int .i64 id] 3)) w2) => (u2.blk (HA.out.keep0 ua).blk (fun e => by
      have := HRB.out _ e; rw [HA.out.lblk] at this; cases this)).cellAt (i := 1) rfl)
    have KB3 := Lib.hid (fun (w2 w3 : World) (u2 : Upd (fun k => (Value.slice p l0.length c).ownBlock = some k) ((wA.drewN (q + 1)).alloc (.cells #[.int .i64 id] 3)) w2) (u3 : Upd (fun b => b = rm) w2 w3) => (u3.blk (u2.blk (HA.out.keep0 ua).blk (fun e => by
      have := HRB.out _ e; rw [HA.out.lblk] at this; cases this)) (fun e => by
      have := HA.out.lblk; rw [e, HA.out.lrm] at this; cases this)).cellAt (i := 1) rfl)
    have UA := Lib.hid ua
    clear uq ua
    go_wp2
    go_region_held3 (fun w' => w'.cell? ⟨pb, 1, none⟩ = some (.map (some rm))) (go_keep)
      (first | (go_at_call 52; refine IN.out.mono ?_; rintro e w3 ⟨v3, rfl, i3, u3, o3⟩; (have y1 := KB.out w3 u3); (obtain ⟨w4, de, m4, u4⟩ := PUT.out w3 v3 u3); (have y2 := KB3.out w3 w4 u3 u4); (unfold intEnc at de); (have I3 := Lib.hid i3); (have U3 := Lib.hid u3); (have O3 := Lib.hid o3); (have M4 := Lib.hid m4); (have U4 := Lib.hid u4); clear i3 u3 o3 m4 u4))
    all_goals
      have HB := HA.out.rowTo (w1 := w3) (UA.out.weaken (fun _ _ h => h.elim) |>.trans U3.out (fun b _ e => HRB.out b e)) I3.out (fun b hb => by
        rcases O3.out b hb with g | g
        · exact Or.inl (HRB.out b g)
        · exact Or.inr (Nat.le_trans UA.out.size g)) M4.out U4.out
      have u04 : Upd (fun b => lab b ≠ .no) w w4 := (UW.out.trans (UA.out.weaken (fun _ _ h => h.elim) |>.trans U3.out (fun b _ e => (show labA b ≠ .no by rw [HRB.out b e]; exact fun e => by cases e))) (fun b hb e => (LABN.out b e).elim (fun g => g) (fun g => by omega))).trans U4.out (fun b hb e => by
        have e : b = rm := e
        subst e; exact (LABN.out b (by rw [HA.out.lrm]; decide)).elim (fun g => g) (fun g => by omega))
      have lab4 : ∀ b, relab labA (.row r) wA.heap.size w4.heap.size b ≠ .no → lab b ≠ .no ∨ w.heap.size ≤ b := fun b hb => by
        by_cases e : wA.heap.size ≤ b ∧ b < w4.heap.size
        · right; have := UW.out.size; omega
        · rw [show relab labA (.row r) wA.heap.size w4.heap.size b = labA b from if_neg e] at hb; exact LABN.out b hb
      have HB := Lib.hid HB
      have UB := Lib.hid u04
      have LABB := Lib.hid lab4
      clear y1 y2 de lk lk1 lk2 dA1 IN PUT KB KB3 UA I3 U3 O3 M4 U4 HRA HRB BS WO u04 lab4
      generalize relab labA (.row r) wA.heap.size w4.heap.size = labB at *
      generalize aset R r v3 = R2 at *
      generalize upd rv r v3 = rv2 at *
      generalize upd ri r (some (wth l0 id)) = ri2 at *
      have lc := HB.out.clLook id
      have dB3 : w4.cell? ⟨pb, 3, none⟩ = some (.map (some om)) := HB.out.blk.cellAt rfl
      obtain ⟨hca, hcb⟩ := HB.out.clAt id
      obtain ⟨hor, hol, hom⟩ := HO.out.at_ id
      have OAL := Lib.hid (HO.out.also s id)
      obtain ⟨pc, cc, ec, _⟩ := own_slice hca
      rw [ec] at lc hca hcb
      have LC0 := Lib.hid ec
      have BT := bss_any base _ _ s w4 hca hor (by omega)
      have hnin : s ∉ (qi id).getD [] := fun g => PS.out ((hom s).1 g)
      have WO2 := Lib.hid (wth_out hor hnin)
      rw [← SK.out] at BT
      have BT := Lib.hid BT
      have HCA := Lib.hid hca
      have HCB := Lib.hid hcb
      generalize hl2 : (qi id).getD [] = l2 at *
      have hcl2 : l2.countP (· < s) ≤ l2.length := List.countP_le_length
      generalize hi2 : l2.countP (· < s) = i2 at *
      clear hi2 hl2 hca hcb hor hom ec hnin
      go_wp2_with fail
      refine (BT.out).mono ?_
      rintro e w5 ⟨b5, rfl, q2, rfl⟩
      have uq : Upd (fun _ => False) w4 (w4.drewN (q2 + 1)) := (Upd.refl _ _).drewN _
      have ua : Upd (fun _ => False) w4 ((w4.drewN (q2 + 1)).alloc (.cells #[.string sk] 9)) := uq.alloc _
      have lc1 := (HB.out.keep0 uq).clLook id
      rw [LC0.out] at lc1
      have lc2 := (HB.out.keep0 ua).clLook id
      rw [LC0.out] at lc2
      have IN := insertT_any base i2 w4.heap.size (.slice pc l2.length cc) l2 s ((w4.drewN (q2 + 1)).alloc (.cells #[.string sk] 9)) (own_keep HCA.out ua (fun _ _ h => h)) hcl2 (by rw [← SK.out]; exact Blk.made (w4.drewN (q2 + 1)) [.string sk] _) (Nat.le_trans HB.out.bl ua.size) (fun e => by have := (txts_block HCA.out e).2.1; omega) (by omega)
      rw [← WO2.out] at IN
      have IN := Lib.hid IN
      have PUT := Lib.hid (fun (w2 : World) (v2 : Value) (u2 : Upd (fun k => (Value.slice pc l2.length cc).ownBlock = some k) ((w4.drewN (q2 + 1)).alloc (.cells #[.string sk] 9)) w2) => (((HB.out.keep0 ua).qmap.keep u2 (fun e => by
        have := HCB.out _ e; rw [HB.out.lom] at this; cases this)).put keyI Try.underlying60 id v2))
      have KB := Lib.hid (fun (w2 : World) (u2 : Upd (fun k => (Value.slice pc l2.length cc).ownBlock = some k) ((w4.drewN (q2 + 1)).alloc (.cells #[.string sk] 9)) w2) => (u2.blk (HB.out.keep0 ua).blk (fun e => by
        have := HCB.out _ e; rw [HB.out.lblk] at this; cases this)).cellAt (i := 3) rfl)
      have KB3 := Lib.hid (fun (w2 w3 : World) (u2 : Upd (fun k => (Value.slice pc l2.length cc).ownBlock = some k) ((w4.drewN (q2 + 1)).alloc (.cells #[.string sk] 9)) w2) (u3 : Upd (fun b => b = om) w2 w3) => (u3.blk (u2.blk (HB.out.keep0 ua).blk (fun e => by
        have := HCB.out _ e; rw [HB.out.lblk] at this; cases this)) (fun e => by
        have := HB.out.lblk; rw [e, HB.out.lom] at this; cases this)).cellAt (i := 3) rfl)
      have UA := Lib.hid ua
      clear uq ua
      go_wp2
      go_region_held3 (fun w' => w'.cell? ⟨pb, 3, none⟩ = some (.map (some om))) (go_keep)
        (first | (go_at_call 54; refine IN.out.mono ?_; rintro e w6 ⟨v6, rfl, i6, u6, o6⟩; (have y1 := KB.out w6 u6); (obtain ⟨w7, de, m7, u7⟩ := PUT.out w6 v6 u6); (have y2 := KB3.out w6 w7 u6 u7); (unfold intEnc at de); (have I6 := Lib.hid i6); (have U6 := Lib.hid u6); (have O6 := Lib.hid o6); (have M7 := Lib.hid m7); (have U7 := Lib.hid u7); clear i6 u6 o6 m7 u7))
      all_goals
        go_wp2
        go_ret
        have HC := HB.out.clTo (w1 := w6) (UA.out.weaken (fun _ _ h => h.elim) |>.trans U6.out (fun b _ e => HCB.out b e)) I6.out (fun b hb => by
          rcases O6.out b hb with g | g
          · exact Or.inl (HCB.out b g)
          · exact Or.inr (Nat.le_trans UA.out.size g)) M7.out U7.out
        refine ⟨Or.inr ⟨rfl, PS.out⟩, _, ⟨xb, rm, om, _, _, _, _, _, _, _, _, _, _, HC, ROK.out, OAL.out, rfl⟩, (UB.out.trans (UA.out.weaken (fun _ _ h => h.elim) |>.trans U6.out (fun b _ e => (show labB b ≠ .no by rw [HCB.out b e]; exact fun e => by cases e))) (fun b hb e => (LABB.out b e).elim (fun g => g) (fun g => by omega))).trans U7.out (fun b hb e => by
          have e : b = om := e
          subst e; exact (LABB.out b (by rw [HB.out.lom]; decide)).elim (fun g => g) (fun g => by omega)), fun b hb => ?_⟩
        by_cases e : w4.heap.size ≤ b ∧ b < w7.heap.size
        · right; have := UB.out.size; omega
        · rw [show relab labB (.cl id) w4.heap.size w7.heap.size b = labB b from if_neg e] at hb; exact LABB.out b hb
end Go.Proofs.Ytnlbmplbaalgmaa
