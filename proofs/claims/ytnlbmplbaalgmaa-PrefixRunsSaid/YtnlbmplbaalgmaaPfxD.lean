/- Drop: a client leaves. -/
import Derived.Test.YtnlbmplbaalgmaaPfxC
set_option linter.unusedVariables false
set_option linter.unusedSimpArgs false
set_option linter.unusedSectionVars false
namespace Go.Proofs.Ytnlbmplbaalgmaa
open Go.RowKit

set_option maxHeartbeats 4000000 in
set_option maxRecDepth 100000 in
theorem pdrop_raw {base pb xb rm om : Nat} {lab : Nat → Lb} {L : List MarkP} {E : Nat → Prop} {nx : Int} {R : List (Int × Value)} {rv : Int → Value} {ri : Int → Option (List Int)} {Q : List (Int × Value)} {qv : Int → Value} {qi : Int → Option (List Txt)}
    {P : Txt → Int → Prop} {N : Nat} (id : Int) (w : World) (h : PRaw w base pb xb rm om lab L E nx R rv ri Q qv qi) (hR : RowsOk P N L ri nx) (hO : OfOk P N qi) (hN : N ≤ 1000) :
    Calls Try.prog 35 #[.pointer (some ⟨pb, 0, none⟩), .int .i64 id] w fun e w' => ∃ l : List Txt, e = .returned (.int .i64 (l.length : Int)) ∧ Rising l ∧ (∀ t, t ∈ l ↔ P t id) ∧
      ∃ F', PAt w' base pb (fun t i => P t i ∧ i ≠ id) N F' ∧ Upd (fun b => lab b ≠ .no) w w' ∧ ∀ b, F' b → lab b ≠ .no ∨ w.heap.size ≤ b := by
  have uB : Upd (fun _ => False) w (w.alloc (.cells #[.int .i64 id] 3)) := (Upd.refl _ _).alloc _
  have BX : Blk (w.alloc (.cells #[.int .i64 id] 3)) w.heap.size [.int .i64 id] 3 := Blk.made w [.int .i64 id] _
  have H := Lib.hid (h.keep0 uB)
  have H0 := Lib.hid h
  have cB := BX.cellAt (i := 0) (v := .int .i64 id) rfl
  have c3 : (w.alloc (.cells #[.int .i64 id] 3)).cell? ⟨pb, 3, none⟩ = some (.map (some om)) := H.out.blk.cellAt rfl
  have lc := H.out.clLook id
  have HR := Lib.hid hR
  have HO := Lib.hid hO
  have UB := Lib.hid uB
  have HBX := Lib.hid BX
  clear h hR hO uB BX
  go_enter Try.func35, Try.ntmps35
  go_wp2
  have lc := (H.out.keep0 ((Upd.refl _ _).drew)).clLook id
  have u1 : Upd (fun _ => False) (w.alloc (.cells #[.int .i64 id] 3)) (w.alloc (.cells #[.int .i64 id] 3)).drew.drew := (Upd.refl _ _).drew.drew
  have H1 := H.out.keep0 u1
  obtain ⟨w3, de, m3, u3⟩ := H1.qmap.del keyI Try.underlying60 id 0
  obtain ⟨hca, hcb⟩ := H.out.clAt id
  obtain ⟨hor, hol, hom⟩ := HO.out.at_ id
  obtain ⟨p, c, ec, _⟩ := own_slice hca
  rw [ec] at lc hca hcb
  unfold intEnc at de
  have hBno : lab w.heap.size = .no := Decidable.not_not.1 fun e => by
    have := (H.out.bnd _ e).2
    have hh := (H0.out.bnd _ e).2; omega
  have hBom : w.heap.size ≠ om := fun e => by rw [e, H.out.lom] at hBno; cases hBno
  have y1 : w3.cell? ⟨pb, 3, none⟩ = some (.map (some om)) := (u3.blk H1.blk (fun e => by have := H1.lblk; rw [e, H1.lom] at this; cases this)).cellAt rfl
  have BX3 := u3.blk (u1.blk HBX.out (fun h => h)) hBom
  have y2 : w3.cell? ⟨w.heap.size, 0, none⟩ = some (.int .i64 id) := BX3.cellAt rfl
  have HD := Lib.hid (H1.clDel m3 u3)
  have OG := Lib.hid (HO.out.gone id)
  have U3 : Hid (Upd (fun b => lab b ≠ .no) w w3) := ((UB.out.trans u1 (fun _ _ h => h)).weaken (F := fun b => lab b ≠ .no) (fun _ _ h => h.elim)).trans u3 (fun b _ e => by
    have e : b = om := e
    rw [e, H.out.lom]; decide)
  have HCA : Hid (TxtsAt w3 base (.slice p ((qi id).getD []).length c) ((qi id).getD [])) := own_keep (own_keep hca u1 (fun _ _ h => h)) u3 (fun b hb e => by
    have e : b = om := e
    have := hcb b hb; rw [e, H.out.lom] at this; cases this)
  have HCB := Lib.hid hcb
  have HOR := Lib.hid hor
  have HOM := Lib.hid hom
  have HBXX := Lib.hid BX3
  have hs3 : w.heap.size < w3.heap.size := BX3.lt
  generalize (qi id).getD [] = l at *
  have HBNO := Lib.hid hBno
  clear H1 hca hcb hor hom BX3 m3 u3 u1 hBno
  go_region_held3 (fun w' => w'.cell? ⟨pb, 3, none⟩ = some (.map (some om)) ∧ w'.cell? ⟨w.heap.size, 0, none⟩ = some (.int .i64 id)) (go_keep) (fail)
  go_wp2
  go_region_held3 (fun w' => w'.cell? ⟨pb, 3, none⟩ = some (.map (some om)) ∧ w'.cell? ⟨w.heap.size, 0, none⟩ = some (.int .i64 id)) (go_keep) (fail)
  clear lc de y1 y2 c3 cB
  go_wp2
  go_loopw [23] (fun x wr => ∃ (j : Nat) (lab' : Nat → Lb) (L' : List MarkP) (E' : Nat → Prop) (R' : List (Int × Value)) (rv' : Int → Value) (ri' : Int → Option (List Int)), x = .int .i64 (j : Int) ∧ j ≤ l.length ∧
      Hid (PRaw wr base pb xb rm om lab' L' E' nx R' rv' ri' (adel Q id) qv (upd qi id none)) ∧ Hid (RowsOk (fun t i => P t i ∧ ¬ (i = id ∧ t ∈ l.take j)) N L' ri' nx) ∧
      Hid (Upd (fun b => lab b ≠ .no ∧ lab b ≠ .cl id) w3 wr) ∧ Hid (∀ b, b < w3.heap.size → lab' b = lab b)) (fun x _ => l.length - (intOf x).toNat)
  case atStart => exact ⟨0, lab, L, E, R, rv, ri, rfl, by omega, HD, Lib.hid (HR.out.congr (fun t i => by simp)), Lib.hid (Upd.refl _ _), Lib.hid (fun b _ => rfl)⟩
  case round =>
    obtain ⟨j, lab', L', E', R', rv', ri', rfl, hj, HJ, RJ, UJ, LJ⟩ := hrel
    have hsz := UJ.out.size
    by_cases hlt : j < l.length
    · have q1 : (j : Int) < (l.length : Int) := by omega
      obtain ⟨g, ep, hg, ck⟩ := txts_get (own_keep HCA.out UJ.out (fun b hb e => e.2 (HCB.out b hb))) hlt
      subst ep
      obtain ⟨s, hs⟩ : ∃ s, s = l[j] := ⟨_, rfl⟩
      rw [← hs] at ck
      have hsl : s ∈ l := hs ▸ List.getElem_mem hlt
      have hnt : s ∉ l.take j := fun hm => by
        obtain ⟨i, hi, e⟩ := List.mem_iff_getElem.1 hm
        rw [List.length_take] at hi
        rw [List.getElem_take, hs] at e
        have := List.pairwise_iff_getElem.1 HOR.out i j (by omega) hlt (by omega)
        rw [e] at this; exact LinO.irr _ this
      have hP : P s id := (HOM.out s).1 hsl
      obtain ⟨r0, hr0⟩ := RJ.out.key s id ⟨hP, fun e => hnt e.2⟩
      have hgt : (getL L' s).2 = true := (getL_iff RJ.out.rise s).2 ⟨r0, hr0⟩
      have hL := RJ.out.there hgt
      have hsl2 := RJ.out.long s _ hL
      have GE := radGet_big wr base xb L' E' s HJ.out.tree (by have := RJ.out.len; omega) hsl2
      rw [hgt] at GE
      generalize (getL L' s).1 = r at *
      obtain ⟨l0, hr, hrl, hne, hlN, hmem⟩ := RJ.out.row s r hL
      obtain ⟨sk, hsk⟩ : ∃ sk, sk = ofL s := ⟨_, rfl⟩
      rw [← hsk] at GE ck
      have SK := Lib.hid hsk
      have GE := Lib.hid GE
      have TKS : Hid (∀ t, t ∈ l.take (j + 1) ↔ t ∈ l.take j ∨ t = s) := fun t => by rw [List.take_succ_eq_append_getElem hlt, List.mem_append, List.mem_singleton, hs]
      have d0 : wr.cell? ⟨pb, 0, none⟩ = some (.pointer (some ⟨xb, 0, none⟩)) := HJ.out.blk.cellAt rfl
      clear hsk hP hnt hsl hgt hr0 hs hmem hlt
      generalize hnl : l.length = nl at *
      go_wp2_with fail
      refine (GE.out).mono ?_
      rintro e w4 ⟨rfl, u4⟩
      have H4 := Lib.hid (HJ.out.keep0 u4)
      have U4 : Hid (Upd (fun b => lab b ≠ .no ∧ lab b ≠ .cl id) w3 w4) := UJ.out.trans u4 (fun _ _ h => h.elim)
      clear u4 GE
      have uq : Upd (fun _ => False) w4 w4.drew := (Upd.refl _ _).drew
      have lk := (H4.out.keep0 uq).rowLook r
      obtain ⟨hra, hrb⟩ := H4.out.rowAt r
      have d1 : w4.cell? ⟨pb, 1, none⟩ = some (.map (some rm)) := H4.out.blk.cellAt rfl
      rw [H4.out.rget, hr] at lk hra hrb
      simp only [Option.map_some, Option.getD_some] at lk hra hrb
      have hvn : rv' r ≠ .slice none 0 0 := fun e => by
        rcases ints_blk hra with ⟨_, e2⟩ | ⟨_, _, _, e2, _⟩
        · exact hne e2
        · rw [e] at e2; cases e2
      have hBl : lab' w.heap.size = .no := by rw [LJ.out _ hs3]; exact HBNO.out
      have BX4 := U4.out.blk HBXX.out (fun e => e.1 HBNO.out)
      have DF := delfP_any base w.heap.size (rv' r) l0 id w4.drew (hra.keep uq (fun _ _ h => h)) hvn (by omega) BX4.lt ((uq.blk BX4 (fun h => h)).cellAt rfl) (fun e => by have := hrb _ e; rw [hBl] at this; cases this)
      obtain ⟨p4, c4, ev4, _⟩ := own_slice hra
      rw [ev4] at lk hra hrb DF
      have DF := Lib.hid DF
      have HRA := Lib.hid hra
      have HRB := Lib.hid hrb
      have PUT := Lib.hid (fun (w2 : World) (v2 : Value) (u2 : Upd (fun k => (Value.slice p4 l0.length c4).ownBlock = some k) w4.drew w2) => (((H4.out.keep0 uq).rmap.keep u2 (fun e => by
        have := HRB.out _ e; rw [H4.out.lrm] at this; cases this)).put keyI64 Try.underlying59 r v2))
      have KB := Lib.hid (fun (w2 : World) (u2 : Upd (fun k => (Value.slice p4 l0.length c4).ownBlock = some k) w4.drew w2) => (u2.blk (H4.out.keep0 uq).blk (fun e => by
        have := HRB.out _ e; rw [H4.out.lblk] at this; cases this)).cellAt (i := 1) rfl)
      have KB3 := Lib.hid (fun (w2 w3 : World) (u2 : Upd (fun k => (Value.slice p4 l0.length c4).ownBlock = some k) w4.drew w2) (u3 : Upd (fun b => b = rm) w2 w3) => (u3.blk (u2.blk (H4.out.keep0 uq).blk (fun e => by
        have := HRB.out _ e; rw [H4.out.lblk] at this; cases this)) (fun e => by
        have := H4.out.lblk; rw [e, H4.out.lrm] at this; cases this)).cellAt (i := 1) rfl)
      have FLL : Hid ((l0.filter (· ≠ id)).length ≤ l0.length) := List.length_filter_le _ _
      clear uq hra hrb hrl ev4
      go_wp2
      go_region_held3 (fun w' => w'.cell? ⟨pb, 1, none⟩ = some (.map (some rm))) (go_keep)
        (first | (go_at_call 57; refine DF.out.mono ?_; rintro e w5 ⟨v5, rfl, i5, ob5, u5⟩; (have z1 := KB.out w5 u5); (obtain ⟨w6, de, m6, u6⟩ := PUT.out w5 v5 u5); (have z2 := KB3.out w5 w6 u5 u6); (unfold intEnc at de); (have I5 := Lib.hid i5); (have OB5 := Lib.hid ob5); (have U5 := Lib.hid u5); (have M6 := Lib.hid m6); (have U6 := Lib.hid u6); clear i5 u5 ob5 m6 u6))
      all_goals
        have H6 := Lib.hid (H4.out.rowTo (n := r) (v := v5) (l := l0.filter (· ≠ id)) (w1 := w5) (((Upd.refl (fun b => lab' b = .row r) w4).drew).trans U5.out (fun b _ e => HRB.out b e)) I5.out (fun b hb => by rw [OB5.out] at hb; exact Or.inl (HRB.out b hb)) M6.out U6.out)
        have UF6 : Hid (Upd (fun b => lab b ≠ .no ∧ lab b ≠ .cl id) w3 w6) := (U4.out.trans (((Upd.refl (fun b => lab' b = .row r) w4).drew).trans U5.out (fun b _ e => HRB.out b e)) (fun b hb e => by
          have e : lab' b = .row r := e
          rw [LJ.out b hb] at e; rw [e]; exact ⟨fun e => (by cases e), fun e => (by cases e)⟩)).trans U6.out (fun b _ e => by
          have e : b = rm := e
          rw [e, H.out.lrm]; exact ⟨by decide, fun e => by cases e⟩)
        have hw4 := U4.out.size
        have LF6 : Hid (∀ b, b < w3.heap.size → relab lab' (.row r) w4.heap.size w6.heap.size b = lab b) := fun b hb => by rw [relab_old (by omega)]; exact LJ.out b hb
        have lk6 := H6.out.rowLook r
        have d6 : w6.cell? ⟨pb, 1, none⟩ = some (.map (some rm)) := H6.out.blk.cellAt rfl
        rw [aget_aset, if_pos rfl] at lk6
        simp only [Option.getD_some] at lk6
        obtain ⟨p5, c5, ev5, _⟩ := own_slice I5.out
        subst ev5
        clear z1 z2 de lk I5 OB5 U5 M6 U6 PUT KB KB3 HRA HRB DF d0 d1 ck hw4 H4 U4 HJ
        generalize relab lab' (.row r) w4.heap.size w6.heap.size = lab6 at *
        by_cases hz : l0.filter (· ≠ id) = []
        · have RK := Lib.hid (RJ.out.last hL hr hz)
          have q5 : (l0.filter (· ≠ id)).length = 0 := by rw [hz]; rfl
          obtain ⟨w7, de7, m7, u7⟩ := H6.out.rmap.del keyI64 Try.underlying59 r 0
          have H7 := Lib.hid (H6.out.rowDel m7 u7)
          have d7 : w7.cell? ⟨pb, 0, none⟩ = some (.pointer (some ⟨xb, 0, none⟩)) := H7.out.blk.cellAt rfl
          have TD := radDrop_any w7 base xb L' E' H7.out.tree (by have := RJ.out.len; omega) s hsl2
          rw [← SK.out] at TD
          have TD := Lib.hid TD
          have U7 : Hid (Upd (fun b => lab b ≠ .no ∧ lab b ≠ .cl id) w3 w7) := UF6.out.trans u7 (fun b _ e => by
            have e : b = rm := e
            rw [e, H.out.lrm]; exact ⟨by decide, fun e => by cases e⟩)
          unfold intEnc at de7
          clear hz m7 u7
          generalize (l0.filter (· ≠ id)).length = n5 at *
          subst q5
          go_wp2_with fail
          refine (TD.out).mono ?_
          rintro e w8 ⟨rfl, u8, E8, t8, f8⟩
          have H8 := Lib.hid (H7.out.treeTo t8 u8 (fun b hb => Or.inl (f8 b hb)))
          have U8 : Hid (Upd (fun b => lab b ≠ .no ∧ lab b ≠ .cl id) w3 w8) := U7.out.trans u8 (fun b hb e => by
            have := H7.out.ltree b e
            rw [LF6.out b hb] at this; rw [this]; exact ⟨by decide, fun e => by cases e⟩)
          have hw7 := U7.out.size
          have LF8 : Hid (∀ b, b < w3.heap.size → relab lab6 .tree w7.heap.size w8.heap.size b = lab b) := fun b hb => by rw [relab_old (by omega)]; exact LF6.out b hb
          clear t8 u8 f8 de7 d7 lk6 d6
          go_wp2
          go_roundw
          case rel => exact ⟨j + 1, _, _, _, _, _, _, by simp, by omega, H8, Lib.hid (RK.out.congr (fun t i => by
            rw [TKS.out]
            constructor
            · rintro ⟨⟨a, b⟩, c⟩; exact ⟨a, fun ⟨e, m⟩ => m.elim (fun m => b ⟨e, m⟩) (fun m => c ⟨m, e⟩)⟩
            · rintro ⟨a, b⟩; exact ⟨⟨a, fun ⟨e, m⟩ => b ⟨e, Or.inl m⟩⟩, fun ⟨m, e⟩ => b ⟨e, Or.inr m⟩⟩)), U8, LF8⟩
          case measure => simp [intOf]; omega
        · have RK := Lib.hid (RJ.out.less hL hr hz)
          have q5 : ¬ (l0.filter (· ≠ id)).length = 0 := fun e => hz (List.length_eq_zero_iff.1 e)
          have FL5 := FLL.out
          clear hz
          generalize (l0.filter (· ≠ id)).length = n5 at *
          have q6 : ¬ (n5 : Int) = 0 := by omega
          clear q5
          go_wp2
          go_roundw
          case rel => exact ⟨j + 1, _, _, _, _, _, _, by simp, by omega, H6, Lib.hid (RK.out.congr (fun t i => by
            rw [TKS.out]
            constructor
            · rintro ⟨⟨a, b⟩, c⟩; exact ⟨a, fun ⟨e, m⟩ => m.elim (fun m => b ⟨e, m⟩) (fun m => c ⟨m, e⟩)⟩
            · rintro ⟨a, b⟩; exact ⟨⟨a, fun ⟨e, m⟩ => b ⟨e, Or.inl m⟩⟩, fun ⟨m, e⟩ => b ⟨e, Or.inr m⟩⟩)), UF6, LF6⟩
          case measure => simp [intOf]; omega
    · have q1 : ¬ (j : Int) < (l.length : Int) := by omega
      have hjl : j = l.length := by omega
      subst hjl
      have FIN : Hid (PAt wr base pb (fun t i => P t i ∧ i ≠ id) N fun b => lab' b ≠ .no) := ⟨xb, rm, om, lab', L', E', nx, R', rv', ri', _, qv, _, HJ.out, RJ.out.congr (fun t i => by
        rw [List.take_length]
        constructor
        · rintro ⟨a, b⟩; exact ⟨a, fun e => b ⟨e, (HOM.out t).2 (e ▸ a)⟩⟩
        · rintro ⟨a, b⟩; exact ⟨a, fun e => b e.1⟩), OG.out, rfl⟩
      have LE := Lib.hid (rfl : l.length = l.length)
      generalize hnl : l.length = nl at *
      go_wp2
      go_ret
      refine ⟨l, by rw [hnl]; rfl, HOR.out, HOM.out, _, FIN.out, U3.out.trans UJ.out (fun b _ e => e.1), fun b hb => ?_⟩
      by_cases e : b < w3.heap.size
      · rw [LJ.out b e] at hb; exact Or.inl hb
      · right; omega
end Go.Proofs.Ytnlbmplbaalgmaa
