/- TrackTells: who read it is told. -/
import Derived.Test.YtmlojbfcmebboaaGreatK33
set_option linter.unusedVariables false
set_option linter.unusedSimpArgs false
set_option linter.unusedSectionVars false
set_option maxRecDepth 100000
namespace Go.Proofs.YtmlojbfcmebboaaGreat
open Go.RowKit

def mTi (i : Int) : MD := ⟨true, false, false, false, i == 2, max 0 (i - 3), []⟩
def MTj (k : Nat) : List (Int × CL) := MT.take k ++ [((k : Int) + 1, ⟨offM, 0⟩)]
theorem tells_join {k : Nat} (hk : k < 4) : joinP (MT.take k) ((k : Int) + 1) = (true, MTj k) := by
  match k, hk with
  | 0, _ => rfl
  | 1, _ => rfl
  | 2, _ => rfl
  | 3, _ => rfl
theorem tells_set {k : Nat} (hk : k < 4) (P : Txt → Int → Prop) : setP (MTj k) [] P ((k : Int) + 1) (mTi ((k : Int) + 1)) = (0, MT.take (k + 1), [], fun t i => (P t i ∧ i ≠ (k : Int) + 1) ∨ (t ∈ ([] : List Txt) ∧ i = (k : Int) + 1)) := by
  match k, hk with
  | 0, _ => rfl
  | 1, _ => rfl
  | 2, _ => rfl
  | 3, _ => rfl
theorem tells_id (x : Int) : i14 (1 + max 0 x % 4) := by unfold i14; omega
theorem evs_ne5 {ev : Int} (h : evK ev ≠ 5) (ks : List Txt) : evsOf ev ks = ks.map fun t => (evK ev, t) := by
  simp [evsOf, evOf, h]
theorem evs_5 {ev : Int} (h : evK ev = 5) (ks : List Txt) : evsOf ev ks = ks.map fun _ => ((5, []) : Int × Txt) := by
  simp [evsOf, evOf, h]
theorem evs_len (ev : Int) (ks : List Txt) : (evsOf ev ks).length = ks.length := by unfold evsOf; simp
/-- What is left of one's own, from event j on. -/
def lfD (id kd : Int) (keys : List Txt) (j : Nat) (n : NT) : Prop := lf id kd ((keys.drop j).map ofL) n
theorem act_facts {w : World} {b : Nat} {v0 v1 v2 v3 v4 v5 v6 v7 v8 v9 v10 v11 : Value} {T : TypeId} (h : Blk w b [v0, v1, v2, v3, v4, v5, v6, v7, v8, v9, v10, v11] T) :
    b < w.heap.size ∧ w.cell? ⟨b, 0, none⟩ = some v0 ∧ w.cell? ⟨b, 1, none⟩ = some v1 ∧ w.cell? ⟨b, 2, none⟩ = some v2 ∧ w.cell? ⟨b, 3, none⟩ = some v3 ∧ w.cell? ⟨b, 4, none⟩ = some v4 ∧ w.cell? ⟨b, 5, none⟩ = some v5 ∧ w.cell? ⟨b, 6, none⟩ = some v6 ∧ w.cell? ⟨b, 7, none⟩ = some v7 ∧ w.cell? ⟨b, 8, none⟩ = some v8 ∧ w.cell? ⟨b, 9, none⟩ = some v9 ∧ w.cell? ⟨b, 10, none⟩ = some v10 ∧ w.cell? ⟨b, 11, none⟩ = some v11 :=
  ⟨h.lt, h.cellAt rfl, h.cellAt rfl, h.cellAt rfl, h.cellAt rfl, h.cellAt rfl, h.cellAt rfl, h.cellAt rfl, h.cellAt rfl, h.cellAt rfl, h.cellAt rfl, h.cellAt rfl, h.cellAt rfl⟩
theorem evs_cells {w : World} {base : Nat} {p : Option Addr} {c : Nat} {l : List (Int × Txt)} (h : EvsAt w base (.slice p l.length c) l) {k : Nat} (hk : k < l.length) :
    ∃ b, p = some ⟨b, 0, none⟩ ∧ base ≤ b ∧ b < w.heap.size ∧ w.cell? ⟨b, k * 2, none⟩ = some (.int .i64 (l[k]).1) ∧ w.cell? ⟨b, k * 2 + 1, none⟩ = some (.string (ofL (l[k]).2)) := by
  rcases h.blk with ⟨_, e⟩ | ⟨b, cap, cs, e, hb, hB, _⟩
  · rw [e] at hk; simp at hk
  · injection e with e1 _ e2
    subst e1 e2
    have hx : l[k]? = some l[k] := List.getElem?_eq_getElem hk
    refine ⟨b, rfl, hb, hB.lt, ?_, ?_⟩
    · have := h.cell evc_len (i := k) (j := 0) (by omega) hx; simpa [evc] using this
    · have := h.cell evc_len (i := k) (j := 1) (by omega) hx; simpa [evc] using this
theorem lfD_next {id kd : Int} {keys : List Txt} {j : Nat} (hj : j < keys.length) {n : NT} (h : lfD id kd keys j n) (hn : ¬ (n.key = ofL keys[j] ∧ n.who ≤ 4)) : lfD id kd keys (j + 1) n := by
  obtain ⟨a, b, c, d⟩ := h
  refine ⟨a, b, c, ?_⟩
  rw [List.drop_eq_getElem_cons hj, List.map_cons] at d
  rcases List.mem_cons.1 d with e | e
  · exact absurd ⟨e, by rw [a]; omega⟩ hn
  · exact e
set_option maxHeartbeats 16000000 in
theorem ttells_any (most : Int) (v : Value) (l : List Act16) (w : World) (hw : (Lit.int .i64 most).wf = true) (hr : RowOf act16c 12 w v l) (ha : ∀ a ∈ l, A16 w a) :
    Calls Tryz.prog 3 #[.int .i64 most, v] w fun e w' => e = .returned (.bool true) ∧ Upd (fun _ => False) w w' := by
  have AL := Lib.hid (alive16_any w)
  obtain ⟨p, c, ev, hm⟩ := hr.len
  subst ev
  have hmw : -9223372036854775808 ≤ most ∧ most ≤ 9223372036854775807 := by
    simp [Lit.wf, IntKind.min, IntKind.max, IntKind.bits, IntKind.signed] at hw
    exact hw
  obtain ⟨hmw1, hmw2⟩ := hmw
  have HR := Lib.hid hr
  have HA := Lib.hid ha
  have GR := Lib.hid (fun (w0 : World) (u : Upd (fun _ => False) w w0) => great_any _ l w0 (hr.keep u (fun _ _ _ h => h)) (fun a h => (ha a h).keep u))
  obtain ⟨nl, hnl⟩ : ∃ nl, nl = l.length := ⟨_, rfl⟩
  rw [← hnl] at hm GR ⊢
  have NL := Lib.hid hnl
  clear hr ha hnl hw
  go_enter Tryz.func3, Tryz.ntmps3
  go_wp2_with fail
  refine AL.out.mono ?_
  rintro e w0 ⟨rfl, u0⟩
  have U0 := Lib.hid u0
  have NW := Lib.hid (fun (w1 : World) (u : Upd (fun _ => False) w w1) => trkNew_any most w1 w.heap.size u.size hmw1 hmw2 (fun _ => False) (fun b h => h.elim))
  have GR0 := Lib.hid (GR.out w0 u0)
  clear AL u0 GR
  go_wp2_with fail
  refine GR0.out.mono ?_
  rintro e w1 ⟨g, rfl, hg, u1⟩
  have U1 := Lib.hid (U0.out.trans u1 (fun _ _ h => h))
  have HG := Lib.hid hg
  clear u1 hg GR0 U0
  cases g with
  | true =>
    go_wp2
    go_ret
    exact ⟨rfl, U1.out⟩
  | false =>
    have NW1 := Lib.hid (NW.out w1 U1.out)
    clear NW
    have GD := Lib.hid (HG.out rfl)
    have hnl60 : nl ≤ 60 := by rw [NL.out]; exact GD.out.1
    clear HG
    go_wp2_with fail
    refine NW1.out.mono ?_
    rintro e w2 ⟨tb, rfl, ⟨cm, kb, pb, cb0, s2⟩, u2⟩
    have U2 := Lib.hid (U1.out.trans u2 (fun _ _ h => h))
    obtain ⟨mo, hmo⟩ : ∃ mo, mo = max most 1 := ⟨_, rfl⟩
    have MO := Lib.hid hmo
    have mo1 : 1 ≤ mo := by omega
    rw [← hmo] at s2
    have S2 : Hid (TSt w2 w.heap.size tb cm kb pb cb0 (fun _ => False) (MT.take 0) mo [] 0 (fun _ _ => False) (0 * 32)) := s2
    clear s2 u2 NW1 U1 hmo
    go_wp2
    go_loopw [6] (fun x6 wr => ∃ (k : Nat) (cb : Int → Nat), k ≤ 4 ∧ x6 = .int .i64 ((k : Int) + 1) ∧ Hid (TSt wr w.heap.size tb cm kb pb cb (fun _ => False) (MT.take k) mo [] 0 (fun _ _ => False) (k * 32)) ∧ Hid (Upd (fun _ => False) w wr)) (fun x6 _ => 5 - (intOf x6).toNat)
    case atStart => exact ⟨0, cb0, by omega, rfl, S2, U2⟩
    case round =>
      clear S2 U2
      obtain ⟨k, cb, hk4, rfl, S2, U2⟩ := hrel
      by_cases hlt : k < 4
      · have q2 : (k : Int) + 1 ≤ 4 := by omega
        have JN := Lib.hid (S2.out.join ((k : Int) + 1) (by omega) (by simp; omega))
        rw [tells_join hlt] at JN
        clear S2
        go_wp2_with fail
        refine JN.out.mono ?_
        rintro e w3 ⟨rfl, ⟨cb3, s3⟩, u3⟩
        have U3 : Hid (Upd (fun _ => False) w w3) := U2.out.trans u3 (fun b hb h => by have := h.1; omega)
        have SE := Lib.hid (s3.set' (id := (k : Int) + 1) (m := mTi ((k : Int) + 1)) (v := .slice none 0 0) (row_none w3 _ _) (by simp [mTi]) (by simp [mTi]) (by omega) (by omega) (r := 0) (M' := MT.take (k + 1)) (L' := []) (P' := fun _ _ => False) (by rw [tells_set hlt]) (by rw [tells_set hlt]) (by rw [tells_set hlt]) (fun t i => by
          rw [tells_set hlt]
          simp))
        unfold mdV mTi at SE
        dsimp only at SE
        clear s3 u3 JN U2
        go_wp2_with fail
        refine SE.out.mono ?_
        rintro e w4 ⟨rfl, s4, u4⟩
        have U4 : Hid (Upd (fun _ => False) w w4) := U3.out.trans u4 (fun b hb h => by have := h.1; omega)
        have S4 : Hid (TSt w4 w.heap.size tb cm kb pb cb3 (fun _ => False) (MT.take (k + 1)) mo [] 0 (fun _ _ => False) ((k + 1) * 32)) := s4.more (Nat.le_refl _) (by omega)
        clear s4 u4 SE U3
        go_wp2
        go_roundw
        case rel => exact ⟨k + 1, cb3, by omega, by go_num, S4, U4⟩
        case measure => simp [intOf]; omega
      · have q2 : ¬ (k : Int) + 1 ≤ 4 := by omega
        obtain rfl : k = 4 := by omega
        have mk := run_makeMap (P := Tryz.prog) 33 wr
        have S3 : Hid (TSt (wr.alloc (.map #[] 0)) w.heap.size tb cm kb pb cb (fun b => b = wr.heap.size) MT mo [] (0 * 10) (fun _ _ => False) 128) := (S2.out.beside (.map #[] 0)).less (fun b hb => Or.inr hb)
        have M3 : Hid (MapAt ntEnc (wr.alloc (.map #[] 0)) wr.heap.size ([] : RM)) := MapAt.made wr
        have T3 : Hid (TQ [] [] (fun _ => False)) := ⟨fun p hp => by simp at hp, List.nodup_nil, fun n hn => by simp [aget] at hn, fun who key l h => by simp [aget] at h, List.nodup_nil, fun p hp => by simp at hp⟩
        have U3 : Hid (Upd (fun _ => False) w (wr.alloc (.map #[] 0))) := U2.out.alloc _
        have hb3 : w.heap.size ≤ wr.heap.size := U2.out.size
        clear S2 U2
        go_wp2
        go_loopw [7, 41] (fun x7 x41 wq => ∃ (k mb : Nat) (R : RM) (L : Rows14), k ≤ nl ∧ w.heap.size ≤ mb ∧ x41 = .int .i64 (k : Int) ∧ x7 = .map (some mb) ∧ (L.length : Int) ≤ mo ∧ Hid (TQ R L (fun _ => False)) ∧ Hid (TSt wq w.heap.size tb cm kb pb cb (fun b => b = mb) MT mo L (k * 10) (fun _ _ => False) 128) ∧ Hid (MapAt ntEnc wq mb R) ∧ Hid (Upd (fun _ => False) w wq)) (fun _ x41 _ => nl - (intOf x41).toNat)
        case atStart => exact ⟨0, wr.heap.size, [], [], by omega, hb3, rfl, rfl, by simp; omega, T3, S3, M3, U3⟩
        case round =>
          clear S3 M3 T3 U3 hb3 mk
          obtain ⟨k, mb, R, L, hk, hmb, rfl, rfl, hL, TQ0, S5, M5, U5⟩ := hrel
          by_cases hlt : k < nl
          · have q4 : (k : Int) < (nl : Int) := by omega
            have hkl : k < l.length := by rw [← NL.out]; exact hlt
            obtain ⟨b, off, ep, hb, c0, cs⟩ := act16_cells (HR.out.keep U5.out (fun _ _ _ h => h)) hkl
            subst ep
            obtain ⟨a, hae⟩ : ∃ a, a = l[k] := ⟨_, rfl⟩
            rw [← hae] at c0 cs
            have hal : a ∈ l := by rw [hae]; exact List.getElem_mem hkl
            have HAL := Lib.hid hal
            have AW := Lib.hid (HA.out a hal)
            have GA := Lib.hid (GD.out.2 a hal)
            have AA := Lib.hid ((HA.out a hal).keep U5.out)
            obtain ⟨pk, ck, ek, _⟩ := AA.out.ks.len
            obtain ⟨pp, cp, epv, _⟩ := AA.out.ps.len
            have c1 := cs 0 (by omega)
            have c2 := cs 1 (by omega)
            have c3 := cs 2 (by omega)
            have c4 := cs 3 (by omega)
            have c5 := cs 4 (by omega)
            have c6 := cs 5 (by omega)
            have c7 := cs 6 (by omega)
            have c8 := cs 7 (by omega)
            have c9 := cs 8 (by omega)
            have c10 := cs 9 (by omega)
            have c11 := cs 10 (by omega)
            clear cs hae hkl hal
            have ACT := Lib.hid (rfl : a = a)
            obtain ⟨kd, id, ⟨on, bc, oi, oo, nlp, rd, ps⟩, pv, yes, kv, keys, evn⟩ := a
            dsimp only at ek epv
            subst ek epv
            simp only [act16c, List.getElem?_cons_succ, List.getElem?_cons_zero] at c0 c1 c2 c3 c4 c5 c6 c7 c8 c9 c10 c11
            have GK : keys.length ≤ 10 := GA.out.1
            have idw := AA.out.idw
            have idr : -9223372036854775808 ≤ id ∧ id ≤ 9223372036854775807 := by
              have := idw
              simp [Lit.wf, IntKind.min, IntKind.max, IntKind.bits, IntKind.signed] at this
              exact this
            obtain ⟨idr1, idr2⟩ := idr
            clear idw ACT
            obtain ⟨nk, hnk⟩ : ∃ nk, nk = keys.length := ⟨_, rfl⟩
            obtain ⟨np, hnp⟩ : ∃ np, np = ps.length := ⟨_, rfl⟩
            rw [← hnk] at c10 GK
            rw [← hnp] at c8
            obtain ⟨CSL, hCSL⟩ : ∃ CSL : List Value, CSL = [.int .i64 kd, .int .i64 id, .bool on, .bool bc, .bool oi, .bool oo, .bool nlp, .int .i64 rd, .slice pp np cp, .bool yes, .slice pk nk ck, .int .i64 evn] := ⟨_, rfl⟩
            have BA := Lib.hid (Blk.made wr CSL 35)
            have UA : Hid (Upd (fun _ => False) wr (wr.alloc (.cells CSL.toArray 35))) := (Upd.refl _ _).alloc _
            have U6 : Hid (Upd (fun _ => False) w (wr.alloc (.cells CSL.toArray 35))) := U5.out.trans UA.out (fun _ _ h => h)
            have S6 := Lib.hid (S5.out.beside (.cells CSL.toArray 35))
            have M6 := Lib.hid (M5.out.keep UA.out (fun h => h))
            rw [hCSL] at BA U6 S6 M6
            have hab : w.heap.size ≤ wr.heap.size := U5.out.size
            have hmbl : mb < wr.heap.size := M5.out.lt
            have H14 := Lib.hid (tells_id id)
            have NK := Lib.hid hnk
            have NP := Lib.hid hnp
            clear S5 M5 U5 UA hCSL AA hnk hnp
            by_cases h5 : kd = 5
            · subst h5
              have S7 : Hid (TSt (wr.alloc (.cells #[.int .i64 5, .int .i64 id, .bool on, .bool bc, .bool oi, .bool oo, .bool nlp, .int .i64 rd, .slice pp np cp, .bool yes, .slice pk nk ck, .int .i64 evn] 35)) w.heap.size tb cm kb pb cb (fun b => b = mb ∨ b = wr.heap.size) MT mo L (k * 10 + 0) (fun _ _ => False) 128) := S6.out
              obtain ⟨ab, hab2⟩ : ∃ ab, ab = wr.heap.size := ⟨_, rfl⟩
              rw [← hab2] at S7 hab hmbl
              clear hab2 BA S6
              go_wp2
              go_loopw [56] (fun x56 wq => ∃ (j : Nat) (R : RM) (L : Rows14), j ≤ nk ∧ x56 = .int .i64 (j : Int) ∧ (L.length : Int) ≤ mo ∧ Hid (TQ R L (fun _ => False)) ∧ Hid (TSt wq w.heap.size tb cm kb pb cb (fun b => b = mb ∨ b = ab) MT mo L (k * 10 + j) (fun _ _ => False) 128) ∧ Hid (MapAt ntEnc wq mb R) ∧ Hid (Upd (fun _ => False) w wq)) (fun x56 _ => nk - (intOf x56).toNat)
              case atStart => exact ⟨0, R, L, by omega, rfl, hL, TQ0, S7, M6, U6⟩
              case round =>
                clear S7 M6 U6 TQ0 hL c0 c1 c2 c3 c4 c5 c6 c7 c8 c9 c10 c11 hb
                obtain ⟨j, R, L, hj, rfl, hL, TQ0, S7, M6, U6⟩ := hrel
                by_cases hlj : j < nk
                · have q5 : (j : Int) < (nk : Int) := by omega
                  have hjl : j < keys.length := by rw [← NK.out]; exact hlj
                  have rk := AW.out.ks.keep U6.out (fun _ _ _ h => h)
                  dsimp only at rk
                  obtain ⟨bx, ox, epx, hbx, ck0⟩ := txt_rcell rk hjl
                  subst epx
                  obtain ⟨t, ht⟩ : ∃ t, t = keys[j] := ⟨_, rfl⟩
                  rw [← ht] at ck0
                  have tsz := GA.out.2.2.1 t (by rw [ht]; exact List.getElem_mem hjl)
                  have UB : Hid (Upd (fun _ => False) wr (wr.alloc (.cells #[.string (ofL t)] 9))) := (Upd.refl _ _).alloc _
                  have RD := Lib.hid ((S7.out.beside (.cells #[.string (ofL t)] 9)).read (1 + max 0 id % 4) _ [t] (row_txt wr t) (fun b hb h => h.2 (Or.inr (slice_in hb))) (by simp) (by simp; omega) (by simp; unfold maxLen; omega))
                  have TR := Lib.hid (fun hnd => tells_read TQ0.out S7.out.inv.1 hL mo1 H14.out t hnd)
                  have V1R := Lib.hid TQ0.out.v1
                  generalize readP MT mo L (1 + max 0 id % 4) [t] = rr at RD TR
                  obtain ⟨nts, L2⟩ := rr
                  dsimp only at RD TR
                  have MBL := M6.out.lt
                  have M7 := Lib.hid (M6.out.keep UB.out (fun h => h))
                  have U7 : Hid (Upd (fun _ => False) w (wr.alloc (.cells #[.string (ofL t)] 9))) := U6.out.trans UB.out (fun _ _ h => h)
                  obtain ⟨key, hkey⟩ : ∃ key, key = ofL t := ⟨_, rfl⟩
                  rw [← hkey] at ck0 UB RD TR M7 U7
                  clear ht hjl rk hkey TQ0 S7 M6 U6 tsz
                  go_wp2_with fail
                  refine RD.out.mono ?_
                  rintro e w7 ⟨v7, rfl, r7⟩
                  obtain ⟨R1, h1, h2, h3, h4⟩ := TR.out r7.st.inv.2
                  have S8 : TSt w7 w.heap.size tb cm kb pb cb (fun b => b = mb ∨ b = ab) MT mo L2 (k * 10 + (j + 1)) (fun _ _ => False) 128 := r7.st.less (fun b hb => Or.inl (Or.inl hb))
                  have U8 : Hid (Upd (fun _ => False) w w7) := U7.out.trans r7.up (fun b hb h => by have := h.1; omega)
                  have HE := Lib.hid (heard_any mb _ v7 R R1 nts w7 (M7.out.keep r7.up (fun h => h.2 (Or.inl (Or.inl rfl)))) V1R.out r7.row h1 (fun b hb e => by
                    have := (r7.row.lt hb).1
                    rw [World.size_alloc] at this
                    omega))
                  obtain ⟨p7, c7', e7, _⟩ := r7.row.slice
                  subst e7
                  have S8 := Lib.hid S8
                  have T8 := Lib.hid h3
                  clear RD TR r7 h1 h2 h3 M7 U7 UB V1R ck0
                  go_wp2_with fail
                  refine HE.out.mono ?_
                  rintro e w8 ⟨rfl, m8, u8⟩
                  have S9 := S8.out.keepX (u8.weaken (fun b _ hb => Or.inl hb))
                  obtain ⟨w9, pr, m9, u9⟩ := m8.putW (P := Tryz.prog) (K := 40) (E := 3) (T := 33) ntKey Tryz.underlying33 (KN (1 + max 0 id % 4) key) (.int .i64 1)
                  unfold ntEnc KN at pr
                  dsimp only at pr
                  have S10 := Lib.hid (S9.keepX (u9.weaken (fun b _ hb => Or.inl hb)))
                  have M10 := Lib.hid m9
                  have U10 : Hid (Upd (fun _ => False) w w9) := (U8.out.trans u8 (fun b hb e => by omega)).trans u9 (fun b hb e => by omega)
                  clear HE m8 u8 S8 S9 m9 u9 U8
                  go_wp2
                  go_roundw
                  case rel => exact ⟨j + 1, _, L2, by omega, by go_num, h4, T8, S10, M10, U10⟩
                  case measure => simp [intOf]; omega
                · have q5 : ¬ (j : Int) < (nk : Int) := by omega
                  have LE := Lib.hid (S7.out.len (by omega))
                  have qlen : ¬ max most 1 < ((L).length : Int) := by rw [← MO.out]; omega
                  have SF := Lib.hid ((S7.out.less (Y := fun b => b = mb) (fun b hb => Or.inl hb)).more (n' := (k + 1) * 10) (by omega) (Nat.le_refl _))
                  clear S7
                  go_wp2_with fail
                  refine LE.out.mono ?_
                  rintro e w9 ⟨rfl, rfl⟩
                  clear LE
                  go_wp2
                  go_roundw
                  case rel => exact ⟨k + 1, mb, _, L, by omega, by omega, by go_num, rfl, by omega, TQ0, SF, M6, U6⟩
                  case measure => simp [intOf]; omega
            · have q5 : (kd == 5) = false := beq_eq_false_iff_ne.2 h5
              have S7 : Hid (TSt (wr.alloc (.cells #[.int .i64 kd, .int .i64 id, .bool on, .bool bc, .bool oi, .bool oo, .bool nlp, .int .i64 rd, .slice pp np cp, .bool yes, .slice pk nk ck, .int .i64 evn] 35)) w.heap.size tb cm kb pb cb (fun b => b = mb ∨ b = wr.heap.size) MT mo L (k * 10) (fun _ _ => False) 128) := S6.out
              have EV : Hid (∀ w1, Upd (fun _ => False) w w1 → Calls Tryz.prog 16 #[.agg #[.int .i64 kd, .int .i64 id, .bool on, .bool bc, .bool oi, .bool oo, .bool nlp, .int .i64 rd, .slice pp np cp, .bool yes, .slice pk nk ck, .int .i64 evn]] w1 fun e w' => ∃ p c, e = .returned (.slice p nk c) ∧ Hid (EvsAt w' w1.heap.size (.slice p nk c) (evsOf evn keys)) ∧ Hid (Upd (fun _ => False) w1 w')) := fun w1 u => by
                have := events_any ⟨kd, id, ⟨on, bc, oi, oo, nlp, rd, ps⟩, .slice pp ps.length cp, yes, .slice pk keys.length ck, keys, evn⟩ w1 (AW.out.keep u) (by show keys.length ≤ 1000; rw [← NK.out]; omega)
                rw [← NK.out, ← NP.out] at this
                refine this.mono ?_
                rintro e w' ⟨p, c, h1, h2, h3⟩
                dsimp only at h1 h2
                rw [← NK.out] at h1 h2
                exact ⟨p, c, h1, h2, h3⟩
              have B7 : Hid (Blk (wr.alloc (.cells #[.int .i64 kd, .int .i64 id, .bool on, .bool bc, .bool oi, .bool oo, .bool nlp, .int .i64 rd, .slice pp np cp, .bool yes, .slice pk nk ck, .int .i64 evn] 35)) wr.heap.size [.int .i64 kd, .int .i64 id, .bool on, .bool bc, .bool oi, .bool oo, .bool nlp, .int .i64 rd, .slice pp np cp, .bool yes, .slice pk nk ck, .int .i64 evn] 35) := BA.out
              have EV1 := Lib.hid (EV.out _ U6.out)
              have KL : Hid (∀ e ∈ evsOf evn keys, e.2.length ≤ 1000000) := fun e he => by
                unfold evsOf at he
                obtain ⟨t, ht, rfl⟩ := List.mem_map.1 he
                unfold evOf
                dsimp only
                split
                · simp
                · have := GA.out.2.2.1 t ht; omega
              have EL : Hid ((evsOf evn keys).length = nk) := by show _ = _; rw [evs_len, ← NK.out]
              clear BA S6 h5
              go_wp2_with fail
              refine EV1.out.mono ?_
              rintro e w7 ⟨p7, c7', rfl, e7, u7⟩
              have S8 := S7.out.also u7.out (Y := fun b => (b = mb ∨ b = wr.heap.size) ∨ (Value.slice p7 nk c7').ownBlock = some b) (fun b hb => hb.imp (fun g => g) (fun e => by have := e7.out.lt e; exact ⟨this.1, this.2.1⟩))
              have U7 : Hid (Upd (fun _ => False) w w7) := U6.out.trans u7.out (fun _ _ h => h)
              have M7 := Lib.hid (M6.out.keep u7.out (fun h => h))
              have B8 := Lib.hid (u7.out.blk B7.out (fun h => h))
              have CH := Lib.hid (S8.changeE (1 + max 0 id % 4) (.slice p7 nk c7') (evsOf evn keys) (e7.out.row evc_len) (Or.inr (fun b hb h => h.2 (Or.inr hb))) (by rw [EL.out]; omega) (by omega) (by omega) KL.out)
              have INV := Lib.hid S7.out.inv.1
              clear EV1 S7 M6 U6 B7 S8 e7 u7 c0 c1 c2 c3 c4 c5 c6 c7 c8 c9 c10 c11 hb
              go_wp2_with fail
              refine CH.out.mono ?_
              rintro e w8 ⟨v8, rfl, r8⟩
              obtain ⟨p8, c8', e8, _⟩ := r8.row.slice
              have S9 := r8.st.less (Y := fun b => b = mb ∨ b = wr.heap.size) (fun b hb => Or.inl (Or.inl hb))
              have B9 := Lib.hid (r8.up.blk B8.out (fun h => h.2 (Or.inl (Or.inr rfl))))
              have HE := Lib.hid (fun (R1 : RM) (h1 : hearR R (changeP MT (fun _ _ => False) (1 + max 0 id % 4) (evsOf evn keys) L).1 = some R1) => heard_any mb _ v8 R R1 _ w8 (M7.out.keep r8.up (fun h => h.2 (Or.inl (Or.inl rfl)))) TQ0.out.v1 r8.row h1 (fun b hb e => by
                have := (r8.row.lt hb).1
                have := M7.out.lt
                omega))
              have U8 : Hid (Upd (fun _ => False) w w8) := U7.out.trans r8.up (fun b hb h => by have := h.1; omega)
              subst e8
              clear CH r8 M7 U7 B8
              obtain ⟨kk, hkk⟩ : ∃ kk, kk = evK evn := ⟨_, rfl⟩
              by_cases hk5 : kk = 5
              · have evs : evsOf evn keys = keys.map fun _ => ((5, []) : Int × Txt) := evs_5 (by rw [← hkk]; exact hk5) keys
                obtain ⟨h1, h2⟩ := tells_flush (P := fun _ _ => False) (id := 1 + max 0 id % 4) (evsOf evn keys) R L (fun e he => by
                  rw [evs] at he
                  obtain ⟨_, _, rfl⟩ := List.mem_map.1 he; rfl)
                have HE1 := Lib.hid (HE.out R h1)
                have hz : evsOf evn keys = [] ↔ nk = 0 := by rw [← List.length_eq_zero_iff, EL.out]
                obtain ⟨L2, hL2⟩ : ∃ L2, L2 = (changeP MT (fun _ _ => False) (1 + max 0 id % 4) (evsOf evn keys) L).2 := ⟨_, rfl⟩
                rw [← hL2] at h2 S9
                have LZ : Hid (nk = 0 → L2 = L) := fun e => by rw [h2, if_pos (hz.2 e)]
                have LP : Hid (0 < nk → L2 = []) := fun e => by rw [h2, if_neg (fun g => by have := hz.1 g; omega)]
                have hL2l : (L2.length : Int) ≤ mo := by
                  by_cases e : nk = 0
                  · rw [LZ.out e]; exact hL
                  · rw [LP.out (by omega)]; simp; omega
                have EVS := Lib.hid evs
                clear h1 h2 hL2 HE INV hkk evs hz hk5
                go_wp2_with fail
                refine HE1.out.mono ?_
                rintro e w9 ⟨rfl, m9, u9⟩
                have S10 := Lib.hid (S9.keepX (u9.weaken (fun b _ hb => Or.inl hb)))
                have U9 : Hid (Upd (fun _ => False) w w9) := U8.out.trans u9 (fun b hb e => by omega)
                have EV2 := Lib.hid (EV.out w9 U9.out)
                have B10 := Lib.hid (u9.blk B9.out (fun e => by omega))
                have M9 := Lib.hid m9
                have hmb9 := M9.out.lt
                obtain ⟨zz, z0, z1, z2, z3, z4, z5, z6, z7, z8, z9, z10, z11⟩ := act_facts B10.out
                clear HE1 m9 u9 S9 U8 EV B9
                go_wp2_with fail
                refine EV2.out.mono ?_
                rintro e w10 ⟨p10, c10', rfl, e10, u10⟩
                have S11 := Lib.hid (S10.out.keep0 u10.out)
                have U10 : Hid (Upd (fun _ => False) w w10) := U9.out.trans u10.out (fun _ _ h => h)
                have M10 := Lib.hid (M9.out.keep u10.out (fun h => h))
                obtain ⟨eb0, heb0⟩ : ∃ eb0, eb0 = w9.heap.size := ⟨_, rfl⟩
                rw [← heb0] at e10 hmb9
                clear EV2 S10 U9 B10 M9 u10 heb0 zz z0 z1 z2 z3 z4 z5 z6 z7 z8 z9 z10 z11
                obtain ⟨ab, hab2⟩ : ∃ ab, ab = wr.heap.size := ⟨_, rfl⟩
                rw [← hab2] at S11 hab hmbl
                clear hab2
                go_wp2
                go_loopw [7, 84] (fun x7 x84 wq => ∃ (j mb2 : Nat) (R2 : RM), j ≤ nk ∧ w.heap.size ≤ mb2 ∧ mb2 ≠ ab ∧ x84 = .int .i64 (j : Int) ∧ x7 = .map (some mb2) ∧ Hid (j = 0 → R2 = R) ∧ Hid (0 < j → R2 = []) ∧ Hid (TSt wq w.heap.size tb cm kb pb cb (fun b => b = mb2 ∨ b = ab) MT mo L2 (k * 10) (fun _ _ => False) 128) ∧ Hid (MapAt ntEnc wq mb2 R2) ∧ Hid (EvsAt wq eb0 (.slice p10 nk c10') (evsOf evn keys)) ∧ Hid (Upd (fun _ => False) w wq)) (fun _ x84 _ => nk - (intOf x84).toNat)
                case atStart => exact ⟨0, mb, R, by omega, hmb, by omega, rfl, rfl, Lib.hid (fun _ => rfl), Lib.hid (fun h => by omega), S11, M10, e10, U10⟩
                case round =>
                  clear S11 M10 e10 U10
                  obtain ⟨j, mb2, R2, hj, hmb2, hmba, rfl, rfl, RZ, RP, S11, M10, e10, U10⟩ := hrel
                  by_cases hlj : j < nk
                  · have q6 : (j : Int) < (nk : Int) := by omega
                    have hjl : j < keys.length := by rw [← NK.out]; exact hlj
                    have ee := e10.out
                    rw [← EL.out] at ee
                    obtain ⟨g, eg, hge, hgl, d0, d1⟩ := evs_cells ee (k := j) (by rw [EL.out]; exact hlj)
                    subst eg
                    have exj : (evsOf evn keys)[j]'(by rw [EL.out]; exact hlj) = ((5, []) : Int × Txt) := by simp [EVS.out]
                    rw [exj] at d0 d1
                    dsimp only at d0 d1
                    rw [show ofL [] = ({ data := #[] } : ByteArray) from rfl] at d1
                    have UE : Hid (Upd (fun _ => False) wr ((wr.alloc (.cells #[.int .i64 5, .string { data := #[] }] 45)).alloc (.map #[] 0))) := ((Upd.refl _ _).alloc _).alloc _
                    have BE : Hid (Blk ((wr.alloc (.cells #[.int .i64 5, .string { data := #[] }] 45)).alloc (.map #[] 0)) wr.heap.size [.int .i64 5, .string { data := #[] }] 45) := (Blk.made wr _ _).alloc _
                    have mk := run_makeMap (P := Tryz.prog) 33 (wr.alloc (.cells #[.int .i64 5, .string { data := #[] }] 45))
                    have hz1 : (wr.alloc (.cells #[.int .i64 5, .string { data := #[] }] 45)).heap.size = wr.heap.size + 1 := by simp
                    rw [hz1] at mk
                    have S12 : Hid (TSt ((wr.alloc (.cells #[.int .i64 5, .string { data := #[] }] 45)).alloc (.map #[] 0)) w.heap.size tb cm kb pb cb (fun b => b = wr.heap.size + 1 ∨ b = ab) MT mo L2 (k * 10) (fun _ _ => False) 128) := S11.out.also UE.out (fun b hb => by
                      rcases hb with g | g
                      · right; rw [g]; simp
                      · left; right; exact g)
                    have M12 : Hid (MapAt ntEnc ((wr.alloc (.cells #[.int .i64 5, .string { data := #[] }] 45)).alloc (.map #[] 0)) (wr.heap.size + 1) ([] : RM)) := by
                      have := MapAt.made (enc := ntEnc) (wr.alloc (.cells #[.int .i64 5, .string { data := #[] }] 45))
                      rw [hz1] at this
                      exact this
                    have E12 : Hid (EvsAt ((wr.alloc (.cells #[.int .i64 5, .string { data := #[] }] 45)).alloc (.map #[] 0)) eb0 (.slice (some ⟨g, 0, none⟩) nk c10') (evsOf evn keys)) := e10.out.keep0 UE.out
                    have U12 : Hid (Upd (fun _ => False) w ((wr.alloc (.cells #[.int .i64 5, .string { data := #[] }] 45)).alloc (.map #[] 0))) := U10.out.trans UE.out (fun _ _ h => h)
                    have hmbw : w.heap.size ≤ wr.heap.size := U10.out.size
                    have habw : ab < wr.heap.size := S11.out.xlt ab (Or.inr rfl)
                    clear ee exj hjl S11 M10 e10 U10 UE RZ RP hmb2 hmba hz1
                    go_wp2
                    obtain ⟨eb, heb⟩ : ∃ eb, eb = wr.heap.size := ⟨_, rfl⟩
                    rw [← heb] at BE S12 M12 hmbw habw mk hgl ⊢
                    clear heb
                    go_loopw [15] (fun x15 wq => ∃ (i : Nat), i ≤ 4 ∧ x15 = .int .i64 ((i : Int) + 1) ∧ Hid (TSt wq w.heap.size tb cm kb pb cb (fun b => b = eb + 1 ∨ b = ab) MT mo L2 (k * 10) (fun _ _ => False) 128) ∧ Hid (MapAt ntEnc wq (eb + 1) ([] : RM)) ∧ Hid (EvsAt wq eb0 (.slice (some ⟨g, 0, none⟩) nk c10') (evsOf evn keys)) ∧ Hid (Blk wq eb [.int .i64 5, .string { data := #[] }] 45) ∧ Hid (Upd (fun _ => False) w wq)) (fun x15 _ => 5 - (intOf x15).toNat)
                    case atStart => exact ⟨0, by omega, rfl, S12, M12, E12, BE, U12⟩
                    case round =>
                      clear S12 M12 E12 BE U12 d0 d1 mk
                      obtain ⟨i, hi4, rfl, S12, M12, E12, BE, U12⟩ := hrel
                      by_cases hi : i < 4
                      · have q8 : (i : Int) + 1 ≤ 4 := by omega
                        have lk := M12.out.lookW (P := Tryz.prog) (K := 40) (E := 3) (T := 33) ntKey Tryz.underlying33 (zeroNI _) (KN ((i : Int) + 1) { data := #[] }) false
                        obtain ⟨w2', dr, m2, u2⟩ := M12.out.delW (P := Tryz.prog) (K := 40) (E := 3) (T := 33) ntKey Tryz.underlying33 (KN ((i : Int) + 1) { data := #[] }) 0
                        have S13 := Lib.hid (S12.out.keepX (u2.weaken (fun b _ hb => Or.inl hb)))
                        have M13 : Hid (MapAt ntEnc w2' (eb + 1) ([] : RM)) := m2
                        have E13 : Hid (EvsAt w2' eb0 (.slice (some ⟨g, 0, none⟩) nk c10') (evsOf evn keys)) := E12.out.keep u2 (fun b hb e => by
                          have e3 : (some g : Option Nat) = some b := hb
                          injection e3 with e3
                          omega)
                        have B13 := Lib.hid (u2.blk BE.out (fun e => by omega))
                        have U13 : Hid (Upd (fun _ => False) w w2') := U12.out.trans u2 (fun b hb e => by omega)
                        have b0 := BE.out.cellAt (i := 0) (v := .int .i64 5) rfl
                        have b1 := BE.out.cellAt (i := 1) (v := .string { data := #[] }) rfl
                        have bz := BE.out.lt
                        unfold ntEnc KN at dr
                        dsimp only at dr
                        rw [show aget ([] : RM) (KN ((i : Int) + 1) { data := #[] }) = none from rfl] at lk
                        simp only [Option.getD_none, Bool.false_eq_true, if_false] at lk
                        unfold ntEnc KN at lk
                        dsimp only at lk
                        clear S12 M12 E12 BE U12 m2 u2
                        go_wp2
                        go_roundw
                        case rel => exact ⟨i + 1, by omega, by go_num, S13, M13, E13, B13, U13⟩
                        case measure => simp [intOf]; omega
                      · have q8 : ¬ (i : Int) + 1 ≤ 4 := by omega
                        clear BE
                        go_wp2
                        go_roundw
                        case rel => exact ⟨j + 1, eb + 1, [], by omega, by omega, by omega, by go_num, rfl, Lib.hid (fun h => by omega), Lib.hid (fun _ => rfl), S12, M12, E12, U12⟩
                        case measure => simp [intOf]; omega
                  · have q6 : ¬ (j : Int) < (nk : Int) := by omega
                    have TQ2 : Hid (TQ R2 L2 (fun _ => False)) := by
                      show TQ _ _ _
                      by_cases e : nk = 0
                      · rw [RZ.out (by omega), LZ.out e]; exact TQ0.out
                      · rw [RP.out (by omega), LP.out (by omega)]; exact TQ.nil
                    clear e10 TQ0 RZ RP LZ LP
                    have LE := Lib.hid (S11.out.len (by omega))
                    have qlen : ¬ max most 1 < ((L2).length : Int) := by rw [← MO.out]; omega
                    have SF := Lib.hid ((S11.out.less (Y := fun b => b = mb2) (fun b hb => Or.inl hb)).more (n' := (k + 1) * 10) (by omega) (Nat.le_refl _))
                    clear S11
                    go_wp2_with fail
                    refine LE.out.mono ?_
                    rintro e w9 ⟨rfl, rfl⟩
                    clear LE
                    go_wp2
                    go_roundw
                    case rel => exact ⟨k + 1, mb2, _, L2, by omega, by omega, by go_num, rfl, by omega, TQ2, SF, M10, U10⟩
                    case measure => simp [intOf]; omega
              · have evs : evsOf evn keys = keys.map fun t => (kk, t) := by rw [hkk]; exact evs_ne5 (by rw [← hkk]; exact hk5) keys
                obtain ⟨R1, h1, h2, h3, _, h5'⟩ := tells_chg (P := fun _ _ => False) (fun _ _ h => h) H14.out hk5 keys R L [] (TQ0.out.mono (fun _ h => h.elim)) INV.out
                rw [← evs] at h1 h2 h3 h5'
                have HE1 := Lib.hid (HE.out R1 h1)
                obtain ⟨L2, hL2⟩ : ∃ L2, L2 = (changeP MT (fun _ _ => False) (1 + max 0 id % 4) (evsOf evn keys) L).2 := ⟨_, rfl⟩
                rw [← hL2] at h2 h3 h5' S9
                have TQ1 : Hid (TQ R1 L2 (lfD (1 + max 0 id % 4) kk keys 0)) := h2
                have NO := Lib.hid h3
                have EVS := Lib.hid evs
                clear h1 h2 h3 hL2 HE INV TQ0 hkk evs
                go_wp2_with fail
                refine HE1.out.mono ?_
                rintro e w9 ⟨rfl, m9, u9⟩
                have S10 := Lib.hid (S9.keepX (u9.weaken (fun b _ hb => Or.inl hb)))
                have U9 : Hid (Upd (fun _ => False) w w9) := U8.out.trans u9 (fun b hb e => by omega)
                have EV2 := Lib.hid (EV.out w9 U9.out)
                have B10 := Lib.hid (u9.blk B9.out (fun e => by omega))
                have M9 := Lib.hid m9
                have hmb9 := M9.out.lt
                obtain ⟨zz, z0, z1, z2, z3, z4, z5, z6, z7, z8, z9, z10, z11⟩ := act_facts B10.out
                clear HE1 m9 u9 S9 U8 EV B9
                go_wp2_with fail
                refine EV2.out.mono ?_
                rintro e w10 ⟨p10, c10', rfl, e10, u10⟩
                have S11 := Lib.hid (S10.out.keep0 u10.out)
                have U10 : Hid (Upd (fun _ => False) w w10) := U9.out.trans u10.out (fun _ _ h => h)
                have M10 := Lib.hid (M9.out.keep u10.out (fun h => h))
                obtain ⟨eb0, heb0⟩ : ∃ eb0, eb0 = w9.heap.size := ⟨_, rfl⟩
                rw [← heb0] at e10 hmb9
                clear EV2 S10 U9 B10 M9 u10 heb0 zz z0 z1 z2 z3 z4 z5 z6 z7 z8 z9 z10 z11
                obtain ⟨ab, hab2⟩ : ∃ ab, ab = wr.heap.size := ⟨_, rfl⟩
                rw [← hab2] at S11 hab hmbl
                clear hab2
                go_wp2
                go_loopw [7, 84] (fun x7 x84 wq => ∃ (j : Nat) (R : RM), j ≤ nk ∧ x84 = .int .i64 (j : Int) ∧ x7 = .map (some mb) ∧ Hid (TQ R L2 (lfD (1 + max 0 id % 4) kk keys j)) ∧ Hid (TSt wq w.heap.size tb cm kb pb cb (fun b => b = mb ∨ b = ab) MT mo L2 (k * 10) (fun _ _ => False) 128) ∧ Hid (MapAt ntEnc wq mb R) ∧ Hid (EvsAt wq eb0 (.slice p10 nk c10') (evsOf evn keys)) ∧ Hid (Upd (fun _ => False) w wq)) (fun _ x84 _ => nk - (intOf x84).toNat)
                case atStart => exact ⟨0, R1, by omega, rfl, rfl, TQ1, S11, M10, e10, U10⟩
                case round =>
                  clear TQ1 S11 M10 e10 U10
                  obtain ⟨j, R, hj, rfl, rfl, TQ1, S11, M10, e10, U10⟩ := hrel
                  by_cases hlj : j < nk
                  · have q6 : (j : Int) < (nk : Int) := by omega
                    have hjl : j < keys.length := by rw [← NK.out]; exact hlj
                    have ee := e10.out
                    rw [← EL.out] at ee
                    obtain ⟨g, eg, hge, hgl, d0, d1⟩ := evs_cells ee (k := j) (by rw [EL.out]; exact hlj)
                    subst eg
                    have exj : (evsOf evn keys)[j]'(by rw [EL.out]; exact hlj) = (kk, keys[j]) := by simp [EVS.out]
                    rw [exj] at d0 d1
                    have NOK := Lib.hid (NO.out keys[j] (List.getElem_mem hjl))
                    have LNX := Lib.hid (fun (n : NT) (h : lfD (1 + max 0 id % 4) kk keys j n) (hn : ¬ (n.key = ofL keys[j] ∧ n.who ≤ 4)) => lfD_next hjl h hn)
                    obtain ⟨key, hkey⟩ : ∃ key, key = ofL keys[j] := ⟨_, rfl⟩
                    dsimp only at d0 d1
                    rw [← hkey] at d1 NOK LNX
                    have q7 : (kk == 5) = false := beq_eq_false_iff_ne.2 hk5
                    have UE : Hid (Upd (fun _ => False) wr (wr.alloc (.cells #[.int .i64 kk, .string key] 45))) := (Upd.refl _ _).alloc _
                    have BE : Hid (Blk (wr.alloc (.cells #[.int .i64 kk, .string key] 45)) wr.heap.size [.int .i64 kk, .string key] 45) := Blk.made wr _ _
                    have S12 := Lib.hid (S11.out.keep0 UE.out)
                    have M12 := Lib.hid (M10.out.keep UE.out (fun h => h))
                    have E12 : Hid (EvsAt (wr.alloc (.cells #[.int .i64 kk, .string key] 45)) eb0 (.slice (some ⟨g, 0, none⟩) nk c10') (evsOf evn keys)) := e10.out.keep0 UE.out
                    have U12 : Hid (Upd (fun _ => False) w (wr.alloc (.cells #[.int .i64 kk, .string key] 45))) := U10.out.trans UE.out (fun _ _ h => h)
                    have T12 : Hid (TQ R L2 (fun n => lfD (1 + max 0 id % 4) kk keys j n ∧ ¬ (n.key = key ∧ n.who ≤ ((0 : Nat) : Int)))) := TQ1.out.mono (fun n h => ⟨h, fun g => by rw [h.1] at g; omega⟩)
                    have hmw : mb < wr.heap.size := M10.out.lt
                    obtain ⟨eb, heb⟩ : ∃ eb, eb = wr.heap.size := ⟨_, rfl⟩
                    clear ee exj hkey hjl TQ1 S11 M10 e10 U10 UE
                    go_wp2
                    rw [← heb] at BE hmw ⊢
                    clear heb
                    go_loopw [15] (fun x15 wq => ∃ (i : Nat) (R : RM), i ≤ 4 ∧ x15 = .int .i64 ((i : Int) + 1) ∧ Hid (TQ R L2 (fun n => lfD (1 + max 0 id % 4) kk keys j n ∧ ¬ (n.key = key ∧ n.who ≤ (i : Int)))) ∧ Hid (TSt wq w.heap.size tb cm kb pb cb (fun b => b = mb ∨ b = ab) MT mo L2 (k * 10) (fun _ _ => False) 128) ∧ Hid (MapAt ntEnc wq mb R) ∧ Hid (EvsAt wq eb0 (.slice (some ⟨g, 0, none⟩) nk c10') (evsOf evn keys)) ∧ Hid (Blk wq eb [.int .i64 kk, .string key] 45) ∧ Hid (Upd (fun _ => False) w wq)) (fun x15 _ => 5 - (intOf x15).toNat)
                    case atStart => exact ⟨0, R, by omega, rfl, T12, S12, M12, E12, BE, U12⟩
                    case round =>
                      clear T12 S12 M12 E12 BE U12 d0 d1 hgl
                      obtain ⟨i, R, hi4, rfl, T12, S12, M12, E12, BE, U12⟩ := hrel
                      by_cases hi : i < 4
                      · have q8 : (i : Int) + 1 ≤ 4 := by omega
                        have lk := M12.out.lookW (P := Tryz.prog) (K := 40) (E := 3) (T := 33) ntKey Tryz.underlying33 (zeroNI _) (KN ((i : Int) + 1) key) false
                        obtain ⟨w2', dr, m2, u2⟩ := M12.out.delW (P := Tryz.prog) (K := 40) (E := 3) (T := 33) ntKey Tryz.underlying33 (KN ((i : Int) + 1) key) 0
                        have T13 : Hid (TQ (adel R (KN ((i : Int) + 1) key)) L2 (fun n => lfD (1 + max 0 id % 4) kk keys j n ∧ ¬ (n.key = key ∧ n.who ≤ ((i + 1 : Nat) : Int)))) := (T12.out.del NOK.out).mono2 (fun n k0 k1 h => ⟨h.1.1, fun g => by
                          obtain ⟨g1, g2⟩ := g
                          by_cases e : n.who ≤ (i : Int)
                          · exact h.1.2 ⟨g1, e⟩
                          · have hw : n.who = (i : Int) + 1 := by omega
                            apply h.2
                            obtain ⟨a1, a2, a3, a4⟩ := n
                            simp only [KN] at *
                            rw [k0, k1, hw, g1]⟩)
                        have S13 := Lib.hid (S12.out.keepX (u2.weaken (fun b _ hb => Or.inl hb)))
                        have M13 := Lib.hid m2
                        have E13 : Hid (EvsAt w2' eb0 (.slice (some ⟨g, 0, none⟩) nk c10') (evsOf evn keys)) := E12.out.keep u2 (fun b hb e => by
                          have := (E12.out.lt hb).1; omega)
                        have B13 := Lib.hid (u2.blk BE.out (fun e => by omega))
                        have U13 : Hid (Upd (fun _ => False) w w2') := U12.out.trans u2 (fun b hb e => by omega)
                        have b0 := BE.out.cellAt (i := 0) (v := .int .i64 kk) rfl
                        have b1 := BE.out.cellAt (i := 1) (v := .string key) rfl
                        have bz := BE.out.lt
                        unfold ntEnc KN at dr
                        dsimp only at dr
                        cases hq : aget R (KN ((i : Int) + 1) key) with
                        | none =>
                          rw [hq] at lk
                          simp only [Option.getD_none, Bool.false_eq_true, if_false] at lk
                          unfold ntEnc KN at lk
                          dsimp only at lk
                          clear T12 S12 M12 E12 BE U12 m2 u2 hq
                          go_wp2
                          go_roundw
                          case rel => exact ⟨i + 1, _, by omega, by go_num, T13, S13, M13, E13, B13, U13⟩
                          case measure => simp [intOf]; omega
                        | some v2 =>
                          have hq1 := T12.out.v1.get (k := KN ((i : Int) + 1) key) (by rw [hq]; simp)
                          obtain ⟨⟨o1, o2, o3, _⟩, _⟩ := T12.out.own NOK.out (who := (i : Int) + 1) (by rw [hq]; simp)
                          rw [hq1] at lk
                          simp only [Option.getD_some, Bool.false_eq_true, if_false] at lk
                          unfold ntEnc KN at lk
                          dsimp only at lk
                          have o1' : (i : Int) + 1 = 2 := o1
                          have qa : ((i : Int) + 1 == 1 + max 0 id % 4) = true := by rw [o2, o1']; rfl
                          have qb : ((i : Int) + 1 == 2) = true := by rw [o1']; rfl
                          clear T12 S12 M12 E12 BE U12 m2 u2 hq hq1 o1 o2 o1'
                          go_wp2
                          go_roundw
                          case rel => exact ⟨i + 1, _, by omega, by go_num, T13, S13, M13, E13, B13, U13⟩
                          case measure => simp [intOf]; omega
                      · have q8 : ¬ (i : Int) + 1 ≤ 4 := by omega
                        have T14 : Hid (TQ R L2 (lfD (1 + max 0 id % 4) kk keys (j + 1))) := T12.out.mono (fun n h => LNX.out n h.1 (fun g => h.2 ⟨g.1, by omega⟩))
                        clear T12 BE LNX NOK
                        go_wp2
                        go_roundw
                        case rel => exact ⟨j + 1, R, by omega, by go_num, rfl, T14, S12, M12, E12, U12⟩
                        case measure => simp [intOf]; omega
                  · have q6 : ¬ (j : Int) < (nk : Int) := by omega
                    have TQ2 : Hid (TQ R L2 (fun _ => False)) := TQ1.out.mono (fun n h => by
                      obtain ⟨_, _, _, d⟩ := h
                      rw [List.drop_eq_nil_of_le (by rw [← NK.out]; omega)] at d
                      simp at d)
                    clear TQ1 e10
                    have LE := Lib.hid (S11.out.len (by omega))
                    have qlen : ¬ max most 1 < ((L2).length : Int) := by rw [← MO.out]; omega
                    have SF := Lib.hid ((S11.out.less (Y := fun b => b = mb) (fun b hb => Or.inl hb)).more (n' := (k + 1) * 10) (by omega) (Nat.le_refl _))
                    clear S11
                    go_wp2_with fail
                    refine LE.out.mono ?_
                    rintro e w9 ⟨rfl, rfl⟩
                    clear LE
                    go_wp2
                    go_roundw
                    case rel => exact ⟨k + 1, mb, _, L2, by omega, by omega, by go_num, rfl, by omega, TQ2, SF, M10, U10⟩
                    case measure => simp [intOf]; omega
          · have q4 : ¬ (k : Int) < (nl : Int) := by omega
            go_wp2
            go_ret
            exact ⟨rfl, U5.out⟩
end Go.Proofs.YtmlojbfcmebboaaGreat
