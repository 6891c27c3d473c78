/- Rows of numbers one behind another. -/
import Derived.Test.YtmlojbfcmebboaaGreatK23
set_option linter.unusedVariables false
set_option linter.unusedSimpArgs false
namespace Go.Proofs.YtmlojbfcmebboaaGreat
open Go.RowKit

theorem IntsAt.ownI {w : World} {base : Nat} {v : Value} {l : List Int} : IntsAt w base v l ↔ OwnN intc 1 3 w base v l := by
  unfold IntsAt OwnN intc
  have : ∀ l : List Int, flat (fun t => [Value.int .i64 t]) l = l.map (Value.int .i64) := fun l => by
    induction l with
    | nil => rfl
    | cons a l ih => show [_] ++ flat _ l = _; rw [ih]; rfl
  rw [this]
theorem zeroI64 (k : Nat) : Builtin.zeroCells (Value.int .i64 0).cells k = (List.replicate k (Value.int .i64 0)).toArray := by
  apply Array.ext'
  simp [Builtin.zeroCells, Value.cells, Nat.mod_one, List.map_const']
theorem growI_any (n : Nat) (w : World) (hn : n ≤ 1000000000) :
    Calls Tryz.prog 106 #[.slice none 0 0, .int .i64 (n : Int)] w fun e w' => ∃ v', e = .returned v' ∧ IntsAt w' w.heap.size v' [] ∧ Upd (fun _ => False) w w' := by
  by_cases h0 : n = 0
  · subst h0
    refine (Any8.slices_Grow_room Tryz.layGrowI none 0 0 0 w (by omega) (by omega) (by omega) (by omega)).mono ?_
    rintro e w' ⟨rfl, rfl⟩
    exact ⟨_, rfl, World.ownsRow_nil _ _ _ _, Upd.refl _ _⟩
  · obtain ⟨i0, hi0, hz0, hzs, hzb⟩ := info_parts int_info
    refine (Any8.slices_Grow_grow Tryz.layGrowI i0 (.int .i64 0) hi0 hz0 (by rw [hzs]; exact Nat.one_pos) none 0 0 n [] w (by omega) (by omega) (by rw [hzb]; show (0 + n) * 8 ≤ _; omega) (by omega) (by simp) (fun _ => rfl) (fun a h => by cases h)).mono ?_
    rintro e w' ⟨rfl, rfl⟩
    obtain ⟨Q, hQ⟩ : ∃ Q, Q = grownCap w (0 + n) 0 3 := ⟨_, rfl⟩
    have hQ1 : 0 + n ≤ Q := by rw [hQ]; exact grownCap_ge w _ _ _
    have hQ2 : Q ≤ maxLen := by rw [hQ]; exact grownCap_le_maxLen w _ _ _ (by unfold maxLen; omega)
    have hA : (([] : List Value).toArray ++ Builtin.zeroCells (Value.int .i64 0).cells (0 + n - 0) ++ Builtin.zeroCells (Value.int .i64 0).cells (Q - (0 + n))) = (List.replicate (0 + n - 0) (Value.int .i64 0) ++ List.replicate (Q - (0 + n)) (Value.int .i64 0)).toArray := by
      rw [zeroI64, zeroI64]; simp
    show ∃ v', _ = _ ∧ IntsAt (w.drew.alloc (.cells (([] : List Value).toArray ++ Builtin.zeroCells (Value.int .i64 0).cells (0 + n - 0) ++ Builtin.zeroCells (Value.int .i64 0).cells (grownCap w (0 + n) 0 3 - (0 + n))) 3)) _ _ _ ∧ _
    rw [← hQ, hA]
    have hB := Blk.made w.drew (List.replicate (0 + n - 0) (Value.int .i64 0) ++ List.replicate (Q - (0 + n)) (Value.int .i64 0)) 3
    refine ⟨.slice (some ⟨w.heap.size, 0, none⟩) 0 Q, by rw [hQ]; rfl, ?_, (Upd.refl _ _).drew.alloc _⟩
    exact IntsAt.ownI.2 <| OwnN.ofBlk (f := intc) (k := 1) (l := []) (base := w.heap.size) (Nat.le_refl _) (fun _ => rfl) hB (by simp; omega) hQ2 (Nat.zero_le _)
def sumI (R : List (Value × List Int)) (k : Nat) : Nat := ((R.take k).map fun r => r.2.length).sum
theorem sumI_succ {R : List (Value × List Int)} {k : Nat} {r : Value × List Int} (h : R[k]? = some r) : sumI R (k + 1) = sumI R k + r.2.length := by
  obtain ⟨h1, e⟩ := List.getElem?_eq_some_iff.1 h
  unfold sumI; rw [List.take_succ_eq_append_getElem h1, e]; simp
theorem sumI_le (R : List (Value × List Int)) (k : Nat) : sumI R k ≤ sumI R R.length := by
  unfold sumI
  rw [List.take_length]
  have := List.take_append_drop k R
  conv => rhs; rw [← this]
  rw [List.map_append, List.sum_append]; omega
theorem flat_lenI (R : List (Value × List Int)) (k : Nat) : ((R.take k).flatMap (·.2)).length = sumI R k := by
  unfold sumI; rw [List.length_flatMap]
theorem ints_appR (w : World) (base : Nat) (v v2 : Value) (l l2 : List Int) (h : IntsAt w base v l) (h2 : RowOf intc 1 w v2 l2) (hl : l.length + l2.length ≤ 1000000000) (hb : base ≤ w.heap.size) :
    ∃ p c w', (Builtin.append_ #[85, 85] 85 #[v, v2]).run Tryz.prog w = .ok (.slice p (l ++ l2).length c) w' ∧ IntsAt w' base (.slice p (l ++ l2).length c) (l ++ l2) ∧ Upd (fun b => v.ownBlock = some b) w w' := by
  obtain ⟨i0, hi0, hz0, hz1, hz2⟩ := info_parts int_info
  obtain ⟨v', w', a, b, c, _⟩ := OwnN.append (P := Tryz.prog) 85 85 i0 (.int .i64 0) 8 Tryz.underlying85 hi0 hz0 hz1 hz2 rfl (by decide) (fun _ => rfl) (fun a _ => fun u hu => by simp [intc] at hu; subst hu; rfl) (IntsAt.ownI.1 h) h2 (by unfold maxLen; omega) (by omega) hb
  obtain ⟨p, k, e, _⟩ := b.slice
  subst e
  exact ⟨p, k, w', a, IntsAt.ownI.2 b, c⟩
set_option maxHeartbeats 4000000 in
set_option maxRecDepth 100000 in
theorem concatI_any (b cap : Nat) (R : List (Value × List Int)) (w : World) (hb : b < w.heap.size) (hc : ∀ j r, R[j]? = some r → w.cell? ⟨b, j, none⟩ = some r.1) (hr : ∀ r ∈ R, RowOf intc 1 w r.1 r.2) (hn : R.length ≤ 1000) (ht : sumI R R.length ≤ 1000000000) :
    Calls Tryz.prog 53 #[.slice (some ⟨b, 0, none⟩) R.length cap] w fun e w' => ∃ v', e = .returned v' ∧ IntsAt w' w.heap.size v' (R.flatMap (·.2)) ∧ Upd (fun _ => False) w w' := by
  obtain ⟨nr, hnr⟩ : ∃ nr, nr = R.length := ⟨_, rfl⟩
  rw [← hnr] at hn ht ⊢
  have NR := Lib.hid hnr
  have HC := Lib.hid hc
  have HR := Lib.hid hr
  have SL := Lib.hid (sumI_le R)
  have GR := Lib.hid (growI_any (sumI R nr) w ht)
  have HT := Lib.hid ht
  clear hc hr hnr ht
  go_enter Tryz.func53, Tryz.ntmps53
  go_wp2
  go_loop [3, 11] (fun x3 x11 => ∃ (k s : Nat), k ≤ nr ∧ x3 = .int .i64 (s : Int) ∧ x11 = .int .i64 (k : Int) ∧ Hid (s = sumI R k)) (fun _ x11 => nr - (intOf x11).toNat)
  case atStart => exact ⟨0, 0, by omega, rfl, rfl, Lib.hid rfl⟩
  case round =>
    obtain ⟨k, s, hk, rfl, rfl, SK⟩ := hrel
    by_cases hlt : k < nr
    · have q1 : (k : Int) < (nr : Int) := by omega
      have hkl : k < R.length := by rw [← NR.out]; exact hlt
      have gk : R[k]? = some R[k] := List.getElem?_eq_getElem hkl
      have c0 := HC.out k _ gk
      obtain ⟨p, c, ev, hm⟩ := (HR.out _ (List.mem_of_getElem? gk)).len
      rw [ev] at c0
      have S2 := sumI_succ gk
      have S3 : sumI R (k + 1) ≤ 1000000000 := Nat.le_trans (SL.out (k + 1)) (by rw [← NR.out]; exact HT.out)
      have SK2 : Hid (s + (R[k]).2.length = sumI R (k + 1)) := by show _ = _; rw [S2, SK.out]
      generalize (R[k]).2.length = nk at *
      have hs : s + nk ≤ 1000000000 := by rw [SK2.out]; exact S3
      clear gk ev S2 S3 hkl SK
      go_wp2
      go_round
      case rel => exact ⟨k + 1, s + nk, by omega, by simp, by simp, SK2⟩
      case measure => simp [intOf]; omega
    · have q1 : ¬ (k : Int) < (nr : Int) := by omega
      have ek : k = nr := by omega
      have SN : Hid (s = sumI R nr) := by rw [← ek]; exact SK
      have GR2 := GR.out
      rw [← SN.out] at GR2
      have GR2 := Lib.hid GR2
      clear SK ek GR SN
      go_wp2_with fail
      refine (GR2.out).mono ?_
      rintro e w1 ⟨v1, rfl, t1, u1⟩
      have T1 := Lib.hid t1
      have U1 := Lib.hid u1
      have HC1 : Hid (∀ W, Upd (fun _ => False) w W → ∀ j r, R[j]? = some r → W.cell? ⟨b, j, none⟩ = some r.1) := fun W u j r h => (u.cell (p := ⟨b, j, none⟩) hb (fun h => h)).trans (HC.out j r h)
      clear t1 u1 GR2
      go_wp2
      go_loopw [6, 27] (fun x6 x27 wr => ∃ (k : Nat) (acc : List Int) (p : Option Addr) (n c : Nat), k ≤ nr ∧ x6 = .slice p n c ∧ x27 = .int .i64 (k : Int) ∧ Hid (acc = (R.take k).flatMap (·.2)) ∧ Hid (IntsAt wr w.heap.size (.slice p n c) acc) ∧ Hid (Upd (fun _ => False) w wr)) (fun _ x27 _ => nr - (intOf x27).toNat)
      case atStart =>
        obtain ⟨p, c, e1, _⟩ := own_slice T1.out
        subst e1
        exact ⟨0, [], _, _, _, by omega, rfl, rfl, Lib.hid (by simp), T1, U1⟩
      case round =>
        obtain ⟨k, acc, pa, na, ca, hk, rfl, rfl, AC, OW, U⟩ := hrel
        by_cases hlt : k < nr
        · have q2 : (k : Int) < (nr : Int) := by omega
          have hkl : k < R.length := by rw [← NR.out]; exact hlt
          have gk0 : R[k]? = some R[k] := List.getElem?_eq_getElem hkl
          obtain ⟨r, hrk⟩ : ∃ r, r = R[k] := ⟨_, rfl⟩
          have gk : R[k]? = some r := by rw [hrk]; exact gk0
          have TK : R.take (k + 1) = R.take k ++ [r] := by rw [hrk, List.take_succ_eq_append_getElem hkl]
          clear gk0 hrk
          have c0 := HC1.out _ U.out k _ gk
          have hrow := (HR.out _ (List.mem_of_getElem? gk)).keep U.out (fun _ _ _ h => h)
          have hal : acc.length = sumI R k := by rw [AC.out, flat_lenI]
          have S2 := sumI_succ gk
          have S3 : sumI R (k + 1) ≤ 1000000000 := Nat.le_trans (SL.out (k + 1)) (by rw [← NR.out]; exact HT.out)
          obtain ⟨p1, c1, w9, hr1, I1, V1⟩ := ints_appR wr w.heap.size _ _ acc r.2 OW.out hrow (by omega) U.out.size
          obtain ⟨p, c, ev, hm⟩ := hrow.len
          rw [ev] at c0 hr1
          have AC2 : Hid (acc ++ r.2 = (R.take (k + 1)).flatMap (·.2)) := by
            show _ = _; rw [TK, List.flatMap_append, ← AC.out]; simp
          have UF : Hid (Upd (fun _ => False) w w9) := U.out.trans V1 (fun q hq e => by
            have := (own_lt OW.out e).2.1; omega)
          have I1 := Lib.hid I1
          clear gk ev S2 S3 hkl hal hrow V1 AC OW TK
          generalize acc ++ r.2 = acc2 at *
          generalize r.2.length = nk at *
          go_wp2_with (at_builtin; refine wpList_builtinN rfl _ _ 85 rfl _ _ rfl rfl hr1 ?_)
          go_roundw
          case rel => exact ⟨k + 1, acc2, _, _, _, by omega, rfl, by simp, AC2, I1, UF⟩
          case measure => simp [intOf]; omega
        · have q2 : ¬ (k : Int) < (nr : Int) := by omega
          have EA : Hid (acc = R.flatMap (·.2)) := by
            have := AC.out
            rw [List.take_of_length_le (by rw [← NR.out]; omega)] at this; exact this
          go_wp2
          go_ret
          exact ⟨_, rfl, by rw [← EA.out]; exact OW.out, U.out⟩
end Go.Proofs.YtmlojbfcmebboaaGreat
/- Walks: all that are told of anything are told of all. -/
set_option linter.unusedVariables false
set_option linter.unusedSimpArgs false
set_option linter.unusedSectionVars false
set_option maxRecDepth 100000
namespace Go.Proofs.YtmlojbfcmebboaaGreat
open Go.RowKit

abbrev emp : ByteArray := { data := #[] }
def onB (M : List (Int × CL)) (id : Int) : Bool := match aget M id with | some c => c.md.on | none => false
def flushP (M : List (Int × CL)) : List NT := ((akeys M).filter (onB M)).map fun x => toldP (aget M) 2 x emp
theorem flushP_len (M : List (Int × CL)) : (flushP M).length ≤ M.length := by
  unfold flushP; rw [List.length_map]
  exact Nat.le_trans (List.length_filter_le _ _) (by simp [akeys])
theorem filter_snoc {α : Type} (p : α → Bool) (l : List α) (x : α) : (l ++ [x]).filter p = l.filter p ++ (if p x = true then [x] else []) := by
  rw [List.filter_append]; congr 1; cases h : p x <;> simp [h]
section
variable {w w' : World} {base tb cm kb pb : Nat} {cb : Int → Nat} {X Y : Nat → Prop} {M : List (Int × CL)} {most : Int} {L : Rows14} {n : Nat} {P P' : Txt → Int → Prop} {N : Nat}
set_option maxHeartbeats 8000000 in
theorem TSt.flush (h : TSt w base tb cm kb pb cb X M most L n P N) :
    Calls Tryz.prog 52 #[.pointer (some ⟨tb, 0, none⟩)] w fun e w' => ∃ v', e = .returned v' ∧ RSt w' w base tb cm kb pb cb X M most [] n P N v' (flushP M) := by
  have H := Lib.hid h
  have CS := Lib.hid h.clients
  have hml := h.ok.len
  obtain ⟨ids, hids⟩ : ∃ ids, ids = akeys M := ⟨_, rfl⟩
  rw [← hids] at CS
  have IDS := Lib.hid hids
  have ML : Hid (ids.length = M.length) := by show _ = _; rw [hids]; simp [akeys]
  clear h hids
  go_enter Tryz.func52, Tryz.ntmps52
  go_wp2_with fail
  refine CS.out.mono ?_
  rintro e w1 ⟨vi, rfl, ii, u1⟩
  obtain ⟨pi, ci, ei, hmi⟩ := own_slice ii
  subst ei
  obtain ⟨ni, hni⟩ : ∃ ni, ni = ids.length := ⟨_, rfl⟩
  have NI := Lib.hid hni
  rw [← hni] at hmi ML
  have hni2 : ni ≤ 10000 := by have := ML.out; omega
  have II : Hid (IntsAt w1 w.heap.size (.slice pi ni ci) ids) := by show IntsAt _ _ _ _; rw [hni]; exact ii
  have ST := Lib.hid ((RSt.start H.out).keep0 u1)
  clear hni ii u1 CS
  rw [← NI.out]
  go_wp2
  go_loopw [3, 9] (fun x3 x9 wq => ∃ (j : Nat) (p9 : Option Addr) (n9 c9 : Nat), j ≤ ni ∧ x9 = .int .i64 (j : Int) ∧ x3 = .slice p9 n9 c9 ∧ Hid (n9 = (((ids.take j).filter (onB M)).map (fun x => toldP (aget M) 2 x emp)).length) ∧ Hid (RSt wq w base tb cm kb pb cb X M most L n P N (.slice p9 n9 c9) (((ids.take j).filter (onB M)).map (fun x => toldP (aget M) 2 x emp))) ∧ Hid (IntsAt wq w.heap.size (.slice pi ni ci) ids)) (fun _ x9 _ => ni - (intOf x9).toNat)
  case atStart => exact ⟨0, none, 0, 0, by omega, rfl, rfl, Lib.hid (by simp), Lib.hid (by simpa using ST.out), II⟩
  case round =>
    clear II ST
    obtain ⟨j, p9, n9, c9, hj, rfl, rfl, N9, ST, II⟩ := hrel
    by_cases hlj : j < ni
    · have q2 : (j : Int) < (ni : Int) := by omega
      have hjl : j < ids.length := by rw [← NI.out]; exact hlj
      have i0 := II.out
      rw [NI.out] at i0
      obtain ⟨g, cap, e1, ck, hg⟩ := ints_cell i0 hjl
      injection e1 with e1 _ e2
      subst e1 e2
      obtain ⟨x, hx⟩ : ∃ x, x = ids[j] := ⟨_, rfl⟩
      rw [← hx] at ck
      obtain ⟨xb, x0, x1, x2⟩ := ST.out.st.facts
      have hin : x ∈ akeys M := by rw [← IDS.out, hx]; exact List.getElem_mem hjl
      obtain ⟨c, hc⟩ : ∃ c, aget M x = some c := by
        have := agetM_mem.1 hin
        cases hq : aget M x with
        | none => exact absurd hq this
        | some c => exact ⟨c, rfl⟩
      have LK := ST.out.st.lookS hc
      obtain ⟨vm, hb, _⟩ := ST.out.st.cl hc
      obtain ⟨y0, y1, y2, _⟩ := cl_facts hb
      have EON : onB M x = c.md.on := by unfold onB; rw [hc]
      have TK0 : ids.take (j + 1) = ids.take j ++ [x] := by rw [List.take_succ_eq_append_getElem hjl, ← hx]
      clear hx i0 hjl hin hb hc
      generalize c.md.on = on at *
      cases on with
      | true =>
        have TO := Lib.hid (ST.out.st.told 2 x emp)
        have TK : Hid ((((ids.take (j + 1)).filter (onB M)).map (fun x => toldP (aget M) 2 x emp)) = ((ids.take j).filter (onB M)).map (fun x => toldP (aget M) 2 x emp) ++ [toldP (aget M) 2 x emp]) := by
          show _ = _
          rw [TK0, filter_snoc, EON, if_pos rfl, List.map_append]; rfl
        have LJ : ((ids.take j).filter (onB M)).length ≤ 10000 := by
          have := List.length_filter_le (onB M) (ids.take j)
          have := List.length_take_le j ids
          have := ML.out
          omega
        clear TK0 EON
        obtain ⟨nt, hnt⟩ : ∃ nt, nt = toldP (aget M) 2 x emp := ⟨_, rfl⟩
        rw [← hnt] at TO TK
        clear hnt
        obtain ⟨t1, t2, t3, t4⟩ := nt
        unfold ntV at TO
        dsimp only at TO
        go_wp2_with fail
        refine TO.out.mono ?_
        rintro e w3 ⟨rfl, u3⟩
        obtain ⟨p5, c5, w5, hr5, ST5, u5⟩ := (ST.out.keep0 u3).app ⟨t1, t2, t3, t4⟩ (by rw [List.length_map]; omega)
        have II5 : Hid (IntsAt w5 w.heap.size (.slice (some ⟨g, 0, none⟩) ni ci) ids) := own_keep (own_keep II.out u3 (fun _ _ h => h)) u5 (fun b hb => ints_nts (own_keep II.out u3 (fun _ _ h => h)) (ST.out.row.keep0 u3) hb)
        rw [← TK.out] at ST5
        have L5 : Hid ((((ids.take j).filter (onB M)).map (fun x => toldP (aget M) 2 x emp)).length + 1 = (((ids.take (j + 1)).filter (onB M)).map (fun x => toldP (aget M) 2 x emp)).length) := by
          show _ = _
          rw [TK.out, List.length_append]; simp
        rw [← N9.out] at hr5 L5 ST5
        have ST5 := Lib.hid ST5
        clear u3 u5 II ST TO TK ck hg xb x0 x1 x2 LK y0 y1 y2 LJ
        go_wp2_with (at_builtin; refine wpList_builtinN rfl _ _ 37 rfl _ _ rfl rfl hr5 ?_)
        go_roundw
        case rel => exact ⟨j + 1, p5, n9 + 1, c5, by omega, by go_num, rfl, L5, ST5, II5⟩
        case measure => simp [intOf]; omega
      | false =>
        have TK : (ids.take (j + 1)).filter (onB M) = (ids.take j).filter (onB M) := by
          rw [TK0, filter_snoc, EON]; simp
        rw [← TK] at N9 ST
        clear TK TK0 EON
        go_wp2
        go_roundw
        case rel => exact ⟨j + 1, p9, n9, c9, by omega, by go_num, rfl, N9, ST, II⟩
        case measure => simp [intOf]; omega
    · have q2 : ¬ (j : Int) < (ni : Int) := by omega
      have ej : ids.take j = ids := List.take_of_length_le (by rw [← NI.out]; omega)
      rw [ej] at ST
      have ST : Hid (RSt wr w base tb cm kb pb cb X M most L n P N (.slice p9 n9 c9) (flushP M)) := by
        show RSt _ _ _ _ _ _ _ _ _ _ _ _ _ _ _ _ _
        unfold flushP; rw [← IDS.out]; exact ST.out
      obtain ⟨xb, x0, x1, x2⟩ := ST.out.st.facts
      have KC := Lib.hid ST.out.st.kclear
      clear N9 II ej
      go_wp2_with fail
      refine KC.out.mono ?_
      rintro e w6 ⟨rfl, s6, u6⟩
      have S6 := Lib.hid (ST.out.next s6 u6)
      clear KC s6 u6 ST
      go_wp2
      go_ret
      exact ⟨_, rfl, S6.out⟩
end
end Go.Proofs.YtmlojbfcmebboaaGreat
