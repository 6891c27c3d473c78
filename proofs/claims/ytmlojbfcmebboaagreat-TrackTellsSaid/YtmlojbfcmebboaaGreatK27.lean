/- Walks: a client less. -/
import Derived.Test.YtmlojbfcmebboaaGreatK24
set_option linter.unusedVariables false
set_option linter.unusedSimpArgs false
set_option linter.unusedSectionVars false
set_option maxRecDepth 100000
namespace Go.Proofs.YtmlojbfcmebboaaGreat
open Go.RowKit

/-- A client that is redirected to id is redirected to nobody. -/
def cl0 (id : Int) (c : CL) : CL := if c.md.rd = id then { c with md := { c.md with rd := 0 } } else c
def red0 (id : Int) (M : List (Int × CL)) : List (Int × CL) := M.map fun p => (p.1, cl0 id p.2)
def leaveN (id : Int) (M : List (Int × CL)) : List NT := (M.filter fun p => decide (p.2.md.rd = id)).map fun p => ⟨3, p.1, p.1, emp⟩
def leaveP (M : List (Int × CL)) (L : Rows14) (P : Txt → Int → Prop) (id : Int) : List NT × List (Int × CL) × Rows14 × (Txt → Int → Prop) := match aget M id with
  | some _ => (leaveN id (adel M id), red0 id (adel M id), drop14 L id, fun t i => P t i ∧ i ≠ id)
  | none => ([], M, L, P)
theorem right_rd0 {m : MD} (h : rightM m = true) : rightM { m with rd := 0 } = true := by
  unfold rightM at h ⊢
  split at h
  · next h1 => rw [if_pos h1]; simp only [decide_eq_true_eq] at h ⊢; rw [h]; rfl
  · next h1 =>
    rw [if_neg h1]
    split at h
    · cases h
    · next h2 =>
      rw [if_neg (fun g => h2 (by
        rcases g with g | g | g | g
        · exact absurd g (show ¬ (0 : Int) < 0 by decide)
        · exact absurd g (show ¬ (1000000000 : Int) < 0 by decide)
        · exact Or.inr (Or.inr (Or.inl g))
        · exact Or.inr (Or.inr (Or.inr g))))]
      exact h
theorem akeys_app {ν : Type} (A B : List (Int × ν)) : akeys (A ++ B) = akeys A ++ akeys B := by simp [akeys]
theorem aget_mid {ν : Type} {A B : List (Int × ν)} {x : Int} {c : ν} (h : x ∉ akeys A) : aget (A ++ (x, c) :: B) x = some c := by
  induction A with
  | nil => simp [aget]
  | cons p r ih =>
    simp only [akeys, List.map_cons, List.mem_cons, not_or] at h
    simp only [List.cons_append, aget]
    rw [if_neg (Ne.symm h.1)]; exact ih h.2
theorem aset_mid {ν : Type} {A B : List (Int × ν)} {x : Int} {c c' : ν} (h : x ∉ akeys A) : aset (A ++ (x, c) :: B) x c' = A ++ (x, c') :: B := by
  induction A with
  | nil => simp [aset]
  | cons p r ih =>
    simp only [akeys, List.map_cons, List.mem_cons, not_or] at h
    simp only [List.cons_append, aset]
    rw [if_neg (Ne.symm h.1), ih h.2]
theorem akeys_red0 (id : Int) (M : List (Int × CL)) : akeys (red0 id M) = akeys M := by simp [akeys, red0]
section
variable {w w' : World} {base tb cm kb pb : Nat} {cb : Int → Nat} {X Y : Nat → Prop} {M : List (Int × CL)} {most : Int} {L : Rows14} {n : Nat} {P P' : Txt → Int → Prop} {N : Nat}
/-- A client's block is written while notices lie beside it. -/
theorem RSt.clSet {w0 wr w1 : World} {v : Value} {l : List NT} (h : RSt wr w0 base tb cm kb pb cb X M most L n P N v l) {id : Int} {c c' : CL} {vm : Value} (hc : aget M id = some c) (hB0 : Blk wr (cb id) (clc c vm) 98) (u : Upd (fun b => b = cb id) wr w1) (hB : Blk w1 (cb id) (clc c' vm) 98)
    (hv : TxtsAt w1 base vm c'.md.ps) (hr : rightM c'.md = true) : RSt w1 w0 base tb cm kb pb cb X (aset M id c') most L n P N v l := by
  obtain ⟨v2, hb2, _, h3, h4, _⟩ := h.st.cl hc
  refine ⟨h.st.clSet hc hB0 u hB hv hr (Or.inl rfl) (fun b hb => ⟨hb, Or.inl rfl⟩), own_keep h.row u (fun b hb e => h4 (Or.inr (e ▸ hb))), h.up.trans u (fun b _ e => ⟨by rw [e]; exact h3, fun g => h4 (Or.inl (e ▸ g))⟩)⟩
set_option maxHeartbeats 8000000 in
theorem TSt.leave (h : TSt w base tb cm kb pb cb X M most L n P N) (id : Int) (hn : n ≤ 80000) (hN : N ≤ 9000) :
    Calls Tryz.prog 18 #[.pointer (some ⟨tb, 0, none⟩), .int .i64 id] w fun e w' => ∃ v', e = .returned v' ∧ RSt w' w base tb cm kb pb cb X (leaveP M L P id).2.1 most (leaveP M L P id).2.2.1 n (leaveP M L P id).2.2.2 N v' (leaveP M L P id).1 := by
  obtain ⟨xb, x0, _, _⟩ := h.facts
  have H := Lib.hid h
  cases hc : aget M id with
  | none =>
    have R : Hid (leaveP M L P id = ([], M, L, P)) := by show _ = _; unfold leaveP; rw [hc]
    have LK := h.lookN hc
    clear h hc
    go_enter Tryz.func18, Tryz.ntmps18
    go_wp2
    go_ret
    rw [R.out]
    exact ⟨_, rfl, RSt.start H.out⟩
  | some c =>
    have R : Hid (leaveP M L P id = (leaveN id (adel M id), red0 id (adel M id), drop14 L id, fun t i => P t i ∧ i ≠ id)) := by show _ = _; unfold leaveP; rw [hc]
    have LK := h.lookS hc
    obtain ⟨w1, hr, s1, u1⟩ := h.clDel id
    have S1 := Lib.hid s1
    have U1 := Lib.hid u1
    obtain ⟨xb1, _, x1, _⟩ := s1.facts
    have KD := Lib.hid (s1.kdrop (by omega) id)
    clear h hc s1 u1
    go_enter Tryz.func18, Tryz.ntmps18
    go_wp2_with fail
    refine KD.out.mono ?_
    rintro e w2 ⟨⟨q2, rfl⟩, s2, u2⟩
    obtain ⟨xb2, _, _, y2⟩ := s2.facts
    have PD := Lib.hid (s2.pdrop id hN)
    have U2 : Hid (Upd (Fr base X) w w2) := U1.out.trans u2 (fun _ _ h => h)
    clear s2 u2 KD S1 U1 xb1 x1
    go_wp2_with fail
    refine PD.out.mono ?_
    rintro e w3 ⟨⟨q3, rfl⟩, s3, u3⟩
    have CS := Lib.hid s3.clients
    have S3 := Lib.hid s3
    have U3 : Hid (Upd (Fr base X) w w3) := U2.out.trans u3 (fun _ _ h => h)
    have hml := s3.ok.len
    have hrise := Lib.hid s3.ok.rise
    clear s3 u3 PD U2 xb2 y2 xb x0
    obtain ⟨M1, hM1⟩ : ∃ M1, M1 = adel M id := ⟨_, rfl⟩
    rw [← hM1] at hml hrise CS S3 R
    clear hM1
    obtain ⟨L1, hL1⟩ : ∃ L1, L1 = drop14 L id := ⟨_, rfl⟩
    rw [← hL1] at S3 R
    clear hL1
    obtain ⟨P1, hP1⟩ : ∃ P1 : Txt → Int → Prop, P1 = fun t i => P t i ∧ i ≠ id := ⟨_, rfl⟩
    rw [← hP1] at S3 R
    clear hP1
    go_wp2_with fail
    refine CS.out.mono ?_
    rintro e w4 ⟨vi, rfl, ii, u4⟩
    obtain ⟨pi, ci, ei, hmi⟩ := own_slice ii
    subst ei
    obtain ⟨ni, hni⟩ : ∃ ni, ni = (akeys M1).length := ⟨_, rfl⟩
    have NI := Lib.hid hni
    have NM : Hid (ni = M1.length) := by show _ = _; rw [hni]; simp [akeys]
    have hni2 : ni ≤ 10000 := by have := NM.out; omega
    rw [← hni] at hmi
    have II : Hid (IntsAt w4 w3.heap.size (.slice pi ni ci) (akeys M1)) := by show IntsAt _ _ _ _; rw [hni]; exact ii
    have ST : Hid (RSt w4 w base tb cm kb pb cb X M1 most L1 n P1 N (.slice none 0 0) []) :=
      ⟨(S3.out.keep0 u4).less (fun b hb => by rcases hb with g | g; exact g; cases g), OwnN.none, U3.out.trans u4 (fun _ _ h => h.elim)⟩
    clear hni ii u4 CS S3 H U3 LK hr
    rw [← NI.out]
    go_wp2
    go_loopw [5, 36] (fun x5 x36 wq => ∃ (j : Nat) (p9 : Option Addr) (n9 c9 : Nat), j ≤ ni ∧ x36 = .int .i64 (j : Int) ∧ x5 = .slice p9 n9 c9 ∧ Hid (n9 = (leaveN id (M1.take j)).length) ∧ Hid (RSt wq w base tb cm kb pb cb X (red0 id (M1.take j) ++ M1.drop j) most L1 n P1 N (.slice p9 n9 c9) (leaveN id (M1.take j))) ∧ Hid (IntsAt wq w3.heap.size (.slice pi ni ci) (akeys M1))) (fun _ x36 _ => ni - (intOf x36).toNat)
    case atStart => exact ⟨0, none, 0, 0, by omega, rfl, rfl, Lib.hid (by simp [leaveN]), Lib.hid (by simpa [red0, leaveN] using ST.out), II⟩
    case round =>
      clear II ST
      obtain ⟨j, p9, n9, c9, hj, rfl, rfl, N9, ST, II⟩ := hrel
      by_cases hlj : j < ni
      · have q2 : (j : Int) < (ni : Int) := by omega
        have hjl : j < (akeys M1).length := by rw [← NI.out]; exact hlj
        have hjm : j < M1.length := by rw [← NM.out]; exact hlj
        have i0 := II.out
        rw [NI.out] at i0
        obtain ⟨g, cap, e1, ck, hg⟩ := ints_cell i0 hjl
        injection e1 with e1 _ e2
        subst e1 e2
        obtain ⟨⟨x, c2⟩, hx⟩ : ∃ p, p = M1[j] := ⟨_, rfl⟩
        have hxk : (akeys M1)[j] = x := by simp only [akeys, List.getElem_map]; rw [← hx]
        rw [hxk] at ck
        have TK0 : M1.take (j + 1) = M1.take j ++ [(x, c2)] := by rw [List.take_succ_eq_append_getElem hjm, ← hx]
        have DR0 : M1.drop j = (x, c2) :: M1.drop (j + 1) := by rw [List.drop_eq_getElem_cons hjm, ← hx]
        have hnin : x ∉ akeys (red0 id (M1.take j)) := by
          rw [akeys_red0]
          intro hin
          have hnd := nodup_of_rising hrise.out
          rw [← List.take_append_drop j M1, akeys_app, DR0] at hnd
          exact (List.nodup_append.1 hnd).2.2 x hin x (by simp [akeys]) rfl
        rw [DR0] at ST
        have hc2 : aget (red0 id (M1.take j) ++ (x, c2) :: M1.drop (j + 1)) x = some c2 := aget_mid hnin
        have AS : Hid (∀ c', aset (red0 id (M1.take j) ++ (x, c2) :: M1.drop (j + 1)) x c' = red0 id (M1.take j) ++ (x, c') :: M1.drop (j + 1)) := fun c' => aset_mid hnin
        have RD : Hid (red0 id (M1.take (j + 1)) ++ M1.drop (j + 1) = red0 id (M1.take j) ++ (x, cl0 id c2) :: M1.drop (j + 1)) := by
          show _ = _; rw [TK0]; simp [red0]
        have LN : Hid (leaveN id (M1.take (j + 1)) = leaveN id (M1.take j) ++ (if c2.md.rd = id then [⟨3, x, x, emp⟩] else [])) := by
          show _ = _
          unfold leaveN
          rw [TK0, filter_snoc, List.map_append]
          congr 1
          by_cases e : c2.md.rd = id <;> simp [e]
        have LJ : (leaveN id (M1.take j)).length ≤ 10000 := by
          unfold leaveN
          rw [List.length_map]
          have := List.length_filter_le (fun p : Int × CL => decide (p.2.md.rd = id)) (M1.take j)
          have := List.length_take_le j M1
          omega
        obtain ⟨xb, x0, x1, x2⟩ := ST.out.st.facts
        have LK := ST.out.st.lookS hc2
        obtain ⟨vm, hb, ht, _, hnx, _⟩ := ST.out.st.cl hc2
        obtain ⟨y0, y1, _, _, _, _, _, y7, _⟩ := cl_facts hb
        have HR := Lib.hid (ST.out.st.ok.right hc2)
        clear i0 hjl hjm hxk hx TK0 DR0 hnin
        by_cases hrd : c2.md.rd = id
        · have c2' : cl0 id c2 = { c2 with md := { c2.md with rd := 0 } } := by unfold cl0; rw [if_pos hrd]
          have LN2 : Hid (leaveN id (M1.take (j + 1)) = leaveN id (M1.take j) ++ [⟨3, x, x, emp⟩]) := by show _ = _; rw [LN.out, if_pos hrd]
          have u1 : Upd (fun b => b = cb x) wr (wr.setCell ⟨cb x, 5, none⟩ (.int .i64 0)) := (Upd.refl (fun b => b = cb x) wr).set (fun _ => rfl)
          have ST1 := ST.out.clSet (c' := { c2 with md := { c2.md with rd := 0 } }) hc2 hb u1 (hb.set 5 (.int .i64 0)) (own_keep ht u1 (fun b hb2 e => by
            obtain ⟨_, _, cs, hs⟩ := txts_blkT ht hb2
            subst e
            exact absurd (hb.ty hs) (by decide))) (right_rd0 HR.out)
          have I1 : IntsAt (wr.setCell ⟨cb x, 5, none⟩ (.int .i64 0)) w3.heap.size (.slice (some ⟨g, 0, none⟩) ni ci) (akeys M1) := own_keep II.out u1 (fun b hb2 e => by
            obtain ⟨_, _, cs, hs⟩ := ints_block II.out hb2
            subst e
            have hs' : Blk wr (cb x) cs.toList 3 := hs
            exact absurd (hb.ty hs') (by decide))
          rw [AS.out, ← c2', ← RD.out] at ST1
          have TO := ST1.st.told 3 x emp
          have ET : toldP (aget (red0 id (M1.take (j + 1)) ++ M1.drop (j + 1))) 3 x emp = ⟨3, x, x, emp⟩ := by
            unfold toldP
            rw [RD.out, c2']
            have : aget (red0 id (M1.take j) ++ (x, ({ c2 with md := { c2.md with rd := 0 } } : CL)) :: M1.drop (j + 1)) x = some { c2 with md := { c2.md with rd := 0 } } := by
              rw [← AS.out, aget_aset, if_pos rfl]
            rw [this]; rfl
          rw [ET] at TO
          unfold ntV at TO
          dsimp only at TO
          have TO := Lib.hid TO
          have ST1 := Lib.hid ST1
          have I1 := Lib.hid I1
          subst hrd
          clear ET c2' u1 hb ht hnx RD AS HR ST II hc2 LN
          generalize c2.md.rd = id at *
          go_wp2_with fail
          refine TO.out.mono ?_
          rintro e w6 ⟨rfl, u6⟩
          obtain ⟨p5, c5, w5, hr5, ST5, u5⟩ := (ST1.out.keep0 u6).app ⟨3, x, x, emp⟩ (by omega)
          have i6 := own_keep I1.out u6 (fun _ _ h => h)
          have II5 : Hid (IntsAt w5 w3.heap.size (.slice (some ⟨g, 0, none⟩) ni ci) (akeys M1)) := own_keep i6 u5 (fun b hb => ints_nts i6 (ST1.out.row.keep0 u6) hb)
          rw [← LN2.out] at ST5
          have L5 : Hid ((leaveN id (M1.take j)).length + 1 = (leaveN id (M1.take (j + 1))).length) := by
            show _ = _; rw [LN2.out]; simp
          rw [← N9.out] at hr5 L5 ST5
          have ST5 := Lib.hid ST5
          clear u6 u5 ST1 I1 i6 TO ck hg xb x0 x1 x2 LK y0 y1 y7
          go_wp2_with (at_builtin; refine wpList_builtinN rfl _ _ 37 rfl _ _ rfl rfl hr5 ?_)
          go_roundw
          case rel => exact ⟨j + 1, p5, n9 + 1, c5, by omega, by go_num, rfl, L5, ST5, II5⟩
          case measure => simp [intOf]; omega
        · have c2' : cl0 id c2 = c2 := by unfold cl0; rw [if_neg hrd]
          have q3 : (c2.md.rd == id) = false := beq_eq_false_iff_ne.2 hrd
          have LN : leaveN id (M1.take (j + 1)) = leaveN id (M1.take j) := by rw [LN.out, if_neg hrd]; simp
          rw [← LN] at N9
          have ST5 : Hid (RSt wr w base tb cm kb pb cb X (red0 id (M1.take (j + 1)) ++ M1.drop (j + 1)) most L1 n P1 N (.slice p9 n9 c9) (leaveN id (M1.take (j + 1)))) := by
            show RSt _ _ _ _ _ _ _ _ _ _ _ _ _ _ _ _ _
            rw [LN, RD.out, c2']; exact ST.out
          clear LN RD AS c2' hb ht hnx HR ST hc2 hrd
          go_wp2
          go_roundw
          case rel => exact ⟨j + 1, p9, n9, c9, by omega, by go_num, rfl, N9, ST5, II⟩
          case measure => simp [intOf]; omega
      · have q2 : ¬ (j : Int) < (ni : Int) := by omega
        have ej : M1.take j = M1 := List.take_of_length_le (by rw [← NM.out]; omega)
        have ed : M1.drop j = [] := List.drop_eq_nil_of_le (by rw [← NM.out]; omega)
        rw [ej, ed, List.append_nil] at ST
        clear ej ed II
        go_wp2
        go_ret
        rw [R.out]
        exact ⟨_, rfl, ST.out⟩
end
end Go.Proofs.YtmlojbfcmebboaaGreat
