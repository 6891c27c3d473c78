/- The example of layer 16. -/
import Derived.Test.YtmlojbfcmebboaaGreatK26
import Derived.Test.YtmlojbfcmebboaaGreatK27
import Derived.Test.YtmlojbfcmebboaaGreatK28
set_option linter.unusedVariables false
set_option linter.unusedSimpArgs false
set_option linter.unusedSectionVars false
set_option maxRecDepth 100000
namespace Go.Proofs.YtmlojbfcmebboaaGreat
open Go.RowKit

def onM : MD := ⟨true, false, false, false, false, 0, []⟩
section
variable {w w' : World} {base tb cm kb pb : Nat} {cb : Int → Nat} {X Y : Nat → Prop} {M : List (Int × CL)} {most : Int} {L : Rows14} {n : Nat} {P P' : Txt → Int → Prop} {N : Nat}
/-- A block more beside the tracker. -/
theorem TSt.beside (h : TSt w base tb cm kb pb cb X M most L n P N) (o : Obj) : TSt (w.alloc o) base tb cm kb pb cb (fun b => X b ∨ b = w.heap.size) M most L n P N :=
  h.also ((Upd.refl _ _).alloc o) (fun b hb => hb.imp id (fun e => by rw [e]; simp))
theorem slice_in {b n c k : Nat} (hb : (Value.slice (some ⟨b, 0, none⟩) n c).ownBlock = some k) : k = b := by cases hb; rfl
theorem TSt.set' (h : TSt w base tb cm kb pb cb X M most L n P N) {id : Int} {m : MD} {v : Value} (hr : RowOf txtc 1 w v m.ps) (hl : m.ps.length ≤ 1000) (hs : ∀ t ∈ m.ps, t.length ≤ maxLen) (hn : n ≤ 80000) (hN : N ≤ 8900) {r : Int} {M' : List (Int × CL)} {L' : Rows14} {P' : Txt → Int → Prop}
    (e1 : (setP M L P id m).1 = r) (e2 : (setP M L P id m).2.1 = M') (e3 : (setP M L P id m).2.2.1 = L') (e4 : ∀ t i, (setP M L P id m).2.2.2 t i ↔ P' t i) :
    Calls Tryz.prog 12 #[.pointer (some ⟨tb, 0, none⟩), .int .i64 id, mdV m v] w fun e w' => e = .returned (.int .i64 r) ∧ TSt w' base tb cm kb pb cb X M' most L' n P' (N + 32) ∧ Upd (Fr base X) w w' := by
  refine (h.set id m v hr hl hs hn hN).mono ?_
  rintro e w' ⟨rfl, s, u⟩
  rw [e2, e3] at s
  exact ⟨by rw [e1], s.congr e4, u⟩
theorem upd_fresh {w0 wr : World} (u : Upd (Fr w0.heap.size X) w0 wr) : Upd (fun _ => False) w0 wr := u.weaken (fun b hb h => by have := h.1; omega)
/-- Rows of one. -/
theorem row_txt (w : World) (t : Txt) : RowOf txtc 1 (w.alloc (.cells #[.string (ofL t)] 9)) (.slice (some ⟨w.heap.size, 0, none⟩) 1 1) [t] := RowOf.lit (f := txtc) w t [.string (ofL t)] _ rfl rfl
theorem row_ev (w : World) (k : Int) (t : Txt) : RowOf evc 2 (w.alloc (.cells #[.int .i64 k, .string (ofL t)] 45)) (.slice (some ⟨w.heap.size, 0, none⟩) 1 1) [(k, t)] := RowOf.lit (f := evc) w (k, t) [.int .i64 k, .string (ofL t)] _ rfl rfl
theorem row_none (w : World) {α : Type} (f : α → List Value) (k : Nat) : RowOf f k w (.slice none 0 0) [] := Or.inl ⟨none, 0, rfl, rfl⟩
/-- What a key's change gives where nobody has a beginning. -/
theorem ch_none (hP : ∀ t i, ¬ P t i) (hI : KInv L n) (key : Txt) : chIds L P key = (aget L (ofL key)).getD [] := by
  refine chIds_eq ?_ (fun x => ⟨Or.inl, fun h => h.elim id (fun ⟨t, _, hp⟩ => absurd hp (hP t x))⟩)
  cases hq : aget L (ofL key) with
  | none => exact List.Pairwise.nil
  | some l => exact (hI.rise _ _ hq).1
end
abbrev MA : List (Int × CL) := [(1, ⟨onM, 0⟩), (2, ⟨offM, 0⟩)]
theorem alive_set : setP [(1, ⟨offM, 0⟩), (2, ⟨offM, 0⟩)] [] (fun _ _ => False) 1 onM = (0, MA, [], fun t i => (False ∧ i ≠ 1) ∨ (t ∈ ([] : List Txt) ∧ i = 1)) := rfl
theorem alive_read : readP MA 10 [] 1 [[107]] = ([], [(ofL [107], [1])]) := by decide +kernel
theorem alive_chg {P : Txt → Int → Prop} (hP : ∀ t i, ¬ P t i) (hI : KInv [(ofL [107], [1])] 1) : changeP MA P 2 [(1, [107])] [(ofL [107], [1])] = ([⟨1, 1, 1, ofL [107]⟩], []) := by
  unfold changeP changeP chStep
  rw [if_neg (by decide), ch_none hP hI]
  decide +kernel
theorem key_k : ofL [107] = { data := #[107] } := rfl
set_option maxHeartbeats 8000000 in
theorem alive16_any (w : World) : Calls Tryz.prog 8 #[] w fun e w' => e = .returned (.bool true) ∧ Upd (fun _ => False) w w' := by
  have NW := Lib.hid (trkNew_any 10 w w.heap.size (Nat.le_refl _) (by omega) (by omega) (fun _ => False) (fun b h => h.elim))
  go_enter Tryz.func8, Tryz.ntmps8
  go_wp2_with fail
  refine NW.out.mono ?_
  rintro e w1 ⟨tb, rfl, ⟨cm, kb, pb, cb1, s1⟩, u1⟩
  have J1 := Lib.hid (s1.join 1 (by omega) (by simp))
  have U1 := Lib.hid u1
  clear s1 u1 NW
  go_wp2_with fail
  refine J1.out.mono ?_
  rintro e w2 ⟨rfl, ⟨cb2, s2⟩, u2⟩
  have J2 := Lib.hid (s2.join 2 (by omega) (by decide))
  have U2 : Hid (Upd (fun _ => False) w w2) := U1.out.trans u2 (fun b hb h => by have := h.1; omega)
  clear s2 u2 J1 U1
  rw [show (joinP [] 1).1 = true from rfl]
  go_wp2_with fail
  refine J2.out.mono ?_
  rintro e w3 ⟨rfl, ⟨cb3, s3⟩, u3⟩
  have U3 : Hid (Upd (fun _ => False) w w3) := U2.out.trans u3 (fun b hb h => by have := h.1; omega)
  have SE := Lib.hid (s3.set' (id := 1) (m := onM) (v := .slice none 0 0) (row_none w3 _ _) (by decide) (by simp [onM]) (by omega) (by omega) (r := 0) (M' := MA) (L' := []) (P' := fun _ _ => False) rfl rfl rfl (fun t i => by
    show ((False ∧ i ≠ 1) ∨ (t ∈ ([] : List Txt) ∧ i = 1)) ↔ False
    simp))
  clear s3 u3 J2 U2
  rw [show (joinP (joinP [] 1).2 2).1 = true from rfl]
  go_wp2_with fail
  refine SE.out.mono ?_
  rintro e w4 ⟨rfl, s4, u4⟩
  have U4 : Hid (Upd (fun _ => False) w w4) := U3.out.trans u4 (fun b hb h => by have := h.1; omega)
  have RE := Lib.hid ((s4.beside (.cells #[.string (ofL [107])] 9)).read 1 _ [[107]] (row_txt w4 [107]) (fun b hb h => h.2 (Or.inr (slice_in hb))) (by simp) (by simp) (by simp; unfold maxLen; omega))
  clear s4 u4 SE U3
  rw [show (max 10 1 : Int) = 10 from rfl, alive_read] at RE
  rw [key_k] at RE
  go_wp2_with fail
  refine RE.out.mono ?_
  rintro e w5 ⟨v5, rfl, r5⟩
  have s5 := r5.st.less (Y := fun _ => False) (fun b h => h.elim)
  have U5 : Hid (Upd (fun _ => False) w w5) := (U4.out.trans ((Upd.refl _ w4).alloc _) (fun _ _ h => h)).trans r5.up (fun b hb h => by have := h.1; omega)
  have CH := Lib.hid ((s5.beside (.cells #[.int .i64 1, .string (ofL [107])] 45)).change 2 _ [(1, [107])] (row_ev w5 1 [107]) (fun b hb h => h.2 (Or.inr (slice_in hb))) (by simp) (by simp) (by omega) (by simp))
  rw [← key_k, alive_chg (fun t i h => h) s5.inv.1] at CH
  rw [key_k] at CH
  clear r5 s5 RE U4
  go_wp2_with fail
  refine CH.out.mono ?_
  rintro e w6 ⟨v6, rfl, r6⟩
  have U6 : Hid (Upd (fun _ => False) w w6) := (U5.out.trans ((Upd.refl _ w5).alloc _) (fun _ _ h => h)).trans r6.up (fun b hb h => by have := h.1; omega)
  obtain ⟨p6, c6, e6, _⟩ := r6.row.slice
  have LE := Lib.hid (r6.st.len (by simp))
  have rw6 := r6.row
  subst e6
  rcases rw6.row ntc_len with ⟨_, _, e7, _⟩ | ⟨b6, off, c7, e7, hb6, _, hcs⟩
  · cases e7
  · injection e7 with e7 _ e8
    subst e7 e8
    have k0 := hcs 0 _ rfl 0 (by omega)
    have k1 := hcs 0 _ rfl 1 (by omega)
    have k2 := hcs 0 _ rfl 2 (by omega)
    have k3 := hcs 0 _ rfl 3 (by omega)
    simp [ntc] at k0 k1 k2 k3
    clear r6 hcs rw6 CH U5
    go_wp2_with fail
    refine LE.out.mono ?_
    rintro e w7 ⟨rfl, rfl⟩
    clear LE
    go_wp2
    go_ret
    exact ⟨rfl, U6.out⟩
end Go.Proofs.YtmlojbfcmebboaaGreat
/- TrackNames: the error and the kinds have their numbers. -/
set_option linter.unusedVariables false
set_option linter.unusedSimpArgs false
set_option linter.unusedSectionVars false
set_option maxRecDepth 100000
namespace Go.Proofs.YtmlojbfcmebboaaGreat
open Go.RowKit

theorem nts_one {w : World} {base : Nat} {v : Value} {x : NT} (h : NtsAt w base v [x]) : ∃ b c, v = .slice (some ⟨b, 0, none⟩) 1 c ∧ b < w.heap.size ∧ w.cell? ⟨b, 0, none⟩ = some (.int .i64 x.kd) ∧ w.cell? ⟨b, 1, none⟩ = some (.int .i64 x.dst) ∧ w.cell? ⟨b, 2, none⟩ = some (.int .i64 x.who) ∧ w.cell? ⟨b, 3, none⟩ = some (.string x.key) := by
  rcases h.blk with ⟨_, e⟩ | ⟨b, cap, cs, e, _, hB, _⟩
  · cases e
  · exact ⟨b, cap, e, hB.lt, hB.cellAt rfl, hB.cellAt rfl, hB.cellAt rfl, hB.cellAt rfl⟩
def mR (r : Int) : MD := ⟨true, false, false, false, false, r, []⟩
def mN2 : MD := ⟨true, false, false, false, true, 2, []⟩
def mII : MD := ⟨true, false, true, true, false, 0, []⟩
abbrev MB : List (Int × CL) := [(1, ⟨offM, 0⟩), (2, ⟨offM, 0⟩)]
abbrev MC : List (Int × CL) := [(1, ⟨mN2, 0⟩), (2, ⟨offM, 0⟩)]
theorem names_read : readP MC 10 [] 1 [[107], [108]] = ([], [(ofL [107], [1]), (ofL [108], [1])]) := by decide +kernel
theorem names_chg {P : Txt → Int → Prop} (hP : ∀ t i, ¬ P t i) (hI : KInv [(ofL [107], [1]), (ofL [108], [1])] 2) : changeP MC P 1 [(1, [107]), (4, [108])] [(ofL [107], [1]), (ofL [108], [1])] = ([⟨1, 2, 1, ofL [108]⟩], []) := by
  have hI2 : KInv (adel [(ofL [107], [1]), (ofL [108], [1])] (ofL [107])) 2 := by
    have e : adel [(ofL [107], ([1] : List Int)), (ofL [108], [1])] (ofL [107]) = [(ofL [108], [1])] := by decide +kernel
    rw [e]
    refine ⟨fun k l hk => hI.rise k l ?_, by simp⟩
    simp only [aget] at hk ⊢
    split at hk
    · next e2 =>
      have : ¬ ofL [107] = k := by rw [← e2]; decide +kernel
      rw [if_neg this, if_pos e2]; exact hk
    · cases hk
  unfold changeP changeP changeP chStep
  simp only [show ¬ (1 : Int) = 5 by decide, show ¬ (4 : Int) = 5 by decide, if_false]
  rw [ch_none hP hI, ch_none hP hI2]
  decide +kernel
theorem names_leave (P : Txt → Int → Prop) : leaveP MC [] P 2 = ([⟨3, 1, 1, emp⟩], [(1, ⟨⟨true, false, false, false, true, 0, []⟩, 0⟩)], [], fun t i => P t i ∧ i ≠ 2) := rfl
set_option maxHeartbeats 16000000 in
theorem names_any (w : World) : Calls Tryz.prog 4 #[] w fun e w' => e = .returned (.bool true) ∧ Upd (fun _ => False) w w' := by
  have AL := Lib.hid (alive16_any w)
  go_enter Tryz.func4, Tryz.ntmps4
  go_wp2_with fail
  refine AL.out.mono ?_
  rintro e w0 ⟨rfl, u0⟩
  have U0 := Lib.hid u0
  have NW := Lib.hid (trkNew_any 10 w0 w.heap.size u0.size (by omega) (by omega) (fun _ => False) (fun b h => h.elim))
  clear AL u0
  go_wp2_with fail
  refine NW.out.mono ?_
  rintro e w1 ⟨tb, rfl, ⟨cm, kb, pb, cb1, s1⟩, u1⟩
  have J1 := Lib.hid (s1.join 1 (by omega) (by simp))
  have U1 := Lib.hid (U0.out.trans u1 (fun _ _ h => h))
  clear s1 u1 NW U0
  go_wp2_with fail
  refine J1.out.mono ?_
  rintro e w2 ⟨rfl, ⟨cb2, s2⟩, u2⟩
  have J2 := Lib.hid (s2.join 2 (by omega) (by decide))
  have U2 : Hid (Upd (fun _ => False) w w2) := U1.out.trans u2 (fun b hb h => by have := h.1; omega)
  clear s2 u2 J1 U1
  rw [show (joinP [] 1).1 = true from rfl]
  go_wp2_with fail
  refine J2.out.mono ?_
  rintro e w3 ⟨rfl, ⟨cb3, s3⟩, u3⟩
  have U3 : Hid (Upd (fun _ => False) w w3) := U2.out.trans u3 (fun b hb h => by have := h.1; omega)
  have SE := Lib.hid (s3.set' (id := 3) (m := offM) (v := .slice none 0 0) (row_none w3 _ _) (by decide) (by simp [offM]) (by omega) (by omega) (r := 161) (M' := MB) (L' := []) (P' := fun _ _ => False) rfl rfl rfl (fun t i => Iff.rfl))
  clear s3 u3 J2 U2
  rw [show (joinP (joinP [] 1).2 2).1 = true from rfl]
  go_wp2_with fail
  refine SE.out.mono ?_
  rintro e w4 ⟨rfl, s4, u4⟩
  have U4 : Hid (Upd (fun _ => False) w w4) := U3.out.trans u4 (fun b hb h => by have := h.1; omega)
  clear SE U3
  have U3 := U4
  clear U4
  have SE := Lib.hid (s4.set' (id := 1) (m := mR 1) (v := .slice none 0 0) (row_none w4 _ _) (by decide) (by simp [mR]) (by omega) (by omega) (r := 161) (M' := MB) (L' := []) (P' := fun _ _ => False) rfl rfl rfl (fun t i => Iff.rfl))
  clear s4 u4
  go_wp2_with fail
  refine SE.out.mono ?_
  rintro e w5 ⟨rfl, s4, u4⟩
  have U4 : Hid (Upd (fun _ => False) w w5) := U3.out.trans u4 (fun b hb h => by have := h.1; omega)
  clear SE U3
  have U3 := U4
  clear U4
  have SE := Lib.hid (s4.set' (id := 1) (m := mR 9) (v := .slice none 0 0) (row_none w5 _ _) (by decide) (by simp [mR]) (by omega) (by omega) (r := 161) (M' := MB) (L' := []) (P' := fun _ _ => False) rfl rfl rfl (fun t i => Iff.rfl))
  clear s4 u4
  go_wp2_with fail
  refine SE.out.mono ?_
  rintro e w6 ⟨rfl, s4, u4⟩
  have U4 : Hid (Upd (fun _ => False) w w6) := U3.out.trans u4 (fun b hb h => by have := h.1; omega)
  clear SE U3
  have U3 := U4
  clear U4
  have SE := Lib.hid (s4.set' (id := 1) (m := mN2) (v := .slice none 0 0) (row_none w6 _ _) (by decide) (by simp [mN2]) (by omega) (by omega) (r := 0) (M' := MC) (L' := []) (P' := fun _ _ => False) rfl rfl rfl (fun t i => by show ((False ∧ i ≠ 1) ∨ (t ∈ ([] : List Txt) ∧ i = 1)) ↔ False; simp))
  clear s4 u4
  go_wp2_with fail
  refine SE.out.mono ?_
  rintro e w7 ⟨rfl, s4, u4⟩
  have U4 : Hid (Upd (fun _ => False) w w7) := U3.out.trans u4 (fun b hb h => by have := h.1; omega)
  clear SE U3
  have U3 := U4
  clear U4
  have SE := Lib.hid (s4.set' (id := 2) (m := mII) (v := .slice none 0 0) (row_none w7 _ _) (by decide) (by simp [mII]) (by omega) (by omega) (r := 132) (M' := MC) (L' := []) (P' := fun _ _ => False) rfl rfl rfl (fun t i => Iff.rfl))
  clear s4 u4
  go_wp2_with fail
  refine SE.out.mono ?_
  rintro e w8 ⟨rfl, s4, u4⟩
  have U4 : Hid (Upd (fun _ => False) w w8) := U3.out.trans u4 (fun b hb h => by have := h.1; omega)
  have RE := Lib.hid ((s4.beside (.cells #[.string (ofL [107]), .string (ofL [108])] 9)).read 1 (.slice (some ⟨w8.heap.size, 0, none⟩) 2 2) [[107], [108]] (by
    refine Or.inr ⟨w8.heap.size, 0, 2, rfl, by simp, by unfold maxLen; simp, fun i x hi j hj => ?_⟩
    obtain rfl : j = 0 := by omega
    have hB := Blk.made w8 [.string (ofL [107]), .string (ofL [108])] 9
    match i with
    | 0 => simp at hi; subst hi; exact hB.cell 0
    | 1 => simp at hi; subst hi; exact hB.cell 1
    | i + 2 => simp at hi) (fun b hb h => h.2 (Or.inr (slice_in hb))) (by simp) (by simp) (by simp; unfold maxLen; omega))
  clear s4 u4 SE U3
  rw [show (max 10 1 : Int) = 10 from rfl, names_read] at RE
  rw [show ofL [107] = { data := #[107] } from rfl, show ofL [108] = { data := #[108] } from rfl] at RE
  go_wp2_with fail
  refine RE.out.mono ?_
  rintro e w9 ⟨v5, rfl, r5⟩
  have s5 := r5.st.less (Y := fun _ => False) (fun b h => h.elim)
  have U5 : Hid (Upd (fun _ => False) w w9) := (U4.out.trans ((Upd.refl _ w8).alloc _) (fun _ _ h => h)).trans r5.up (fun b hb h => by have := h.1; omega)
  have CH := Lib.hid ((s5.beside (.cells #[.int .i64 1, .string (ofL [107]), .int .i64 4, .string (ofL [108])] 45)).change 1 (.slice (some ⟨w9.heap.size, 0, none⟩) 2 2) [(1, [107]), (4, [108])] (by
    refine Or.inr ⟨w9.heap.size, 0, 2, rfl, by simp, by unfold maxLen; simp, fun i x hi j hj => ?_⟩
    have hB := Blk.made w9 [.int .i64 1, .string (ofL [107]), .int .i64 4, .string (ofL [108])] 45
    match i with
    | 0 =>
      simp at hi; subst hi
      match j with
      | 0 => exact hB.cell 0
      | 1 => exact hB.cell 1
    | 1 =>
      simp at hi; subst hi
      match j with
      | 0 => exact hB.cell 2
      | 1 => exact hB.cell 3
    | i + 2 => simp at hi) (fun b hb h => h.2 (Or.inr (slice_in hb))) (by simp) (by simp) (by omega) (by simp))
  rw [show ({ data := #[107] } : ByteArray) = ofL [107] from rfl, show ({ data := #[108] } : ByteArray) = ofL [108] from rfl, names_chg (fun t i h => h) s5.inv.1] at CH
  rw [show ofL [107] = { data := #[107] } from rfl, show ofL [108] = { data := #[108] } from rfl] at CH
  clear r5 s5 RE U4
  go_wp2_with fail
  refine CH.out.mono ?_
  rintro e w10 ⟨v6, rfl, r6⟩
  have U6 : Hid (Upd (fun _ => False) w w10) := (U5.out.trans ((Upd.refl _ w9).alloc _) (fun _ _ h => h)).trans r6.up (fun b hb h => by have := h.1; omega)
  obtain ⟨b6, c6, e6, _⟩ := nts_one r6.row
  subst e6
  have s6 := r6.st.less (Y := fun b => (Value.slice (some ⟨b6, 0, none⟩) 1 c6).ownBlock = some b) (fun b h => Or.inr h)
  have LE := Lib.hid (s6.leave 2 (by simp) (by omega))
  have R6 := Lib.hid r6.row
  clear r6 s6 CH U5
  rw [names_leave] at LE
  go_wp2_with fail
  refine LE.out.mono ?_
  rintro e w11 ⟨v7, rfl, r7⟩
  have U7 : Hid (Upd (fun _ => False) w w11) := U6.out.trans r7.up (fun b hb h => by have := h.1; omega)
  have R67 := own_keep R6.out r7.up (fun b hb h => h.2 hb)
  obtain ⟨b7, c7, e7, k0, k1, k2, k3, k4⟩ := nts_one r7.row
  obtain ⟨b8, c8, e8, l0, l1, l2, l3, l4⟩ := nts_one R67
  injection e8 with e8 _ e9
  injection e8 with e8
  injection e8 with e8
  subst e7 e8 e9
  dsimp only at k1 k2 k3 k4 l1 l2 l3 l4
  have JZ := Lib.hid (r7.st.join 0 (by omega) (by simp))
  clear r7 R67 LE R6 U6
  rw [show (joinP [(1, (⟨⟨true, false, false, false, true, 0, []⟩, 0⟩ : CL))] 0).1 = false from rfl] at JZ
  go_wp2_with fail
  refine JZ.out.mono ?_
  rintro e w12 ⟨rfl, _, u12⟩
  have U8 : Hid (Upd (fun _ => False) w w12) := U7.out.trans u12 (fun b hb h => by have := h.1; omega)
  clear JZ u12 U7
  go_wp2
  go_ret
  exact ⟨rfl, U8.out⟩
end Go.Proofs.YtmlojbfcmebboaaGreat
