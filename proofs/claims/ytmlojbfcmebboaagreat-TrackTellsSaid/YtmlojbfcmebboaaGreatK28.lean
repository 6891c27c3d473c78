/- Walks: a client has a mode. -/
import Derived.Test.YtmlojbfcmebboaaGreatK24
import Derived.Deep.RegionHeld3
set_option linter.unusedVariables false
set_option linter.unusedSimpArgs false
set_option linter.unusedSectionVars false
set_option maxRecDepth 100000
namespace Go.Proofs.YtmlojbfcmebboaaGreat
open Go.RowKit

def setP (M : List (Int × CL)) (L : Rows14) (P : Txt → Int → Prop) (id : Int) (m : MD) : Int × List (Int × CL) × Rows14 × (Txt → Int → Prop) := match aget M id with
  | none => (161, M, L, P)
  | some c => if rightM m = false then (132, M, L, P)
    else if m.rd ≠ 0 ∧ (m.rd = id ∨ aget M m.rd = none) then (161, M, L, P)
    else if (switchM c.md m).2 ≠ 0 then ((switchM c.md m).2, M, L, P)
    else (0, aset M id ⟨(switchM c.md m).1, if (switchM c.md m).1.on then c.cg else 0⟩, if (switchM c.md m).1.on then L else drop14 L id, fun t i => (P t i ∧ i ≠ id) ∨ (t ∈ (switchM c.md m).1.ps ∧ i = id))
theorem switch_right {m m' : MD} (h : rightM m' = true) (h0 : (switchM m m').2 = 0) : rightM (switchM m m').1 = true := by
  unfold switchM at h0 ⊢
  split
  · exact h
  · next h1 =>
    rw [if_neg h1] at h0
    split
    · next h2 => rw [if_pos h2] at h0; exact absurd h0 (show ¬ (132 : Int) = 0 by decide)
    · next h2 =>
      rw [if_neg h2] at h0
      split
      · next h3 => exact h3
      · next h3 => rw [if_neg h3] at h0; exact absurd h0 (show ¬ (132 : Int) = 0 by decide)
section
variable {w w' : World} {base tb cm kb pb : Nat} {cb : Int → Nat} {X Y : Nat → Prop} {M : List (Int × CL)} {most : Int} {L : Rows14} {n : Nat} {P P' : Txt → Int → Prop} {N : Nat}
theorem TSt.paddC (h : TSt w base tb cm kb pb cb X M most L n P N) (s : Txt) (id : Int) (hN : N ≤ 9000) (hs : s.length ≤ 9223372036854775807) :
    Calls Tryz.prog 47 #[.pointer (some ⟨pb, 0, none⟩), .string (ofL s), .int .i64 id] w fun e w' => (∃ q : Bool, e = .returned (.bool q)) ∧ TSt w' base tb cm kb pb cb X M most L n (fun t i => P t i ∨ t = s ∧ i = id) (N + 1) ∧ Upd (Fr base X) w w' ∧ ∀ i c v, aget M i = some c → Blk w (cb i) (clc c v) 98 → Blk w' (cb i) (clc c v) 98 := by
  obtain ⟨Q, vs, E, F, r, d⟩ := h.ex
  refine (padd_any r.pfx s id hN hs).mono ?_
  rintro e w' ⟨he, F', k, u, f⟩
  obtain ⟨a, b⟩ := h.pfxTo r d k u f
  refine ⟨?_, a, b, fun i c v hc hb => u.blk hb (r.own _ (Or.inr (Or.inr ⟨i, c, hc, Or.inl rfl⟩))).2⟩
  rcases he with ⟨rfl, _⟩ | ⟨rfl, _⟩ <;> exact ⟨_, rfl⟩
theorem TSt.pdropC (h : TSt w base tb cm kb pb cb X M most L n P N) (id : Int) (hN : N ≤ 9000) :
    Calls Tryz.prog 46 #[.pointer (some ⟨pb, 0, none⟩), .int .i64 id] w fun e w' => (∃ q : Int, e = .returned (.int .i64 q)) ∧ TSt w' base tb cm kb pb cb X M most L n (fun t i => P t i ∧ i ≠ id) N ∧ Upd (Fr base X) w w' ∧ ∀ i c v, aget M i = some c → Blk w (cb i) (clc c v) 98 → Blk w' (cb i) (clc c v) 98 := by
  obtain ⟨Q, vs, E, F, r, d⟩ := h.ex
  refine (pdrop_any r.pfx id hN).mono ?_
  rintro e w' ⟨l, rfl, _, _, F', k, u, f⟩
  obtain ⟨a, b⟩ := h.pfxTo r d k u f
  exact ⟨⟨_, rfl⟩, a, b, fun i c v hc hb => u.blk hb (r.own _ (Or.inr (Or.inr ⟨i, c, hc, Or.inl rfl⟩))).2⟩
theorem TSt.clEq (h : TSt w base tb cm kb pb cb X M most L n P N) {id : Int} {c : CL} {v : Value} (hc : aget M id = some c) (hb : Blk w (cb id) (clc c v) 98) : TxtsAt w base v c.md.ps := by
  obtain ⟨v2, h1, h2, _⟩ := h.cl hc
  have := h1.inj hb
  simp [clc] at this
  rw [← this]; exact h2
theorem aset_aset {ν : Type} (M : List (Int × ν)) (k : Int) (a b : ν) : aset (aset M k a) k b = aset M k b := by
  induction M with
  | nil => simp [aset]
  | cons p r ih =>
    by_cases e : p.1 = k
    · simp [aset, e]
    · simp only [aset, e, if_false, ih]
set_option maxHeartbeats 16000000 in
theorem TSt.set (h : TSt w base tb cm kb pb cb X M most L n P N) (id : Int) (m : MD) (v : Value) (hr : RowOf txtc 1 w v m.ps) (hl : m.ps.length ≤ 1000) (hs : ∀ t ∈ m.ps, t.length ≤ maxLen) (hn : n ≤ 80000) (hN : N ≤ 8900) :
    Calls Tryz.prog 12 #[.pointer (some ⟨tb, 0, none⟩), .int .i64 id, mdV m v] w fun e w' => e = .returned (.int .i64 (setP M L P id m).1) ∧ TSt w' base tb cm kb pb cb X (setP M L P id m).2.1 most (setP M L P id m).2.2.1 n (setP M L P id m).2.2.2 (N + 32) ∧ Upd (Fr base X) w w' := by
  obtain ⟨xb, x0, _, _⟩ := h.facts
  obtain ⟨pm, km, ev, hm⟩ := hr.len
  subst ev
  obtain ⟨w1, hw1⟩ : ∃ w1, w1 = w.alloc (.cells (mdc m (.slice pm m.ps.length km)).toArray 32) := ⟨_, rfl⟩
  have HW1 := Lib.hid hw1
  have U1 : Hid (Upd (fun _ => False) w w1) := by show Upd _ _ _; rw [hw1]; exact (Upd.refl _ _).alloc _
  have B1 : Hid (Blk w1 w.heap.size (mdc m (.slice pm m.ps.length km)) 32) := by show Blk _ _ _ _; rw [hw1]; exact Blk.made w _ _
  have h1 := h.keep0 U1.out
  cases hc : aget M id with
  | none =>
    have R : Hid (setP M L P id m = (161, M, L, P)) := by show _ = _; unfold setP; rw [hc]
    have LK := h1.lookN hc
    have H1 := Lib.hid (h1.more (Nat.le_refl _) (Nat.le_add_right N 32))
    rw [hw1] at LK
    unfold mdc at LK HW1
    clear h h1 hc hr hs hw1
    obtain ⟨on, bc, oi, oo, nl, rd, ps⟩ := m
    unfold mdV
    dsimp only at *
    generalize ps.length = nm at *
    go_enter Tryz.func12, Tryz.ntmps12
    go_wp2
    go_ret
    rw [R.out, ← HW1.out]
    exact ⟨rfl, H1.out, U1.out.weaken (fun _ _ h => h.elim)⟩
  | some c =>
    have LK := h1.lookS hc
    rw [hw1] at LK
    obtain ⟨vm, hb, ht, _, hnx, _⟩ := h.cl hc
    obtain ⟨cp, cc, ec, _⟩ := own_slice ht
    subst ec
    have RG := Lib.hid (right_any m (.slice pm m.ps.length km) w1 (hr.keep U1.out (fun _ _ _ h => h)) (by omega) hs)
    have HC := Lib.hid hc
    have HR := Lib.hid hr
    have HS := Lib.hid hs
    have H := Lib.hid h
    have HB := Lib.hid hb
    have HT := Lib.hid ht
    have HNX := Lib.hid hnx
    have RC := Lib.hid (h.ok.right hc)
    have RCP := Lib.hid (right_ml (h.ok.right hc))
    have RR : Hid (setP M L P id m = if rightM m = false then (132, M, L, P)
      else if m.rd ≠ 0 ∧ (m.rd = id ∨ aget M m.rd = none) then (161, M, L, P)
      else if (switchM c.md m).2 ≠ 0 then ((switchM c.md m).2, M, L, P)
      else (0, aset M id ⟨(switchM c.md m).1, if (switchM c.md m).1.on then c.cg else 0⟩, if (switchM c.md m).1.on then L else drop14 L id, fun t i => (P t i ∧ i ≠ id) ∨ (t ∈ (switchM c.md m).1.ps ∧ i = id))) := by
      show _ = _; unfold setP; rw [hc]
    rw [hw1] at RG
    have MN := Lib.hid hw1
    clear h hc hr hs hb ht hnx h1 hw1
    unfold mdc at LK RG
    have SWE : Hid (∃ s, s = switchM c.md m) := ⟨_, rfl⟩
    cases hrt : rightM m with
    | false =>
      have R : Hid (setP M L P id m = (132, M, L, P)) := by show _ = _; rw [RR.out, if_pos hrt]
      rw [hrt] at RG
      unfold mdc at MN
      clear RR SWE
      obtain ⟨on, bc, oi, oo, nl, rd, ps⟩ := m
      unfold mdV at RG ⊢
      dsimp only at *
      generalize ps.length = nm at *
      go_enter Tryz.func12, Tryz.ntmps12
      go_wp2_with fail
      refine RG.out.mono ?_
      rintro e w2 ⟨rfl, u2⟩
      rw [← MN.out] at u2
      have U2 : Hid (Upd (fun _ => False) w w2) := U1.out.trans u2 (fun _ _ h => h)
      clear u2 RG
      go_wp2
      go_ret
      rw [R.out]
      exact ⟨rfl, (H.out.more (Nat.le_refl _) (Nat.le_add_right N 32)).keep0 U2.out, U2.out.weaken (fun _ _ h => h.elim)⟩
    | true =>
      have RR : Hid (setP M L P id m = if m.rd ≠ 0 ∧ (m.rd = id ∨ aget M m.rd = none) then (161, M, L, P)
        else if (switchM c.md m).2 ≠ 0 then ((switchM c.md m).2, M, L, P)
        else (0, aset M id ⟨(switchM c.md m).1, if (switchM c.md m).1.on then c.cg else 0⟩, if (switchM c.md m).1.on then L else drop14 L id, fun t i => (P t i ∧ i ≠ id) ∨ (t ∈ (switchM c.md m).1.ps ∧ i = id))) := by
        show _ = _; rw [RR.out, if_neg (by rw [hrt]; exact Bool.noConfusion)]
      rw [hrt] at RG
      have SWR := Lib.hid (fun h0 => switch_right (m := c.md) hrt h0)
      have SWC := Lib.hid (fun (w4 : World) (u : Upd (fun _ => False) w w4) => switch_any c.md m (.slice cp c.md.ps.length cc) (.slice pm m.ps.length km) w4 ((txts_row HT.out).keep u (fun _ _ _ h => h)) (HR.out.keep u (fun _ _ _ h => h)) (by have := (right_ps RC.out).1; omega) (by omega) RCP.out.2 HS.out)
      obtain ⟨⟨⟨son, sbc, soi, soo, snl, srd, sps⟩, serr⟩, hsw⟩ : ∃ s, s = switchM c.md m := ⟨_, rfl⟩
      rw [← hsw] at RR SWR SWC
      clear SWE hsw hrt HS RC RCP
      obtain ⟨on, bc, oi, oo, nl, rd, ps⟩ := m
      obtain ⟨⟨con, cbc, coi, coo, cnl, crd, cps⟩, ccg⟩ := c
      unfold mdV at RG ⊢
      unfold mdV at SWC
      unfold mdc at MN B1
      unfold clc at HB
      dsimp only at *
      obtain ⟨nm, hnm⟩ : ∃ nm, nm = ps.length := ⟨_, rfl⟩
      obtain ⟨cn, hcn⟩ : ∃ cn, cn = cps.length := ⟨_, rfl⟩
      obtain ⟨sn, hsn⟩ : ∃ sn, sn = sps.length := ⟨_, rfl⟩
      have SN := Lib.hid hsn
      have CN := Lib.hid hcn
      rw [← hnm] at RG LK MN hl hm B1 HR SWC ⊢
      rw [← hcn] at HB SWC HT
      clear hnm hcn hsn
      go_enter Tryz.func12, Tryz.ntmps12
      go_wp2_with fail
      refine RG.out.mono ?_
      rintro e w2 ⟨rfl, u2⟩
      rw [← MN.out] at u2
      have B2 := Lib.hid (u2.blk B1.out (fun h => h))
      have U2 : Hid (Upd (fun _ => False) w w2) := U1.out.trans u2 (fun _ _ h => h)
      have H2 := Lib.hid (H.out.keep0 U2.out)
      have U3 : Hid (Upd (fun _ => False) w w2.drew) := U2.out.drew
      have H3 := Lib.hid (H.out.keep0 U3.out)
      have B3 : Hid (Blk w2.drew w.heap.size [.bool on, .bool bc, .bool oi, .bool oo, .bool nl, .int .i64 rd, .slice pm nm km] 32) := B2.out.drew
      clear u2 RG LK x0 xb B1 U1
      obtain ⟨xb, x0, _, _⟩ := H2.out.facts
      obtain ⟨f0, f1, f2, f3, f4, f5, f6, f7, f8⟩ := mode_facts B2.out
      by_cases h0 : rd = 0
      · subst h0
        have RR := Lib.hid (RR.out.trans (if_neg (fun g => g.1 rfl)))
        clear H2
        go_wp2_with fail
        refine wp_region_held_drew (S := (fun w' => w'.cell? ⟨w.heap.size, 5, none⟩ = some (.int .i64 0) ∧ w'.cell? ⟨tb, 0, none⟩ = some (.map (some cm)) ∧ True)) (by kernel_rfl) ?_ (fun hHeld => ?_)
        · (try dsimp only); go_keep
        try simp only [Array.replicate, Act.put, List.setIfInBounds_toArray]
        refine' wpAnyH_take (i := 0) (oi := _) (v := _) ?hiSa1 (by kernel_rfl) (by kernel_rfl) (by kernel_rfl) ?hQSa1 ?hySa1 (by assumption) ?restSa1
        case' hiSa1 => (first | (simp only [List.getElem?_toArray, List.getElem?_cons_succ, List.getElem?_cons_zero]; done) | (simp only [List.getElem?_toArray, List.getElem?_cons_succ, List.getElem?_cons_zero]; rfl))
        case' hQSa1 => exact fun _ _ _ h => h
        case' hySa1 => refine Or.inl ⟨by rfl, ?_⟩
        (intro w hSw; (try dsimp only at hSw); go_simp; try with_reducible rfl)
        try simp only [Act.put, List.setIfInBounds_toArray, List.set_cons_zero, List.set_cons_succ]
        refine' wpAnyH_take (i := 1) (oi := _) (v := _) ?hiSa2 (by kernel_rfl) (by kernel_rfl) (by kernel_rfl) ?hQSa2 ?hySa2 (by assumption) ?restSa2
        case' hiSa2 => (first | (simp only [List.getElem?_toArray, List.getElem?_cons_succ, List.getElem?_cons_zero]; done) | (simp only [List.getElem?_toArray, List.getElem?_cons_succ, List.getElem?_cons_zero]; rfl))
        case' hQSa2 => exact fun _ _ _ h => h
        case' hySa2 => refine Or.inl ⟨by rfl, ?_⟩
        (intro w hSw; (try dsimp only at hSw); go_simp; try with_reducible rfl)
        try simp only [Act.put, List.setIfInBounds_toArray, List.set_cons_zero, List.set_cons_succ]
        refine' wpAnyH_take (i := 2) (oi := _) (v := _) ?hiSa3 (by kernel_rfl) (by kernel_rfl) (by kernel_rfl) ?hQSa3 ?hySa3 (by assumption) ?restSa3
        case' hiSa3 => (first | (simp only [List.getElem?_toArray, List.getElem?_cons_succ, List.getElem?_cons_zero]; done) | (simp only [List.getElem?_toArray, List.getElem?_cons_succ, List.getElem?_cons_zero]; rfl))
        case' hQSa3 => exact fun _ _ _ h => h
        case' hySa3 => refine Or.inl ⟨by rfl, ?_⟩
        (intro w hSw; (try dsimp only at hSw); go_simp; try with_reducible rfl)
        try simp only [Act.put, List.setIfInBounds_toArray, List.set_cons_zero, List.set_cons_succ]
        refine' wpAnyH_take (i := 3) (oi := _) (v := _) ?hiSa4 (by kernel_rfl) (by kernel_rfl) (by kernel_rfl) ?hQSa4 ?hySa4 (by assumption) ?restSa4
        case' hiSa4 => (first | (simp only [List.getElem?_toArray, List.getElem?_cons_succ, List.getElem?_cons_zero]; done) | (simp only [List.getElem?_toArray, List.getElem?_cons_succ, List.getElem?_cons_zero]; rfl))
        case' hQSa4 => exact fun _ _ _ h => h
        case' hySa4 => refine Or.inl ⟨by rfl, ?_⟩
        (intro w hSw; (try dsimp only at hSw); go_simp; try with_reducible rfl)
        try simp only [Act.put, List.setIfInBounds_toArray, List.set_cons_zero, List.set_cons_succ]
        refine' wpAnyH_take (i := 4) (oi := _) (v := undef) ?hiSa5 (by kernel_rfl) (by kernel_rfl) (by kernel_rfl) ?hQSa5 ?hySa5 (by assumption) ?restSa5
        case' hiSa5 => (first | (simp only [List.getElem?_toArray, List.getElem?_cons_succ, List.getElem?_cons_zero]; done) | (simp only [List.getElem?_toArray, List.getElem?_cons_succ, List.getElem?_cons_zero]; rfl))
        case' hQSa5 => exact fun _ _ _ h => h
        case' hySa5 => exact Or.inr ⟨by rfl, rfl⟩
        try simp only [Act.put, List.setIfInBounds_toArray, List.set_cons_zero, List.set_cons_succ]
        refine' wpAnyH_take (i := 5) (oi := _) (v := undef) ?hiSa6 (by kernel_rfl) (by kernel_rfl) (by kernel_rfl) ?hQSa6 ?hySa6 (by assumption) ?restSa6
        case' hiSa6 => (first | (simp only [List.getElem?_toArray, List.getElem?_cons_succ, List.getElem?_cons_zero]; done) | (simp only [List.getElem?_toArray, List.getElem?_cons_succ, List.getElem?_cons_zero]; rfl))
        case' hQSa6 => exact fun _ _ _ h => h
        case' hySa6 => exact Or.inr ⟨by rfl, rfl⟩
        try simp only [Act.put, List.setIfInBounds_toArray, List.set_cons_zero, List.set_cons_succ]
        refine' wpAnyH_take (i := 6) (oi := _) (v := undef) ?hiSa7 (by kernel_rfl) (by kernel_rfl) (by kernel_rfl) ?hQSa7 ?hySa7 (by assumption) ?restSa7
        case' hiSa7 => (first | (simp only [List.getElem?_toArray, List.getElem?_cons_succ, List.getElem?_cons_zero]; done) | (simp only [List.getElem?_toArray, List.getElem?_cons_succ, List.getElem?_cons_zero]; rfl))
        case' hQSa7 => exact fun _ _ _ h => h
        case' hySa7 => exact Or.inr ⟨by rfl, rfl⟩
        try simp only [Act.put, List.setIfInBounds_toArray, List.set_cons_zero, List.set_cons_succ]
        refine' wpAnyH_take (i := 7) (oi := _) (v := undef) ?hiSa8 (by kernel_rfl) (by kernel_rfl) (by kernel_rfl) ?hQSa8 ?hySa8 (by assumption) ?restSa8
        case' hiSa8 => (first | (simp only [List.getElem?_toArray, List.getElem?_cons_succ, List.getElem?_cons_zero]; done) | (simp only [List.getElem?_toArray, List.getElem?_cons_succ, List.getElem?_cons_zero]; rfl))
        case' hQSa8 => exact fun _ _ _ h => h
        case' hySa8 => exact Or.inr ⟨by rfl, rfl⟩
        try simp only [Act.put, List.setIfInBounds_toArray, List.set_cons_zero, List.set_cons_succ]
        refine' wpAnyH_take (i := 8) (oi := _) (v := undef) ?hiSa9 (by kernel_rfl) (by kernel_rfl) (by kernel_rfl) ?hQSa9 ?hySa9 (by assumption) ?restSa9
        case' hiSa9 => (first | (simp only [List.getElem?_toArray, List.getElem?_cons_succ, List.getElem?_cons_zero]; done) | (simp only [List.getElem?_toArray, List.getElem?_cons_succ, List.getElem?_cons_zero]; rfl))
        case' hQSa9 => exact fun _ _ _ h => h
        case' hySa9 => exact Or.inr ⟨by rfl, rfl⟩
        try simp only [Act.put, List.setIfInBounds_toArray, List.set_cons_zero, List.set_cons_succ]
        refine' wpAnyH_take (i := 9) (oi := _) (v := undef) ?hiSa10 (by kernel_rfl) (by kernel_rfl) (by kernel_rfl) ?hQSa10 ?hySa10 (by assumption) ?restSa10
        case' hiSa10 => (first | (simp only [List.getElem?_toArray, List.getElem?_cons_succ, List.getElem?_cons_zero]; done) | (simp only [List.getElem?_toArray, List.getElem?_cons_succ, List.getElem?_cons_zero]; rfl))
        case' hQSa10 => exact fun _ _ _ h => h
        case' hySa10 => exact Or.inr ⟨by rfl, rfl⟩
        try simp only [Act.put, List.setIfInBounds_toArray, List.set_cons_zero, List.set_cons_succ]
        refine' wpAnyH_take (i := 10) (oi := _) (v := undef) ?hiSa11 (by kernel_rfl) (by kernel_rfl) (by kernel_rfl) ?hQSa11 ?hySa11 (by assumption) ?restSa11
        case' hiSa11 => (first | (simp only [List.getElem?_toArray, List.getElem?_cons_succ, List.getElem?_cons_zero]; done) | (simp only [List.getElem?_toArray, List.getElem?_cons_succ, List.getElem?_cons_zero]; rfl))
        case' hQSa11 => exact fun _ _ _ h => h
        case' hySa11 => exact Or.inr ⟨by rfl, rfl⟩
        try simp only [Act.put, List.setIfInBounds_toArray, List.set_cons_zero, List.set_cons_succ]
        refine' wpAnyH_take (i := 11) (oi := _) (v := undef) ?hiSa12 (by kernel_rfl) (by kernel_rfl) (by kernel_rfl) ?hQSa12 ?hySa12 (by assumption) ?restSa12
        case' hiSa12 => (first | (simp only [List.getElem?_toArray, List.getElem?_cons_succ, List.getElem?_cons_zero]; done) | (simp only [List.getElem?_toArray, List.getElem?_cons_succ, List.getElem?_cons_zero]; rfl))
        case' hQSa12 => exact fun _ _ _ h => h
        case' hySa12 => exact Or.inr ⟨by rfl, rfl⟩
        try simp only [Act.put, List.setIfInBounds_toArray, List.set_cons_zero, List.set_cons_succ]
        refine' wpAnyH_take (i := 12) (oi := _) (v := undef) ?hiSa13 (by kernel_rfl) (by kernel_rfl) (by kernel_rfl) ?hQSa13 ?hySa13 (by assumption) ?restSa13
        case' hiSa13 => (first | (simp only [List.getElem?_toArray, List.getElem?_cons_succ, List.getElem?_cons_zero]; done) | (simp only [List.getElem?_toArray, List.getElem?_cons_succ, List.getElem?_cons_zero]; rfl))
        case' hQSa13 => exact fun _ _ _ h => h
        case' hySa13 => exact Or.inr ⟨by rfl, rfl⟩
        try simp only [Act.put, List.setIfInBounds_toArray, List.set_cons_zero, List.set_cons_succ]
        refine' wpAnyH_take (i := 13) (oi := _) (v := undef) ?hiSa14 (by kernel_rfl) (by kernel_rfl) (by kernel_rfl) ?hQSa14 ?hySa14 (by assumption) ?restSa14
        case' hiSa14 => (first | (simp only [List.getElem?_toArray, List.getElem?_cons_succ, List.getElem?_cons_zero]; done) | (simp only [List.getElem?_toArray, List.getElem?_cons_succ, List.getElem?_cons_zero]; rfl))
        case' hQSa14 => exact fun _ _ _ h => h
        case' hySa14 => exact Or.inr ⟨by rfl, rfl⟩
        try simp only [Act.put, List.setIfInBounds_toArray, List.set_cons_zero, List.set_cons_succ]
        refine' wpAnyH_take (i := 14) (oi := _) (v := undef) ?hiSa15 (by kernel_rfl) (by kernel_rfl) (by kernel_rfl) ?hQSa15 ?hySa15 (by assumption) ?restSa15
        case' hiSa15 => (first | (simp only [List.getElem?_toArray, List.getElem?_cons_succ, List.getElem?_cons_zero]; done) | (simp only [List.getElem?_toArray, List.getElem?_cons_succ, List.getElem?_cons_zero]; rfl))
        case' hQSa15 => exact fun _ _ _ h => h
        case' hySa15 => exact Or.inr ⟨by rfl, rfl⟩
        try simp only [Act.put, List.setIfInBounds_toArray, List.set_cons_zero, List.set_cons_succ]
        refine' wpAnyH_take (i := 15) (oi := _) (v := undef) ?hiSa16 (by kernel_rfl) (by kernel_rfl) (by kernel_rfl) ?hQSa16 ?hySa16 (by assumption) ?restSa16
        case' hiSa16 => (first | (simp only [List.getElem?_toArray, List.getElem?_cons_succ, List.getElem?_cons_zero]; done) | (simp only [List.getElem?_toArray, List.getElem?_cons_succ, List.getElem?_cons_zero]; rfl))
        case' hQSa16 => exact fun _ _ _ h => h
        case' hySa16 => exact Or.inr ⟨by rfl, rfl⟩
        try simp only [Act.put, List.setIfInBounds_toArray, List.set_cons_zero, List.set_cons_succ]
        refine' wpAnyH_take (i := 16) (oi := _) (v := undef) ?hiSa17 (by kernel_rfl) (by kernel_rfl) (by kernel_rfl) ?hQSa17 ?hySa17 (by assumption) ?restSa17
        case' hiSa17 => (first | (simp only [List.getElem?_toArray, List.getElem?_cons_succ, List.getElem?_cons_zero]; done) | (simp only [List.getElem?_toArray, List.getElem?_cons_succ, List.getElem?_cons_zero]; rfl))
        case' hQSa17 => exact fun _ _ _ h => h
        case' hySa17 => exact Or.inr ⟨by rfl, rfl⟩
        try simp only [Act.put, List.setIfInBounds_toArray, List.set_cons_zero, List.set_cons_succ]
        refine' wpAnyH_take (i := 17) (oi := _) (v := undef) ?hiSa18 (by kernel_rfl) (by kernel_rfl) (by kernel_rfl) ?hQSa18 ?hySa18 (by assumption) ?restSa18
        case' hiSa18 => (first | (simp only [List.getElem?_toArray, List.getElem?_cons_succ, List.getElem?_cons_zero]; done) | (simp only [List.getElem?_toArray, List.getElem?_cons_succ, List.getElem?_cons_zero]; rfl))
        case' hQSa18 => exact fun _ _ _ h => h
        case' hySa18 => exact Or.inr ⟨by rfl, rfl⟩
        try simp only [Act.put, List.setIfInBounds_toArray, List.set_cons_zero, List.set_cons_succ]
        refine' wpAnyH_take (i := 18) (oi := _) (v := _) ?hiSa19 (by kernel_rfl) (by kernel_rfl) (by kernel_rfl) ?hQSa19 ?hySa19 (by assumption) ?restSa19
        case' hiSa19 => (first | (simp only [List.getElem?_toArray, List.getElem?_cons_succ, List.getElem?_cons_zero]; done) | (simp only [List.getElem?_toArray, List.getElem?_cons_succ, List.getElem?_cons_zero]; rfl))
        case' hQSa19 => exact fun _ _ _ h => h
        case' hySa19 => refine Or.inl ⟨by rfl, ?_⟩
        (intro w hSw; (try dsimp only at hSw); go_simp; try with_reducible rfl)
        try simp only [Act.put, List.setIfInBounds_toArray, List.set_cons_zero, List.set_cons_succ]
        refine' wpAnyH_take (i := 19) (oi := _) (v := _) ?hiSa20 (by kernel_rfl) (by kernel_rfl) (by kernel_rfl) ?hQSa20 ?hySa20 (by assumption) ?restSa20
        case' hiSa20 => (first | (simp only [List.getElem?_toArray, List.getElem?_cons_succ, List.getElem?_cons_zero]; done) | (simp only [List.getElem?_toArray, List.getElem?_cons_succ, List.getElem?_cons_zero]; rfl))
        case' hQSa20 => exact fun _ _ _ h => h
        case' hySa20 => refine Or.inl ⟨by rfl, ?_⟩
        (intro w hSw; (try dsimp only at hSw); go_simp; try with_reducible rfl)
        try simp only [Act.put, List.setIfInBounds_toArray, List.set_cons_zero, List.set_cons_succ]
        refine wpAnyH_done (by kernel_rfl) ?_ _
        go_wp2_with fail
        have CB3 : Hid (Blk w2.drew (cb id) [.bool con, .bool cbc, .bool coi, .bool coo, .bool cnl, .int .i64 crd, .slice cp cn cc, .int .i64 ccg] 98) := U3.out.blk HB.out (fun h => h)
        clear f0 f1 f2 f3 f4 f5 f6 f7 f8 xb x0 hHeld U2 B2 HB HT
        generalize w2.drew = w3 at *
        have SW : Hid (∀ w4, Upd (fun _ => False) w3 w4 → Calls Tryz.prog 45 #[.agg #[.bool con, .bool cbc, .bool coi, .bool coo, .bool cnl, .int .i64 crd, .slice cp cn cc], .agg #[.bool on, .bool bc, .bool oi, .bool oo, .bool nl, .int .i64 0, .slice pm nm km]] w4 fun e w' => ∃ p5 c5, e = .returned (.tuple #[.agg #[.bool son, .bool sbc, .bool soi, .bool soo, .bool snl, .int .i64 srd, .slice p5 sn c5], .int .i64 serr]) ∧ Hid ((Upd (fun _ => False) w4 w' ∧ Upd (fun _ => False) w3 w') ∧ TxtsAt w' w3.heap.size (.slice p5 sn c5) sps ∧ ((w'.cell? ⟨cb id, 0, none⟩ = some (.bool con) ∧ w'.cell? ⟨cb id, 1, none⟩ = some (.bool cbc) ∧ w'.cell? ⟨cb id, 2, none⟩ = some (.bool coi) ∧ w'.cell? ⟨cb id, 3, none⟩ = some (.bool coo) ∧ w'.cell? ⟨cb id, 4, none⟩ = some (.bool cnl) ∧ w'.cell? ⟨cb id, 5, none⟩ = some (.int .i64 crd) ∧ w'.cell? ⟨cb id, 6, none⟩ = some (.slice cp cn cc)) ∧ (w'.cell? ⟨w.heap.size, 0, none⟩ = some (.bool on) ∧ w'.cell? ⟨w.heap.size, 1, none⟩ = some (.bool bc) ∧ w'.cell? ⟨w.heap.size, 2, none⟩ = some (.bool oi) ∧ w'.cell? ⟨w.heap.size, 3, none⟩ = some (.bool oo) ∧ w'.cell? ⟨w.heap.size, 4, none⟩ = some (.bool nl) ∧ w'.cell? ⟨w.heap.size, 5, none⟩ = some (.int .i64 0) ∧ w'.cell? ⟨w.heap.size, 6, none⟩ = some (.slice pm nm km))))) := fun w4 u => by
          refine (SWC.out w4 (U3.out.trans u (fun _ _ h => h))).mono ?_
          rintro e w' ⟨v2, rfl, t2, u2⟩
          obtain ⟨p5, c5, e5, _⟩ := own_slice t2
          subst e5
          have ux := u.trans u2 (fun _ _ h => h)
          have cbk := ux.blk CB3.out (fun h => h)
          have pbk := ux.blk B3.out (fun h => h)
          rw [← SN.out] at t2 ⊢
          exact ⟨p5, c5, rfl, ⟨u2, ux⟩, own_mono t2 u.size, ⟨cbk.cellAt rfl, cbk.cellAt rfl, cbk.cellAt rfl, cbk.cellAt rfl, cbk.cellAt rfl, cbk.cellAt rfl, cbk.cellAt rfl⟩, ⟨pbk.cellAt rfl, pbk.cellAt rfl, pbk.cellAt rfl, pbk.cellAt rfl, pbk.cellAt rfl, pbk.cellAt rfl, pbk.cellAt rfl⟩⟩
        have SF : Hid (∀ w4, Upd (fun _ => False) w3 w4 → ((w4.cell? ⟨cb id, 0, none⟩ = some (.bool con) ∧ w4.cell? ⟨cb id, 1, none⟩ = some (.bool cbc) ∧ w4.cell? ⟨cb id, 2, none⟩ = some (.bool coi) ∧ w4.cell? ⟨cb id, 3, none⟩ = some (.bool coo) ∧ w4.cell? ⟨cb id, 4, none⟩ = some (.bool cnl) ∧ w4.cell? ⟨cb id, 5, none⟩ = some (.int .i64 crd) ∧ w4.cell? ⟨cb id, 6, none⟩ = some (.slice cp cn cc)) ∧ (w4.cell? ⟨w.heap.size, 0, none⟩ = some (.bool on) ∧ w4.cell? ⟨w.heap.size, 1, none⟩ = some (.bool bc) ∧ w4.cell? ⟨w.heap.size, 2, none⟩ = some (.bool oi) ∧ w4.cell? ⟨w.heap.size, 3, none⟩ = some (.bool oo) ∧ w4.cell? ⟨w.heap.size, 4, none⟩ = some (.bool nl) ∧ w4.cell? ⟨w.heap.size, 5, none⟩ = some (.int .i64 0) ∧ w4.cell? ⟨w.heap.size, 6, none⟩ = some (.slice pm nm km)))) := fun w4 u => by
          have cbk := u.blk CB3.out (fun h => h)
          have pbk := u.blk B3.out (fun h => h)
          exact ⟨⟨cbk.cellAt rfl, cbk.cellAt rfl, cbk.cellAt rfl, cbk.cellAt rfl, cbk.cellAt rfl, cbk.cellAt rfl, cbk.cellAt rfl⟩, ⟨pbk.cellAt rfl, pbk.cellAt rfl, pbk.cellAt rfl, pbk.cellAt rfl, pbk.cellAt rfl, pbk.cellAt rfl, pbk.cellAt rfl⟩⟩
        have SG : Hid (∀ w5 w4, Upd (fun _ => False) w3 w5 → Upd (fun b => b = w3.heap.size) w5 w4 → ((w4.cell? ⟨cb id, 0, none⟩ = some (.bool con) ∧ w4.cell? ⟨cb id, 1, none⟩ = some (.bool cbc) ∧ w4.cell? ⟨cb id, 2, none⟩ = some (.bool coi) ∧ w4.cell? ⟨cb id, 3, none⟩ = some (.bool coo) ∧ w4.cell? ⟨cb id, 4, none⟩ = some (.bool cnl) ∧ w4.cell? ⟨cb id, 5, none⟩ = some (.int .i64 crd) ∧ w4.cell? ⟨cb id, 6, none⟩ = some (.slice cp cn cc)) ∧ (w4.cell? ⟨w.heap.size, 0, none⟩ = some (.bool on) ∧ w4.cell? ⟨w.heap.size, 1, none⟩ = some (.bool bc) ∧ w4.cell? ⟨w.heap.size, 2, none⟩ = some (.bool oi) ∧ w4.cell? ⟨w.heap.size, 3, none⟩ = some (.bool oo) ∧ w4.cell? ⟨w.heap.size, 4, none⟩ = some (.bool nl) ∧ w4.cell? ⟨w.heap.size, 5, none⟩ = some (.int .i64 0) ∧ w4.cell? ⟨w.heap.size, 6, none⟩ = some (.slice pm nm km)))) := fun w5 w4 u u2 => by
          have cbk := u2.blk (u.blk CB3.out (fun h => h)) (fun e => by have := CB3.out.lt; omega)
          have pbk := u2.blk (u.blk B3.out (fun h => h)) (fun e => by have := B3.out.lt; omega)
          exact ⟨⟨cbk.cellAt rfl, cbk.cellAt rfl, cbk.cellAt rfl, cbk.cellAt rfl, cbk.cellAt rfl, cbk.cellAt rfl, cbk.cellAt rfl⟩, ⟨pbk.cellAt rfl, pbk.cellAt rfl, pbk.cellAt rfl, pbk.cellAt rfl, pbk.cellAt rfl, pbk.cellAt rfl, pbk.cellAt rfl⟩⟩
        have AFT : Hid (∀ w5 nb W p5 c5, (Upd (fun _ => False) w3 w5 ∧ TxtsAt w5 w3.heap.size (.slice p5 sn c5) sps) → Blk W nb [.bool son, .bool sbc, .bool soi, .bool soo, .bool snl, .int .i64 srd, .slice p5 sn c5] 32 → Upd (fun b => b = nb) w5 W → w3.heap.size ≤ nb → nb < W.heap.size → (∀ b, (Value.slice p5 sn c5).ownBlock = some b → b ≠ nb) →
            TSt W base tb cm kb pb cb (fun b => (X b ∨ b = nb) ∨ (Value.slice p5 sn c5).ownBlock = some b) M most L n P N ∧ TxtsAt W base (.slice p5 sn c5) sps ∧ Blk W nb [.bool son, .bool sbc, .bool soi, .bool soo, .bool snl, .int .i64 srd, .slice p5 sn c5] 32 ∧ Blk W (cb id) [.bool con, .bool cbc, .bool coi, .bool coo, .bool cnl, .int .i64 crd, .slice cp cn cc, .int .i64 ccg] 98 ∧ Upd (Fr base X) w W ∧ (∀ b, X b ∨ b = nb → (Value.slice p5 sn c5).ownBlock ≠ some b)) := fun w5 nb W p5 c5 ⟨ua, ta⟩ bn ub h1 h2 hne => by
          have uw : Upd (fun _ => False) w3 W := (ua.weaken (F := fun b => b = nb) (fun _ _ h => h.elim)).trans ub (fun _ _ h => h) |>.weaken (fun b hb e => by omega)
          refine ⟨H3.out.also uw (fun b hb => ?_), own_mono (own_keep ta ub hne) H3.out.bl, bn, uw.blk CB3.out (fun h => h), (U3.out.trans uw (fun _ _ h => h)).weaken (fun _ _ h => h.elim), fun b hb e => ?_⟩
          · rcases hb with (g | g) | g
            · exact Or.inl g
            · exact Or.inr ⟨by omega, by omega⟩
            · have := own_lt ta g
              exact Or.inr ⟨this.2.1, Nat.lt_of_lt_of_le this.1 ub.size⟩
          · have := own_lt ta e
            rcases hb with g | g
            · have := H3.out.xlt b g; omega
            · exact hne b e g
        have NB : Hid (Blk (w3.drew.alloc (.cells #[.bool false, .bool false, .bool false, .bool false, .bool false, .int .i64 0, .slice none 0 0] 32)) w3.heap.size zeroMC 32) := Blk.made w3.drew zeroMC 32
        obtain ⟨y0, y1, y2, y3, y4, y5, y6, y7, y8, y9⟩ := cl_facts (c := ⟨⟨con, cbc, coi, coo, cnl, crd, cps⟩, ccg⟩) (v := .slice cp cn cc) CB3.out
        obtain ⟨q0, q1, q2, q3, q4, q5, q6, q7, q8⟩ := mode_facts B3.out
        dsimp only at y2 y3 y4 y5 y6 y7 y9
        clear CB3 B3 SWC H3
        go_wp2_with fail
        refine wp_region_held_drew (S := (fun w' => (w'.cell? ⟨cb id, 0, none⟩ = some (.bool con) ∧ w'.cell? ⟨cb id, 1, none⟩ = some (.bool cbc) ∧ w'.cell? ⟨cb id, 2, none⟩ = some (.bool coi) ∧ w'.cell? ⟨cb id, 3, none⟩ = some (.bool coo) ∧ w'.cell? ⟨cb id, 4, none⟩ = some (.bool cnl) ∧ w'.cell? ⟨cb id, 5, none⟩ = some (.int .i64 crd) ∧ w'.cell? ⟨cb id, 6, none⟩ = some (.slice cp cn cc)) ∧ (w'.cell? ⟨w.heap.size, 0, none⟩ = some (.bool on) ∧ w'.cell? ⟨w.heap.size, 1, none⟩ = some (.bool bc) ∧ w'.cell? ⟨w.heap.size, 2, none⟩ = some (.bool oi) ∧ w'.cell? ⟨w.heap.size, 3, none⟩ = some (.bool oo) ∧ w'.cell? ⟨w.heap.size, 4, none⟩ = some (.bool nl) ∧ w'.cell? ⟨w.heap.size, 5, none⟩ = some (.int .i64 0) ∧ w'.cell? ⟨w.heap.size, 6, none⟩ = some (.slice pm nm km)))) (by kernel_rfl) ?_ (fun hHeld => ?_)
        · (try dsimp only); go_keep
        try simp only [Array.replicate, Act.put, List.setIfInBounds_toArray]
        refine' wpAnyH_take (i := 0) (oi := _) (v := _) ?hiRa1 (by kernel_rfl) (by kernel_rfl) (by kernel_rfl) ?hQRa1 ?hyRa1 (by assumption) ?restRa1
        case' hiRa1 => (first | (simp only [List.getElem?_toArray, List.getElem?_cons_succ, List.getElem?_cons_zero]; done) | (simp only [List.getElem?_toArray, List.getElem?_cons_succ, List.getElem?_cons_zero]; rfl))
        case' hQRa1 => exact fun _ _ _ h => h
        case' hyRa1 => refine Or.inl ⟨by rfl, ?_⟩
        (intro w hSw; (try dsimp only at hSw); go_simp; try with_reducible rfl)
        try simp only [Act.put, List.setIfInBounds_toArray, List.set_cons_zero, List.set_cons_succ]
        refine' wpAnyH_take (i := 1) (oi := _) (v := _) ?hiRa2 (by kernel_rfl) (by kernel_rfl) (by kernel_rfl) ?hQRa2 ?hyRa2 (by assumption) ?restRa2
        case' hiRa2 => (first | (simp only [List.getElem?_toArray, List.getElem?_cons_succ, List.getElem?_cons_zero]; done) | (simp only [List.getElem?_toArray, List.getElem?_cons_succ, List.getElem?_cons_zero]; rfl))
        case' hQRa2 => exact fun _ _ _ h => h
        case' hyRa2 => refine Or.inl ⟨by rfl, ?_⟩
        (intro w hSw; (try dsimp only at hSw); go_simp; try with_reducible rfl)
        try simp only [Act.put, List.setIfInBounds_toArray, List.set_cons_zero, List.set_cons_succ]
        refine' wpAnyH_take (i := 2) (oi := _) (v := _) ?hiRa3 (by kernel_rfl) (by kernel_rfl) (by kernel_rfl) ?hQRa3 ?hyRa3 (by assumption) ?restRa3
        case' hiRa3 => (first | (simp only [List.getElem?_toArray, List.getElem?_cons_succ, List.getElem?_cons_zero]; done) | (simp only [List.getElem?_toArray, List.getElem?_cons_succ, List.getElem?_cons_zero]; rfl))
        case' hQRa3 => exact fun _ _ _ h => h
        case' hyRa3 => refine Or.inl ⟨by rfl, ?_⟩
        (intro w hSw; (try dsimp only at hSw); go_simp; try with_reducible rfl)
        try simp only [Act.put, List.setIfInBounds_toArray, List.set_cons_zero, List.set_cons_succ]
        refine' wpAnyH_take (i := 3) (oi := _) (v := _) ?hiRa4 (by kernel_rfl) (by kernel_rfl) (by kernel_rfl) ?hQRa4 ?hyRa4 (by assumption) ?restRa4
        case' hiRa4 => (first | (simp only [List.getElem?_toArray, List.getElem?_cons_succ, List.getElem?_cons_zero]; done) | (simp only [List.getElem?_toArray, List.getElem?_cons_succ, List.getElem?_cons_zero]; rfl))
        case' hQRa4 => exact fun _ _ _ h => h
        case' hyRa4 => refine Or.inl ⟨by rfl, ?_⟩
        (intro w hSw; (try dsimp only at hSw); go_simp; try with_reducible rfl)
        try simp only [Act.put, List.setIfInBounds_toArray, List.set_cons_zero, List.set_cons_succ]
        refine' wpAnyH_take (i := 4) (oi := _) (v := _) ?hiRa5 (by kernel_rfl) (by kernel_rfl) (by kernel_rfl) ?hQRa5 ?hyRa5 (by assumption) ?restRa5
        case' hiRa5 => (first | (simp only [List.getElem?_toArray, List.getElem?_cons_succ, List.getElem?_cons_zero]; done) | (simp only [List.getElem?_toArray, List.getElem?_cons_succ, List.getElem?_cons_zero]; rfl))
        case' hQRa5 => exact fun _ _ _ h => h
        case' hyRa5 => refine Or.inl ⟨by rfl, ?_⟩
        (intro w hSw; (try dsimp only at hSw); go_simp; try with_reducible rfl)
        try simp only [Act.put, List.setIfInBounds_toArray, List.set_cons_zero, List.set_cons_succ]
        refine wpAnyH_ready (rs := [5, 9]) (by kernel_rfl) (by simp) ?_
        refine' AllReadyH.cons (o := _) ?hiRa6 (fun K hK => ?hKRa6) (AllReadyH.cons (o := _) ?hiRa7 (fun K hK => ?hKRa7) AllReadyH.nil)
        case' hiRa6 => (first | (simp only [List.getElem?_toArray, List.getElem?_cons_succ, List.getElem?_cons_zero]; done) | (simp only [List.getElem?_toArray, List.getElem?_cons_succ, List.getElem?_cons_zero]; rfl))
        case' hiRa7 => (first | (simp only [List.getElem?_toArray, List.getElem?_cons_succ, List.getElem?_cons_zero]; done) | (simp only [List.getElem?_toArray, List.getElem?_cons_succ, List.getElem?_cons_zero]; rfl))
        case' hKRa6 =>
          go_simp
          (go_at_call 45; refine (SW.out _ (by first | exact Upd.refl _ _ | exact (Upd.refl _ _).drew)).mono ?_; rintro e w5 ⟨p5, c5, rfl, r5⟩; obtain ⟨z5, f5⟩ := r5.out.2.2)
          refine hK.out _ _ ?_ (fun hHeld => ?_)
          · (first | with_reducible exact zz | ((try dsimp only); go_keep))
          clear hK K
          try simp only [Act.put, List.setIfInBounds_toArray, List.set_cons_zero, List.set_cons_succ]
          refine' wpAnyH_take (i := 6) (oi := _) (v := _) ?hiRa8 (by kernel_rfl) (by kernel_rfl) (by kernel_rfl) ?hQRa8 ?hyRa8 (by assumption) ?restRa8
          case' hiRa8 => (first | (simp only [List.getElem?_toArray, List.getElem?_cons_succ, List.getElem?_cons_zero]; done) | (simp only [List.getElem?_toArray, List.getElem?_cons_succ, List.getElem?_cons_zero]; rfl))
          case' hQRa8 => exact fun _ _ _ h => h
          case' hyRa8 => refine Or.inl ⟨by rfl, ?_⟩
          (intro w hSw; (try dsimp only at hSw); go_simp; try with_reducible rfl)
          try simp only [Act.put, List.setIfInBounds_toArray, List.set_cons_zero, List.set_cons_succ]
          refine' wpAnyH_take (i := 7) (oi := _) (v := _) ?hiRa9 (by kernel_rfl) (by kernel_rfl) (by kernel_rfl) ?hQRa9 ?hyRa9 (by assumption) ?restRa9
          case' hiRa9 => (first | (simp only [List.getElem?_toArray, List.getElem?_cons_succ, List.getElem?_cons_zero]; done) | (simp only [List.getElem?_toArray, List.getElem?_cons_succ, List.getElem?_cons_zero]; rfl))
          case' hQRa9 => exact fun _ _ _ h => h
          case' hyRa9 => refine Or.inl ⟨by rfl, ?_⟩
          (intro w hSw; (try dsimp only at hSw); go_simp; try with_reducible rfl)
          try simp only [Act.put, List.setIfInBounds_toArray, List.set_cons_zero, List.set_cons_succ]
          refine' wpAnyH_take (i := 8) (oi := _) (v := _) ?hiRa10 (by kernel_rfl) (by kernel_rfl) (by kernel_rfl) ?hQRa10 ?hyRa10 (by assumption) ?restRa10
          case' hiRa10 => (first | (simp only [List.getElem?_toArray, List.getElem?_cons_succ, List.getElem?_cons_zero]; done) | (simp only [List.getElem?_toArray, List.getElem?_cons_succ, List.getElem?_cons_zero]; rfl))
          case' hQRa10 => exact fun _ _ _ h => h
          case' hyRa10 => refine Or.inl ⟨by rfl, ?_⟩
          (intro w hSw; (try dsimp only at hSw); go_simp; try with_reducible rfl)
          try simp only [Act.put, List.setIfInBounds_toArray, List.set_cons_zero, List.set_cons_succ]
          refine wpAnyH_ready (rs := [9]) (by kernel_rfl) (by simp) ?_
          refine' AllReadyH.cons (o := _) ?hiRa11 (fun K hK => ?hKRa11) AllReadyH.nil
          case' hiRa11 => (first | (simp only [List.getElem?_toArray, List.getElem?_cons_succ, List.getElem?_cons_zero]; done) | (simp only [List.getElem?_toArray, List.getElem?_cons_succ, List.getElem?_cons_zero]; rfl))
          go_simp
          skip
          refine hK.out _ _ ?_ (fun hHeld => ?_)
          · (first | with_reducible exact zz | ((try dsimp only); go_keep))
          clear hK K
          try simp only [Act.put, List.setIfInBounds_toArray, List.set_cons_zero, List.set_cons_succ]
          refine wpAnyH_ready (rs := [10]) (by kernel_rfl) (by simp) ?_
          refine' AllReadyH.cons (o := _) ?hiRa12 (fun K hK => ?hKRa12) AllReadyH.nil
          case' hiRa12 => (first | (simp only [List.getElem?_toArray, List.getElem?_cons_succ, List.getElem?_cons_zero]; done) | (simp only [List.getElem?_toArray, List.getElem?_cons_succ, List.getElem?_cons_zero]; rfl))
          go_simp
          skip
          refine hK.out _ _ ?_ (fun hHeld => ?_)
          · (first | with_reducible exact zz | ((try dsimp only); go_keep))
          clear hK K
          try simp only [Act.put, List.setIfInBounds_toArray, List.set_cons_zero, List.set_cons_succ]
          refine' wpAnyH_take (i := 11) (oi := _) (v := _) ?hiRa13 (by kernel_rfl) (by kernel_rfl) (by kernel_rfl) ?hQRa13 ?hyRa13 (by assumption) ?restRa13
          case' hiRa13 => (first | (simp only [List.getElem?_toArray, List.getElem?_cons_succ, List.getElem?_cons_zero]; done) | (simp only [List.getElem?_toArray, List.getElem?_cons_succ, List.getElem?_cons_zero]; rfl))
          case' hQRa13 => exact fun _ _ _ h => h
          case' hyRa13 => refine Or.inl ⟨by rfl, ?_⟩
          (intro w hSw; (try dsimp only at hSw); go_simp; try with_reducible rfl)
          try simp only [Act.put, List.setIfInBounds_toArray, List.set_cons_zero, List.set_cons_succ]
          refine wpAnyH_done (by kernel_rfl) ?_ _
          have bF := Blk.made w5 [.bool son, .bool sbc, .bool soi, .bool soo, .bool snl, .int .i64 srd, .slice p5 sn c5] 32
          have uF : Upd (fun b => b = w5.heap.size) w5 (w5.alloc (.cells #[.bool son, .bool sbc, .bool soi, .bool soo, .bool snl, .int .i64 srd, .slice p5 sn c5] 32)) := (Upd.refl _ _).alloc _
          have r6 := AFT.out w5 w5.heap.size _ p5 c5 ⟨r5.out.1.2, r5.out.2.1⟩ bF uF r5.out.1.2.size (by simp) (fun b hb e => by have := (own_lt r5.out.2.1 hb).1; omega)
          clear z5 f5 r5 hHeld bF uF SW NB AFT y0 y1 y2 y3 y4 y5 y6 y7 y8 y9
          generalize hW : w5.alloc (.cells #[.bool son, .bool sbc, .bool soi, .bool soo, .bool snl, .int .i64 srd, .slice p5 sn c5] 32) = W at *
          generalize w5.heap.size = nb at *
          clear hW
          obtain ⟨s6, t6, n6, k6, u6, o6⟩ := r6
          by_cases hs0 : serr = 0
          · subst hs0
            have R := Lib.hid (RR.out.trans (if_neg (fun g => g rfl)))
            have RT := SWR.out rfl
            obtain ⟨rl, rs⟩ := right_ps RT
            dsimp only at rl rs
            have u7 : Upd (fun b => b = cb id) W ((((((((W).setCell ⟨cb id, 0, none⟩ (.bool son)).setCell ⟨cb id, 1, none⟩ (.bool sbc)).setCell ⟨cb id, 2, none⟩ (.bool soi)).setCell ⟨cb id, 3, none⟩ (.bool soo)).setCell ⟨cb id, 4, none⟩ (.bool snl)).setCell ⟨cb id, 5, none⟩ (.int .i64 srd)).setCell ⟨cb id, 6, none⟩ (.slice p5 sn c5)) := setM_upd (Upd.refl (fun b => b = cb id) W) (fun _ => rfl)
            have k7 : Blk ((((((((W).setCell ⟨cb id, 0, none⟩ (.bool son)).setCell ⟨cb id, 1, none⟩ (.bool sbc)).setCell ⟨cb id, 2, none⟩ (.bool soi)).setCell ⟨cb id, 3, none⟩ (.bool soo)).setCell ⟨cb id, 4, none⟩ (.bool snl)).setCell ⟨cb id, 5, none⟩ (.int .i64 srd)).setCell ⟨cb id, 6, none⟩ (.slice p5 sn c5)) (cb id) (clc ⟨⟨son, sbc, soi, soo, snl, srd, sps⟩, ccg⟩ (.slice p5 sn c5)) 98 := ((((((k6.set 0 _).set 1 _).set 2 _).set 3 _).set 4 _).set 5 _).set 6 _
            have hnt : nb ≠ cb id := fun e => absurd (n6.ty (e ▸ k6)) (by decide)
            have htb : tb ≠ cb id := fun e => absurd (s6.blk.ty (e ▸ k6)) (by decide)
            have htb' := Ne.symm htb
            have hnt' := Ne.symm hnt
            have s7 := s6.clSet (Y := fun b => X b ∨ b = nb) (c := ⟨⟨con, cbc, coi, coo, cnl, crd, cps⟩, ccg⟩) (c' := ⟨⟨son, sbc, soi, soo, snl, srd, sps⟩, ccg⟩) (v := .slice cp cn cc) HC.out k6 u7 k7 (own_keep t6 u7 (fun b hb e => by
              obtain ⟨_, _, cs, hs⟩ := txts_blkT t6 hb
              subst e
              exact absurd (k6.ty hs) (by decide))) RT (Or.inr (fun b hb => Or.inr hb)) (fun b hb => ⟨Or.inl hb, Or.inr (o6 b hb)⟩)
            have n7 := u7.blk n6 hnt
            have u8 : Upd (Fr base X) w ((((((((W).setCell ⟨cb id, 0, none⟩ (.bool son)).setCell ⟨cb id, 1, none⟩ (.bool sbc)).setCell ⟨cb id, 2, none⟩ (.bool soi)).setCell ⟨cb id, 3, none⟩ (.bool soo)).setCell ⟨cb id, 4, none⟩ (.bool snl)).setCell ⟨cb id, 5, none⟩ (.int .i64 srd)).setCell ⟨cb id, 6, none⟩ (.slice p5 sn c5)) := u6.trans (s6.frc HC.out u7) (fun b _ h => ⟨h.1, fun g => h.2 (Or.inl (Or.inl g))⟩)
            obtain ⟨xb, x0, x1, x2⟩ := s6.facts
            obtain ⟨g0, g1, g2, g3, g4, g5, g6, g7, g8⟩ := mode_facts n6
            obtain ⟨y0, y1, y2, y3, y4, y5, y6, y7, y8, y9⟩ := cl_facts (c := ⟨⟨con, cbc, coi, coo, cnl, crd, cps⟩, ccg⟩) (v := .slice cp cn cc) k6
            dsimp only at y2 y3 y4 y5 y6 y7 y9
            have PD := Lib.hid (s7.pdropC id (by omega))
            have HC1 : Hid (aget (aset M id ⟨⟨son, sbc, soi, soo, snl, srd, sps⟩, ccg⟩) id = some ⟨⟨son, sbc, soi, soo, snl, srd, sps⟩, ccg⟩) := by show _ = _; rw [aget_aset, if_pos rfl]
            have K7 := Lib.hid k7
            have N7 := Lib.hid n7
            have U8 := Lib.hid u8
            have RT := Lib.hid RT
            have RS := Lib.hid rs
            have RL : sn ≤ 32 := by have := SN.out; omega
            clear s6 t6 n6 k6 u6 o6 u7 k7 s7 n7 u8 rl rs RR SWR
            go_wp2_with fail
            refine PD.out.mono ?_
            rintro e w8 ⟨⟨q8, rfl⟩, s8, u8, kc8⟩
            have K8 := Lib.hid (kc8 id _ _ HC1.out K7.out)
            have n8 := u8.blk N7.out (fun h => h.2 (Or.inr rfl))
            have UW : Hid (Upd (Fr base X) w w8) := U8.out.trans u8 (fun b _ h => ⟨h.1, fun g => h.2 (Or.inl g)⟩)
            have S8 : Hid (TSt w8 base tb cm kb pb cb (fun b => X b ∨ b = nb) (aset M id ⟨⟨son, sbc, soi, soo, snl, srd, sps⟩, ccg⟩) most L n (fun t i => (P t i ∧ i ≠ id) ∨ (t ∈ sps.take 0 ∧ i = id)) (N + 0)) := s8.congr (fun t i => by simp)
            have N8 := Lib.hid n8
            clear y0 y1 y2 y3 y4 y5 y6 y7 y8 y9 g0 g1 g2 g3 g4 g5 g6 g7 g8 xb x0 x1 x2 hnt htb htb' hnt' PD K7 N7 U8 u8 kc8 s8
            obtain ⟨g0, g1, g2, g3, g4, g5, g6, g7, g8⟩ := mode_facts N8.out
            clear n8
            go_wp2
            go_loopw [70] (fun x70 wr => ∃ (k : Nat), k ≤ sn ∧ x70 = .int .i64 (k : Int) ∧ Hid (TSt wr base tb cm kb pb cb (fun b => X b ∨ b = nb) (aset M id ⟨⟨son, sbc, soi, soo, snl, srd, sps⟩, ccg⟩) most L n (fun t i => (P t i ∧ i ≠ id) ∨ (t ∈ sps.take k ∧ i = id)) (N + k)) ∧ Hid (Blk wr (cb id) (clc ⟨⟨son, sbc, soi, soo, snl, srd, sps⟩, ccg⟩ (.slice p5 sn c5)) 98) ∧ Hid (Blk wr nb [.bool son, .bool sbc, .bool soi, .bool soo, .bool snl, .int .i64 srd, .slice p5 sn c5] 32) ∧ Hid (Upd (Fr base X) w wr)) (fun x70 _ => sn - (intOf x70).toNat)
            case atStart => exact ⟨0, by omega, rfl, S8, K8, N8, UW⟩
            case round =>
              clear S8 K8 N8 UW g0 g1 g2 g3 g4 g5 g6 g7 g8
              obtain ⟨k, hk, rfl, S8, K8, N8, UW⟩ := hrel
              by_cases hlt : k < sn
              · have q9 : (k : Int) < (sn : Int) := by omega
                have hkl : k < sps.length := by rw [← SN.out]; exact hlt
                have tt := S8.out.clEq HC1.out K8.out
                dsimp only at tt
                rw [SN.out] at tt
                obtain ⟨g, eg, hg, ck⟩ := txts_get tt hkl
                subst eg
                obtain ⟨xb, x0, x1, x2⟩ := S8.out.facts
                obtain ⟨t, ht⟩ : ∃ t, t = sps[k] := ⟨_, rfl⟩
                rw [← ht] at ck
                have PA := Lib.hid (S8.out.paddC t id (by omega) (by have := RS.out t (by rw [ht]; exact List.getElem_mem hkl); omega))
                have PE : Hid (∀ t' i, ((P t' i ∧ i ≠ id) ∨ (t' ∈ sps.take k ∧ i = id)) ∨ t' = t ∧ i = id ↔ (P t' i ∧ i ≠ id) ∨ (t' ∈ sps.take (k + 1) ∧ i = id)) := fun t' i => by
                  rw [List.take_succ_eq_append_getElem hkl, ← ht, List.mem_append, List.mem_singleton]
                  constructor
                  · rintro ((h | ⟨h1, h2⟩) | ⟨h1, h2⟩)
                    · exact Or.inl h
                    · exact Or.inr ⟨Or.inl h1, h2⟩
                    · exact Or.inr ⟨Or.inr h1, h2⟩
                  · rintro (h | ⟨h1 | h1, h2⟩)
                    · exact Or.inl (Or.inl h)
                    · exact Or.inl (Or.inr ⟨h1, h2⟩)
                    · exact Or.inr ⟨h1, h2⟩
                clear ht hkl tt
                generalize ofL t = st at *
                go_wp2_with fail
                refine PA.out.mono ?_
                rintro e w9 ⟨⟨q10, rfl⟩, s9, u9, kc9⟩
                have S9 : Hid (TSt w9 base tb cm kb pb cb (fun b => X b ∨ b = nb) (aset M id ⟨⟨son, sbc, soi, soo, snl, srd, sps⟩, ccg⟩) most L n (fun t i => (P t i ∧ i ≠ id) ∨ (t ∈ sps.take (k + 1) ∧ i = id)) (N + (k + 1))) := s9.congr PE.out
                have K9 := Lib.hid (kc9 id _ _ HC1.out K8.out)
                have N9 := Lib.hid (u9.blk N8.out (fun h => h.2 (Or.inr rfl)))
                have U9 : Hid (Upd (Fr base X) w w9) := UW.out.trans u9 (fun b _ h => ⟨h.1, fun g => h.2 (Or.inl g)⟩)
                clear s9 u9 kc9 PA PE S8 K8 N8 UW ck hg xb x0 x1 x2
                go_wp2
                go_roundw
                case rel => exact ⟨k + 1, by omega, by go_num, S9, K9, N9, U9⟩
                case measure => simp [intOf]; omega
              · have q9 : ¬ (k : Int) < (sn : Int) := by omega
                have ek : sps.take k = sps := List.take_of_length_le (by rw [← SN.out]; omega)
                rw [ek] at S8
                have S9 : Hid (TSt wr base tb cm kb pb cb X (aset M id ⟨⟨son, sbc, soi, soo, snl, srd, sps⟩, ccg⟩) most L n (fun t i => (P t i ∧ i ≠ id) ∨ (t ∈ sps ∧ i = id)) (N + 32)) := (S8.out.more (Nat.le_refl _) (by omega)).less (fun b hb => Or.inl hb)
                obtain ⟨g0, g1, g2, g3, g4, g5, g6, g7, g8⟩ := mode_facts N8.out
                obtain ⟨xb, x0, x1, x2⟩ := S9.out.facts
                clear S8 ek RS
                cases son with
                | true =>
                  go_wp2
                  go_ret
                  rw [R.out]
                  exact ⟨rfl, S9.out, UW.out⟩
                | false =>
                  have KD := Lib.hid (S9.out.kdrop (by omega) id)
                  go_wp2_with fail
                  refine KD.out.mono ?_
                  rintro e w9 ⟨⟨q10, rfl⟩, s9, u9⟩
                  obtain ⟨v9, hb9, ht9, _, _, _⟩ := s9.cl HC1.out
                  obtain ⟨y0, y1, _, _, _, _, _, _, _, y9⟩ := cl_facts hb9
                  have u10 : Upd (fun b => b = cb id) w9 (w9.setCell ⟨cb id, 7, none⟩ (.int .i64 0)) := (Upd.refl (fun b => b = cb id) w9).set (fun _ => rfl)
                  have s10 := s9.clSet (Y := X) (c' := ⟨⟨false, sbc, soi, soo, snl, srd, sps⟩, 0⟩) (v' := v9) HC1.out hb9 u10 (hb9.set 7 (.int .i64 0)) (own_keep ht9 u10 (fun b hb2 e => by
                    obtain ⟨_, _, cs, hs⟩ := txts_blkT ht9 hb2
                    subst e
                    exact absurd (hb9.ty hs) (by decide))) RT.out (Or.inl rfl) (fun b hb2 => ⟨hb2, Or.inl rfl⟩)
                  have U10 : Hid (Upd (Fr base X) w (w9.setCell ⟨cb id, 7, none⟩ (.int .i64 0))) := (UW.out.trans u9 (fun _ _ h => h)).trans (s9.frc HC1.out u10) (fun _ _ h => h)
                  rw [aset_aset] at s10
                  have S10 := Lib.hid s10
                  clear s10 u10 hb9 ht9 s9 u9 KD S9 UW N8 K8 g0 g1 g2 g3 g4 g5 g6 g7 g8 xb x0 x1 x2
                  go_wp2
                  go_ret
                  rw [R.out]
                  exact ⟨rfl, S10.out, U10.out⟩
          · have R := Lib.hid (RR.out.trans (if_pos hs0))
            have q9 : (serr != 0) = true := bne_iff_ne.2 hs0
            have S6 : Hid (TSt W base tb cm kb pb cb X M most L n P (N + 32)) := (s6.more (Nat.le_refl _) (Nat.le_add_right N 32)).less (fun b hb => Or.inl (Or.inl hb))
            have U6 := Lib.hid u6
            clear s6 t6 n6 k6 u6 o6 RR hs0
            go_wp2
            go_ret
            rw [R.out]
            exact ⟨rfl, S6.out, U6.out⟩
        case' hKRa7 =>
          go_simp
          have zz := SF.out _ (((Upd.refl _ w3).drew).alloc (.cells #[.bool false, .bool false, .bool false, .bool false, .bool false, .int .i64 0, .slice none 0 0] 32))
          refine hK.out _ _ ?_ (fun hHeld => ?_)
          · (first | with_reducible exact zz | ((try dsimp only); go_keep))
          clear hK K
          try simp only [Act.put, List.setIfInBounds_toArray, List.set_cons_zero, List.set_cons_succ]
          refine wpAnyH_ready (rs := [5]) (by kernel_rfl) (by simp) ?_
          refine' AllReadyH.cons (o := _) ?hiRa14 (fun K hK => ?hKRa14) AllReadyH.nil
          case' hiRa14 => (first | (simp only [List.getElem?_toArray, List.getElem?_cons_succ, List.getElem?_cons_zero]; done) | (simp only [List.getElem?_toArray, List.getElem?_cons_succ, List.getElem?_cons_zero]; rfl))
          go_simp
          (go_at_call 45; refine (SW.out _ (((Upd.refl _ _).drew).alloc _)).mono ?_; rintro e w5 ⟨p5, c5, rfl, r5⟩; obtain ⟨z5, f5⟩ := r5.out.2.2; have bn := r5.out.1.1.blk NB.out (fun h => h); obtain ⟨q0, q1, q2, q3, q4, q5, q6, q7, q8⟩ := mode_facts bn; have BN := Lib.hid bn; clear bn)
          refine hK.out _ _ ?_ (fun hHeld => ?_)
          · (first | with_reducible exact zz | ((try dsimp only); go_keep))
          clear hK K
          try simp only [Act.put, List.setIfInBounds_toArray, List.set_cons_zero, List.set_cons_succ]
          refine' wpAnyH_take (i := 6) (oi := _) (v := _) ?hiRa15 (by kernel_rfl) (by kernel_rfl) (by kernel_rfl) ?hQRa15 ?hyRa15 (by assumption) ?restRa15
          case' hiRa15 => (first | (simp only [List.getElem?_toArray, List.getElem?_cons_succ, List.getElem?_cons_zero]; done) | (simp only [List.getElem?_toArray, List.getElem?_cons_succ, List.getElem?_cons_zero]; rfl))
          case' hQRa15 => exact fun _ _ _ h => h
          case' hyRa15 => refine Or.inl ⟨by rfl, ?_⟩
          (intro w hSw; (try dsimp only at hSw); go_simp; try with_reducible rfl)
          try simp only [Act.put, List.setIfInBounds_toArray, List.set_cons_zero, List.set_cons_succ]
          refine' wpAnyH_take (i := 7) (oi := _) (v := _) ?hiRa16 (by kernel_rfl) (by kernel_rfl) (by kernel_rfl) ?hQRa16 ?hyRa16 (by assumption) ?restRa16
          case' hiRa16 => (first | (simp only [List.getElem?_toArray, List.getElem?_cons_succ, List.getElem?_cons_zero]; done) | (simp only [List.getElem?_toArray, List.getElem?_cons_succ, List.getElem?_cons_zero]; rfl))
          case' hQRa16 => exact fun _ _ _ h => h
          case' hyRa16 => refine Or.inl ⟨by rfl, ?_⟩
          (intro w hSw; (try dsimp only at hSw); go_simp; try with_reducible rfl)
          try simp only [Act.put, List.setIfInBounds_toArray, List.set_cons_zero, List.set_cons_succ]
          refine' wpAnyH_take (i := 8) (oi := _) (v := _) ?hiRa17 (by kernel_rfl) (by kernel_rfl) (by kernel_rfl) ?hQRa17 ?hyRa17 (by assumption) ?restRa17
          case' hiRa17 => (first | (simp only [List.getElem?_toArray, List.getElem?_cons_succ, List.getElem?_cons_zero]; done) | (simp only [List.getElem?_toArray, List.getElem?_cons_succ, List.getElem?_cons_zero]; rfl))
          case' hQRa17 => exact fun _ _ _ h => h
          case' hyRa17 => refine Or.inl ⟨by rfl, ?_⟩
          (intro w hSw; (try dsimp only at hSw); go_simp; try with_reducible rfl)
          try simp only [Act.put, List.setIfInBounds_toArray, List.set_cons_zero, List.set_cons_succ]
          refine wpAnyH_ready (rs := [10]) (by kernel_rfl) (by simp) ?_
          refine' AllReadyH.cons (o := _) ?hiRa18 (fun K hK => ?hKRa18) AllReadyH.nil
          case' hiRa18 => (first | (simp only [List.getElem?_toArray, List.getElem?_cons_succ, List.getElem?_cons_zero]; done) | (simp only [List.getElem?_toArray, List.getElem?_cons_succ, List.getElem?_cons_zero]; rfl))
          go_simp
          (have zz := SG.out w5 _ r5.out.1.2 (setM_upd (b := w3.heap.size) (a0 := .bool son) (a1 := .bool sbc) (a2 := .bool soi) (a3 := .bool soo) (a4 := .bool snl) (a5 := .int .i64 srd) (a6 := .slice p5 sn c5) (Upd.refl (fun b => b = w3.heap.size) w5) (fun _ => rfl))); unfold setM at zz
          refine hK.out _ _ ?_ (fun hHeld => ?_)
          · (first | with_reducible exact zz | ((try dsimp only); go_keep))
          clear hK K
          try simp only [Act.put, List.setIfInBounds_toArray, List.set_cons_zero, List.set_cons_succ]
          refine' wpAnyH_take (i := 11) (oi := _) (v := _) ?hiRa19 (by kernel_rfl) (by kernel_rfl) (by kernel_rfl) ?hQRa19 ?hyRa19 (by assumption) ?restRa19
          case' hiRa19 => (first | (simp only [List.getElem?_toArray, List.getElem?_cons_succ, List.getElem?_cons_zero]; done) | (simp only [List.getElem?_toArray, List.getElem?_cons_succ, List.getElem?_cons_zero]; rfl))
          case' hQRa19 => exact fun _ _ _ h => h
          case' hyRa19 => refine Or.inl ⟨by rfl, ?_⟩
          (intro w hSw; (try dsimp only at hSw); go_simp; try with_reducible rfl)
          try simp only [Act.put, List.setIfInBounds_toArray, List.set_cons_zero, List.set_cons_succ]
          refine wpAnyH_done (by kernel_rfl) ?_ _
          have bF := setM_blk (a0 := .bool son) (a1 := .bool sbc) (a2 := .bool soi) (a3 := .bool soo) (a4 := .bool snl) (a5 := .int .i64 srd) (a6 := .slice p5 sn c5) BN.out
          have uF := setM_upd (b := w3.heap.size) (a0 := .bool son) (a1 := .bool sbc) (a2 := .bool soi) (a3 := .bool soo) (a4 := .bool snl) (a5 := .int .i64 srd) (a6 := .slice p5 sn c5) (Upd.refl (fun b => b = w3.heap.size) w5) (fun _ => rfl)
          have r6 := AFT.out w5 w3.heap.size _ p5 c5 ⟨r5.out.1.2, r5.out.2.1⟩ bF uF (Nat.le_refl _) (Nat.lt_of_lt_of_le q0 uF.size) (fun b hb e => by obtain ⟨_, _, cs, hs⟩ := own_lt r5.out.2.1 hb; subst e; exact ty_ne (BN.out.ty hs))
          unfold setM at r6
          clear z5 f5 r5 hHeld bF uF SW NB AFT BN y0 y1 y2 y3 y4 y5 y6 y7 y8 y9 q0 q1 q2 q3 q4 q5 q6 q7 q8
          generalize hW : (((((((w5).setCell ⟨w3.heap.size, 0, none⟩ (.bool son)).setCell ⟨w3.heap.size, 1, none⟩ (.bool sbc)).setCell ⟨w3.heap.size, 2, none⟩ (.bool soi)).setCell ⟨w3.heap.size, 3, none⟩ (.bool soo)).setCell ⟨w3.heap.size, 4, none⟩ (.bool snl)).setCell ⟨w3.heap.size, 5, none⟩ (.int .i64 srd)).setCell ⟨w3.heap.size, 6, none⟩ (.slice p5 sn c5) = W at *
          generalize w3.heap.size = nb at *
          clear hW
          obtain ⟨s6, t6, n6, k6, u6, o6⟩ := r6
          by_cases hs0 : serr = 0
          · subst hs0
            have R := Lib.hid (RR.out.trans (if_neg (fun g => g rfl)))
            have RT := SWR.out rfl
            obtain ⟨rl, rs⟩ := right_ps RT
            dsimp only at rl rs
            have u7 : Upd (fun b => b = cb id) W ((((((((W).setCell ⟨cb id, 0, none⟩ (.bool son)).setCell ⟨cb id, 1, none⟩ (.bool sbc)).setCell ⟨cb id, 2, none⟩ (.bool soi)).setCell ⟨cb id, 3, none⟩ (.bool soo)).setCell ⟨cb id, 4, none⟩ (.bool snl)).setCell ⟨cb id, 5, none⟩ (.int .i64 srd)).setCell ⟨cb id, 6, none⟩ (.slice p5 sn c5)) := setM_upd (Upd.refl (fun b => b = cb id) W) (fun _ => rfl)
            have k7 : Blk ((((((((W).setCell ⟨cb id, 0, none⟩ (.bool son)).setCell ⟨cb id, 1, none⟩ (.bool sbc)).setCell ⟨cb id, 2, none⟩ (.bool soi)).setCell ⟨cb id, 3, none⟩ (.bool soo)).setCell ⟨cb id, 4, none⟩ (.bool snl)).setCell ⟨cb id, 5, none⟩ (.int .i64 srd)).setCell ⟨cb id, 6, none⟩ (.slice p5 sn c5)) (cb id) (clc ⟨⟨son, sbc, soi, soo, snl, srd, sps⟩, ccg⟩ (.slice p5 sn c5)) 98 := ((((((k6.set 0 _).set 1 _).set 2 _).set 3 _).set 4 _).set 5 _).set 6 _
            have hnt : nb ≠ cb id := fun e => absurd (n6.ty (e ▸ k6)) (by decide)
            have htb : tb ≠ cb id := fun e => absurd (s6.blk.ty (e ▸ k6)) (by decide)
            have htb' := Ne.symm htb
            have hnt' := Ne.symm hnt
            have s7 := s6.clSet (Y := fun b => X b ∨ b = nb) (c := ⟨⟨con, cbc, coi, coo, cnl, crd, cps⟩, ccg⟩) (c' := ⟨⟨son, sbc, soi, soo, snl, srd, sps⟩, ccg⟩) (v := .slice cp cn cc) HC.out k6 u7 k7 (own_keep t6 u7 (fun b hb e => by
              obtain ⟨_, _, cs, hs⟩ := txts_blkT t6 hb
              subst e
              exact absurd (k6.ty hs) (by decide))) RT (Or.inr (fun b hb => Or.inr hb)) (fun b hb => ⟨Or.inl hb, Or.inr (o6 b hb)⟩)
            have n7 := u7.blk n6 hnt
            have u8 : Upd (Fr base X) w ((((((((W).setCell ⟨cb id, 0, none⟩ (.bool son)).setCell ⟨cb id, 1, none⟩ (.bool sbc)).setCell ⟨cb id, 2, none⟩ (.bool soi)).setCell ⟨cb id, 3, none⟩ (.bool soo)).setCell ⟨cb id, 4, none⟩ (.bool snl)).setCell ⟨cb id, 5, none⟩ (.int .i64 srd)).setCell ⟨cb id, 6, none⟩ (.slice p5 sn c5)) := u6.trans (s6.frc HC.out u7) (fun b _ h => ⟨h.1, fun g => h.2 (Or.inl (Or.inl g))⟩)
            obtain ⟨xb, x0, x1, x2⟩ := s6.facts
            obtain ⟨g0, g1, g2, g3, g4, g5, g6, g7, g8⟩ := mode_facts n6
            obtain ⟨y0, y1, y2, y3, y4, y5, y6, y7, y8, y9⟩ := cl_facts (c := ⟨⟨con, cbc, coi, coo, cnl, crd, cps⟩, ccg⟩) (v := .slice cp cn cc) k6
            dsimp only at y2 y3 y4 y5 y6 y7 y9
            have PD := Lib.hid (s7.pdropC id (by omega))
            have HC1 : Hid (aget (aset M id ⟨⟨son, sbc, soi, soo, snl, srd, sps⟩, ccg⟩) id = some ⟨⟨son, sbc, soi, soo, snl, srd, sps⟩, ccg⟩) := by show _ = _; rw [aget_aset, if_pos rfl]
            have K7 := Lib.hid k7
            have N7 := Lib.hid n7
            have U8 := Lib.hid u8
            have RT := Lib.hid RT
            have RS := Lib.hid rs
            have RL : sn ≤ 32 := by have := SN.out; omega
            clear s6 t6 n6 k6 u6 o6 u7 k7 s7 n7 u8 rl rs RR SWR
            go_wp2_with fail
            refine PD.out.mono ?_
            rintro e w8 ⟨⟨q8, rfl⟩, s8, u8, kc8⟩
            have K8 := Lib.hid (kc8 id _ _ HC1.out K7.out)
            have n8 := u8.blk N7.out (fun h => h.2 (Or.inr rfl))
            have UW : Hid (Upd (Fr base X) w w8) := U8.out.trans u8 (fun b _ h => ⟨h.1, fun g => h.2 (Or.inl g)⟩)
            have S8 : Hid (TSt w8 base tb cm kb pb cb (fun b => X b ∨ b = nb) (aset M id ⟨⟨son, sbc, soi, soo, snl, srd, sps⟩, ccg⟩) most L n (fun t i => (P t i ∧ i ≠ id) ∨ (t ∈ sps.take 0 ∧ i = id)) (N + 0)) := s8.congr (fun t i => by simp)
            have N8 := Lib.hid n8
            clear y0 y1 y2 y3 y4 y5 y6 y7 y8 y9 g0 g1 g2 g3 g4 g5 g6 g7 g8 xb x0 x1 x2 hnt htb htb' hnt' PD K7 N7 U8 u8 kc8 s8
            obtain ⟨g0, g1, g2, g3, g4, g5, g6, g7, g8⟩ := mode_facts N8.out
            clear n8
            go_wp2
            go_loopw [70] (fun x70 wr => ∃ (k : Nat), k ≤ sn ∧ x70 = .int .i64 (k : Int) ∧ Hid (TSt wr base tb cm kb pb cb (fun b => X b ∨ b = nb) (aset M id ⟨⟨son, sbc, soi, soo, snl, srd, sps⟩, ccg⟩) most L n (fun t i => (P t i ∧ i ≠ id) ∨ (t ∈ sps.take k ∧ i = id)) (N + k)) ∧ Hid (Blk wr (cb id) (clc ⟨⟨son, sbc, soi, soo, snl, srd, sps⟩, ccg⟩ (.slice p5 sn c5)) 98) ∧ Hid (Blk wr nb [.bool son, .bool sbc, .bool soi, .bool soo, .bool snl, .int .i64 srd, .slice p5 sn c5] 32) ∧ Hid (Upd (Fr base X) w wr)) (fun x70 _ => sn - (intOf x70).toNat)
            case atStart => exact ⟨0, by omega, rfl, S8, K8, N8, UW⟩
            case round =>
              clear S8 K8 N8 UW g0 g1 g2 g3 g4 g5 g6 g7 g8
              obtain ⟨k, hk, rfl, S8, K8, N8, UW⟩ := hrel
              by_cases hlt : k < sn
              · have q9 : (k : Int) < (sn : Int) := by omega
                have hkl : k < sps.length := by rw [← SN.out]; exact hlt
                have tt := S8.out.clEq HC1.out K8.out
                dsimp only at tt
                rw [SN.out] at tt
                obtain ⟨g, eg, hg, ck⟩ := txts_get tt hkl
                subst eg
                obtain ⟨xb, x0, x1, x2⟩ := S8.out.facts
                obtain ⟨t, ht⟩ : ∃ t, t = sps[k] := ⟨_, rfl⟩
                rw [← ht] at ck
                have PA := Lib.hid (S8.out.paddC t id (by omega) (by have := RS.out t (by rw [ht]; exact List.getElem_mem hkl); omega))
                have PE : Hid (∀ t' i, ((P t' i ∧ i ≠ id) ∨ (t' ∈ sps.take k ∧ i = id)) ∨ t' = t ∧ i = id ↔ (P t' i ∧ i ≠ id) ∨ (t' ∈ sps.take (k + 1) ∧ i = id)) := fun t' i => by
                  rw [List.take_succ_eq_append_getElem hkl, ← ht, List.mem_append, List.mem_singleton]
                  constructor
                  · rintro ((h | ⟨h1, h2⟩) | ⟨h1, h2⟩)
                    · exact Or.inl h
                    · exact Or.inr ⟨Or.inl h1, h2⟩
                    · exact Or.inr ⟨Or.inr h1, h2⟩
                  · rintro (h | ⟨h1 | h1, h2⟩)
                    · exact Or.inl (Or.inl h)
                    · exact Or.inl (Or.inr ⟨h1, h2⟩)
                    · exact Or.inr ⟨h1, h2⟩
                clear ht hkl tt
                generalize ofL t = st at *
                go_wp2_with fail
                refine PA.out.mono ?_
                rintro e w9 ⟨⟨q10, rfl⟩, s9, u9, kc9⟩
                have S9 : Hid (TSt w9 base tb cm kb pb cb (fun b => X b ∨ b = nb) (aset M id ⟨⟨son, sbc, soi, soo, snl, srd, sps⟩, ccg⟩) most L n (fun t i => (P t i ∧ i ≠ id) ∨ (t ∈ sps.take (k + 1) ∧ i = id)) (N + (k + 1))) := s9.congr PE.out
                have K9 := Lib.hid (kc9 id _ _ HC1.out K8.out)
                have N9 := Lib.hid (u9.blk N8.out (fun h => h.2 (Or.inr rfl)))
                have U9 : Hid (Upd (Fr base X) w w9) := UW.out.trans u9 (fun b _ h => ⟨h.1, fun g => h.2 (Or.inl g)⟩)
                clear s9 u9 kc9 PA PE S8 K8 N8 UW ck hg xb x0 x1 x2
                go_wp2
                go_roundw
                case rel => exact ⟨k + 1, by omega, by go_num, S9, K9, N9, U9⟩
                case measure => simp [intOf]; omega
              · have q9 : ¬ (k : Int) < (sn : Int) := by omega
                have ek : sps.take k = sps := List.take_of_length_le (by rw [← SN.out]; omega)
                rw [ek] at S8
                have S9 : Hid (TSt wr base tb cm kb pb cb X (aset M id ⟨⟨son, sbc, soi, soo, snl, srd, sps⟩, ccg⟩) most L n (fun t i => (P t i ∧ i ≠ id) ∨ (t ∈ sps ∧ i = id)) (N + 32)) := (S8.out.more (Nat.le_refl _) (by omega)).less (fun b hb => Or.inl hb)
                obtain ⟨g0, g1, g2, g3, g4, g5, g6, g7, g8⟩ := mode_facts N8.out
                obtain ⟨xb, x0, x1, x2⟩ := S9.out.facts
                clear S8 ek RS
                cases son with
                | true =>
                  go_wp2
                  go_ret
                  rw [R.out]
                  exact ⟨rfl, S9.out, UW.out⟩
                | false =>
                  have KD := Lib.hid (S9.out.kdrop (by omega) id)
                  go_wp2_with fail
                  refine KD.out.mono ?_
                  rintro e w9 ⟨⟨q10, rfl⟩, s9, u9⟩
                  obtain ⟨v9, hb9, ht9, _, _, _⟩ := s9.cl HC1.out
                  obtain ⟨y0, y1, _, _, _, _, _, _, _, y9⟩ := cl_facts hb9
                  have u10 : Upd (fun b => b = cb id) w9 (w9.setCell ⟨cb id, 7, none⟩ (.int .i64 0)) := (Upd.refl (fun b => b = cb id) w9).set (fun _ => rfl)
                  have s10 := s9.clSet (Y := X) (c' := ⟨⟨false, sbc, soi, soo, snl, srd, sps⟩, 0⟩) (v' := v9) HC1.out hb9 u10 (hb9.set 7 (.int .i64 0)) (own_keep ht9 u10 (fun b hb2 e => by
                    obtain ⟨_, _, cs, hs⟩ := txts_blkT ht9 hb2
                    subst e
                    exact absurd (hb9.ty hs) (by decide))) RT.out (Or.inl rfl) (fun b hb2 => ⟨hb2, Or.inl rfl⟩)
                  have U10 : Hid (Upd (Fr base X) w (w9.setCell ⟨cb id, 7, none⟩ (.int .i64 0))) := (UW.out.trans u9 (fun _ _ h => h)).trans (s9.frc HC1.out u10) (fun _ _ h => h)
                  rw [aset_aset] at s10
                  have S10 := Lib.hid s10
                  clear s10 u10 hb9 ht9 s9 u9 KD S9 UW N8 K8 g0 g1 g2 g3 g4 g5 g6 g7 g8 xb x0 x1 x2
                  go_wp2
                  go_ret
                  rw [R.out]
                  exact ⟨rfl, S10.out, U10.out⟩
          · have R := Lib.hid (RR.out.trans (if_pos hs0))
            have q9 : (serr != 0) = true := bne_iff_ne.2 hs0
            have S6 : Hid (TSt W base tb cm kb pb cb X M most L n P (N + 32)) := (s6.more (Nat.le_refl _) (Nat.le_add_right N 32)).less (fun b hb => Or.inl (Or.inl hb))
            have U6 := Lib.hid u6
            clear s6 t6 n6 k6 u6 o6 RR hs0
            go_wp2
            go_ret
            rw [R.out]
            exact ⟨rfl, S6.out, U6.out⟩
      · have qr : (rd != 0) = true := bne_iff_ne.2 h0
        by_cases hi : rd = id
        · subst hi
          have R := Lib.hid (RR.out.trans (if_pos ⟨h0, Or.inl rfl⟩))
          clear H2 RR h0
          go_wp2_with fail
          refine wp_region_held_drew (S := (fun w' => w'.cell? ⟨w.heap.size, 5, none⟩ = some (.int .i64 rd) ∧ w'.cell? ⟨tb, 0, none⟩ = some (.map (some cm)) ∧ True)) (by kernel_rfl) ?_ (fun hHeld => ?_)
          · (try dsimp only); go_keep
          try simp only [Array.replicate, Act.put, List.setIfInBounds_toArray]
          refine' wpAnyH_take (i := 0) (oi := _) (v := _) ?hiTb1 (by kernel_rfl) (by kernel_rfl) (by kernel_rfl) ?hQTb1 ?hyTb1 (by assumption) ?restTb1
          case' hiTb1 => (first | (simp only [List.getElem?_toArray, List.getElem?_cons_succ, List.getElem?_cons_zero]; done) | (simp only [List.getElem?_toArray, List.getElem?_cons_succ, List.getElem?_cons_zero]; rfl))
          case' hQTb1 => exact fun _ _ _ h => h
          case' hyTb1 => refine Or.inl ⟨by rfl, ?_⟩
          (intro w hSw; (try dsimp only at hSw); go_simp; try with_reducible rfl)
          try simp only [Act.put, List.setIfInBounds_toArray, List.set_cons_zero, List.set_cons_succ]
          refine' wpAnyH_take (i := 1) (oi := _) (v := _) ?hiTb2 (by kernel_rfl) (by kernel_rfl) (by kernel_rfl) ?hQTb2 ?hyTb2 (by assumption) ?restTb2
          case' hiTb2 => (first | (simp only [List.getElem?_toArray, List.getElem?_cons_succ, List.getElem?_cons_zero]; done) | (simp only [List.getElem?_toArray, List.getElem?_cons_succ, List.getElem?_cons_zero]; rfl))
          case' hQTb2 => exact fun _ _ _ h => h
          case' hyTb2 => refine Or.inl ⟨by rfl, ?_⟩
          (intro w hSw; (try dsimp only at hSw); go_simp; try with_reducible rfl)
          try simp only [Act.put, List.setIfInBounds_toArray, List.set_cons_zero, List.set_cons_succ]
          refine' wpAnyH_take (i := 2) (oi := _) (v := _) ?hiTb3 (by kernel_rfl) (by kernel_rfl) (by kernel_rfl) ?hQTb3 ?hyTb3 (by assumption) ?restTb3
          case' hiTb3 => (first | (simp only [List.getElem?_toArray, List.getElem?_cons_succ, List.getElem?_cons_zero]; done) | (simp only [List.getElem?_toArray, List.getElem?_cons_succ, List.getElem?_cons_zero]; rfl))
          case' hQTb3 => exact fun _ _ _ h => h
          case' hyTb3 => refine Or.inl ⟨by rfl, ?_⟩
          (intro w hSw; (try dsimp only at hSw); go_simp; try with_reducible rfl)
          try simp only [Act.put, List.setIfInBounds_toArray, List.set_cons_zero, List.set_cons_succ]
          refine' wpAnyH_take (i := 3) (oi := _) (v := _) ?hiTb4 (by kernel_rfl) (by kernel_rfl) (by kernel_rfl) ?hQTb4 ?hyTb4 (by assumption) ?restTb4
          case' hiTb4 => (first | (simp only [List.getElem?_toArray, List.getElem?_cons_succ, List.getElem?_cons_zero]; done) | (simp only [List.getElem?_toArray, List.getElem?_cons_succ, List.getElem?_cons_zero]; rfl))
          case' hQTb4 => exact fun _ _ _ h => h
          case' hyTb4 => refine Or.inl ⟨by rfl, ?_⟩
          (intro w hSw; (try dsimp only at hSw); go_simp; try with_reducible rfl)
          try simp only [Act.put, List.setIfInBounds_toArray, List.set_cons_zero, List.set_cons_succ]
          refine' wpAnyH_take (i := 4) (oi := _) (v := _) ?hiTb5 (by kernel_rfl) (by kernel_rfl) (by kernel_rfl) ?hQTb5 ?hyTb5 (by assumption) ?restTb5
          case' hiTb5 => (first | (simp only [List.getElem?_toArray, List.getElem?_cons_succ, List.getElem?_cons_zero]; done) | (simp only [List.getElem?_toArray, List.getElem?_cons_succ, List.getElem?_cons_zero]; rfl))
          case' hQTb5 => exact fun _ _ _ h => h
          case' hyTb5 => refine Or.inl ⟨by rfl, ?_⟩
          (intro w hSw; (try dsimp only at hSw); go_simp; try with_reducible rfl)
          try simp only [Act.put, List.setIfInBounds_toArray, List.set_cons_zero, List.set_cons_succ]
          refine' wpAnyH_take (i := 5) (oi := _) (v := _) ?hiTb6 (by kernel_rfl) (by kernel_rfl) (by kernel_rfl) ?hQTb6 ?hyTb6 (by assumption) ?restTb6
          case' hiTb6 => (first | (simp only [List.getElem?_toArray, List.getElem?_cons_succ, List.getElem?_cons_zero]; done) | (simp only [List.getElem?_toArray, List.getElem?_cons_succ, List.getElem?_cons_zero]; rfl))
          case' hQTb6 => exact fun _ _ _ h => h
          case' hyTb6 => refine Or.inl ⟨by rfl, ?_⟩
          (intro w hSw; (try dsimp only at hSw); go_simp; try with_reducible rfl)
          try simp only [Act.put, List.setIfInBounds_toArray, List.set_cons_zero, List.set_cons_succ]
          refine' wpAnyH_take (i := 6) (oi := _) (v := _) ?hiTb7 (by kernel_rfl) (by kernel_rfl) (by kernel_rfl) ?hQTb7 ?hyTb7 (by assumption) ?restTb7
          case' hiTb7 => (first | (simp only [List.getElem?_toArray, List.getElem?_cons_succ, List.getElem?_cons_zero]; done) | (simp only [List.getElem?_toArray, List.getElem?_cons_succ, List.getElem?_cons_zero]; rfl))
          case' hQTb7 => exact fun _ _ _ h => h
          case' hyTb7 => refine Or.inl ⟨by rfl, ?_⟩
          (intro w hSw; (try dsimp only at hSw); go_simp; try with_reducible rfl)
          try simp only [Act.put, List.setIfInBounds_toArray, List.set_cons_zero, List.set_cons_succ]
          refine' wpAnyH_take (i := 7) (oi := _) (v := _) ?hiTb8 (by kernel_rfl) (by kernel_rfl) (by kernel_rfl) ?hQTb8 ?hyTb8 (by assumption) ?restTb8
          case' hiTb8 => (first | (simp only [List.getElem?_toArray, List.getElem?_cons_succ, List.getElem?_cons_zero]; done) | (simp only [List.getElem?_toArray, List.getElem?_cons_succ, List.getElem?_cons_zero]; rfl))
          case' hQTb8 => exact fun _ _ _ h => h
          case' hyTb8 => refine Or.inl ⟨by rfl, ?_⟩
          (intro w hSw; (try dsimp only at hSw); go_simp; try with_reducible rfl)
          try simp only [Act.put, List.setIfInBounds_toArray, List.set_cons_zero, List.set_cons_succ]
          refine' wpAnyH_take (i := 8) (oi := _) (v := _) ?hiTb9 (by kernel_rfl) (by kernel_rfl) (by kernel_rfl) ?hQTb9 ?hyTb9 (by assumption) ?restTb9
          case' hiTb9 => (first | (simp only [List.getElem?_toArray, List.getElem?_cons_succ, List.getElem?_cons_zero]; done) | (simp only [List.getElem?_toArray, List.getElem?_cons_succ, List.getElem?_cons_zero]; rfl))
          case' hQTb9 => exact fun _ _ _ h => h
          case' hyTb9 => refine Or.inl ⟨by rfl, ?_⟩
          (intro w hSw; (try dsimp only at hSw); go_simp; try with_reducible rfl)
          try simp only [Act.put, List.setIfInBounds_toArray, List.set_cons_zero, List.set_cons_succ]
          refine' wpAnyH_take (i := 9) (oi := _) (v := undef) ?hiTb10 (by kernel_rfl) (by kernel_rfl) (by kernel_rfl) ?hQTb10 ?hyTb10 (by assumption) ?restTb10
          case' hiTb10 => (first | (simp only [List.getElem?_toArray, List.getElem?_cons_succ, List.getElem?_cons_zero]; done) | (simp only [List.getElem?_toArray, List.getElem?_cons_succ, List.getElem?_cons_zero]; rfl))
          case' hQTb10 => exact fun _ _ _ h => h
          case' hyTb10 => exact Or.inr ⟨by rfl, rfl⟩
          try simp only [Act.put, List.setIfInBounds_toArray, List.set_cons_zero, List.set_cons_succ]
          refine' wpAnyH_take (i := 10) (oi := _) (v := undef) ?hiTb11 (by kernel_rfl) (by kernel_rfl) (by kernel_rfl) ?hQTb11 ?hyTb11 (by assumption) ?restTb11
          case' hiTb11 => (first | (simp only [List.getElem?_toArray, List.getElem?_cons_succ, List.getElem?_cons_zero]; done) | (simp only [List.getElem?_toArray, List.getElem?_cons_succ, List.getElem?_cons_zero]; rfl))
          case' hQTb11 => exact fun _ _ _ h => h
          case' hyTb11 => exact Or.inr ⟨by rfl, rfl⟩
          try simp only [Act.put, List.setIfInBounds_toArray, List.set_cons_zero, List.set_cons_succ]
          refine' wpAnyH_take (i := 11) (oi := _) (v := undef) ?hiTb12 (by kernel_rfl) (by kernel_rfl) (by kernel_rfl) ?hQTb12 ?hyTb12 (by assumption) ?restTb12
          case' hiTb12 => (first | (simp only [List.getElem?_toArray, List.getElem?_cons_succ, List.getElem?_cons_zero]; done) | (simp only [List.getElem?_toArray, List.getElem?_cons_succ, List.getElem?_cons_zero]; rfl))
          case' hQTb12 => exact fun _ _ _ h => h
          case' hyTb12 => exact Or.inr ⟨by rfl, rfl⟩
          try simp only [Act.put, List.setIfInBounds_toArray, List.set_cons_zero, List.set_cons_succ]
          refine' wpAnyH_take (i := 12) (oi := _) (v := undef) ?hiTb13 (by kernel_rfl) (by kernel_rfl) (by kernel_rfl) ?hQTb13 ?hyTb13 (by assumption) ?restTb13
          case' hiTb13 => (first | (simp only [List.getElem?_toArray, List.getElem?_cons_succ, List.getElem?_cons_zero]; done) | (simp only [List.getElem?_toArray, List.getElem?_cons_succ, List.getElem?_cons_zero]; rfl))
          case' hQTb13 => exact fun _ _ _ h => h
          case' hyTb13 => exact Or.inr ⟨by rfl, rfl⟩
          try simp only [Act.put, List.setIfInBounds_toArray, List.set_cons_zero, List.set_cons_succ]
          refine' wpAnyH_take (i := 13) (oi := _) (v := undef) ?hiTb14 (by kernel_rfl) (by kernel_rfl) (by kernel_rfl) ?hQTb14 ?hyTb14 (by assumption) ?restTb14
          case' hiTb14 => (first | (simp only [List.getElem?_toArray, List.getElem?_cons_succ, List.getElem?_cons_zero]; done) | (simp only [List.getElem?_toArray, List.getElem?_cons_succ, List.getElem?_cons_zero]; rfl))
          case' hQTb14 => exact fun _ _ _ h => h
          case' hyTb14 => exact Or.inr ⟨by rfl, rfl⟩
          try simp only [Act.put, List.setIfInBounds_toArray, List.set_cons_zero, List.set_cons_succ]
          refine' wpAnyH_take (i := 14) (oi := _) (v := undef) ?hiTb15 (by kernel_rfl) (by kernel_rfl) (by kernel_rfl) ?hQTb15 ?hyTb15 (by assumption) ?restTb15
          case' hiTb15 => (first | (simp only [List.getElem?_toArray, List.getElem?_cons_succ, List.getElem?_cons_zero]; done) | (simp only [List.getElem?_toArray, List.getElem?_cons_succ, List.getElem?_cons_zero]; rfl))
          case' hQTb15 => exact fun _ _ _ h => h
          case' hyTb15 => exact Or.inr ⟨by rfl, rfl⟩
          try simp only [Act.put, List.setIfInBounds_toArray, List.set_cons_zero, List.set_cons_succ]
          refine' wpAnyH_take (i := 15) (oi := _) (v := undef) ?hiTb16 (by kernel_rfl) (by kernel_rfl) (by kernel_rfl) ?hQTb16 ?hyTb16 (by assumption) ?restTb16
          case' hiTb16 => (first | (simp only [List.getElem?_toArray, List.getElem?_cons_succ, List.getElem?_cons_zero]; done) | (simp only [List.getElem?_toArray, List.getElem?_cons_succ, List.getElem?_cons_zero]; rfl))
          case' hQTb16 => exact fun _ _ _ h => h
          case' hyTb16 => exact Or.inr ⟨by rfl, rfl⟩
          try simp only [Act.put, List.setIfInBounds_toArray, List.set_cons_zero, List.set_cons_succ]
          refine' wpAnyH_take (i := 16) (oi := _) (v := undef) ?hiTb17 (by kernel_rfl) (by kernel_rfl) (by kernel_rfl) ?hQTb17 ?hyTb17 (by assumption) ?restTb17
          case' hiTb17 => (first | (simp only [List.getElem?_toArray, List.getElem?_cons_succ, List.getElem?_cons_zero]; done) | (simp only [List.getElem?_toArray, List.getElem?_cons_succ, List.getElem?_cons_zero]; rfl))
          case' hQTb17 => exact fun _ _ _ h => h
          case' hyTb17 => exact Or.inr ⟨by rfl, rfl⟩
          try simp only [Act.put, List.setIfInBounds_toArray, List.set_cons_zero, List.set_cons_succ]
          refine' wpAnyH_take (i := 17) (oi := _) (v := _) ?hiTb18 (by kernel_rfl) (by kernel_rfl) (by kernel_rfl) ?hQTb18 ?hyTb18 (by assumption) ?restTb18
          case' hiTb18 => (first | (simp only [List.getElem?_toArray, List.getElem?_cons_succ, List.getElem?_cons_zero]; done) | (simp only [List.getElem?_toArray, List.getElem?_cons_succ, List.getElem?_cons_zero]; rfl))
          case' hQTb18 => exact fun _ _ _ h => h
          case' hyTb18 => refine Or.inl ⟨by rfl, ?_⟩
          (intro w hSw; (try dsimp only at hSw); go_simp; try with_reducible rfl)
          try simp only [Act.put, List.setIfInBounds_toArray, List.set_cons_zero, List.set_cons_succ]
          refine' wpAnyH_take (i := 18) (oi := _) (v := _) ?hiTb19 (by kernel_rfl) (by kernel_rfl) (by kernel_rfl) ?hQTb19 ?hyTb19 (by assumption) ?restTb19
          case' hiTb19 => (first | (simp only [List.getElem?_toArray, List.getElem?_cons_succ, List.getElem?_cons_zero]; done) | (simp only [List.getElem?_toArray, List.getElem?_cons_succ, List.getElem?_cons_zero]; rfl))
          case' hQTb19 => exact fun _ _ _ h => h
          case' hyTb19 => refine Or.inl ⟨by rfl, ?_⟩
          (intro w hSw; (try dsimp only at hSw); go_simp; try with_reducible rfl)
          try simp only [Act.put, List.setIfInBounds_toArray, List.set_cons_zero, List.set_cons_succ]
          refine' wpAnyH_take (i := 19) (oi := _) (v := _) ?hiTb20 (by kernel_rfl) (by kernel_rfl) (by kernel_rfl) ?hQTb20 ?hyTb20 (by assumption) ?restTb20
          case' hiTb20 => (first | (simp only [List.getElem?_toArray, List.getElem?_cons_succ, List.getElem?_cons_zero]; done) | (simp only [List.getElem?_toArray, List.getElem?_cons_succ, List.getElem?_cons_zero]; rfl))
          case' hQTb20 => exact fun _ _ _ h => h
          case' hyTb20 => refine Or.inl ⟨by rfl, ?_⟩
          (intro w hSw; (try dsimp only at hSw); go_simp; try with_reducible rfl)
          try simp only [Act.put, List.setIfInBounds_toArray, List.set_cons_zero, List.set_cons_succ]
          refine wpAnyH_done (by kernel_rfl) ?_ _
          go_wp2
          go_ret
          rw [R.out]
          exact ⟨rfl, H3.out.more (Nat.le_refl _) (Nat.le_add_right N 32), U3.out.weaken (fun _ _ h => h.elim)⟩
        · have qi : (rd == id) = false := beq_eq_false_iff_ne.2 hi
          cases ha : aget M rd with
          | none =>
            have R := Lib.hid (RR.out.trans (if_pos ⟨h0, Or.inr ha⟩))
            have LKD := H3.out.lookN ha
            clear H2 RR h0 hi ha
            go_wp2_with fail
            refine wp_region_held_drew (S := (fun w' => w'.cell? ⟨w.heap.size, 5, none⟩ = some (.int .i64 rd) ∧ w'.cell? ⟨tb, 0, none⟩ = some (.map (some cm)) ∧ (Instr.lookup 89 (.map (some cm)) (.int .i64 rd) false).run Tryz.prog w' = .ok (.pointer none) w')) (by kernel_rfl) ?_ (fun hHeld => ?_)
            · (try dsimp only); go_keep
            try simp only [Array.replicate, Act.put, List.setIfInBounds_toArray]
            refine' wpAnyH_take (i := 0) (oi := _) (v := _) ?hiUc1 (by kernel_rfl) (by kernel_rfl) (by kernel_rfl) ?hQUc1 ?hyUc1 (by assumption) ?restUc1
            case' hiUc1 => (first | (simp only [List.getElem?_toArray, List.getElem?_cons_succ, List.getElem?_cons_zero]; done) | (simp only [List.getElem?_toArray, List.getElem?_cons_succ, List.getElem?_cons_zero]; rfl))
            case' hQUc1 => exact fun _ _ _ h => h
            case' hyUc1 => refine Or.inl ⟨by rfl, ?_⟩
            (intro w hSw; (try dsimp only at hSw); go_simp; try with_reducible rfl)
            try simp only [Act.put, List.setIfInBounds_toArray, List.set_cons_zero, List.set_cons_succ]
            refine' wpAnyH_take (i := 1) (oi := _) (v := _) ?hiUc2 (by kernel_rfl) (by kernel_rfl) (by kernel_rfl) ?hQUc2 ?hyUc2 (by assumption) ?restUc2
            case' hiUc2 => (first | (simp only [List.getElem?_toArray, List.getElem?_cons_succ, List.getElem?_cons_zero]; done) | (simp only [List.getElem?_toArray, List.getElem?_cons_succ, List.getElem?_cons_zero]; rfl))
            case' hQUc2 => exact fun _ _ _ h => h
            case' hyUc2 => refine Or.inl ⟨by rfl, ?_⟩
            (intro w hSw; (try dsimp only at hSw); go_simp; try with_reducible rfl)
            try simp only [Act.put, List.setIfInBounds_toArray, List.set_cons_zero, List.set_cons_succ]
            refine' wpAnyH_take (i := 2) (oi := _) (v := _) ?hiUc3 (by kernel_rfl) (by kernel_rfl) (by kernel_rfl) ?hQUc3 ?hyUc3 (by assumption) ?restUc3
            case' hiUc3 => (first | (simp only [List.getElem?_toArray, List.getElem?_cons_succ, List.getElem?_cons_zero]; done) | (simp only [List.getElem?_toArray, List.getElem?_cons_succ, List.getElem?_cons_zero]; rfl))
            case' hQUc3 => exact fun _ _ _ h => h
            case' hyUc3 => refine Or.inl ⟨by rfl, ?_⟩
            (intro w hSw; (try dsimp only at hSw); go_simp; try with_reducible rfl)
            try simp only [Act.put, List.setIfInBounds_toArray, List.set_cons_zero, List.set_cons_succ]
            refine' wpAnyH_take (i := 3) (oi := _) (v := _) ?hiUc4 (by kernel_rfl) (by kernel_rfl) (by kernel_rfl) ?hQUc4 ?hyUc4 (by assumption) ?restUc4
            case' hiUc4 => (first | (simp only [List.getElem?_toArray, List.getElem?_cons_succ, List.getElem?_cons_zero]; done) | (simp only [List.getElem?_toArray, List.getElem?_cons_succ, List.getElem?_cons_zero]; rfl))
            case' hQUc4 => exact fun _ _ _ h => h
            case' hyUc4 => refine Or.inl ⟨by rfl, ?_⟩
            (intro w hSw; (try dsimp only at hSw); go_simp; try with_reducible rfl)
            try simp only [Act.put, List.setIfInBounds_toArray, List.set_cons_zero, List.set_cons_succ]
            refine' wpAnyH_take (i := 4) (oi := _) (v := _) ?hiUc5 (by kernel_rfl) (by kernel_rfl) (by kernel_rfl) ?hQUc5 ?hyUc5 (by assumption) ?restUc5
            case' hiUc5 => (first | (simp only [List.getElem?_toArray, List.getElem?_cons_succ, List.getElem?_cons_zero]; done) | (simp only [List.getElem?_toArray, List.getElem?_cons_succ, List.getElem?_cons_zero]; rfl))
            case' hQUc5 => exact fun _ _ _ h => h
            case' hyUc5 => refine Or.inl ⟨by rfl, ?_⟩
            (intro w hSw; (try dsimp only at hSw); go_simp; try with_reducible rfl)
            try simp only [Act.put, List.setIfInBounds_toArray, List.set_cons_zero, List.set_cons_succ]
            refine' wpAnyH_take (i := 5) (oi := _) (v := _) ?hiUc6 (by kernel_rfl) (by kernel_rfl) (by kernel_rfl) ?hQUc6 ?hyUc6 (by assumption) ?restUc6
            case' hiUc6 => (first | (simp only [List.getElem?_toArray, List.getElem?_cons_succ, List.getElem?_cons_zero]; done) | (simp only [List.getElem?_toArray, List.getElem?_cons_succ, List.getElem?_cons_zero]; rfl))
            case' hQUc6 => exact fun _ _ _ h => h
            case' hyUc6 => refine Or.inl ⟨by rfl, ?_⟩
            (intro w hSw; (try dsimp only at hSw); go_simp; try with_reducible rfl)
            try simp only [Act.put, List.setIfInBounds_toArray, List.set_cons_zero, List.set_cons_succ]
            refine' wpAnyH_take (i := 6) (oi := _) (v := _) ?hiUc7 (by kernel_rfl) (by kernel_rfl) (by kernel_rfl) ?hQUc7 ?hyUc7 (by assumption) ?restUc7
            case' hiUc7 => (first | (simp only [List.getElem?_toArray, List.getElem?_cons_succ, List.getElem?_cons_zero]; done) | (simp only [List.getElem?_toArray, List.getElem?_cons_succ, List.getElem?_cons_zero]; rfl))
            case' hQUc7 => exact fun _ _ _ h => h
            case' hyUc7 => refine Or.inl ⟨by rfl, ?_⟩
            (intro w hSw; (try dsimp only at hSw); go_simp; try with_reducible rfl)
            try simp only [Act.put, List.setIfInBounds_toArray, List.set_cons_zero, List.set_cons_succ]
            refine' wpAnyH_take (i := 7) (oi := _) (v := _) ?hiUc8 (by kernel_rfl) (by kernel_rfl) (by kernel_rfl) ?hQUc8 ?hyUc8 (by assumption) ?restUc8
            case' hiUc8 => (first | (simp only [List.getElem?_toArray, List.getElem?_cons_succ, List.getElem?_cons_zero]; done) | (simp only [List.getElem?_toArray, List.getElem?_cons_succ, List.getElem?_cons_zero]; rfl))
            case' hQUc8 => exact fun _ _ _ h => h
            case' hyUc8 => refine Or.inl ⟨by rfl, ?_⟩
            (intro w hSw; (try dsimp only at hSw); go_simp; try with_reducible rfl)
            try simp only [Act.put, List.setIfInBounds_toArray, List.set_cons_zero, List.set_cons_succ]
            refine' wpAnyH_take (i := 8) (oi := _) (v := _) ?hiUc9 (by kernel_rfl) (by kernel_rfl) (by kernel_rfl) ?hQUc9 ?hyUc9 (by assumption) ?restUc9
            case' hiUc9 => (first | (simp only [List.getElem?_toArray, List.getElem?_cons_succ, List.getElem?_cons_zero]; done) | (simp only [List.getElem?_toArray, List.getElem?_cons_succ, List.getElem?_cons_zero]; rfl))
            case' hQUc9 => exact fun _ _ _ h => h
            case' hyUc9 => refine Or.inl ⟨by rfl, ?_⟩
            (intro w hSw; (try dsimp only at hSw); go_simp; try with_reducible rfl)
            try simp only [Act.put, List.setIfInBounds_toArray, List.set_cons_zero, List.set_cons_succ]
            refine' wpAnyH_take (i := 9) (oi := _) (v := _) ?hiUc10 (by kernel_rfl) (by kernel_rfl) (by kernel_rfl) ?hQUc10 ?hyUc10 (by assumption) ?restUc10
            case' hiUc10 => (first | (simp only [List.getElem?_toArray, List.getElem?_cons_succ, List.getElem?_cons_zero]; done) | (simp only [List.getElem?_toArray, List.getElem?_cons_succ, List.getElem?_cons_zero]; rfl))
            case' hQUc10 => exact fun _ _ _ h => h
            case' hyUc10 => refine Or.inl ⟨by rfl, ?_⟩
            (intro w hSw; (try dsimp only at hSw); go_simp; try with_reducible rfl)
            try simp only [Act.put, List.setIfInBounds_toArray, List.set_cons_zero, List.set_cons_succ]
            refine' wpAnyH_take (i := 10) (oi := _) (v := _) ?hiUc11 (by kernel_rfl) (by kernel_rfl) (by kernel_rfl) ?hQUc11 ?hyUc11 (by assumption) ?restUc11
            case' hiUc11 => (first | (simp only [List.getElem?_toArray, List.getElem?_cons_succ, List.getElem?_cons_zero]; done) | (simp only [List.getElem?_toArray, List.getElem?_cons_succ, List.getElem?_cons_zero]; rfl))
            case' hQUc11 => exact fun _ _ _ h => h
            case' hyUc11 => refine Or.inl ⟨by rfl, ?_⟩
            (intro w hSw; (try dsimp only at hSw); go_simp; try with_reducible rfl)
            try simp only [Act.put, List.setIfInBounds_toArray, List.set_cons_zero, List.set_cons_succ]
            refine' wpAnyH_take (i := 11) (oi := _) (v := _) ?hiUc12 (by kernel_rfl) (by kernel_rfl) (by kernel_rfl) ?hQUc12 ?hyUc12 (by assumption) ?restUc12
            case' hiUc12 => (first | (simp only [List.getElem?_toArray, List.getElem?_cons_succ, List.getElem?_cons_zero]; done) | (simp only [List.getElem?_toArray, List.getElem?_cons_succ, List.getElem?_cons_zero]; rfl))
            case' hQUc12 => exact fun _ _ _ h => h
            case' hyUc12 => refine Or.inl ⟨by rfl, ?_⟩
            (intro w hSw; (try dsimp only at hSw); go_simp; try with_reducible rfl)
            try simp only [Act.put, List.setIfInBounds_toArray, List.set_cons_zero, List.set_cons_succ]
            refine' wpAnyH_take (i := 12) (oi := _) (v := _) ?hiUc13 (by kernel_rfl) (by kernel_rfl) (by kernel_rfl) ?hQUc13 ?hyUc13 (by assumption) ?restUc13
            case' hiUc13 => (first | (simp only [List.getElem?_toArray, List.getElem?_cons_succ, List.getElem?_cons_zero]; done) | (simp only [List.getElem?_toArray, List.getElem?_cons_succ, List.getElem?_cons_zero]; rfl))
            case' hQUc13 => exact fun _ _ _ h => h
            case' hyUc13 => refine Or.inl ⟨by rfl, ?_⟩
            (intro w hSw; (try dsimp only at hSw); go_simp; try with_reducible rfl)
            try simp only [Act.put, List.setIfInBounds_toArray, List.set_cons_zero, List.set_cons_succ]
            refine' wpAnyH_take (i := 13) (oi := _) (v := _) ?hiUc14 (by kernel_rfl) (by kernel_rfl) (by kernel_rfl) ?hQUc14 ?hyUc14 (by assumption) ?restUc14
            case' hiUc14 => (first | (simp only [List.getElem?_toArray, List.getElem?_cons_succ, List.getElem?_cons_zero]; done) | (simp only [List.getElem?_toArray, List.getElem?_cons_succ, List.getElem?_cons_zero]; rfl))
            case' hQUc14 => exact fun _ _ _ h => h
            case' hyUc14 => refine Or.inl ⟨by rfl, ?_⟩
            (intro w hSw; (try dsimp only at hSw); go_simp; try with_reducible rfl)
            try simp only [Act.put, List.setIfInBounds_toArray, List.set_cons_zero, List.set_cons_succ]
            refine' wpAnyH_take (i := 14) (oi := _) (v := _) ?hiUc15 (by kernel_rfl) (by kernel_rfl) (by kernel_rfl) ?hQUc15 ?hyUc15 (by assumption) ?restUc15
            case' hiUc15 => (first | (simp only [List.getElem?_toArray, List.getElem?_cons_succ, List.getElem?_cons_zero]; done) | (simp only [List.getElem?_toArray, List.getElem?_cons_succ, List.getElem?_cons_zero]; rfl))
            case' hQUc15 => exact fun _ _ _ h => h
            case' hyUc15 => refine Or.inl ⟨by rfl, ?_⟩
            (intro w hSw; (try dsimp only at hSw); go_simp; try with_reducible rfl)
            try simp only [Act.put, List.setIfInBounds_toArray, List.set_cons_zero, List.set_cons_succ]
            refine' wpAnyH_take (i := 15) (oi := _) (v := _) ?hiUc16 (by kernel_rfl) (by kernel_rfl) (by kernel_rfl) ?hQUc16 ?hyUc16 (by assumption) ?restUc16
            case' hiUc16 => (first | (simp only [List.getElem?_toArray, List.getElem?_cons_succ, List.getElem?_cons_zero]; done) | (simp only [List.getElem?_toArray, List.getElem?_cons_succ, List.getElem?_cons_zero]; rfl))
            case' hQUc16 => exact fun _ _ _ h => h
            case' hyUc16 => refine Or.inl ⟨by rfl, ?_⟩
            (intro w hSw; (try dsimp only at hSw); go_simp; try with_reducible rfl)
            try simp only [Act.put, List.setIfInBounds_toArray, List.set_cons_zero, List.set_cons_succ]
            refine' wpAnyH_take (i := 16) (oi := _) (v := _) ?hiUc17 (by kernel_rfl) (by kernel_rfl) (by kernel_rfl) ?hQUc17 ?hyUc17 (by assumption) ?restUc17
            case' hiUc17 => (first | (simp only [List.getElem?_toArray, List.getElem?_cons_succ, List.getElem?_cons_zero]; done) | (simp only [List.getElem?_toArray, List.getElem?_cons_succ, List.getElem?_cons_zero]; rfl))
            case' hQUc17 => exact fun _ _ _ h => h
            case' hyUc17 => refine Or.inl ⟨by rfl, ?_⟩
            (intro w hSw; (try dsimp only at hSw); go_simp; try with_reducible rfl)
            try simp only [Act.put, List.setIfInBounds_toArray, List.set_cons_zero, List.set_cons_succ]
            refine' wpAnyH_take (i := 17) (oi := _) (v := _) ?hiUc18 (by kernel_rfl) (by kernel_rfl) (by kernel_rfl) ?hQUc18 ?hyUc18 (by assumption) ?restUc18
            case' hiUc18 => (first | (simp only [List.getElem?_toArray, List.getElem?_cons_succ, List.getElem?_cons_zero]; done) | (simp only [List.getElem?_toArray, List.getElem?_cons_succ, List.getElem?_cons_zero]; rfl))
            case' hQUc18 => exact fun _ _ _ h => h
            case' hyUc18 => refine Or.inl ⟨by rfl, ?_⟩
            (intro w hSw; (try dsimp only at hSw); go_simp; try with_reducible rfl)
            try simp only [Act.put, List.setIfInBounds_toArray, List.set_cons_zero, List.set_cons_succ]
            refine' wpAnyH_take (i := 18) (oi := _) (v := _) ?hiUc19 (by kernel_rfl) (by kernel_rfl) (by kernel_rfl) ?hQUc19 ?hyUc19 (by assumption) ?restUc19
            case' hiUc19 => (first | (simp only [List.getElem?_toArray, List.getElem?_cons_succ, List.getElem?_cons_zero]; done) | (simp only [List.getElem?_toArray, List.getElem?_cons_succ, List.getElem?_cons_zero]; rfl))
            case' hQUc19 => exact fun _ _ _ h => h
            case' hyUc19 => refine Or.inl ⟨by rfl, ?_⟩
            (intro w hSw; (try dsimp only at hSw); go_simp; try with_reducible rfl)
            try simp only [Act.put, List.setIfInBounds_toArray, List.set_cons_zero, List.set_cons_succ]
            refine' wpAnyH_take (i := 19) (oi := _) (v := _) ?hiUc20 (by kernel_rfl) (by kernel_rfl) (by kernel_rfl) ?hQUc20 ?hyUc20 (by assumption) ?restUc20
            case' hiUc20 => (first | (simp only [List.getElem?_toArray, List.getElem?_cons_succ, List.getElem?_cons_zero]; done) | (simp only [List.getElem?_toArray, List.getElem?_cons_succ, List.getElem?_cons_zero]; rfl))
            case' hQUc20 => exact fun _ _ _ h => h
            case' hyUc20 => refine Or.inl ⟨by rfl, ?_⟩
            (intro w hSw; (try dsimp only at hSw); go_simp; try with_reducible rfl)
            try simp only [Act.put, List.setIfInBounds_toArray, List.set_cons_zero, List.set_cons_succ]
            refine wpAnyH_done (by kernel_rfl) ?_ _
            go_wp2
            go_ret
            rw [R.out]
            exact ⟨rfl, H3.out.more (Nat.le_refl _) (Nat.le_add_right N 32), U3.out.weaken (fun _ _ h => h.elim)⟩
          | some c9 =>
            have RR := Lib.hid (RR.out.trans (if_neg (fun g => by rcases g.2 with g | g; exact hi g; rw [ha] at g; cases g)))
            have LKD := H3.out.lookS ha
            clear H2 h0 hi ha
            go_wp2_with fail
            refine wp_region_held_drew (S := (fun w' => w'.cell? ⟨w.heap.size, 5, none⟩ = some (.int .i64 rd) ∧ w'.cell? ⟨tb, 0, none⟩ = some (.map (some cm)) ∧ (Instr.lookup 89 (.map (some cm)) (.int .i64 rd) false).run Tryz.prog w' = .ok (.pointer (some ⟨cb rd, 0, none⟩)) w')) (by kernel_rfl) ?_ (fun hHeld => ?_)
            · (try dsimp only); go_keep
            try simp only [Array.replicate, Act.put, List.setIfInBounds_toArray]
            refine' wpAnyH_take (i := 0) (oi := _) (v := _) ?hiUd1 (by kernel_rfl) (by kernel_rfl) (by kernel_rfl) ?hQUd1 ?hyUd1 (by assumption) ?restUd1
            case' hiUd1 => (first | (simp only [List.getElem?_toArray, List.getElem?_cons_succ, List.getElem?_cons_zero]; done) | (simp only [List.getElem?_toArray, List.getElem?_cons_succ, List.getElem?_cons_zero]; rfl))
            case' hQUd1 => exact fun _ _ _ h => h
            case' hyUd1 => refine Or.inl ⟨by rfl, ?_⟩
            (intro w hSw; (try dsimp only at hSw); go_simp; try with_reducible rfl)
            try simp only [Act.put, List.setIfInBounds_toArray, List.set_cons_zero, List.set_cons_succ]
            refine' wpAnyH_take (i := 1) (oi := _) (v := _) ?hiUd2 (by kernel_rfl) (by kernel_rfl) (by kernel_rfl) ?hQUd2 ?hyUd2 (by assumption) ?restUd2
            case' hiUd2 => (first | (simp only [List.getElem?_toArray, List.getElem?_cons_succ, List.getElem?_cons_zero]; done) | (simp only [List.getElem?_toArray, List.getElem?_cons_succ, List.getElem?_cons_zero]; rfl))
            case' hQUd2 => exact fun _ _ _ h => h
            case' hyUd2 => refine Or.inl ⟨by rfl, ?_⟩
            (intro w hSw; (try dsimp only at hSw); go_simp; try with_reducible rfl)
            try simp only [Act.put, List.setIfInBounds_toArray, List.set_cons_zero, List.set_cons_succ]
            refine' wpAnyH_take (i := 2) (oi := _) (v := _) ?hiUd3 (by kernel_rfl) (by kernel_rfl) (by kernel_rfl) ?hQUd3 ?hyUd3 (by assumption) ?restUd3
            case' hiUd3 => (first | (simp only [List.getElem?_toArray, List.getElem?_cons_succ, List.getElem?_cons_zero]; done) | (simp only [List.getElem?_toArray, List.getElem?_cons_succ, List.getElem?_cons_zero]; rfl))
            case' hQUd3 => exact fun _ _ _ h => h
            case' hyUd3 => refine Or.inl ⟨by rfl, ?_⟩
            (intro w hSw; (try dsimp only at hSw); go_simp; try with_reducible rfl)
            try simp only [Act.put, List.setIfInBounds_toArray, List.set_cons_zero, List.set_cons_succ]
            refine' wpAnyH_take (i := 3) (oi := _) (v := _) ?hiUd4 (by kernel_rfl) (by kernel_rfl) (by kernel_rfl) ?hQUd4 ?hyUd4 (by assumption) ?restUd4
            case' hiUd4 => (first | (simp only [List.getElem?_toArray, List.getElem?_cons_succ, List.getElem?_cons_zero]; done) | (simp only [List.getElem?_toArray, List.getElem?_cons_succ, List.getElem?_cons_zero]; rfl))
            case' hQUd4 => exact fun _ _ _ h => h
            case' hyUd4 => refine Or.inl ⟨by rfl, ?_⟩
            (intro w hSw; (try dsimp only at hSw); go_simp; try with_reducible rfl)
            try simp only [Act.put, List.setIfInBounds_toArray, List.set_cons_zero, List.set_cons_succ]
            refine' wpAnyH_take (i := 4) (oi := _) (v := _) ?hiUd5 (by kernel_rfl) (by kernel_rfl) (by kernel_rfl) ?hQUd5 ?hyUd5 (by assumption) ?restUd5
            case' hiUd5 => (first | (simp only [List.getElem?_toArray, List.getElem?_cons_succ, List.getElem?_cons_zero]; done) | (simp only [List.getElem?_toArray, List.getElem?_cons_succ, List.getElem?_cons_zero]; rfl))
            case' hQUd5 => exact fun _ _ _ h => h
            case' hyUd5 => refine Or.inl ⟨by rfl, ?_⟩
            (intro w hSw; (try dsimp only at hSw); go_simp; try with_reducible rfl)
            try simp only [Act.put, List.setIfInBounds_toArray, List.set_cons_zero, List.set_cons_succ]
            refine' wpAnyH_take (i := 5) (oi := _) (v := _) ?hiUd6 (by kernel_rfl) (by kernel_rfl) (by kernel_rfl) ?hQUd6 ?hyUd6 (by assumption) ?restUd6
            case' hiUd6 => (first | (simp only [List.getElem?_toArray, List.getElem?_cons_succ, List.getElem?_cons_zero]; done) | (simp only [List.getElem?_toArray, List.getElem?_cons_succ, List.getElem?_cons_zero]; rfl))
            case' hQUd6 => exact fun _ _ _ h => h
            case' hyUd6 => refine Or.inl ⟨by rfl, ?_⟩
            (intro w hSw; (try dsimp only at hSw); go_simp; try with_reducible rfl)
            try simp only [Act.put, List.setIfInBounds_toArray, List.set_cons_zero, List.set_cons_succ]
            refine' wpAnyH_take (i := 6) (oi := _) (v := _) ?hiUd7 (by kernel_rfl) (by kernel_rfl) (by kernel_rfl) ?hQUd7 ?hyUd7 (by assumption) ?restUd7
            case' hiUd7 => (first | (simp only [List.getElem?_toArray, List.getElem?_cons_succ, List.getElem?_cons_zero]; done) | (simp only [List.getElem?_toArray, List.getElem?_cons_succ, List.getElem?_cons_zero]; rfl))
            case' hQUd7 => exact fun _ _ _ h => h
            case' hyUd7 => refine Or.inl ⟨by rfl, ?_⟩
            (intro w hSw; (try dsimp only at hSw); go_simp; try with_reducible rfl)
            try simp only [Act.put, List.setIfInBounds_toArray, List.set_cons_zero, List.set_cons_succ]
            refine' wpAnyH_take (i := 7) (oi := _) (v := _) ?hiUd8 (by kernel_rfl) (by kernel_rfl) (by kernel_rfl) ?hQUd8 ?hyUd8 (by assumption) ?restUd8
            case' hiUd8 => (first | (simp only [List.getElem?_toArray, List.getElem?_cons_succ, List.getElem?_cons_zero]; done) | (simp only [List.getElem?_toArray, List.getElem?_cons_succ, List.getElem?_cons_zero]; rfl))
            case' hQUd8 => exact fun _ _ _ h => h
            case' hyUd8 => refine Or.inl ⟨by rfl, ?_⟩
            (intro w hSw; (try dsimp only at hSw); go_simp; try with_reducible rfl)
            try simp only [Act.put, List.setIfInBounds_toArray, List.set_cons_zero, List.set_cons_succ]
            refine' wpAnyH_take (i := 8) (oi := _) (v := _) ?hiUd9 (by kernel_rfl) (by kernel_rfl) (by kernel_rfl) ?hQUd9 ?hyUd9 (by assumption) ?restUd9
            case' hiUd9 => (first | (simp only [List.getElem?_toArray, List.getElem?_cons_succ, List.getElem?_cons_zero]; done) | (simp only [List.getElem?_toArray, List.getElem?_cons_succ, List.getElem?_cons_zero]; rfl))
            case' hQUd9 => exact fun _ _ _ h => h
            case' hyUd9 => refine Or.inl ⟨by rfl, ?_⟩
            (intro w hSw; (try dsimp only at hSw); go_simp; try with_reducible rfl)
            try simp only [Act.put, List.setIfInBounds_toArray, List.set_cons_zero, List.set_cons_succ]
            refine' wpAnyH_take (i := 9) (oi := _) (v := _) ?hiUd10 (by kernel_rfl) (by kernel_rfl) (by kernel_rfl) ?hQUd10 ?hyUd10 (by assumption) ?restUd10
            case' hiUd10 => (first | (simp only [List.getElem?_toArray, List.getElem?_cons_succ, List.getElem?_cons_zero]; done) | (simp only [List.getElem?_toArray, List.getElem?_cons_succ, List.getElem?_cons_zero]; rfl))
            case' hQUd10 => exact fun _ _ _ h => h
            case' hyUd10 => refine Or.inl ⟨by rfl, ?_⟩
            (intro w hSw; (try dsimp only at hSw); go_simp; try with_reducible rfl)
            try simp only [Act.put, List.setIfInBounds_toArray, List.set_cons_zero, List.set_cons_succ]
            refine' wpAnyH_take (i := 10) (oi := _) (v := _) ?hiUd11 (by kernel_rfl) (by kernel_rfl) (by kernel_rfl) ?hQUd11 ?hyUd11 (by assumption) ?restUd11
            case' hiUd11 => (first | (simp only [List.getElem?_toArray, List.getElem?_cons_succ, List.getElem?_cons_zero]; done) | (simp only [List.getElem?_toArray, List.getElem?_cons_succ, List.getElem?_cons_zero]; rfl))
            case' hQUd11 => exact fun _ _ _ h => h
            case' hyUd11 => refine Or.inl ⟨by rfl, ?_⟩
            (intro w hSw; (try dsimp only at hSw); go_simp; try with_reducible rfl)
            try simp only [Act.put, List.setIfInBounds_toArray, List.set_cons_zero, List.set_cons_succ]
            refine' wpAnyH_take (i := 11) (oi := _) (v := _) ?hiUd12 (by kernel_rfl) (by kernel_rfl) (by kernel_rfl) ?hQUd12 ?hyUd12 (by assumption) ?restUd12
            case' hiUd12 => (first | (simp only [List.getElem?_toArray, List.getElem?_cons_succ, List.getElem?_cons_zero]; done) | (simp only [List.getElem?_toArray, List.getElem?_cons_succ, List.getElem?_cons_zero]; rfl))
            case' hQUd12 => exact fun _ _ _ h => h
            case' hyUd12 => refine Or.inl ⟨by rfl, ?_⟩
            (intro w hSw; (try dsimp only at hSw); go_simp; try with_reducible rfl)
            try simp only [Act.put, List.setIfInBounds_toArray, List.set_cons_zero, List.set_cons_succ]
            refine' wpAnyH_take (i := 12) (oi := _) (v := _) ?hiUd13 (by kernel_rfl) (by kernel_rfl) (by kernel_rfl) ?hQUd13 ?hyUd13 (by assumption) ?restUd13
            case' hiUd13 => (first | (simp only [List.getElem?_toArray, List.getElem?_cons_succ, List.getElem?_cons_zero]; done) | (simp only [List.getElem?_toArray, List.getElem?_cons_succ, List.getElem?_cons_zero]; rfl))
            case' hQUd13 => exact fun _ _ _ h => h
            case' hyUd13 => refine Or.inl ⟨by rfl, ?_⟩
            (intro w hSw; (try dsimp only at hSw); go_simp; try with_reducible rfl)
            try simp only [Act.put, List.setIfInBounds_toArray, List.set_cons_zero, List.set_cons_succ]
            refine' wpAnyH_take (i := 13) (oi := _) (v := _) ?hiUd14 (by kernel_rfl) (by kernel_rfl) (by kernel_rfl) ?hQUd14 ?hyUd14 (by assumption) ?restUd14
            case' hiUd14 => (first | (simp only [List.getElem?_toArray, List.getElem?_cons_succ, List.getElem?_cons_zero]; done) | (simp only [List.getElem?_toArray, List.getElem?_cons_succ, List.getElem?_cons_zero]; rfl))
            case' hQUd14 => exact fun _ _ _ h => h
            case' hyUd14 => refine Or.inl ⟨by rfl, ?_⟩
            (intro w hSw; (try dsimp only at hSw); go_simp; try with_reducible rfl)
            try simp only [Act.put, List.setIfInBounds_toArray, List.set_cons_zero, List.set_cons_succ]
            refine' wpAnyH_take (i := 14) (oi := _) (v := _) ?hiUd15 (by kernel_rfl) (by kernel_rfl) (by kernel_rfl) ?hQUd15 ?hyUd15 (by assumption) ?restUd15
            case' hiUd15 => (first | (simp only [List.getElem?_toArray, List.getElem?_cons_succ, List.getElem?_cons_zero]; done) | (simp only [List.getElem?_toArray, List.getElem?_cons_succ, List.getElem?_cons_zero]; rfl))
            case' hQUd15 => exact fun _ _ _ h => h
            case' hyUd15 => refine Or.inl ⟨by rfl, ?_⟩
            (intro w hSw; (try dsimp only at hSw); go_simp; try with_reducible rfl)
            try simp only [Act.put, List.setIfInBounds_toArray, List.set_cons_zero, List.set_cons_succ]
            refine' wpAnyH_take (i := 15) (oi := _) (v := _) ?hiUd16 (by kernel_rfl) (by kernel_rfl) (by kernel_rfl) ?hQUd16 ?hyUd16 (by assumption) ?restUd16
            case' hiUd16 => (first | (simp only [List.getElem?_toArray, List.getElem?_cons_succ, List.getElem?_cons_zero]; done) | (simp only [List.getElem?_toArray, List.getElem?_cons_succ, List.getElem?_cons_zero]; rfl))
            case' hQUd16 => exact fun _ _ _ h => h
            case' hyUd16 => refine Or.inl ⟨by rfl, ?_⟩
            (intro w hSw; (try dsimp only at hSw); go_simp; try with_reducible rfl)
            try simp only [Act.put, List.setIfInBounds_toArray, List.set_cons_zero, List.set_cons_succ]
            refine' wpAnyH_take (i := 16) (oi := _) (v := _) ?hiUd17 (by kernel_rfl) (by kernel_rfl) (by kernel_rfl) ?hQUd17 ?hyUd17 (by assumption) ?restUd17
            case' hiUd17 => (first | (simp only [List.getElem?_toArray, List.getElem?_cons_succ, List.getElem?_cons_zero]; done) | (simp only [List.getElem?_toArray, List.getElem?_cons_succ, List.getElem?_cons_zero]; rfl))
            case' hQUd17 => exact fun _ _ _ h => h
            case' hyUd17 => refine Or.inl ⟨by rfl, ?_⟩
            (intro w hSw; (try dsimp only at hSw); go_simp; try with_reducible rfl)
            try simp only [Act.put, List.setIfInBounds_toArray, List.set_cons_zero, List.set_cons_succ]
            refine' wpAnyH_take (i := 17) (oi := _) (v := _) ?hiUd18 (by kernel_rfl) (by kernel_rfl) (by kernel_rfl) ?hQUd18 ?hyUd18 (by assumption) ?restUd18
            case' hiUd18 => (first | (simp only [List.getElem?_toArray, List.getElem?_cons_succ, List.getElem?_cons_zero]; done) | (simp only [List.getElem?_toArray, List.getElem?_cons_succ, List.getElem?_cons_zero]; rfl))
            case' hQUd18 => exact fun _ _ _ h => h
            case' hyUd18 => refine Or.inl ⟨by rfl, ?_⟩
            (intro w hSw; (try dsimp only at hSw); go_simp; try with_reducible rfl)
            try simp only [Act.put, List.setIfInBounds_toArray, List.set_cons_zero, List.set_cons_succ]
            refine' wpAnyH_take (i := 18) (oi := _) (v := _) ?hiUd19 (by kernel_rfl) (by kernel_rfl) (by kernel_rfl) ?hQUd19 ?hyUd19 (by assumption) ?restUd19
            case' hiUd19 => (first | (simp only [List.getElem?_toArray, List.getElem?_cons_succ, List.getElem?_cons_zero]; done) | (simp only [List.getElem?_toArray, List.getElem?_cons_succ, List.getElem?_cons_zero]; rfl))
            case' hQUd19 => exact fun _ _ _ h => h
            case' hyUd19 => refine Or.inl ⟨by rfl, ?_⟩
            (intro w hSw; (try dsimp only at hSw); go_simp; try with_reducible rfl)
            try simp only [Act.put, List.setIfInBounds_toArray, List.set_cons_zero, List.set_cons_succ]
            refine' wpAnyH_take (i := 19) (oi := _) (v := _) ?hiUd20 (by kernel_rfl) (by kernel_rfl) (by kernel_rfl) ?hQUd20 ?hyUd20 (by assumption) ?restUd20
            case' hiUd20 => (first | (simp only [List.getElem?_toArray, List.getElem?_cons_succ, List.getElem?_cons_zero]; done) | (simp only [List.getElem?_toArray, List.getElem?_cons_succ, List.getElem?_cons_zero]; rfl))
            case' hQUd20 => exact fun _ _ _ h => h
            case' hyUd20 => refine Or.inl ⟨by rfl, ?_⟩
            (intro w hSw; (try dsimp only at hSw); go_simp; try with_reducible rfl)
            try simp only [Act.put, List.setIfInBounds_toArray, List.set_cons_zero, List.set_cons_succ]
            refine wpAnyH_done (by kernel_rfl) ?_ _
            go_wp2_with fail
            have CB3 : Hid (Blk w2.drew (cb id) [.bool con, .bool cbc, .bool coi, .bool coo, .bool cnl, .int .i64 crd, .slice cp cn cc, .int .i64 ccg] 98) := U3.out.blk HB.out (fun h => h)
            clear f0 f1 f2 f3 f4 f5 f6 f7 f8 xb x0 hHeld U2 B2 HB HT
            generalize w2.drew = w3 at *
            have SW : Hid (∀ w4, Upd (fun _ => False) w3 w4 → Calls Tryz.prog 45 #[.agg #[.bool con, .bool cbc, .bool coi, .bool coo, .bool cnl, .int .i64 crd, .slice cp cn cc], .agg #[.bool on, .bool bc, .bool oi, .bool oo, .bool nl, .int .i64 rd, .slice pm nm km]] w4 fun e w' => ∃ p5 c5, e = .returned (.tuple #[.agg #[.bool son, .bool sbc, .bool soi, .bool soo, .bool snl, .int .i64 srd, .slice p5 sn c5], .int .i64 serr]) ∧ Hid ((Upd (fun _ => False) w4 w' ∧ Upd (fun _ => False) w3 w') ∧ TxtsAt w' w3.heap.size (.slice p5 sn c5) sps ∧ ((w'.cell? ⟨cb id, 0, none⟩ = some (.bool con) ∧ w'.cell? ⟨cb id, 1, none⟩ = some (.bool cbc) ∧ w'.cell? ⟨cb id, 2, none⟩ = some (.bool coi) ∧ w'.cell? ⟨cb id, 3, none⟩ = some (.bool coo) ∧ w'.cell? ⟨cb id, 4, none⟩ = some (.bool cnl) ∧ w'.cell? ⟨cb id, 5, none⟩ = some (.int .i64 crd) ∧ w'.cell? ⟨cb id, 6, none⟩ = some (.slice cp cn cc)) ∧ (w'.cell? ⟨w.heap.size, 0, none⟩ = some (.bool on) ∧ w'.cell? ⟨w.heap.size, 1, none⟩ = some (.bool bc) ∧ w'.cell? ⟨w.heap.size, 2, none⟩ = some (.bool oi) ∧ w'.cell? ⟨w.heap.size, 3, none⟩ = some (.bool oo) ∧ w'.cell? ⟨w.heap.size, 4, none⟩ = some (.bool nl) ∧ w'.cell? ⟨w.heap.size, 5, none⟩ = some (.int .i64 rd) ∧ w'.cell? ⟨w.heap.size, 6, none⟩ = some (.slice pm nm km))))) := fun w4 u => by
              refine (SWC.out w4 (U3.out.trans u (fun _ _ h => h))).mono ?_
              rintro e w' ⟨v2, rfl, t2, u2⟩
              obtain ⟨p5, c5, e5, _⟩ := own_slice t2
              subst e5
              have ux := u.trans u2 (fun _ _ h => h)
              have cbk := ux.blk CB3.out (fun h => h)
              have pbk := ux.blk B3.out (fun h => h)
              rw [← SN.out] at t2 ⊢
              exact ⟨p5, c5, rfl, ⟨u2, ux⟩, own_mono t2 u.size, ⟨cbk.cellAt rfl, cbk.cellAt rfl, cbk.cellAt rfl, cbk.cellAt rfl, cbk.cellAt rfl, cbk.cellAt rfl, cbk.cellAt rfl⟩, ⟨pbk.cellAt rfl, pbk.cellAt rfl, pbk.cellAt rfl, pbk.cellAt rfl, pbk.cellAt rfl, pbk.cellAt rfl, pbk.cellAt rfl⟩⟩
            have SF : Hid (∀ w4, Upd (fun _ => False) w3 w4 → ((w4.cell? ⟨cb id, 0, none⟩ = some (.bool con) ∧ w4.cell? ⟨cb id, 1, none⟩ = some (.bool cbc) ∧ w4.cell? ⟨cb id, 2, none⟩ = some (.bool coi) ∧ w4.cell? ⟨cb id, 3, none⟩ = some (.bool coo) ∧ w4.cell? ⟨cb id, 4, none⟩ = some (.bool cnl) ∧ w4.cell? ⟨cb id, 5, none⟩ = some (.int .i64 crd) ∧ w4.cell? ⟨cb id, 6, none⟩ = some (.slice cp cn cc)) ∧ (w4.cell? ⟨w.heap.size, 0, none⟩ = some (.bool on) ∧ w4.cell? ⟨w.heap.size, 1, none⟩ = some (.bool bc) ∧ w4.cell? ⟨w.heap.size, 2, none⟩ = some (.bool oi) ∧ w4.cell? ⟨w.heap.size, 3, none⟩ = some (.bool oo) ∧ w4.cell? ⟨w.heap.size, 4, none⟩ = some (.bool nl) ∧ w4.cell? ⟨w.heap.size, 5, none⟩ = some (.int .i64 rd) ∧ w4.cell? ⟨w.heap.size, 6, none⟩ = some (.slice pm nm km)))) := fun w4 u => by
              have cbk := u.blk CB3.out (fun h => h)
              have pbk := u.blk B3.out (fun h => h)
              exact ⟨⟨cbk.cellAt rfl, cbk.cellAt rfl, cbk.cellAt rfl, cbk.cellAt rfl, cbk.cellAt rfl, cbk.cellAt rfl, cbk.cellAt rfl⟩, ⟨pbk.cellAt rfl, pbk.cellAt rfl, pbk.cellAt rfl, pbk.cellAt rfl, pbk.cellAt rfl, pbk.cellAt rfl, pbk.cellAt rfl⟩⟩
            have SG : Hid (∀ w5 w4, Upd (fun _ => False) w3 w5 → Upd (fun b => b = w3.heap.size) w5 w4 → ((w4.cell? ⟨cb id, 0, none⟩ = some (.bool con) ∧ w4.cell? ⟨cb id, 1, none⟩ = some (.bool cbc) ∧ w4.cell? ⟨cb id, 2, none⟩ = some (.bool coi) ∧ w4.cell? ⟨cb id, 3, none⟩ = some (.bool coo) ∧ w4.cell? ⟨cb id, 4, none⟩ = some (.bool cnl) ∧ w4.cell? ⟨cb id, 5, none⟩ = some (.int .i64 crd) ∧ w4.cell? ⟨cb id, 6, none⟩ = some (.slice cp cn cc)) ∧ (w4.cell? ⟨w.heap.size, 0, none⟩ = some (.bool on) ∧ w4.cell? ⟨w.heap.size, 1, none⟩ = some (.bool bc) ∧ w4.cell? ⟨w.heap.size, 2, none⟩ = some (.bool oi) ∧ w4.cell? ⟨w.heap.size, 3, none⟩ = some (.bool oo) ∧ w4.cell? ⟨w.heap.size, 4, none⟩ = some (.bool nl) ∧ w4.cell? ⟨w.heap.size, 5, none⟩ = some (.int .i64 rd) ∧ w4.cell? ⟨w.heap.size, 6, none⟩ = some (.slice pm nm km)))) := fun w5 w4 u u2 => by
              have cbk := u2.blk (u.blk CB3.out (fun h => h)) (fun e => by have := CB3.out.lt; omega)
              have pbk := u2.blk (u.blk B3.out (fun h => h)) (fun e => by have := B3.out.lt; omega)
              exact ⟨⟨cbk.cellAt rfl, cbk.cellAt rfl, cbk.cellAt rfl, cbk.cellAt rfl, cbk.cellAt rfl, cbk.cellAt rfl, cbk.cellAt rfl⟩, ⟨pbk.cellAt rfl, pbk.cellAt rfl, pbk.cellAt rfl, pbk.cellAt rfl, pbk.cellAt rfl, pbk.cellAt rfl, pbk.cellAt rfl⟩⟩
            have AFT : Hid (∀ w5 nb W p5 c5, (Upd (fun _ => False) w3 w5 ∧ TxtsAt w5 w3.heap.size (.slice p5 sn c5) sps) → Blk W nb [.bool son, .bool sbc, .bool soi, .bool soo, .bool snl, .int .i64 srd, .slice p5 sn c5] 32 → Upd (fun b => b = nb) w5 W → w3.heap.size ≤ nb → nb < W.heap.size → (∀ b, (Value.slice p5 sn c5).ownBlock = some b → b ≠ nb) →
                TSt W base tb cm kb pb cb (fun b => (X b ∨ b = nb) ∨ (Value.slice p5 sn c5).ownBlock = some b) M most L n P N ∧ TxtsAt W base (.slice p5 sn c5) sps ∧ Blk W nb [.bool son, .bool sbc, .bool soi, .bool soo, .bool snl, .int .i64 srd, .slice p5 sn c5] 32 ∧ Blk W (cb id) [.bool con, .bool cbc, .bool coi, .bool coo, .bool cnl, .int .i64 crd, .slice cp cn cc, .int .i64 ccg] 98 ∧ Upd (Fr base X) w W ∧ (∀ b, X b ∨ b = nb → (Value.slice p5 sn c5).ownBlock ≠ some b)) := fun w5 nb W p5 c5 ⟨ua, ta⟩ bn ub h1 h2 hne => by
              have uw : Upd (fun _ => False) w3 W := (ua.weaken (F := fun b => b = nb) (fun _ _ h => h.elim)).trans ub (fun _ _ h => h) |>.weaken (fun b hb e => by omega)
              refine ⟨H3.out.also uw (fun b hb => ?_), own_mono (own_keep ta ub hne) H3.out.bl, bn, uw.blk CB3.out (fun h => h), (U3.out.trans uw (fun _ _ h => h)).weaken (fun _ _ h => h.elim), fun b hb e => ?_⟩
              · rcases hb with (g | g) | g
                · exact Or.inl g
                · exact Or.inr ⟨by omega, by omega⟩
                · have := own_lt ta g
                  exact Or.inr ⟨this.2.1, Nat.lt_of_lt_of_le this.1 ub.size⟩
              · have := own_lt ta e
                rcases hb with g | g
                · have := H3.out.xlt b g; omega
                · exact hne b e g
            have NB : Hid (Blk (w3.drew.alloc (.cells #[.bool false, .bool false, .bool false, .bool false, .bool false, .int .i64 0, .slice none 0 0] 32)) w3.heap.size zeroMC 32) := Blk.made w3.drew zeroMC 32
            obtain ⟨y0, y1, y2, y3, y4, y5, y6, y7, y8, y9⟩ := cl_facts (c := ⟨⟨con, cbc, coi, coo, cnl, crd, cps⟩, ccg⟩) (v := .slice cp cn cc) CB3.out
            obtain ⟨q0, q1, q2, q3, q4, q5, q6, q7, q8⟩ := mode_facts B3.out
            dsimp only at y2 y3 y4 y5 y6 y7 y9
            clear CB3 B3 SWC H3
            go_wp2_with fail
            refine wp_region_held_drew (S := (fun w' => (w'.cell? ⟨cb id, 0, none⟩ = some (.bool con) ∧ w'.cell? ⟨cb id, 1, none⟩ = some (.bool cbc) ∧ w'.cell? ⟨cb id, 2, none⟩ = some (.bool coi) ∧ w'.cell? ⟨cb id, 3, none⟩ = some (.bool coo) ∧ w'.cell? ⟨cb id, 4, none⟩ = some (.bool cnl) ∧ w'.cell? ⟨cb id, 5, none⟩ = some (.int .i64 crd) ∧ w'.cell? ⟨cb id, 6, none⟩ = some (.slice cp cn cc)) ∧ (w'.cell? ⟨w.heap.size, 0, none⟩ = some (.bool on) ∧ w'.cell? ⟨w.heap.size, 1, none⟩ = some (.bool bc) ∧ w'.cell? ⟨w.heap.size, 2, none⟩ = some (.bool oi) ∧ w'.cell? ⟨w.heap.size, 3, none⟩ = some (.bool oo) ∧ w'.cell? ⟨w.heap.size, 4, none⟩ = some (.bool nl) ∧ w'.cell? ⟨w.heap.size, 5, none⟩ = some (.int .i64 rd) ∧ w'.cell? ⟨w.heap.size, 6, none⟩ = some (.slice pm nm km)))) (by kernel_rfl) ?_ (fun hHeld => ?_)
            · (try dsimp only); go_keep
            try simp only [Array.replicate, Act.put, List.setIfInBounds_toArray]
            refine' wpAnyH_take (i := 0) (oi := _) (v := _) ?hiRd1 (by kernel_rfl) (by kernel_rfl) (by kernel_rfl) ?hQRd1 ?hyRd1 (by assumption) ?restRd1
            case' hiRd1 => (first | (simp only [List.getElem?_toArray, List.getElem?_cons_succ, List.getElem?_cons_zero]; done) | (simp only [List.getElem?_toArray, List.getElem?_cons_succ, List.getElem?_cons_zero]; rfl))
            case' hQRd1 => exact fun _ _ _ h => h
            case' hyRd1 => refine Or.inl ⟨by rfl, ?_⟩
            (intro w hSw; (try dsimp only at hSw); go_simp; try with_reducible rfl)
            try simp only [Act.put, List.setIfInBounds_toArray, List.set_cons_zero, List.set_cons_succ]
            refine' wpAnyH_take (i := 1) (oi := _) (v := _) ?hiRd2 (by kernel_rfl) (by kernel_rfl) (by kernel_rfl) ?hQRd2 ?hyRd2 (by assumption) ?restRd2
            case' hiRd2 => (first | (simp only [List.getElem?_toArray, List.getElem?_cons_succ, List.getElem?_cons_zero]; done) | (simp only [List.getElem?_toArray, List.getElem?_cons_succ, List.getElem?_cons_zero]; rfl))
            case' hQRd2 => exact fun _ _ _ h => h
            case' hyRd2 => refine Or.inl ⟨by rfl, ?_⟩
            (intro w hSw; (try dsimp only at hSw); go_simp; try with_reducible rfl)
            try simp only [Act.put, List.setIfInBounds_toArray, List.set_cons_zero, List.set_cons_succ]
            refine' wpAnyH_take (i := 2) (oi := _) (v := _) ?hiRd3 (by kernel_rfl) (by kernel_rfl) (by kernel_rfl) ?hQRd3 ?hyRd3 (by assumption) ?restRd3
            case' hiRd3 => (first | (simp only [List.getElem?_toArray, List.getElem?_cons_succ, List.getElem?_cons_zero]; done) | (simp only [List.getElem?_toArray, List.getElem?_cons_succ, List.getElem?_cons_zero]; rfl))
            case' hQRd3 => exact fun _ _ _ h => h
            case' hyRd3 => refine Or.inl ⟨by rfl, ?_⟩
            (intro w hSw; (try dsimp only at hSw); go_simp; try with_reducible rfl)
            try simp only [Act.put, List.setIfInBounds_toArray, List.set_cons_zero, List.set_cons_succ]
            refine' wpAnyH_take (i := 3) (oi := _) (v := _) ?hiRd4 (by kernel_rfl) (by kernel_rfl) (by kernel_rfl) ?hQRd4 ?hyRd4 (by assumption) ?restRd4
            case' hiRd4 => (first | (simp only [List.getElem?_toArray, List.getElem?_cons_succ, List.getElem?_cons_zero]; done) | (simp only [List.getElem?_toArray, List.getElem?_cons_succ, List.getElem?_cons_zero]; rfl))
            case' hQRd4 => exact fun _ _ _ h => h
            case' hyRd4 => refine Or.inl ⟨by rfl, ?_⟩
            (intro w hSw; (try dsimp only at hSw); go_simp; try with_reducible rfl)
            try simp only [Act.put, List.setIfInBounds_toArray, List.set_cons_zero, List.set_cons_succ]
            refine' wpAnyH_take (i := 4) (oi := _) (v := _) ?hiRd5 (by kernel_rfl) (by kernel_rfl) (by kernel_rfl) ?hQRd5 ?hyRd5 (by assumption) ?restRd5
            case' hiRd5 => (first | (simp only [List.getElem?_toArray, List.getElem?_cons_succ, List.getElem?_cons_zero]; done) | (simp only [List.getElem?_toArray, List.getElem?_cons_succ, List.getElem?_cons_zero]; rfl))
            case' hQRd5 => exact fun _ _ _ h => h
            case' hyRd5 => refine Or.inl ⟨by rfl, ?_⟩
            (intro w hSw; (try dsimp only at hSw); go_simp; try with_reducible rfl)
            try simp only [Act.put, List.setIfInBounds_toArray, List.set_cons_zero, List.set_cons_succ]
            refine wpAnyH_ready (rs := [5, 9]) (by kernel_rfl) (by simp) ?_
            refine' AllReadyH.cons (o := _) ?hiRd6 (fun K hK => ?hKRd6) (AllReadyH.cons (o := _) ?hiRd7 (fun K hK => ?hKRd7) AllReadyH.nil)
            case' hiRd6 => (first | (simp only [List.getElem?_toArray, List.getElem?_cons_succ, List.getElem?_cons_zero]; done) | (simp only [List.getElem?_toArray, List.getElem?_cons_succ, List.getElem?_cons_zero]; rfl))
            case' hiRd7 => (first | (simp only [List.getElem?_toArray, List.getElem?_cons_succ, List.getElem?_cons_zero]; done) | (simp only [List.getElem?_toArray, List.getElem?_cons_succ, List.getElem?_cons_zero]; rfl))
            case' hKRd6 =>
              go_simp
              (go_at_call 45; refine (SW.out _ (by first | exact Upd.refl _ _ | exact (Upd.refl _ _).drew)).mono ?_; rintro e w5 ⟨p5, c5, rfl, r5⟩; obtain ⟨z5, f5⟩ := r5.out.2.2)
              refine hK.out _ _ ?_ (fun hHeld => ?_)
              · (first | with_reducible exact zz | ((try dsimp only); go_keep))
              clear hK K
              try simp only [Act.put, List.setIfInBounds_toArray, List.set_cons_zero, List.set_cons_succ]
              refine' wpAnyH_take (i := 6) (oi := _) (v := _) ?hiRd8 (by kernel_rfl) (by kernel_rfl) (by kernel_rfl) ?hQRd8 ?hyRd8 (by assumption) ?restRd8
              case' hiRd8 => (first | (simp only [List.getElem?_toArray, List.getElem?_cons_succ, List.getElem?_cons_zero]; done) | (simp only [List.getElem?_toArray, List.getElem?_cons_succ, List.getElem?_cons_zero]; rfl))
              case' hQRd8 => exact fun _ _ _ h => h
              case' hyRd8 => refine Or.inl ⟨by rfl, ?_⟩
              (intro w hSw; (try dsimp only at hSw); go_simp; try with_reducible rfl)
              try simp only [Act.put, List.setIfInBounds_toArray, List.set_cons_zero, List.set_cons_succ]
              refine' wpAnyH_take (i := 7) (oi := _) (v := _) ?hiRd9 (by kernel_rfl) (by kernel_rfl) (by kernel_rfl) ?hQRd9 ?hyRd9 (by assumption) ?restRd9
              case' hiRd9 => (first | (simp only [List.getElem?_toArray, List.getElem?_cons_succ, List.getElem?_cons_zero]; done) | (simp only [List.getElem?_toArray, List.getElem?_cons_succ, List.getElem?_cons_zero]; rfl))
              case' hQRd9 => exact fun _ _ _ h => h
              case' hyRd9 => refine Or.inl ⟨by rfl, ?_⟩
              (intro w hSw; (try dsimp only at hSw); go_simp; try with_reducible rfl)
              try simp only [Act.put, List.setIfInBounds_toArray, List.set_cons_zero, List.set_cons_succ]
              refine' wpAnyH_take (i := 8) (oi := _) (v := _) ?hiRd10 (by kernel_rfl) (by kernel_rfl) (by kernel_rfl) ?hQRd10 ?hyRd10 (by assumption) ?restRd10
              case' hiRd10 => (first | (simp only [List.getElem?_toArray, List.getElem?_cons_succ, List.getElem?_cons_zero]; done) | (simp only [List.getElem?_toArray, List.getElem?_cons_succ, List.getElem?_cons_zero]; rfl))
              case' hQRd10 => exact fun _ _ _ h => h
              case' hyRd10 => refine Or.inl ⟨by rfl, ?_⟩
              (intro w hSw; (try dsimp only at hSw); go_simp; try with_reducible rfl)
              try simp only [Act.put, List.setIfInBounds_toArray, List.set_cons_zero, List.set_cons_succ]
              refine wpAnyH_ready (rs := [9]) (by kernel_rfl) (by simp) ?_
              refine' AllReadyH.cons (o := _) ?hiRd11 (fun K hK => ?hKRd11) AllReadyH.nil
              case' hiRd11 => (first | (simp only [List.getElem?_toArray, List.getElem?_cons_succ, List.getElem?_cons_zero]; done) | (simp only [List.getElem?_toArray, List.getElem?_cons_succ, List.getElem?_cons_zero]; rfl))
              go_simp
              skip
              refine hK.out _ _ ?_ (fun hHeld => ?_)
              · (first | with_reducible exact zz | ((try dsimp only); go_keep))
              clear hK K
              try simp only [Act.put, List.setIfInBounds_toArray, List.set_cons_zero, List.set_cons_succ]
              refine wpAnyH_ready (rs := [10]) (by kernel_rfl) (by simp) ?_
              refine' AllReadyH.cons (o := _) ?hiRd12 (fun K hK => ?hKRd12) AllReadyH.nil
              case' hiRd12 => (first | (simp only [List.getElem?_toArray, List.getElem?_cons_succ, List.getElem?_cons_zero]; done) | (simp only [List.getElem?_toArray, List.getElem?_cons_succ, List.getElem?_cons_zero]; rfl))
              go_simp
              skip
              refine hK.out _ _ ?_ (fun hHeld => ?_)
              · (first | with_reducible exact zz | ((try dsimp only); go_keep))
              clear hK K
              try simp only [Act.put, List.setIfInBounds_toArray, List.set_cons_zero, List.set_cons_succ]
              refine' wpAnyH_take (i := 11) (oi := _) (v := _) ?hiRd13 (by kernel_rfl) (by kernel_rfl) (by kernel_rfl) ?hQRd13 ?hyRd13 (by assumption) ?restRd13
              case' hiRd13 => (first | (simp only [List.getElem?_toArray, List.getElem?_cons_succ, List.getElem?_cons_zero]; done) | (simp only [List.getElem?_toArray, List.getElem?_cons_succ, List.getElem?_cons_zero]; rfl))
              case' hQRd13 => exact fun _ _ _ h => h
              case' hyRd13 => refine Or.inl ⟨by rfl, ?_⟩
              (intro w hSw; (try dsimp only at hSw); go_simp; try with_reducible rfl)
              try simp only [Act.put, List.setIfInBounds_toArray, List.set_cons_zero, List.set_cons_succ]
              refine wpAnyH_done (by kernel_rfl) ?_ _
              have bF := Blk.made w5 [.bool son, .bool sbc, .bool soi, .bool soo, .bool snl, .int .i64 srd, .slice p5 sn c5] 32
              have uF : Upd (fun b => b = w5.heap.size) w5 (w5.alloc (.cells #[.bool son, .bool sbc, .bool soi, .bool soo, .bool snl, .int .i64 srd, .slice p5 sn c5] 32)) := (Upd.refl _ _).alloc _
              have r6 := AFT.out w5 w5.heap.size _ p5 c5 ⟨r5.out.1.2, r5.out.2.1⟩ bF uF r5.out.1.2.size (by simp) (fun b hb e => by have := (own_lt r5.out.2.1 hb).1; omega)
              clear z5 f5 r5 hHeld bF uF SW NB AFT y0 y1 y2 y3 y4 y5 y6 y7 y8 y9
              generalize hW : w5.alloc (.cells #[.bool son, .bool sbc, .bool soi, .bool soo, .bool snl, .int .i64 srd, .slice p5 sn c5] 32) = W at *
              generalize w5.heap.size = nb at *
              clear hW
              obtain ⟨s6, t6, n6, k6, u6, o6⟩ := r6
              by_cases hs0 : serr = 0
              · subst hs0
                have R := Lib.hid (RR.out.trans (if_neg (fun g => g rfl)))
                have RT := SWR.out rfl
                obtain ⟨rl, rs⟩ := right_ps RT
                dsimp only at rl rs
                have u7 : Upd (fun b => b = cb id) W ((((((((W).setCell ⟨cb id, 0, none⟩ (.bool son)).setCell ⟨cb id, 1, none⟩ (.bool sbc)).setCell ⟨cb id, 2, none⟩ (.bool soi)).setCell ⟨cb id, 3, none⟩ (.bool soo)).setCell ⟨cb id, 4, none⟩ (.bool snl)).setCell ⟨cb id, 5, none⟩ (.int .i64 srd)).setCell ⟨cb id, 6, none⟩ (.slice p5 sn c5)) := setM_upd (Upd.refl (fun b => b = cb id) W) (fun _ => rfl)
                have k7 : Blk ((((((((W).setCell ⟨cb id, 0, none⟩ (.bool son)).setCell ⟨cb id, 1, none⟩ (.bool sbc)).setCell ⟨cb id, 2, none⟩ (.bool soi)).setCell ⟨cb id, 3, none⟩ (.bool soo)).setCell ⟨cb id, 4, none⟩ (.bool snl)).setCell ⟨cb id, 5, none⟩ (.int .i64 srd)).setCell ⟨cb id, 6, none⟩ (.slice p5 sn c5)) (cb id) (clc ⟨⟨son, sbc, soi, soo, snl, srd, sps⟩, ccg⟩ (.slice p5 sn c5)) 98 := ((((((k6.set 0 _).set 1 _).set 2 _).set 3 _).set 4 _).set 5 _).set 6 _
                have hnt : nb ≠ cb id := fun e => absurd (n6.ty (e ▸ k6)) (by decide)
                have htb : tb ≠ cb id := fun e => absurd (s6.blk.ty (e ▸ k6)) (by decide)
                have htb' := Ne.symm htb
                have hnt' := Ne.symm hnt
                have s7 := s6.clSet (Y := fun b => X b ∨ b = nb) (c := ⟨⟨con, cbc, coi, coo, cnl, crd, cps⟩, ccg⟩) (c' := ⟨⟨son, sbc, soi, soo, snl, srd, sps⟩, ccg⟩) (v := .slice cp cn cc) HC.out k6 u7 k7 (own_keep t6 u7 (fun b hb e => by
                  obtain ⟨_, _, cs, hs⟩ := txts_blkT t6 hb
                  subst e
                  exact absurd (k6.ty hs) (by decide))) RT (Or.inr (fun b hb => Or.inr hb)) (fun b hb => ⟨Or.inl hb, Or.inr (o6 b hb)⟩)
                have n7 := u7.blk n6 hnt
                have u8 : Upd (Fr base X) w ((((((((W).setCell ⟨cb id, 0, none⟩ (.bool son)).setCell ⟨cb id, 1, none⟩ (.bool sbc)).setCell ⟨cb id, 2, none⟩ (.bool soi)).setCell ⟨cb id, 3, none⟩ (.bool soo)).setCell ⟨cb id, 4, none⟩ (.bool snl)).setCell ⟨cb id, 5, none⟩ (.int .i64 srd)).setCell ⟨cb id, 6, none⟩ (.slice p5 sn c5)) := u6.trans (s6.frc HC.out u7) (fun b _ h => ⟨h.1, fun g => h.2 (Or.inl (Or.inl g))⟩)
                obtain ⟨xb, x0, x1, x2⟩ := s6.facts
                obtain ⟨g0, g1, g2, g3, g4, g5, g6, g7, g8⟩ := mode_facts n6
                obtain ⟨y0, y1, y2, y3, y4, y5, y6, y7, y8, y9⟩ := cl_facts (c := ⟨⟨con, cbc, coi, coo, cnl, crd, cps⟩, ccg⟩) (v := .slice cp cn cc) k6
                dsimp only at y2 y3 y4 y5 y6 y7 y9
                have PD := Lib.hid (s7.pdropC id (by omega))
                have HC1 : Hid (aget (aset M id ⟨⟨son, sbc, soi, soo, snl, srd, sps⟩, ccg⟩) id = some ⟨⟨son, sbc, soi, soo, snl, srd, sps⟩, ccg⟩) := by show _ = _; rw [aget_aset, if_pos rfl]
                have K7 := Lib.hid k7
                have N7 := Lib.hid n7
                have U8 := Lib.hid u8
                have RT := Lib.hid RT
                have RS := Lib.hid rs
                have RL : sn ≤ 32 := by have := SN.out; omega
                clear s6 t6 n6 k6 u6 o6 u7 k7 s7 n7 u8 rl rs RR SWR
                go_wp2_with fail
                refine PD.out.mono ?_
                rintro e w8 ⟨⟨q8, rfl⟩, s8, u8, kc8⟩
                have K8 := Lib.hid (kc8 id _ _ HC1.out K7.out)
                have n8 := u8.blk N7.out (fun h => h.2 (Or.inr rfl))
                have UW : Hid (Upd (Fr base X) w w8) := U8.out.trans u8 (fun b _ h => ⟨h.1, fun g => h.2 (Or.inl g)⟩)
                have S8 : Hid (TSt w8 base tb cm kb pb cb (fun b => X b ∨ b = nb) (aset M id ⟨⟨son, sbc, soi, soo, snl, srd, sps⟩, ccg⟩) most L n (fun t i => (P t i ∧ i ≠ id) ∨ (t ∈ sps.take 0 ∧ i = id)) (N + 0)) := s8.congr (fun t i => by simp)
                have N8 := Lib.hid n8
                clear y0 y1 y2 y3 y4 y5 y6 y7 y8 y9 g0 g1 g2 g3 g4 g5 g6 g7 g8 xb x0 x1 x2 hnt htb htb' hnt' PD K7 N7 U8 u8 kc8 s8
                obtain ⟨g0, g1, g2, g3, g4, g5, g6, g7, g8⟩ := mode_facts N8.out
                clear n8
                go_wp2
                go_loopw [70] (fun x70 wr => ∃ (k : Nat), k ≤ sn ∧ x70 = .int .i64 (k : Int) ∧ Hid (TSt wr base tb cm kb pb cb (fun b => X b ∨ b = nb) (aset M id ⟨⟨son, sbc, soi, soo, snl, srd, sps⟩, ccg⟩) most L n (fun t i => (P t i ∧ i ≠ id) ∨ (t ∈ sps.take k ∧ i = id)) (N + k)) ∧ Hid (Blk wr (cb id) (clc ⟨⟨son, sbc, soi, soo, snl, srd, sps⟩, ccg⟩ (.slice p5 sn c5)) 98) ∧ Hid (Blk wr nb [.bool son, .bool sbc, .bool soi, .bool soo, .bool snl, .int .i64 srd, .slice p5 sn c5] 32) ∧ Hid (Upd (Fr base X) w wr)) (fun x70 _ => sn - (intOf x70).toNat)
                case atStart => exact ⟨0, by omega, rfl, S8, K8, N8, UW⟩
                case round =>
                  clear S8 K8 N8 UW g0 g1 g2 g3 g4 g5 g6 g7 g8
                  obtain ⟨k, hk, rfl, S8, K8, N8, UW⟩ := hrel
                  by_cases hlt : k < sn
                  · have q9 : (k : Int) < (sn : Int) := by omega
                    have hkl : k < sps.length := by rw [← SN.out]; exact hlt
                    have tt := S8.out.clEq HC1.out K8.out
                    dsimp only at tt
                    rw [SN.out] at tt
                    obtain ⟨g, eg, hg, ck⟩ := txts_get tt hkl
                    subst eg
                    obtain ⟨xb, x0, x1, x2⟩ := S8.out.facts
                    obtain ⟨t, ht⟩ : ∃ t, t = sps[k] := ⟨_, rfl⟩
                    rw [← ht] at ck
                    have PA := Lib.hid (S8.out.paddC t id (by omega) (by have := RS.out t (by rw [ht]; exact List.getElem_mem hkl); omega))
                    have PE : Hid (∀ t' i, ((P t' i ∧ i ≠ id) ∨ (t' ∈ sps.take k ∧ i = id)) ∨ t' = t ∧ i = id ↔ (P t' i ∧ i ≠ id) ∨ (t' ∈ sps.take (k + 1) ∧ i = id)) := fun t' i => by
                      rw [List.take_succ_eq_append_getElem hkl, ← ht, List.mem_append, List.mem_singleton]
                      constructor
                      · rintro ((h | ⟨h1, h2⟩) | ⟨h1, h2⟩)
                        · exact Or.inl h
                        · exact Or.inr ⟨Or.inl h1, h2⟩
                        · exact Or.inr ⟨Or.inr h1, h2⟩
                      · rintro (h | ⟨h1 | h1, h2⟩)
                        · exact Or.inl (Or.inl h)
                        · exact Or.inl (Or.inr ⟨h1, h2⟩)
                        · exact Or.inr ⟨h1, h2⟩
                    clear ht hkl tt
                    generalize ofL t = st at *
                    go_wp2_with fail
                    refine PA.out.mono ?_
                    rintro e w9 ⟨⟨q10, rfl⟩, s9, u9, kc9⟩
                    have S9 : Hid (TSt w9 base tb cm kb pb cb (fun b => X b ∨ b = nb) (aset M id ⟨⟨son, sbc, soi, soo, snl, srd, sps⟩, ccg⟩) most L n (fun t i => (P t i ∧ i ≠ id) ∨ (t ∈ sps.take (k + 1) ∧ i = id)) (N + (k + 1))) := s9.congr PE.out
                    have K9 := Lib.hid (kc9 id _ _ HC1.out K8.out)
                    have N9 := Lib.hid (u9.blk N8.out (fun h => h.2 (Or.inr rfl)))
                    have U9 : Hid (Upd (Fr base X) w w9) := UW.out.trans u9 (fun b _ h => ⟨h.1, fun g => h.2 (Or.inl g)⟩)
                    clear s9 u9 kc9 PA PE S8 K8 N8 UW ck hg xb x0 x1 x2
                    go_wp2
                    go_roundw
                    case rel => exact ⟨k + 1, by omega, by go_num, S9, K9, N9, U9⟩
                    case measure => simp [intOf]; omega
                  · have q9 : ¬ (k : Int) < (sn : Int) := by omega
                    have ek : sps.take k = sps := List.take_of_length_le (by rw [← SN.out]; omega)
                    rw [ek] at S8
                    have S9 : Hid (TSt wr base tb cm kb pb cb X (aset M id ⟨⟨son, sbc, soi, soo, snl, srd, sps⟩, ccg⟩) most L n (fun t i => (P t i ∧ i ≠ id) ∨ (t ∈ sps ∧ i = id)) (N + 32)) := (S8.out.more (Nat.le_refl _) (by omega)).less (fun b hb => Or.inl hb)
                    obtain ⟨g0, g1, g2, g3, g4, g5, g6, g7, g8⟩ := mode_facts N8.out
                    obtain ⟨xb, x0, x1, x2⟩ := S9.out.facts
                    clear S8 ek RS
                    cases son with
                    | true =>
                      go_wp2
                      go_ret
                      rw [R.out]
                      exact ⟨rfl, S9.out, UW.out⟩
                    | false =>
                      have KD := Lib.hid (S9.out.kdrop (by omega) id)
                      go_wp2_with fail
                      refine KD.out.mono ?_
                      rintro e w9 ⟨⟨q10, rfl⟩, s9, u9⟩
                      obtain ⟨v9, hb9, ht9, _, _, _⟩ := s9.cl HC1.out
                      obtain ⟨y0, y1, _, _, _, _, _, _, _, y9⟩ := cl_facts hb9
                      have u10 : Upd (fun b => b = cb id) w9 (w9.setCell ⟨cb id, 7, none⟩ (.int .i64 0)) := (Upd.refl (fun b => b = cb id) w9).set (fun _ => rfl)
                      have s10 := s9.clSet (Y := X) (c' := ⟨⟨false, sbc, soi, soo, snl, srd, sps⟩, 0⟩) (v' := v9) HC1.out hb9 u10 (hb9.set 7 (.int .i64 0)) (own_keep ht9 u10 (fun b hb2 e => by
                        obtain ⟨_, _, cs, hs⟩ := txts_blkT ht9 hb2
                        subst e
                        exact absurd (hb9.ty hs) (by decide))) RT.out (Or.inl rfl) (fun b hb2 => ⟨hb2, Or.inl rfl⟩)
                      have U10 : Hid (Upd (Fr base X) w (w9.setCell ⟨cb id, 7, none⟩ (.int .i64 0))) := (UW.out.trans u9 (fun _ _ h => h)).trans (s9.frc HC1.out u10) (fun _ _ h => h)
                      rw [aset_aset] at s10
                      have S10 := Lib.hid s10
                      clear s10 u10 hb9 ht9 s9 u9 KD S9 UW N8 K8 g0 g1 g2 g3 g4 g5 g6 g7 g8 xb x0 x1 x2
                      go_wp2
                      go_ret
                      rw [R.out]
                      exact ⟨rfl, S10.out, U10.out⟩
              · have R := Lib.hid (RR.out.trans (if_pos hs0))
                have q9 : (serr != 0) = true := bne_iff_ne.2 hs0
                have S6 : Hid (TSt W base tb cm kb pb cb X M most L n P (N + 32)) := (s6.more (Nat.le_refl _) (Nat.le_add_right N 32)).less (fun b hb => Or.inl (Or.inl hb))
                have U6 := Lib.hid u6
                clear s6 t6 n6 k6 u6 o6 RR hs0
                go_wp2
                go_ret
                rw [R.out]
                exact ⟨rfl, S6.out, U6.out⟩
            case' hKRd7 =>
              go_simp
              have zz := SF.out _ (((Upd.refl _ w3).drew).alloc (.cells #[.bool false, .bool false, .bool false, .bool false, .bool false, .int .i64 0, .slice none 0 0] 32))
              refine hK.out _ _ ?_ (fun hHeld => ?_)
              · (first | with_reducible exact zz | ((try dsimp only); go_keep))
              clear hK K
              try simp only [Act.put, List.setIfInBounds_toArray, List.set_cons_zero, List.set_cons_succ]
              refine wpAnyH_ready (rs := [5]) (by kernel_rfl) (by simp) ?_
              refine' AllReadyH.cons (o := _) ?hiRd14 (fun K hK => ?hKRd14) AllReadyH.nil
              case' hiRd14 => (first | (simp only [List.getElem?_toArray, List.getElem?_cons_succ, List.getElem?_cons_zero]; done) | (simp only [List.getElem?_toArray, List.getElem?_cons_succ, List.getElem?_cons_zero]; rfl))
              go_simp
              (go_at_call 45; refine (SW.out _ (((Upd.refl _ _).drew).alloc _)).mono ?_; rintro e w5 ⟨p5, c5, rfl, r5⟩; obtain ⟨z5, f5⟩ := r5.out.2.2; have bn := r5.out.1.1.blk NB.out (fun h => h); obtain ⟨q0, q1, q2, q3, q4, q5, q6, q7, q8⟩ := mode_facts bn; have BN := Lib.hid bn; clear bn)
              refine hK.out _ _ ?_ (fun hHeld => ?_)
              · (first | with_reducible exact zz | ((try dsimp only); go_keep))
              clear hK K
              try simp only [Act.put, List.setIfInBounds_toArray, List.set_cons_zero, List.set_cons_succ]
              refine' wpAnyH_take (i := 6) (oi := _) (v := _) ?hiRd15 (by kernel_rfl) (by kernel_rfl) (by kernel_rfl) ?hQRd15 ?hyRd15 (by assumption) ?restRd15
              case' hiRd15 => (first | (simp only [List.getElem?_toArray, List.getElem?_cons_succ, List.getElem?_cons_zero]; done) | (simp only [List.getElem?_toArray, List.getElem?_cons_succ, List.getElem?_cons_zero]; rfl))
              case' hQRd15 => exact fun _ _ _ h => h
              case' hyRd15 => refine Or.inl ⟨by rfl, ?_⟩
              (intro w hSw; (try dsimp only at hSw); go_simp; try with_reducible rfl)
              try simp only [Act.put, List.setIfInBounds_toArray, List.set_cons_zero, List.set_cons_succ]
              refine' wpAnyH_take (i := 7) (oi := _) (v := _) ?hiRd16 (by kernel_rfl) (by kernel_rfl) (by kernel_rfl) ?hQRd16 ?hyRd16 (by assumption) ?restRd16
              case' hiRd16 => (first | (simp only [List.getElem?_toArray, List.getElem?_cons_succ, List.getElem?_cons_zero]; done) | (simp only [List.getElem?_toArray, List.getElem?_cons_succ, List.getElem?_cons_zero]; rfl))
              case' hQRd16 => exact fun _ _ _ h => h
              case' hyRd16 => refine Or.inl ⟨by rfl, ?_⟩
              (intro w hSw; (try dsimp only at hSw); go_simp; try with_reducible rfl)
              try simp only [Act.put, List.setIfInBounds_toArray, List.set_cons_zero, List.set_cons_succ]
              refine' wpAnyH_take (i := 8) (oi := _) (v := _) ?hiRd17 (by kernel_rfl) (by kernel_rfl) (by kernel_rfl) ?hQRd17 ?hyRd17 (by assumption) ?restRd17
              case' hiRd17 => (first | (simp only [List.getElem?_toArray, List.getElem?_cons_succ, List.getElem?_cons_zero]; done) | (simp only [List.getElem?_toArray, List.getElem?_cons_succ, List.getElem?_cons_zero]; rfl))
              case' hQRd17 => exact fun _ _ _ h => h
              case' hyRd17 => refine Or.inl ⟨by rfl, ?_⟩
              (intro w hSw; (try dsimp only at hSw); go_simp; try with_reducible rfl)
              try simp only [Act.put, List.setIfInBounds_toArray, List.set_cons_zero, List.set_cons_succ]
              refine wpAnyH_ready (rs := [10]) (by kernel_rfl) (by simp) ?_
              refine' AllReadyH.cons (o := _) ?hiRd18 (fun K hK => ?hKRd18) AllReadyH.nil
              case' hiRd18 => (first | (simp only [List.getElem?_toArray, List.getElem?_cons_succ, List.getElem?_cons_zero]; done) | (simp only [List.getElem?_toArray, List.getElem?_cons_succ, List.getElem?_cons_zero]; rfl))
              go_simp
              (have zz := SG.out w5 _ r5.out.1.2 (setM_upd (b := w3.heap.size) (a0 := .bool son) (a1 := .bool sbc) (a2 := .bool soi) (a3 := .bool soo) (a4 := .bool snl) (a5 := .int .i64 srd) (a6 := .slice p5 sn c5) (Upd.refl (fun b => b = w3.heap.size) w5) (fun _ => rfl))); unfold setM at zz
              refine hK.out _ _ ?_ (fun hHeld => ?_)
              · (first | with_reducible exact zz | ((try dsimp only); go_keep))
              clear hK K
              try simp only [Act.put, List.setIfInBounds_toArray, List.set_cons_zero, List.set_cons_succ]
              refine' wpAnyH_take (i := 11) (oi := _) (v := _) ?hiRd19 (by kernel_rfl) (by kernel_rfl) (by kernel_rfl) ?hQRd19 ?hyRd19 (by assumption) ?restRd19
              case' hiRd19 => (first | (simp only [List.getElem?_toArray, List.getElem?_cons_succ, List.getElem?_cons_zero]; done) | (simp only [List.getElem?_toArray, List.getElem?_cons_succ, List.getElem?_cons_zero]; rfl))
              case' hQRd19 => exact fun _ _ _ h => h
              case' hyRd19 => refine Or.inl ⟨by rfl, ?_⟩
              (intro w hSw; (try dsimp only at hSw); go_simp; try with_reducible rfl)
              try simp only [Act.put, List.setIfInBounds_toArray, List.set_cons_zero, List.set_cons_succ]
              refine wpAnyH_done (by kernel_rfl) ?_ _
              have bF := setM_blk (a0 := .bool son) (a1 := .bool sbc) (a2 := .bool soi) (a3 := .bool soo) (a4 := .bool snl) (a5 := .int .i64 srd) (a6 := .slice p5 sn c5) BN.out
              have uF := setM_upd (b := w3.heap.size) (a0 := .bool son) (a1 := .bool sbc) (a2 := .bool soi) (a3 := .bool soo) (a4 := .bool snl) (a5 := .int .i64 srd) (a6 := .slice p5 sn c5) (Upd.refl (fun b => b = w3.heap.size) w5) (fun _ => rfl)
              have r6 := AFT.out w5 w3.heap.size _ p5 c5 ⟨r5.out.1.2, r5.out.2.1⟩ bF uF (Nat.le_refl _) (Nat.lt_of_lt_of_le q0 uF.size) (fun b hb e => by obtain ⟨_, _, cs, hs⟩ := own_lt r5.out.2.1 hb; subst e; exact ty_ne (BN.out.ty hs))
              unfold setM at r6
              clear z5 f5 r5 hHeld bF uF SW NB AFT BN y0 y1 y2 y3 y4 y5 y6 y7 y8 y9 q0 q1 q2 q3 q4 q5 q6 q7 q8
              generalize hW : (((((((w5).setCell ⟨w3.heap.size, 0, none⟩ (.bool son)).setCell ⟨w3.heap.size, 1, none⟩ (.bool sbc)).setCell ⟨w3.heap.size, 2, none⟩ (.bool soi)).setCell ⟨w3.heap.size, 3, none⟩ (.bool soo)).setCell ⟨w3.heap.size, 4, none⟩ (.bool snl)).setCell ⟨w3.heap.size, 5, none⟩ (.int .i64 srd)).setCell ⟨w3.heap.size, 6, none⟩ (.slice p5 sn c5) = W at *
              generalize w3.heap.size = nb at *
              clear hW
              obtain ⟨s6, t6, n6, k6, u6, o6⟩ := r6
              by_cases hs0 : serr = 0
              · subst hs0
                have R := Lib.hid (RR.out.trans (if_neg (fun g => g rfl)))
                have RT := SWR.out rfl
                obtain ⟨rl, rs⟩ := right_ps RT
                dsimp only at rl rs
                have u7 : Upd (fun b => b = cb id) W ((((((((W).setCell ⟨cb id, 0, none⟩ (.bool son)).setCell ⟨cb id, 1, none⟩ (.bool sbc)).setCell ⟨cb id, 2, none⟩ (.bool soi)).setCell ⟨cb id, 3, none⟩ (.bool soo)).setCell ⟨cb id, 4, none⟩ (.bool snl)).setCell ⟨cb id, 5, none⟩ (.int .i64 srd)).setCell ⟨cb id, 6, none⟩ (.slice p5 sn c5)) := setM_upd (Upd.refl (fun b => b = cb id) W) (fun _ => rfl)
                have k7 : Blk ((((((((W).setCell ⟨cb id, 0, none⟩ (.bool son)).setCell ⟨cb id, 1, none⟩ (.bool sbc)).setCell ⟨cb id, 2, none⟩ (.bool soi)).setCell ⟨cb id, 3, none⟩ (.bool soo)).setCell ⟨cb id, 4, none⟩ (.bool snl)).setCell ⟨cb id, 5, none⟩ (.int .i64 srd)).setCell ⟨cb id, 6, none⟩ (.slice p5 sn c5)) (cb id) (clc ⟨⟨son, sbc, soi, soo, snl, srd, sps⟩, ccg⟩ (.slice p5 sn c5)) 98 := ((((((k6.set 0 _).set 1 _).set 2 _).set 3 _).set 4 _).set 5 _).set 6 _
                have hnt : nb ≠ cb id := fun e => absurd (n6.ty (e ▸ k6)) (by decide)
                have htb : tb ≠ cb id := fun e => absurd (s6.blk.ty (e ▸ k6)) (by decide)
                have htb' := Ne.symm htb
                have hnt' := Ne.symm hnt
                have s7 := s6.clSet (Y := fun b => X b ∨ b = nb) (c := ⟨⟨con, cbc, coi, coo, cnl, crd, cps⟩, ccg⟩) (c' := ⟨⟨son, sbc, soi, soo, snl, srd, sps⟩, ccg⟩) (v := .slice cp cn cc) HC.out k6 u7 k7 (own_keep t6 u7 (fun b hb e => by
                  obtain ⟨_, _, cs, hs⟩ := txts_blkT t6 hb
                  subst e
                  exact absurd (k6.ty hs) (by decide))) RT (Or.inr (fun b hb => Or.inr hb)) (fun b hb => ⟨Or.inl hb, Or.inr (o6 b hb)⟩)
                have n7 := u7.blk n6 hnt
                have u8 : Upd (Fr base X) w ((((((((W).setCell ⟨cb id, 0, none⟩ (.bool son)).setCell ⟨cb id, 1, none⟩ (.bool sbc)).setCell ⟨cb id, 2, none⟩ (.bool soi)).setCell ⟨cb id, 3, none⟩ (.bool soo)).setCell ⟨cb id, 4, none⟩ (.bool snl)).setCell ⟨cb id, 5, none⟩ (.int .i64 srd)).setCell ⟨cb id, 6, none⟩ (.slice p5 sn c5)) := u6.trans (s6.frc HC.out u7) (fun b _ h => ⟨h.1, fun g => h.2 (Or.inl (Or.inl g))⟩)
                obtain ⟨xb, x0, x1, x2⟩ := s6.facts
                obtain ⟨g0, g1, g2, g3, g4, g5, g6, g7, g8⟩ := mode_facts n6
                obtain ⟨y0, y1, y2, y3, y4, y5, y6, y7, y8, y9⟩ := cl_facts (c := ⟨⟨con, cbc, coi, coo, cnl, crd, cps⟩, ccg⟩) (v := .slice cp cn cc) k6
                dsimp only at y2 y3 y4 y5 y6 y7 y9
                have PD := Lib.hid (s7.pdropC id (by omega))
                have HC1 : Hid (aget (aset M id ⟨⟨son, sbc, soi, soo, snl, srd, sps⟩, ccg⟩) id = some ⟨⟨son, sbc, soi, soo, snl, srd, sps⟩, ccg⟩) := by show _ = _; rw [aget_aset, if_pos rfl]
                have K7 := Lib.hid k7
                have N7 := Lib.hid n7
                have U8 := Lib.hid u8
                have RT := Lib.hid RT
                have RS := Lib.hid rs
                have RL : sn ≤ 32 := by have := SN.out; omega
                clear s6 t6 n6 k6 u6 o6 u7 k7 s7 n7 u8 rl rs RR SWR
                go_wp2_with fail
                refine PD.out.mono ?_
                rintro e w8 ⟨⟨q8, rfl⟩, s8, u8, kc8⟩
                have K8 := Lib.hid (kc8 id _ _ HC1.out K7.out)
                have n8 := u8.blk N7.out (fun h => h.2 (Or.inr rfl))
                have UW : Hid (Upd (Fr base X) w w8) := U8.out.trans u8 (fun b _ h => ⟨h.1, fun g => h.2 (Or.inl g)⟩)
                have S8 : Hid (TSt w8 base tb cm kb pb cb (fun b => X b ∨ b = nb) (aset M id ⟨⟨son, sbc, soi, soo, snl, srd, sps⟩, ccg⟩) most L n (fun t i => (P t i ∧ i ≠ id) ∨ (t ∈ sps.take 0 ∧ i = id)) (N + 0)) := s8.congr (fun t i => by simp)
                have N8 := Lib.hid n8
                clear y0 y1 y2 y3 y4 y5 y6 y7 y8 y9 g0 g1 g2 g3 g4 g5 g6 g7 g8 xb x0 x1 x2 hnt htb htb' hnt' PD K7 N7 U8 u8 kc8 s8
                obtain ⟨g0, g1, g2, g3, g4, g5, g6, g7, g8⟩ := mode_facts N8.out
                clear n8
                go_wp2
                go_loopw [70] (fun x70 wr => ∃ (k : Nat), k ≤ sn ∧ x70 = .int .i64 (k : Int) ∧ Hid (TSt wr base tb cm kb pb cb (fun b => X b ∨ b = nb) (aset M id ⟨⟨son, sbc, soi, soo, snl, srd, sps⟩, ccg⟩) most L n (fun t i => (P t i ∧ i ≠ id) ∨ (t ∈ sps.take k ∧ i = id)) (N + k)) ∧ Hid (Blk wr (cb id) (clc ⟨⟨son, sbc, soi, soo, snl, srd, sps⟩, ccg⟩ (.slice p5 sn c5)) 98) ∧ Hid (Blk wr nb [.bool son, .bool sbc, .bool soi, .bool soo, .bool snl, .int .i64 srd, .slice p5 sn c5] 32) ∧ Hid (Upd (Fr base X) w wr)) (fun x70 _ => sn - (intOf x70).toNat)
                case atStart => exact ⟨0, by omega, rfl, S8, K8, N8, UW⟩
                case round =>
                  clear S8 K8 N8 UW g0 g1 g2 g3 g4 g5 g6 g7 g8
                  obtain ⟨k, hk, rfl, S8, K8, N8, UW⟩ := hrel
                  by_cases hlt : k < sn
                  · have q9 : (k : Int) < (sn : Int) := by omega
                    have hkl : k < sps.length := by rw [← SN.out]; exact hlt
                    have tt := S8.out.clEq HC1.out K8.out
                    dsimp only at tt
                    rw [SN.out] at tt
                    obtain ⟨g, eg, hg, ck⟩ := txts_get tt hkl
                    subst eg
                    obtain ⟨xb, x0, x1, x2⟩ := S8.out.facts
                    obtain ⟨t, ht⟩ : ∃ t, t = sps[k] := ⟨_, rfl⟩
                    rw [← ht] at ck
                    have PA := Lib.hid (S8.out.paddC t id (by omega) (by have := RS.out t (by rw [ht]; exact List.getElem_mem hkl); omega))
                    have PE : Hid (∀ t' i, ((P t' i ∧ i ≠ id) ∨ (t' ∈ sps.take k ∧ i = id)) ∨ t' = t ∧ i = id ↔ (P t' i ∧ i ≠ id) ∨ (t' ∈ sps.take (k + 1) ∧ i = id)) := fun t' i => by
                      rw [List.take_succ_eq_append_getElem hkl, ← ht, List.mem_append, List.mem_singleton]
                      constructor
                      · rintro ((h | ⟨h1, h2⟩) | ⟨h1, h2⟩)
                        · exact Or.inl h
                        · exact Or.inr ⟨Or.inl h1, h2⟩
                        · exact Or.inr ⟨Or.inr h1, h2⟩
                      · rintro (h | ⟨h1 | h1, h2⟩)
                        · exact Or.inl (Or.inl h)
                        · exact Or.inl (Or.inr ⟨h1, h2⟩)
                        · exact Or.inr ⟨h1, h2⟩
                    clear ht hkl tt
                    generalize ofL t = st at *
                    go_wp2_with fail
                    refine PA.out.mono ?_
                    rintro e w9 ⟨⟨q10, rfl⟩, s9, u9, kc9⟩
                    have S9 : Hid (TSt w9 base tb cm kb pb cb (fun b => X b ∨ b = nb) (aset M id ⟨⟨son, sbc, soi, soo, snl, srd, sps⟩, ccg⟩) most L n (fun t i => (P t i ∧ i ≠ id) ∨ (t ∈ sps.take (k + 1) ∧ i = id)) (N + (k + 1))) := s9.congr PE.out
                    have K9 := Lib.hid (kc9 id _ _ HC1.out K8.out)
                    have N9 := Lib.hid (u9.blk N8.out (fun h => h.2 (Or.inr rfl)))
                    have U9 : Hid (Upd (Fr base X) w w9) := UW.out.trans u9 (fun b _ h => ⟨h.1, fun g => h.2 (Or.inl g)⟩)
                    clear s9 u9 kc9 PA PE S8 K8 N8 UW ck hg xb x0 x1 x2
                    go_wp2
                    go_roundw
                    case rel => exact ⟨k + 1, by omega, by go_num, S9, K9, N9, U9⟩
                    case measure => simp [intOf]; omega
                  · have q9 : ¬ (k : Int) < (sn : Int) := by omega
                    have ek : sps.take k = sps := List.take_of_length_le (by rw [← SN.out]; omega)
                    rw [ek] at S8
                    have S9 : Hid (TSt wr base tb cm kb pb cb X (aset M id ⟨⟨son, sbc, soi, soo, snl, srd, sps⟩, ccg⟩) most L n (fun t i => (P t i ∧ i ≠ id) ∨ (t ∈ sps ∧ i = id)) (N + 32)) := (S8.out.more (Nat.le_refl _) (by omega)).less (fun b hb => Or.inl hb)
                    obtain ⟨g0, g1, g2, g3, g4, g5, g6, g7, g8⟩ := mode_facts N8.out
                    obtain ⟨xb, x0, x1, x2⟩ := S9.out.facts
                    clear S8 ek RS
                    cases son with
                    | true =>
                      go_wp2
                      go_ret
                      rw [R.out]
                      exact ⟨rfl, S9.out, UW.out⟩
                    | false =>
                      have KD := Lib.hid (S9.out.kdrop (by omega) id)
                      go_wp2_with fail
                      refine KD.out.mono ?_
                      rintro e w9 ⟨⟨q10, rfl⟩, s9, u9⟩
                      obtain ⟨v9, hb9, ht9, _, _, _⟩ := s9.cl HC1.out
                      obtain ⟨y0, y1, _, _, _, _, _, _, _, y9⟩ := cl_facts hb9
                      have u10 : Upd (fun b => b = cb id) w9 (w9.setCell ⟨cb id, 7, none⟩ (.int .i64 0)) := (Upd.refl (fun b => b = cb id) w9).set (fun _ => rfl)
                      have s10 := s9.clSet (Y := X) (c' := ⟨⟨false, sbc, soi, soo, snl, srd, sps⟩, 0⟩) (v' := v9) HC1.out hb9 u10 (hb9.set 7 (.int .i64 0)) (own_keep ht9 u10 (fun b hb2 e => by
                        obtain ⟨_, _, cs, hs⟩ := txts_blkT ht9 hb2
                        subst e
                        exact absurd (hb9.ty hs) (by decide))) RT.out (Or.inl rfl) (fun b hb2 => ⟨hb2, Or.inl rfl⟩)
                      have U10 : Hid (Upd (Fr base X) w (w9.setCell ⟨cb id, 7, none⟩ (.int .i64 0))) := (UW.out.trans u9 (fun _ _ h => h)).trans (s9.frc HC1.out u10) (fun _ _ h => h)
                      rw [aset_aset] at s10
                      have S10 := Lib.hid s10
                      clear s10 u10 hb9 ht9 s9 u9 KD S9 UW N8 K8 g0 g1 g2 g3 g4 g5 g6 g7 g8 xb x0 x1 x2
                      go_wp2
                      go_ret
                      rw [R.out]
                      exact ⟨rfl, S10.out, U10.out⟩
              · have R := Lib.hid (RR.out.trans (if_pos hs0))
                have q9 : (serr != 0) = true := bne_iff_ne.2 hs0
                have S6 : Hid (TSt W base tb cm kb pb cb X M most L n P (N + 32)) := (s6.more (Nat.le_refl _) (Nat.le_add_right N 32)).less (fun b hb => Or.inl (Or.inl hb))
                have U6 := Lib.hid u6
                clear s6 t6 n6 k6 u6 o6 RR hs0
                go_wp2
                go_ret
                rw [R.out]
                exact ⟨rfl, S6.out, U6.out⟩
end
end Go.Proofs.YtmlojbfcmebboaaGreat
