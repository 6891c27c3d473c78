/- Walks: a client has read keys: who is told. -/
import Derived.Test.YtmlojbfcmebboaaGreatK23
import Derived.Deep.RegionHeld3
set_option linter.unusedVariables false
set_option linter.unusedSimpArgs false
set_option linter.unusedSectionVars false
set_option maxRecDepth 100000
namespace Go.Proofs.YtmlojbfcmebboaaGreat
open Go.RowKit

section
variable {w w' : World} {base tb cm kb pb : Nat} {cb : Int → Nat} {X Y : Nat → Prop} {M : List (Int × CL)} {most : Int} {L : Rows14} {n : Nat} {P P' : Txt → Int → Prop} {N : Nat}
set_option maxHeartbeats 8000000 in
theorem TSt.readE (h : TSt w base tb cm kb pb cb X M most L n P N) (id : Int) (v : Value) (l : List Txt) (hr : RowOf txtc 1 w v l) (hd : l = [] ∨ ∀ b, v.ownBlock = some b → ¬ Fr base X b) (hl : l.length ≤ 1000) (hn : n + l.length ≤ 80000) (hs : ∀ t ∈ l, t.length ≤ maxLen) :
    Calls Tryz.prog 14 #[.pointer (some ⟨tb, 0, none⟩), .int .i64 id, v] w fun e w' => ∃ v', e = .returned v' ∧ RSt w' w base tb cm kb pb cb X M most (readP M most L id l).2 (n + l.length) P N v' (readP M most L id l).1 := by
  obtain ⟨xb, x0, x1, x2⟩ := h.facts
  have H := Lib.hid h
  obtain ⟨pv, kv, ev, hm⟩ := hr.len
  subst ev
  have HR := Lib.hid hr
  have HD := Lib.hid hd
  have HS := Lib.hid hs
  cases hc : aget M id with
  | none =>
    have R : Hid (readP M most L id l = ([], L)) := by show _ = _; unfold readP; rw [hc]
    have LK := h.lookN hc
    clear h hc hr hd hs hm
    generalize l.length = nl at *
    go_enter Tryz.func14, Tryz.ntmps14
    go_wp2_with fail
    refine wp_region_held_drew (S := (fun _ => True)) (by kernel_rfl) ?_ (fun hHeld => ?_)
    · trivial
    try simp only [Array.replicate, Act.put, List.setIfInBounds_toArray]
    refine' wpAnyH_take (i := 0) (oi := _) (v := _) ?hiNa1 (by kernel_rfl) (by kernel_rfl) (by kernel_rfl) ?hQNa1 ?hyNa1 (by assumption) ?restNa1
    case' hiNa1 => (first | (simp only [List.getElem?_toArray, List.getElem?_cons_succ, List.getElem?_cons_zero]; done) | (simp only [List.getElem?_toArray, List.getElem?_cons_succ, List.getElem?_cons_zero]; rfl))
    case' hQNa1 => exact fun _ _ _ h => h
    case' hyNa1 => refine Or.inl ⟨by rfl, ?_⟩
    (intro w hSw; (try dsimp only at hSw); go_simp; try with_reducible rfl)
    try simp only [Act.put, List.setIfInBounds_toArray, List.set_cons_zero, List.set_cons_succ]
    refine' wpAnyH_take (i := 1) (oi := _) (v := _) ?hiNa2 (by kernel_rfl) (by kernel_rfl) (by kernel_rfl) ?hQNa2 ?hyNa2 (by assumption) ?restNa2
    case' hiNa2 => (first | (simp only [List.getElem?_toArray, List.getElem?_cons_succ, List.getElem?_cons_zero]; done) | (simp only [List.getElem?_toArray, List.getElem?_cons_succ, List.getElem?_cons_zero]; rfl))
    case' hQNa2 => exact fun _ _ _ h => h
    case' hyNa2 => refine Or.inl ⟨by rfl, ?_⟩
    (intro w hSw; (try dsimp only at hSw); go_simp; try with_reducible rfl)
    try simp only [Act.put, List.setIfInBounds_toArray, List.set_cons_zero, List.set_cons_succ]
    refine' wpAnyH_take (i := 2) (oi := _) (v := _) ?hiNa3 (by kernel_rfl) (by kernel_rfl) (by kernel_rfl) ?hQNa3 ?hyNa3 (by assumption) ?restNa3
    case' hiNa3 => (first | (simp only [List.getElem?_toArray, List.getElem?_cons_succ, List.getElem?_cons_zero]; done) | (simp only [List.getElem?_toArray, List.getElem?_cons_succ, List.getElem?_cons_zero]; rfl))
    case' hQNa3 => exact fun _ _ _ h => h
    case' hyNa3 => refine Or.inl ⟨by rfl, ?_⟩
    (intro w hSw; (try dsimp only at hSw); go_simp; try with_reducible rfl)
    try simp only [Act.put, List.setIfInBounds_toArray, List.set_cons_zero, List.set_cons_succ]
    refine' wpAnyH_take (i := 3) (oi := _) (v := undef) ?hiNa4 (by kernel_rfl) (by kernel_rfl) (by kernel_rfl) ?hQNa4 ?hyNa4 (by assumption) ?restNa4
    case' hiNa4 => (first | (simp only [List.getElem?_toArray, List.getElem?_cons_succ, List.getElem?_cons_zero]; done) | (simp only [List.getElem?_toArray, List.getElem?_cons_succ, List.getElem?_cons_zero]; rfl))
    case' hQNa4 => exact fun _ _ _ h => h
    case' hyNa4 => exact Or.inr ⟨by rfl, rfl⟩
    try simp only [Act.put, List.setIfInBounds_toArray, List.set_cons_zero, List.set_cons_succ]
    refine' wpAnyH_take (i := 4) (oi := _) (v := undef) ?hiNa5 (by kernel_rfl) (by kernel_rfl) (by kernel_rfl) ?hQNa5 ?hyNa5 (by assumption) ?restNa5
    case' hiNa5 => (first | (simp only [List.getElem?_toArray, List.getElem?_cons_succ, List.getElem?_cons_zero]; done) | (simp only [List.getElem?_toArray, List.getElem?_cons_succ, List.getElem?_cons_zero]; rfl))
    case' hQNa5 => exact fun _ _ _ h => h
    case' hyNa5 => exact Or.inr ⟨by rfl, rfl⟩
    try simp only [Act.put, List.setIfInBounds_toArray, List.set_cons_zero, List.set_cons_succ]
    refine' wpAnyH_take (i := 5) (oi := _) (v := undef) ?hiNa6 (by kernel_rfl) (by kernel_rfl) (by kernel_rfl) ?hQNa6 ?hyNa6 (by assumption) ?restNa6
    case' hiNa6 => (first | (simp only [List.getElem?_toArray, List.getElem?_cons_succ, List.getElem?_cons_zero]; done) | (simp only [List.getElem?_toArray, List.getElem?_cons_succ, List.getElem?_cons_zero]; rfl))
    case' hQNa6 => exact fun _ _ _ h => h
    case' hyNa6 => exact Or.inr ⟨by rfl, rfl⟩
    try simp only [Act.put, List.setIfInBounds_toArray, List.set_cons_zero, List.set_cons_succ]
    refine' wpAnyH_take (i := 6) (oi := _) (v := undef) ?hiNa7 (by kernel_rfl) (by kernel_rfl) (by kernel_rfl) ?hQNa7 ?hyNa7 (by assumption) ?restNa7
    case' hiNa7 => (first | (simp only [List.getElem?_toArray, List.getElem?_cons_succ, List.getElem?_cons_zero]; done) | (simp only [List.getElem?_toArray, List.getElem?_cons_succ, List.getElem?_cons_zero]; rfl))
    case' hQNa7 => exact fun _ _ _ h => h
    case' hyNa7 => exact Or.inr ⟨by rfl, rfl⟩
    try simp only [Act.put, List.setIfInBounds_toArray, List.set_cons_zero, List.set_cons_succ]
    refine' wpAnyH_take (i := 7) (oi := _) (v := undef) ?hiNa8 (by kernel_rfl) (by kernel_rfl) (by kernel_rfl) ?hQNa8 ?hyNa8 (by assumption) ?restNa8
    case' hiNa8 => (first | (simp only [List.getElem?_toArray, List.getElem?_cons_succ, List.getElem?_cons_zero]; done) | (simp only [List.getElem?_toArray, List.getElem?_cons_succ, List.getElem?_cons_zero]; rfl))
    case' hQNa8 => exact fun _ _ _ h => h
    case' hyNa8 => exact Or.inr ⟨by rfl, rfl⟩
    try simp only [Act.put, List.setIfInBounds_toArray, List.set_cons_zero, List.set_cons_succ]
    refine' wpAnyH_take (i := 8) (oi := _) (v := undef) ?hiNa9 (by kernel_rfl) (by kernel_rfl) (by kernel_rfl) ?hQNa9 ?hyNa9 (by assumption) ?restNa9
    case' hiNa9 => (first | (simp only [List.getElem?_toArray, List.getElem?_cons_succ, List.getElem?_cons_zero]; done) | (simp only [List.getElem?_toArray, List.getElem?_cons_succ, List.getElem?_cons_zero]; rfl))
    case' hQNa9 => exact fun _ _ _ h => h
    case' hyNa9 => exact Or.inr ⟨by rfl, rfl⟩
    try simp only [Act.put, List.setIfInBounds_toArray, List.set_cons_zero, List.set_cons_succ]
    refine' wpAnyH_take (i := 9) (oi := _) (v := undef) ?hiNa10 (by kernel_rfl) (by kernel_rfl) (by kernel_rfl) ?hQNa10 ?hyNa10 (by assumption) ?restNa10
    case' hiNa10 => (first | (simp only [List.getElem?_toArray, List.getElem?_cons_succ, List.getElem?_cons_zero]; done) | (simp only [List.getElem?_toArray, List.getElem?_cons_succ, List.getElem?_cons_zero]; rfl))
    case' hQNa10 => exact fun _ _ _ h => h
    case' hyNa10 => exact Or.inr ⟨by rfl, rfl⟩
    try simp only [Act.put, List.setIfInBounds_toArray, List.set_cons_zero, List.set_cons_succ]
    refine' wpAnyH_take (i := 10) (oi := _) (v := undef) ?hiNa11 (by kernel_rfl) (by kernel_rfl) (by kernel_rfl) ?hQNa11 ?hyNa11 (by assumption) ?restNa11
    case' hiNa11 => (first | (simp only [List.getElem?_toArray, List.getElem?_cons_succ, List.getElem?_cons_zero]; done) | (simp only [List.getElem?_toArray, List.getElem?_cons_succ, List.getElem?_cons_zero]; rfl))
    case' hQNa11 => exact fun _ _ _ h => h
    case' hyNa11 => exact Or.inr ⟨by rfl, rfl⟩
    try simp only [Act.put, List.setIfInBounds_toArray, List.set_cons_zero, List.set_cons_succ]
    refine' wpAnyH_take (i := 11) (oi := _) (v := undef) ?hiNa12 (by kernel_rfl) (by kernel_rfl) (by kernel_rfl) ?hQNa12 ?hyNa12 (by assumption) ?restNa12
    case' hiNa12 => (first | (simp only [List.getElem?_toArray, List.getElem?_cons_succ, List.getElem?_cons_zero]; done) | (simp only [List.getElem?_toArray, List.getElem?_cons_succ, List.getElem?_cons_zero]; rfl))
    case' hQNa12 => exact fun _ _ _ h => h
    case' hyNa12 => exact Or.inr ⟨by rfl, rfl⟩
    try simp only [Act.put, List.setIfInBounds_toArray, List.set_cons_zero, List.set_cons_succ]
    refine' wpAnyH_take (i := 12) (oi := _) (v := undef) ?hiNa13 (by kernel_rfl) (by kernel_rfl) (by kernel_rfl) ?hQNa13 ?hyNa13 (by assumption) ?restNa13
    case' hiNa13 => (first | (simp only [List.getElem?_toArray, List.getElem?_cons_succ, List.getElem?_cons_zero]; done) | (simp only [List.getElem?_toArray, List.getElem?_cons_succ, List.getElem?_cons_zero]; rfl))
    case' hQNa13 => exact fun _ _ _ h => h
    case' hyNa13 => exact Or.inr ⟨by rfl, rfl⟩
    try simp only [Act.put, List.setIfInBounds_toArray, List.set_cons_zero, List.set_cons_succ]
    refine' wpAnyH_take (i := 13) (oi := _) (v := _) ?hiNa14 (by kernel_rfl) (by kernel_rfl) (by kernel_rfl) ?hQNa14 ?hyNa14 (by assumption) ?restNa14
    case' hiNa14 => (first | (simp only [List.getElem?_toArray, List.getElem?_cons_succ, List.getElem?_cons_zero]; done) | (simp only [List.getElem?_toArray, List.getElem?_cons_succ, List.getElem?_cons_zero]; rfl))
    case' hQNa14 => exact fun _ _ _ h => h
    case' hyNa14 => refine Or.inl ⟨by rfl, ?_⟩
    (intro w hSw; (try dsimp only at hSw); go_simp; try with_reducible rfl)
    try simp only [Act.put, List.setIfInBounds_toArray, List.set_cons_zero, List.set_cons_succ]
    refine wpAnyH_done (by kernel_rfl) ?_ _
    go_wp2
    go_ret
    rw [R.out]
    exact ⟨_, rfl, ((RSt.start (H.out.more (Nat.le_add_right _ _) (Nat.le_refl _))).keep0 ((Upd.refl _ _).drew))⟩
  | some c =>
    have RR : readP M most L id l = (if tracksM c.md c.cg = true then readL (aget M) most id l L else ([], L)) := by unfold readP; rw [hc]
    have LK := h.lookS hc
    obtain ⟨vm, hb, ht, _, _, hv⟩ := h.cl hc
    obtain ⟨pm, km, em, _⟩ := own_slice ht
    have TR : Hid (∀ w1, Upd (fun _ => False) w w1 → Calls Tryz.prog 49 #[mdV c.md vm, .int .i64 c.cg] w1 fun e w' => e = .returned (.bool (tracksM c.md c.cg)) ∧ Upd (fun _ => False) w w') := fun w1 u => (tracks_any c.md vm c.cg w1).mono fun e w' ⟨h1, h2⟩ => ⟨h1, u.trans h2 (fun _ _ h => h)⟩
    have CF : Hid (∀ w1, Upd (fun _ => False) w w1 → Blk w1 (cb id) (clc c vm) 98) := fun w1 u => u.blk hb (fun h => h)
    subst em
    obtain ⟨y0, y1, y2, y3, y4, y5, y6, y7, y8, y9⟩ := cl_facts hb
    have CF : Hid (∀ w1, Upd (fun _ => False) w w1 → w1.cell? ⟨cb id, 0, none⟩ = some (.bool c.md.on) ∧ w1.cell? ⟨cb id, 1, none⟩ = some (.bool c.md.bc) ∧ w1.cell? ⟨cb id, 2, none⟩ = some (.bool c.md.oi) ∧ w1.cell? ⟨cb id, 3, none⟩ = some (.bool c.md.oo) ∧ w1.cell? ⟨cb id, 4, none⟩ = some (.bool c.md.nl) ∧ w1.cell? ⟨cb id, 5, none⟩ = some (.int .i64 c.md.rd) ∧ w1.cell? ⟨cb id, 6, none⟩ = some (.slice pm c.md.ps.length km) ∧ w1.cell? ⟨cb id, 7, none⟩ = some (.int .i64 c.cg)) := fun w1 u => (cl_facts (CF.out w1 u)).2.2
    clear h hc hr hd hs hm hb ht hv
    unfold mdV at TR
    generalize tracksM c.md c.cg = tr at *
    obtain ⟨⟨on, bc, oi, oo, nl, rd, ps⟩, cg⟩ := c
    dsimp only at *
    generalize ps.length = nm at *
    obtain ⟨ll, hll⟩ : ∃ ll, ll = l.length := ⟨_, rfl⟩
    rw [← hll] at hl hn ⊢
    have LL := Lib.hid hll
    clear hll
    cases tr with
    | false =>
      have R : Hid (readP M most L id l = ([], L)) := RR
      clear RR HR HS HD
      go_enter Tryz.func14, Tryz.ntmps14
      go_wp2_with fail
      refine wp_region_held_drew (S := (fun w' => w'.cell? ⟨cb id, 0, none⟩ = some (.bool on) ∧ w'.cell? ⟨cb id, 1, none⟩ = some (.bool bc) ∧ w'.cell? ⟨cb id, 2, none⟩ = some (.bool oi) ∧ w'.cell? ⟨cb id, 3, none⟩ = some (.bool oo) ∧ w'.cell? ⟨cb id, 4, none⟩ = some (.bool nl) ∧ w'.cell? ⟨cb id, 5, none⟩ = some (.int .i64 rd) ∧ w'.cell? ⟨cb id, 6, none⟩ = some (.slice pm nm km) ∧ w'.cell? ⟨cb id, 7, none⟩ = some (.int .i64 cg))) (by kernel_rfl) ?_ (fun hHeld => ?_)
      · (try dsimp only); go_keep
      try simp only [Array.replicate, Act.put, List.setIfInBounds_toArray]
      refine' wpAnyH_take (i := 0) (oi := _) (v := _) ?hiRb1 (by kernel_rfl) (by kernel_rfl) (by kernel_rfl) ?hQRb1 ?hyRb1 (by assumption) ?restRb1
      case' hiRb1 => (first | (simp only [List.getElem?_toArray, List.getElem?_cons_succ, List.getElem?_cons_zero]; done) | (simp only [List.getElem?_toArray, List.getElem?_cons_succ, List.getElem?_cons_zero]; rfl))
      case' hQRb1 => exact fun _ _ _ h => h
      case' hyRb1 => refine Or.inl ⟨by rfl, ?_⟩
      (intro w hSw; (try dsimp only at hSw); go_simp; try with_reducible rfl)
      try simp only [Act.put, List.setIfInBounds_toArray, List.set_cons_zero, List.set_cons_succ]
      refine' wpAnyH_take (i := 1) (oi := _) (v := _) ?hiRb2 (by kernel_rfl) (by kernel_rfl) (by kernel_rfl) ?hQRb2 ?hyRb2 (by assumption) ?restRb2
      case' hiRb2 => (first | (simp only [List.getElem?_toArray, List.getElem?_cons_succ, List.getElem?_cons_zero]; done) | (simp only [List.getElem?_toArray, List.getElem?_cons_succ, List.getElem?_cons_zero]; rfl))
      case' hQRb2 => exact fun _ _ _ h => h
      case' hyRb2 => refine Or.inl ⟨by rfl, ?_⟩
      (intro w hSw; (try dsimp only at hSw); go_simp; try with_reducible rfl)
      try simp only [Act.put, List.setIfInBounds_toArray, List.set_cons_zero, List.set_cons_succ]
      refine' wpAnyH_take (i := 2) (oi := _) (v := _) ?hiRb3 (by kernel_rfl) (by kernel_rfl) (by kernel_rfl) ?hQRb3 ?hyRb3 (by assumption) ?restRb3
      case' hiRb3 => (first | (simp only [List.getElem?_toArray, List.getElem?_cons_succ, List.getElem?_cons_zero]; done) | (simp only [List.getElem?_toArray, List.getElem?_cons_succ, List.getElem?_cons_zero]; rfl))
      case' hQRb3 => exact fun _ _ _ h => h
      case' hyRb3 => refine Or.inl ⟨by rfl, ?_⟩
      (intro w hSw; (try dsimp only at hSw); go_simp; try with_reducible rfl)
      try simp only [Act.put, List.setIfInBounds_toArray, List.set_cons_zero, List.set_cons_succ]
      refine' wpAnyH_take (i := 3) (oi := _) (v := _) ?hiRb4 (by kernel_rfl) (by kernel_rfl) (by kernel_rfl) ?hQRb4 ?hyRb4 (by assumption) ?restRb4
      case' hiRb4 => (first | (simp only [List.getElem?_toArray, List.getElem?_cons_succ, List.getElem?_cons_zero]; done) | (simp only [List.getElem?_toArray, List.getElem?_cons_succ, List.getElem?_cons_zero]; rfl))
      case' hQRb4 => exact fun _ _ _ h => h
      case' hyRb4 => refine Or.inl ⟨by rfl, ?_⟩
      (intro w hSw; (try dsimp only at hSw); go_simp; try with_reducible rfl)
      try simp only [Act.put, List.setIfInBounds_toArray, List.set_cons_zero, List.set_cons_succ]
      refine' wpAnyH_take (i := 4) (oi := _) (v := _) ?hiRb5 (by kernel_rfl) (by kernel_rfl) (by kernel_rfl) ?hQRb5 ?hyRb5 (by assumption) ?restRb5
      case' hiRb5 => (first | (simp only [List.getElem?_toArray, List.getElem?_cons_succ, List.getElem?_cons_zero]; done) | (simp only [List.getElem?_toArray, List.getElem?_cons_succ, List.getElem?_cons_zero]; rfl))
      case' hQRb5 => exact fun _ _ _ h => h
      case' hyRb5 => refine Or.inl ⟨by rfl, ?_⟩
      (intro w hSw; (try dsimp only at hSw); go_simp; try with_reducible rfl)
      try simp only [Act.put, List.setIfInBounds_toArray, List.set_cons_zero, List.set_cons_succ]
      refine' wpAnyH_take (i := 5) (oi := _) (v := _) ?hiRb6 (by kernel_rfl) (by kernel_rfl) (by kernel_rfl) ?hQRb6 ?hyRb6 (by assumption) ?restRb6
      case' hiRb6 => (first | (simp only [List.getElem?_toArray, List.getElem?_cons_succ, List.getElem?_cons_zero]; done) | (simp only [List.getElem?_toArray, List.getElem?_cons_succ, List.getElem?_cons_zero]; rfl))
      case' hQRb6 => exact fun _ _ _ h => h
      case' hyRb6 => refine Or.inl ⟨by rfl, ?_⟩
      (intro w hSw; (try dsimp only at hSw); go_simp; try with_reducible rfl)
      try simp only [Act.put, List.setIfInBounds_toArray, List.set_cons_zero, List.set_cons_succ]
      refine' wpAnyH_take (i := 6) (oi := _) (v := _) ?hiRb7 (by kernel_rfl) (by kernel_rfl) (by kernel_rfl) ?hQRb7 ?hyRb7 (by assumption) ?restRb7
      case' hiRb7 => (first | (simp only [List.getElem?_toArray, List.getElem?_cons_succ, List.getElem?_cons_zero]; done) | (simp only [List.getElem?_toArray, List.getElem?_cons_succ, List.getElem?_cons_zero]; rfl))
      case' hQRb7 => exact fun _ _ _ h => h
      case' hyRb7 => refine Or.inl ⟨by rfl, ?_⟩
      (intro w hSw; (try dsimp only at hSw); go_simp; try with_reducible rfl)
      try simp only [Act.put, List.setIfInBounds_toArray, List.set_cons_zero, List.set_cons_succ]
      refine' wpAnyH_take (i := 7) (oi := _) (v := _) ?hiRb8 (by kernel_rfl) (by kernel_rfl) (by kernel_rfl) ?hQRb8 ?hyRb8 (by assumption) ?restRb8
      case' hiRb8 => (first | (simp only [List.getElem?_toArray, List.getElem?_cons_succ, List.getElem?_cons_zero]; done) | (simp only [List.getElem?_toArray, List.getElem?_cons_succ, List.getElem?_cons_zero]; rfl))
      case' hQRb8 => exact fun _ _ _ h => h
      case' hyRb8 => refine Or.inl ⟨by rfl, ?_⟩
      (intro w hSw; (try dsimp only at hSw); go_simp; try with_reducible rfl)
      try simp only [Act.put, List.setIfInBounds_toArray, List.set_cons_zero, List.set_cons_succ]
      refine' wpAnyH_take (i := 8) (oi := _) (v := _) ?hiRb9 (by kernel_rfl) (by kernel_rfl) (by kernel_rfl) ?hQRb9 ?hyRb9 (by assumption) ?restRb9
      case' hiRb9 => (first | (simp only [List.getElem?_toArray, List.getElem?_cons_succ, List.getElem?_cons_zero]; done) | (simp only [List.getElem?_toArray, List.getElem?_cons_succ, List.getElem?_cons_zero]; rfl))
      case' hQRb9 => exact fun _ _ _ h => h
      case' hyRb9 => refine Or.inl ⟨by rfl, ?_⟩
      (intro w hSw; (try dsimp only at hSw); go_simp; try with_reducible rfl)
      try simp only [Act.put, List.setIfInBounds_toArray, List.set_cons_zero, List.set_cons_succ]
      refine' wpAnyH_take (i := 9) (oi := _) (v := _) ?hiRb10 (by kernel_rfl) (by kernel_rfl) (by kernel_rfl) ?hQRb10 ?hyRb10 (by assumption) ?restRb10
      case' hiRb10 => (first | (simp only [List.getElem?_toArray, List.getElem?_cons_succ, List.getElem?_cons_zero]; done) | (simp only [List.getElem?_toArray, List.getElem?_cons_succ, List.getElem?_cons_zero]; rfl))
      case' hQRb10 => exact fun _ _ _ h => h
      case' hyRb10 => refine Or.inl ⟨by rfl, ?_⟩
      (intro w hSw; (try dsimp only at hSw); go_simp; try with_reducible rfl)
      try simp only [Act.put, List.setIfInBounds_toArray, List.set_cons_zero, List.set_cons_succ]
      refine' wpAnyH_take (i := 10) (oi := _) (v := _) ?hiRb11 (by kernel_rfl) (by kernel_rfl) (by kernel_rfl) ?hQRb11 ?hyRb11 (by assumption) ?restRb11
      case' hiRb11 => (first | (simp only [List.getElem?_toArray, List.getElem?_cons_succ, List.getElem?_cons_zero]; done) | (simp only [List.getElem?_toArray, List.getElem?_cons_succ, List.getElem?_cons_zero]; rfl))
      case' hQRb11 => exact fun _ _ _ h => h
      case' hyRb11 => refine Or.inl ⟨by rfl, ?_⟩
      (intro w hSw; (try dsimp only at hSw); go_simp; try with_reducible rfl)
      try simp only [Act.put, List.setIfInBounds_toArray, List.set_cons_zero, List.set_cons_succ]
      refine wpAnyH_ready (rs := [11]) (by kernel_rfl) (by simp) ?_
      refine' AllReadyH.cons (o := _) ?hiRb12 (fun K hK => ?hKRb12) AllReadyH.nil
      case' hiRb12 => (first | (simp only [List.getElem?_toArray, List.getElem?_cons_succ, List.getElem?_cons_zero]; done) | (simp only [List.getElem?_toArray, List.getElem?_cons_succ, List.getElem?_cons_zero]; rfl))
      go_simp
      (go_at_call 49; refine (TR.out _ (by first | exact Upd.refl _ _ | exact (Upd.refl _ _).drew)).mono ?_; rintro e w1 ⟨rfl, u1⟩; (have z1 := CF.out w1 u1))
      refine hK.out _ _ ?_ (fun hHeld => ?_)
      · (try dsimp only); go_keep
      clear hK K
      try simp only [Act.put, List.setIfInBounds_toArray, List.set_cons_zero, List.set_cons_succ]
      refine' wpAnyH_take (i := 12) (oi := _) (v := _) ?hiRb13 (by kernel_rfl) (by kernel_rfl) (by kernel_rfl) ?hQRb13 ?hyRb13 (by assumption) ?restRb13
      case' hiRb13 => (first | (simp only [List.getElem?_toArray, List.getElem?_cons_succ, List.getElem?_cons_zero]; done) | (simp only [List.getElem?_toArray, List.getElem?_cons_succ, List.getElem?_cons_zero]; rfl))
      case' hQRb13 => exact fun _ _ _ h => h
      case' hyRb13 => refine Or.inl ⟨by rfl, ?_⟩
      (intro w hSw; (try dsimp only at hSw); go_simp; try with_reducible rfl)
      try simp only [Act.put, List.setIfInBounds_toArray, List.set_cons_zero, List.set_cons_succ]
      refine' wpAnyH_take (i := 13) (oi := _) (v := _) ?hiRb14 (by kernel_rfl) (by kernel_rfl) (by kernel_rfl) ?hQRb14 ?hyRb14 (by assumption) ?restRb14
      case' hiRb14 => (first | (simp only [List.getElem?_toArray, List.getElem?_cons_succ, List.getElem?_cons_zero]; done) | (simp only [List.getElem?_toArray, List.getElem?_cons_succ, List.getElem?_cons_zero]; rfl))
      case' hQRb14 => exact fun _ _ _ h => h
      case' hyRb14 => refine Or.inl ⟨by rfl, ?_⟩
      (intro w hSw; (try dsimp only at hSw); go_simp; try with_reducible rfl)
      try simp only [Act.put, List.setIfInBounds_toArray, List.set_cons_zero, List.set_cons_succ]
      refine wpAnyH_done (by kernel_rfl) ?_ _
      go_wp2
      go_ret
      rw [R.out]
      exact ⟨_, rfl, ((RSt.start (H.out.more (Nat.le_add_right _ _) (Nat.le_refl _))).keep0 u1)⟩
    | true =>
      have R : Hid (readP M most L id l = readL (aget M) most id l L) := RR
      clear RR
      go_enter Tryz.func14, Tryz.ntmps14
      go_wp2_with fail
      refine wp_region_held_drew (S := (fun w' => w'.cell? ⟨cb id, 0, none⟩ = some (.bool on) ∧ w'.cell? ⟨cb id, 1, none⟩ = some (.bool bc) ∧ w'.cell? ⟨cb id, 2, none⟩ = some (.bool oi) ∧ w'.cell? ⟨cb id, 3, none⟩ = some (.bool oo) ∧ w'.cell? ⟨cb id, 4, none⟩ = some (.bool nl) ∧ w'.cell? ⟨cb id, 5, none⟩ = some (.int .i64 rd) ∧ w'.cell? ⟨cb id, 6, none⟩ = some (.slice pm nm km) ∧ w'.cell? ⟨cb id, 7, none⟩ = some (.int .i64 cg))) (by kernel_rfl) ?_ (fun hHeld => ?_)
      · (try dsimp only); go_keep
      try simp only [Array.replicate, Act.put, List.setIfInBounds_toArray]
      refine' wpAnyH_take (i := 0) (oi := _) (v := _) ?hiRc1 (by kernel_rfl) (by kernel_rfl) (by kernel_rfl) ?hQRc1 ?hyRc1 (by assumption) ?restRc1
      case' hiRc1 => (first | (simp only [List.getElem?_toArray, List.getElem?_cons_succ, List.getElem?_cons_zero]; done) | (simp only [List.getElem?_toArray, List.getElem?_cons_succ, List.getElem?_cons_zero]; rfl))
      case' hQRc1 => exact fun _ _ _ h => h
      case' hyRc1 => refine Or.inl ⟨by rfl, ?_⟩
      (intro w hSw; (try dsimp only at hSw); go_simp; try with_reducible rfl)
      try simp only [Act.put, List.setIfInBounds_toArray, List.set_cons_zero, List.set_cons_succ]
      refine' wpAnyH_take (i := 1) (oi := _) (v := _) ?hiRc2 (by kernel_rfl) (by kernel_rfl) (by kernel_rfl) ?hQRc2 ?hyRc2 (by assumption) ?restRc2
      case' hiRc2 => (first | (simp only [List.getElem?_toArray, List.getElem?_cons_succ, List.getElem?_cons_zero]; done) | (simp only [List.getElem?_toArray, List.getElem?_cons_succ, List.getElem?_cons_zero]; rfl))
      case' hQRc2 => exact fun _ _ _ h => h
      case' hyRc2 => refine Or.inl ⟨by rfl, ?_⟩
      (intro w hSw; (try dsimp only at hSw); go_simp; try with_reducible rfl)
      try simp only [Act.put, List.setIfInBounds_toArray, List.set_cons_zero, List.set_cons_succ]
      refine' wpAnyH_take (i := 2) (oi := _) (v := _) ?hiRc3 (by kernel_rfl) (by kernel_rfl) (by kernel_rfl) ?hQRc3 ?hyRc3 (by assumption) ?restRc3
      case' hiRc3 => (first | (simp only [List.getElem?_toArray, List.getElem?_cons_succ, List.getElem?_cons_zero]; done) | (simp only [List.getElem?_toArray, List.getElem?_cons_succ, List.getElem?_cons_zero]; rfl))
      case' hQRc3 => exact fun _ _ _ h => h
      case' hyRc3 => refine Or.inl ⟨by rfl, ?_⟩
      (intro w hSw; (try dsimp only at hSw); go_simp; try with_reducible rfl)
      try simp only [Act.put, List.setIfInBounds_toArray, List.set_cons_zero, List.set_cons_succ]
      refine' wpAnyH_take (i := 3) (oi := _) (v := _) ?hiRc4 (by kernel_rfl) (by kernel_rfl) (by kernel_rfl) ?hQRc4 ?hyRc4 (by assumption) ?restRc4
      case' hiRc4 => (first | (simp only [List.getElem?_toArray, List.getElem?_cons_succ, List.getElem?_cons_zero]; done) | (simp only [List.getElem?_toArray, List.getElem?_cons_succ, List.getElem?_cons_zero]; rfl))
      case' hQRc4 => exact fun _ _ _ h => h
      case' hyRc4 => refine Or.inl ⟨by rfl, ?_⟩
      (intro w hSw; (try dsimp only at hSw); go_simp; try with_reducible rfl)
      try simp only [Act.put, List.setIfInBounds_toArray, List.set_cons_zero, List.set_cons_succ]
      refine' wpAnyH_take (i := 4) (oi := _) (v := _) ?hiRc5 (by kernel_rfl) (by kernel_rfl) (by kernel_rfl) ?hQRc5 ?hyRc5 (by assumption) ?restRc5
      case' hiRc5 => (first | (simp only [List.getElem?_toArray, List.getElem?_cons_succ, List.getElem?_cons_zero]; done) | (simp only [List.getElem?_toArray, List.getElem?_cons_succ, List.getElem?_cons_zero]; rfl))
      case' hQRc5 => exact fun _ _ _ h => h
      case' hyRc5 => refine Or.inl ⟨by rfl, ?_⟩
      (intro w hSw; (try dsimp only at hSw); go_simp; try with_reducible rfl)
      try simp only [Act.put, List.setIfInBounds_toArray, List.set_cons_zero, List.set_cons_succ]
      refine' wpAnyH_take (i := 5) (oi := _) (v := _) ?hiRc6 (by kernel_rfl) (by kernel_rfl) (by kernel_rfl) ?hQRc6 ?hyRc6 (by assumption) ?restRc6
      case' hiRc6 => (first | (simp only [List.getElem?_toArray, List.getElem?_cons_succ, List.getElem?_cons_zero]; done) | (simp only [List.getElem?_toArray, List.getElem?_cons_succ, List.getElem?_cons_zero]; rfl))
      case' hQRc6 => exact fun _ _ _ h => h
      case' hyRc6 => refine Or.inl ⟨by rfl, ?_⟩
      (intro w hSw; (try dsimp only at hSw); go_simp; try with_reducible rfl)
      try simp only [Act.put, List.setIfInBounds_toArray, List.set_cons_zero, List.set_cons_succ]
      refine' wpAnyH_take (i := 6) (oi := _) (v := _) ?hiRc7 (by kernel_rfl) (by kernel_rfl) (by kernel_rfl) ?hQRc7 ?hyRc7 (by assumption) ?restRc7
      case' hiRc7 => (first | (simp only [List.getElem?_toArray, List.getElem?_cons_succ, List.getElem?_cons_zero]; done) | (simp only [List.getElem?_toArray, List.getElem?_cons_succ, List.getElem?_cons_zero]; rfl))
      case' hQRc7 => exact fun _ _ _ h => h
      case' hyRc7 => refine Or.inl ⟨by rfl, ?_⟩
      (intro w hSw; (try dsimp only at hSw); go_simp; try with_reducible rfl)
      try simp only [Act.put, List.setIfInBounds_toArray, List.set_cons_zero, List.set_cons_succ]
      refine' wpAnyH_take (i := 7) (oi := _) (v := _) ?hiRc8 (by kernel_rfl) (by kernel_rfl) (by kernel_rfl) ?hQRc8 ?hyRc8 (by assumption) ?restRc8
      case' hiRc8 => (first | (simp only [List.getElem?_toArray, List.getElem?_cons_succ, List.getElem?_cons_zero]; done) | (simp only [List.getElem?_toArray, List.getElem?_cons_succ, List.getElem?_cons_zero]; rfl))
      case' hQRc8 => exact fun _ _ _ h => h
      case' hyRc8 => refine Or.inl ⟨by rfl, ?_⟩
      (intro w hSw; (try dsimp only at hSw); go_simp; try with_reducible rfl)
      try simp only [Act.put, List.setIfInBounds_toArray, List.set_cons_zero, List.set_cons_succ]
      refine' wpAnyH_take (i := 8) (oi := _) (v := _) ?hiRc9 (by kernel_rfl) (by kernel_rfl) (by kernel_rfl) ?hQRc9 ?hyRc9 (by assumption) ?restRc9
      case' hiRc9 => (first | (simp only [List.getElem?_toArray, List.getElem?_cons_succ, List.getElem?_cons_zero]; done) | (simp only [List.getElem?_toArray, List.getElem?_cons_succ, List.getElem?_cons_zero]; rfl))
      case' hQRc9 => exact fun _ _ _ h => h
      case' hyRc9 => refine Or.inl ⟨by rfl, ?_⟩
      (intro w hSw; (try dsimp only at hSw); go_simp; try with_reducible rfl)
      try simp only [Act.put, List.setIfInBounds_toArray, List.set_cons_zero, List.set_cons_succ]
      refine' wpAnyH_take (i := 9) (oi := _) (v := _) ?hiRc10 (by kernel_rfl) (by kernel_rfl) (by kernel_rfl) ?hQRc10 ?hyRc10 (by assumption) ?restRc10
      case' hiRc10 => (first | (simp only [List.getElem?_toArray, List.getElem?_cons_succ, List.getElem?_cons_zero]; done) | (simp only [List.getElem?_toArray, List.getElem?_cons_succ, List.getElem?_cons_zero]; rfl))
      case' hQRc10 => exact fun _ _ _ h => h
      case' hyRc10 => refine Or.inl ⟨by rfl, ?_⟩
      (intro w hSw; (try dsimp only at hSw); go_simp; try with_reducible rfl)
      try simp only [Act.put, List.setIfInBounds_toArray, List.set_cons_zero, List.set_cons_succ]
      refine' wpAnyH_take (i := 10) (oi := _) (v := _) ?hiRc11 (by kernel_rfl) (by kernel_rfl) (by kernel_rfl) ?hQRc11 ?hyRc11 (by assumption) ?restRc11
      case' hiRc11 => (first | (simp only [List.getElem?_toArray, List.getElem?_cons_succ, List.getElem?_cons_zero]; done) | (simp only [List.getElem?_toArray, List.getElem?_cons_succ, List.getElem?_cons_zero]; rfl))
      case' hQRc11 => exact fun _ _ _ h => h
      case' hyRc11 => refine Or.inl ⟨by rfl, ?_⟩
      (intro w hSw; (try dsimp only at hSw); go_simp; try with_reducible rfl)
      try simp only [Act.put, List.setIfInBounds_toArray, List.set_cons_zero, List.set_cons_succ]
      refine wpAnyH_ready (rs := [11]) (by kernel_rfl) (by simp) ?_
      refine' AllReadyH.cons (o := _) ?hiRc12 (fun K hK => ?hKRc12) AllReadyH.nil
      case' hiRc12 => (first | (simp only [List.getElem?_toArray, List.getElem?_cons_succ, List.getElem?_cons_zero]; done) | (simp only [List.getElem?_toArray, List.getElem?_cons_succ, List.getElem?_cons_zero]; rfl))
      go_simp
      (go_at_call 49; refine (TR.out _ (by first | exact Upd.refl _ _ | exact (Upd.refl _ _).drew)).mono ?_; rintro e w1 ⟨rfl, u1⟩; (have z1 := CF.out w1 u1))
      refine hK.out _ _ ?_ (fun hHeld => ?_)
      · (try dsimp only); go_keep
      clear hK K
      try simp only [Act.put, List.setIfInBounds_toArray, List.set_cons_zero, List.set_cons_succ]
      refine' wpAnyH_take (i := 12) (oi := _) (v := _) ?hiRc13 (by kernel_rfl) (by kernel_rfl) (by kernel_rfl) ?hQRc13 ?hyRc13 (by assumption) ?restRc13
      case' hiRc13 => (first | (simp only [List.getElem?_toArray, List.getElem?_cons_succ, List.getElem?_cons_zero]; done) | (simp only [List.getElem?_toArray, List.getElem?_cons_succ, List.getElem?_cons_zero]; rfl))
      case' hQRc13 => exact fun _ _ _ h => h
      case' hyRc13 => refine Or.inl ⟨by rfl, ?_⟩
      (intro w hSw; (try dsimp only at hSw); go_simp; try with_reducible rfl)
      try simp only [Act.put, List.setIfInBounds_toArray, List.set_cons_zero, List.set_cons_succ]
      refine' wpAnyH_take (i := 13) (oi := _) (v := _) ?hiRc14 (by kernel_rfl) (by kernel_rfl) (by kernel_rfl) ?hQRc14 ?hyRc14 (by assumption) ?restRc14
      case' hiRc14 => (first | (simp only [List.getElem?_toArray, List.getElem?_cons_succ, List.getElem?_cons_zero]; done) | (simp only [List.getElem?_toArray, List.getElem?_cons_succ, List.getElem?_cons_zero]; rfl))
      case' hQRc14 => exact fun _ _ _ h => h
      case' hyRc14 => refine Or.inl ⟨by rfl, ?_⟩
      (intro w hSw; (try dsimp only at hSw); go_simp; try with_reducible rfl)
      try simp only [Act.put, List.setIfInBounds_toArray, List.set_cons_zero, List.set_cons_succ]
      refine wpAnyH_done (by kernel_rfl) ?_ _
      go_wp2
      go_loopw [8, 38] (fun x8 x38 wr => ∃ (k : Nat) (acc : List NT) (Lk : Rows14) (p8 : Option Addr) (n8 c8 : Nat), k ≤ ll ∧ x38 = .int .i64 (k : Int) ∧ x8 = .slice p8 n8 c8 ∧ Hid (n8 = acc.length ∧ readL (aget M) most id (l.take k) L = (acc, Lk) ∧ acc.length ≤ k * 100000) ∧ Hid (RSt wr w base tb cm kb pb cb X M most Lk (n + k) P N (.slice p8 n8 c8) acc)) (fun _ x38 _ => ll - (intOf x38).toNat)
      case atStart => exact ⟨0, [], L, none, 0, 0, by omega, rfl, rfl, Lib.hid ⟨rfl, rfl, by simp⟩, Lib.hid ((RSt.start H.out).keep0 u1)⟩
      case round =>
        clear y0 y1 y2 y3 y4 y5 y6 y7 y8 y9 u1 z1 hHeld LK x0 x1 x2 xb
        obtain ⟨k, acc, Lk, p8, n8, c8, hk, rfl, rfl, AC, ST⟩ := hrel
        by_cases hlt : k < ll
        · have q1 : (k : Int) < (ll : Int) := by omega
          have hkl : k < l.length := by rw [← LL.out]; exact hlt
          obtain ⟨bx, off, ep, hb, c0⟩ := txt_rcell (HR.out.keepE ST.out.up HD.out) hkl
          obtain ⟨xb, x0, x1, x2⟩ := ST.out.st.facts
          obtain ⟨t, ht⟩ : ∃ t, t = l[k] := ⟨_, rfl⟩
          rw [← ht] at c0
          have hkk : n + k ≤ 90000 := by omega
          have TS := HS.out t (by rw [ht]; exact List.getElem_mem hkl)
          have ADD := Lib.hid (ST.out.st.kadd hkk (ofL t) id (by rw [ofL_size]; exact TS))
          have ALEN := add14_len most (ofL t) id ST.out.st.inv.1
          have SN : Hid (readL (aget M) most id (l.take (k + 1)) L = (acc ++ (add14 most Lk (ofL t) id).2.1.map (fun x => toldP (aget M) 1 x (add14 most Lk (ofL t) id).1), (add14 most Lk (ofL t) id).2.2.2)) := by
            show _ = _
            rw [List.take_succ_eq_append_getElem hkl, ← ht, readL_snoc, AC.out.2.1]
          clear ht hkl TS
          subst ep
          obtain ⟨ky, hky⟩ : ∃ ky, ky = ofL t := ⟨_, rfl⟩
          rw [← hky] at c0 ADD ALEN SN
          clear hky
          obtain ⟨⟨gk, ids, hb14, L2⟩, hA⟩ : ∃ r, r = add14 most Lk ky id := ⟨_, rfl⟩
          rw [← hA] at ADD ALEN SN
          clear hA
          dsimp only at ADD ALEN SN
          go_wp2_with fail
          refine ADD.out.mono ?_
          rintro e w2 ⟨vi, rfl, ii, s2, u2⟩
          obtain ⟨pi, ci, ei, hmi⟩ := own_slice ii
          subst ei
          obtain ⟨ni, hni⟩ : ∃ ni, ni = ids.length := ⟨_, rfl⟩
          have NI := Lib.hid hni
          rw [← hni] at ALEN s2 hmi
          have II : Hid (IntsAt w2 base (.slice pi ni ci) ids) := by show IntsAt _ _ _ _; rw [hni]; exact ii
          have ST2 := Lib.hid (ST.out.next (s2.less (fun b hb => Or.inl hb)) u2)
          clear hni ii s2 u2 ADD c0 ST hb HS
          rw [← NI.out]
          go_wp2
          go_loopw [8, 55] (fun x8 x55 wq => ∃ (j : Nat) (p9 : Option Addr) (n9 c9 : Nat), j ≤ ni ∧ x55 = .int .i64 (j : Int) ∧ x8 = .slice p9 n9 c9 ∧ Hid (n9 = (acc ++ (ids.take j).map (fun x => toldP (aget M) 1 x gk)).length) ∧ Hid (RSt wq w base tb cm kb pb cb X M most L2 (n + k + 1) P N (.slice p9 n9 c9) (acc ++ (ids.take j).map (fun x => toldP (aget M) 1 x gk))) ∧ Hid (IntsAt wq base (.slice pi ni ci) ids)) (fun _ x55 _ => ni - (intOf x55).toNat)
          case atStart => exact ⟨0, p8, n8, c8, by omega, rfl, rfl, Lib.hid (by simp [AC.out.1]), Lib.hid (by simpa using ST2.out), II⟩
          case round =>
            clear II ST2 xb x0 x1 x2
            obtain ⟨j, p9, n9, c9, hj, rfl, rfl, N9, ST, II⟩ := hrel
            by_cases hlj : j < ni
            · have q2 : (j : Int) < (ni : Int) := by omega
              have hjl : j < ids.length := by rw [← NI.out]; exact hlj
              have i0 := II.out
              rw [NI.out] at i0
              obtain ⟨g, cap, e1, ck, hg⟩ := ints_cell i0 hjl
              injection e1 with e1 _ e2
              subst e1 e2
              obtain ⟨x, hx⟩ : ∃ x, x = ids[j] := ⟨_, rfl⟩
              rw [← hx] at ck
              obtain ⟨xb, x0, x1, x2⟩ := ST.out.st.facts
              have TO := Lib.hid (ST.out.st.told 1 x gk)
              have TK : Hid ((ids.take (j + 1)).map (fun x => toldP (aget M) 1 x gk) = (ids.take j).map (fun x => toldP (aget M) 1 x gk) ++ [toldP (aget M) 1 x gk]) := by
                show _ = _
                rw [List.take_succ_eq_append_getElem hjl, List.map_append, hx]; rfl
              clear hx i0 hjl
              obtain ⟨nt, hnt⟩ : ∃ nt, nt = toldP (aget M) 1 x gk := ⟨_, rfl⟩
              rw [← hnt] at TO TK
              clear hnt
              obtain ⟨t1, t2, t3, t4⟩ := nt
              unfold ntV at TO
              dsimp only at TO
              go_wp2_with fail
              refine TO.out.mono ?_
              rintro e w3 ⟨rfl, u3⟩
              obtain ⟨p5, c5, w5, hr5, ST5, u5⟩ := (ST.out.keep0 u3).app ⟨t1, t2, t3, t4⟩ (by
                have := AC.out.2.2; have := List.length_take_le j ids
                have hk1 : k * 100000 ≤ 1000 * 100000 := Nat.mul_le_mul_right _ (by omega)
                rw [List.length_append, List.length_map]; omega)
              have II5 : Hid (IntsAt w5 base (.slice (some ⟨g, 0, none⟩) ni ci) ids) := own_keep (own_keep II.out u3 (fun _ _ h => h)) u5 (fun b hb => ints_nts (own_keep II.out u3 (fun _ _ h => h)) (ST.out.row.keep0 u3) hb)
              rw [List.append_assoc, ← TK.out] at ST5
              have L5 : Hid ((acc ++ (ids.take j).map (fun x => toldP (aget M) 1 x gk)).length + 1 = (acc ++ (ids.take (j + 1)).map (fun x => toldP (aget M) 1 x gk)).length) := by
                show _ = _
                rw [TK.out, ← List.append_assoc]; simp [List.length_append]; omega
              rw [← N9.out] at hr5 L5 ST5
              have ST5 := Lib.hid ST5
              clear u3 u5 II ST TO TK ck hg xb x0 x1 x2
              go_wp2_with (at_builtin; refine wpList_builtinN rfl _ _ 37 rfl _ _ rfl rfl hr5 ?_)
              go_roundw
              case rel => exact ⟨j + 1, p5, n9 + 1, c5, by omega, by go_num, rfl, L5, ST5, II5⟩
              case measure => simp [intOf]; omega
            · have q2 : ¬ (j : Int) < (ni : Int) := by omega
              have ej : ids.take j = ids := List.take_of_length_le (by rw [← NI.out]; omega)
              rw [ej] at N9 ST
              have LE : (acc ++ ids.map (fun x => toldP (aget M) 1 x gk)).length ≤ (k + 1) * 100000 := by
                have := AC.out.2.2
                rw [List.length_append, List.length_map, ← NI.out, Nat.add_mul]; omega
              have AC2 : Hid (n9 = (acc ++ ids.map (fun x => toldP (aget M) 1 x gk)).length ∧ readL (aget M) most id (l.take (k + 1)) L = (acc ++ ids.map (fun x => toldP (aget M) 1 x gk), L2) ∧ (acc ++ ids.map (fun x => toldP (aget M) 1 x gk)).length ≤ (k + 1) * 100000) := ⟨N9.out, SN.out, LE⟩
              clear N9 AC SN LE II ej
              go_wp2
              go_roundw
              case rel => exact ⟨k + 1, _, L2, p9, n9, c9, by omega, by go_num, rfl, AC2, by rw [← Nat.add_assoc]; exact ST⟩
              case measure => simp [intOf]; omega
        · have q1 : ¬ (k : Int) < (ll : Int) := by omega
          have ek : k = ll := by omega
          subst ek
          have EQ : Hid (readL (aget M) most id l L = (acc, Lk)) := by
            have := AC.out.2.1
            rw [List.take_of_length_le (by rw [← LL.out]; omega)] at this; exact this
          go_wp2
          go_ret
          rw [R.out, EQ.out]
          exact ⟨_, rfl, ST.out⟩
theorem TSt.read (h : TSt w base tb cm kb pb cb X M most L n P N) (id : Int) (v : Value) (l : List Txt) (hr : RowOf txtc 1 w v l) (hd : ∀ b, v.ownBlock = some b → ¬ Fr base X b) (hl : l.length ≤ 1000) (hn : n + l.length ≤ 80000) (hs : ∀ t ∈ l, t.length ≤ maxLen) :
    Calls Tryz.prog 14 #[.pointer (some ⟨tb, 0, none⟩), .int .i64 id, v] w fun e w' => ∃ v', e = .returned v' ∧ RSt w' w base tb cm kb pb cb X M most (readP M most L id l).2 (n + l.length) P N v' (readP M most L id l).1 :=
  h.readE id v l hr (Or.inr hd) hl hn hs
end
end Go.Proofs.YtmlojbfcmebboaaGreat
