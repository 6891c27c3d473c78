/- Walk: one act at both stores. -/
import Derived.Test.YtgdenmddbgcacaaGreatDoorK27
set_option linter.unusedVariables false
set_option linter.unusedSimpArgs false
set_option linter.unusedSectionVars false
namespace Go.Proofs.YtgdenmddbgcacaaGreatDoor
open Go.RowKit

def actV (a : Act12) : Value := .agg #[.int .i64 a.kind, .int .i64 a.n, .string a.key, .int .i64 a.item.kind, .string a.item.text, a.fv, .bool a.keep, .int .i64 a.when, .int .u16 a.wait]
/-- What one answers. -/
def OneR (w : World) (base sb wb : Nat) (Y X : Nat → Prop) (S T : PS) (N : Nat) (a : Act12) (now : Int) (e : Ending) (w' : World) : Prop :=
  ∃ r : Bool, e = .returned (.bool r) ∧ (S = T → r = true) ∧ DGo w base sb wb Y X w' (stepP S a now) (stepP T a now) (N + 1)
theorem OneR.of {w : World} {base sb wb : Nat} {Y X : Nat → Prop} {S T : PS} {N : Nat} {a : Act12} {now : Int} {e : Ending} {w' : World} {r : Bool} (h1 : e = .returned (.bool r)) (h2 : S = T → r = true) (h3 : DGo w base sb wb Y X w' (stepP S a now) (stepP T a now) (N + 1)) : OneR w base sb wb Y X S T N a now e w' := ⟨r, h1, h2, h3⟩
set_option maxHeartbeats 16000000 in
set_option maxRecDepth 100000 in
theorem one12_any {w : World} {base sb wb : Nat} {Y X : Nat → Prop} {S T : PS} {N : Nat} (d : Duo w base sb wb Y X S T N) (a : Act12) (now : Int) (hv : FldAt w (fun b => b < base) a.fv a.item.flds) (hN : N ≤ 9000) (hS : S.events.length ≤ 700000) (hT : T.cells.length ≤ 9000) (hT2 : T.events.length ≤ 700000) (hk : a.key.size ≤ 100000) (hn0 : 0 ≤ now) (hn1 : now ≤ 4611686018427387904) :
    Calls Tryz.prog 9 #[.pointer (some ⟨sb, 0, none⟩), .pointer (some ⟨wb, 0, none⟩), actV a, .int .i64 now] w fun e w' => OneR w base sb wb Y X S T N a now e w' := by
  obtain ⟨kd, an, key, ⟨ik, tx, fl⟩, fv, kp, wn, wt⟩ := a
  obtain ⟨pf, cf, evf, hmf⟩ := hv.1.len
  simp only at evf hk hv hmf
  subst evf
  unfold actV
  simp only
  have UZ : Upd (fun _ => False) w (w.alloc (.cells #[.int .i64 kd, .int .i64 an, .string key, .int .i64 ik, .string tx, .slice pf fl.length cf, .bool kp, .int .i64 wn, .int .u16 wt] 34)) := (Upd.refl _ _).alloc _
  have BQ := Blk.made w [.int .i64 kd, .int .i64 an, .string key, .int .i64 ik, .string tx, .slice pf fl.length cf, .bool kp, .int .i64 wn, .int .u16 wt] 34
  have DZ := d.with (q := w.heap.size) UZ ⟨Nat.le_refl _, BQ.lt⟩
  have XW : Hid (∀ b, X b → b < w.heap.size) := fun b hb => (d.r.lt b hb).2
  have HB : Hid (N ≤ 9000 ∧ S.events.length ≤ 700000 ∧ T.cells.length ≤ 9000 ∧ T.events.length ≤ 700000 ∧ key.size ≤ 100000 ∧ 0 ≤ now ∧ now ≤ 4611686018427387904) := ⟨hN, hS, hT, hT2, hk, hn0, hn1⟩
  have LD := Lib.hid (And.intro (dueP_lenR S key now) (dueP_lenR T key now))
  have HV := hv.keep UZ (fun _ _ h => h)
  clear d hN hS hT hT2 hk hv
  go_enter Tryz.func9, Tryz.ntmps9
  go_upto_region 1 with (fail)
  generalize hq : w.heap.size = q at *
  generalize hnf : fl.length = nf at *
  generalize hz : w.alloc (.cells #[.int .i64 kd, .int .i64 an, .string key, .int .i64 ik, .string tx, .slice pf nf cf, .bool kp, .int .i64 wn, .int .u16 wt] 34) = z at *
  have BQ : Blk z q [.int .i64 kd, .int .i64 an, .string key, .int .i64 ik, .string tx, .slice pf nf cf, .bool kp, .int .i64 wn, .int .u16 wt] 34 := BQ
  have x0 := BQ.cellAt (i := 0) rfl
  have hql := BQ.lt
  have NQ : Hid (¬ X q) := fun g => by have := XW.out q g; omega
  have UD : Upd (fun _ => False) z z.drew := (Upd.refl _ _).drew
  have BQ := Lib.hid BQ
  have DZ := Lib.hid DZ
  have HV := Lib.hid HV
  have UZ := Lib.hid UZ
  have UD := Lib.hid UD
  have HB0 := HB
  clear hz hq hnf
  by_cases k0 : kd = 0
  · subst k0
    have P1 := Lib.hid (sget_any DZ.out.s key now (by have := HB.out; omega) (by have := HB.out; omega) (by have := HB.out; omega))
    have XZ : Hid (∀ b, X b → b < z.heap.size) := fun b hb => by have := XW.out b hb; have := UZ.out.size; omega
    have x2 := BQ.out.cellAt (i := 2) rfl
    go_wp2_with fail
    refine (P1.out).mono ?_
    rintro e w1 ⟨v, rfl, row, s1, u1, fx⟩
    have b1 := u1.blk BQ.out (fun g => g.2 (Or.inr rfl))
    have x2 := b1.cellAt (i := 2) rfl
    have l1 := b1.lt
    obtain ⟨p1, c1, ev1, _⟩ := row.len
    subst ev1
    unfold itV
    have s2 := Lib.hid (s1.less (Y := fun b => Y b ∨ b = q) fun b hb => Or.inl hb)
    have U1 := Lib.hid u1
    have R1 := Lib.hid (DZ.out.rkeep u1)
    have ROW := Lib.hid row
    have FX := Lib.hid fx
    clear s1 u1 row fx P1 b1 x0 hql
    generalize hgS : gotI (dueP S key now) key = iS at *
    obtain ⟨sk, st, sl⟩ := iS
    simp only at ROW FX ⊢
    have UA : Upd (fun _ => False) w1 (w1.alloc (.cells #[.int .i64 sk, .string st, .slice p1 sl.length c1] 31)) := (Upd.refl _ _).alloc _
    have BI := Lib.hid (Blk.made w1 [.int .i64 sk, .string st, .slice p1 sl.length c1] 31)
    have P2 := Lib.hid (qget_any (R1.out.keep0 UA) key now (by have := HB0.out; omega) (by have := HB0.out; omega))
    have ROWA := Lib.hid (ROW.out.keep UA (fun _ _ _ h => h))
    have UA := Lib.hid UA
    clear ROW
    go_wp2_with fail
    refine (P2.out).mono ?_
    rintro e w2 ⟨v2, rfl, fd2, g2⟩
    have G2 := Lib.hid g2
    obtain ⟨X2, _, _, u2⟩ := g2
    have b2 := u2.blk BI.out (fun g => by have := XZ.out _ g; have := U1.out.size; omega)
    have y0 := b2.cellAt (i := 0) rfl
    have y1 := b2.cellAt (i := 1) rfl
    have y2 := b2.cellAt (i := 2) rfl
    have yl := b2.lt
    have row2 : RowOf fdc 2 w2 (.slice p1 sl.length c1) sl := by
      by_cases h0 : sl = []
      · exact Or.inl ⟨p1, c1, by rw [h0]; rfl, h0⟩
      · exact ROWA.out.keep u2 (fun b hb hf g => by have h1 := XZ.out _ g; have := FX.out b ⟨hf, h0⟩; omega)
    obtain ⟨p2, c2, ev2, _⟩ := fd2.1.len
    subst ev2
    unfold itV
    have DN : Hid (DGo w base sb wb Y X w2 (stepP S ⟨0, an, key, ⟨ik, tx, fl⟩, .slice pf fl.length cf, kp, wn, wt⟩ now) (stepP T ⟨0, an, key, ⟨ik, tx, fl⟩, .slice pf fl.length cf, kp, wn, wt⟩ now) (N + 1)) := by
      have E : ∀ P fv2, stepP P ⟨0, an, key, ⟨ik, tx, fl⟩, fv2, kp, wn, wt⟩ now = getP P key now := fun P fv2 => by simp [stepP]
      rw [E, E]
      exact ((DZ.out.step s2.out U1.out (RGo.pre UA.out G2.out)).drop UZ.out).more (by omega)
    generalize hgT : gotI (dueP T key now) key = iT at *
    obtain ⟨tk, tt, tl⟩ := iT
    simp only at fd2 ⊢
    have UB : Upd (fun _ => False) w2 (w2.alloc (.cells #[.int .i64 tk, .string tt, .slice p2 tl.length c2] 31)) := (Upd.refl _ _).alloc _
    have SM := Lib.hid (sameIt_any ⟨sk, st, sl⟩ ⟨tk, tt, tl⟩ (.slice p1 sl.length c1) (.slice p2 tl.length c2) (w2.alloc (.cells #[.int .i64 tk, .string tt, .slice p2 tl.length c2] 31)) (row2.keep UB (fun _ _ _ h => h)) (fd2.1.keep UB (fun _ _ _ h => h)))
    unfold itV at SM
    simp only at SM
    have UB := Lib.hid UB
    have SE : Hid (S = T → (⟨sk, st, sl⟩ : It) = ⟨tk, tt, tl⟩ ∧ wasP (dueP S key now) key = wasP (dueP T key now) key) := fun e => by
      subst e; exact ⟨by rw [← hgS, ← hgT], rfl⟩
    generalize wasP (dueP S key now) key = bS at *
    generalize wasP (dueP T key now) key = bT at *
    have BQ2 : Hid True := trivial
    clear fd2 row2 b2 u2 UA P2 R1 hgS hgT x2 l1
    cases bS with
    | true =>
      cases bT with
      | true =>
        have SM2 := SM
        go_wp2_with fail
        go_at_call 20
        refine SM.out.mono ?_
        rintro e w3 ⟨rfl, u3⟩
        have U3 := Lib.hid u3
        clear u3
        go_wp2
        go_ret
        exact OneR.of rfl (fun e => by rw [(SE.out e).1]; exact sameI_refl _) (DN.out.after (UB.out.trans U3.out (fun _ _ h => h)))
      | false =>
        go_wp2
        go_ret
        exact OneR.of rfl (fun e => by have := (SE.out e).2; cases this) (DN.out.after UB.out)
    | false =>
      cases bT with
      | true =>
        go_wp2
        go_ret
        exact OneR.of rfl (fun e => by have := (SE.out e).2; cases this) (DN.out.after UB.out)
      | false =>
        have SM2 := SM
        go_wp2_with fail
        go_at_call 20
        refine SM.out.mono ?_
        rintro e w3 ⟨rfl, u3⟩
        have U3 := Lib.hid u3
        clear u3
        go_wp2
        go_ret
        exact OneR.of rfl (fun e => by rw [(SE.out e).1]; exact sameI_refl _) (DN.out.after (UB.out.trans U3.out (fun _ _ h => h)))
  by_cases k1 : kd = 1
  · subst k1
    have P1 := Lib.hid (speek_any DZ.out.s key now (by have := HB.out; omega) (by have := HB.out; omega) (by have := HB.out; omega))
    have XZ : Hid (∀ b, X b → b < z.heap.size) := fun b hb => by have := XW.out b hb; have := UZ.out.size; omega
    have x2 := BQ.out.cellAt (i := 2) rfl
    go_wp2_with fail
    refine (P1.out).mono ?_
    rintro e w1 ⟨v, rfl, row, s1, u1, fx⟩
    have b1 := u1.blk BQ.out (fun g => g.2 (Or.inr rfl))
    have x2 := b1.cellAt (i := 2) rfl
    have l1 := b1.lt
    obtain ⟨p1, c1, ev1, _⟩ := row.len
    subst ev1
    unfold itV
    have s2 := Lib.hid (s1.less (Y := fun b => Y b ∨ b = q) fun b hb => Or.inl hb)
    have U1 := Lib.hid u1
    have R1 := Lib.hid (DZ.out.rkeep u1)
    have ROW := Lib.hid row
    have FX := Lib.hid fx
    clear s1 u1 row fx P1 b1 x0 hql
    generalize hgS : gotI (dueP S key now) key = iS at *
    obtain ⟨sk, st, sl⟩ := iS
    simp only at ROW FX ⊢
    have UA : Upd (fun _ => False) w1 (w1.alloc (.cells #[.int .i64 sk, .string st, .slice p1 sl.length c1] 31)) := (Upd.refl _ _).alloc _
    have BI := Lib.hid (Blk.made w1 [.int .i64 sk, .string st, .slice p1 sl.length c1] 31)
    have P2 := Lib.hid (qpeek_any (R1.out.keep0 UA) key now (by have := HB0.out; omega) (by have := HB0.out; omega))
    have ROWA := Lib.hid (ROW.out.keep UA (fun _ _ _ h => h))
    have UA := Lib.hid UA
    clear ROW
    go_wp2_with fail
    refine (P2.out).mono ?_
    rintro e w2 ⟨v2, rfl, fd2, g2⟩
    have G2 := Lib.hid g2
    obtain ⟨X2, _, _, u2⟩ := g2
    have b2 := u2.blk BI.out (fun g => by have := XZ.out _ g; have := U1.out.size; omega)
    have y0 := b2.cellAt (i := 0) rfl
    have y1 := b2.cellAt (i := 1) rfl
    have y2 := b2.cellAt (i := 2) rfl
    have yl := b2.lt
    have row2 : RowOf fdc 2 w2 (.slice p1 sl.length c1) sl := by
      by_cases h0 : sl = []
      · exact Or.inl ⟨p1, c1, by rw [h0]; rfl, h0⟩
      · exact ROWA.out.keep u2 (fun b hb hf g => by have h1 := XZ.out _ g; have := FX.out b ⟨hf, h0⟩; omega)
    obtain ⟨p2, c2, ev2, _⟩ := fd2.1.len
    subst ev2
    unfold itV
    have DN : Hid (DGo w base sb wb Y X w2 (stepP S ⟨1, an, key, ⟨ik, tx, fl⟩, .slice pf fl.length cf, kp, wn, wt⟩ now) (stepP T ⟨1, an, key, ⟨ik, tx, fl⟩, .slice pf fl.length cf, kp, wn, wt⟩ now) (N + 1)) := by
      have E : ∀ P fv2, stepP P ⟨1, an, key, ⟨ik, tx, fl⟩, fv2, kp, wn, wt⟩ now = dueP P key now := fun P fv2 => by simp [stepP]
      rw [E, E]
      exact ((DZ.out.step s2.out U1.out (RGo.pre UA.out G2.out)).drop UZ.out).more (by omega)
    generalize hgT : gotI (dueP T key now) key = iT at *
    obtain ⟨tk, tt, tl⟩ := iT
    simp only at fd2 ⊢
    have UB : Upd (fun _ => False) w2 (w2.alloc (.cells #[.int .i64 tk, .string tt, .slice p2 tl.length c2] 31)) := (Upd.refl _ _).alloc _
    have SM := Lib.hid (sameIt_any ⟨sk, st, sl⟩ ⟨tk, tt, tl⟩ (.slice p1 sl.length c1) (.slice p2 tl.length c2) (w2.alloc (.cells #[.int .i64 tk, .string tt, .slice p2 tl.length c2] 31)) (row2.keep UB (fun _ _ _ h => h)) (fd2.1.keep UB (fun _ _ _ h => h)))
    unfold itV at SM
    simp only at SM
    have UB := Lib.hid UB
    have SE : Hid (S = T → (⟨sk, st, sl⟩ : It) = ⟨tk, tt, tl⟩ ∧ wasP (dueP S key now) key = wasP (dueP T key now) key) := fun e => by
      subst e; exact ⟨by rw [← hgS, ← hgT], rfl⟩
    generalize wasP (dueP S key now) key = bS at *
    generalize wasP (dueP T key now) key = bT at *
    have BQ2 : Hid True := trivial
    clear fd2 row2 b2 u2 UA P2 R1 hgS hgT x2 l1
    cases bS with
    | true =>
      cases bT with
      | true =>
        have SM2 := SM
        go_wp2_with fail
        go_at_call 20
        refine SM.out.mono ?_
        rintro e w3 ⟨rfl, u3⟩
        have U3 := Lib.hid u3
        clear u3
        go_wp2
        go_ret
        exact OneR.of rfl (fun e => by rw [(SE.out e).1]; exact sameI_refl _) (DN.out.after (UB.out.trans U3.out (fun _ _ h => h)))
      | false =>
        go_wp2
        go_ret
        exact OneR.of rfl (fun e => by have := (SE.out e).2; cases this) (DN.out.after UB.out)
    | false =>
      cases bT with
      | true =>
        go_wp2
        go_ret
        exact OneR.of rfl (fun e => by have := (SE.out e).2; cases this) (DN.out.after UB.out)
      | false =>
        have SM2 := SM
        go_wp2_with fail
        go_at_call 20
        refine SM.out.mono ?_
        rintro e w3 ⟨rfl, u3⟩
        have U3 := Lib.hid u3
        clear u3
        go_wp2
        go_ret
        exact OneR.of rfl (fun e => by rw [(SE.out e).1]; exact sameI_refl _) (DN.out.after (UB.out.trans U3.out (fun _ _ h => h)))
  by_cases k2 : kd = 2
  · subst k2
    simp only [Int.reduceBEq, Int.reduceEq, decide_true, decide_false] at *
    have P1 := Lib.hid ((DZ.out.keep0 UD.out).calls (UD.out.blk BQ.out (fun h => h)) (Or.inr rfl) NQ.out (sput_any (DZ.out.keep0 UD.out).s key ⟨ik, tx, fl⟩ (.slice pf nf cf) kp now ((HV.out.keep UD.out (fun _ _ h => h)).to fun b hb => Or.inl hb) (by have := HB0.out; omega) (by have := HB0.out; omega) (by have := HB0.out; omega)) (fun w1 u1 r1 => qput_any r1 key ⟨ik, tx, fl⟩ (.slice pf nf cf) kp now ((HV.out.keep UD.out (fun _ _ h => h)).keep u1 fun b hb hg => by have := hg.1; omega) (by have := HB0.out; omega) (by have := HB0.out; omega) (by have := HB0.out; omega)))
    have HB : Hid (Blk z.drew q [.int .i64 2, .int .i64 an, .string key, .int .i64 ik, .string tx, .slice pf nf cf, .bool kp, .int .i64 wn, .int .u16 wt] 34) := UD.out.blk BQ.out (fun h => h)
    go_upto_region 11 with (fail)
    clear x0 hql
    refine wp_region_held_drew (S := fun w' => Hid (Blk w' q [.int .i64 2, .int .i64 an, .string key, .int .i64 ik, .string tx, .slice pf nf cf, .bool kp, .int .i64 wn, .int .u16 wt] 34)) (by kernel_rfl) ?_ (fun hHeld => ?_)
    · exact HB
    try simp only [Array.replicate, Act.put, List.setIfInBounds_toArray]
    refine' wpAnyH_take (i := 0) (oi := _) (v := _) ?hiRPUT0x1 (by kernel_rfl) (by kernel_rfl) (by kernel_rfl) ?hQRPUT0x1 ?hyRPUT0x1 (by assumption) ?restRPUT0x1
    case' hiRPUT0x1 => (first | (simp only [List.getElem?_toArray, List.getElem?_cons_succ, List.getElem?_cons_zero]; done) | (simp only [List.getElem?_toArray, List.getElem?_cons_succ, List.getElem?_cons_zero]; rfl))
    case' hQRPUT0x1 => exact fun _ _ _ h => h
    case' hyRPUT0x1 => refine Or.inl ⟨by rfl, ?_⟩
    (intro w hSw; (try dsimp only at hSw); go_simp; try with_reducible rfl)
    try simp only [Act.put, List.setIfInBounds_toArray, List.set_cons_zero, List.set_cons_succ]
    refine' wpAnyH_take (i := 1) (oi := _) (v := _) ?hiRPUT0x2 (by kernel_rfl) (by kernel_rfl) (by kernel_rfl) ?hQRPUT0x2 ?hyRPUT0x2 (by assumption) ?restRPUT0x2
    case' hiRPUT0x2 => (first | (simp only [List.getElem?_toArray, List.getElem?_cons_succ, List.getElem?_cons_zero]; done) | (simp only [List.getElem?_toArray, List.getElem?_cons_succ, List.getElem?_cons_zero]; rfl))
    case' hQRPUT0x2 => exact fun _ _ _ h => h
    case' hyRPUT0x2 => refine Or.inl ⟨by rfl, ?_⟩
    (intro w hSw; (try dsimp only at hSw); go_simp; try with_reducible rfl)
    try simp only [Act.put, List.setIfInBounds_toArray, List.set_cons_zero, List.set_cons_succ]
    refine' wpAnyH_take (i := 2) (oi := _) (v := _) ?hiRPUT0x3 (by kernel_rfl) (by kernel_rfl) (by kernel_rfl) ?hQRPUT0x3 ?hyRPUT0x3 (by assumption) ?restRPUT0x3
    case' hiRPUT0x3 => (first | (simp only [List.getElem?_toArray, List.getElem?_cons_succ, List.getElem?_cons_zero]; done) | (simp only [List.getElem?_toArray, List.getElem?_cons_succ, List.getElem?_cons_zero]; rfl))
    case' hQRPUT0x3 => exact fun _ _ _ h => h
    case' hyRPUT0x3 => refine Or.inl ⟨by rfl, ?_⟩
    (intro w hSw; (have z1 := hSw.out.cellAt (i := 1) rfl; have z2 := hSw.out.cellAt (i := 2) rfl; have z3 := hSw.out.cellAt (i := 3) rfl; have z4 := hSw.out.cellAt (i := 4) rfl; have z5 := hSw.out.cellAt (i := 5) rfl; have z6 := hSw.out.cellAt (i := 6) rfl; have z7 := hSw.out.cellAt (i := 7) rfl; have zl := hSw.out.lt); go_simp; try with_reducible rfl)
    try simp only [Act.put, List.setIfInBounds_toArray, List.set_cons_zero, List.set_cons_succ]
    refine' wpAnyH_take (i := 3) (oi := _) (v := _) ?hiRPUT0x4 (by kernel_rfl) (by kernel_rfl) (by kernel_rfl) ?hQRPUT0x4 ?hyRPUT0x4 (by assumption) ?restRPUT0x4
    case' hiRPUT0x4 => (first | (simp only [List.getElem?_toArray, List.getElem?_cons_succ, List.getElem?_cons_zero]; done) | (simp only [List.getElem?_toArray, List.getElem?_cons_succ, List.getElem?_cons_zero]; rfl))
    case' hQRPUT0x4 => exact fun _ _ _ h => h
    case' hyRPUT0x4 => refine Or.inl ⟨by rfl, ?_⟩
    (intro w hSw; (try dsimp only at hSw); go_simp; try with_reducible rfl)
    try simp only [Act.put, List.setIfInBounds_toArray, List.set_cons_zero, List.set_cons_succ]
    refine' wpAnyH_take (i := 4) (oi := _) (v := _) ?hiRPUT0x5 (by kernel_rfl) (by kernel_rfl) (by kernel_rfl) ?hQRPUT0x5 ?hyRPUT0x5 (by assumption) ?restRPUT0x5
    case' hiRPUT0x5 => (first | (simp only [List.getElem?_toArray, List.getElem?_cons_succ, List.getElem?_cons_zero]; done) | (simp only [List.getElem?_toArray, List.getElem?_cons_succ, List.getElem?_cons_zero]; rfl))
    case' hQRPUT0x5 => exact fun _ _ _ h => h
    case' hyRPUT0x5 => refine Or.inl ⟨by rfl, ?_⟩
    (intro w hSw; (have z1 := hSw.out.cellAt (i := 1) rfl; have z2 := hSw.out.cellAt (i := 2) rfl; have z3 := hSw.out.cellAt (i := 3) rfl; have z4 := hSw.out.cellAt (i := 4) rfl; have z5 := hSw.out.cellAt (i := 5) rfl; have z6 := hSw.out.cellAt (i := 6) rfl; have z7 := hSw.out.cellAt (i := 7) rfl; have zl := hSw.out.lt); go_simp; try with_reducible rfl)
    try simp only [Act.put, List.setIfInBounds_toArray, List.set_cons_zero, List.set_cons_succ]
    refine' wpAnyH_take (i := 5) (oi := _) (v := _) ?hiRPUT0x6 (by kernel_rfl) (by kernel_rfl) (by kernel_rfl) ?hQRPUT0x6 ?hyRPUT0x6 (by assumption) ?restRPUT0x6
    case' hiRPUT0x6 => (first | (simp only [List.getElem?_toArray, List.getElem?_cons_succ, List.getElem?_cons_zero]; done) | (simp only [List.getElem?_toArray, List.getElem?_cons_succ, List.getElem?_cons_zero]; rfl))
    case' hQRPUT0x6 => exact fun _ _ _ h => h
    case' hyRPUT0x6 => refine Or.inl ⟨by rfl, ?_⟩
    (intro w hSw; (try dsimp only at hSw); go_simp; try with_reducible rfl)
    try simp only [Act.put, List.setIfInBounds_toArray, List.set_cons_zero, List.set_cons_succ]
    refine' wpAnyH_take (i := 6) (oi := _) (v := _) ?hiRPUT0x7 (by kernel_rfl) (by kernel_rfl) (by kernel_rfl) ?hQRPUT0x7 ?hyRPUT0x7 (by assumption) ?restRPUT0x7
    case' hiRPUT0x7 => (first | (simp only [List.getElem?_toArray, List.getElem?_cons_succ, List.getElem?_cons_zero]; done) | (simp only [List.getElem?_toArray, List.getElem?_cons_succ, List.getElem?_cons_zero]; rfl))
    case' hQRPUT0x7 => exact fun _ _ _ h => h
    case' hyRPUT0x7 => refine Or.inl ⟨by rfl, ?_⟩
    (intro w hSw; (have z1 := hSw.out.cellAt (i := 1) rfl; have z2 := hSw.out.cellAt (i := 2) rfl; have z3 := hSw.out.cellAt (i := 3) rfl; have z4 := hSw.out.cellAt (i := 4) rfl; have z5 := hSw.out.cellAt (i := 5) rfl; have z6 := hSw.out.cellAt (i := 6) rfl; have z7 := hSw.out.cellAt (i := 7) rfl; have zl := hSw.out.lt); go_simp; try with_reducible rfl)
    try simp only [Act.put, List.setIfInBounds_toArray, List.set_cons_zero, List.set_cons_succ]
    refine' wpAnyH_take (i := 7) (oi := _) (v := _) ?hiRPUT0x8 (by kernel_rfl) (by kernel_rfl) (by kernel_rfl) ?hQRPUT0x8 ?hyRPUT0x8 (by assumption) ?restRPUT0x8
    case' hiRPUT0x8 => (first | (simp only [List.getElem?_toArray, List.getElem?_cons_succ, List.getElem?_cons_zero]; done) | (simp only [List.getElem?_toArray, List.getElem?_cons_succ, List.getElem?_cons_zero]; rfl))
    case' hQRPUT0x8 => exact fun _ _ _ h => h
    case' hyRPUT0x8 => refine Or.inl ⟨by rfl, ?_⟩
    (intro w hSw; (try dsimp only at hSw); go_simp; try with_reducible rfl)
    try simp only [Act.put, List.setIfInBounds_toArray, List.set_cons_zero, List.set_cons_succ]
    refine' wpAnyH_take (i := 9) (oi := _) (v := _) ?hiRPUT0x9 (by kernel_rfl) (by kernel_rfl) (by kernel_rfl) ?hQRPUT0x9 ?hyRPUT0x9 (by assumption) ?restRPUT0x9
    case' hiRPUT0x9 => (first | (simp only [List.getElem?_toArray, List.getElem?_cons_succ, List.getElem?_cons_zero]; done) | (simp only [List.getElem?_toArray, List.getElem?_cons_succ, List.getElem?_cons_zero]; rfl))
    case' hQRPUT0x9 => exact fun _ _ _ h => h
    case' hyRPUT0x9 => refine Or.inl ⟨by rfl, ?_⟩
    (intro w hSw; (try dsimp only at hSw); go_simp; try with_reducible rfl)
    try simp only [Act.put, List.setIfInBounds_toArray, List.set_cons_zero, List.set_cons_succ]
    refine' wpAnyH_take (i := 10) (oi := _) (v := _) ?hiRPUT0x10 (by kernel_rfl) (by kernel_rfl) (by kernel_rfl) ?hQRPUT0x10 ?hyRPUT0x10 (by assumption) ?restRPUT0x10
    case' hiRPUT0x10 => (first | (simp only [List.getElem?_toArray, List.getElem?_cons_succ, List.getElem?_cons_zero]; done) | (simp only [List.getElem?_toArray, List.getElem?_cons_succ, List.getElem?_cons_zero]; rfl))
    case' hQRPUT0x10 => exact fun _ _ _ h => h
    case' hyRPUT0x10 => refine Or.inl ⟨by rfl, ?_⟩
    (intro w hSw; (try dsimp only at hSw); go_simp; try with_reducible rfl)
    try simp only [Act.put, List.setIfInBounds_toArray, List.set_cons_zero, List.set_cons_succ]
    refine' wpAnyH_take (i := 11) (oi := _) (v := _) ?hiRPUT0x11 (by kernel_rfl) (by kernel_rfl) (by kernel_rfl) ?hQRPUT0x11 ?hyRPUT0x11 (by assumption) ?restRPUT0x11
    case' hiRPUT0x11 => (first | (simp only [List.getElem?_toArray, List.getElem?_cons_succ, List.getElem?_cons_zero]; done) | (simp only [List.getElem?_toArray, List.getElem?_cons_succ, List.getElem?_cons_zero]; rfl))
    case' hQRPUT0x11 => exact fun _ _ _ h => h
    case' hyRPUT0x11 => refine Or.inl ⟨by rfl, ?_⟩
    (intro w hSw; (have z1 := hSw.out.cellAt (i := 1) rfl; have z2 := hSw.out.cellAt (i := 2) rfl; have z3 := hSw.out.cellAt (i := 3) rfl; have z4 := hSw.out.cellAt (i := 4) rfl; have z5 := hSw.out.cellAt (i := 5) rfl; have z6 := hSw.out.cellAt (i := 6) rfl; have z7 := hSw.out.cellAt (i := 7) rfl; have zl := hSw.out.lt); go_simp; try with_reducible rfl)
    try simp only [Act.put, List.setIfInBounds_toArray, List.set_cons_zero, List.set_cons_succ]
    refine' wpAnyH_take (i := 12) (oi := _) (v := _) ?hiRPUT0x12 (by kernel_rfl) (by kernel_rfl) (by kernel_rfl) ?hQRPUT0x12 ?hyRPUT0x12 (by assumption) ?restRPUT0x12
    case' hiRPUT0x12 => (first | (simp only [List.getElem?_toArray, List.getElem?_cons_succ, List.getElem?_cons_zero]; done) | (simp only [List.getElem?_toArray, List.getElem?_cons_succ, List.getElem?_cons_zero]; rfl))
    case' hQRPUT0x12 => exact fun _ _ _ h => h
    case' hyRPUT0x12 => refine Or.inl ⟨by rfl, ?_⟩
    (intro w hSw; (try dsimp only at hSw); go_simp; try with_reducible rfl)
    try simp only [Act.put, List.setIfInBounds_toArray, List.set_cons_zero, List.set_cons_succ]
    refine' wpAnyH_take (i := 13) (oi := _) (v := _) ?hiRPUT0x13 (by kernel_rfl) (by kernel_rfl) (by kernel_rfl) ?hQRPUT0x13 ?hyRPUT0x13 (by assumption) ?restRPUT0x13
    case' hiRPUT0x13 => (first | (simp only [List.getElem?_toArray, List.getElem?_cons_succ, List.getElem?_cons_zero]; done) | (simp only [List.getElem?_toArray, List.getElem?_cons_succ, List.getElem?_cons_zero]; rfl))
    case' hQRPUT0x13 => exact fun _ _ _ h => h
    case' hyRPUT0x13 => refine Or.inl ⟨by rfl, ?_⟩
    (intro w hSw; (have z1 := hSw.out.cellAt (i := 1) rfl; have z2 := hSw.out.cellAt (i := 2) rfl; have z3 := hSw.out.cellAt (i := 3) rfl; have z4 := hSw.out.cellAt (i := 4) rfl; have z5 := hSw.out.cellAt (i := 5) rfl; have z6 := hSw.out.cellAt (i := 6) rfl; have z7 := hSw.out.cellAt (i := 7) rfl; have zl := hSw.out.lt); go_simp; try with_reducible rfl)
    try simp only [Act.put, List.setIfInBounds_toArray, List.set_cons_zero, List.set_cons_succ]
    refine' wpAnyH_take (i := 14) (oi := _) (v := _) ?hiRPUT0x14 (by kernel_rfl) (by kernel_rfl) (by kernel_rfl) ?hQRPUT0x14 ?hyRPUT0x14 (by assumption) ?restRPUT0x14
    case' hiRPUT0x14 => (first | (simp only [List.getElem?_toArray, List.getElem?_cons_succ, List.getElem?_cons_zero]; done) | (simp only [List.getElem?_toArray, List.getElem?_cons_succ, List.getElem?_cons_zero]; rfl))
    case' hQRPUT0x14 => exact fun _ _ _ h => h
    case' hyRPUT0x14 => refine Or.inl ⟨by rfl, ?_⟩
    (intro w hSw; (try dsimp only at hSw); go_simp; try with_reducible rfl)
    try simp only [Act.put, List.setIfInBounds_toArray, List.set_cons_zero, List.set_cons_succ]
    refine' wpAnyH_take (i := 15) (oi := _) (v := _) ?hiRPUT0x15 (by kernel_rfl) (by kernel_rfl) (by kernel_rfl) ?hQRPUT0x15 ?hyRPUT0x15 (by assumption) ?restRPUT0x15
    case' hiRPUT0x15 => (first | (simp only [List.getElem?_toArray, List.getElem?_cons_succ, List.getElem?_cons_zero]; done) | (simp only [List.getElem?_toArray, List.getElem?_cons_succ, List.getElem?_cons_zero]; rfl))
    case' hQRPUT0x15 => exact fun _ _ _ h => h
    case' hyRPUT0x15 => refine Or.inl ⟨by rfl, ?_⟩
    (intro w hSw; (have z1 := hSw.out.cellAt (i := 1) rfl; have z2 := hSw.out.cellAt (i := 2) rfl; have z3 := hSw.out.cellAt (i := 3) rfl; have z4 := hSw.out.cellAt (i := 4) rfl; have z5 := hSw.out.cellAt (i := 5) rfl; have z6 := hSw.out.cellAt (i := 6) rfl; have z7 := hSw.out.cellAt (i := 7) rfl; have zl := hSw.out.lt); go_simp; try with_reducible rfl)
    try simp only [Act.put, List.setIfInBounds_toArray, List.set_cons_zero, List.set_cons_succ]
    refine' wpAnyH_take (i := 16) (oi := _) (v := _) ?hiRPUT0x16 (by kernel_rfl) (by kernel_rfl) (by kernel_rfl) ?hQRPUT0x16 ?hyRPUT0x16 (by assumption) ?restRPUT0x16
    case' hiRPUT0x16 => (first | (simp only [List.getElem?_toArray, List.getElem?_cons_succ, List.getElem?_cons_zero]; done) | (simp only [List.getElem?_toArray, List.getElem?_cons_succ, List.getElem?_cons_zero]; rfl))
    case' hQRPUT0x16 => exact fun _ _ _ h => h
    case' hyRPUT0x16 => refine Or.inl ⟨by rfl, ?_⟩
    (intro w hSw; (try dsimp only at hSw); go_simp; try with_reducible rfl)
    try simp only [Act.put, List.setIfInBounds_toArray, List.set_cons_zero, List.set_cons_succ]
    refine wpAnyH_ready (rs := [8]) (by kernel_rfl) (by simp) ?_
    refine' AllReadyH.cons (o := _) ?hiRPUT0x17 (fun K hK => ?hKRPUT0x17) AllReadyH.nil
    case' hiRPUT0x17 => (first | (simp only [List.getElem?_toArray, List.getElem?_cons_succ, List.getElem?_cons_zero]; done) | (simp only [List.getElem?_toArray, List.getElem?_cons_succ, List.getElem?_cons_zero]; rfl))
    go_simp
    (go_at_call 21; refine P1.out.mono ?_; rintro e wa ⟨rfl, hb, p2⟩; have HB := Lib.hid hb; have P2 := Lib.hid p2; clear hb p2 P1)
    refine hK.out _ _ ?_ (fun hHeld => ?_)
    · exact HB
    clear hK K
    try simp only [Act.put, List.setIfInBounds_toArray, List.set_cons_zero, List.set_cons_succ]
    refine wpAnyH_ready (rs := [17]) (by kernel_rfl) (by simp) ?_
    refine' AllReadyH.cons (o := _) ?hiRPUT0x18 (fun K hK => ?hKRPUT0x18) AllReadyH.nil
    case' hiRPUT0x18 => (first | (simp only [List.getElem?_toArray, List.getElem?_cons_succ, List.getElem?_cons_zero]; done) | (simp only [List.getElem?_toArray, List.getElem?_cons_succ, List.getElem?_cons_zero]; rfl))
    go_simp
    (go_at_call 29; refine P2.out.mono ?_; rintro e wb2 ⟨rfl, hb, dn⟩; have HB := Lib.hid hb; have DN := Lib.hid dn; clear hb dn P2)
    refine hK.out _ _ ?_ (fun hHeld => ?_)
    · exact HB
    clear hK K
    try simp only [Act.put, List.setIfInBounds_toArray, List.set_cons_zero, List.set_cons_succ]
    refine' wpAnyH_take (i := 18) (oi := _) (v := _) ?hiRPUT0x19 (by kernel_rfl) (by kernel_rfl) (by kernel_rfl) ?hQRPUT0x19 ?hyRPUT0x19 (by assumption) ?restRPUT0x19
    case' hiRPUT0x19 => (first | (simp only [List.getElem?_toArray, List.getElem?_cons_succ, List.getElem?_cons_zero]; done) | (simp only [List.getElem?_toArray, List.getElem?_cons_succ, List.getElem?_cons_zero]; rfl))
    case' hQRPUT0x19 => exact fun _ _ _ h => h
    case' hyRPUT0x19 => refine Or.inl ⟨by rfl, ?_⟩
    (intro w hSw; (try dsimp only at hSw); go_simp; try with_reducible rfl)
    try simp only [Act.put, List.setIfInBounds_toArray, List.set_cons_zero, List.set_cons_succ]
    refine' wpAnyH_take (i := 19) (oi := _) (v := _) ?hiRPUT0x20 (by kernel_rfl) (by kernel_rfl) (by kernel_rfl) ?hQRPUT0x20 ?hyRPUT0x20 (by assumption) ?restRPUT0x20
    case' hiRPUT0x20 => (first | (simp only [List.getElem?_toArray, List.getElem?_cons_succ, List.getElem?_cons_zero]; done) | (simp only [List.getElem?_toArray, List.getElem?_cons_succ, List.getElem?_cons_zero]; rfl))
    case' hQRPUT0x20 => exact fun _ _ _ h => h
    case' hyRPUT0x20 => refine Or.inl ⟨by rfl, ?_⟩
    (intro w hSw; (try dsimp only at hSw); go_simp; try with_reducible rfl)
    try simp only [Act.put, List.setIfInBounds_toArray, List.set_cons_zero, List.set_cons_succ]
    refine wpAnyH_done (by kernel_rfl) ?_ _
    skip
    go_wp2
    go_ret
    refine OneR.of rfl (fun e => by subst e; simp) ?_
    have E : ∀ P fv2, stepP P ⟨2, an, key, ⟨ik, tx, fl⟩, fv2, kp, wn, wt⟩ now = putP P key ⟨ik, tx, fl⟩ kp now := fun P fv2 => by simp [stepP]
    rw [E, E]
    exact (DN.out.drop (UZ.out.trans UD.out (fun _ _ h => h))).more (by omega)
  by_cases k3 : kd = 3
  · subst k3
    simp only [Int.reduceBEq, Int.reduceEq, decide_true, decide_false] at *
    have P1 := Lib.hid ((DZ.out.keep0 UD.out).calls (UD.out.blk BQ.out (fun h => h)) (Or.inr rfl) NQ.out (sdrop_any (DZ.out.keep0 UD.out).s key now (by have := HB0.out; omega) (by have := HB0.out; omega) (by have := HB0.out; omega)) (fun w1 u1 r1 => qdrop_any r1 key now (by have := HB0.out; omega) (by have := HB0.out; omega)))
    have HB : Hid (Blk z.drew q [.int .i64 3, .int .i64 an, .string key, .int .i64 ik, .string tx, .slice pf nf cf, .bool kp, .int .i64 wn, .int .u16 wt] 34) := UD.out.blk BQ.out (fun h => h)
    go_upto_region 13 with (fail)
    clear x0 hql
    refine wp_region_held_drew (S := fun w' => Hid (Blk w' q [.int .i64 3, .int .i64 an, .string key, .int .i64 ik, .string tx, .slice pf nf cf, .bool kp, .int .i64 wn, .int .u16 wt] 34)) (by kernel_rfl) ?_ (fun hHeld => ?_)
    · exact HB
    try simp only [Array.replicate, Act.put, List.setIfInBounds_toArray]
    refine' wpAnyH_take (i := 0) (oi := _) (v := _) ?hiRDROP1x1 (by kernel_rfl) (by kernel_rfl) (by kernel_rfl) ?hQRDROP1x1 ?hyRDROP1x1 (by assumption) ?restRDROP1x1
    case' hiRDROP1x1 => (first | (simp only [List.getElem?_toArray, List.getElem?_cons_succ, List.getElem?_cons_zero]; done) | (simp only [List.getElem?_toArray, List.getElem?_cons_succ, List.getElem?_cons_zero]; rfl))
    case' hQRDROP1x1 => exact fun _ _ _ h => h
    case' hyRDROP1x1 => refine Or.inl ⟨by rfl, ?_⟩
    (intro w hSw; (try dsimp only at hSw); go_simp; try with_reducible rfl)
    try simp only [Act.put, List.setIfInBounds_toArray, List.set_cons_zero, List.set_cons_succ]
    refine' wpAnyH_take (i := 1) (oi := _) (v := _) ?hiRDROP1x2 (by kernel_rfl) (by kernel_rfl) (by kernel_rfl) ?hQRDROP1x2 ?hyRDROP1x2 (by assumption) ?restRDROP1x2
    case' hiRDROP1x2 => (first | (simp only [List.getElem?_toArray, List.getElem?_cons_succ, List.getElem?_cons_zero]; done) | (simp only [List.getElem?_toArray, List.getElem?_cons_succ, List.getElem?_cons_zero]; rfl))
    case' hQRDROP1x2 => exact fun _ _ _ h => h
    case' hyRDROP1x2 => refine Or.inl ⟨by rfl, ?_⟩
    (intro w hSw; (try dsimp only at hSw); go_simp; try with_reducible rfl)
    try simp only [Act.put, List.setIfInBounds_toArray, List.set_cons_zero, List.set_cons_succ]
    refine' wpAnyH_take (i := 2) (oi := _) (v := _) ?hiRDROP1x3 (by kernel_rfl) (by kernel_rfl) (by kernel_rfl) ?hQRDROP1x3 ?hyRDROP1x3 (by assumption) ?restRDROP1x3
    case' hiRDROP1x3 => (first | (simp only [List.getElem?_toArray, List.getElem?_cons_succ, List.getElem?_cons_zero]; done) | (simp only [List.getElem?_toArray, List.getElem?_cons_succ, List.getElem?_cons_zero]; rfl))
    case' hQRDROP1x3 => exact fun _ _ _ h => h
    case' hyRDROP1x3 => refine Or.inl ⟨by rfl, ?_⟩
    (intro w hSw; (have z1 := hSw.out.cellAt (i := 1) rfl; have z2 := hSw.out.cellAt (i := 2) rfl; have z3 := hSw.out.cellAt (i := 3) rfl; have z4 := hSw.out.cellAt (i := 4) rfl; have z5 := hSw.out.cellAt (i := 5) rfl; have z6 := hSw.out.cellAt (i := 6) rfl; have z7 := hSw.out.cellAt (i := 7) rfl; have zl := hSw.out.lt); go_simp; try with_reducible rfl)
    try simp only [Act.put, List.setIfInBounds_toArray, List.set_cons_zero, List.set_cons_succ]
    refine' wpAnyH_take (i := 3) (oi := _) (v := _) ?hiRDROP1x4 (by kernel_rfl) (by kernel_rfl) (by kernel_rfl) ?hQRDROP1x4 ?hyRDROP1x4 (by assumption) ?restRDROP1x4
    case' hiRDROP1x4 => (first | (simp only [List.getElem?_toArray, List.getElem?_cons_succ, List.getElem?_cons_zero]; done) | (simp only [List.getElem?_toArray, List.getElem?_cons_succ, List.getElem?_cons_zero]; rfl))
    case' hQRDROP1x4 => exact fun _ _ _ h => h
    case' hyRDROP1x4 => refine Or.inl ⟨by rfl, ?_⟩
    (intro w hSw; (try dsimp only at hSw); go_simp; try with_reducible rfl)
    try simp only [Act.put, List.setIfInBounds_toArray, List.set_cons_zero, List.set_cons_succ]
    refine' wpAnyH_take (i := 5) (oi := _) (v := _) ?hiRDROP1x5 (by kernel_rfl) (by kernel_rfl) (by kernel_rfl) ?hQRDROP1x5 ?hyRDROP1x5 (by assumption) ?restRDROP1x5
    case' hiRDROP1x5 => (first | (simp only [List.getElem?_toArray, List.getElem?_cons_succ, List.getElem?_cons_zero]; done) | (simp only [List.getElem?_toArray, List.getElem?_cons_succ, List.getElem?_cons_zero]; rfl))
    case' hQRDROP1x5 => exact fun _ _ _ h => h
    case' hyRDROP1x5 => refine Or.inl ⟨by rfl, ?_⟩
    (intro w hSw; (try dsimp only at hSw); go_simp; try with_reducible rfl)
    try simp only [Act.put, List.setIfInBounds_toArray, List.set_cons_zero, List.set_cons_succ]
    refine' wpAnyH_take (i := 6) (oi := _) (v := _) ?hiRDROP1x6 (by kernel_rfl) (by kernel_rfl) (by kernel_rfl) ?hQRDROP1x6 ?hyRDROP1x6 (by assumption) ?restRDROP1x6
    case' hiRDROP1x6 => (first | (simp only [List.getElem?_toArray, List.getElem?_cons_succ, List.getElem?_cons_zero]; done) | (simp only [List.getElem?_toArray, List.getElem?_cons_succ, List.getElem?_cons_zero]; rfl))
    case' hQRDROP1x6 => exact fun _ _ _ h => h
    case' hyRDROP1x6 => refine Or.inl ⟨by rfl, ?_⟩
    (intro w hSw; (try dsimp only at hSw); go_simp; try with_reducible rfl)
    try simp only [Act.put, List.setIfInBounds_toArray, List.set_cons_zero, List.set_cons_succ]
    refine' wpAnyH_take (i := 7) (oi := _) (v := _) ?hiRDROP1x7 (by kernel_rfl) (by kernel_rfl) (by kernel_rfl) ?hQRDROP1x7 ?hyRDROP1x7 (by assumption) ?restRDROP1x7
    case' hiRDROP1x7 => (first | (simp only [List.getElem?_toArray, List.getElem?_cons_succ, List.getElem?_cons_zero]; done) | (simp only [List.getElem?_toArray, List.getElem?_cons_succ, List.getElem?_cons_zero]; rfl))
    case' hQRDROP1x7 => exact fun _ _ _ h => h
    case' hyRDROP1x7 => refine Or.inl ⟨by rfl, ?_⟩
    (intro w hSw; (have z1 := hSw.out.cellAt (i := 1) rfl; have z2 := hSw.out.cellAt (i := 2) rfl; have z3 := hSw.out.cellAt (i := 3) rfl; have z4 := hSw.out.cellAt (i := 4) rfl; have z5 := hSw.out.cellAt (i := 5) rfl; have z6 := hSw.out.cellAt (i := 6) rfl; have z7 := hSw.out.cellAt (i := 7) rfl; have zl := hSw.out.lt); go_simp; try with_reducible rfl)
    try simp only [Act.put, List.setIfInBounds_toArray, List.set_cons_zero, List.set_cons_succ]
    refine' wpAnyH_take (i := 8) (oi := _) (v := _) ?hiRDROP1x8 (by kernel_rfl) (by kernel_rfl) (by kernel_rfl) ?hQRDROP1x8 ?hyRDROP1x8 (by assumption) ?restRDROP1x8
    case' hiRDROP1x8 => (first | (simp only [List.getElem?_toArray, List.getElem?_cons_succ, List.getElem?_cons_zero]; done) | (simp only [List.getElem?_toArray, List.getElem?_cons_succ, List.getElem?_cons_zero]; rfl))
    case' hQRDROP1x8 => exact fun _ _ _ h => h
    case' hyRDROP1x8 => refine Or.inl ⟨by rfl, ?_⟩
    (intro w hSw; (try dsimp only at hSw); go_simp; try with_reducible rfl)
    try simp only [Act.put, List.setIfInBounds_toArray, List.set_cons_zero, List.set_cons_succ]
    refine wpAnyH_ready (rs := [4]) (by kernel_rfl) (by simp) ?_
    refine' AllReadyH.cons (o := _) ?hiRDROP1x9 (fun K hK => ?hKRDROP1x9) AllReadyH.nil
    case' hiRDROP1x9 => (first | (simp only [List.getElem?_toArray, List.getElem?_cons_succ, List.getElem?_cons_zero]; done) | (simp only [List.getElem?_toArray, List.getElem?_cons_succ, List.getElem?_cons_zero]; rfl))
    go_simp
    (go_at_call 30; refine P1.out.mono ?_; rintro e wa ⟨rfl, hb, p2⟩; have HB := Lib.hid hb; have P2 := Lib.hid p2; clear hb p2 P1)
    refine hK.out _ _ ?_ (fun hHeld => ?_)
    · exact HB
    clear hK K
    try simp only [Act.put, List.setIfInBounds_toArray, List.set_cons_zero, List.set_cons_succ]
    refine wpAnyH_ready (rs := [9]) (by kernel_rfl) (by simp) ?_
    refine' AllReadyH.cons (o := _) ?hiRDROP1x10 (fun K hK => ?hKRDROP1x10) AllReadyH.nil
    case' hiRDROP1x10 => (first | (simp only [List.getElem?_toArray, List.getElem?_cons_succ, List.getElem?_cons_zero]; done) | (simp only [List.getElem?_toArray, List.getElem?_cons_succ, List.getElem?_cons_zero]; rfl))
    go_simp
    (go_at_call 31; refine P2.out.mono ?_; rintro e wb2 ⟨rfl, hb, dn⟩; have HB := Lib.hid hb; have DN := Lib.hid dn; clear hb dn P2)
    refine hK.out _ _ ?_ (fun hHeld => ?_)
    · exact HB
    clear hK K
    try simp only [Act.put, List.setIfInBounds_toArray, List.set_cons_zero, List.set_cons_succ]
    refine' wpAnyH_take (i := 10) (oi := _) (v := _) ?hiRDROP1x11 (by kernel_rfl) (by kernel_rfl) (by kernel_rfl) ?hQRDROP1x11 ?hyRDROP1x11 (by assumption) ?restRDROP1x11
    case' hiRDROP1x11 => (first | (simp only [List.getElem?_toArray, List.getElem?_cons_succ, List.getElem?_cons_zero]; done) | (simp only [List.getElem?_toArray, List.getElem?_cons_succ, List.getElem?_cons_zero]; rfl))
    case' hQRDROP1x11 => exact fun _ _ _ h => h
    case' hyRDROP1x11 => refine Or.inl ⟨by rfl, ?_⟩
    (intro w hSw; (try dsimp only at hSw); go_simp; try with_reducible rfl)
    try simp only [Act.put, List.setIfInBounds_toArray, List.set_cons_zero, List.set_cons_succ]
    refine' wpAnyH_take (i := 11) (oi := _) (v := _) ?hiRDROP1x12 (by kernel_rfl) (by kernel_rfl) (by kernel_rfl) ?hQRDROP1x12 ?hyRDROP1x12 (by assumption) ?restRDROP1x12
    case' hiRDROP1x12 => (first | (simp only [List.getElem?_toArray, List.getElem?_cons_succ, List.getElem?_cons_zero]; done) | (simp only [List.getElem?_toArray, List.getElem?_cons_succ, List.getElem?_cons_zero]; rfl))
    case' hQRDROP1x12 => exact fun _ _ _ h => h
    case' hyRDROP1x12 => refine Or.inl ⟨by rfl, ?_⟩
    (intro w hSw; (try dsimp only at hSw); go_simp; try with_reducible rfl)
    try simp only [Act.put, List.setIfInBounds_toArray, List.set_cons_zero, List.set_cons_succ]
    refine wpAnyH_done (by kernel_rfl) ?_ _
    skip
    go_wp2
    go_ret
    refine OneR.of rfl (fun e => by subst e; simp) ?_
    have E : ∀ P fv2, stepP P ⟨3, an, key, ⟨ik, tx, fl⟩, fv2, kp, wn, wt⟩ now = dropP P key now := fun P fv2 => by simp [stepP]
    rw [E, E]
    exact (DN.out.drop (UZ.out.trans UD.out (fun _ _ h => h))).more (by omega)
  by_cases k4 : kd = 4
  · subst k4
    simp only [Int.reduceBEq, Int.reduceEq, decide_true, decide_false] at *
    have P1 := Lib.hid ((DZ.out.keep0 UD.out).calls (UD.out.blk BQ.out (fun h => h)) (Or.inr rfl) NQ.out (sexpire_any (DZ.out.keep0 UD.out).s key wn now (by have := HB0.out; omega) (by have := HB0.out; omega) (by have := HB0.out; omega) (by have := HB0.out; omega)) (fun w1 u1 r1 => qexpire_any r1 key wn now (by have := HB0.out; omega) (by have := HB0.out; omega) (by have := HB0.out; omega)))
    have HB : Hid (Blk z.drew q [.int .i64 4, .int .i64 an, .string key, .int .i64 ik, .string tx, .slice pf nf cf, .bool kp, .int .i64 wn, .int .u16 wt] 34) := UD.out.blk BQ.out (fun h => h)
    go_upto_region 15 with (fail)
    clear x0 hql
    refine wp_region_held_drew (S := fun w' => Hid (Blk w' q [.int .i64 4, .int .i64 an, .string key, .int .i64 ik, .string tx, .slice pf nf cf, .bool kp, .int .i64 wn, .int .u16 wt] 34)) (by kernel_rfl) ?_ (fun hHeld => ?_)
    · exact HB
    try simp only [Array.replicate, Act.put, List.setIfInBounds_toArray]
    refine' wpAnyH_take (i := 0) (oi := _) (v := _) ?hiREXP2x1 (by kernel_rfl) (by kernel_rfl) (by kernel_rfl) ?hQREXP2x1 ?hyREXP2x1 (by assumption) ?restREXP2x1
    case' hiREXP2x1 => (first | (simp only [List.getElem?_toArray, List.getElem?_cons_succ, List.getElem?_cons_zero]; done) | (simp only [List.getElem?_toArray, List.getElem?_cons_succ, List.getElem?_cons_zero]; rfl))
    case' hQREXP2x1 => exact fun _ _ _ h => h
    case' hyREXP2x1 => refine Or.inl ⟨by rfl, ?_⟩
    (intro w hSw; (try dsimp only at hSw); go_simp; try with_reducible rfl)
    try simp only [Act.put, List.setIfInBounds_toArray, List.set_cons_zero, List.set_cons_succ]
    refine' wpAnyH_take (i := 1) (oi := _) (v := _) ?hiREXP2x2 (by kernel_rfl) (by kernel_rfl) (by kernel_rfl) ?hQREXP2x2 ?hyREXP2x2 (by assumption) ?restREXP2x2
    case' hiREXP2x2 => (first | (simp only [List.getElem?_toArray, List.getElem?_cons_succ, List.getElem?_cons_zero]; done) | (simp only [List.getElem?_toArray, List.getElem?_cons_succ, List.getElem?_cons_zero]; rfl))
    case' hQREXP2x2 => exact fun _ _ _ h => h
    case' hyREXP2x2 => refine Or.inl ⟨by rfl, ?_⟩
    (intro w hSw; (try dsimp only at hSw); go_simp; try with_reducible rfl)
    try simp only [Act.put, List.setIfInBounds_toArray, List.set_cons_zero, List.set_cons_succ]
    refine' wpAnyH_take (i := 2) (oi := _) (v := _) ?hiREXP2x3 (by kernel_rfl) (by kernel_rfl) (by kernel_rfl) ?hQREXP2x3 ?hyREXP2x3 (by assumption) ?restREXP2x3
    case' hiREXP2x3 => (first | (simp only [List.getElem?_toArray, List.getElem?_cons_succ, List.getElem?_cons_zero]; done) | (simp only [List.getElem?_toArray, List.getElem?_cons_succ, List.getElem?_cons_zero]; rfl))
    case' hQREXP2x3 => exact fun _ _ _ h => h
    case' hyREXP2x3 => refine Or.inl ⟨by rfl, ?_⟩
    (intro w hSw; (have z1 := hSw.out.cellAt (i := 1) rfl; have z2 := hSw.out.cellAt (i := 2) rfl; have z3 := hSw.out.cellAt (i := 3) rfl; have z4 := hSw.out.cellAt (i := 4) rfl; have z5 := hSw.out.cellAt (i := 5) rfl; have z6 := hSw.out.cellAt (i := 6) rfl; have z7 := hSw.out.cellAt (i := 7) rfl; have zl := hSw.out.lt); go_simp; try with_reducible rfl)
    try simp only [Act.put, List.setIfInBounds_toArray, List.set_cons_zero, List.set_cons_succ]
    refine' wpAnyH_take (i := 3) (oi := _) (v := _) ?hiREXP2x4 (by kernel_rfl) (by kernel_rfl) (by kernel_rfl) ?hQREXP2x4 ?hyREXP2x4 (by assumption) ?restREXP2x4
    case' hiREXP2x4 => (first | (simp only [List.getElem?_toArray, List.getElem?_cons_succ, List.getElem?_cons_zero]; done) | (simp only [List.getElem?_toArray, List.getElem?_cons_succ, List.getElem?_cons_zero]; rfl))
    case' hQREXP2x4 => exact fun _ _ _ h => h
    case' hyREXP2x4 => refine Or.inl ⟨by rfl, ?_⟩
    (intro w hSw; (try dsimp only at hSw); go_simp; try with_reducible rfl)
    try simp only [Act.put, List.setIfInBounds_toArray, List.set_cons_zero, List.set_cons_succ]
    refine' wpAnyH_take (i := 4) (oi := _) (v := _) ?hiREXP2x5 (by kernel_rfl) (by kernel_rfl) (by kernel_rfl) ?hQREXP2x5 ?hyREXP2x5 (by assumption) ?restREXP2x5
    case' hiREXP2x5 => (first | (simp only [List.getElem?_toArray, List.getElem?_cons_succ, List.getElem?_cons_zero]; done) | (simp only [List.getElem?_toArray, List.getElem?_cons_succ, List.getElem?_cons_zero]; rfl))
    case' hQREXP2x5 => exact fun _ _ _ h => h
    case' hyREXP2x5 => refine Or.inl ⟨by rfl, ?_⟩
    (intro w hSw; (have z1 := hSw.out.cellAt (i := 1) rfl; have z2 := hSw.out.cellAt (i := 2) rfl; have z3 := hSw.out.cellAt (i := 3) rfl; have z4 := hSw.out.cellAt (i := 4) rfl; have z5 := hSw.out.cellAt (i := 5) rfl; have z6 := hSw.out.cellAt (i := 6) rfl; have z7 := hSw.out.cellAt (i := 7) rfl; have zl := hSw.out.lt); go_simp; try with_reducible rfl)
    try simp only [Act.put, List.setIfInBounds_toArray, List.set_cons_zero, List.set_cons_succ]
    refine' wpAnyH_take (i := 5) (oi := _) (v := _) ?hiREXP2x6 (by kernel_rfl) (by kernel_rfl) (by kernel_rfl) ?hQREXP2x6 ?hyREXP2x6 (by assumption) ?restREXP2x6
    case' hiREXP2x6 => (first | (simp only [List.getElem?_toArray, List.getElem?_cons_succ, List.getElem?_cons_zero]; done) | (simp only [List.getElem?_toArray, List.getElem?_cons_succ, List.getElem?_cons_zero]; rfl))
    case' hQREXP2x6 => exact fun _ _ _ h => h
    case' hyREXP2x6 => refine Or.inl ⟨by rfl, ?_⟩
    (intro w hSw; (try dsimp only at hSw); go_simp; try with_reducible rfl)
    try simp only [Act.put, List.setIfInBounds_toArray, List.set_cons_zero, List.set_cons_succ]
    refine' wpAnyH_take (i := 7) (oi := _) (v := _) ?hiREXP2x7 (by kernel_rfl) (by kernel_rfl) (by kernel_rfl) ?hQREXP2x7 ?hyREXP2x7 (by assumption) ?restREXP2x7
    case' hiREXP2x7 => (first | (simp only [List.getElem?_toArray, List.getElem?_cons_succ, List.getElem?_cons_zero]; done) | (simp only [List.getElem?_toArray, List.getElem?_cons_succ, List.getElem?_cons_zero]; rfl))
    case' hQREXP2x7 => exact fun _ _ _ h => h
    case' hyREXP2x7 => refine Or.inl ⟨by rfl, ?_⟩
    (intro w hSw; (try dsimp only at hSw); go_simp; try with_reducible rfl)
    try simp only [Act.put, List.setIfInBounds_toArray, List.set_cons_zero, List.set_cons_succ]
    refine' wpAnyH_take (i := 8) (oi := _) (v := _) ?hiREXP2x8 (by kernel_rfl) (by kernel_rfl) (by kernel_rfl) ?hQREXP2x8 ?hyREXP2x8 (by assumption) ?restREXP2x8
    case' hiREXP2x8 => (first | (simp only [List.getElem?_toArray, List.getElem?_cons_succ, List.getElem?_cons_zero]; done) | (simp only [List.getElem?_toArray, List.getElem?_cons_succ, List.getElem?_cons_zero]; rfl))
    case' hQREXP2x8 => exact fun _ _ _ h => h
    case' hyREXP2x8 => refine Or.inl ⟨by rfl, ?_⟩
    (intro w hSw; (try dsimp only at hSw); go_simp; try with_reducible rfl)
    try simp only [Act.put, List.setIfInBounds_toArray, List.set_cons_zero, List.set_cons_succ]
    refine' wpAnyH_take (i := 9) (oi := _) (v := _) ?hiREXP2x9 (by kernel_rfl) (by kernel_rfl) (by kernel_rfl) ?hQREXP2x9 ?hyREXP2x9 (by assumption) ?restREXP2x9
    case' hiREXP2x9 => (first | (simp only [List.getElem?_toArray, List.getElem?_cons_succ, List.getElem?_cons_zero]; done) | (simp only [List.getElem?_toArray, List.getElem?_cons_succ, List.getElem?_cons_zero]; rfl))
    case' hQREXP2x9 => exact fun _ _ _ h => h
    case' hyREXP2x9 => refine Or.inl ⟨by rfl, ?_⟩
    (intro w hSw; (have z1 := hSw.out.cellAt (i := 1) rfl; have z2 := hSw.out.cellAt (i := 2) rfl; have z3 := hSw.out.cellAt (i := 3) rfl; have z4 := hSw.out.cellAt (i := 4) rfl; have z5 := hSw.out.cellAt (i := 5) rfl; have z6 := hSw.out.cellAt (i := 6) rfl; have z7 := hSw.out.cellAt (i := 7) rfl; have zl := hSw.out.lt); go_simp; try with_reducible rfl)
    try simp only [Act.put, List.setIfInBounds_toArray, List.set_cons_zero, List.set_cons_succ]
    refine' wpAnyH_take (i := 10) (oi := _) (v := _) ?hiREXP2x10 (by kernel_rfl) (by kernel_rfl) (by kernel_rfl) ?hQREXP2x10 ?hyREXP2x10 (by assumption) ?restREXP2x10
    case' hiREXP2x10 => (first | (simp only [List.getElem?_toArray, List.getElem?_cons_succ, List.getElem?_cons_zero]; done) | (simp only [List.getElem?_toArray, List.getElem?_cons_succ, List.getElem?_cons_zero]; rfl))
    case' hQREXP2x10 => exact fun _ _ _ h => h
    case' hyREXP2x10 => refine Or.inl ⟨by rfl, ?_⟩
    (intro w hSw; (try dsimp only at hSw); go_simp; try with_reducible rfl)
    try simp only [Act.put, List.setIfInBounds_toArray, List.set_cons_zero, List.set_cons_succ]
    refine' wpAnyH_take (i := 11) (oi := _) (v := _) ?hiREXP2x11 (by kernel_rfl) (by kernel_rfl) (by kernel_rfl) ?hQREXP2x11 ?hyREXP2x11 (by assumption) ?restREXP2x11
    case' hiREXP2x11 => (first | (simp only [List.getElem?_toArray, List.getElem?_cons_succ, List.getElem?_cons_zero]; done) | (simp only [List.getElem?_toArray, List.getElem?_cons_succ, List.getElem?_cons_zero]; rfl))
    case' hQREXP2x11 => exact fun _ _ _ h => h
    case' hyREXP2x11 => refine Or.inl ⟨by rfl, ?_⟩
    (intro w hSw; (have z1 := hSw.out.cellAt (i := 1) rfl; have z2 := hSw.out.cellAt (i := 2) rfl; have z3 := hSw.out.cellAt (i := 3) rfl; have z4 := hSw.out.cellAt (i := 4) rfl; have z5 := hSw.out.cellAt (i := 5) rfl; have z6 := hSw.out.cellAt (i := 6) rfl; have z7 := hSw.out.cellAt (i := 7) rfl; have zl := hSw.out.lt); go_simp; try with_reducible rfl)
    try simp only [Act.put, List.setIfInBounds_toArray, List.set_cons_zero, List.set_cons_succ]
    refine' wpAnyH_take (i := 12) (oi := _) (v := _) ?hiREXP2x12 (by kernel_rfl) (by kernel_rfl) (by kernel_rfl) ?hQREXP2x12 ?hyREXP2x12 (by assumption) ?restREXP2x12
    case' hiREXP2x12 => (first | (simp only [List.getElem?_toArray, List.getElem?_cons_succ, List.getElem?_cons_zero]; done) | (simp only [List.getElem?_toArray, List.getElem?_cons_succ, List.getElem?_cons_zero]; rfl))
    case' hQREXP2x12 => exact fun _ _ _ h => h
    case' hyREXP2x12 => refine Or.inl ⟨by rfl, ?_⟩
    (intro w hSw; (try dsimp only at hSw); go_simp; try with_reducible rfl)
    try simp only [Act.put, List.setIfInBounds_toArray, List.set_cons_zero, List.set_cons_succ]
    refine wpAnyH_ready (rs := [6]) (by kernel_rfl) (by simp) ?_
    refine' AllReadyH.cons (o := _) ?hiREXP2x13 (fun K hK => ?hKREXP2x13) AllReadyH.nil
    case' hiREXP2x13 => (first | (simp only [List.getElem?_toArray, List.getElem?_cons_succ, List.getElem?_cons_zero]; done) | (simp only [List.getElem?_toArray, List.getElem?_cons_succ, List.getElem?_cons_zero]; rfl))
    go_simp
    (go_at_call 32; refine P1.out.mono ?_; rintro e wa ⟨rfl, hb, p2⟩; have HB := Lib.hid hb; have P2 := Lib.hid p2; clear hb p2 P1)
    refine hK.out _ _ ?_ (fun hHeld => ?_)
    · exact HB
    clear hK K
    try simp only [Act.put, List.setIfInBounds_toArray, List.set_cons_zero, List.set_cons_succ]
    refine wpAnyH_ready (rs := [13]) (by kernel_rfl) (by simp) ?_
    refine' AllReadyH.cons (o := _) ?hiREXP2x14 (fun K hK => ?hKREXP2x14) AllReadyH.nil
    case' hiREXP2x14 => (first | (simp only [List.getElem?_toArray, List.getElem?_cons_succ, List.getElem?_cons_zero]; done) | (simp only [List.getElem?_toArray, List.getElem?_cons_succ, List.getElem?_cons_zero]; rfl))
    go_simp
    (go_at_call 33; refine P2.out.mono ?_; rintro e wb2 ⟨rfl, hb, dn⟩; have HB := Lib.hid hb; have DN := Lib.hid dn; clear hb dn P2)
    refine hK.out _ _ ?_ (fun hHeld => ?_)
    · exact HB
    clear hK K
    try simp only [Act.put, List.setIfInBounds_toArray, List.set_cons_zero, List.set_cons_succ]
    refine' wpAnyH_take (i := 14) (oi := _) (v := _) ?hiREXP2x15 (by kernel_rfl) (by kernel_rfl) (by kernel_rfl) ?hQREXP2x15 ?hyREXP2x15 (by assumption) ?restREXP2x15
    case' hiREXP2x15 => (first | (simp only [List.getElem?_toArray, List.getElem?_cons_succ, List.getElem?_cons_zero]; done) | (simp only [List.getElem?_toArray, List.getElem?_cons_succ, List.getElem?_cons_zero]; rfl))
    case' hQREXP2x15 => exact fun _ _ _ h => h
    case' hyREXP2x15 => refine Or.inl ⟨by rfl, ?_⟩
    (intro w hSw; (try dsimp only at hSw); go_simp; try with_reducible rfl)
    try simp only [Act.put, List.setIfInBounds_toArray, List.set_cons_zero, List.set_cons_succ]
    refine' wpAnyH_take (i := 15) (oi := _) (v := _) ?hiREXP2x16 (by kernel_rfl) (by kernel_rfl) (by kernel_rfl) ?hQREXP2x16 ?hyREXP2x16 (by assumption) ?restREXP2x16
    case' hiREXP2x16 => (first | (simp only [List.getElem?_toArray, List.getElem?_cons_succ, List.getElem?_cons_zero]; done) | (simp only [List.getElem?_toArray, List.getElem?_cons_succ, List.getElem?_cons_zero]; rfl))
    case' hQREXP2x16 => exact fun _ _ _ h => h
    case' hyREXP2x16 => refine Or.inl ⟨by rfl, ?_⟩
    (intro w hSw; (try dsimp only at hSw); go_simp; try with_reducible rfl)
    try simp only [Act.put, List.setIfInBounds_toArray, List.set_cons_zero, List.set_cons_succ]
    refine wpAnyH_done (by kernel_rfl) ?_ _
    skip
    go_wp2
    go_ret
    refine OneR.of rfl (fun e => by subst e; simp) ?_
    have E : ∀ P fv2, stepP P ⟨4, an, key, ⟨ik, tx, fl⟩, fv2, kp, wn, wt⟩ now = expireP P key wn now := fun P fv2 => by simp [stepP]
    rw [E, E]
    exact (DN.out.drop (UZ.out.trans UD.out (fun _ _ h => h))).more (by omega)
  by_cases k5 : kd = 5
  · subst k5
    simp only [Int.reduceBEq, Int.reduceEq, decide_true, decide_false] at *
    have P1 := Lib.hid ((DZ.out.keep0 UD.out).calls (UD.out.blk BQ.out (fun h => h)) (Or.inr rfl) NQ.out (spersist_any (DZ.out.keep0 UD.out).s key now (by have := HB0.out; omega) (by have := HB0.out; omega) (by have := HB0.out; omega)) (fun w1 u1 r1 => qpersist_any r1 key now (by have := HB0.out; omega) (by have := HB0.out; omega)))
    have HB : Hid (Blk z.drew q [.int .i64 5, .int .i64 an, .string key, .int .i64 ik, .string tx, .slice pf nf cf, .bool kp, .int .i64 wn, .int .u16 wt] 34) := UD.out.blk BQ.out (fun h => h)
    go_upto_region 17 with (fail)
    clear x0 hql
    refine wp_region_held_drew (S := fun w' => Hid (Blk w' q [.int .i64 5, .int .i64 an, .string key, .int .i64 ik, .string tx, .slice pf nf cf, .bool kp, .int .i64 wn, .int .u16 wt] 34)) (by kernel_rfl) ?_ (fun hHeld => ?_)
    · exact HB
    try simp only [Array.replicate, Act.put, List.setIfInBounds_toArray]
    refine' wpAnyH_take (i := 0) (oi := _) (v := _) ?hiRPER3x1 (by kernel_rfl) (by kernel_rfl) (by kernel_rfl) ?hQRPER3x1 ?hyRPER3x1 (by assumption) ?restRPER3x1
    case' hiRPER3x1 => (first | (simp only [List.getElem?_toArray, List.getElem?_cons_succ, List.getElem?_cons_zero]; done) | (simp only [List.getElem?_toArray, List.getElem?_cons_succ, List.getElem?_cons_zero]; rfl))
    case' hQRPER3x1 => exact fun _ _ _ h => h
    case' hyRPER3x1 => refine Or.inl ⟨by rfl, ?_⟩
    (intro w hSw; (try dsimp only at hSw); go_simp; try with_reducible rfl)
    try simp only [Act.put, List.setIfInBounds_toArray, List.set_cons_zero, List.set_cons_succ]
    refine' wpAnyH_take (i := 1) (oi := _) (v := _) ?hiRPER3x2 (by kernel_rfl) (by kernel_rfl) (by kernel_rfl) ?hQRPER3x2 ?hyRPER3x2 (by assumption) ?restRPER3x2
    case' hiRPER3x2 => (first | (simp only [List.getElem?_toArray, List.getElem?_cons_succ, List.getElem?_cons_zero]; done) | (simp only [List.getElem?_toArray, List.getElem?_cons_succ, List.getElem?_cons_zero]; rfl))
    case' hQRPER3x2 => exact fun _ _ _ h => h
    case' hyRPER3x2 => refine Or.inl ⟨by rfl, ?_⟩
    (intro w hSw; (try dsimp only at hSw); go_simp; try with_reducible rfl)
    try simp only [Act.put, List.setIfInBounds_toArray, List.set_cons_zero, List.set_cons_succ]
    refine' wpAnyH_take (i := 2) (oi := _) (v := _) ?hiRPER3x3 (by kernel_rfl) (by kernel_rfl) (by kernel_rfl) ?hQRPER3x3 ?hyRPER3x3 (by assumption) ?restRPER3x3
    case' hiRPER3x3 => (first | (simp only [List.getElem?_toArray, List.getElem?_cons_succ, List.getElem?_cons_zero]; done) | (simp only [List.getElem?_toArray, List.getElem?_cons_succ, List.getElem?_cons_zero]; rfl))
    case' hQRPER3x3 => exact fun _ _ _ h => h
    case' hyRPER3x3 => refine Or.inl ⟨by rfl, ?_⟩
    (intro w hSw; (have z1 := hSw.out.cellAt (i := 1) rfl; have z2 := hSw.out.cellAt (i := 2) rfl; have z3 := hSw.out.cellAt (i := 3) rfl; have z4 := hSw.out.cellAt (i := 4) rfl; have z5 := hSw.out.cellAt (i := 5) rfl; have z6 := hSw.out.cellAt (i := 6) rfl; have z7 := hSw.out.cellAt (i := 7) rfl; have zl := hSw.out.lt); go_simp; try with_reducible rfl)
    try simp only [Act.put, List.setIfInBounds_toArray, List.set_cons_zero, List.set_cons_succ]
    refine' wpAnyH_take (i := 3) (oi := _) (v := _) ?hiRPER3x4 (by kernel_rfl) (by kernel_rfl) (by kernel_rfl) ?hQRPER3x4 ?hyRPER3x4 (by assumption) ?restRPER3x4
    case' hiRPER3x4 => (first | (simp only [List.getElem?_toArray, List.getElem?_cons_succ, List.getElem?_cons_zero]; done) | (simp only [List.getElem?_toArray, List.getElem?_cons_succ, List.getElem?_cons_zero]; rfl))
    case' hQRPER3x4 => exact fun _ _ _ h => h
    case' hyRPER3x4 => refine Or.inl ⟨by rfl, ?_⟩
    (intro w hSw; (try dsimp only at hSw); go_simp; try with_reducible rfl)
    try simp only [Act.put, List.setIfInBounds_toArray, List.set_cons_zero, List.set_cons_succ]
    refine' wpAnyH_take (i := 5) (oi := _) (v := _) ?hiRPER3x5 (by kernel_rfl) (by kernel_rfl) (by kernel_rfl) ?hQRPER3x5 ?hyRPER3x5 (by assumption) ?restRPER3x5
    case' hiRPER3x5 => (first | (simp only [List.getElem?_toArray, List.getElem?_cons_succ, List.getElem?_cons_zero]; done) | (simp only [List.getElem?_toArray, List.getElem?_cons_succ, List.getElem?_cons_zero]; rfl))
    case' hQRPER3x5 => exact fun _ _ _ h => h
    case' hyRPER3x5 => refine Or.inl ⟨by rfl, ?_⟩
    (intro w hSw; (try dsimp only at hSw); go_simp; try with_reducible rfl)
    try simp only [Act.put, List.setIfInBounds_toArray, List.set_cons_zero, List.set_cons_succ]
    refine' wpAnyH_take (i := 6) (oi := _) (v := _) ?hiRPER3x6 (by kernel_rfl) (by kernel_rfl) (by kernel_rfl) ?hQRPER3x6 ?hyRPER3x6 (by assumption) ?restRPER3x6
    case' hiRPER3x6 => (first | (simp only [List.getElem?_toArray, List.getElem?_cons_succ, List.getElem?_cons_zero]; done) | (simp only [List.getElem?_toArray, List.getElem?_cons_succ, List.getElem?_cons_zero]; rfl))
    case' hQRPER3x6 => exact fun _ _ _ h => h
    case' hyRPER3x6 => refine Or.inl ⟨by rfl, ?_⟩
    (intro w hSw; (try dsimp only at hSw); go_simp; try with_reducible rfl)
    try simp only [Act.put, List.setIfInBounds_toArray, List.set_cons_zero, List.set_cons_succ]
    refine' wpAnyH_take (i := 7) (oi := _) (v := _) ?hiRPER3x7 (by kernel_rfl) (by kernel_rfl) (by kernel_rfl) ?hQRPER3x7 ?hyRPER3x7 (by assumption) ?restRPER3x7
    case' hiRPER3x7 => (first | (simp only [List.getElem?_toArray, List.getElem?_cons_succ, List.getElem?_cons_zero]; done) | (simp only [List.getElem?_toArray, List.getElem?_cons_succ, List.getElem?_cons_zero]; rfl))
    case' hQRPER3x7 => exact fun _ _ _ h => h
    case' hyRPER3x7 => refine Or.inl ⟨by rfl, ?_⟩
    (intro w hSw; (have z1 := hSw.out.cellAt (i := 1) rfl; have z2 := hSw.out.cellAt (i := 2) rfl; have z3 := hSw.out.cellAt (i := 3) rfl; have z4 := hSw.out.cellAt (i := 4) rfl; have z5 := hSw.out.cellAt (i := 5) rfl; have z6 := hSw.out.cellAt (i := 6) rfl; have z7 := hSw.out.cellAt (i := 7) rfl; have zl := hSw.out.lt); go_simp; try with_reducible rfl)
    try simp only [Act.put, List.setIfInBounds_toArray, List.set_cons_zero, List.set_cons_succ]
    refine' wpAnyH_take (i := 8) (oi := _) (v := _) ?hiRPER3x8 (by kernel_rfl) (by kernel_rfl) (by kernel_rfl) ?hQRPER3x8 ?hyRPER3x8 (by assumption) ?restRPER3x8
    case' hiRPER3x8 => (first | (simp only [List.getElem?_toArray, List.getElem?_cons_succ, List.getElem?_cons_zero]; done) | (simp only [List.getElem?_toArray, List.getElem?_cons_succ, List.getElem?_cons_zero]; rfl))
    case' hQRPER3x8 => exact fun _ _ _ h => h
    case' hyRPER3x8 => refine Or.inl ⟨by rfl, ?_⟩
    (intro w hSw; (try dsimp only at hSw); go_simp; try with_reducible rfl)
    try simp only [Act.put, List.setIfInBounds_toArray, List.set_cons_zero, List.set_cons_succ]
    refine wpAnyH_ready (rs := [4]) (by kernel_rfl) (by simp) ?_
    refine' AllReadyH.cons (o := _) ?hiRPER3x9 (fun K hK => ?hKRPER3x9) AllReadyH.nil
    case' hiRPER3x9 => (first | (simp only [List.getElem?_toArray, List.getElem?_cons_succ, List.getElem?_cons_zero]; done) | (simp only [List.getElem?_toArray, List.getElem?_cons_succ, List.getElem?_cons_zero]; rfl))
    go_simp
    (go_at_call 34; refine P1.out.mono ?_; rintro e wa ⟨rfl, hb, p2⟩; have HB := Lib.hid hb; have P2 := Lib.hid p2; clear hb p2 P1)
    refine hK.out _ _ ?_ (fun hHeld => ?_)
    · exact HB
    clear hK K
    try simp only [Act.put, List.setIfInBounds_toArray, List.set_cons_zero, List.set_cons_succ]
    refine wpAnyH_ready (rs := [9]) (by kernel_rfl) (by simp) ?_
    refine' AllReadyH.cons (o := _) ?hiRPER3x10 (fun K hK => ?hKRPER3x10) AllReadyH.nil
    case' hiRPER3x10 => (first | (simp only [List.getElem?_toArray, List.getElem?_cons_succ, List.getElem?_cons_zero]; done) | (simp only [List.getElem?_toArray, List.getElem?_cons_succ, List.getElem?_cons_zero]; rfl))
    go_simp
    (go_at_call 35; refine P2.out.mono ?_; rintro e wb2 ⟨rfl, hb, dn⟩; have HB := Lib.hid hb; have DN := Lib.hid dn; clear hb dn P2)
    refine hK.out _ _ ?_ (fun hHeld => ?_)
    · exact HB
    clear hK K
    try simp only [Act.put, List.setIfInBounds_toArray, List.set_cons_zero, List.set_cons_succ]
    refine' wpAnyH_take (i := 10) (oi := _) (v := _) ?hiRPER3x11 (by kernel_rfl) (by kernel_rfl) (by kernel_rfl) ?hQRPER3x11 ?hyRPER3x11 (by assumption) ?restRPER3x11
    case' hiRPER3x11 => (first | (simp only [List.getElem?_toArray, List.getElem?_cons_succ, List.getElem?_cons_zero]; done) | (simp only [List.getElem?_toArray, List.getElem?_cons_succ, List.getElem?_cons_zero]; rfl))
    case' hQRPER3x11 => exact fun _ _ _ h => h
    case' hyRPER3x11 => refine Or.inl ⟨by rfl, ?_⟩
    (intro w hSw; (try dsimp only at hSw); go_simp; try with_reducible rfl)
    try simp only [Act.put, List.setIfInBounds_toArray, List.set_cons_zero, List.set_cons_succ]
    refine' wpAnyH_take (i := 11) (oi := _) (v := _) ?hiRPER3x12 (by kernel_rfl) (by kernel_rfl) (by kernel_rfl) ?hQRPER3x12 ?hyRPER3x12 (by assumption) ?restRPER3x12
    case' hiRPER3x12 => (first | (simp only [List.getElem?_toArray, List.getElem?_cons_succ, List.getElem?_cons_zero]; done) | (simp only [List.getElem?_toArray, List.getElem?_cons_succ, List.getElem?_cons_zero]; rfl))
    case' hQRPER3x12 => exact fun _ _ _ h => h
    case' hyRPER3x12 => refine Or.inl ⟨by rfl, ?_⟩
    (intro w hSw; (try dsimp only at hSw); go_simp; try with_reducible rfl)
    try simp only [Act.put, List.setIfInBounds_toArray, List.set_cons_zero, List.set_cons_succ]
    refine wpAnyH_done (by kernel_rfl) ?_ _
    skip
    go_wp2
    go_ret
    refine OneR.of rfl (fun e => by subst e; simp) ?_
    have E : ∀ P fv2, stepP P ⟨5, an, key, ⟨ik, tx, fl⟩, fv2, kp, wn, wt⟩ now = persistP P key now := fun P fv2 => by simp [stepP]
    rw [E, E]
    exact (DN.out.drop (UZ.out.trans UD.out (fun _ _ h => h))).more (by omega)
  by_cases k6 : kd = 6
  · subst k6
    simp only [Int.reduceBEq, Int.reduceEq, decide_true, decide_false] at *
    have P1 := Lib.hid ((DZ.out.keep0 UD.out).calls (UD.out.blk BQ.out (fun h => h)) (Or.inr rfl) NQ.out (sttl_any (DZ.out.keep0 UD.out).s key now (by have := HB0.out; omega) (by have := HB0.out; omega) (by have := HB0.out; omega) (by have := HB0.out; omega) (by have := HB0.out; omega)) (fun w1 u1 r1 => qttl_any r1 key now (by have := HB0.out; omega) (by have := HB0.out; omega) (by have := HB0.out; omega) (by have := HB0.out; omega)))
    have HB : Hid (Blk z.drew q [.int .i64 6, .int .i64 an, .string key, .int .i64 ik, .string tx, .slice pf nf cf, .bool kp, .int .i64 wn, .int .u16 wt] 34) := UD.out.blk BQ.out (fun h => h)
    go_upto_region 19 with (fail)
    clear x0 hql
    refine wp_region_held_drew (S := fun w' => Hid (Blk w' q [.int .i64 6, .int .i64 an, .string key, .int .i64 ik, .string tx, .slice pf nf cf, .bool kp, .int .i64 wn, .int .u16 wt] 34)) (by kernel_rfl) ?_ (fun hHeld => ?_)
    · exact HB
    try simp only [Array.replicate, Act.put, List.setIfInBounds_toArray]
    refine' wpAnyH_take (i := 0) (oi := _) (v := _) ?hiRTTL4x1 (by kernel_rfl) (by kernel_rfl) (by kernel_rfl) ?hQRTTL4x1 ?hyRTTL4x1 (by assumption) ?restRTTL4x1
    case' hiRTTL4x1 => (first | (simp only [List.getElem?_toArray, List.getElem?_cons_succ, List.getElem?_cons_zero]; done) | (simp only [List.getElem?_toArray, List.getElem?_cons_succ, List.getElem?_cons_zero]; rfl))
    case' hQRTTL4x1 => exact fun _ _ _ h => h
    case' hyRTTL4x1 => refine Or.inl ⟨by rfl, ?_⟩
    (intro w hSw; (try dsimp only at hSw); go_simp; try with_reducible rfl)
    try simp only [Act.put, List.setIfInBounds_toArray, List.set_cons_zero, List.set_cons_succ]
    refine' wpAnyH_take (i := 1) (oi := _) (v := _) ?hiRTTL4x2 (by kernel_rfl) (by kernel_rfl) (by kernel_rfl) ?hQRTTL4x2 ?hyRTTL4x2 (by assumption) ?restRTTL4x2
    case' hiRTTL4x2 => (first | (simp only [List.getElem?_toArray, List.getElem?_cons_succ, List.getElem?_cons_zero]; done) | (simp only [List.getElem?_toArray, List.getElem?_cons_succ, List.getElem?_cons_zero]; rfl))
    case' hQRTTL4x2 => exact fun _ _ _ h => h
    case' hyRTTL4x2 => refine Or.inl ⟨by rfl, ?_⟩
    (intro w hSw; (try dsimp only at hSw); go_simp; try with_reducible rfl)
    try simp only [Act.put, List.setIfInBounds_toArray, List.set_cons_zero, List.set_cons_succ]
    refine' wpAnyH_take (i := 2) (oi := _) (v := _) ?hiRTTL4x3 (by kernel_rfl) (by kernel_rfl) (by kernel_rfl) ?hQRTTL4x3 ?hyRTTL4x3 (by assumption) ?restRTTL4x3
    case' hiRTTL4x3 => (first | (simp only [List.getElem?_toArray, List.getElem?_cons_succ, List.getElem?_cons_zero]; done) | (simp only [List.getElem?_toArray, List.getElem?_cons_succ, List.getElem?_cons_zero]; rfl))
    case' hQRTTL4x3 => exact fun _ _ _ h => h
    case' hyRTTL4x3 => refine Or.inl ⟨by rfl, ?_⟩
    (intro w hSw; (have z1 := hSw.out.cellAt (i := 1) rfl; have z2 := hSw.out.cellAt (i := 2) rfl; have z3 := hSw.out.cellAt (i := 3) rfl; have z4 := hSw.out.cellAt (i := 4) rfl; have z5 := hSw.out.cellAt (i := 5) rfl; have z6 := hSw.out.cellAt (i := 6) rfl; have z7 := hSw.out.cellAt (i := 7) rfl; have zl := hSw.out.lt); go_simp; try with_reducible rfl)
    try simp only [Act.put, List.setIfInBounds_toArray, List.set_cons_zero, List.set_cons_succ]
    refine' wpAnyH_take (i := 3) (oi := _) (v := _) ?hiRTTL4x4 (by kernel_rfl) (by kernel_rfl) (by kernel_rfl) ?hQRTTL4x4 ?hyRTTL4x4 (by assumption) ?restRTTL4x4
    case' hiRTTL4x4 => (first | (simp only [List.getElem?_toArray, List.getElem?_cons_succ, List.getElem?_cons_zero]; done) | (simp only [List.getElem?_toArray, List.getElem?_cons_succ, List.getElem?_cons_zero]; rfl))
    case' hQRTTL4x4 => exact fun _ _ _ h => h
    case' hyRTTL4x4 => refine Or.inl ⟨by rfl, ?_⟩
    (intro w hSw; (try dsimp only at hSw); go_simp; try with_reducible rfl)
    try simp only [Act.put, List.setIfInBounds_toArray, List.set_cons_zero, List.set_cons_succ]
    refine' wpAnyH_take (i := 5) (oi := _) (v := _) ?hiRTTL4x5 (by kernel_rfl) (by kernel_rfl) (by kernel_rfl) ?hQRTTL4x5 ?hyRTTL4x5 (by assumption) ?restRTTL4x5
    case' hiRTTL4x5 => (first | (simp only [List.getElem?_toArray, List.getElem?_cons_succ, List.getElem?_cons_zero]; done) | (simp only [List.getElem?_toArray, List.getElem?_cons_succ, List.getElem?_cons_zero]; rfl))
    case' hQRTTL4x5 => exact fun _ _ _ h => h
    case' hyRTTL4x5 => refine Or.inl ⟨by rfl, ?_⟩
    (intro w hSw; (try dsimp only at hSw); go_simp; try with_reducible rfl)
    try simp only [Act.put, List.setIfInBounds_toArray, List.set_cons_zero, List.set_cons_succ]
    refine' wpAnyH_take (i := 6) (oi := _) (v := _) ?hiRTTL4x6 (by kernel_rfl) (by kernel_rfl) (by kernel_rfl) ?hQRTTL4x6 ?hyRTTL4x6 (by assumption) ?restRTTL4x6
    case' hiRTTL4x6 => (first | (simp only [List.getElem?_toArray, List.getElem?_cons_succ, List.getElem?_cons_zero]; done) | (simp only [List.getElem?_toArray, List.getElem?_cons_succ, List.getElem?_cons_zero]; rfl))
    case' hQRTTL4x6 => exact fun _ _ _ h => h
    case' hyRTTL4x6 => refine Or.inl ⟨by rfl, ?_⟩
    (intro w hSw; (try dsimp only at hSw); go_simp; try with_reducible rfl)
    try simp only [Act.put, List.setIfInBounds_toArray, List.set_cons_zero, List.set_cons_succ]
    refine' wpAnyH_take (i := 7) (oi := _) (v := _) ?hiRTTL4x7 (by kernel_rfl) (by kernel_rfl) (by kernel_rfl) ?hQRTTL4x7 ?hyRTTL4x7 (by assumption) ?restRTTL4x7
    case' hiRTTL4x7 => (first | (simp only [List.getElem?_toArray, List.getElem?_cons_succ, List.getElem?_cons_zero]; done) | (simp only [List.getElem?_toArray, List.getElem?_cons_succ, List.getElem?_cons_zero]; rfl))
    case' hQRTTL4x7 => exact fun _ _ _ h => h
    case' hyRTTL4x7 => refine Or.inl ⟨by rfl, ?_⟩
    (intro w hSw; (have z1 := hSw.out.cellAt (i := 1) rfl; have z2 := hSw.out.cellAt (i := 2) rfl; have z3 := hSw.out.cellAt (i := 3) rfl; have z4 := hSw.out.cellAt (i := 4) rfl; have z5 := hSw.out.cellAt (i := 5) rfl; have z6 := hSw.out.cellAt (i := 6) rfl; have z7 := hSw.out.cellAt (i := 7) rfl; have zl := hSw.out.lt); go_simp; try with_reducible rfl)
    try simp only [Act.put, List.setIfInBounds_toArray, List.set_cons_zero, List.set_cons_succ]
    refine' wpAnyH_take (i := 8) (oi := _) (v := _) ?hiRTTL4x8 (by kernel_rfl) (by kernel_rfl) (by kernel_rfl) ?hQRTTL4x8 ?hyRTTL4x8 (by assumption) ?restRTTL4x8
    case' hiRTTL4x8 => (first | (simp only [List.getElem?_toArray, List.getElem?_cons_succ, List.getElem?_cons_zero]; done) | (simp only [List.getElem?_toArray, List.getElem?_cons_succ, List.getElem?_cons_zero]; rfl))
    case' hQRTTL4x8 => exact fun _ _ _ h => h
    case' hyRTTL4x8 => refine Or.inl ⟨by rfl, ?_⟩
    (intro w hSw; (try dsimp only at hSw); go_simp; try with_reducible rfl)
    try simp only [Act.put, List.setIfInBounds_toArray, List.set_cons_zero, List.set_cons_succ]
    refine wpAnyH_ready (rs := [4]) (by kernel_rfl) (by simp) ?_
    refine' AllReadyH.cons (o := _) ?hiRTTL4x9 (fun K hK => ?hKRTTL4x9) AllReadyH.nil
    case' hiRTTL4x9 => (first | (simp only [List.getElem?_toArray, List.getElem?_cons_succ, List.getElem?_cons_zero]; done) | (simp only [List.getElem?_toArray, List.getElem?_cons_succ, List.getElem?_cons_zero]; rfl))
    go_simp
    (go_at_call 36; refine P1.out.mono ?_; rintro e wa ⟨rfl, hb, p2⟩; have HB := Lib.hid hb; have P2 := Lib.hid p2; clear hb p2 P1)
    refine hK.out _ _ ?_ (fun hHeld => ?_)
    · exact HB
    clear hK K
    try simp only [Act.put, List.setIfInBounds_toArray, List.set_cons_zero, List.set_cons_succ]
    refine wpAnyH_ready (rs := [9]) (by kernel_rfl) (by simp) ?_
    refine' AllReadyH.cons (o := _) ?hiRTTL4x10 (fun K hK => ?hKRTTL4x10) AllReadyH.nil
    case' hiRTTL4x10 => (first | (simp only [List.getElem?_toArray, List.getElem?_cons_succ, List.getElem?_cons_zero]; done) | (simp only [List.getElem?_toArray, List.getElem?_cons_succ, List.getElem?_cons_zero]; rfl))
    go_simp
    (go_at_call 37; refine P2.out.mono ?_; rintro e wb2 ⟨rfl, hb, dn⟩; have HB := Lib.hid hb; have DN := Lib.hid dn; clear hb dn P2)
    refine hK.out _ _ ?_ (fun hHeld => ?_)
    · exact HB
    clear hK K
    try simp only [Act.put, List.setIfInBounds_toArray, List.set_cons_zero, List.set_cons_succ]
    refine' wpAnyH_take (i := 10) (oi := _) (v := _) ?hiRTTL4x11 (by kernel_rfl) (by kernel_rfl) (by kernel_rfl) ?hQRTTL4x11 ?hyRTTL4x11 (by assumption) ?restRTTL4x11
    case' hiRTTL4x11 => (first | (simp only [List.getElem?_toArray, List.getElem?_cons_succ, List.getElem?_cons_zero]; done) | (simp only [List.getElem?_toArray, List.getElem?_cons_succ, List.getElem?_cons_zero]; rfl))
    case' hQRTTL4x11 => exact fun _ _ _ h => h
    case' hyRTTL4x11 => refine Or.inl ⟨by rfl, ?_⟩
    (intro w hSw; (try dsimp only at hSw); go_simp; try with_reducible rfl)
    try simp only [Act.put, List.setIfInBounds_toArray, List.set_cons_zero, List.set_cons_succ]
    refine' wpAnyH_take (i := 11) (oi := _) (v := _) ?hiRTTL4x12 (by kernel_rfl) (by kernel_rfl) (by kernel_rfl) ?hQRTTL4x12 ?hyRTTL4x12 (by assumption) ?restRTTL4x12
    case' hiRTTL4x12 => (first | (simp only [List.getElem?_toArray, List.getElem?_cons_succ, List.getElem?_cons_zero]; done) | (simp only [List.getElem?_toArray, List.getElem?_cons_succ, List.getElem?_cons_zero]; rfl))
    case' hQRTTL4x12 => exact fun _ _ _ h => h
    case' hyRTTL4x12 => refine Or.inl ⟨by rfl, ?_⟩
    (intro w hSw; (try dsimp only at hSw); go_simp; try with_reducible rfl)
    try simp only [Act.put, List.setIfInBounds_toArray, List.set_cons_zero, List.set_cons_succ]
    refine wpAnyH_done (by kernel_rfl) ?_ _
    skip
    go_wp2
    go_ret
    refine OneR.of rfl (fun e => by subst e; simp) ?_
    have E : ∀ P fv2, stepP P ⟨6, an, key, ⟨ik, tx, fl⟩, fv2, kp, wn, wt⟩ now = dueP P key now := fun P fv2 => by simp [stepP]
    rw [E, E]
    exact (DN.out.drop (UZ.out.trans UD.out (fun _ _ h => h))).more (by omega)
  by_cases k7 : kd = 7
  · subst k7
    simp only [Int.reduceBEq, Int.reduceEq, decide_true, decide_false] at *
    have P1 := Lib.hid ((DZ.out.keep0 UD.out).calls (UD.out.blk BQ.out (fun h => h)) (Or.inr rfl) NQ.out (ssweep_any (DZ.out.keep0 UD.out).s now an (by have := HB0.out; omega) (by have := HB0.out; omega)) (fun w1 u1 r1 => qsweep_any r1 now an (by have := HB0.out; omega) (by have := HB0.out; omega)))
    have HB : Hid (Blk z.drew q [.int .i64 7, .int .i64 an, .string key, .int .i64 ik, .string tx, .slice pf nf cf, .bool kp, .int .i64 wn, .int .u16 wt] 34) := UD.out.blk BQ.out (fun h => h)
    go_upto_region 21 with (fail)
    clear x0 hql
    refine wp_region_held_drew (S := fun w' => Hid (Blk w' q [.int .i64 7, .int .i64 an, .string key, .int .i64 ik, .string tx, .slice pf nf cf, .bool kp, .int .i64 wn, .int .u16 wt] 34)) (by kernel_rfl) ?_ (fun hHeld => ?_)
    · exact HB
    try simp only [Array.replicate, Act.put, List.setIfInBounds_toArray]
    refine' wpAnyH_take (i := 0) (oi := _) (v := _) ?hiRSWE5x1 (by kernel_rfl) (by kernel_rfl) (by kernel_rfl) ?hQRSWE5x1 ?hyRSWE5x1 (by assumption) ?restRSWE5x1
    case' hiRSWE5x1 => (first | (simp only [List.getElem?_toArray, List.getElem?_cons_succ, List.getElem?_cons_zero]; done) | (simp only [List.getElem?_toArray, List.getElem?_cons_succ, List.getElem?_cons_zero]; rfl))
    case' hQRSWE5x1 => exact fun _ _ _ h => h
    case' hyRSWE5x1 => refine Or.inl ⟨by rfl, ?_⟩
    (intro w hSw; (try dsimp only at hSw); go_simp; try with_reducible rfl)
    try simp only [Act.put, List.setIfInBounds_toArray, List.set_cons_zero, List.set_cons_succ]
    refine' wpAnyH_take (i := 1) (oi := _) (v := _) ?hiRSWE5x2 (by kernel_rfl) (by kernel_rfl) (by kernel_rfl) ?hQRSWE5x2 ?hyRSWE5x2 (by assumption) ?restRSWE5x2
    case' hiRSWE5x2 => (first | (simp only [List.getElem?_toArray, List.getElem?_cons_succ, List.getElem?_cons_zero]; done) | (simp only [List.getElem?_toArray, List.getElem?_cons_succ, List.getElem?_cons_zero]; rfl))
    case' hQRSWE5x2 => exact fun _ _ _ h => h
    case' hyRSWE5x2 => refine Or.inl ⟨by rfl, ?_⟩
    (intro w hSw; (try dsimp only at hSw); go_simp; try with_reducible rfl)
    try simp only [Act.put, List.setIfInBounds_toArray, List.set_cons_zero, List.set_cons_succ]
    refine' wpAnyH_take (i := 2) (oi := _) (v := _) ?hiRSWE5x3 (by kernel_rfl) (by kernel_rfl) (by kernel_rfl) ?hQRSWE5x3 ?hyRSWE5x3 (by assumption) ?restRSWE5x3
    case' hiRSWE5x3 => (first | (simp only [List.getElem?_toArray, List.getElem?_cons_succ, List.getElem?_cons_zero]; done) | (simp only [List.getElem?_toArray, List.getElem?_cons_succ, List.getElem?_cons_zero]; rfl))
    case' hQRSWE5x3 => exact fun _ _ _ h => h
    case' hyRSWE5x3 => refine Or.inl ⟨by rfl, ?_⟩
    (intro w hSw; (try dsimp only at hSw); go_simp; try with_reducible rfl)
    try simp only [Act.put, List.setIfInBounds_toArray, List.set_cons_zero, List.set_cons_succ]
    refine' wpAnyH_take (i := 3) (oi := _) (v := _) ?hiRSWE5x4 (by kernel_rfl) (by kernel_rfl) (by kernel_rfl) ?hQRSWE5x4 ?hyRSWE5x4 (by assumption) ?restRSWE5x4
    case' hiRSWE5x4 => (first | (simp only [List.getElem?_toArray, List.getElem?_cons_succ, List.getElem?_cons_zero]; done) | (simp only [List.getElem?_toArray, List.getElem?_cons_succ, List.getElem?_cons_zero]; rfl))
    case' hQRSWE5x4 => exact fun _ _ _ h => h
    case' hyRSWE5x4 => refine Or.inl ⟨by rfl, ?_⟩
    (intro w hSw; (have z1 := hSw.out.cellAt (i := 1) rfl; have z2 := hSw.out.cellAt (i := 2) rfl; have z3 := hSw.out.cellAt (i := 3) rfl; have z4 := hSw.out.cellAt (i := 4) rfl; have z5 := hSw.out.cellAt (i := 5) rfl; have z6 := hSw.out.cellAt (i := 6) rfl; have z7 := hSw.out.cellAt (i := 7) rfl; have zl := hSw.out.lt); go_simp; try with_reducible rfl)
    try simp only [Act.put, List.setIfInBounds_toArray, List.set_cons_zero, List.set_cons_succ]
    refine' wpAnyH_take (i := 5) (oi := _) (v := _) ?hiRSWE5x5 (by kernel_rfl) (by kernel_rfl) (by kernel_rfl) ?hQRSWE5x5 ?hyRSWE5x5 (by assumption) ?restRSWE5x5
    case' hiRSWE5x5 => (first | (simp only [List.getElem?_toArray, List.getElem?_cons_succ, List.getElem?_cons_zero]; done) | (simp only [List.getElem?_toArray, List.getElem?_cons_succ, List.getElem?_cons_zero]; rfl))
    case' hQRSWE5x5 => exact fun _ _ _ h => h
    case' hyRSWE5x5 => refine Or.inl ⟨by rfl, ?_⟩
    (intro w hSw; (try dsimp only at hSw); go_simp; try with_reducible rfl)
    try simp only [Act.put, List.setIfInBounds_toArray, List.set_cons_zero, List.set_cons_succ]
    refine' wpAnyH_take (i := 6) (oi := _) (v := _) ?hiRSWE5x6 (by kernel_rfl) (by kernel_rfl) (by kernel_rfl) ?hQRSWE5x6 ?hyRSWE5x6 (by assumption) ?restRSWE5x6
    case' hiRSWE5x6 => (first | (simp only [List.getElem?_toArray, List.getElem?_cons_succ, List.getElem?_cons_zero]; done) | (simp only [List.getElem?_toArray, List.getElem?_cons_succ, List.getElem?_cons_zero]; rfl))
    case' hQRSWE5x6 => exact fun _ _ _ h => h
    case' hyRSWE5x6 => refine Or.inl ⟨by rfl, ?_⟩
    (intro w hSw; (try dsimp only at hSw); go_simp; try with_reducible rfl)
    try simp only [Act.put, List.setIfInBounds_toArray, List.set_cons_zero, List.set_cons_succ]
    refine' wpAnyH_take (i := 7) (oi := _) (v := _) ?hiRSWE5x7 (by kernel_rfl) (by kernel_rfl) (by kernel_rfl) ?hQRSWE5x7 ?hyRSWE5x7 (by assumption) ?restRSWE5x7
    case' hiRSWE5x7 => (first | (simp only [List.getElem?_toArray, List.getElem?_cons_succ, List.getElem?_cons_zero]; done) | (simp only [List.getElem?_toArray, List.getElem?_cons_succ, List.getElem?_cons_zero]; rfl))
    case' hQRSWE5x7 => exact fun _ _ _ h => h
    case' hyRSWE5x7 => refine Or.inl ⟨by rfl, ?_⟩
    (intro w hSw; (try dsimp only at hSw); go_simp; try with_reducible rfl)
    try simp only [Act.put, List.setIfInBounds_toArray, List.set_cons_zero, List.set_cons_succ]
    refine' wpAnyH_take (i := 8) (oi := _) (v := _) ?hiRSWE5x8 (by kernel_rfl) (by kernel_rfl) (by kernel_rfl) ?hQRSWE5x8 ?hyRSWE5x8 (by assumption) ?restRSWE5x8
    case' hiRSWE5x8 => (first | (simp only [List.getElem?_toArray, List.getElem?_cons_succ, List.getElem?_cons_zero]; done) | (simp only [List.getElem?_toArray, List.getElem?_cons_succ, List.getElem?_cons_zero]; rfl))
    case' hQRSWE5x8 => exact fun _ _ _ h => h
    case' hyRSWE5x8 => refine Or.inl ⟨by rfl, ?_⟩
    (intro w hSw; (have z1 := hSw.out.cellAt (i := 1) rfl; have z2 := hSw.out.cellAt (i := 2) rfl; have z3 := hSw.out.cellAt (i := 3) rfl; have z4 := hSw.out.cellAt (i := 4) rfl; have z5 := hSw.out.cellAt (i := 5) rfl; have z6 := hSw.out.cellAt (i := 6) rfl; have z7 := hSw.out.cellAt (i := 7) rfl; have zl := hSw.out.lt); go_simp; try with_reducible rfl)
    try simp only [Act.put, List.setIfInBounds_toArray, List.set_cons_zero, List.set_cons_succ]
    refine wpAnyH_ready (rs := [4]) (by kernel_rfl) (by simp) ?_
    refine' AllReadyH.cons (o := _) ?hiRSWE5x9 (fun K hK => ?hKRSWE5x9) AllReadyH.nil
    case' hiRSWE5x9 => (first | (simp only [List.getElem?_toArray, List.getElem?_cons_succ, List.getElem?_cons_zero]; done) | (simp only [List.getElem?_toArray, List.getElem?_cons_succ, List.getElem?_cons_zero]; rfl))
    go_simp
    (go_at_call 38; refine P1.out.mono ?_; rintro e wa ⟨rfl, hb, p2⟩; have HB := Lib.hid hb; have P2 := Lib.hid p2; clear hb p2 P1)
    refine hK.out _ _ ?_ (fun hHeld => ?_)
    · exact HB
    clear hK K
    try simp only [Act.put, List.setIfInBounds_toArray, List.set_cons_zero, List.set_cons_succ]
    refine wpAnyH_ready (rs := [9]) (by kernel_rfl) (by simp) ?_
    refine' AllReadyH.cons (o := _) ?hiRSWE5x10 (fun K hK => ?hKRSWE5x10) AllReadyH.nil
    case' hiRSWE5x10 => (first | (simp only [List.getElem?_toArray, List.getElem?_cons_succ, List.getElem?_cons_zero]; done) | (simp only [List.getElem?_toArray, List.getElem?_cons_succ, List.getElem?_cons_zero]; rfl))
    go_simp
    (go_at_call 39; refine P2.out.mono ?_; rintro e wb2 ⟨rfl, hb, dn⟩; have HB := Lib.hid hb; have DN := Lib.hid dn; clear hb dn P2)
    refine hK.out _ _ ?_ (fun hHeld => ?_)
    · exact HB
    clear hK K
    try simp only [Act.put, List.setIfInBounds_toArray, List.set_cons_zero, List.set_cons_succ]
    refine' wpAnyH_take (i := 10) (oi := _) (v := _) ?hiRSWE5x11 (by kernel_rfl) (by kernel_rfl) (by kernel_rfl) ?hQRSWE5x11 ?hyRSWE5x11 (by assumption) ?restRSWE5x11
    case' hiRSWE5x11 => (first | (simp only [List.getElem?_toArray, List.getElem?_cons_succ, List.getElem?_cons_zero]; done) | (simp only [List.getElem?_toArray, List.getElem?_cons_succ, List.getElem?_cons_zero]; rfl))
    case' hQRSWE5x11 => exact fun _ _ _ h => h
    case' hyRSWE5x11 => refine Or.inl ⟨by rfl, ?_⟩
    (intro w hSw; (try dsimp only at hSw); go_simp; try with_reducible rfl)
    try simp only [Act.put, List.setIfInBounds_toArray, List.set_cons_zero, List.set_cons_succ]
    refine' wpAnyH_take (i := 11) (oi := _) (v := _) ?hiRSWE5x12 (by kernel_rfl) (by kernel_rfl) (by kernel_rfl) ?hQRSWE5x12 ?hyRSWE5x12 (by assumption) ?restRSWE5x12
    case' hiRSWE5x12 => (first | (simp only [List.getElem?_toArray, List.getElem?_cons_succ, List.getElem?_cons_zero]; done) | (simp only [List.getElem?_toArray, List.getElem?_cons_succ, List.getElem?_cons_zero]; rfl))
    case' hQRSWE5x12 => exact fun _ _ _ h => h
    case' hyRSWE5x12 => refine Or.inl ⟨by rfl, ?_⟩
    (intro w hSw; (try dsimp only at hSw); go_simp; try with_reducible rfl)
    try simp only [Act.put, List.setIfInBounds_toArray, List.set_cons_zero, List.set_cons_succ]
    refine wpAnyH_done (by kernel_rfl) ?_ _
    skip
    go_wp2
    go_ret
    refine OneR.of rfl (fun e => by subst e; simp) ?_
    have E : ∀ P fv2, stepP P ⟨7, an, key, ⟨ik, tx, fl⟩, fv2, kp, wn, wt⟩ now = sweepP P now an := fun P fv2 => by simp [stepP]
    rw [E, E]
    exact (DN.out.drop (UZ.out.trans UD.out (fun _ _ h => h))).more (by omega)
  have e0 : (kd == 0) = false := beq_false_of_ne k0
  have e1 : (kd == 1) = false := beq_false_of_ne k1
  have e2 : (kd == 2) = false := beq_false_of_ne k2
  have e3 : (kd == 3) = false := beq_false_of_ne k3
  have e4 : (kd == 4) = false := beq_false_of_ne k4
  have e5 : (kd == 5) = false := beq_false_of_ne k5
  have e6 : (kd == 6) = false := beq_false_of_ne k6
  have e7 : (kd == 7) = false := beq_false_of_ne k7
  have E : Hid (∀ P fv2, stepP P ⟨kd, an, key, ⟨ik, tx, fl⟩, fv2, kp, wn, wt⟩ now = flushP P) := fun P fv2 => by simp [stepP, k0, k1, k2, k3, k4, k5, k6, k7]
  have P1 := Lib.hid (sflush_any DZ.out.s (by have := HB0.out; omega))
  go_wp2_with fail
  refine (P1.out).mono ?_
  rintro e w1 ⟨rfl, s1, u1⟩
  have P2 := Lib.hid (qflush_any (DZ.out.rkeep u1) (by have := HB0.out; omega))
  have S1 := Lib.hid s1
  have U1 := Lib.hid u1
  clear s1 u1 P1
  go_wp2_with fail
  refine (P2.out).mono ?_
  rintro e w2 ⟨rfl, g2⟩
  have G2 := Lib.hid g2
  clear g2 P2
  go_wp2
  go_ret
  refine OneR.of rfl (fun _ => rfl) ?_
  rw [E.out, E.out]
  exact ((DZ.out.step S1.out U1.out G2.out).drop UZ.out).more (by omega)
end Go.Proofs.YtgdenmddbgcacaaGreatDoor
