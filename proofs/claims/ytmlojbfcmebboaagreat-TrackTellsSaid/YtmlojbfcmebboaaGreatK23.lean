/- Walks: a client more; what it says of the next command; its mode; whether it is told of its own doing; what is read of the tracker. -/
import Derived.Test.YtmlojbfcmebboaaGreatK22
import Derived.Test.YtmlojbfcmebboaaGreatK01
import Derived.Test.YtmlojbfcmebboaaGreatK03
set_option linter.unusedVariables false
set_option linter.unusedSimpArgs false
set_option linter.unusedSectionVars false
set_option maxRecDepth 100000
namespace Go.Proofs.YtmlojbfcmebboaaGreat
open Go.RowKit

theorem right_ps {m : MD} (h : rightM m = true) : m.ps.length ≤ 32 ∧ ∀ t ∈ m.ps, t.length ≤ 512 := by
  unfold rightM at h
  split at h
  · simp only [decide_eq_true_eq] at h; rw [h]; simp [offM]
  · split at h
    · cases h
    · split at h
      · simp only [decide_eq_true_eq] at h; rw [h]; simp
      · simp only [decide_eq_true_eq] at h; exact ⟨h.2.2.2, h.1⟩
theorem right_ml {m : MD} (h : rightM m = true) : m.ps.length ≤ 1000000 ∧ ∀ t ∈ m.ps, t.length ≤ maxLen := by
  obtain ⟨h1, h2⟩ := right_ps h
  exact ⟨by omega, fun t ht => by have := h2 t ht; unfold maxLen; omega⟩
def joinP (M : List (Int × CL)) (id : Int) : Bool × List (Int × CL) := if id < 1 ∨ aget M id ≠ none then (false, M) else (true, insI M id ⟨offM, 0⟩)
def doneP (M : List (Int × CL)) (id : Int) : List (Int × CL) := match aget M id with | some c => aset M id { c with cg := 0 } | none => M
def cachP (M : List (Int × CL)) (id : Int) (yes : Bool) : Int × List (Int × CL) := match aget M id with
  | some c => if cachM c.md yes = 0 then (0, aset M id { c with cg := if yes then 1 else 2 }) else (cachM c.md yes, M)
  | none => (161, M)
def quietP (M : List (Int × CL)) (by_ kind : Int) : Bool := match aget M by_ with | some c => c.md.nl && (decide (kind = 1) || decide (kind = 2)) | none => false
def modeP (M : List (Int × CL)) (id : Int) : MD × Bool := match aget M id with | some c => (c.md, true) | none => (offM, false)
section
variable {w w' : World} {base tb cm kb pb : Nat} {cb : Int → Nat} {X Y : Nat → Prop} {M : List (Int × CL)} {most : Int} {L : Rows14} {n : Nat} {P P' : Txt → Int → Prop} {N : Nat}
theorem TSt.facts (h : TSt w base tb cm kb pb cb X M most L n P N) : tb < w.heap.size ∧ w.cell? ⟨tb, 0, none⟩ = some (.map (some cm)) ∧ w.cell? ⟨tb, 1, none⟩ = some (.pointer (some ⟨kb, 0, none⟩)) ∧ w.cell? ⟨tb, 2, none⟩ = some (.pointer (some ⟨pb, 0, none⟩)) :=
  ⟨h.blk.lt, h.blk.cellAt rfl, h.blk.cellAt rfl, h.blk.cellAt rfl⟩
set_option maxHeartbeats 2000000 in
theorem TSt.join (h : TSt w base tb cm kb pb cb X M most L n P N) (id : Int) (hid : id ≤ 9223372036854775807) (hl : M.length < 10000) :
    Calls Tryz.prog 11 #[.pointer (some ⟨tb, 0, none⟩), .int .i64 id] w fun e w' => e = .returned (.bool (joinP M id).1) ∧ (∃ cb', TSt w' base tb cm kb pb cb' X (joinP M id).2 most L n P N) ∧ Upd (Fr base X) w w' := by
  obtain ⟨xb, x0, _, _⟩ := h.facts
  by_cases h1 : id < 1
  · have R : Hid (joinP M id = (false, M)) := by show _ = _; unfold joinP; rw [if_pos (Or.inl h1)]
    have q : decide (id < 1) = true := decide_eq_true h1
    have H := Lib.hid h
    clear h
    go_enter Tryz.func11, Tryz.ntmps11
    go_wp2
    go_ret
    rw [R.out]
    exact ⟨rfl, ⟨cb, H.out⟩, Upd.refl _ _⟩
  · have q : decide (id < 1) = false := decide_eq_false h1
    cases hc : aget M id with
    | some c =>
      have R : Hid (joinP M id = (false, M)) := by show _ = _; unfold joinP; rw [if_pos (Or.inr (by rw [hc]; simp))]
      have LK := h.lookS hc
      have H := Lib.hid h
      clear h hc
      go_enter Tryz.func11, Tryz.ntmps11
      go_wp2
      go_ret
      rw [R.out]
      exact ⟨rfl, ⟨cb, H.out⟩, Upd.refl _ _⟩
    | none =>
      have R : Hid (joinP M id = (true, insI M id ⟨offM, 0⟩)) := by show _ = _; unfold joinP; rw [if_neg (fun g => by rcases g with g | g; exact h1 g; exact g hc)]
      have LK := h.lookN hc
      obtain ⟨w2, hr, h2, u2⟩ := h.clNew (c := ⟨offM, 0⟩) (x := w.heap.size) hc (by omega) hid hl ((Upd.refl _ _).alloc _) (Blk.made w (clc ⟨offM, 0⟩ (.slice none 0 0)) 98) (Nat.le_refl _) rfl rfl
      have hr : (Instr.mapUpdate 89 (.map (some cm)) (.int .i64 id) (.pointer (some ⟨w.heap.size, 0, none⟩))).run Tryz.prog (w.alloc (.cells #[.bool false, .bool false, .bool false, .bool false, .bool false, .int .i64 0, .slice none 0 0, .int .i64 0] 98)) = .ok () w2 := hr
      have H2 := Lib.hid h2
      have U2 := Lib.hid u2
      clear h hc h2 u2
      go_enter Tryz.func11, Tryz.ntmps11
      go_wp2
      go_ret
      rw [R.out]
      exact ⟨rfl, ⟨_, H2.out⟩, U2.out⟩
set_option maxHeartbeats 2000000 in
theorem TSt.done_ (h : TSt w base tb cm kb pb cb X M most L n P N) (id : Int) :
    Calls Tryz.prog 20 #[.pointer (some ⟨tb, 0, none⟩), .int .i64 id] w fun e w' => e = .returned (.tuple #[]) ∧ TSt w' base tb cm kb pb cb X (doneP M id) most L n P N ∧ Upd (Fr base X) w w' := by
  obtain ⟨xb, x0, _, _⟩ := h.facts
  have H := Lib.hid h
  cases hc : aget M id with
  | none =>
    have R : Hid (doneP M id = M) := by show _ = _; unfold doneP; rw [hc]
    have LK := h.lookN hc
    clear h hc
    go_enter Tryz.func20, Tryz.ntmps20
    go_wp2
    go_end0
    rw [R.out]
    exact ⟨rfl, H.out, Upd.refl _ _⟩
  | some c =>
    have R : Hid (doneP M id = aset M id { c with cg := 0 }) := by show _ = _; unfold doneP; rw [hc]
    have LK := h.lookS hc
    obtain ⟨v, hb, ht, _, _, hv⟩ := h.cl hc
    obtain ⟨y0, y1, _, _, _, _, _, _, _, y9⟩ := cl_facts hb
    have u1 : Upd (fun b => b = cb id) w (w.setCell ⟨cb id, 7, none⟩ (.int .i64 0)) := (Upd.refl _ _).set (fun _ => rfl)
    have r := h.clSet (Y := X) (c' := { c with cg := 0 }) (v' := v) hc hb u1 (hb.set 7 (.int .i64 0)) (own_keep ht u1 (fun b hb2 e => by
      obtain ⟨_, _, cs, hs⟩ := txts_blkT ht hb2
      subst e
      exact absurd (hb.ty hs) (by decide))) (show rightM c.md = true from h.ok.right hc) (Or.inl rfl) (fun b hb2 => ⟨hb2, Or.inl rfl⟩)
    have UF := Lib.hid (h.frc hc u1)
    have RR := Lib.hid r
    clear h hc hb ht hv u1 r
    go_enter Tryz.func20, Tryz.ntmps20
    go_wp2
    go_end0
    rw [R.out]
    exact ⟨rfl, RR.out, UF.out⟩
set_option maxHeartbeats 4000000 in
theorem TSt.caching (h : TSt w base tb cm kb pb cb X M most L n P N) (id : Int) (yes : Bool) :
    Calls Tryz.prog 19 #[.pointer (some ⟨tb, 0, none⟩), .int .i64 id, .bool yes] w fun e w' => e = .returned (.int .i64 (cachP M id yes).1) ∧ TSt w' base tb cm kb pb cb X (cachP M id yes).2 most L n P N ∧ Upd (Fr base X) w w' := by
  obtain ⟨xb, x0, _, _⟩ := h.facts
  have H := Lib.hid h
  cases hc : aget M id with
  | none =>
    have R : Hid (cachP M id yes = (161, M)) := by show _ = _; unfold cachP; rw [hc]
    have LK := h.lookN hc
    clear h hc
    go_enter Tryz.func19, Tryz.ntmps19
    go_wp2
    go_ret
    rw [R.out]
    exact ⟨rfl, H.out, Upd.refl _ _⟩
  | some c =>
    have RR : cachP M id yes = (if cachM c.md yes = 0 then (0, aset M id { c with cg := if yes then 1 else 2 }) else (cachM c.md yes, M)) := by unfold cachP; rw [hc]
    have LK := h.lookS hc
    obtain ⟨v, hb, ht, _, _, hv⟩ := h.cl hc
    obtain ⟨y0, y1, y2, y3, y4, y5, y6, y7, y8, y9⟩ := cl_facts hb
    have CA := Lib.hid (caching_any c.md v yes w)
    unfold mdV at CA
    have GO : Hid (∀ w1, Upd (fun _ => False) w w1 → Blk w1 (cb id) (clc c v) 98 ∧ ∀ (g : Int) (w2 : World), Upd (fun b => b = cb id) w1 w2 → Blk w2 (cb id) (clc { c with cg := g } v) 98 → TSt w2 base tb cm kb pb cb X (aset M id { c with cg := g }) most L n P N ∧ Upd (Fr base X) w w2) := fun w1 u => by
      have h1 := h.keep0 u
      have hb1 := u.blk hb (fun h => h)
      refine ⟨hb1, fun g w2 u1 hb2 => ?_⟩
      have ht1 := own_keep ht u (fun _ _ h => h)
      exact ⟨h1.clSet (Y := X) (c' := { c with cg := g }) (v' := v) hc hb1 u1 hb2 (own_keep ht1 u1 (fun b hb2 e => by
        obtain ⟨_, _, cs, hs⟩ := txts_blkT ht1 hb2
        subst e
        exact absurd (hb1.ty hs) (by decide))) (show rightM c.md = true from h.ok.right hc) (Or.inl rfl) (fun b hb2 => ⟨hb2, Or.inl rfl⟩), (u.weaken (fun _ _ h => h.elim)).trans (h1.frc hc u1) (fun _ _ h => h)⟩
    obtain ⟨m, hm⟩ : ∃ m, m = cachM c.md yes := ⟨_, rfl⟩
    rw [← hm] at RR CA
    by_cases h0 : m = 0
    · have R : Hid (cachP M id yes = (0, aset M id { c with cg := if yes then 1 else 2 })) := by show _ = _; rw [RR, if_pos h0]
      subst h0
      clear RR hm h hc hb ht hv H
      cases yes with
      | true =>
        go_enter Tryz.func19, Tryz.ntmps19
        go_wp2_with fail
        refine CA.out.mono ?_
        rintro e w1 ⟨rfl, u1⟩
        obtain ⟨zb, z3⟩ := GO.out w1 u1
        obtain ⟨z0, z1, _, _, _, _, _, _, _, z9⟩ := cl_facts zb
        have Z3 := Lib.hid (z3 1 _ (((Upd.refl (fun b => b = cb id) w1).set (v := .int .i64 2) (o := 7) (fun _ => rfl)).set (v := .int .i64 1) (o := 7) (fun _ => rfl)) ((zb.set 7 (.int .i64 2)).set 7 (.int .i64 1)))
        clear z3 GO CA u1 zb
        go_wp2
        go_ret
        rw [R.out]
        exact ⟨rfl, Z3.out.1, Z3.out.2⟩
      | false =>
        go_enter Tryz.func19, Tryz.ntmps19
        go_wp2_with fail
        refine CA.out.mono ?_
        rintro e w1 ⟨rfl, u1⟩
        obtain ⟨zb, z3⟩ := GO.out w1 u1
        obtain ⟨z0, z1, _, _, _, _, _, _, _, z9⟩ := cl_facts zb
        have Z3 := Lib.hid (z3 2 _ ((Upd.refl (fun b => b = cb id) w1).set (v := .int .i64 2) (o := 7) (fun _ => rfl)) (zb.set 7 (.int .i64 2)))
        clear z3 GO CA u1 zb
        go_wp2
        go_ret
        rw [R.out]
        exact ⟨rfl, Z3.out.1, Z3.out.2⟩
    · have R : Hid (cachP M id yes = (m, M)) := by show _ = _; rw [RR, if_neg h0]
      have q : (m != 0) = true := bne_iff_ne.2 h0
      clear RR hm h hc hb ht hv GO h0
      go_enter Tryz.func19, Tryz.ntmps19
      go_wp2_with fail
      refine CA.out.mono ?_
      rintro e w1 ⟨rfl, u1⟩
      have U1 := Lib.hid u1
      clear CA u1
      go_wp2
      go_ret
      rw [R.out]
      exact ⟨rfl, H.out.keep0 U1.out, U1.out.weaken (fun _ _ h => h.elim)⟩
set_option maxHeartbeats 4000000 in
theorem TSt.quiet (h : TSt w base tb cm kb pb cb X M most L n P N) (id kind : Int) (key : ByteArray) :
    Calls Tryz.prog 58 #[.pointer (some ⟨tb, 0, none⟩), .int .i64 id, .agg #[.int .i64 kind, .string key]] w fun e w' => e = .returned (.bool (quietP M id kind)) ∧ Upd (fun _ => False) w w' := by
  obtain ⟨xb, x0, _, _⟩ := h.facts
  have U1 : Hid (Upd (fun _ => False) w (w.alloc (.cells #[.int .i64 kind, .string key] 45))) := (Upd.refl _ _).alloc _
  have h1 := h.keep0 U1.out
  cases hc : aget M id with
  | none =>
    have R : Hid (quietP M id kind = false) := by show _ = _; unfold quietP; rw [hc]
    have LK := h1.lookN hc
    clear h h1 hc
    go_enter Tryz.func58, Tryz.ntmps58
    go_wp2
    go_ret
    rw [R.out]
    exact ⟨rfl, U1.out⟩
  | some c =>
    have RR : quietP M id kind = (c.md.nl && (decide (kind = 1) || decide (kind = 2))) := by unfold quietP; rw [hc]
    have LK := h1.lookS hc
    obtain ⟨v, hb, ht, _, _, hv⟩ := h.cl hc
    obtain ⟨y0, y1, y2, y3, y4, y5, y6, y7, y8, y9⟩ := cl_facts hb
    clear h h1 hc hb ht hv y2 y3 y4 y5 y7 y8 y9
    generalize c.md.nl = nl at *
    cases nl with
    | false =>
      have R : Hid (quietP M id kind = false) := RR
      clear RR
      go_enter Tryz.func58, Tryz.ntmps58
      go_wp2
      go_ret
      rw [R.out]
      exact ⟨rfl, U1.out⟩
    | true =>
      by_cases k1 : kind = 1
      · subst k1
        have R : Hid (quietP M id 1 = true) := RR
        clear RR
        go_enter Tryz.func58, Tryz.ntmps58
        go_wp2
        go_ret
        rw [R.out]
        exact ⟨rfl, U1.out⟩
      · have q1 : (kind == 1) = false := beq_eq_false_iff_ne.2 k1
        by_cases k2 : kind = 2
        · subst k2
          have R : Hid (quietP M id 2 = true) := RR
          clear RR
          go_enter Tryz.func58, Tryz.ntmps58
          go_wp2
          go_ret
          rw [R.out]
          exact ⟨rfl, U1.out⟩
        · have q2 : (kind == 2) = false := beq_eq_false_iff_ne.2 k2
          have R : Hid (quietP M id kind = false) := by show _ = _; rw [RR, decide_eq_false k1, decide_eq_false k2]; rfl
          clear RR k1 k2
          go_enter Tryz.func58, Tryz.ntmps58
          go_wp2
          go_ret
          rw [R.out]
          exact ⟨rfl, U1.out⟩
end
end Go.Proofs.YtmlojbfcmebboaaGreat
/- Walks: what is read of the tracker; a new one. -/
set_option linter.unusedVariables false
set_option linter.unusedSimpArgs false
set_option linter.unusedSectionVars false
set_option maxRecDepth 100000
namespace Go.Proofs.YtmlojbfcmebboaaGreat
open Go.RowKit

section
variable {w w' : World} {base tb cm kb pb : Nat} {cb : Int → Nat} {X Y : Nat → Prop} {M : List (Int × CL)} {most : Int} {L : Rows14} {n : Nat} {P P' : Txt → Int → Prop} {N : Nat}
set_option maxHeartbeats 2000000 in
theorem TSt.rows (h : TSt w base tb cm kb pb cb X M most L n P N) (hn : n ≤ 100000) :
    Calls Tryz.prog 34 #[.pointer (some ⟨tb, 0, none⟩)] w fun e w' => ∃ v, e = .returned v ∧ StrsAt w' w.heap.size v (akeys L) ∧ Upd (fun _ => False) w w' := by
  obtain ⟨xb, _, x1, _⟩ := h.facts
  obtain ⟨rb, F, k0, hr, hk⟩ := h.krec
  have hl : (akeys L).length ≤ 100000 := by have := h.inv.1.len; simp [akeys]; omega
  have AL := Lib.hid (all_any rb (akeys L) F w hr hl)
  clear h hr hl
  go_enter Tryz.func34, Tryz.ntmps34
  go_wp2_with fail
  refine AL.out.mono ?_
  rintro e w1 ⟨v, rfl, i1, u1⟩
  obtain ⟨p, c, ev, _⟩ := own_slice i1
  have I1 := Lib.hid i1
  have U1 := Lib.hid u1
  clear i1 u1 AL
  subst ev
  go_wp2
  go_ret
  exact ⟨_, rfl, I1.out, U1.out⟩
set_option maxHeartbeats 2000000 in
theorem TSt.len (h : TSt w base tb cm kb pb cb X M most L n P N) (hn : n ≤ 100000) :
    Calls Tryz.prog 17 #[.pointer (some ⟨tb, 0, none⟩)] w fun e w' => e = .returned (.int .i64 (L.length : Int)) ∧ w' = w := by
  obtain ⟨xb, _, x1, _⟩ := h.facts
  obtain ⟨rb, F, k0, hr, hk⟩ := h.krec
  have e : (akeys L).length = L.length := by simp [akeys]
  have hl : (akeys L).length ≤ 9223372036854775807 := by have := h.inv.1.len; rw [e]; omega
  have AL := Lib.hid (rlen_any rb (akeys L) F w hr hl)
  rw [e] at AL
  clear h hr hl e
  go_enter Tryz.func17, Tryz.ntmps17
  go_wp2_with fail
  refine AL.out.mono ?_
  rintro e w1 ⟨rfl, rfl⟩
  clear AL
  go_wp2
  go_ret
  exact ⟨rfl, rfl⟩
set_option maxHeartbeats 2000000 in
theorem TSt.of (h : TSt w base tb cm kb pb cb X M most L n P N) (id : Int) (hN : N ≤ 9000) :
    Calls Tryz.prog 36 #[.pointer (some ⟨tb, 0, none⟩), .int .i64 id] w fun e w' => ∃ v l, e = .returned v ∧ TxtsAt w' w.heap.size v l ∧ (Rising l ∧ (∀ t, t ∈ l ↔ P t id)) ∧ Upd (fun _ => False) w w' := by
  obtain ⟨xb, _, _, x2⟩ := h.facts
  have AL := Lib.hid (h.pof id hN)
  clear h
  go_enter Tryz.func36, Tryz.ntmps36
  go_wp2_with fail
  refine AL.out.mono ?_
  rintro e w1 ⟨v, l, rfl, i1, r1, m1, u1⟩
  obtain ⟨p, c, ev, _⟩ := own_slice i1
  have R : Hid (∃ v' l, Value.slice p l.length c = v' ∧ TxtsAt w1 w.heap.size v' l ∧ (Rising l ∧ (∀ t, t ∈ l ↔ P t id)) ∧ Upd (fun _ => False) w w1) := ⟨v, l, ev.symm, i1, ⟨r1, m1⟩, u1⟩
  have R : Hid (∃ v' l', Value.slice p l.length c = v' ∧ TxtsAt w1 w.heap.size v' l' ∧ (Rising l' ∧ (∀ t, t ∈ l' ↔ P t id)) ∧ Upd (fun _ => False) w w1) := ⟨v, l, ev.symm, i1, ⟨r1, m1⟩, u1⟩
  clear i1 u1 AL r1 m1
  subst ev
  generalize l.length = nl at *
  go_wp2
  go_ret
  obtain ⟨v', l', e1, h1, h2, h3⟩ := R.out
  exact ⟨v', l', by rw [← e1]; rfl, h1, h2, h3⟩
set_option maxHeartbeats 2000000 in
theorem TSt.ids (h : TSt w base tb cm kb pb cb X M most L n P N) (key : ByteArray) (hn : n ≤ 100000) :
    Calls Tryz.prog 39 #[.pointer (some ⟨tb, 0, none⟩), .string key] w fun e w' => ∃ v, e = .returned v ∧ IntsAt w' w.heap.size v ((aget L key).getD []) ∧ Upd (fun _ => False) w w' := by
  obtain ⟨xb, _, x1, _⟩ := h.facts
  have AL := Lib.hid (h.kids hn key)
  clear h
  go_enter Tryz.func39, Tryz.ntmps39
  go_wp2_with fail
  refine AL.out.mono ?_
  rintro e w1 ⟨v, rfl, i1, u1⟩
  obtain ⟨p, c, ev, _⟩ := own_slice i1
  have I1 := Lib.hid i1
  have U1 := Lib.hid u1
  clear i1 u1 AL
  subst ev
  go_wp2
  go_ret
  exact ⟨_, rfl, I1.out, U1.out⟩
set_option maxHeartbeats 4000000 in
theorem TSt.mode (h : TSt w base tb cm kb pb cb X M most L n P N) (id : Int) :
    Calls Tryz.prog 30 #[.pointer (some ⟨tb, 0, none⟩), .int .i64 id] w fun e w' => ∃ v, e = .returned (.tuple #[mdV (modeP M id).1 v, .bool (modeP M id).2]) ∧ TxtsAt w' w.heap.size v (modeP M id).1.ps ∧ Upd (fun _ => False) w w' := by
  obtain ⟨xb, x0, _, _⟩ := h.facts
  have UZ : Hid (Upd (fun _ => False) w (w.alloc (.cells zeroMC.toArray 32))) := (Upd.refl _ _).alloc _
  have BZ := Lib.hid (Blk.made w zeroMC 32)
  have h1 := h.keep0 UZ.out
  cases hc : aget M id with
  | none =>
    have R : Hid (modeP M id = (offM, false)) := by show _ = _; unfold modeP; rw [hc]
    have LK := h1.lookN hc
    clear h h1 hc
    go_enter Tryz.func30, Tryz.ntmps30
    go_wp2
    obtain ⟨_, _, h0, h1, h2, h3, h4, h5, h6⟩ := mode_facts BZ.out
    refine bodyPost_ret (v := .tuple #[.agg #[.bool false, .bool false, .bool false, .bool false, .bool false, .int .i64 0, .slice none 0 0], .bool false]) (by simp [results, Tryz.results30, go_sem, h0, h1, h2, h3, h4, h5, h6]) rfl ⟨.slice none 0 0, ?_, ?_, UZ.out⟩
    · rw [R.out]; rfl
    · rw [R.out]; exact World.ownsRow_nil _ _ _ _
  | some c =>
    have R : Hid (modeP M id = (c.md, true)) := by show _ = _; unfold modeP; rw [hc]
    have LK := h1.lookS hc
    obtain ⟨v, hb, ht, _, _, hv⟩ := h.cl hc
    obtain ⟨y0, y1, y2, y3, y4, y5, y6, y7, y8, y9⟩ := cl_facts hb
    obtain ⟨l1, l2⟩ := right_ml (h.ok.right hc)
    obtain ⟨p0, c0, e0, _⟩ := own_slice ht
    have CP := Lib.hid (copy_any c.md v _ (txts_row (own_keep ht UZ.out (fun _ _ h => h))) l1)
    rw [e0] at CP y8
    unfold mdV at CP ⊢
    clear h h1 hc hb ht hv l1 l2 e0
    obtain ⟨md, cg⟩ := c
    obtain ⟨on, bc, oi, oo, nl, rd, ps⟩ := md
    dsimp only at *
    go_enter Tryz.func30, Tryz.ntmps30
    go_wp2_with fail
    refine CP.out.mono ?_
    rintro e w5 ⟨v5, rfl, t5, u5⟩
    obtain ⟨p5, c5, e5, _⟩ := own_slice t5
    subst e5
    have b2 := u5.blk BZ.out (fun h => h)
    obtain ⟨x1, f1, e0, e1, e2, e3, e4, e5, e6⟩ := mode_facts b2
    have T5 := Lib.hid t5
    have B2 := Lib.hid b2
    have UW := Lib.hid (UZ.out.trans u5 (fun _ _ h => h))
    clear t5 u5 b2 CP
    generalize hnp : ps.length = np at *
    have HNP := Lib.hid hnp
    clear hnp
    go_wp2
    have bF := setM_blk (a0 := .bool on) (a1 := .bool bc) (a2 := .bool oi) (a3 := .bool oo) (a4 := .bool nl) (a5 := .int .i64 rd) (a6 := .slice p5 np c5) B2.out
    unfold setM at bF
    obtain ⟨_, _, h0, h1, h2, h3, h4, h5, h6⟩ := mode_facts bF
    refine bodyPost_ret (v := .tuple #[.agg #[.bool on, .bool bc, .bool oi, .bool oo, .bool nl, .int .i64 rd, .slice p5 np c5], .bool true]) (by simp [results, Tryz.results30, go_sem, h0, h1, h2, h3, h4, h5, h6]) rfl ⟨.slice p5 np c5, ?_, ?_, ?_⟩
    · rw [R.out]
    · rw [R.out]
      have us := setM_upd (b := w.heap.size) (a0 := .bool on) (a1 := .bool bc) (a2 := .bool oi) (a3 := .bool oo) (a4 := .bool nl) (a5 := .int .i64 rd) (a6 := .slice p5 np c5) (Upd.refl (fun b => b = w.heap.size) w5) (fun _ => rfl)
      unfold setM at us
      refine own_mono (own_keep T5.out us (fun b hb e => ?_)) UZ.out.size
      obtain ⟨_, _, cs, hs⟩ := own_lt T5.out hb
      subst e
      exact ty_ne (B2.out.ty hs)
    · have us := setM_upd (b := w.heap.size) (a0 := .bool on) (a1 := .bool bc) (a2 := .bool oi) (a3 := .bool oo) (a4 := .bool nl) (a5 := .int .i64 rd) (a6 := .slice p5 np c5) UW.out (fun h => absurd h (Nat.lt_irrefl _))
      unfold setM at us
      exact us
end
set_option maxHeartbeats 2000000 in
/-- A new tracker, without clients. -/
theorem trkNew_any (most : Int) (w : World) (base : Nat) (hb : base ≤ w.heap.size) (hm : -9223372036854775808 ≤ most) (hm2 : most ≤ 9223372036854775807) (X : Nat → Prop) (hX : ∀ b, X b → b < w.heap.size) :
    Calls Tryz.prog 10 #[.int .i64 most] w fun e w' => ∃ tb, e = .returned (.pointer (some ⟨tb, 0, none⟩)) ∧ (∃ cm kb pb cb, TSt w' base tb cm kb pb cb X [] (max most 1) [] 0 (fun _ _ => False) 0) ∧ Upd (fun _ => False) w w' := by
  have u0 : Upd (fun _ => False) w (w.alloc (.map #[] 0)) := (Upd.refl _ _).alloc _
  have KN := Lib.hid (knew_any most (w.alloc (.map #[] 0)) hm hm2 base (Nat.le_trans hb u0.size))
  have U0 := Lib.hid u0
  have HX := Lib.hid hX
  have HB := Lib.hid hb
  clear u0 hX hb
  have mk := run_makeMap (P := Tryz.prog) 89 w
  go_enter Tryz.func10, Tryz.ntmps10
  go_wp2_with fail
  refine KN.out.mono ?_
  rintro e w1 ⟨kb, E, rfl, k1, u1, f1⟩
  have PN := Lib.hid (pnew_any w1 base (by have := HB.out; have := u1.size; have := U0.out.size; omega))
  have K1 := Lib.hid k1
  have U1 := Lib.hid u1
  have F1 := Lib.hid f1
  clear k1 u1 f1 KN
  go_wp2_with fail
  refine PN.out.mono ?_
  rintro e w2 ⟨pb, F, rfl, p1, u2, f2⟩
  have P1 := Lib.hid p1
  have U2 := Lib.hid u2
  have F2 := Lib.hid f2
  clear p1 u2 f2 PN
  go_wp2
  go_ret
  have hz : w.heap.size < (w.alloc (.map #[] 0)).heap.size := by simp
  have hz1 := U1.out.size
  have hz2 := U2.out.size
  have hB := HB.out
  have u3 : Upd (fun _ => False) w2 (w2.alloc (.cells #[.map (some w.heap.size), .pointer (some ⟨kb, 0, none⟩), .pointer (some ⟨pb, 0, none⟩)] 95)) := (Upd.refl _ _).alloc _
  have hm0 : MapAt intEnc (w.alloc (.map #[] 0)) w.heap.size [] := MapAt.made w
  have hm2 := (((hm0.keep U1.out (fun h => h)).keep U2.out (fun h => h)).keep u3 (fun h => h))
  have klt := fun b hb => (K1.out.lt b hb).2
  refine ⟨_, rfl, ⟨w.heap.size, kb, pb, fun _ => 0, ⟨⟨[], fun _ => .slice none 0 0, E, F, ⟨Blk.made _ _ _, K1.out.keep (U2.out.trans u3 (fun _ _ h => h)) (fun _ _ h => h), P1.out.keep u3 (fun _ _ h => h), hm2, List.nodup_nil, fun id => rfl, fun id c hc => (by cases hc), fun i j hi => absurd rfl hi, fun b hb => ?_, fun b hb => ?_, fun b he hf => ?_, by have := u3.size; omega⟩, fun b hb hx => ?_⟩, fun b hb => by have := HX.out b hb; have := u3.size; omega, ⟨List.Pairwise.nil, fun id hid => by simp [akeys] at hid, by simp, fun p hp => by simp at hp⟩, fun k hk => by simp [akeys] at hk, by omega⟩⟩, (((U0.out.trans U1.out (fun _ _ h => h)).trans U2.out (fun _ _ h => h)).trans u3 (fun _ _ h => h))⟩
  · rcases hb with rfl | rfl | ⟨id, c, hc, _⟩
    · omega
    · omega
    · cases hc
  · rcases hb with rfl | rfl | ⟨id, c, hc, _⟩
    · exact ⟨fun he => by have := klt _ he; omega, fun he => by have := (P1.out.lt _ he).2; omega⟩
    · exact ⟨fun he => by have := F1.out _ he; omega, fun he => by have := F2.out _ he; omega⟩
    · cases hc
  · have := klt _ he
    have := F2.out _ hf
    omega
  · have hxb := HX.out b hx
    rcases hb with (rfl | rfl | ⟨id, c, hc, _⟩) | hb | hb
    · omega
    · omega
    · cases hc
    · have := F1.out _ hb; omega
    · have := F2.out _ hb; omega
end Go.Proofs.YtmlojbfcmebboaaGreat
/- Walks: a client has read keys. -/
set_option linter.unusedVariables false
set_option linter.unusedSimpArgs false
set_option linter.unusedSectionVars false
set_option maxRecDepth 100000
namespace Go.Proofs.YtmlojbfcmebboaaGreat
open Go.RowKit

theorem nt_info : (Tryz.prog.info? 40).map (fun i => (i.zero, i.size, i.bytes)) = some (some (.agg #[.int .i64 0, .int .i64 0, .int .i64 0, .string ByteArray.empty]), 4, 40) := by kernel_rfl
/-- A row that is only read is kept; an empty one always. -/
theorem RowOf.keepE {α : Type} {f : α → List Value} {k : Nat} {w w' : World} {v : Value} {l : List α} (h : RowOf f k w v l) {F : Nat → Prop} (u : Upd F w w') (hd : l = [] ∨ ∀ b, v.ownBlock = some b → ¬ F b) : RowOf f k w' v l := by
  rcases hd with e | hd
  · subst e
    rcases h with ⟨p, c, h1, _⟩ | ⟨b, off, c, h1, _⟩
    · exact Or.inl ⟨p, c, h1, rfl⟩
    · exact Or.inl ⟨_, c, h1, rfl⟩
  · exact h.keep u (fun b _ hb => hd b hb)
/-- A row of notices of the call's own. -/
abbrev NtsAt (w : World) (base : Nat) (v : Value) (l : List NT) : Prop := OwnN ntc 4 40 w base v l
theorem ntc_len (n : NT) : (ntc n).length = 4 := rfl
theorem ntc_one (n : NT) : ∀ u ∈ ntc n, u.oneCell' = true := by intro u hu; simp [ntc] at hu; rcases hu with rfl | rfl | rfl | rfl <;> rfl
/-- A notice more. -/
theorem nts_app (w : World) (base : Nat) (v : Value) (l : List NT) (t : NT) (h : NtsAt w base v l) (hl : l.length ≤ 1000000000000) (hb : base ≤ w.heap.size) :
    ∃ p c w', (Builtin.append_ #[37, 37] 37 #[v, .slice (some ⟨w.heap.size, 0, none⟩) 1 1]).run Tryz.prog (w.alloc (.cells #[.int .i64 t.kd, .int .i64 t.dst, .int .i64 t.who, .string t.key] 40)) = .ok (.slice p (l.length + 1) c) w' ∧ NtsAt w' base (.slice p (l.length + 1) c) (l ++ [t]) ∧ Upd (fun k => v.ownBlock = some k) w w' ∧ NewOr v (.slice p (l.length + 1) c) w := by
  obtain ⟨i0, hi0, hz0, hz1, hz2⟩ := info_parts nt_info
  have u0 : Upd (fun _ => False) w (w.alloc (.cells #[.int .i64 t.kd, .int .i64 t.dst, .int .i64 t.who, .string t.key] 40)) := (Upd.refl _ _).alloc _
  obtain ⟨v', w', a, b, c, d⟩ := OwnN.append (P := Tryz.prog) 37 37 i0 (.agg #[.int .i64 0, .int .i64 0, .int .i64 0, .string ByteArray.empty]) 40 Tryz.underlying37 hi0 hz0 hz1 hz2 rfl (by decide) ntc_len (fun a _ => ntc_one a) (h.keep0 u0) (RowOf.lit (f := ntc) w t [.int .i64 t.kd, .int .i64 t.dst, .int .i64 t.who, .string t.key] _ rfl rfl) (by unfold maxLen; simp; omega) (by simp; omega) (Nat.le_trans hb u0.size)
  obtain ⟨p, k, e, _⟩ := b.slice
  rw [List.length_append, List.length_singleton] at e
  subst e
  exact ⟨p, k, w', a, b, (u0.weaken (F := fun k => v.ownBlock = some k) (fun _ _ h => h.elim)).trans c (fun _ _ h => h), fun k hk => (d k hk).imp id (fun g => Nat.le_trans u0.size g)⟩
/-- Keys that a client reads, one after another. -/
def readL (C : Int → Option CL) (most : Int) (id : Int) : List Txt → Rows14 → List NT × Rows14
  | [], L => ([], L)
  | t :: r, L => (((add14 most L (ofL t) id).2.1.map fun x => toldP C 1 x (add14 most L (ofL t) id).1) ++ (readL C most id r (add14 most L (ofL t) id).2.2.2).1, (readL C most id r (add14 most L (ofL t) id).2.2.2).2)
theorem readL_snoc (C : Int → Option CL) (most : Int) (id : Int) (l : List Txt) (t : Txt) (L : Rows14) :
    readL C most id (l ++ [t]) L = ((readL C most id l L).1 ++ (add14 most (readL C most id l L).2 (ofL t) id).2.1.map (fun x => toldP C 1 x (add14 most (readL C most id l L).2 (ofL t) id).1), (add14 most (readL C most id l L).2 (ofL t) id).2.2.2) := by
  induction l generalizing L with
  | nil => simp [readL]
  | cons a r ih => simp only [List.cons_append, readL, ih, List.append_assoc]
def readP (M : List (Int × CL)) (most : Int) (L : Rows14) (id : Int) (l : List Txt) : List NT × Rows14 := match aget M id with
  | some c => if tracksM c.md c.cg = true then readL (aget M) most id l L else ([], L)
  | none => ([], L)
theorem add14_len (most : Int) {L : Rows14} (key : ByteArray) (id : Int) {n : Nat} (h : KInv L n) : (add14 most L key id).2.1.length ≤ n := by
  unfold add14
  split
  · simp
  · split
    · split
      · simp
      · next p0 r0 _ _ => exact (h.rise p0.1 p0.2 (by simp [aget])).2.2
    · simp
section
variable {w w' : World} {base tb cm kb pb : Nat} {cb : Int → Nat} {X Y : Nat → Prop} {M : List (Int × CL)} {most : Int} {L : Rows14} {n : Nat} {P P' : Txt → Int → Prop} {N : Nat}
/-- Notices beside the tracker, in a row of their own. -/
structure RSt (wr : World) (w0 : World) (base tb cm kb pb : Nat) (cb : Int → Nat) (X : Nat → Prop) (M : List (Int × CL)) (most : Int) (L : Rows14) (n : Nat) (P : Txt → Int → Prop) (N : Nat) (v : Value) (l : List NT) : Prop where
  st : TSt wr base tb cm kb pb cb (fun b => X b ∨ v.ownBlock = some b) M most L n P N
  row : NtsAt wr w0.heap.size v l
  up : Upd (Fr base X) w0 wr
theorem RSt.keep0 {w0 wr w1 : World} {v : Value} {l : List NT} (h : RSt wr w0 base tb cm kb pb cb X M most L n P N v l) (u : Upd (fun _ => False) wr w1) : RSt w1 w0 base tb cm kb pb cb X M most L n P N v l :=
  ⟨h.st.keep0 u, h.row.keep0 u, h.up.trans u (fun _ _ h => h.elim)⟩
theorem RSt.start (h : TSt w base tb cm kb pb cb X M most L n P N) : RSt w w base tb cm kb pb cb X M most L n P N (.slice none 0 0) [] :=
  ⟨h.less (fun b hb => by rcases hb with g | g; exact g; cases g), OwnN.none, Upd.refl _ _⟩
/-- A notice more. -/
theorem RSt.app {w0 wr : World} {v : Value} {l : List NT} (h : RSt wr w0 base tb cm kb pb cb X M most L n P N v l) (t : NT) (hl : l.length ≤ 1000000000000) :
    ∃ p c w', (Builtin.append_ #[37, 37] 37 #[v, .slice (some ⟨wr.heap.size, 0, none⟩) 1 1]).run Tryz.prog (wr.alloc (.cells #[.int .i64 t.kd, .int .i64 t.dst, .int .i64 t.who, .string t.key] 40)) = .ok (.slice p (l.length + 1) c) w' ∧ RSt w' w0 base tb cm kb pb cb X M most L n P N (.slice p (l.length + 1) c) (l ++ [t]) ∧ Upd (fun b => v.ownBlock = some b) wr w' := by
  obtain ⟨p, c, w', hr, i1, u1, n1⟩ := nts_app wr w0.heap.size v l t h.row hl h.up.size
  have hs : TSt w' base tb cm kb pb cb (fun b => X b ∨ v.ownBlock = some b) M most L n P N := h.st.keepX (u1.weaken (fun b _ hb => Or.inr hb))
  have hX : ∀ b, X b → b < w0.heap.size ∨ X b := fun b hb => Or.inr hb
  refine ⟨p, c, w', hr, ⟨?_, i1, h.up.trans u1 (fun b hb e => ?_)⟩, u1⟩
  · obtain ⟨Q, vs, E, F, r, d⟩ := h.st.ex
    have r' := r.keep (u1.weaken (F := fun b => v.ownBlock = some b) (fun b _ hb => hb)) (fun b hb e => d b hb (Or.inr e))
    refine { hs with ex := ⟨Q, vs, E, F, r', fun b hb hy => ?_⟩, xlt := fun b hb => ?_ }
    · rcases hy with g | g
      · exact d b hb (Or.inl g)
      · rcases n1 b g with g2 | g2
        · exact d b hb (Or.inr g2)
        · have := (r.ltF hb).2; omega
    · rcases hb with g | g
      · exact Nat.lt_of_lt_of_le (h.st.xlt b (Or.inl g)) u1.size
      · exact (i1.lt g).2.1
  · have := h.row.lt e
    omega
/-- A row of notices more. -/
theorem RSt.appR {w0 wr : World} {v v2 : Value} {l l2 : List NT} (h : RSt wr w0 base tb cm kb pb cb X M most L n P N v l) (h2 : RowOf ntc 4 wr v2 l2) (hl : l.length + l2.length ≤ 1000000000000) :
    ∃ p c w', (Builtin.append_ #[37, 37] 37 #[v, v2]).run Tryz.prog wr = .ok (.slice p (l ++ l2).length c) w' ∧ RSt w' w0 base tb cm kb pb cb X M most L n P N (.slice p (l ++ l2).length c) (l ++ l2) ∧ Upd (fun b => v.ownBlock = some b) wr w' := by
  obtain ⟨i0, hi0, hz0, hz1, hz2⟩ := info_parts nt_info
  obtain ⟨v', w', hr, i1, u1, n1⟩ := OwnN.append (P := Tryz.prog) 37 37 i0 (.agg #[.int .i64 0, .int .i64 0, .int .i64 0, .string ByteArray.empty]) 40 Tryz.underlying37 hi0 hz0 hz1 hz2 rfl (by decide) ntc_len (fun a _ => ntc_one a) h.row h2 (by unfold maxLen; omega) (by omega) h.up.size
  obtain ⟨p, c, e, _⟩ := i1.slice
  subst e
  have hs : TSt w' base tb cm kb pb cb (fun b => X b ∨ v.ownBlock = some b) M most L n P N := h.st.keepX (u1.weaken (fun b _ hb => Or.inr hb))
  refine ⟨p, c, w', hr, ⟨?_, i1, h.up.trans u1 (fun b hb e => ?_)⟩, u1⟩
  · obtain ⟨Q, vs, E, F, r, d⟩ := h.st.ex
    have r' := r.keep (u1.weaken (F := fun b => v.ownBlock = some b) (fun b _ hb => hb)) (fun b hb e => d b hb (Or.inr e))
    refine { hs with ex := ⟨Q, vs, E, F, r', fun b hb hy => ?_⟩, xlt := fun b hb => ?_ }
    · rcases hy with g | g
      · exact d b hb (Or.inl g)
      · rcases n1 b g with g2 | g2
        · exact d b hb (Or.inr g2)
        · have := (r.ltF hb).2; omega
    · rcases hb with g | g
      · exact Nat.lt_of_lt_of_le (h.st.xlt b (Or.inl g)) u1.size
      · exact (i1.lt g).2.1
  · have := h.row.lt e
    omega
/-- The row of notices stays where it is while the tracker's keys turn. -/
theorem RSt.next {w0 wr w1 : World} {v : Value} {l : List NT} {L' : Rows14} {n' : Nat} (h : RSt wr w0 base tb cm kb pb cb X M most L n P N v l) (s : TSt w1 base tb cm kb pb cb (fun b => X b ∨ v.ownBlock = some b) M most L' n' P N) (u : Upd (Fr base (fun b => X b ∨ v.ownBlock = some b)) wr w1) : RSt w1 w0 base tb cm kb pb cb X M most L' n' P N v l :=
  ⟨s, own_keep h.row u (fun b hb e => e.2 (Or.inr hb)), h.up.trans u (fun b _ e => ⟨e.1, fun g => e.2 (Or.inl g)⟩)⟩
theorem ints_nts {w : World} {b1 b2 : Nat} {v1 v2 : Value} {xs : List Int} {l : List NT} (h : IntsAt w b1 v1 xs) (h2 : NtsAt w b2 v2 l) {b : Nat} (hb : v1.ownBlock = some b) : v2.ownBlock ≠ some b := fun e => by
  obtain ⟨_, _, cs, hc⟩ := ints_block h hb
  obtain ⟨_, _, cs', hc'⟩ := h2.lt e
  unfold Blk at hc'; rw [hc] at hc'; injection hc' with hc'; injection hc' with _ h2; exact absurd h2 (by decide)
end
end Go.Proofs.YtmlojbfcmebboaaGreat
/- Walks: the same texts? the same numbers? -/
set_option linter.unusedVariables false
set_option linter.unusedSimpArgs false
namespace Go.Proofs.YtmlojbfcmebboaaGreat
open Go.RowKit

def intc (n : Int) : List Value := [.int .i64 n]
theorem own_row {α : Type} {enc : α → Value} {w : World} {base : Nat} {e : TypeId} {v : Value} {l : List α} (h : w.ownsRow base e 1 v l.length (l.map enc)) : RowOf (fun a => [enc a]) 1 w v l := by
  rcases h.2 with ⟨rfl, hn⟩ | ⟨g, cap, cur, rfl, hg, hb, h1, h2, h3, h4⟩
  · exact Or.inl ⟨none, 0, rfl, by cases l <;> simp_all⟩
  · refine Or.inr ⟨g, 0, cap, rfl, (Array.getElem?_eq_some_iff.1 hb).1, by omega, fun i a hi j hj => ?_⟩
    obtain rfl : j = 0 := by omega
    have hil : i < l.length := (List.getElem?_eq_some_iff.1 hi).1
    have e1 : (cur.toList.take (l.length * 1))[i]? = (l.map enc)[i]? := by rw [h4]
    rw [List.getElem?_take, if_pos (by omega), Array.getElem?_toList, List.getElem?_map, hi] at e1
    have e : (0 + (i * 1 + 0)) = i := by omega
    rw [e]
    simp only [World.cell?, hb, Option.isSome_none, Bool.false_eq_true, if_false]
    rw [e1]; rfl
theorem StrsAt.row {w : World} {base : Nat} {v : Value} {l : List ByteArray} (h : StrsAt w base v l) : RowOf strc 1 w v l := own_row h
theorem IntsAt.row {w : World} {base : Nat} {v : Value} {l : List Int} (h : IntsAt w base v l) : RowOf intc 1 w v l := own_row h

set_option maxHeartbeats 1000000 in
theorem same06_any (v1 v2 : Value) (l1 l2 : List ByteArray) (w : World) (h1 : RowOf strc 1 w v1 l1) (h2 : RowOf strc 1 w v2 l2) :
    Calls Tryz.prog 33 #[v1, v2] w fun e w' => e = .returned (.bool (decide (l1 = l2))) ∧ ∃ n, w' = w.drewN n := by
  obtain ⟨p1, k1, rfl, b1⟩ := h1.len
  obtain ⟨p2, k2, rfl, b2⟩ := h2.len
  unfold maxLen at b1 b2
  have H1 := Lib.hid h1
  have H2 := Lib.hid h2
  clear h1 h2
  by_cases hl : l1.length = l2.length
  · have hne : ((l1.length : Int) != (l2.length : Int)) = false := by simp [hl]
    have HL := Lib.hid hl
    clear hl
    go_enter Tryz.func33, Tryz.ntmps33
    go_wp2
    go_loopw [13] (fun c wr => ∃ k : Nat, k ≤ l1.length ∧ c = .int .i64 (k : Int) ∧ Hid (l1.take k = l2.take k) ∧ Hid (∃ n, wr = w.drewN n)) (fun c _ => l1.length - (intOf c).toNat)
    case atStart => exact ⟨0, by omega, rfl, by show l1.take 0 = l2.take 0; simp, 0, rfl⟩
    case round =>
      obtain ⟨k, hk, rfl, T, W⟩ := hrel
      by_cases hlt : k < l1.length
      · have hl := HL.out
        obtain ⟨x, hx⟩ : ∃ x, l1[k]? = some x := ⟨_, List.getElem?_eq_getElem hlt⟩
        obtain ⟨y, hy⟩ : ∃ y, l2[k]? = some y := ⟨_, List.getElem?_eq_getElem (by omega : k < l2.length)⟩
        have hlt2 : k < l2.length := by omega
        obtain ⟨g1, o1, q1, e1, _, _, c1⟩ : ∃ b off cap, Value.slice p1 l1.length k1 = .slice (some ⟨b, off, none⟩) l1.length cap ∧ b < w.heap.size ∧ l1.length ≤ maxLen ∧ ∀ i a, l1[i]? = some a → ∀ j, j < 1 → w.cell? ⟨b, off + (i * 1 + j), none⟩ = (strc a)[j]? := by
          rcases H1.out with ⟨_, _, _, e⟩ | h
          · rw [e] at hlt; simp at hlt
          · exact h
        obtain ⟨g2, o2, q2, e2, _, _, c2⟩ : ∃ b off cap, Value.slice p2 l2.length k2 = .slice (some ⟨b, off, none⟩) l2.length cap ∧ b < w.heap.size ∧ l2.length ≤ maxLen ∧ ∀ i a, l2[i]? = some a → ∀ j, j < 1 → w.cell? ⟨b, off + (i * 1 + j), none⟩ = (strc a)[j]? := by
          rcases H2.out with ⟨_, _, _, e⟩ | h
          · rw [e] at hlt2; simp at hlt2
          · exact h
        have d1 : w.cell? ⟨g1, o1 + k, none⟩ = some (.string x) := by have := c1 k x hx 0 (by omega); simpa [strc] using this
        have d2 : w.cell? ⟨g2, o2 + k, none⟩ = some (.string y) := by have := c2 k y hy 0 (by omega); simpa [strc] using this
        simp only [Value.slice.injEq] at e1 e2
        obtain ⟨rfl, _, rfl⟩ := e1
        obtain ⟨rfl, _, rfl⟩ := e2
        obtain ⟨n0, rfl⟩ := W.out
        have HX : Hid (l1.take (k + 1) = l1.take k ++ [x] ∧ l2.take (k + 1) = l2.take k ++ [y]) := by
          obtain ⟨_, r1⟩ := List.getElem?_eq_some_iff.1 hx
          obtain ⟨_, r2⟩ := List.getElem?_eq_some_iff.1 hy
          exact ⟨by rw [List.take_succ_eq_append_getElem hlt, r1], by rw [List.take_succ_eq_append_getElem hlt2, r2]⟩
        clear c1 c2 hx hy hl
        go_wp2
        go_quiet (fail)
        go_wp2
        · have t : (x.toList != y.toList) = true := by assumption
          have hxy : x ≠ y := by rintro rfl; simp at t
          go_ret
          refine ⟨ret_bool ?_, n0 + nq, World.drewN_drewN _ _ _⟩
          have : l1 ≠ l2 := by
            rintro rfl
            have := HX.out.1.symm.trans HX.out.2
            simp at this
            exact hxy this
          simp [this]
        · have t : (x.toList != y.toList) = false := by assumption
          have hxy : x = y := toList_eq (by simpa using t)
          go_roundw
          case rel =>
            refine ⟨k + 1, by omega, rfl, ?_, n0 + nq, rfl⟩
            show l1.take (k + 1) = l2.take (k + 1)
            rw [HX.out.1, HX.out.2, T.out, hxy]
          case measure => simp [intOf]; omega
      · have hk2 : k = l1.length := by omega
        subst hk2
        go_wp2
        go_ret
        refine ⟨ret_bool ?_, W.out⟩
        have := T.out
        rw [List.take_length, HL.out, List.take_length] at this
        simp [this]
  · have hne : ((l1.length : Int) != (l2.length : Int)) = true := by rw [bne_iff_ne]; omega
    have HL := Lib.hid hl
    clear hl
    go_enter Tryz.func33, Tryz.ntmps33
    go_wp2
    go_ret
    refine ⟨ret_bool ?_, 0, rfl⟩
    have : l1 ≠ l2 := fun e => HL.out (by rw [e])
    simp [this]

set_option maxHeartbeats 1000000 in
theorem same14_any (v1 v2 : Value) (l1 l2 : List Int) (w : World) (h1 : RowOf intc 1 w v1 l1) (h2 : RowOf intc 1 w v2 l2) :
    Calls Tryz.prog 38 #[v1, v2] w fun e w' => e = .returned (.bool (decide (l1 = l2))) ∧ ∃ n, w' = w.drewN n := by
  obtain ⟨p1, k1, rfl, b1⟩ := h1.len
  obtain ⟨p2, k2, rfl, b2⟩ := h2.len
  unfold maxLen at b1 b2
  have H1 := Lib.hid h1
  have H2 := Lib.hid h2
  clear h1 h2
  by_cases hl : l1.length = l2.length
  · have hne : ((l1.length : Int) != (l2.length : Int)) = false := by simp [hl]
    have HL := Lib.hid hl
    clear hl
    go_enter Tryz.func38, Tryz.ntmps38
    go_wp2
    go_loopw [13] (fun c wr => ∃ k : Nat, k ≤ l1.length ∧ c = .int .i64 (k : Int) ∧ Hid (l1.take k = l2.take k) ∧ Hid (∃ n, wr = w.drewN n)) (fun c _ => l1.length - (intOf c).toNat)
    case atStart => exact ⟨0, by omega, rfl, by show l1.take 0 = l2.take 0; simp, 0, rfl⟩
    case round =>
      obtain ⟨k, hk, rfl, T, W⟩ := hrel
      by_cases hlt : k < l1.length
      · have hl := HL.out
        obtain ⟨x, hx⟩ : ∃ x, l1[k]? = some x := ⟨_, List.getElem?_eq_getElem hlt⟩
        obtain ⟨y, hy⟩ : ∃ y, l2[k]? = some y := ⟨_, List.getElem?_eq_getElem (by omega : k < l2.length)⟩
        have hlt2 : k < l2.length := by omega
        obtain ⟨g1, o1, q1, e1, _, _, c1⟩ : ∃ b off cap, Value.slice p1 l1.length k1 = .slice (some ⟨b, off, none⟩) l1.length cap ∧ b < w.heap.size ∧ l1.length ≤ maxLen ∧ ∀ i a, l1[i]? = some a → ∀ j, j < 1 → w.cell? ⟨b, off + (i * 1 + j), none⟩ = (intc a)[j]? := by
          rcases H1.out with ⟨_, _, _, e⟩ | h
          · rw [e] at hlt; simp at hlt
          · exact h
        obtain ⟨g2, o2, q2, e2, _, _, c2⟩ : ∃ b off cap, Value.slice p2 l2.length k2 = .slice (some ⟨b, off, none⟩) l2.length cap ∧ b < w.heap.size ∧ l2.length ≤ maxLen ∧ ∀ i a, l2[i]? = some a → ∀ j, j < 1 → w.cell? ⟨b, off + (i * 1 + j), none⟩ = (intc a)[j]? := by
          rcases H2.out with ⟨_, _, _, e⟩ | h
          · rw [e] at hlt2; simp at hlt2
          · exact h
        have d1 : w.cell? ⟨g1, o1 + k, none⟩ = some (.int .i64 x) := by have := c1 k x hx 0 (by omega); simpa [intc] using this
        have d2 : w.cell? ⟨g2, o2 + k, none⟩ = some (.int .i64 y) := by have := c2 k y hy 0 (by omega); simpa [intc] using this
        simp only [Value.slice.injEq] at e1 e2
        obtain ⟨rfl, _, rfl⟩ := e1
        obtain ⟨rfl, _, rfl⟩ := e2
        obtain ⟨n0, rfl⟩ := W.out
        have HX : Hid (l1.take (k + 1) = l1.take k ++ [x] ∧ l2.take (k + 1) = l2.take k ++ [y]) := by
          obtain ⟨_, r1⟩ := List.getElem?_eq_some_iff.1 hx
          obtain ⟨_, r2⟩ := List.getElem?_eq_some_iff.1 hy
          exact ⟨by rw [List.take_succ_eq_append_getElem hlt, r1], by rw [List.take_succ_eq_append_getElem hlt2, r2]⟩
        clear c1 c2 hx hy hl
        go_wp2
        go_quiet (fail)
        go_wp2
        · have t : (x != y) = true := by assumption
          have hxy : x ≠ y := by rintro rfl; simp at t
          go_ret
          refine ⟨ret_bool ?_, n0 + nq, World.drewN_drewN _ _ _⟩
          have : l1 ≠ l2 := by
            rintro rfl
            have := HX.out.1.symm.trans HX.out.2
            simp at this
            exact hxy this
          simp [this]
        · have t : (x != y) = false := by assumption
          have hxy : x = y := by simpa using t
          go_roundw
          case rel =>
            refine ⟨k + 1, by omega, rfl, ?_, n0 + nq, rfl⟩
            show l1.take (k + 1) = l2.take (k + 1)
            rw [HX.out.1, HX.out.2, T.out, hxy]
          case measure => simp [intOf]; omega
      · have hk2 : k = l1.length := by omega
        subst hk2
        go_wp2
        go_ret
        refine ⟨ret_bool ?_, W.out⟩
        have := T.out
        rw [List.take_length, HL.out, List.take_length] at this
        simp [this]
  · have hne : ((l1.length : Int) != (l2.length : Int)) = true := by rw [bne_iff_ne]; omega
    have HL := Lib.hid hl
    clear hl
    go_enter Tryz.func38, Tryz.ntmps38
    go_wp2
    go_ret
    refine ⟨ret_bool ?_, 0, rfl⟩
    have : l1 ≠ l2 := fun e => HL.out (by rw [e])
    simp [this]
end Go.Proofs.YtmlojbfcmebboaaGreat
