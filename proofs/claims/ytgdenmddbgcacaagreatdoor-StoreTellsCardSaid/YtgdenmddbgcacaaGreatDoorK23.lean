/- The document's store: walk of Put. -/
import Derived.Test.YtgdenmddbgcacaaGreatDoorK20
import Derived.Test.YtgdenmddbgcacaaGreatDoorK22
set_option linter.unusedVariables false
set_option linter.unusedSimpArgs false
set_option linter.unusedSectionVars false
namespace Go.Proofs.YtgdenmddbgcacaaGreatDoor
open Go.RowKit

section
variable {w w' w1 w2 : World} {base wb : Nat} {vs ve : Value} {C : List RCe} {S S1 S2 : PS} {key : ByteArray} {X X1 : Nat → Prop}
theorem gone_headP {x : Ce} {r : List Ce} {S : PS} (e : S.cells = x :: r) (h : (keysC S.cells).Nodup) (kind : Int) : goneP S x.key kind = { S with cells := r, events := S.events ++ [(kind, x.key)] } := by
  have hx := keysC_cons (e ▸ h)
  unfold goneP
  rw [if_pos (by rw [e]; simp [keysC])]
  have h2 := delC_none hx.1
  have : delC S.cells x.key = r := by
    rw [e]
    unfold delC at h2 ⊢
    simp only [List.filter_cons, ne_eq, not_true_eq_false, decide_false, Bool.false_eq_true, if_false]; exact h2
  rw [this]
/-- An eviction of the document's, so far. -/
def EvR (w : World) (base wb : Nat) (X : Nat → Prop) (S0 : PS) (wr : World) : Prop :=
  ∃ vs ve C S, RMem wr base wb vs ve C S ∧ POk S ∧ (∀ b, rfoot wb vs ve b → X b ∨ w.heap.size ≤ b) ∧ Upd X w wr ∧ evictP S0 = evictP S ∧ S.cells ≠ [] ∧ S.cells.length ≤ S0.cells.length ∧ S.events.length + S.cells.length ≤ S0.events.length + S0.cells.length ∧ S.budget = S0.budget
theorem EvR.next {S0 S' : PS} (f8 : ∀ b, rfoot wb vs ve b → X b ∨ w.heap.size ≤ b) (u8 : Upd X w w1) (u9 : Upd (fun _ => False) w1 w2) (g : RGo w2 base wb (rfoot wb vs ve) w' S') (ev : evictP S0 = evictP S') (ne : S'.cells ≠ []) (l1 : S'.cells.length ≤ S0.cells.length) (l2 : S'.events.length + S'.cells.length ≤ S0.events.length + S0.cells.length) (bu : S'.budget = S0.budget) :
    EvR w base wb X S0 w' ∧ Go.Proofs.YtgdenmddbgcacaaGreatDoor.lenAt w' wb = S'.cells.length := by
  obtain ⟨X', ⟨vs', ve', C', m, ok, hx, xl⟩, hf, u⟩ := g
  have z1 := u8.size
  have z2 := u9.size
  refine ⟨⟨vs', ve', C', S', m, ok, fun b hb => ?_, (u8.trans (u9.weaken (F := X) fun _ _ h => h.elim) (fun _ _ h => h)).trans u (fun i hi g => ?_), ev, ne, l1, l2, bu⟩, m.lenAt⟩
  · rcases hf b (hx b hb) with g | g
    · exact f8 b g
    · right; omega
  · rcases f8 i g with g | g
    · exact g
    · omega
theorem evict_stepP {x y : Ce} {r : List Ce} {S : PS} (e : S.cells = x :: y :: r) (h : S.budget < bytesC S.cells) : evictP S = evictP { S with cells := y :: r, events := S.events ++ [(4, x.key)] } := by
  obtain ⟨cells, bud, ev⟩ := S
  simp only at e h ⊢
  subst e
  unfold evictP
  simp only
  rw [show evictL bud (x :: y :: r) ev = (if bud < bytesC (x :: y :: r) then evictL bud (y :: r) (ev ++ [(4, x.key)]) else (x :: y :: r, ev)) from rfl, if_pos h]
theorem evict_short {S : PS} (h : S.cells.length ≤ 1) : evictP S = S := by
  obtain ⟨cells, bud, ev⟩ := S
  simp only at h
  match cells, h with
  | [], _ => rfl
  | [c], _ => rfl
  | c :: d :: r, h => simp at h
/-- A key and its item are to be laid. -/
def MidR (w : World) (base wb q : Nat) (X : Nat → Prop) (S1 : PS) (key : ByteArray) (i : It) (v : Value) (keep : Bool) (wr : World) : Prop :=
  ∃ vs ve C, RMem wr base wb vs ve C { S1 with cells := delC S1.cells key } ∧ (∀ b, rfoot wb vs ve b → X b ∨ w.heap.size ≤ b) ∧ ¬ rfoot wb vs ve q ∧ Upd X w wr ∧ FldAt wr (fun b => b < base) v i.flds ∧
    Blk wr q [.string key, .int .i64 i.kind, .string i.text, v, .int .i64 (keepC S1.cells key keep)] 90
end
set_option maxHeartbeats 8000000 in
set_option maxRecDepth 100000 in
theorem qput_any {w : World} {base wb : Nat} {X : Nat → Prop} {S : PS} (h : RSt w base wb X S) (key : ByteArray) (i : It) (v : Value) (keep : Bool) (now : Int) (hv : FldAt w (fun b => b < base) v i.flds) (hc : S.cells.length ≤ 9000) (hl : S.events.length ≤ 800000) (hk : key.size ≤ 100000) :
    Calls Tryz.prog 29 #[.pointer (some ⟨wb, 0, none⟩), .string key, itV i v, .bool keep, .int .i64 now] w fun e w' => e = .returned (.int .i64 (putE (dueP S key now) key i)) ∧ RGo w base wb X w' (putP S key i keep now) := by
  obtain ⟨S2, hS2⟩ : ∃ S2, putP S key i keep now = S2 := ⟨_, rfl⟩
  rw [hS2]
  unfold putP at hS2
  have PE := Lib.hid hS2
  clear hS2
  obtain ⟨pi, ci, evi, hmi⟩ := hv.1.len
  subst evi
  have HBL : base ≤ w.heap.size := by obtain ⟨vs, ve, C, m, _⟩ := h; exact m.bl
  have HXL : ∀ b, X b → b < w.heap.size := by obtain ⟨vs, ve, C, m, _, _, xl⟩ := h; exact fun b hb => (xl b hb).2
  have XLO : Hid (∀ b, X b → base ≤ b) := by obtain ⟨vs, ve, C, m, _, _, xl⟩ := h; exact fun b hb => (xl b hb).1
  have u0 : Upd (fun _ => False) w (w.alloc (.cells #[.int .i64 i.kind, .string i.text, .slice pi i.flds.length ci] 31)) := (Upd.refl _ _).alloc _
  have HB0 := Lib.hid (Blk.made w [.int .i64 i.kind, .string i.text, .slice pi i.flds.length ci] 31)
  have D := Lib.hid (rdue_any (h.keep0 u0) key now (by omega) (by omega))
  have L := Lib.hid (dueP_lenR S key now)
  have HC := Lib.hid (And.intro hc hl)
  have HBX := Lib.hid (And.intro HBL HXL)
  have U0 := Lib.hid u0
  have HV := Lib.hid hv
  have HK := Lib.hid hk
  clear h hc hl HBL HXL u0 hv
  unfold itV
  generalize dueP S key now = S1 at *
  obtain ⟨kd, tx, fl⟩ := i
  simp only at HB0 D HV U0 hmi ⊢
  obtain ⟨nf, hnf⟩ : ∃ nf, nf = fl.length := ⟨_, rfl⟩
  rw [← hnf] at HB0 D HV U0 hmi ⊢
  clear hnf
  by_cases h1 : 512 < key.size
  · have hE : Hid (putE S1 key ⟨kd, tx, fl⟩ = 31) := by show _ = _; unfold putE; rw [if_pos (Or.inl h1)]
    go_enter Tryz.func29, Tryz.ntmps29
    go_wp2_with fail
    refine (D.out).mono ?_
    rintro e w1 ⟨r, rfl, vs, ve, C, m1, ok1, f1, u1, hat⟩
    obtain ⟨p, c, ev, hm, hle⟩ := m1.cells.slice
    subst ev
    unfold maxLen at hm
    have x0 := m1.blk.cellAt (i := 0) (v := .slice p C.length c) rfl
    have x1 : w1.cell? ⟨wb, 1, none⟩ = some (.int .i64 S1.budget) := m1.blk.cellAt (i := 1) rfl
    have hwb := m1.blk.lt
    have NX : Hid (¬ rfoot wb (.slice p C.length c) ve w.heap.size) := fun g => by
      rcases f1 _ g with g | g
      · have := HBX.out.2 _ g; omega
      · simp at g; omega
    have hB1 := u1.blk HB0.out (fun g => by have := HBX.out.2 _ g; omega)
    have b0 := hB1.cellAt (i := 0) rfl
    have b1 := hB1.cellAt (i := 1) rfl
    have b2 := hB1.cellAt (i := 2) rfl
    have lb := hB1.lt
    have HB1 := Lib.hid hB1
    have M1 := Lib.hid m1
    have OK1 := Lib.hid ok1
    have F1 : Hid ((∀ b, rfoot wb (.slice p C.length c) ve b → X b ∨ w.heap.size ≤ b) ∧ Upd X w w1) := ⟨fun b hb => (f1 b hb).imp id (fun g => Nat.le_trans U0.out.size g), (U0.out.weaken (F := X) fun _ _ h => h.elim).trans u1 (fun _ _ h => h)⟩
    have V1 : Hid (FldAt w1 (fun b => b < base) (.slice pi nf ci) fl) := HV.out.keep F1.out.2 (fun b hb g => absurd hb (by have := XLO.out b g; omega))
    have OKS := OK1.out
    clear D m1 ok1 u1 hB1
    go_wp2
    go_ret
    rw [hE.out]
    refine ⟨rfl, ?_⟩
    have := PE.out
    rw [hE.out, if_neg (by decide)] at this
    rw [← this]
    exact M1.out.st OK1.out F1.out.1 F1.out.2
  · have t1 : decide ((key.size : Int) > 512) = false := decide_eq_false (by omega)
    have H1 := Lib.hid h1
    have RR := Lib.hid (fun W (hW : FldAt W (fun b => b < base) (.slice pi nf ci) fl) => rright_any ⟨kd, tx, fl⟩ (.slice pi nf ci) W hW.1)
    unfold itV at RR
    simp only at RR
    cases hr : rightI ⟨kd, tx, fl⟩ with
    | false =>
      have hE : Hid (putE S1 key ⟨kd, tx, fl⟩ = 31) := by show _ = _; unfold putE; rw [if_pos (Or.inr hr)]
      rw [hr] at RR
      clear hr h1
      go_enter Tryz.func29, Tryz.ntmps29
      go_wp2_with fail
      refine (D.out).mono ?_
      rintro e w1 ⟨r, rfl, vs, ve, C, m1, ok1, f1, u1, hat⟩
      obtain ⟨p, c, ev, hm, hle⟩ := m1.cells.slice
      subst ev
      unfold maxLen at hm
      have x0 := m1.blk.cellAt (i := 0) (v := .slice p C.length c) rfl
      have x1 : w1.cell? ⟨wb, 1, none⟩ = some (.int .i64 S1.budget) := m1.blk.cellAt (i := 1) rfl
      have hwb := m1.blk.lt
      have NX : Hid (¬ rfoot wb (.slice p C.length c) ve w.heap.size) := fun g => by
        rcases f1 _ g with g | g
        · have := HBX.out.2 _ g; omega
        · simp at g; omega
      have hB1 := u1.blk HB0.out (fun g => by have := HBX.out.2 _ g; omega)
      have b0 := hB1.cellAt (i := 0) rfl
      have b1 := hB1.cellAt (i := 1) rfl
      have b2 := hB1.cellAt (i := 2) rfl
      have lb := hB1.lt
      have HB1 := Lib.hid hB1
      have M1 := Lib.hid m1
      have OK1 := Lib.hid ok1
      have F1 : Hid ((∀ b, rfoot wb (.slice p C.length c) ve b → X b ∨ w.heap.size ≤ b) ∧ Upd X w w1) := ⟨fun b hb => (f1 b hb).imp id (fun g => Nat.le_trans U0.out.size g), (U0.out.weaken (F := X) fun _ _ h => h.elim).trans u1 (fun _ _ h => h)⟩
      have V1 : Hid (FldAt w1 (fun b => b < base) (.slice pi nf ci) fl) := HV.out.keep F1.out.2 (fun b hb g => absurd hb (by have := XLO.out b g; omega))
      have OKS := OK1.out
      clear D m1 ok1 u1 hB1
      have RA := Lib.hid (RR.out w1 V1.out)
      go_wp2_with (fail)
      go_at_call 59
      refine RA.out.mono ?_
      rintro e w2 ⟨rfl, u2⟩
      have U2 := Lib.hid u2
      clear u2 RA
      go_wp2
      go_ret
      rw [hE.out]
      refine ⟨rfl, ?_⟩
      have := PE.out
      rw [hE.out, if_neg (by decide)] at this
      rw [← this]
      exact (M1.out.keep0 U2.out).st OK1.out F1.out.1 (F1.out.2.trans U2.out (fun _ _ h => h.elim))
    | true =>
      have HR := Lib.hid hr
      rw [hr] at RR
      clear hr h1
      go_enter Tryz.func29, Tryz.ntmps29
      go_wp2_with fail
      refine (D.out).mono ?_
      rintro e w1 ⟨r, rfl, vs, ve, C, m1, ok1, f1, u1, hat⟩
      obtain ⟨p, c, ev, hm, hle⟩ := m1.cells.slice
      subst ev
      unfold maxLen at hm
      have x0 := m1.blk.cellAt (i := 0) (v := .slice p C.length c) rfl
      have x1 : w1.cell? ⟨wb, 1, none⟩ = some (.int .i64 S1.budget) := m1.blk.cellAt (i := 1) rfl
      have hwb := m1.blk.lt
      have NX : Hid (¬ rfoot wb (.slice p C.length c) ve w.heap.size) := fun g => by
        rcases f1 _ g with g | g
        · have := HBX.out.2 _ g; omega
        · simp at g; omega
      have hB1 := u1.blk HB0.out (fun g => by have := HBX.out.2 _ g; omega)
      have b0 := hB1.cellAt (i := 0) rfl
      have b1 := hB1.cellAt (i := 1) rfl
      have b2 := hB1.cellAt (i := 2) rfl
      have lb := hB1.lt
      have HB1 := Lib.hid hB1
      have M1 := Lib.hid m1
      have OK1 := Lib.hid ok1
      have F1 : Hid ((∀ b, rfoot wb (.slice p C.length c) ve b → X b ∨ w.heap.size ≤ b) ∧ Upd X w w1) := ⟨fun b hb => (f1 b hb).imp id (fun g => Nat.le_trans U0.out.size g), (U0.out.weaken (F := X) fun _ _ h => h.elim).trans u1 (fun _ _ h => h)⟩
      have V1 : Hid (FldAt w1 (fun b => b < base) (.slice pi nf ci) fl) := HV.out.keep F1.out.2 (fun b hb g => absurd hb (by have := XLO.out b g; omega))
      have OKS := OK1.out
      clear D m1 ok1 u1 hB1
      have RA := Lib.hid (RR.out w1 V1.out)
      go_wp2_with (fail)
      go_at_call 59
      refine RA.out.mono ?_
      rintro e w2 ⟨rfl, u2⟩
      have hB2 := u2.blk HB1.out (fun h => h)
      have b0 := hB2.cellAt (i := 0) rfl
      have b1 := hB2.cellAt (i := 1) rfl
      have b2 := hB2.cellAt (i := 2) rfl
      have lb := hB2.lt
      have HB2 := Lib.hid hB2
      have M2 := Lib.hid (M1.out.keep0 u2)
      have V2 := Lib.hid (V1.out.keep u2 (fun _ _ h => h))
      have F2 : Hid ((∀ b, rfoot wb (.slice p C.length c) ve b → X b ∨ w.heap.size ≤ b) ∧ Upd X w w2) := ⟨F1.out.1, F1.out.2.trans u2 (fun _ _ h => h.elim)⟩
      have x0 := M2.out.blk.cellAt (i := 0) (v := .slice p C.length c) rfl
      have x1 : w2.cell? ⟨wb, 1, none⟩ = some (.int .i64 S1.budget) := M2.out.blk.cellAt (i := 1) rfl
      have hwb := M2.out.blk.lt
      have CO := Lib.hid (fun W (u : Upd (fun _ => False) w2 W) => rcost_any key ⟨kd, tx, fl⟩ (.slice pi nf ci) W (V2.out.1.keep u (fun _ _ _ h => h)) (small_of_right HR.out) HK.out)
      unfold itV at CO
      simp only at CO
      clear u2 RA hB2 M1 V1 F1 HB1 RR
      have RSU : Hid (costI key ⟨kd, tx, fl⟩ = costI key ⟨kd, tx, fl⟩) := rfl
      obtain ⟨co, hco⟩ : ∃ co, costI key ⟨kd, tx, fl⟩ = co := ⟨_, rfl⟩
      rw [hco] at CO
      have HCO := Lib.hid hco
      clear hco RSU
      obtain ⟨bu, hbu⟩ : ∃ bu, S1.budget = bu := ⟨_, rfl⟩
      rw [hbu] at x1
      have HBU := Lib.hid hbu
      clear hbu
      cases h2 : decide (co > bu) with
      | true =>
        have hE : Hid (putE S1 key ⟨kd, tx, fl⟩ = 121) := by show _ = _; unfold putE; rw [if_neg (by rw [not_or]; exact ⟨H1.out, by simp [HR.out]⟩), HCO.out, HBU.out, if_pos (of_decide_eq_true h2)]
        have H2 := Lib.hid h2
        clear h2
        have t2 : decide (co > bu) = true := H2.out
        go_upto_region 4 with (fail)
        go_cut [32] (fun v32 wx => v32 = .bool true ∧ Hid (Upd (fun _ => False) w2 wx))
        case first =>
          go_region_with (go_at_call 42; refine (CO.out _ (by first | exact Upd.refl _ _ | exact (Upd.refl _ _).drew)).mono ?_; rintro e2 w3 ⟨rfl, u3⟩; have y6 : w3.cell? ⟨wb, 1, none⟩ = some (.int .i64 bu) := (u3.cell (p := ⟨wb, 1, none⟩) hwb (fun h => h)).trans x1; have l3 : wb < w3.heap.size := Nat.lt_of_lt_of_le hwb u3.size; have UU : Hid (Upd (fun _ => False) w2 w3) := (by first | exact u3 | exact (Upd.refl _ _).drew.trans u3 (fun _ _ h => h)); clear u3)
          all_goals (go_wp2_with fail; go_meet; exact ⟨rfl, by first | exact UU.out | exact UU.out.drew⟩)
        case rest =>
        obtain ⟨rfl, U3⟩ := hcut
        go_wp2
        go_ret
        rw [hE.out]
        refine ⟨rfl, ?_⟩
        have := PE.out
        rw [hE.out, if_neg (by decide)] at this
        rw [← this]
        exact (M2.out.keep0 U3.out).st OK1.out F2.out.1 (F2.out.2.trans U3.out (fun _ _ h => h.elim))
      | false =>
        have hE : Hid (putE S1 key ⟨kd, tx, fl⟩ = 0) := by show _ = _; unfold putE; rw [if_neg (by rw [not_or]; exact ⟨H1.out, by simp [HR.out]⟩), HCO.out, HBU.out, if_neg (of_decide_eq_false h2)]
        have H2 := Lib.hid h2
        clear h2
        have t2 : decide (co > bu) = false := H2.out
        go_upto_region 4 with (fail)
        go_cut [32] (fun v32 wx => v32 = .bool false ∧ Hid (Upd (fun _ => False) w2 wx))
        case first =>
          go_region_with (go_at_call 42; refine (CO.out _ (by first | exact Upd.refl _ _ | exact (Upd.refl _ _).drew)).mono ?_; rintro e2 w3 ⟨rfl, u3⟩; have y6 : w3.cell? ⟨wb, 1, none⟩ = some (.int .i64 bu) := (u3.cell (p := ⟨wb, 1, none⟩) hwb (fun h => h)).trans x1; have l3 : wb < w3.heap.size := Nat.lt_of_lt_of_le hwb u3.size; have UU : Hid (Upd (fun _ => False) w2 w3) := (by first | exact u3 | exact (Upd.refl _ _).drew.trans u3 (fun _ _ h => h)); clear u3)
          all_goals (go_wp2_with fail; go_meet; exact ⟨rfl, by first | exact UU.out | exact UU.out.drew⟩)
        case rest =>
        obtain ⟨rfl, U3⟩ := hcut
        have M3 := Lib.hid (M2.out.keep0 U3.out)
        have V3 := Lib.hid (V2.out.keep U3.out (fun _ _ h => h))
        have F3 : Hid ((∀ b, rfoot wb (.slice p C.length c) ve b → X b ∨ w.heap.size ≤ b) ∧ Upd X w wc) := ⟨F2.out.1, F2.out.2.trans U3.out (fun _ _ h => h.elim)⟩
        have hB3 := U3.out.blk HB2.out (fun h => h)
        have b0 := hB3.cellAt (i := 0) rfl
        have b1 := hB3.cellAt (i := 1) rfl
        have b2 := hB3.cellAt (i := 2) rfl
        have lb := hB3.lt
        have BQ := Blk.made wc [.string key, .int .i64 kd, .string tx, .slice pi nf ci, .int .i64 (-1)] 90
        have UQ : Upd (fun _ => False) wc (wc.alloc (.cells #[.string key, .int .i64 kd, .string tx, .slice pi nf ci, .int .i64 (-1)] 90)) := (Upd.refl _ _).alloc _
        have OK1 : Hid (POk S1) := OKS
        have HLN : Hid (C.length ≤ 100000) := by show _ ≤ _; rw [M3.out.len]; have := L.out; have := HC.out; omega
        clear M2 V2 F2 hB3 HB2 CO x0 x1 hwb t2 U3
        go_upto_if 37 with (fail)
        generalize hq : wc.heap.size = q at *
        generalize hwq : wc.alloc (.cells #[.string key, .int .i64 kd, .string tx, .slice pi nf ci, .int .i64 (-1)] 90) = wq at *
        have BQ : Blk wq q [.string key, .int .i64 kd, .string tx, .slice pi nf ci, .int .i64 (-1)] 90 := BQ
        have M4 := Lib.hid (M3.out.keep0 UQ)
        have V4 := Lib.hid (V3.out.keep UQ (fun _ _ h => h))
        have F4 : Hid ((∀ b, rfoot wb (.slice p C.length c) ve b → X b ∨ w.heap.size ≤ b) ∧ Upd X w wq) := ⟨F3.out.1, F3.out.2.trans UQ (fun _ _ h => h.elim)⟩
        have NQ : Hid (¬ rfoot wb (.slice p C.length c) ve q) := fun g => by have := (M3.out.fLt g).2; omega
        have QW : Hid (w.heap.size ≤ q) := by show _ ≤ _; have := F3.out.2.size; omega
        have BQ := Lib.hid BQ
        clear hwq hq UQ M3 V3 F3 b0 b1 b2 lb
        go_cut [12] (fun v12 wx => v12 = .pointer (some ⟨q, 0, none⟩) ∧ Hid (MidR w base wb q X S1 key ⟨kd, tx, fl⟩ (.slice pi nf ci) keep wx))
        case first =>
          have x0 := M4.out.blk.cellAt (i := 0) (v := .slice p C.length c) rfl
          have hwb := M4.out.blk.lt
          rcases hat.look M4.out.eq OK1.out.nd with ⟨rfl, hlk, hn⟩ | ⟨k, t, rfl, hk, hs, ht, hlk, hn⟩
          · have MM : Hid (MidR w base wb q X S1 key ⟨kd, tx, fl⟩ (.slice pi nf ci) keep wq) := by
              refine ⟨_, _, C, ?_, F4.out.1, NQ.out, F4.out.2, V4.out, ?_⟩
              · have e : delC S1.cells key = S1.cells := delC_none hn
                rw [e]; exact M4.out
              · have e : keepC S1.cells key keep = -1 := by unfold keepC; rw [hlk]; split <;> rfl
                rw [e]; exact BQ.out
            clear hlk hn hat
            go_wp2_with fail
            go_meet
            exact ⟨rfl, MM.out⟩
          · have hkl : k < C.length := (List.getElem?_eq_some_iff.1 hk).1
            have q5 : (k : Int) < (C.length : Int) := by omega
            have q6 : decide ((k : Int) ≥ 0) = true := decide_eq_true (by omega)
            have DE : Hid (S1.cells.eraseIdx k = delC S1.cells key) := by show _ = _; rw [erase_delC OK1.out.nd hs, ht]
            have hB4 := BQ.out
            have FIN : Hid (∀ W x, RMem W base wb (.slice p C.length c) ve C S1 → Upd X w W → FldAt W (fun b => b < base) (.slice pi nf ci) fl → Blk W q [.string key, .int .i64 kd, .string tx, .slice pi nf ci, .int .i64 x] 90 → x = keepC S1.cells key keep → q < W.heap.size →
                Calls Tryz.prog 58 #[.pointer (some ⟨wb, 0, none⟩), .int .i64 (k : Int)] W fun e w' => e = .returned (.tuple #[]) ∧ Hid (MidR w base wb q X S1 key ⟨kd, tx, fl⟩ (.slice pi nf ci) keep w')) := Lib.hid fun W x hM hU hV hB hx hqs => by
              refine (rwithout_any hM HLN.out hkl).mono ?_
              rintro e w9 ⟨rfl, vs9, m9, u9, f9⟩
              rw [DE.out] at m9
              have hsz := hU.size
              refine ⟨rfl, vs9, ve, C.eraseIdx k, m9, ?_, ?_, hU.trans u9 (fun j hj e => ?_), hV.keep u9 (fun b hb e => by have := hM.lo; omega), ?_⟩
              · rintro b (g | g | g)
                · exact F4.out.1 b (Or.inl g)
                · right; have := f9 b g; omega
                · exact F4.out.1 b (Or.inr (Or.inr g))
              · rintro (g | g | g)
                · exact NQ.out (Or.inl g)
                · have := f9 q g; omega
                · exact NQ.out (Or.inr (Or.inr g))
              · rcases F4.out.1 j (Or.inl e) with g | g
                · exact g
                · omega
              · rw [← hx]; exact u9.blk hB (fun e => NQ.out (Or.inl e))
            have QS : Hid (q < wq.heap.size) := hB4.lt
            obtain ⟨b, t2, ep, hb, hbl, hk2, hcs, hfz⟩ := cel_cells M4.out.cells hkl
            rw [hk] at hk2
            injection hk2 with e
            subst e ep
            have c4 := hcs 4 (by omega)
            simp only [rcs, List.getElem?_cons_zero, List.getElem?_cons_succ] at c4
            obtain ⟨wn, hwn⟩ : ∃ wn, wn = t.c.when := ⟨_, rfl⟩
            rw [← hwn] at c4
            have z4 := hB4.cellAt (i := 4) rfl
            have zf := hB4.free 4
            have zl := hB4.lt
            cases keep with
            | false =>
              have KC : Hid ((-1 : Int) = keepC S1.cells key false) := by show _ = _; unfold keepC; rw [if_neg (by simp)]
              have GO := Lib.hid (FIN.out wq (-1) M4.out F4.out.2 V4.out BQ.out KC.out QS.out)
              clear hlk hn hat hk hs ht hcs hwn hB4 FIN
              generalize C.length = nl at *
              go_wp2_with (fail)
              go_at_call 58
              refine GO.out.mono ?_
              rintro e w9 ⟨rfl, MM⟩
              clear GO
              go_wp2_with fail
              go_meet
              exact ⟨rfl, MM⟩
            | true =>
              have KC : Hid (wn = keepC S1.cells key true) := by show _ = _; unfold keepC; rw [if_pos rfl, hlk, hwn]
              have us : Upd (fun j => j = q) wq (wq.setCell ⟨q, 4, none⟩ (.int .i64 wn)) := (Upd.refl _ _).set (fun _ => rfl)
              have GO := Lib.hid (FIN.out (wq.setCell ⟨q, 4, none⟩ (.int .i64 wn)) wn (M4.out.keep us (fun j e => by subst e; exact ⟨Nat.le_trans HBX.out.1 QW.out, NQ.out⟩)) (F4.out.2.trans us (fun j hj e => by have := QW.out; omega)) (V4.out.keep us (fun j hj e => by have := HBX.out.1; have := QW.out; omega)) (hB4.set 4 (.int .i64 wn)) KC.out (by simp; exact QS.out))
              clear hlk hn hat hk hs ht hcs hwn hB4 FIN us
              generalize C.length = nl at *
              go_wp2_with (fail)
              go_at_call 58
              refine GO.out.mono ?_
              rintro e w9 ⟨rfl, MM⟩
              clear GO
              go_wp2_with fail
              go_meet
              exact ⟨rfl, MM⟩
        case rest =>
        obtain ⟨rfl, MM⟩ := hcut
        clear M4 V4 F4 NQ QW BQ hat HB0 NX
        obtain ⟨vs4, ve4, C4, m4, f4, nq, u4, v4, bq⟩ := MM.out
        obtain ⟨kc, hkc⟩ : ∃ kc, keepC S1.cells key keep = kc := ⟨_, rfl⟩
        rw [hkc] at bq
        have LP : Hid (laidP S1 key ⟨kd, tx, fl⟩ keep = ⟨delC S1.cells key ++ [⟨key, ⟨kd, tx, fl⟩, kc⟩], S1.budget, S1.events ++ [(1, key)]⟩) := by show _ = _; unfold laidP; rw [hkc]
        have OKL : Hid (POk (laidP S1 key ⟨kd, tx, fl⟩ keep)) := OK1.out.laid hE.out keep
        have PE2 : Hid (evictP (laidP S1 key ⟨kd, tx, fl⟩ keep) = S2) := by have := PE.out; rw [hE.out, if_pos rfl] at this; exact this
        rw [LP.out] at OKL PE2
        clear PE hkc LP MM
        have DL : Hid ((delC S1.cells key).length ≤ 9000 ∧ S1.events.length ≤ 800001) := ⟨by have := delC_len S1.cells key; have := L.out; have := HC.out; omega, by have := L.out; have := HC.out; omega⟩
        generalize delC S1.cells key = dc at *
        have c4l : C4.length ≤ 100000 := by have h1 := m4.len; have h2 := DL.out; simp only at h1; omega
        have ud : Upd (fun _ => False) wc wc.drew := (Upd.refl _ _).drew
        obtain ⟨p0, c0', p5, c5, w5, e0, hr, ua5, hB5, m5, u5, f5⟩ := (m4.keep0 ud).push ⟨⟨key, ⟨kd, tx, fl⟩, kc⟩, .slice pi nf ci⟩ (v4.keep ud (fun _ _ h => h)) c4l
        have hr : (Builtin.append_ #[45, 45] 45 #[vs4, .slice (some ⟨wc.heap.size, 0, none⟩) 1 1]).run Tryz.prog (wc.alloc (.cells #[.string key, .int .i64 kd, .string tx, .slice pi nf ci, .int .i64 kc] 90)).drew = .ok (.slice p5 (C4.length + 1) c5) w5 := hr
        have f5b : ∀ b, rfoot wb (.slice p5 (C4.length + 1) c5) ve4 b → X b ∨ w.heap.size ≤ b := fun b hb => by
          rcases f5 b hb with g | g
          · exact f4 b g
          · right; have := u4.size; simp at g; omega
        have U5 : Hid (Upd X w (w5.setCell ⟨wb, 0, none⟩ (.slice p5 (C4.length + 1) c5))) := (u4.trans (ud.weaken (F := X) fun _ _ h => h.elim) (fun _ _ h => h)).trans u5 (fun j hj g => by
          rcases f4 j g with g | g
          · exact g
          · omega)
        have M5 := Lib.hid m5
        have F5 := Lib.hid f5b
        have y0 := m4.blk.cellAt (i := 0) rfl
        have hwb := m4.blk.lt
        have z0 := hB5.cellAt (i := 0) rfl
        have lz := hB5.lt
        have fz := hB5.free 0
        have d0 := bq.cellAt (i := 0) rfl
        have d1 := bq.cellAt (i := 1) rfl
        have d2 := bq.cellAt (i := 2) rfl
        have d3 := bq.cellAt (i := 3) rfl
        have d4 := bq.cellAt (i := 4) rfl
        have dl := bq.lt
        subst e0
        generalize C4.length = nm at *
        clear m4 f4 nq u4 v4 bq f5 u5 m5 ua5 hB5 ud f5b
        go_upto_region 11 with (fail)
        go_cut [12] (fun v12 wx => v12 = .pointer (some ⟨q, 0, none⟩) ∧ Hid (wx = w5.setCell ⟨wb, 0, none⟩ (.slice p5 (nm + 1) c5)))
        case first =>
          go_region_law (refine step_builtinN rfl (.tmp 55) (.tmp 57) 45 rfl _ _ rfl rfl hr ?_)
          all_goals (go_wp2_with fail; go_meet; exact ⟨rfl, Lib.hid rfl⟩)
        case rest =>
        obtain ⟨rfl, WX⟩ := hcut
        rw [← WX.out] at M5 U5
        clear hr z0 lz fz d0 d1 d2 d3 d4 dl y0 hwb WX
        obtain ⟨p6, c6, p7, c7, w7, e6, hr7, hB7, m7, u7, f7⟩ := M5.out.tell 1 key (by have := DL.out; show S1.events.length ≤ _; omega)
        have e1 : ({ cells := dc ++ [⟨key, ⟨kd, tx, fl⟩, kc⟩], budget := S1.budget, events := S1.events } : PS).events = S1.events := rfl
        have x2 := M5.out.blk.cellAt (i := 2) rfl
        have hwb := M5.out.blk.lt
        have k2 := hB7.cellAt (i := 2) rfl
        have l7 := hB7.lt
        have f7b := hB7.free 2
        obtain ⟨S0, hS0⟩ : ∃ S0, (⟨dc ++ [⟨key, ⟨kd, tx, fl⟩, kc⟩], S1.budget, S1.events ++ [(1, key)]⟩ : PS) = S0 := ⟨_, rfl⟩
        have LN : Hid (S0.cells.length + S0.events.length ≤ 900000 ∧ S0.cells.length ≤ 10000) := by rw [← hS0]; have := DL.out; constructor <;> (simp; omega)
        have EV : Hid (EvR w base wb X S0 (w7.setCell ⟨wb, 2, none⟩ (.slice p7 (S1.events.length + 1) c7))) := by
          refine ⟨_, _, _, S0, hS0 ▸ m7, hS0 ▸ OKL.out, fun b hb => ?_, U5.out.trans u7 (fun j hj g => ?_), rfl, by rw [← hS0]; simp, Nat.le_refl _, Nat.le_refl _, rfl⟩
          · rcases f7 b hb with g | g
            · exact F5.out b g
            · right; have := U5.out.size; omega
          · rcases F5.out j g with g | g
            · exact g
            · omega
        have PE3 : Hid (evictP S0 = S2) := by rw [← hS0]; exact PE2.out
        subst e6
        rw [e1] at hr7 x2 k2
        generalize S1.events.length = ne at *
        clear m7 f7 u7 hB7 e1 hS0 M5 F5 U5 PE2 OKL DL
        go_wp2_with (at_builtin; refine wpList_builtinN rfl _ _ 42 rfl _ _ rfl rfl hr7 ?_)
        clear x2 hwb k2 l7 f7b hr7
        go_loopw [72] (fun v72 wr => (∃ x, v72 = x) ∧ Hid (EvR w base wb X S0 wr)) (fun _ wr => lenAt wr wb)
        case atStart => exact ⟨⟨_, rfl⟩, EV⟩
        case round =>
          clear EV
          obtain ⟨_, I⟩ := hrel
          obtain ⟨vs8, ve8, C8, S8, m8, ok8, f8, u8, ev8, ne8, ln8, le8, bu8⟩ := I.out
          obtain ⟨p8, c8, es, hm8, _⟩ := m8.cells.slice
          subst es
          unfold maxLen at hm8
          have BY := Lib.hid (fun W (u : Upd (fun _ => False) wr W) => qbytes_any (m8.keep0 u) ok8 (by have := LN.out; omega))
          have y0 := m8.blk.cellAt (i := 0) rfl
          have y1 := m8.blk.cellAt (i := 1) rfl
          have hwb := m8.blk.lt
          have LL : Hid (C8.length = S8.cells.length) := m8.len
          have M8 := Lib.hid (And.intro m8 (And.intro ok8 (And.intro f8 u8)))
          have E8 := Lib.hid (And.intro ev8 (And.intro ne8 (And.intro ln8 (And.intro le8 bu8))))
          have KP : Hid (∀ W, Upd (fun _ => False) wr W → W.cell? ⟨wb, 0, none⟩ = some (.slice p8 C8.length c8) ∧ W.cell? ⟨wb, 1, none⟩ = some (.int .i64 S8.budget) ∧ wb < W.heap.size) := Lib.hid fun W u => ⟨(u.blk m8.blk (fun h => h)).cellAt (i := 0) rfl, (u.blk m8.blk (fun h => h)).cellAt (i := 1) rfl, (u.blk m8.blk (fun h => h)).lt⟩
          have UU : Hid (Upd (fun _ => False) wr wr.drew) := Lib.hid (Upd.refl _ _).drew
          obtain ⟨by8, hby⟩ : ∃ b, bytesC S8.cells = b := ⟨_, rfl⟩
          rw [hby] at BY
          have HBY := Lib.hid hby
          clear hby m8 ok8 f8 u8 ev8 ne8 ln8 le8 bu8 I
          generalize hb8 : S8.budget = b8 at *
          have HB8 := Lib.hid hb8
          clear hb8
          by_cases hgt : by8 > b8
          · have t8 : decide (by8 > b8) = true := decide_eq_true hgt
            have HG := Lib.hid hgt
            clear hgt
            by_cases h1n : C8.length > 1
            · have t9 : decide ((C8.length : Int) > 1) = true := decide_eq_true (by omega)
              have hc0 : 0 < C8.length := by omega
              go_upto_region 13 with (fail)
              refine wp_region_held_drew (S := fun w' => Hid (Upd (fun _ => False) wr w')) (by kernel_rfl) ?_ (fun hHeld => ?_)
              · exact UU
              try simp only [Array.replicate, Act.put, List.setIfInBounds_toArray]
              refine' wpAnyH_take (i := 0) (oi := _) (v := _) ?hiRA1 (by kernel_rfl) (by kernel_rfl) (by kernel_rfl) ?hQRA1 ?hyRA1 (by assumption) ?restRA1
              case' hiRA1 => (first | (simp only [List.getElem?_toArray, List.getElem?_cons_succ, List.getElem?_cons_zero]; done) | (simp only [List.getElem?_toArray, List.getElem?_cons_succ, List.getElem?_cons_zero]; rfl))
              case' hQRA1 => exact fun _ _ _ h => h
              case' hyRA1 => refine Or.inl ⟨by rfl, ?_⟩
              (intro w hSw; (try dsimp only at hSw); go_simp; try with_reducible rfl)
              try simp only [Act.put, List.setIfInBounds_toArray, List.set_cons_zero, List.set_cons_succ]
              refine' wpAnyH_take (i := 2) (oi := _) (v := _) ?hiRA2 (by kernel_rfl) (by kernel_rfl) (by kernel_rfl) ?hQRA2 ?hyRA2 (by assumption) ?restRA2
              case' hiRA2 => (first | (simp only [List.getElem?_toArray, List.getElem?_cons_succ, List.getElem?_cons_zero]; done) | (simp only [List.getElem?_toArray, List.getElem?_cons_succ, List.getElem?_cons_zero]; rfl))
              case' hQRA2 => exact fun _ _ _ h => h
              case' hyRA2 => refine Or.inl ⟨by rfl, ?_⟩
              (intro w hSw; (try dsimp only at hSw); go_simp; try with_reducible rfl)
              try simp only [Act.put, List.setIfInBounds_toArray, List.set_cons_zero, List.set_cons_succ]
              refine' wpAnyH_take (i := 3) (oi := _) (v := _) ?hiRA3 (by kernel_rfl) (by kernel_rfl) (by kernel_rfl) ?hQRA3 ?hyRA3 (by assumption) ?restRA3
              case' hiRA3 => (first | (simp only [List.getElem?_toArray, List.getElem?_cons_succ, List.getElem?_cons_zero]; done) | (simp only [List.getElem?_toArray, List.getElem?_cons_succ, List.getElem?_cons_zero]; rfl))
              case' hQRA3 => exact fun _ _ _ h => h
              case' hyRA3 => refine Or.inl ⟨by rfl, ?_⟩
              (intro w hSw; (try dsimp only at hSw); go_simp; try with_reducible rfl)
              try simp only [Act.put, List.setIfInBounds_toArray, List.set_cons_zero, List.set_cons_succ]
              refine' wpAnyH_take (i := 4) (oi := _) (v := _) ?hiRA4 (by kernel_rfl) (by kernel_rfl) (by kernel_rfl) ?hQRA4 ?hyRA4 (by assumption) ?restRA4
              case' hiRA4 => (first | (simp only [List.getElem?_toArray, List.getElem?_cons_succ, List.getElem?_cons_zero]; done) | (simp only [List.getElem?_toArray, List.getElem?_cons_succ, List.getElem?_cons_zero]; rfl))
              case' hQRA4 => exact fun _ _ _ h => h
              case' hyRA4 => refine Or.inl ⟨by rfl, ?_⟩
              (intro w hSw; (try dsimp only at hSw); go_simp; try with_reducible rfl)
              try simp only [Act.put, List.setIfInBounds_toArray, List.set_cons_zero, List.set_cons_succ]
              refine' wpAnyH_take (i := 5) (oi := _) (v := _) ?hiRA5 (by kernel_rfl) (by kernel_rfl) (by kernel_rfl) ?hQRA5 ?hyRA5 (by assumption) ?restRA5
              case' hiRA5 => (first | (simp only [List.getElem?_toArray, List.getElem?_cons_succ, List.getElem?_cons_zero]; done) | (simp only [List.getElem?_toArray, List.getElem?_cons_succ, List.getElem?_cons_zero]; rfl))
              case' hQRA5 => exact fun _ _ _ h => h
              case' hyRA5 => refine Or.inl ⟨by rfl, ?_⟩
              (intro w hSw; (obtain ⟨x0, x1, lx⟩ := KP.out _ hSw.out); go_simp; try with_reducible rfl)
              try simp only [Act.put, List.setIfInBounds_toArray, List.set_cons_zero, List.set_cons_succ]
              refine wpAnyH_ready (rs := [1]) (by kernel_rfl) (by simp) ?_
              refine' AllReadyH.cons (o := _) ?hiRA6 (fun K hK => ?hKRA6) AllReadyH.nil
              case' hiRA6 => (first | (simp only [List.getElem?_toArray, List.getElem?_cons_succ, List.getElem?_cons_zero]; done) | (simp only [List.getElem?_toArray, List.getElem?_cons_succ, List.getElem?_cons_zero]; rfl))
              go_simp
              (go_at_call 12; refine (BY.out _ UU.out).mono ?_; rintro e w9 ⟨rfl, u9⟩; (have UU := Lib.hid (UU.out.trans u9 (fun _ _ h => h))))
              refine hK.out _ _ ?_ (fun hHeld => ?_)
              · exact UU
              clear hK K
              try simp only [Act.put, List.setIfInBounds_toArray, List.set_cons_zero, List.set_cons_succ]
              refine' wpAnyH_take (i := 6) (oi := _) (v := _) ?hiRA7 (by kernel_rfl) (by kernel_rfl) (by kernel_rfl) ?hQRA7 ?hyRA7 (by assumption) ?restRA7
              case' hiRA7 => (first | (simp only [List.getElem?_toArray, List.getElem?_cons_succ, List.getElem?_cons_zero]; done) | (simp only [List.getElem?_toArray, List.getElem?_cons_succ, List.getElem?_cons_zero]; rfl))
              case' hQRA7 => exact fun _ _ _ h => h
              case' hyRA7 => refine Or.inl ⟨by rfl, ?_⟩
              (intro w hSw; (try dsimp only at hSw); go_simp; try with_reducible rfl)
              try simp only [Act.put, List.setIfInBounds_toArray, List.set_cons_zero, List.set_cons_succ]
              refine' wpAnyH_take (i := 7) (oi := _) (v := _) ?hiRA8 (by kernel_rfl) (by kernel_rfl) (by kernel_rfl) ?hQRA8 ?hyRA8 (by assumption) ?restRA8
              case' hiRA8 => (first | (simp only [List.getElem?_toArray, List.getElem?_cons_succ, List.getElem?_cons_zero]; done) | (simp only [List.getElem?_toArray, List.getElem?_cons_succ, List.getElem?_cons_zero]; rfl))
              case' hQRA8 => exact fun _ _ _ h => h
              case' hyRA8 => refine Or.inl ⟨by rfl, ?_⟩
              (intro w hSw; (try dsimp only at hSw); go_simp; try with_reducible rfl)
              try simp only [Act.put, List.setIfInBounds_toArray, List.set_cons_zero, List.set_cons_succ]
              refine' wpAnyH_take (i := 8) (oi := _) (v := _) ?hiRA9 (by kernel_rfl) (by kernel_rfl) (by kernel_rfl) ?hQRA9 ?hyRA9 (by assumption) ?restRA9
              case' hiRA9 => (first | (simp only [List.getElem?_toArray, List.getElem?_cons_succ, List.getElem?_cons_zero]; done) | (simp only [List.getElem?_toArray, List.getElem?_cons_succ, List.getElem?_cons_zero]; rfl))
              case' hQRA9 => exact fun _ _ _ h => h
              case' hyRA9 => refine Or.inl ⟨by rfl, ?_⟩
              (intro w hSw; (try dsimp only at hSw); go_simp; try with_reducible rfl)
              try simp only [Act.put, List.setIfInBounds_toArray, List.set_cons_zero, List.set_cons_succ]
              refine' wpAnyH_take (i := 9) (oi := _) (v := _) ?hiRA10 (by kernel_rfl) (by kernel_rfl) (by kernel_rfl) ?hQRA10 ?hyRA10 (by assumption) ?restRA10
              case' hiRA10 => (first | (simp only [List.getElem?_toArray, List.getElem?_cons_succ, List.getElem?_cons_zero]; done) | (simp only [List.getElem?_toArray, List.getElem?_cons_succ, List.getElem?_cons_zero]; rfl))
              case' hQRA10 => exact fun _ _ _ h => h
              case' hyRA10 => refine Or.inl ⟨by rfl, ?_⟩
              (intro w hSw; (try dsimp only at hSw); go_simp; try with_reducible rfl)
              try simp only [Act.put, List.setIfInBounds_toArray, List.set_cons_zero, List.set_cons_succ]
              refine' wpAnyH_take (i := 10) (oi := _) (v := _) ?hiRA11 (by kernel_rfl) (by kernel_rfl) (by kernel_rfl) ?hQRA11 ?hyRA11 (by assumption) ?restRA11
              case' hiRA11 => (first | (simp only [List.getElem?_toArray, List.getElem?_cons_succ, List.getElem?_cons_zero]; done) | (simp only [List.getElem?_toArray, List.getElem?_cons_succ, List.getElem?_cons_zero]; rfl))
              case' hQRA11 => exact fun _ _ _ h => h
              case' hyRA11 => refine Or.inl ⟨by rfl, ?_⟩
              (intro w hSw; (try dsimp only at hSw); go_simp; try with_reducible rfl)
              try simp only [Act.put, List.setIfInBounds_toArray, List.set_cons_zero, List.set_cons_succ]
              refine' wpAnyH_take (i := 11) (oi := _) (v := _) ?hiRA12 (by kernel_rfl) (by kernel_rfl) (by kernel_rfl) ?hQRA12 ?hyRA12 (by assumption) ?restRA12
              case' hiRA12 => (first | (simp only [List.getElem?_toArray, List.getElem?_cons_succ, List.getElem?_cons_zero]; done) | (simp only [List.getElem?_toArray, List.getElem?_cons_succ, List.getElem?_cons_zero]; rfl))
              case' hQRA12 => exact fun _ _ _ h => h
              case' hyRA12 => refine Or.inl ⟨by rfl, ?_⟩
              (intro w hSw; (obtain ⟨x0, x1, lx⟩ := KP.out _ hSw.out); go_simp; try with_reducible rfl)
              try simp only [Act.put, List.setIfInBounds_toArray, List.set_cons_zero, List.set_cons_succ]
              refine' wpAnyH_take (i := 12) (oi := _) (v := _) ?hiRA13 (by kernel_rfl) (by kernel_rfl) (by kernel_rfl) ?hQRA13 ?hyRA13 (by assumption) ?restRA13
              case' hiRA13 => (first | (simp only [List.getElem?_toArray, List.getElem?_cons_succ, List.getElem?_cons_zero]; done) | (simp only [List.getElem?_toArray, List.getElem?_cons_succ, List.getElem?_cons_zero]; rfl))
              case' hQRA13 => exact fun _ _ _ h => h
              case' hyRA13 => refine Or.inl ⟨by rfl, ?_⟩
              (intro w hSw; (try dsimp only at hSw); go_simp; try with_reducible rfl)
              try simp only [Act.put, List.setIfInBounds_toArray, List.set_cons_zero, List.set_cons_succ]
              refine' wpAnyH_take (i := 13) (oi := _) (v := _) ?hiRA14 (by kernel_rfl) (by kernel_rfl) (by kernel_rfl) ?hQRA14 ?hyRA14 (by assumption) ?restRA14
              case' hiRA14 => (first | (simp only [List.getElem?_toArray, List.getElem?_cons_succ, List.getElem?_cons_zero]; done) | (simp only [List.getElem?_toArray, List.getElem?_cons_succ, List.getElem?_cons_zero]; rfl))
              case' hQRA14 => exact fun _ _ _ h => h
              case' hyRA14 => refine Or.inl ⟨by rfl, ?_⟩
              (intro w hSw; (try dsimp only at hSw); go_simp; try with_reducible rfl)
              try simp only [Act.put, List.setIfInBounds_toArray, List.set_cons_zero, List.set_cons_succ]
              refine' wpAnyH_take (i := 14) (oi := _) (v := _) ?hiRA15 (by kernel_rfl) (by kernel_rfl) (by kernel_rfl) ?hQRA15 ?hyRA15 (by assumption) ?restRA15
              case' hiRA15 => (first | (simp only [List.getElem?_toArray, List.getElem?_cons_succ, List.getElem?_cons_zero]; done) | (simp only [List.getElem?_toArray, List.getElem?_cons_succ, List.getElem?_cons_zero]; rfl))
              case' hQRA15 => exact fun _ _ _ h => h
              case' hyRA15 => refine Or.inl ⟨by rfl, ?_⟩
              (intro w hSw; (try dsimp only at hSw); go_simp; try with_reducible rfl)
              try simp only [Act.put, List.setIfInBounds_toArray, List.set_cons_zero, List.set_cons_succ]
              refine wpAnyH_done (by kernel_rfl) ?_ _
              skip
              have m9 := M8.out.1.keep0 UU.out
              have hwb9 := m9.blk.lt
              have x0 := m9.blk.cellAt (i := 0) (v := .slice p8 C8.length c8) rfl
              obtain ⟨b, t2, ep, hb, hbl, hk2, hcs, hfz⟩ := cel_cells m9.cells hc0
              subst ep
              have k0 := hcs 0 (by omega)
              simp only [rcs, List.getElem?_cons_zero, List.getElem?_cons_succ] at k0
              obtain ⟨y, r, ecs⟩ : ∃ y r, S8.cells = t2.c :: y :: r := by
                have e1 := m9.eq
                have e2 := LL.out
                match C8, hk2, h1n with
                | d :: y :: r, hk2, _ =>
                  simp only [List.getElem?_cons_zero] at hk2
                  injection hk2 with e; subst e
                  exact ⟨y.c, r.map (·.c), by rw [← e1]; rfl⟩
              have EG : Hid (goneP S8 t2.c.key 4 = { S8 with cells := y :: r, events := S8.events ++ [(4, t2.c.key)] }) := Lib.hid (gone_headP ecs M8.out.2.1.nd 4)
              have EE : Hid (evictP S8 = evictP { S8 with cells := y :: r, events := S8.events ++ [(4, t2.c.key)] }) := Lib.hid (evict_stepP ecs (by rw [HBY.out, HB8.out]; exact HG.out))
              have EL : Hid (S8.cells.length = (y :: r).length + 1) := by show _ = _; rw [ecs]; rfl
              have GO := Lib.hid (rgone_any (m9.rst M8.out.2.1) t2.c.key 4 (by have := E8.out.2.2.1; have := LN.out; omega) (by have := E8.out.2.2.2.1; have := LN.out; omega))
              rw [EG.out] at GO
              have UV := Lib.hid UU.out
              obtain ⟨ky, hky⟩ : ∃ ky, ky = t2.c.key := ⟨_, rfl⟩
              rw [← hky] at k0 GO EG EE
              clear ecs hk2 hcs m9 BY hky UU hHeld
              go_wp2_with (fail)
              go_at_call 60
              refine GO.out.mono ?_
              rintro e w10 ⟨rfl, g10⟩
              have NX2 := EvR.next M8.out.2.2.1 M8.out.2.2.2 UV.out g10 (by rw [E8.out.1]; exact EE.out) (by simp) (by have := E8.out.2.2.1; have := EL.out; simp only; omega) (by have := E8.out.2.2.2.1; have := EL.out; simp only [List.length_append, List.length_singleton]; omega) (by show S8.budget = _; rw [HB8.out]; exact E8.out.2.2.2.2)
              have ER := Lib.hid NX2.1
              have LE : Hid (lenAt w10 wb < lenAt wr wb) := by show _ < _; rw [NX2.2, M8.out.1.lenAt, EL.out]; simp
              clear NX2 g10 GO
              go_wp2
              go_roundw
              case rel => exact ⟨⟨_, rfl⟩, ER⟩
              case measure => exact LE.out
            · have t9 : decide ((C8.length : Int) > 1) = false := decide_eq_false (by omega)
              go_upto_region 13 with (fail)
              refine wp_region_held_drew (S := fun w' => Hid (Upd (fun _ => False) wr w')) (by kernel_rfl) ?_ (fun hHeld => ?_)
              · exact UU
              try simp only [Array.replicate, Act.put, List.setIfInBounds_toArray]
              refine' wpAnyH_take (i := 0) (oi := _) (v := _) ?hiRC1 (by kernel_rfl) (by kernel_rfl) (by kernel_rfl) ?hQRC1 ?hyRC1 (by assumption) ?restRC1
              case' hiRC1 => (first | (simp only [List.getElem?_toArray, List.getElem?_cons_succ, List.getElem?_cons_zero]; done) | (simp only [List.getElem?_toArray, List.getElem?_cons_succ, List.getElem?_cons_zero]; rfl))
              case' hQRC1 => exact fun _ _ _ h => h
              case' hyRC1 => refine Or.inl ⟨by rfl, ?_⟩
              (intro w hSw; (try dsimp only at hSw); go_simp; try with_reducible rfl)
              try simp only [Act.put, List.setIfInBounds_toArray, List.set_cons_zero, List.set_cons_succ]
              refine' wpAnyH_take (i := 2) (oi := _) (v := _) ?hiRC2 (by kernel_rfl) (by kernel_rfl) (by kernel_rfl) ?hQRC2 ?hyRC2 (by assumption) ?restRC2
              case' hiRC2 => (first | (simp only [List.getElem?_toArray, List.getElem?_cons_succ, List.getElem?_cons_zero]; done) | (simp only [List.getElem?_toArray, List.getElem?_cons_succ, List.getElem?_cons_zero]; rfl))
              case' hQRC2 => exact fun _ _ _ h => h
              case' hyRC2 => refine Or.inl ⟨by rfl, ?_⟩
              (intro w hSw; (try dsimp only at hSw); go_simp; try with_reducible rfl)
              try simp only [Act.put, List.setIfInBounds_toArray, List.set_cons_zero, List.set_cons_succ]
              refine' wpAnyH_take (i := 3) (oi := _) (v := _) ?hiRC3 (by kernel_rfl) (by kernel_rfl) (by kernel_rfl) ?hQRC3 ?hyRC3 (by assumption) ?restRC3
              case' hiRC3 => (first | (simp only [List.getElem?_toArray, List.getElem?_cons_succ, List.getElem?_cons_zero]; done) | (simp only [List.getElem?_toArray, List.getElem?_cons_succ, List.getElem?_cons_zero]; rfl))
              case' hQRC3 => exact fun _ _ _ h => h
              case' hyRC3 => refine Or.inl ⟨by rfl, ?_⟩
              (intro w hSw; (try dsimp only at hSw); go_simp; try with_reducible rfl)
              try simp only [Act.put, List.setIfInBounds_toArray, List.set_cons_zero, List.set_cons_succ]
              refine' wpAnyH_take (i := 4) (oi := _) (v := _) ?hiRC4 (by kernel_rfl) (by kernel_rfl) (by kernel_rfl) ?hQRC4 ?hyRC4 (by assumption) ?restRC4
              case' hiRC4 => (first | (simp only [List.getElem?_toArray, List.getElem?_cons_succ, List.getElem?_cons_zero]; done) | (simp only [List.getElem?_toArray, List.getElem?_cons_succ, List.getElem?_cons_zero]; rfl))
              case' hQRC4 => exact fun _ _ _ h => h
              case' hyRC4 => refine Or.inl ⟨by rfl, ?_⟩
              (intro w hSw; (try dsimp only at hSw); go_simp; try with_reducible rfl)
              try simp only [Act.put, List.setIfInBounds_toArray, List.set_cons_zero, List.set_cons_succ]
              refine' wpAnyH_take (i := 5) (oi := _) (v := _) ?hiRC5 (by kernel_rfl) (by kernel_rfl) (by kernel_rfl) ?hQRC5 ?hyRC5 (by assumption) ?restRC5
              case' hiRC5 => (first | (simp only [List.getElem?_toArray, List.getElem?_cons_succ, List.getElem?_cons_zero]; done) | (simp only [List.getElem?_toArray, List.getElem?_cons_succ, List.getElem?_cons_zero]; rfl))
              case' hQRC5 => exact fun _ _ _ h => h
              case' hyRC5 => refine Or.inl ⟨by rfl, ?_⟩
              (intro w hSw; (obtain ⟨x0, x1, lx⟩ := KP.out _ hSw.out); go_simp; try with_reducible rfl)
              try simp only [Act.put, List.setIfInBounds_toArray, List.set_cons_zero, List.set_cons_succ]
              refine wpAnyH_ready (rs := [1]) (by kernel_rfl) (by simp) ?_
              refine' AllReadyH.cons (o := _) ?hiRC6 (fun K hK => ?hKRC6) AllReadyH.nil
              case' hiRC6 => (first | (simp only [List.getElem?_toArray, List.getElem?_cons_succ, List.getElem?_cons_zero]; done) | (simp only [List.getElem?_toArray, List.getElem?_cons_succ, List.getElem?_cons_zero]; rfl))
              go_simp
              (go_at_call 12; refine (BY.out _ UU.out).mono ?_; rintro e w9 ⟨rfl, u9⟩; (have UU := Lib.hid (UU.out.trans u9 (fun _ _ h => h))))
              refine hK.out _ _ ?_ (fun hHeld => ?_)
              · exact UU
              clear hK K
              try simp only [Act.put, List.setIfInBounds_toArray, List.set_cons_zero, List.set_cons_succ]
              refine' wpAnyH_take (i := 6) (oi := _) (v := _) ?hiRC7 (by kernel_rfl) (by kernel_rfl) (by kernel_rfl) ?hQRC7 ?hyRC7 (by assumption) ?restRC7
              case' hiRC7 => (first | (simp only [List.getElem?_toArray, List.getElem?_cons_succ, List.getElem?_cons_zero]; done) | (simp only [List.getElem?_toArray, List.getElem?_cons_succ, List.getElem?_cons_zero]; rfl))
              case' hQRC7 => exact fun _ _ _ h => h
              case' hyRC7 => refine Or.inl ⟨by rfl, ?_⟩
              (intro w hSw; (try dsimp only at hSw); go_simp; try with_reducible rfl)
              try simp only [Act.put, List.setIfInBounds_toArray, List.set_cons_zero, List.set_cons_succ]
              refine' wpAnyH_take (i := 7) (oi := _) (v := _) ?hiRC8 (by kernel_rfl) (by kernel_rfl) (by kernel_rfl) ?hQRC8 ?hyRC8 (by assumption) ?restRC8
              case' hiRC8 => (first | (simp only [List.getElem?_toArray, List.getElem?_cons_succ, List.getElem?_cons_zero]; done) | (simp only [List.getElem?_toArray, List.getElem?_cons_succ, List.getElem?_cons_zero]; rfl))
              case' hQRC8 => exact fun _ _ _ h => h
              case' hyRC8 => refine Or.inl ⟨by rfl, ?_⟩
              (intro w hSw; (try dsimp only at hSw); go_simp; try with_reducible rfl)
              try simp only [Act.put, List.setIfInBounds_toArray, List.set_cons_zero, List.set_cons_succ]
              refine' wpAnyH_take (i := 8) (oi := _) (v := _) ?hiRC9 (by kernel_rfl) (by kernel_rfl) (by kernel_rfl) ?hQRC9 ?hyRC9 (by assumption) ?restRC9
              case' hiRC9 => (first | (simp only [List.getElem?_toArray, List.getElem?_cons_succ, List.getElem?_cons_zero]; done) | (simp only [List.getElem?_toArray, List.getElem?_cons_succ, List.getElem?_cons_zero]; rfl))
              case' hQRC9 => exact fun _ _ _ h => h
              case' hyRC9 => refine Or.inl ⟨by rfl, ?_⟩
              (intro w hSw; (try dsimp only at hSw); go_simp; try with_reducible rfl)
              try simp only [Act.put, List.setIfInBounds_toArray, List.set_cons_zero, List.set_cons_succ]
              refine' wpAnyH_take (i := 9) (oi := _) (v := _) ?hiRC10 (by kernel_rfl) (by kernel_rfl) (by kernel_rfl) ?hQRC10 ?hyRC10 (by assumption) ?restRC10
              case' hiRC10 => (first | (simp only [List.getElem?_toArray, List.getElem?_cons_succ, List.getElem?_cons_zero]; done) | (simp only [List.getElem?_toArray, List.getElem?_cons_succ, List.getElem?_cons_zero]; rfl))
              case' hQRC10 => exact fun _ _ _ h => h
              case' hyRC10 => refine Or.inl ⟨by rfl, ?_⟩
              (intro w hSw; (try dsimp only at hSw); go_simp; try with_reducible rfl)
              try simp only [Act.put, List.setIfInBounds_toArray, List.set_cons_zero, List.set_cons_succ]
              refine' wpAnyH_take (i := 10) (oi := _) (v := _) ?hiRC11 (by kernel_rfl) (by kernel_rfl) (by kernel_rfl) ?hQRC11 ?hyRC11 (by assumption) ?restRC11
              case' hiRC11 => (first | (simp only [List.getElem?_toArray, List.getElem?_cons_succ, List.getElem?_cons_zero]; done) | (simp only [List.getElem?_toArray, List.getElem?_cons_succ, List.getElem?_cons_zero]; rfl))
              case' hQRC11 => exact fun _ _ _ h => h
              case' hyRC11 => refine Or.inl ⟨by rfl, ?_⟩
              (intro w hSw; (try dsimp only at hSw); go_simp; try with_reducible rfl)
              try simp only [Act.put, List.setIfInBounds_toArray, List.set_cons_zero, List.set_cons_succ]
              refine' wpAnyH_take (i := 11) (oi := _) (v := _) ?hiRC12 (by kernel_rfl) (by kernel_rfl) (by kernel_rfl) ?hQRC12 ?hyRC12 (by assumption) ?restRC12
              case' hiRC12 => (first | (simp only [List.getElem?_toArray, List.getElem?_cons_succ, List.getElem?_cons_zero]; done) | (simp only [List.getElem?_toArray, List.getElem?_cons_succ, List.getElem?_cons_zero]; rfl))
              case' hQRC12 => exact fun _ _ _ h => h
              case' hyRC12 => refine Or.inl ⟨by rfl, ?_⟩
              (intro w hSw; (obtain ⟨x0, x1, lx⟩ := KP.out _ hSw.out); go_simp; try with_reducible rfl)
              try simp only [Act.put, List.setIfInBounds_toArray, List.set_cons_zero, List.set_cons_succ]
              refine' wpAnyH_take (i := 12) (oi := _) (v := _) ?hiRC13 (by kernel_rfl) (by kernel_rfl) (by kernel_rfl) ?hQRC13 ?hyRC13 (by assumption) ?restRC13
              case' hiRC13 => (first | (simp only [List.getElem?_toArray, List.getElem?_cons_succ, List.getElem?_cons_zero]; done) | (simp only [List.getElem?_toArray, List.getElem?_cons_succ, List.getElem?_cons_zero]; rfl))
              case' hQRC13 => exact fun _ _ _ h => h
              case' hyRC13 => refine Or.inl ⟨by rfl, ?_⟩
              (intro w hSw; (try dsimp only at hSw); go_simp; try with_reducible rfl)
              try simp only [Act.put, List.setIfInBounds_toArray, List.set_cons_zero, List.set_cons_succ]
              refine' wpAnyH_take (i := 13) (oi := _) (v := _) ?hiRC14 (by kernel_rfl) (by kernel_rfl) (by kernel_rfl) ?hQRC14 ?hyRC14 (by assumption) ?restRC14
              case' hiRC14 => (first | (simp only [List.getElem?_toArray, List.getElem?_cons_succ, List.getElem?_cons_zero]; done) | (simp only [List.getElem?_toArray, List.getElem?_cons_succ, List.getElem?_cons_zero]; rfl))
              case' hQRC14 => exact fun _ _ _ h => h
              case' hyRC14 => refine Or.inl ⟨by rfl, ?_⟩
              (intro w hSw; (try dsimp only at hSw); go_simp; try with_reducible rfl)
              try simp only [Act.put, List.setIfInBounds_toArray, List.set_cons_zero, List.set_cons_succ]
              refine' wpAnyH_take (i := 14) (oi := _) (v := _) ?hiRC15 (by kernel_rfl) (by kernel_rfl) (by kernel_rfl) ?hQRC15 ?hyRC15 (by assumption) ?restRC15
              case' hiRC15 => (first | (simp only [List.getElem?_toArray, List.getElem?_cons_succ, List.getElem?_cons_zero]; done) | (simp only [List.getElem?_toArray, List.getElem?_cons_succ, List.getElem?_cons_zero]; rfl))
              case' hQRC15 => exact fun _ _ _ h => h
              case' hyRC15 => refine Or.inl ⟨by rfl, ?_⟩
              (intro w hSw; (try dsimp only at hSw); go_simp; try with_reducible rfl)
              try simp only [Act.put, List.setIfInBounds_toArray, List.set_cons_zero, List.set_cons_succ]
              refine wpAnyH_done (by kernel_rfl) ?_ _
              skip
              have FIN : Hid (RGo w base wb X w9 S2) := by
                have e1 : S8 = S2 := by rw [← PE3.out, E8.out.1]; exact (evict_short (by rw [← LL.out]; omega)).symm
                rw [← e1]
                exact (M8.out.1.keep0 UU.out).st M8.out.2.1 M8.out.2.2.1 (M8.out.2.2.2.trans UU.out (fun _ _ h => h.elim))
              go_wp2
              go_ret
              rw [hE.out]
              exact ⟨rfl, FIN.out⟩
          · have t8 : decide (by8 > b8) = false := decide_eq_false hgt
            have HG := Lib.hid hgt
            clear hgt
            go_upto_region 13 with (fail)
            refine wp_region_held_drew (S := fun w' => Hid (Upd (fun _ => False) wr w')) (by kernel_rfl) ?_ (fun hHeld => ?_)
            · exact UU
            try simp only [Array.replicate, Act.put, List.setIfInBounds_toArray]
            refine' wpAnyH_take (i := 0) (oi := _) (v := _) ?hiRB1 (by kernel_rfl) (by kernel_rfl) (by kernel_rfl) ?hQRB1 ?hyRB1 (by assumption) ?restRB1
            case' hiRB1 => (first | (simp only [List.getElem?_toArray, List.getElem?_cons_succ, List.getElem?_cons_zero]; done) | (simp only [List.getElem?_toArray, List.getElem?_cons_succ, List.getElem?_cons_zero]; rfl))
            case' hQRB1 => exact fun _ _ _ h => h
            case' hyRB1 => refine Or.inl ⟨by rfl, ?_⟩
            (intro w hSw; (try dsimp only at hSw); go_simp; try with_reducible rfl)
            try simp only [Act.put, List.setIfInBounds_toArray, List.set_cons_zero, List.set_cons_succ]
            refine' wpAnyH_take (i := 2) (oi := _) (v := _) ?hiRB2 (by kernel_rfl) (by kernel_rfl) (by kernel_rfl) ?hQRB2 ?hyRB2 (by assumption) ?restRB2
            case' hiRB2 => (first | (simp only [List.getElem?_toArray, List.getElem?_cons_succ, List.getElem?_cons_zero]; done) | (simp only [List.getElem?_toArray, List.getElem?_cons_succ, List.getElem?_cons_zero]; rfl))
            case' hQRB2 => exact fun _ _ _ h => h
            case' hyRB2 => refine Or.inl ⟨by rfl, ?_⟩
            (intro w hSw; (try dsimp only at hSw); go_simp; try with_reducible rfl)
            try simp only [Act.put, List.setIfInBounds_toArray, List.set_cons_zero, List.set_cons_succ]
            refine' wpAnyH_take (i := 3) (oi := _) (v := _) ?hiRB3 (by kernel_rfl) (by kernel_rfl) (by kernel_rfl) ?hQRB3 ?hyRB3 (by assumption) ?restRB3
            case' hiRB3 => (first | (simp only [List.getElem?_toArray, List.getElem?_cons_succ, List.getElem?_cons_zero]; done) | (simp only [List.getElem?_toArray, List.getElem?_cons_succ, List.getElem?_cons_zero]; rfl))
            case' hQRB3 => exact fun _ _ _ h => h
            case' hyRB3 => refine Or.inl ⟨by rfl, ?_⟩
            (intro w hSw; (try dsimp only at hSw); go_simp; try with_reducible rfl)
            try simp only [Act.put, List.setIfInBounds_toArray, List.set_cons_zero, List.set_cons_succ]
            refine' wpAnyH_take (i := 4) (oi := _) (v := _) ?hiRB4 (by kernel_rfl) (by kernel_rfl) (by kernel_rfl) ?hQRB4 ?hyRB4 (by assumption) ?restRB4
            case' hiRB4 => (first | (simp only [List.getElem?_toArray, List.getElem?_cons_succ, List.getElem?_cons_zero]; done) | (simp only [List.getElem?_toArray, List.getElem?_cons_succ, List.getElem?_cons_zero]; rfl))
            case' hQRB4 => exact fun _ _ _ h => h
            case' hyRB4 => refine Or.inl ⟨by rfl, ?_⟩
            (intro w hSw; (try dsimp only at hSw); go_simp; try with_reducible rfl)
            try simp only [Act.put, List.setIfInBounds_toArray, List.set_cons_zero, List.set_cons_succ]
            refine' wpAnyH_take (i := 5) (oi := _) (v := _) ?hiRB5 (by kernel_rfl) (by kernel_rfl) (by kernel_rfl) ?hQRB5 ?hyRB5 (by assumption) ?restRB5
            case' hiRB5 => (first | (simp only [List.getElem?_toArray, List.getElem?_cons_succ, List.getElem?_cons_zero]; done) | (simp only [List.getElem?_toArray, List.getElem?_cons_succ, List.getElem?_cons_zero]; rfl))
            case' hQRB5 => exact fun _ _ _ h => h
            case' hyRB5 => refine Or.inl ⟨by rfl, ?_⟩
            (intro w hSw; (obtain ⟨x0, x1, lx⟩ := KP.out _ hSw.out); go_simp; try with_reducible rfl)
            try simp only [Act.put, List.setIfInBounds_toArray, List.set_cons_zero, List.set_cons_succ]
            refine wpAnyH_ready (rs := [1]) (by kernel_rfl) (by simp) ?_
            refine' AllReadyH.cons (o := _) ?hiRB6 (fun K hK => ?hKRB6) AllReadyH.nil
            case' hiRB6 => (first | (simp only [List.getElem?_toArray, List.getElem?_cons_succ, List.getElem?_cons_zero]; done) | (simp only [List.getElem?_toArray, List.getElem?_cons_succ, List.getElem?_cons_zero]; rfl))
            go_simp
            (go_at_call 12; refine (BY.out _ UU.out).mono ?_; rintro e w9 ⟨rfl, u9⟩; (have UU := Lib.hid (UU.out.trans u9 (fun _ _ h => h))))
            refine hK.out _ _ ?_ (fun hHeld => ?_)
            · exact UU
            clear hK K
            try simp only [Act.put, List.setIfInBounds_toArray, List.set_cons_zero, List.set_cons_succ]
            refine' wpAnyH_take (i := 6) (oi := _) (v := _) ?hiRB7 (by kernel_rfl) (by kernel_rfl) (by kernel_rfl) ?hQRB7 ?hyRB7 (by assumption) ?restRB7
            case' hiRB7 => (first | (simp only [List.getElem?_toArray, List.getElem?_cons_succ, List.getElem?_cons_zero]; done) | (simp only [List.getElem?_toArray, List.getElem?_cons_succ, List.getElem?_cons_zero]; rfl))
            case' hQRB7 => exact fun _ _ _ h => h
            case' hyRB7 => refine Or.inl ⟨by rfl, ?_⟩
            (intro w hSw; (try dsimp only at hSw); go_simp; try with_reducible rfl)
            try simp only [Act.put, List.setIfInBounds_toArray, List.set_cons_zero, List.set_cons_succ]
            refine' wpAnyH_take (i := 7) (oi := _) (v := _) ?hiRB8 (by kernel_rfl) (by kernel_rfl) (by kernel_rfl) ?hQRB8 ?hyRB8 (by assumption) ?restRB8
            case' hiRB8 => (first | (simp only [List.getElem?_toArray, List.getElem?_cons_succ, List.getElem?_cons_zero]; done) | (simp only [List.getElem?_toArray, List.getElem?_cons_succ, List.getElem?_cons_zero]; rfl))
            case' hQRB8 => exact fun _ _ _ h => h
            case' hyRB8 => refine Or.inl ⟨by rfl, ?_⟩
            (intro w hSw; (try dsimp only at hSw); go_simp; try with_reducible rfl)
            try simp only [Act.put, List.setIfInBounds_toArray, List.set_cons_zero, List.set_cons_succ]
            refine' wpAnyH_take (i := 8) (oi := _) (v := undef) ?hiRB9 (by kernel_rfl) (by kernel_rfl) (by kernel_rfl) ?hQRB9 ?hyRB9 (by assumption) ?restRB9
            case' hiRB9 => (first | (simp only [List.getElem?_toArray, List.getElem?_cons_succ, List.getElem?_cons_zero]; done) | (simp only [List.getElem?_toArray, List.getElem?_cons_succ, List.getElem?_cons_zero]; rfl))
            case' hQRB9 => exact fun _ _ _ h => h
            case' hyRB9 => exact Or.inr ⟨by rfl, rfl⟩
            try simp only [Act.put, List.setIfInBounds_toArray, List.set_cons_zero, List.set_cons_succ]
            refine' wpAnyH_take (i := 9) (oi := _) (v := undef) ?hiRB10 (by kernel_rfl) (by kernel_rfl) (by kernel_rfl) ?hQRB10 ?hyRB10 (by assumption) ?restRB10
            case' hiRB10 => (first | (simp only [List.getElem?_toArray, List.getElem?_cons_succ, List.getElem?_cons_zero]; done) | (simp only [List.getElem?_toArray, List.getElem?_cons_succ, List.getElem?_cons_zero]; rfl))
            case' hQRB10 => exact fun _ _ _ h => h
            case' hyRB10 => exact Or.inr ⟨by rfl, rfl⟩
            try simp only [Act.put, List.setIfInBounds_toArray, List.set_cons_zero, List.set_cons_succ]
            refine' wpAnyH_take (i := 10) (oi := _) (v := undef) ?hiRB11 (by kernel_rfl) (by kernel_rfl) (by kernel_rfl) ?hQRB11 ?hyRB11 (by assumption) ?restRB11
            case' hiRB11 => (first | (simp only [List.getElem?_toArray, List.getElem?_cons_succ, List.getElem?_cons_zero]; done) | (simp only [List.getElem?_toArray, List.getElem?_cons_succ, List.getElem?_cons_zero]; rfl))
            case' hQRB11 => exact fun _ _ _ h => h
            case' hyRB11 => exact Or.inr ⟨by rfl, rfl⟩
            try simp only [Act.put, List.setIfInBounds_toArray, List.set_cons_zero, List.set_cons_succ]
            refine' wpAnyH_take (i := 11) (oi := _) (v := undef) ?hiRB12 (by kernel_rfl) (by kernel_rfl) (by kernel_rfl) ?hQRB12 ?hyRB12 (by assumption) ?restRB12
            case' hiRB12 => (first | (simp only [List.getElem?_toArray, List.getElem?_cons_succ, List.getElem?_cons_zero]; done) | (simp only [List.getElem?_toArray, List.getElem?_cons_succ, List.getElem?_cons_zero]; rfl))
            case' hQRB12 => exact fun _ _ _ h => h
            case' hyRB12 => exact Or.inr ⟨by rfl, rfl⟩
            try simp only [Act.put, List.setIfInBounds_toArray, List.set_cons_zero, List.set_cons_succ]
            refine' wpAnyH_take (i := 12) (oi := _) (v := undef) ?hiRB13 (by kernel_rfl) (by kernel_rfl) (by kernel_rfl) ?hQRB13 ?hyRB13 (by assumption) ?restRB13
            case' hiRB13 => (first | (simp only [List.getElem?_toArray, List.getElem?_cons_succ, List.getElem?_cons_zero]; done) | (simp only [List.getElem?_toArray, List.getElem?_cons_succ, List.getElem?_cons_zero]; rfl))
            case' hQRB13 => exact fun _ _ _ h => h
            case' hyRB13 => exact Or.inr ⟨by rfl, rfl⟩
            try simp only [Act.put, List.setIfInBounds_toArray, List.set_cons_zero, List.set_cons_succ]
            refine' wpAnyH_take (i := 13) (oi := _) (v := undef) ?hiRB14 (by kernel_rfl) (by kernel_rfl) (by kernel_rfl) ?hQRB14 ?hyRB14 (by assumption) ?restRB14
            case' hiRB14 => (first | (simp only [List.getElem?_toArray, List.getElem?_cons_succ, List.getElem?_cons_zero]; done) | (simp only [List.getElem?_toArray, List.getElem?_cons_succ, List.getElem?_cons_zero]; rfl))
            case' hQRB14 => exact fun _ _ _ h => h
            case' hyRB14 => exact Or.inr ⟨by rfl, rfl⟩
            try simp only [Act.put, List.setIfInBounds_toArray, List.set_cons_zero, List.set_cons_succ]
            refine' wpAnyH_take (i := 14) (oi := _) (v := _) ?hiRB15 (by kernel_rfl) (by kernel_rfl) (by kernel_rfl) ?hQRB15 ?hyRB15 (by assumption) ?restRB15
            case' hiRB15 => (first | (simp only [List.getElem?_toArray, List.getElem?_cons_succ, List.getElem?_cons_zero]; done) | (simp only [List.getElem?_toArray, List.getElem?_cons_succ, List.getElem?_cons_zero]; rfl))
            case' hQRB15 => exact fun _ _ _ h => h
            case' hyRB15 => refine Or.inl ⟨by rfl, ?_⟩
            (intro w hSw; (try dsimp only at hSw); go_simp; try with_reducible rfl)
            try simp only [Act.put, List.setIfInBounds_toArray, List.set_cons_zero, List.set_cons_succ]
            refine wpAnyH_done (by kernel_rfl) ?_ _
            skip
            have FIN : Hid (RGo w base wb X w9 S2) := by
              have e1 : S8 = S2 := by rw [← PE3.out, E8.out.1]; exact (evict_stop (by rw [HBY.out, HB8.out]; have := HG.out; omega)).symm
              rw [← e1]
              exact (M8.out.1.keep0 UU.out).st M8.out.2.1 M8.out.2.2.1 (M8.out.2.2.2.trans UU.out (fun _ _ h => h.elim))
            go_wp2
            go_ret
            rw [hE.out]
            exact ⟨rfl, FIN.out⟩
end Go.Proofs.YtgdenmddbgcacaaGreatDoor
