/- The document's store: walk of Sweep. -/
import Derived.Test.YtgdenmddbgcacaaGreatDoorK20
import Derived.BigQuiet
import Derived.Test.YtgdenmddbgcacaaGreatDoorK10
import Derived.Deep.Upon
import Derived.Test.YtgdenmddbgcacaaGreatDoorK05
import Derived.Deep.QuietTactic
import Derived.Test.YtgdenmddbgcacaaGreatDoorK13
set_option linter.unusedVariables false
set_option linter.unusedSimpArgs false
set_option linter.unusedSectionVars false
namespace Go.Proofs.YtgdenmddbgcacaaGreatDoor
open Go.RowKit

/-- Has a cell ended? -/
def EndC (now : Int) (c : Ce) : Prop := 0 ≤ c.when ∧ c.when ≤ now
def DC (c : Ce) : DueP := (c.when, c.key)
/-- The one that ended first among the first ones. -/
def BestAt (l : List Ce) (now : Int) (m : Nat) (r : Int) : Prop :=
  (r = -1 ∧ ∀ i c, i < m → l[i]? = some c → ¬ EndC now c) ∨ ∃ (b : Nat) (cb : Ce), r = (b : Int) ∧ b < m ∧ l[b]? = some cb ∧ EndC now cb ∧ ∀ i c, i < m → l[i]? = some c → EndC now c → ¬ ltD (DC c) (DC cb)
section
variable {l : List Ce} {now : Int} {m : Nat} {c : Ce}
theorem best_zero (l : List Ce) (now : Int) : BestAt l now 0 (-1) := Or.inl ⟨rfl, fun i c h => by omega⟩
theorem best_skip {r : Int} (h : BestAt l now m r) (hc : l[m]? = some c) (hd : ¬ EndC now c) : BestAt l now (m + 1) r := by
  rcases h with ⟨rfl, h⟩ | ⟨b, cb, rfl, hb, hl, hde, h⟩
  · refine Or.inl ⟨rfl, fun i d hi hd2 => ?_⟩
    by_cases e : i = m
    · subst e; rw [hc] at hd2; injection hd2 with e; subst e; exact hd
    · exact h i d (by omega) hd2
  · refine Or.inr ⟨b, cb, rfl, by omega, hl, hde, fun i d hi hd2 hd3 => ?_⟩
    by_cases e : i = m
    · subst e; rw [hc] at hd2; injection hd2 with e; subst e; exact absurd hd3 hd
    · exact h i d (by omega) hd2 hd3
theorem best_first (h : BestAt l now m (-1)) (hc : l[m]? = some c) (hd : EndC now c) : BestAt l now (m + 1) (m : Int) := by
  rcases h with ⟨_, h⟩ | ⟨b, cb, e, _⟩
  · refine Or.inr ⟨m, c, rfl, by omega, hc, hd, fun i d hi hd2 hd3 => ?_⟩
    by_cases e : i = m
    · subst e; rw [hc] at hd2; injection hd2 with e; subst e; exact ltD_irrefl _
    · exact absurd hd3 (h i d (by omega) hd2)
  · omega
theorem best_less {b : Nat} {cb : Ce} (h : BestAt l now m (b : Int)) (hb : l[b]? = some cb) (hc : l[m]? = some c) (hd : EndC now c) (hl : ltD (DC c) (DC cb)) : BestAt l now (m + 1) (m : Int) := by
  rcases h with ⟨e, _⟩ | ⟨b', cb', e, _, hl', _, h⟩
  · omega
  · have : b' = b := by omega
    subst this
    rw [hb] at hl'; injection hl' with e; subst e
    refine Or.inr ⟨m, c, rfl, by omega, hc, hd, fun i d hi hd2 hd3 g => ?_⟩
    by_cases e : i = m
    · subst e; rw [hc] at hd2; injection hd2 with e; subst e; exact ltD_irrefl _ g
    · exact h i d (by omega) hd2 hd3 (ltD_trans g hl)
theorem best_keep {b : Nat} {cb : Ce} (h : BestAt l now m (b : Int)) (hb : l[b]? = some cb) (hc : l[m]? = some c) (hl : ¬ ltD (DC c) (DC cb)) : BestAt l now (m + 1) (b : Int) := by
  rcases h with ⟨e, _⟩ | ⟨b', cb', e, hbm, hl', hde, h⟩
  · omega
  · have : b' = b := by omega
    subst this
    rw [hb] at hl'; injection hl' with e; subst e
    refine Or.inr ⟨b', cb, rfl, by omega, hb, hde, fun i d hi hd2 hd3 => ?_⟩
    by_cases e : i = m
    · subst e; rw [hc] at hd2; injection hd2 with e; subst e; exact hl
    · exact h i d (by omega) hd2 hd3
theorem best_none (h : BestAt l now l.length (-1)) : dueD now (duesC l) = [] := by
  rcases h with ⟨_, h⟩ | ⟨b, cb, e, _⟩
  · unfold dueD
    cases hd : duesC l with
    | nil => rfl
    | cons d r =>
      have hm : d ∈ duesC l := by rw [hd]; simp
      obtain ⟨c, hc, h0, rfl⟩ := duesC_mem.1 hm
      obtain ⟨i, hi⟩ := List.mem_iff_getElem?.1 hc
      have hil : i < l.length := (List.getElem?_eq_some_iff.1 hi).1
      have := h i c hil hi
      rw [List.takeWhile_cons, if_neg]
      simp only [decide_eq_true_eq]
      exact fun g => this ⟨h0, g⟩
  · omega
theorem best_some {b : Nat} {cb : Ce} (hn : (keysC l).Nodup) (h : BestAt l now l.length (b : Int)) (hb : l[b]? = some cb) : EndC now cb ∧ ∃ R, duesC l = DC cb :: R := by
  rcases h with ⟨e, _⟩ | ⟨b', cb', e, hbm, hl', hde, h⟩
  · omega
  · have : b' = b := by omega
    subst this
    rw [hb] at hl'; injection hl' with e; subst e
    refine ⟨hde, ?_⟩
    have hm : DC cb ∈ duesC l := duesC_mem.2 ⟨cb, List.mem_of_getElem? hb, hde.1, rfl⟩
    have hr := duesC_rise hn
    cases hd : duesC l with
    | nil => rw [hd] at hm; simp at hm
    | cons d r =>
      rw [hd] at hm hr
      obtain ⟨r1, r2⟩ := List.pairwise_cons.1 hr
      rcases List.mem_cons.1 hm with e | hm
      · exact ⟨r, by rw [e]⟩
      · exfalso
        have lt := r1 _ hm
        have hdm : d ∈ duesC l := by rw [hd]; simp
        obtain ⟨c, hc, h0, rfl⟩ := duesC_mem.1 hdm
        obtain ⟨i, hi⟩ := List.mem_iff_getElem?.1 hc
        have hil : i < l.length := (List.getElem?_eq_some_iff.1 hi).1
        refine h i c hil hi ⟨h0, ?_⟩ lt
        have := hde.2
        unfold ltD DC at lt
        simp only at lt
        rcases lt with g | ⟨g, _⟩ <;> omega
theorem sweep_step {S : PS} {now most : Int} {cb : Ce} {R : List DueP} (ok : POk S) (hm : cb ∈ S.cells) (hd : duesC S.cells = DC cb :: R) (hn : cb.when ≤ now) (hmo : 0 < most) :
    sweepL S now most = cb.key :: sweepL (goneP S cb.key 3) now (most - 1) ∧ sweepP S now most = sweepP (goneP S cb.key 3) now (most - 1) := by
  have hk : cb.key ∈ keysC S.cells := List.mem_map.2 ⟨cb, hm, rfl⟩
  have hg : (goneP S cb.key 3).cells = delC S.cells cb.key := by unfold goneP; rw [if_pos hk]
  have hR : duesC (goneP S cb.key 3).cells = R := by
    rw [hg, duesC_del ok.nd, hd]
    unfold dropD
    rw [List.filter_cons, if_neg (by simp [DC]), List.filter_eq_self]
    intro d hdR
    simp only [decide_eq_true_eq]
    intro e
    have hr := duesC_rise ok.nd
    rw [hd] at hr
    obtain ⟨r1, _⟩ := List.pairwise_cons.1 hr
    have hdm : d ∈ duesC S.cells := by rw [hd]; simp [hdR]
    obtain ⟨c, hc, _, rfl⟩ := duesC_mem.1 hdm
    have : c = cb := key_uniq ok.nd hc hm e
    subst this
    exact ltD_irrefl _ (r1 _ hdR)
  have e1 : sweepL S now most = cb.key :: sweepL (goneP S cb.key 3) now (most - 1) := by
    unfold sweepL
    rw [hR, hd]
    unfold dueD
    rw [List.takeWhile_cons, if_pos (show decide ((DC cb).fst ≤ now) = true from decide_eq_true hn)]
    obtain ⟨k, hk⟩ : ∃ k : Nat, most.toNat = k + 1 := ⟨most.toNat - 1, by omega⟩
    rw [hk, show (most - 1).toNat = k by omega, List.take_succ_cons, List.map_cons]
    rfl
  refine ⟨e1, ?_⟩
  unfold sweepP
  rw [e1]; rfl
theorem sweep_end {S : PS} {now most : Int} (h : dueD now (duesC S.cells) = [] ∨ most ≤ 0) : sweepL S now most = [] ∧ sweepP S now most = S := by
  have : sweepL S now most = [] := by
    unfold sweepL
    rcases h with h | h
    · rw [h]; simp
    · rw [show most.toNat = 0 by omega]; simp
  refine ⟨this, ?_⟩
  unfold sweepP; rw [this]; rfl
end
/-- A sweep of the document's, so far. -/
def SwR (w : World) (base wb : Nat) (X : Nat → Prop) (cl el : Nat) (now most : Int) (S2 : PS) (N2 : Nat) (k : Nat) (wr : World) : Prop :=
  ∃ S1, RGo w base wb X wr S1 ∧ S2 = sweepP S1 now (most - k) ∧ N2 = k + (sweepL S1 now (most - k)).length ∧ S1.cells.length + k ≤ cl ∧ S1.events.length + S1.cells.length ≤ el
theorem goneP_less {S : PS} {c : Ce} (hn : (keysC S.cells).Nodup) {k : Nat} (h : S.cells[k]? = some c) (kind : Int) : (goneP S c.key kind).cells.length + 1 = S.cells.length ∧ (goneP S c.key kind).events.length = S.events.length + 1 := by
  have hk : c.key ∈ keysC S.cells := List.mem_map.2 ⟨c, List.mem_of_getElem? h, rfl⟩
  have hl := (List.getElem?_eq_some_iff.1 h).1
  unfold goneP
  rw [if_pos hk]
  simp only
  rw [← erase_delC hn h, List.length_eraseIdx_of_lt hl]
  exact ⟨by omega, by simp⟩
set_option maxHeartbeats 8000000 in
set_option maxRecDepth 100000 in
theorem qsweep_any {w : World} {base wb : Nat} {X : Nat → Prop} {S : PS} (h : RSt w base wb X S) (now most : Int) (hc : S.cells.length ≤ 10000) (hl : S.events.length ≤ 800000) :
    Calls Tryz.prog 39 #[.pointer (some ⟨wb, 0, none⟩), .int .i64 now, .int .i64 most] w fun e w' => e = .returned (.int .i64 ((sweepL S now most).length : Int)) ∧ RGo w base wb X w' (sweepP S now most) := by
  obtain ⟨S2, hS2⟩ : ∃ S2, S2 = sweepP S now most := ⟨_, rfl⟩
  obtain ⟨N2, hN2⟩ : ∃ N2, N2 = (sweepL S now most).length := ⟨_, rfl⟩
  rw [← hS2, ← hN2]
  obtain ⟨cl, hcl⟩ : ∃ cl, cl = S.cells.length := ⟨_, rfl⟩
  obtain ⟨el, hel⟩ : ∃ el, el = S.events.length + S.cells.length := ⟨_, rfl⟩
  have I0 : Hid (SwR w base wb X cl el now most S2 N2 0 w) := ⟨S, h.go0 (Upd.refl _ _), by rw [hS2]; simp, by rw [hN2]; simp, by omega, by omega⟩
  have HC : Hid (cl ≤ 10000 ∧ el ≤ 900000) := ⟨by rw [hcl]; exact hc, by omega⟩
  clear h hS2 hN2 hc hl hcl hel
  go_enter Tryz.func39, Tryz.ntmps39
  go_wp2
  go_loopw [7] (fun x7 wr => ∃ k : Nat, x7 = .int .i64 (k : Int) ∧ Hid (SwR w base wb X cl el now most S2 N2 k wr)) (fun _ wr => lenAt wr wb)
  case atStart => exact ⟨0, rfl, I0⟩
  case round =>
    clear I0
    obtain ⟨k, rfl, I⟩ := hrel
    by_cases hkm : (k : Int) < most
    · obtain ⟨S1, ⟨X1, R1, f1, u1⟩, e2, n2, l1, l2⟩ := I.out
      have r0 := R1
      obtain ⟨vs, ve, C, m1, ok1, hx1, xl1⟩ := R1
      obtain ⟨p, c, ev, hm, _⟩ := m1.cells.slice
      subst ev
      unfold maxLen at hm
      have M1 := Lib.hid m1
      have R1 := Lib.hid r0
      have OK1 := Lib.hid ok1
      have F1 := Lib.hid (And.intro f1 u1)
      have E1 := Lib.hid (And.intro e2 (And.intro n2 (And.intro l1 l2)))
      have KM := Lib.hid hkm
      obtain ⟨nl, hnl⟩ : ∃ nl, nl = C.length := ⟨_, rfl⟩
      have x0 := m1.blk.cellAt (i := 0) (v := .slice p C.length c) rfl
      have hwb := m1.blk.lt
      have NL := Lib.hid hnl
      rw [← hnl] at hm x0
      have SL : Hid (S1.cells.length = nl) := by show _ = _; rw [hnl, m1.len]
      have hk0 : (k : Int) ≤ 10000 := by have := l1; have := HC.out; omega
      clear m1 r0 ok1 f1 u1 hx1 xl1 e2 n2 l1 l2 I hnl
      go_wp2
      rename World => wo
      go_loopw [8, 19] (fun x8 x19 wr => ∃ m : Nat, m ≤ nl ∧ x19 = .int .i64 (m : Int) ∧ ∃ r : Int, x8 = .int .i64 r ∧ Hid (BestAt S1.cells now m r) ∧ Hid (Upd (fun _ => False) wo wr)) (fun _ x19 _ => nl - (intOf x19).toNat)
      case atStart => exact ⟨0, by omega, rfl, -1, rfl, best_zero _ _, Lib.hid (Upd.refl _ _)⟩
      case round =>
        clear x0 hwb
        obtain ⟨m, hmn, rfl, r, rfl, B, U⟩ := hrel
        by_cases hlt : m < nl
        · have q1 : (m : Int) < (nl : Int) := by omega
          have hml : m < C.length := by rw [← NL.out]; exact hlt
          obtain ⟨b, t, ep, hb, hbl, htk, hcs, _⟩ := cel_cells (M1.out.keep0 U.out).cells hml
          subst ep
          have c0 := hcs 0 (by omega)
          have c1 := hcs 1 (by omega)
          have c2 := hcs 2 (by omega)
          have c3 := hcs 3 (by omega)
          have c4 := hcs 4 (by omega)
          have hs : S1.cells[m]? = some t.c := by rw [← M1.out.eq, List.getElem?_map, htk]; rfl
          have FD := (M1.out.keep0 U.out).flds t (List.mem_of_getElem? htk)
          obtain ⟨pv, cv, evv, _⟩ := FD.1.len
          clear hcs hml htk FD
          obtain ⟨⟨ky, ⟨kd, tx, fl⟩, wn⟩, v⟩ := t
          simp only at evv hs
          subst evv
          simp only [rcs, List.getElem?_cons_zero, List.getElem?_cons_succ, Nat.add_zero] at c0 c1 c2 c3 c4
          generalize fl.length = nf at *
          have HS := Lib.hid hs
          clear hs
          have UQ : Upd (fun _ => False) wr (wr.alloc (.cells #[.string ky, .int .i64 kd, .string tx, .slice pv nf cv, .int .i64 wn] 90)) := (Upd.refl _ _).alloc _
          have BQ := Blk.made wr [.string ky, .int .i64 kd, .string tx, .slice pv nf cv, .int .i64 wn] 90
          have US : Hid (Upd (fun _ => False) wo (wr.alloc (.cells #[.string ky, .int .i64 kd, .string tx, .slice pv nf cv, .int .i64 wn] 90))) := U.out.trans UQ (fun _ _ h => h)
          by_cases a1 : wn < 0
          · have NB : Hid (BestAt S1.cells now (m + 1) r) := best_skip B.out HS.out (fun g => by have := g.1; simp only at this; omega)
            have t1 : decide (wn < 0) = true := decide_eq_true a1
            clear UQ BQ a1
            go_wp2
            go_roundw
            case rel => exact ⟨m + 1, by omega, by simp, r, rfl, NB, US⟩
            case measure => simp [intOf]; omega
          · have t1 : decide (wn < 0) = false := decide_eq_false a1
            by_cases a2 : wn > now
            · have NB : Hid (BestAt S1.cells now (m + 1) r) := best_skip B.out HS.out (fun g => by have := g.2; simp only at this; omega)
              have t2 : decide (wn > now) = true := decide_eq_true a2
              clear UQ BQ a1 a2
              go_wp2
              go_roundw
              case rel => exact ⟨m + 1, by omega, by simp, r, rfl, NB, US⟩
              case measure => simp [intOf]; omega
            · have t2 : decide (wn > now) = false := decide_eq_false a2
              have ED : Hid (EndC now ⟨ky, ⟨kd, tx, fl⟩, wn⟩) := ⟨by simp only; omega, by simp only; omega⟩
              clear a1 a2
              go_upto_region 8 with (fail)
              generalize hq : wr.heap.size = q at *
              generalize hwq : wr.alloc (.cells #[.string ky, .int .i64 kd, .string tx, .slice pv nf cv, .int .i64 wn] 90) = wq at *
              have BQ : Blk wq q [.string ky, .int .i64 kd, .string tx, .slice pv nf cv, .int .i64 wn] 90 := BQ
              have BQ := Lib.hid BQ
              clear hwq hq c0 c1 c2 c3 c4 hb hbl t1 t2 UQ
              have UU : Hid (Upd (fun _ => False) wq wq.drew) := Lib.hid (Upd.refl _ _).drew
              rcases B.out with ⟨er, _⟩ | ⟨bb, cb, er, hbm, hbs, _, _⟩
              · subst er
                have NB : Hid (BestAt S1.cells now (m + 1) (m : Int)) := best_first B.out HS.out ED.out
                have z0 := BQ.out.cellAt (i := 0) rfl
                have z2 := BQ.out.cellAt (i := 4) rfl
                have zl := BQ.out.lt
                go_quiet (fail)
                have UN : Hid (Upd (fun _ => False) wo (wq.drewN nq)) := US.out.trans ((Upd.refl _ _).drewN nq) (fun _ _ h => h)
                go_wp2
                go_roundw
                case rel => exact ⟨m + 1, by omega, by simp, m, rfl, NB, UN⟩
                case measure => simp [intOf]; omega
              · subst er
                have hbn : bb < nl := by omega
                have hbl : bb < C.length := by rw [← NL.out]; exact hbn
                have q2 : (bb : Int) < (nl : Int) := by omega
                have q3 : decide ((bb : Int) < 0) = false := decide_eq_false (by omega)
                have HBS := Lib.hid hbs
                obtain ⟨b2, tb, ep, hb2, hbl2, htk, hcs, _⟩ := cel_cells (M1.out.keep0 US.out).cells hbl
                injection ep with ep
                injection ep with ep
                subst ep
                have etb : tb.c = cb := by
                  have : S1.cells[bb]? = some tb.c := by rw [← M1.out.eq, List.getElem?_map, htk]; rfl
                  rw [hbs] at this; injection this with e; exact e.symm
                obtain ⟨kb, ib, wbn⟩ := cb
                have KP : Hid (∀ W, Upd (fun _ => False) wq W → W.cell? ⟨wb, 0, none⟩ = some (.slice (some ⟨b, 0, none⟩) nl c) ∧ wb < W.heap.size ∧ W.cell? ⟨q, 0, none⟩ = some (.string ky) ∧ W.cell? ⟨q, 4, none⟩ = some (.int .i64 wn) ∧ q < W.heap.size ∧ W.cell? ⟨b, bb * 5, none⟩ = some (.string kb) ∧ W.cell? ⟨b, bb * 5 + 4, none⟩ = some (.int .i64 wbn) ∧ b < W.heap.size) := Lib.hid fun W u => by
                  have m2 := (M1.out.keep0 US.out).keep0 u
                  have y0 := hcs 0 (by omega)
                  have y4 := hcs 4 (by omega)
                  simp only [rcs, List.getElem?_cons_zero, List.getElem?_cons_succ, Nat.add_zero, etb] at y0 y4
                  refine ⟨by have := m2.blk.cellAt (i := 0) (v := .slice (some ⟨b, 0, none⟩) C.length c) rfl; rw [this, NL.out], m2.blk.lt, (u.blk BQ.out (fun h => h)).cellAt (i := 0) rfl, (u.blk BQ.out (fun h => h)).cellAt (i := 4) rfl, (u.blk BQ.out (fun h => h)).lt, (u.cell (p := ⟨b, bb * 5, none⟩) hbl2 (fun h => h)).trans y0, (u.cell (p := ⟨b, bb * 5 + 4, none⟩) hbl2 (fun h => h)).trans y4, Nat.lt_of_lt_of_le hbl2 u.size⟩
                obtain ⟨x0, lx, z0, z2, zl, y0, y4, yl⟩ := KP.out wq (Upd.refl _ _)
                clear hcs htk etb hbs hbl hb2 hbl2 KP
                by_cases a3 : wn < wbn
                · have NB : Hid (BestAt S1.cells now (m + 1) (m : Int)) := best_less B.out HBS.out HS.out ED.out (Or.inl a3)
                  have t3 : decide (wn < wbn) = true := decide_eq_true a3
                  clear a3
                  go_quiet (fail)
                  have UN : Hid (Upd (fun _ => False) wo (wq.drewN nq)) := US.out.trans ((Upd.refl _ _).drewN nq) (fun _ _ h => h)
                  go_wp2
                  go_roundw
                  case rel => exact ⟨m + 1, by omega, by simp, m, rfl, NB, UN⟩
                  case measure => simp [intOf]; omega
                · have t3 : decide (wn < wbn) = false := decide_eq_false a3
                  by_cases a4 : wn = wbn
                  · subst a4
                    clear a3
                    cases a5 : Op.bytesLess ky.toList kb.toList with
                    | true =>
                      have NB : Hid (BestAt S1.cells now (m + 1) (m : Int)) := best_less B.out HBS.out HS.out ED.out (Or.inr ⟨rfl, by rw [bytesLess_lt] at a5; exact of_decide_eq_true a5⟩)
                      go_quiet (fail)
                      have UN : Hid (Upd (fun _ => False) wo (wq.drewN nq)) := US.out.trans ((Upd.refl _ _).drewN nq) (fun _ _ h => h)
                      go_wp2
                      go_roundw
                      case rel => exact ⟨m + 1, by omega, by simp, m, rfl, NB, UN⟩
                      case measure => simp [intOf]; omega
                    | false =>
                      have NB : Hid (BestAt S1.cells now (m + 1) (bb : Int)) := best_keep B.out HBS.out HS.out (by
                        rw [bytesLess_lt] at a5
                        have := of_decide_eq_false a5
                        rintro (g | ⟨_, g⟩)
                        · simp only [DC] at g; omega
                        · exact this g)
                      go_quiet (fail)
                      have UN : Hid (Upd (fun _ => False) wo (wq.drewN nq)) := US.out.trans ((Upd.refl _ _).drewN nq) (fun _ _ h => h)
                      go_wp2
                      go_roundw
                      case rel => exact ⟨m + 1, by omega, by simp, bb, rfl, NB, UN⟩
                      case measure => simp [intOf]; omega
                  · have NB : Hid (BestAt S1.cells now (m + 1) (bb : Int)) := best_keep B.out HBS.out HS.out (by
                      rintro (g | ⟨g, _⟩)
                      · exact a3 g
                      · exact a4 g)
                    have t4 : decide (wn = wbn) = false := decide_eq_false a4
                    have t5 : (wn == wbn) = false := beq_false_of_ne a4
                    clear a3 a4
                    go_quiet (fail)
                    have UN : Hid (Upd (fun _ => False) wo (wq.drewN nq)) := US.out.trans ((Upd.refl _ _).drewN nq) (fun _ _ h => h)
                    go_wp2
                    go_roundw
                    case rel => exact ⟨m + 1, by omega, by simp, bb, rfl, NB, UN⟩
                    case measure => simp [intOf]; omega
        · obtain rfl : m = nl := by omega
          rcases B.out with ⟨er, _⟩ | ⟨bb, cb, er, hbm, hbs, _, _⟩
          · subst er
            have hB := B.out
            have EN := sweep_end (S := S1) (now := now) (most := most - k) (Or.inl (best_none (by rw [SL.out]; exact hB)))
            have FIN : Hid ((k : Int) = (N2 : Int) ∧ RGo w base wb X wr S2) := by
              obtain ⟨e2, n2, _⟩ := E1.out
              refine ⟨by rw [n2, EN.1]; simp, ?_⟩
              rw [e2, EN.2]
              exact RGo.onTo F1.out.1 F1.out.2 (R1.out.go0 U.out)
            clear EN hB
            go_wp2
            go_ret
            rw [FIN.out.1]
            exact ⟨rfl, FIN.out.2⟩
          · subst er
            have hbl : bb < C.length := by rw [← NL.out]; exact hbm
            have q2 : (bb : Int) < (m : Int) := by omega
            have q3 : decide ((bb : Int) < 0) = false := decide_eq_false (by omega)
            have m2 := M1.out.keep0 U.out
            obtain ⟨b2, tb, ep, hb2, hbl2, htk, hcs, _⟩ := cel_cells m2.cells hbl
            subst ep
            have etb : tb.c = cb := by
              have : S1.cells[bb]? = some tb.c := by rw [← M1.out.eq, List.getElem?_map, htk]; rfl
              rw [hbs] at this; injection this with e; exact e.symm
            have y0 := hcs 0 (by omega)
            simp only [rcs, List.getElem?_cons_zero, List.getElem?_cons_succ, Nat.add_zero, etb] at y0
            have x0 := m2.blk.cellAt (i := 0) (v := .slice (some ⟨b2, 0, none⟩) C.length c) rfl
            rw [← NL.out] at x0
            have hwb := m2.blk.lt
            have hB := B.out
            obtain ⟨hde, R, hR⟩ := best_some OK1.out.nd (by rw [SL.out]; exact hB) hbs
            have ST := sweep_step (now := now) (most := most - k) OK1.out (List.mem_of_getElem? hbs) hR hde.2 (by omega)
            have GL := goneP_less OK1.out.nd hbs 3
            have GO := Lib.hid (rgone_any (R1.out.keep0 U.out) cb.key 3 (by have := E1.out.2.2.1; have := HC.out; omega) (by have := E1.out.2.2.2; have := HC.out; omega))
            have NXT : Hid (∀ w', RGo wr base wb X1 w' (goneP S1 cb.key 3) → SwR w base wb X cl el now most S2 N2 (k + 1) w' ∧ lenAt w' wb < lenAt wo wb) := Lib.hid fun w' g => by
              obtain ⟨e2, n2, l1, l2⟩ := E1.out
              have u2 : Upd X w wr := F1.out.2.trans U.out (fun _ _ h => h.elim)
              have gg : RGo w base wb X w' (goneP S1 cb.key 3) := RGo.onTo F1.out.1 u2 g
              refine ⟨⟨goneP S1 cb.key 3, gg, ?_, ?_, by omega, by omega⟩, ?_⟩
              · rw [e2, ST.2]; congr 1; simp; omega
              · rw [n2, ST.1]
                have : most - (k : Int) - 1 = most - ((k + 1 : Nat) : Int) := by simp; omega
                rw [this]; simp; omega
              · obtain ⟨X', ⟨vs', ve', C', m', _⟩, _⟩ := gg
                rw [m'.lenAt, M1.out.lenAt]; omega
            clear hcs htk etb hbs hbl hR hde ST GL m2 hb2 hB
            obtain ⟨kb, ib, wbn⟩ := cb
            simp only at y0 GO NXT
            go_wp2_with (fail)
            go_at_call 60
            refine GO.out.mono ?_
            rintro e w10 ⟨rfl, g10⟩
            have NX2 := Lib.hid (NXT.out _ g10)
            clear g10 GO NXT
            go_wp2
            go_roundw
            case rel => exact ⟨k + 1, by go_num, NX2.out.1⟩
            case measure => exact NX2.out.2
    · have FIN : Hid ((k : Int) = (N2 : Int) ∧ RGo w base wb X wr S2) := by
        obtain ⟨S1, g, e2, n2, _⟩ := I.out
        have EN := sweep_end (S := S1) (now := now) (most := most - k) (Or.inr (by omega))
        exact ⟨by rw [n2, EN.1]; simp, by rw [e2, EN.2]; exact g⟩
      clear I
      go_wp2
      go_ret
      rw [FIN.out.1]
      exact ⟨rfl, FIN.out.2⟩
end Go.Proofs.YtgdenmddbgcacaaGreatDoor
/- Append of a whole row to a row of the call's own. -/
set_option linter.unusedVariables false
set_option linter.unusedSimpArgs false
namespace Go.Proofs.YtgdenmddbgcacaaGreatDoor
open Go.RowKit

theorem append_row {P : Program} (w : World) (base base2 : Nat) (t ty e : TypeId) (i : TypeInfo) (z : Value) (bytes : Nat) (ht : P.underlying t = some (.slice e)) (hi : P.info? e = some i) (hz : i.zero = some z)
    (hsize : i.size = 1) (hby : i.bytes = bytes) (hzs : z.cells.size = 1) (v v2 : Value) (n m : Nat) (xs ys : List Value) (hown : w.ownsRow base e 1 v n xs) (h2 : w.ownsRow base2 e 1 v2 m ys) (h1 : ∀ u ∈ ys, u.oneCell' = true)
    (h63 : n + m ≤ maxLen) (hbytes : (n + m) * bytes ≤ 140737488355328) (hbase : base ≤ w.heap.size) :
    ∃ v' w', (Builtin.append_ #[t, t] ty #[v, v2]).run P w = .ok v' w' ∧ w'.ownsRow base e 1 v' (n + m) (xs ++ ys) ∧ Upd (fun k => v.ownBlock = some k) w w' ∧ NewOr v v' w := by
  obtain ⟨hlen, hv2⟩ := h2
  have hsh : ∃ a c, v2 = .slice a m c ∧ (m = 0 ∨ ∃ g, a = some ⟨g, 0, none⟩) ∧ (∀ g, a = some ⟨g, 0, none⟩ → ∀ j u, ys[j]? = some u → w.cell? ((⟨g, 0, none⟩ : Addr).add j) = some u) := by
    rcases hv2 with ⟨rfl, rfl⟩ | ⟨g, cap, cur, rfl, _, hh, q1, q2, q3, q4⟩
    · exact ⟨none, 0, rfl, Or.inl rfl, fun g h => by cases h⟩
    · refine ⟨some ⟨g, 0, none⟩, cap, rfl, Or.inr ⟨g, rfl⟩, fun g' hg' j u hj => ?_⟩
      cases hg'
      have : (⟨g, 0, none⟩ : Addr).add j = ⟨g, j, none⟩ := by unfold Addr.add; split <;> simp_all
      rw [this, cell_of_row w g j cur e (0, 0) hh]
      rw [← q4, List.getElem?_take] at hj
      split at hj
      · simpa using hj
      · cases hj
  obtain ⟨a, c, rfl, hm, hc⟩ := hsh
  by_cases h0 : m = 0
  · subst h0
    have hys : ys = [] := List.length_eq_zero_iff.1 (by omega)
    subst hys
    have hv : ∃ p cp, v = .slice p n cp ∧ n ≤ cp := by
      rcases hown.2 with ⟨rfl, rfl⟩ | ⟨g, cap, cur, rfl, _, _, q1, _⟩
      · exact ⟨_, _, rfl, Nat.le_refl _⟩
      · exact ⟨_, _, rfl, q1⟩
    obtain ⟨p, cp, rfl, hle⟩ := hv
    have hs : Src P i.size t (.slice a 0 c) 0 [] w := by
      cases a with
      | none => exact Src.ofNil w ht c
      | some a => exact Src.ofSlice w ht a 0 c [] (by simp) (fun j u h => by simp at h) (fun u h => by cases h)
    refine ⟨_, _, run_append_nothing (P := P) w t t ty e i ht hi p n cp hle _ hs, by simpa using hown, Upd.refl _ _, fun k hk => Or.inl hk⟩
  · obtain ⟨g, rfl⟩ : ∃ g, a = some ⟨g, 0, none⟩ := hm.elim (fun e => absurd e h0) id
    obtain ⟨v', w', hr, q2, q3, _⟩ := run_append_own (P := P) w base t ty e i z 1 bytes ht hi hz hsize hby hzs (by decide) v n xs hown ⟨g, 0, none⟩ m c ys hlen (hc g rfl) h1 h63 hbytes hbase
    exact ⟨v', w', hr, q2, (Upd.of_grown q3).weaken (fun k _ hk => hk.symm), run_append_where (P := P) w base t ty e i z 1 bytes ht hi hz hsize hby v n xs hown ⟨g, 0, none⟩ m c ys hlen (hc g rfl) h1 (Nat.pos_of_ne_zero h0) h63 hbytes v' w' hr⟩
/-- A step of a region that draws its order: append. -/
theorem step_builtin {P : Program} {ops : Array Oper} {o : Oper} {a : Act} {w w' : World} {K : Act → World → Prop} {Q : Exit → Act → World → Prop} {E : Prop} {v' : Value} (hg : o.guard = none) (s x : Operand) (t : TypeId)
    (ho : o.op = .call { callee := .builtin .append, args := #[s, x], argTypes := #[t, t] }) (u y : Value) (hs : a.eval s = u) (hx : a.eval x = y)
    (hr : (Builtin.append_ #[t, t] o.type #[u, y]).run P w = .ok v' w') (hK : K (a.put o.dst v') w') :
    if Region.wanted o (yielded ops a.tmps) = true then Oper.wp P o a w K Q else E := by
  have hw : Region.wanted o (yielded ops a.tmps) = true := by simp [Region.wanted, hg]
  rw [if_pos hw]
  unfold Oper.wp execOp
  subst hs hx
  simp only [ho, resolve, invoke, builtin, Sem.run_bind, Sem.run_pure, Result.andThen_ok, List.map_toArray, List.map_cons, List.map_nil, hr]
  exact hK
theorem wpList_builtin {P : Program} {ops : Array Oper} {rest : List Oper} {o : Oper} {a : Act} {w w' : World} {Q : Exit → Act → World → Prop} {v' : Value} (hg : o.guard = none) (s x : Operand) (t : TypeId)
    (ho : o.op = .call { callee := .builtin .append, args := #[s, x], argTypes := #[t, t] }) (u y : Value) (hs : a.eval s = u) (hx : a.eval x = y)
    (hr : (Builtin.append_ #[t, t] o.type #[u, y]).run P w = .ok v' w') (hK : wpList P ops Q rest (a.put o.dst v') w') : wpList P ops Q (o :: rest) a w :=
  wpList_plain hg fun K hK' => by
    unfold Oper.wp execOp
    subst hs hx
    simp only [ho, resolve, invoke, builtin, Sem.run_bind, Sem.run_pure, Result.andThen_ok, List.map_toArray, List.map_cons, List.map_nil, hr]
    exact hK' _ _ hK
/-- A row of the call's own, without its last ones. -/
theorem own_cut {w : World} {base n m : Nat} {e : TypeId} {p : Option Addr} {c : Nat} {xs ys : List Value} (h : w.ownsRow base e 1 (.slice p n c) n (xs ++ ys)) (hm : xs.length = m) : w.ownsRow base e 1 (.slice p m c) m xs := by
  obtain ⟨hl, hv⟩ := h
  rw [List.length_append] at hl
  rcases hv with ⟨e1, rfl⟩ | ⟨g, cap, cur, e1, hg, hh, q1, q2, q3, q4⟩
  · cases e1
    have : m = 0 := by omega
    subst this
    exact ⟨by omega, Or.inl ⟨rfl, rfl⟩⟩
  · cases e1
    refine ⟨by omega, Or.inr ⟨g, _, cur, rfl, hg, hh, by omega, q2, q3, ?_⟩⟩
    rw [Nat.mul_one] at *
    have : cur.toList.take m = (cur.toList.take n).take m := by rw [List.take_take, Nat.min_eq_left (by omega)]
    rw [this, q4, ← hm, List.take_left]
end Go.Proofs.YtgdenmddbgcacaaGreatDoor
/- Walk: nearhandref06.Same. -/
set_option linter.unusedVariables false
set_option linter.unusedSimpArgs false
namespace Go.Proofs.YtgdenmddbgcacaaGreatDoor
open Go.RowKit

theorem StrsAt.row {w : World} {base : Nat} {v : Value} {l : List ByteArray} (h : StrsAt w base v l) : RowOf strc 1 w v l := by
  rcases h.2 with ⟨rfl, hn⟩ | ⟨g, cap, cur, rfl, hg, hb, h1, h2, h3, h4⟩
  · exact Or.inl ⟨none, 0, rfl, by cases l <;> simp_all⟩
  · refine Or.inr ⟨g, 0, cap, rfl, (Array.getElem?_eq_some_iff.1 hb).1, by omega, fun i a hi j hj => ?_⟩
    obtain rfl : j = 0 := by omega
    have hil : i < l.length := (List.getElem?_eq_some_iff.1 hi).1
    have := World.ownsRow.cellAt (w := w) (g := g) (cap := cap) (base := base) (e := 9) (size := 1) (n := l.length) (xs := l.map Value.string) ⟨h.1, Or.inr ⟨g, cap, cur, rfl, hg, hb, h1, h2, h3, h4⟩⟩ i (by omega)
    have e : (0 + (i * 1 + 0)) = i := by omega
    rw [e, this]
    simp [strc, hi]

set_option maxHeartbeats 1000000 in
theorem same06_any (v1 v2 : Value) (l1 l2 : List ByteArray) (w : World) (h1 : RowOf strc 1 w v1 l1) (h2 : RowOf strc 1 w v2 l2) :
    Calls Tryz.prog 16 #[v1, v2] w fun e w' => e = .returned (.bool (decide (l1 = l2))) ∧ ∃ n, w' = w.drewN n := by
  obtain ⟨p1, k1, rfl, b1⟩ := h1.len
  obtain ⟨p2, k2, rfl, b2⟩ := h2.len
  unfold maxLen at b1 b2
  have H1 := Lib.hid h1
  have H2 := Lib.hid h2
  clear h1 h2
  by_cases hl : l1.length = l2.length
  · have hne : ((l1.length : Int) != (l2.length : Int)) = false := by simp [hl]
    have HL := Lib.hid hl
    clear hl
    go_enter Tryz.func16, Tryz.ntmps16
    go_wp2
    go_loopw [13] (fun c wr => ∃ k : Nat, k ≤ l1.length ∧ c = .int .i64 (k : Int) ∧ Hid (l1.take k = l2.take k) ∧ Hid (∃ n, wr = w.drewN n)) (fun c _ => l1.length - (intOf c).toNat)
    case atStart => exact ⟨0, by omega, rfl, by show l1.take 0 = l2.take 0; simp, 0, rfl⟩
    case round =>
      obtain ⟨k, hk, rfl, T, W⟩ := hrel
      by_cases hlt : k < l1.length
      · have hl := HL.out
        obtain ⟨x, hx⟩ : ∃ x, l1[k]? = some x := ⟨_, List.getElem?_eq_getElem hlt⟩
        obtain ⟨y, hy⟩ : ∃ y, l2[k]? = some y := ⟨_, List.getElem?_eq_getElem (by omega : k < l2.length)⟩
        have hlt2 : k < l2.length := by omega
        obtain ⟨g1, o1, q1, e1, _, _, c1⟩ : ∃ b off cap, Value.slice p1 l1.length k1 = .slice (some ⟨b, off, none⟩) l1.length cap ∧ b < w.heap.size ∧ l1.length ≤ maxLen ∧ ∀ i a, l1[i]? = some a → ∀ j, j < 1 → w.cell? ⟨b, off + (i * 1 + j), none⟩ = (strc a)[j]? := by
          rcases H1.out with ⟨_, _, _, e⟩ | h
          · rw [e] at hlt; simp at hlt
          · exact h
        obtain ⟨g2, o2, q2, e2, _, _, c2⟩ : ∃ b off cap, Value.slice p2 l2.length k2 = .slice (some ⟨b, off, none⟩) l2.length cap ∧ b < w.heap.size ∧ l2.length ≤ maxLen ∧ ∀ i a, l2[i]? = some a → ∀ j, j < 1 → w.cell? ⟨b, off + (i * 1 + j), none⟩ = (strc a)[j]? := by
          rcases H2.out with ⟨_, _, _, e⟩ | h
          · rw [e] at hlt2; simp at hlt2
          · exact h
        have d1 : w.cell? ⟨g1, o1 + k, none⟩ = some (.string x) := by have := c1 k x hx 0 (by omega); simpa [strc] using this
        have d2 : w.cell? ⟨g2, o2 + k, none⟩ = some (.string y) := by have := c2 k y hy 0 (by omega); simpa [strc] using this
        simp only [Value.slice.injEq] at e1 e2
        obtain ⟨rfl, _, rfl⟩ := e1
        obtain ⟨rfl, _, rfl⟩ := e2
        obtain ⟨n0, rfl⟩ := W.out
        have HX : Hid (l1.take (k + 1) = l1.take k ++ [x] ∧ l2.take (k + 1) = l2.take k ++ [y]) := by
          obtain ⟨_, r1⟩ := List.getElem?_eq_some_iff.1 hx
          obtain ⟨_, r2⟩ := List.getElem?_eq_some_iff.1 hy
          exact ⟨by rw [List.take_succ_eq_append_getElem hlt, r1], by rw [List.take_succ_eq_append_getElem hlt2, r2]⟩
        clear c1 c2 hx hy hl
        go_wp2
        go_quiet (fail)
        go_wp2
        · have t : (x.toList != y.toList) = true := by assumption
          have hxy : x ≠ y := by rintro rfl; simp at t
          go_ret
          refine ⟨ret_bool ?_, n0 + nq, World.drewN_drewN _ _ _⟩
          have : l1 ≠ l2 := by
            rintro rfl
            have := HX.out.1.symm.trans HX.out.2
            simp at this
            exact hxy this
          simp [this]
        · have t : (x.toList != y.toList) = false := by assumption
          have hxy : x = y := toList_eq (by simpa using t)
          go_roundw
          case rel =>
            refine ⟨k + 1, by omega, rfl, ?_, n0 + nq, rfl⟩
            show l1.take (k + 1) = l2.take (k + 1)
            rw [HX.out.1, HX.out.2, T.out, hxy]
          case measure => simp [intOf]; omega
      · have hk2 : k = l1.length := by omega
        subst hk2
        go_wp2
        go_ret
        refine ⟨ret_bool ?_, W.out⟩
        have := T.out
        rw [List.take_length, HL.out, List.take_length] at this
        simp [this]
  · have hne : ((l1.length : Int) != (l2.length : Int)) = true := by rw [bne_iff_ne]; omega
    have HL := Lib.hid hl
    clear hl
    go_enter Tryz.func16, Tryz.ntmps16
    go_wp2
    go_ret
    refine ⟨ret_bool ?_, 0, rfl⟩
    have : l1 ≠ l2 := fun e => HL.out (by rw [e])
    simp [this]
end Go.Proofs.YtgdenmddbgcacaaGreatDoor
