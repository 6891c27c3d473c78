/- The document's store: walk of Sweep. -/
import Derived.Test.YtgdenmddbgcacaaGreatDoorK20
set_option linter.unusedVariables false
set_option linter.unusedSimpArgs false
set_option linter.unusedSectionVars false
namespace Go.Proofs.YtgdenmddbgcacaaGreatDoor
open Go.RowKit

/-- Has a cell ended? -/
def EndC (now : Int) (c : Ce) : Prop := 0 ≤ c.when ∧ c.when ≤ now
def DC (c : Ce) : DueP := (c.when, c.key)
/-- The one that ended first among the first ones. -/
def BestAt (l : List Ce) (now : Int) (m : Nat) (r : Int) : Prop :=
  (r = -1 ∧ ∀ i c, i < m → l[i]? = some c → ¬ EndC now c) ∨ ∃ (b : Nat) (cb : Ce), r = (b : Int) ∧ b < m ∧ l[b]? = some cb ∧ EndC now cb ∧ ∀ i c, i < m → l[i]? = some c → EndC now c → ¬ ltD (DC c) (DC cb)
section
variable {l : List Ce} {now : Int} {m : Nat} {c : Ce}
theorem best_zero (l : List Ce) (now : Int) : BestAt l now 0 (-1) := Or.inl ⟨rfl, fun i c h => by omega⟩
theorem best_skip {r : Int} (h : BestAt l now m r) (hc : l[m]? = some c) (hd : ¬ EndC now c) : BestAt l now (m + 1) r := by
  rcases h with ⟨rfl, h⟩ | ⟨b, cb, rfl, hb, hl, hde, h⟩
  · refine Or.inl ⟨rfl, fun i d hi hd2 => ?_⟩
    by_cases e : i = m
    · subst e; rw [hc] at hd2; injection hd2 with e; subst e; exact hd
    · exact h i d (by omega) hd2
  · refine Or.inr ⟨b, cb, rfl, by omega, hl, hde, fun i d hi hd2 hd3 => ?_⟩
    by_cases e : i = m
    · subst e; rw [hc] at hd2; injection hd2 with e; subst e; exact absurd hd3 hd
    · exact h i d (by omega) hd2 hd3
theorem best_first (h : BestAt l now m (-1)) (hc : l[m]? = some c) (hd : EndC now c) : BestAt l now (m + 1) (m : Int) := by
  rcases h with ⟨_, h⟩ | ⟨b, cb, e, _⟩
  · refine Or.inr ⟨m, c, rfl, by omega, hc, hd, fun i d hi hd2 hd3 => ?_⟩
    by_cases e : i = m
    · subst e; rw [hc] at hd2; injection hd2 with e; subst e; exact ltD_irrefl _
    · exact absurd hd3 (h i d (by omega) hd2)
  · omega
theorem best_less {b : Nat} {cb : Ce} (h : BestAt l now m (b : Int)) (hb : l[b]? = some cb) (hc : l[m]? = some c) (hd : EndC now c) (hl : ltD (DC c) (DC cb)) : BestAt l now (m + 1) (m : Int) := by
  rcases h with ⟨e, _⟩ | ⟨b', cb', e, _, hl', _, h⟩
  · omega
  · have : b' = b := by omega
    subst this
    rw [hb] at hl'; injection hl' with e; subst e
    refine Or.inr ⟨m, c, rfl, by omega, hc, hd, fun i d hi hd2 hd3 g => ?_⟩
    by_cases e : i = m
    · subst e; rw [hc] at hd2; injection hd2 with e; subst e; exact ltD_irrefl _ g
    · exact h i d (by omega) hd2 hd3 (ltD_trans g hl)
theorem best_keep {b : Nat} {cb : Ce} (h : BestAt l now m (b : Int)) (hb : l[b]? = some cb) (hc : l[m]? = some c) (hl : ¬ ltD (DC c) (DC cb)) : BestAt l now (m + 1) (b : Int) := by
  rcases h with ⟨e, _⟩ | ⟨b', cb', e, hbm, hl', hde, h⟩
  · omega
  · have : b' = b := by omega
    subst this
    rw [hb] at hl'; injection hl' with e; subst e
    refine Or.inr ⟨b', cb, rfl, by omega, hb, hde, fun i d hi hd2 hd3 => ?_⟩
    by_cases e : i = m
    · subst e; rw [hc] at hd2; injection hd2 with e; subst e; exact hl
    · exact h i d (by omega) hd2 hd3
theorem best_none (h : BestAt l now l.length (-1)) : dueD now (duesC l) = [] := by
  rcases h with ⟨_, h⟩ | ⟨b, cb, e, _⟩
  · unfold dueD
    cases hd : duesC l with
    | nil => rfl
    | cons d r =>
      have hm : d ∈ duesC l := by rw [hd]; simp
      obtain ⟨c, hc, h0, rfl⟩ := duesC_mem.1 hm
      obtain ⟨i, hi⟩ := List.mem_iff_getElem?.1 hc
      have hil : i < l.length := (List.getElem?_eq_some_iff.1 hi).1
      have := h i c hil hi
      rw [List.takeWhile_cons, if_neg]
      simp only [decide_eq_true_eq]
      exact fun g => this ⟨h0, g⟩
  · omega
theorem best_some {b : Nat} {cb : Ce} (hn : (keysC l).Nodup) (h : BestAt l now l.length (b : Int)) (hb : l[b]? = some cb) : EndC now cb ∧ ∃ R, duesC l = DC cb :: R := by
  rcases h with ⟨e, _⟩ | ⟨b', cb', e, hbm, hl', hde, h⟩
  · omega
  · have : b' = b := by omega
    subst this
    rw [hb] at hl'; injection hl' with e; subst e
    refine ⟨hde, ?_⟩
    have hm : DC cb ∈ duesC l := duesC_mem.2 ⟨cb, List.mem_of_getElem? hb, hde.1, rfl⟩
    have hr := duesC_rise hn
    cases hd : duesC l with
    | nil => rw [hd] at hm; simp at hm
    | cons d r =>
      rw [hd] at hm hr
      obtain ⟨r1, r2⟩ := List.pairwise_cons.1 hr
      rcases List.mem_cons.1 hm with e | hm
      · exact ⟨r, by rw [e]⟩
      · exfalso
        have lt := r1 _ hm
        have hdm : d ∈ duesC l := by rw [hd]; simp
        obtain ⟨c, hc, h0, rfl⟩ := duesC_mem.1 hdm
        obtain ⟨i, hi⟩ := List.mem_iff_getElem?.1 hc
        have hil : i < l.length := (List.getElem?_eq_some_iff.1 hi).1
        refine h i c hil hi ⟨h0, ?_⟩ lt
        have := hde.2
        unfold ltD DC at lt
        simp only at lt
        rcases lt with g | ⟨g, _⟩ <;> omega
theorem sweep_step {S : PS} {now most : Int} {cb : Ce} {R : List DueP} (ok : POk S) (hm : cb ∈ S.cells) (hd : duesC S.cells = DC cb :: R) (hn : cb.when ≤ now) (hmo : 0 < most) :
    sweepL S now most = cb.key :: sweepL (goneP S cb.key 3) now (most - 1) ∧ sweepP S now most = sweepP (goneP S cb.key 3) now (most - 1) := by
  have hk : cb.key ∈ keysC S.cells := List.mem_map.2 ⟨cb, hm, rfl⟩
  have hg : (goneP S cb.key 3).cells = delC S.cells cb.key := by unfold goneP; rw [if_pos hk]
  have hR : duesC (goneP S cb.key 3).cells = R := by
    rw [hg, duesC_del ok.nd, hd]
    unfold dropD
    rw [List.filter_cons, if_neg (by simp [DC]), List.filter_eq_self]
    intro d hdR
    simp only [decide_eq_true_eq]
    intro e
    have hr := duesC_rise ok.nd
    rw [hd] at hr
    obtain ⟨r1, _⟩ := List.pairwise_cons.1 hr
    have hdm : d ∈ duesC S.cells := by rw [hd]; simp [hdR]
    obtain ⟨c, hc, _, rfl⟩ := duesC_mem.1 hdm
    have : c = cb := key_uniq ok.nd hc hm e
    subst this
    exact ltD_irrefl _ (r1 _ hdR)
  have e1 : sweepL S now most = cb.key :: sweepL (goneP S cb.key 3) now (most - 1) := by
    unfold sweepL
    rw [hR, hd]
    unfold dueD
    rw [List.takeWhile_cons, if_pos (show decide ((DC cb).fst ≤ now) = true from decide_eq_true hn)]
    obtain ⟨k, hk⟩ : ∃ k : Nat, most.toNat = k + 1 := ⟨most.toNat - 1, by omega⟩
    rw [hk, show (most - 1).toNat = k by omega, List.take_succ_cons, List.map_cons]
    rfl
  refine ⟨e1, ?_⟩
  unfold sweepP
  rw [e1]; rfl
theorem sweep_end {S : PS} {now most : Int} (h : dueD now (duesC S.cells) = [] ∨ most ≤ 0) : sweepL S now most = [] ∧ sweepP S now most = S := by
  have : sweepL S now most = [] := by
    unfold sweepL
    rcases h with h | h
    · rw [h]; simp
    · rw [show most.toNat = 0 by omega]; simp
  refine ⟨this, ?_⟩
  unfold sweepP; rw [this]; rfl
end
/-- A sweep of the document's, so far. -/
def SwR (w : World) (base wb : Nat) (X : Nat → Prop) (cl el : Nat) (now most : Int) (S2 : PS) (N2 : Nat) (k : Nat) (wr : World) : Prop :=
  ∃ S1, RGo w base wb X wr S1 ∧ S2 = sweepP S1 now (most - k) ∧ N2 = k + (sweepL S1 now (most - k)).length ∧ S1.cells.length + k ≤ cl ∧ S1.events.length + S1.cells.length ≤ el
theorem goneP_less {S : PS} {c : Ce} (hn : (keysC S.cells).Nodup) {k : Nat} (h : S.cells[k]? = some c) (kind : Int) : (goneP S c.key kind).cells.length + 1 = S.cells.length ∧ (goneP S c.key kind).events.length = S.events.length + 1 := by
  have hk : c.key ∈ keysC S.cells := List.mem_map.2 ⟨c, List.mem_of_getElem? h, rfl⟩
  have hl := (List.getElem?_eq_some_iff.1 h).1
  unfold goneP
  rw [if_pos hk]
  simp only
  rw [← erase_delC hn h, List.length_eraseIdx_of_lt hl]
  exact ⟨by omega, by simp⟩
set_option maxHeartbeats 8000000 in
set_option maxRecDepth 100000 in
theorem qsweep_any {w : World} {base wb : Nat} {X : Nat → Prop} {S : PS} (h : RSt w base wb X S) (now most : Int) (hc : S.cells.length ≤ 10000) (hl : S.events.length ≤ 800000) :
    Calls Tryz.prog 39 #[.pointer (some ⟨wb, 0, none⟩), .int .i64 now, .int .i64 most] w fun e w' => e = .returned (.int .i64 ((sweepL S now most).length : Int)) ∧ RGo w base wb X w' (sweepP S now most) := by
  obtain ⟨S2, hS2⟩ : ∃ S2, S2 = sweepP S now most := ⟨_, rfl⟩
  obtain ⟨N2, hN2⟩ : ∃ N2, N2 = (sweepL S now most).length := ⟨_, rfl⟩
  rw [← hS2, ← hN2]
  obtain ⟨cl, hcl⟩ : ∃ cl, cl = S.cells.length := ⟨_, rfl⟩
  obtain ⟨el, hel⟩ : ∃ el, el = S.events.length + S.cells.length := ⟨_, rfl⟩
  have I0 : Hid (SwR w base wb X cl el now most S2 N2 0 w) := ⟨S, h.go0 (Upd.refl _ _), by rw [hS2]; simp, by rw [hN2]; simp, by omega, by omega⟩
  have HC : Hid (cl ≤ 10000 ∧ el ≤ 900000) := ⟨by rw [hcl]; exact hc, by omega⟩
  clear h hS2 hN2 hc hl hcl hel
  go_enter Tryz.func39, Tryz.ntmps39
  go_wp2
  go_loopw [7] (fun x7 wr => ∃ k : Nat, x7 = .int .i64 (k : Int) ∧ Hid (SwR w base wb X cl el now most S2 N2 k wr)) (fun _ wr => lenAt wr wb)
  case atStart => exact ⟨0, rfl, I0⟩
  case round =>
    clear I0
    obtain ⟨k, rfl, I⟩ := hrel
    by_cases hkm : (k : Int) < most
    · obtain ⟨S1, ⟨X1, R1, f1, u1⟩, e2, n2, l1, l2⟩ := I.out
      have r0 := R1
      obtain ⟨vs, ve, C, m1, ok1, hx1, xl1⟩ := R1
      obtain ⟨p, c, ev, hm, _⟩ := m1.cells.slice
      subst ev
      unfold maxLen at hm
      have M1 := Lib.hid m1
      have R1 := Lib.hid r0
      have OK1 := Lib.hid ok1
      have F1 := Lib.hid (And.intro f1 u1)
      have E1 := Lib.hid (And.intro e2 (And.intro n2 (And.intro l1 l2)))
      have KM := Lib.hid hkm
      obtain ⟨nl, hnl⟩ : ∃ nl, nl = C.length := ⟨_, rfl⟩
      have x0 := m1.blk.cellAt (i := 0) (v := .slice p C.length c) rfl
      have hwb := m1.blk.lt
      have NL := Lib.hid hnl
      rw [← hnl] at hm x0
      have SL : Hid (S1.cells.length = nl) := by show _ = _; rw [hnl, m1.len]
      have hk0 : (k : Int) ≤ 10000 := by have := l1; have := HC.out; omega
      clear m1 r0 ok1 f1 u1 hx1 xl1 e2 n2 l1 l2 I hnl
      go_wp2
      rename World => wo
      go_loopw [8, 19] (fun x8 x19 wr => ∃ m : Nat, m ≤ nl ∧ x19 = .int .i64 (m : Int) ∧ ∃ r : Int, x8 = .int .i64 r ∧ Hid (BestAt S1.cells now m r) ∧ Hid (Upd (fun _ => False) wo wr)) (fun _ x19 _ => nl - (intOf x19).toNat)
      case atStart => exact ⟨0, by omega, rfl, -1, rfl, best_zero _ _, Lib.hid (Upd.refl _ _)⟩
      case round =>
        clear x0 hwb
        obtain ⟨m, hmn, rfl, r, rfl, B, U⟩ := hrel
        by_cases hlt : m < nl
        · have q1 : (m : Int) < (nl : Int) := by omega
          have hml : m < C.length := by rw [← NL.out]; exact hlt
          obtain ⟨b, t, ep, hb, hbl, htk, hcs, _⟩ := cel_cells (M1.out.keep0 U.out).cells hml
          subst ep
          have c0 := hcs 0 (by omega)
          have c1 := hcs 1 (by omega)
          have c2 := hcs 2 (by omega)
          have c3 := hcs 3 (by omega)
          have c4 := hcs 4 (by omega)
          have hs : S1.cells[m]? = some t.c := by rw [← M1.out.eq, List.getElem?_map, htk]; rfl
          have FD := (M1.out.keep0 U.out).flds t (List.mem_of_getElem? htk)
          obtain ⟨pv, cv, evv, _⟩ := FD.1.len
          clear hcs hml htk FD
          obtain ⟨⟨ky, ⟨kd, tx, fl⟩, wn⟩, v⟩ := t
          simp only at evv hs
          subst evv
          simp only [rcs, List.getElem?_cons_zero, List.getElem?_cons_succ, Nat.add_zero] at c0 c1 c2 c3 c4
          generalize fl.length = nf at *
          have HS := Lib.hid hs
          clear hs
          have UQ : Upd (fun _ => False) wr (wr.alloc (.cells #[.string ky, .int .i64 kd, .string tx, .slice pv nf cv, .int .i64 wn] 90)) := (Upd.refl _ _).alloc _
          have BQ := Blk.made wr [.string ky, .int .i64 kd, .string tx, .slice pv nf cv, .int .i64 wn] 90
          have US : Hid (Upd (fun _ => False) wo (wr.alloc (.cells #[.string ky, .int .i64 kd, .string tx, .slice pv nf cv, .int .i64 wn] 90))) := U.out.trans UQ (fun _ _ h => h)
          by_cases a1 : wn < 0
          · have NB : Hid (BestAt S1.cells now (m + 1) r) := best_skip B.out HS.out (fun g => by have := g.1; simp only at this; omega)
            have t1 : decide (wn < 0) = true := decide_eq_true a1
            clear UQ BQ a1
            go_wp2
            go_roundw
            case rel => exact ⟨m + 1, by omega, by simp, r, rfl, NB, US⟩
            case measure => simp [intOf]; omega
          · have t1 : decide (wn < 0) = false := decide_eq_false a1
            by_cases a2 : wn > now
            · have NB : Hid (BestAt S1.cells now (m + 1) r) := best_skip B.out HS.out (fun g => by have := g.2; simp only at this; omega)
              have t2 : decide (wn > now) = true := decide_eq_true a2
              clear UQ BQ a1 a2
              go_wp2
              go_roundw
              case rel => exact ⟨m + 1, by omega, by simp, r, rfl, NB, US⟩
              case measure => simp [intOf]; omega
            · have t2 : decide (wn > now) = false := decide_eq_false a2
              have ED : Hid (EndC now ⟨ky, ⟨kd, tx, fl⟩, wn⟩) := ⟨by simp only; omega, by simp only; omega⟩
              clear a1 a2
              go_upto_region 8 with (fail)
              generalize hq : wr.heap.size = q at *
              generalize hwq : wr.alloc (.cells #[.string ky, .int .i64 kd, .string tx, .slice pv nf cv, .int .i64 wn] 90) = wq at *
              have BQ : Blk wq q [.string ky, .int .i64 kd, .string tx, .slice pv nf cv, .int .i64 wn] 90 := BQ
              have BQ := Lib.hid BQ
              clear hwq hq c0 c1 c2 c3 c4 hb hbl t1 t2 UQ
              have UU : Hid (Upd (fun _ => False) wq wq.drew) := Lib.hid (Upd.refl _ _).drew
              rcases B.out with ⟨er, _⟩ | ⟨bb, cb, er, hbm, hbs, _, _⟩
              · subst er
                have NB : Hid (BestAt S1.cells now (m + 1) (m : Int)) := best_first B.out HS.out ED.out
                have KP : Hid (∀ W, Upd (fun _ => False) wq W → W.cell? ⟨q, 0, none⟩ = some (.string ky) ∧ W.cell? ⟨q, 4, none⟩ = some (.int .i64 wn) ∧ q < W.heap.size) := Lib.hid fun W u => ⟨(u.blk BQ.out (fun h => h)).cellAt (i := 0) rfl, (u.blk BQ.out (fun h => h)).cellAt (i := 4) rfl, (u.blk BQ.out (fun h => h)).lt⟩
                refine wp_region_held_drew (S := fun w' => Hid (Upd (fun _ => False) wq w')) (by kernel_rfl) ?_ (fun hHeld => ?_)
                · exact UU
                try simp only [Array.replicate, Act.put, List.setIfInBounds_toArray]
                refine' wpAnyH_take (i := 0) (oi := _) (v := _) ?hiRA0x1 (by kernel_rfl) (by kernel_rfl) (by kernel_rfl) ?hQRA0x1 ?hyRA0x1 (by assumption) ?restRA0x1
                case' hiRA0x1 => (first | (simp only [List.getElem?_toArray, List.getElem?_cons_succ, List.getElem?_cons_zero]; done) | (simp only [List.getElem?_toArray, List.getElem?_cons_succ, List.getElem?_cons_zero]; rfl))
                case' hQRA0x1 => exact fun _ _ _ h => h
                case' hyRA0x1 => refine Or.inl ⟨by rfl, ?_⟩
                (intro w hSw; (try dsimp only at hSw); go_simp; try with_reducible rfl)
                try simp only [Act.put, List.setIfInBounds_toArray, List.set_cons_zero, List.set_cons_succ]
                refine' wpAnyH_take (i := 1) (oi := _) (v := _) ?hiRA0x2 (by kernel_rfl) (by kernel_rfl) (by kernel_rfl) ?hQRA0x2 ?hyRA0x2 (by assumption) ?restRA0x2
                case' hiRA0x2 => (first | (simp only [List.getElem?_toArray, List.getElem?_cons_succ, List.getElem?_cons_zero]; done) | (simp only [List.getElem?_toArray, List.getElem?_cons_succ, List.getElem?_cons_zero]; rfl))
                case' hQRA0x2 => exact fun _ _ _ h => h
                case' hyRA0x2 => refine Or.inl ⟨by rfl, ?_⟩
                (intro w hSw; (try dsimp only at hSw); go_simp; try with_reducible rfl)
                try simp only [Act.put, List.setIfInBounds_toArray, List.set_cons_zero, List.set_cons_succ]
                refine' wpAnyH_take (i := 2) (oi := _) (v := _) ?hiRA0x3 (by kernel_rfl) (by kernel_rfl) (by kernel_rfl) ?hQRA0x3 ?hyRA0x3 (by assumption) ?restRA0x3
                case' hiRA0x3 => (first | (simp only [List.getElem?_toArray, List.getElem?_cons_succ, List.getElem?_cons_zero]; done) | (simp only [List.getElem?_toArray, List.getElem?_cons_succ, List.getElem?_cons_zero]; rfl))
                case' hQRA0x3 => exact fun _ _ _ h => h
                case' hyRA0x3 => refine Or.inl ⟨by rfl, ?_⟩
                (intro w hSw; (try dsimp only at hSw); go_simp; try with_reducible rfl)
                try simp only [Act.put, List.setIfInBounds_toArray, List.set_cons_zero, List.set_cons_succ]
                refine' wpAnyH_take (i := 3) (oi := _) (v := undef) ?hiRA0x4 (by kernel_rfl) (by kernel_rfl) (by kernel_rfl) ?hQRA0x4 ?hyRA0x4 (by assumption) ?restRA0x4
                case' hiRA0x4 => (first | (simp only [List.getElem?_toArray, List.getElem?_cons_succ, List.getElem?_cons_zero]; done) | (simp only [List.getElem?_toArray, List.getElem?_cons_succ, List.getElem?_cons_zero]; rfl))
                case' hQRA0x4 => exact fun _ _ _ h => h
                case' hyRA0x4 => exact Or.inr ⟨by rfl, rfl⟩
                try simp only [Act.put, List.setIfInBounds_toArray, List.set_cons_zero, List.set_cons_succ]
                refine' wpAnyH_take (i := 4) (oi := _) (v := undef) ?hiRA0x5 (by kernel_rfl) (by kernel_rfl) (by kernel_rfl) ?hQRA0x5 ?hyRA0x5 (by assumption) ?restRA0x5
                case' hiRA0x5 => (first | (simp only [List.getElem?_toArray, List.getElem?_cons_succ, List.getElem?_cons_zero]; done) | (simp only [List.getElem?_toArray, List.getElem?_cons_succ, List.getElem?_cons_zero]; rfl))
                case' hQRA0x5 => exact fun _ _ _ h => h
                case' hyRA0x5 => exact Or.inr ⟨by rfl, rfl⟩
                try simp only [Act.put, List.setIfInBounds_toArray, List.set_cons_zero, List.set_cons_succ]
                refine' wpAnyH_take (i := 5) (oi := _) (v := undef) ?hiRA0x6 (by kernel_rfl) (by kernel_rfl) (by kernel_rfl) ?hQRA0x6 ?hyRA0x6 (by assumption) ?restRA0x6
                case' hiRA0x6 => (first | (simp only [List.getElem?_toArray, List.getElem?_cons_succ, List.getElem?_cons_zero]; done) | (simp only [List.getElem?_toArray, List.getElem?_cons_succ, List.getElem?_cons_zero]; rfl))
                case' hQRA0x6 => exact fun _ _ _ h => h
                case' hyRA0x6 => exact Or.inr ⟨by rfl, rfl⟩
                try simp only [Act.put, List.setIfInBounds_toArray, List.set_cons_zero, List.set_cons_succ]
                refine' wpAnyH_take (i := 6) (oi := _) (v := undef) ?hiRA0x7 (by kernel_rfl) (by kernel_rfl) (by kernel_rfl) ?hQRA0x7 ?hyRA0x7 (by assumption) ?restRA0x7
                case' hiRA0x7 => (first | (simp only [List.getElem?_toArray, List.getElem?_cons_succ, List.getElem?_cons_zero]; done) | (simp only [List.getElem?_toArray, List.getElem?_cons_succ, List.getElem?_cons_zero]; rfl))
                case' hQRA0x7 => exact fun _ _ _ h => h
                case' hyRA0x7 => exact Or.inr ⟨by rfl, rfl⟩
                try simp only [Act.put, List.setIfInBounds_toArray, List.set_cons_zero, List.set_cons_succ]
                refine' wpAnyH_take (i := 7) (oi := _) (v := undef) ?hiRA0x8 (by kernel_rfl) (by kernel_rfl) (by kernel_rfl) ?hQRA0x8 ?hyRA0x8 (by assumption) ?restRA0x8
                case' hiRA0x8 => (first | (simp only [List.getElem?_toArray, List.getElem?_cons_succ, List.getElem?_cons_zero]; done) | (simp only [List.getElem?_toArray, List.getElem?_cons_succ, List.getElem?_cons_zero]; rfl))
                case' hQRA0x8 => exact fun _ _ _ h => h
                case' hyRA0x8 => exact Or.inr ⟨by rfl, rfl⟩
                try simp only [Act.put, List.setIfInBounds_toArray, List.set_cons_zero, List.set_cons_succ]
                refine' wpAnyH_take (i := 8) (oi := _) (v := undef) ?hiRA0x9 (by kernel_rfl) (by kernel_rfl) (by kernel_rfl) ?hQRA0x9 ?hyRA0x9 (by assumption) ?restRA0x9
                case' hiRA0x9 => (first | (simp only [List.getElem?_toArray, List.getElem?_cons_succ, List.getElem?_cons_zero]; done) | (simp only [List.getElem?_toArray, List.getElem?_cons_succ, List.getElem?_cons_zero]; rfl))
                case' hQRA0x9 => exact fun _ _ _ h => h
                case' hyRA0x9 => exact Or.inr ⟨by rfl, rfl⟩
                try simp only [Act.put, List.setIfInBounds_toArray, List.set_cons_zero, List.set_cons_succ]
                refine' wpAnyH_take (i := 9) (oi := _) (v := undef) ?hiRA0x10 (by kernel_rfl) (by kernel_rfl) (by kernel_rfl) ?hQRA0x10 ?hyRA0x10 (by assumption) ?restRA0x10
                case' hiRA0x10 => (first | (simp only [List.getElem?_toArray, List.getElem?_cons_succ, List.getElem?_cons_zero]; done) | (simp only [List.getElem?_toArray, List.getElem?_cons_succ, List.getElem?_cons_zero]; rfl))
                case' hQRA0x10 => exact fun _ _ _ h => h
                case' hyRA0x10 => exact Or.inr ⟨by rfl, rfl⟩
                try simp only [Act.put, List.setIfInBounds_toArray, List.set_cons_zero, List.set_cons_succ]
                refine' wpAnyH_take (i := 10) (oi := _) (v := undef) ?hiRA0x11 (by kernel_rfl) (by kernel_rfl) (by kernel_rfl) ?hQRA0x11 ?hyRA0x11 (by assumption) ?restRA0x11
                case' hiRA0x11 => (first | (simp only [List.getElem?_toArray, List.getElem?_cons_succ, List.getElem?_cons_zero]; done) | (simp only [List.getElem?_toArray, List.getElem?_cons_succ, List.getElem?_cons_zero]; rfl))
                case' hQRA0x11 => exact fun _ _ _ h => h
                case' hyRA0x11 => exact Or.inr ⟨by rfl, rfl⟩
                try simp only [Act.put, List.setIfInBounds_toArray, List.set_cons_zero, List.set_cons_succ]
                refine' wpAnyH_take (i := 11) (oi := _) (v := undef) ?hiRA0x12 (by kernel_rfl) (by kernel_rfl) (by kernel_rfl) ?hQRA0x12 ?hyRA0x12 (by assumption) ?restRA0x12
                case' hiRA0x12 => (first | (simp only [List.getElem?_toArray, List.getElem?_cons_succ, List.getElem?_cons_zero]; done) | (simp only [List.getElem?_toArray, List.getElem?_cons_succ, List.getElem?_cons_zero]; rfl))
                case' hQRA0x12 => exact fun _ _ _ h => h
                case' hyRA0x12 => exact Or.inr ⟨by rfl, rfl⟩
                try simp only [Act.put, List.setIfInBounds_toArray, List.set_cons_zero, List.set_cons_succ]
                refine' wpAnyH_take (i := 12) (oi := _) (v := undef) ?hiRA0x13 (by kernel_rfl) (by kernel_rfl) (by kernel_rfl) ?hQRA0x13 ?hyRA0x13 (by assumption) ?restRA0x13
                case' hiRA0x13 => (first | (simp only [List.getElem?_toArray, List.getElem?_cons_succ, List.getElem?_cons_zero]; done) | (simp only [List.getElem?_toArray, List.getElem?_cons_succ, List.getElem?_cons_zero]; rfl))
                case' hQRA0x13 => exact fun _ _ _ h => h
                case' hyRA0x13 => exact Or.inr ⟨by rfl, rfl⟩
                try simp only [Act.put, List.setIfInBounds_toArray, List.set_cons_zero, List.set_cons_succ]
                refine' wpAnyH_take (i := 13) (oi := _) (v := undef) ?hiRA0x14 (by kernel_rfl) (by kernel_rfl) (by kernel_rfl) ?hQRA0x14 ?hyRA0x14 (by assumption) ?restRA0x14
                case' hiRA0x14 => (first | (simp only [List.getElem?_toArray, List.getElem?_cons_succ, List.getElem?_cons_zero]; done) | (simp only [List.getElem?_toArray, List.getElem?_cons_succ, List.getElem?_cons_zero]; rfl))
                case' hQRA0x14 => exact fun _ _ _ h => h
                case' hyRA0x14 => exact Or.inr ⟨by rfl, rfl⟩
                try simp only [Act.put, List.setIfInBounds_toArray, List.set_cons_zero, List.set_cons_succ]
                refine' wpAnyH_take (i := 14) (oi := _) (v := _) ?hiRA0x15 (by kernel_rfl) (by kernel_rfl) (by kernel_rfl) ?hQRA0x15 ?hyRA0x15 (by assumption) ?restRA0x15
                case' hiRA0x15 => (first | (simp only [List.getElem?_toArray, List.getElem?_cons_succ, List.getElem?_cons_zero]; done) | (simp only [List.getElem?_toArray, List.getElem?_cons_succ, List.getElem?_cons_zero]; rfl))
                case' hQRA0x15 => exact fun _ _ _ h => h
                case' hyRA0x15 => refine Or.inl ⟨by rfl, ?_⟩
                (intro w hSw; (try dsimp only at hSw); go_simp; try with_reducible rfl)
                try simp only [Act.put, List.setIfInBounds_toArray, List.set_cons_zero, List.set_cons_succ]
                refine' wpAnyH_take (i := 15) (oi := _) (v := _) ?hiRA0x16 (by kernel_rfl) (by kernel_rfl) (by kernel_rfl) ?hQRA0x16 ?hyRA0x16 (by assumption) ?restRA0x16
                case' hiRA0x16 => (first | (simp only [List.getElem?_toArray, List.getElem?_cons_succ, List.getElem?_cons_zero]; done) | (simp only [List.getElem?_toArray, List.getElem?_cons_succ, List.getElem?_cons_zero]; rfl))
                case' hQRA0x16 => exact fun _ _ _ h => h
                case' hyRA0x16 => refine Or.inl ⟨by rfl, ?_⟩
                (intro w hSw; (try dsimp only at hSw); go_simp; try with_reducible rfl)
                try simp only [Act.put, List.setIfInBounds_toArray, List.set_cons_zero, List.set_cons_succ]
                refine' wpAnyH_take (i := 16) (oi := _) (v := undef) ?hiRA0x17 (by kernel_rfl) (by kernel_rfl) (by kernel_rfl) ?hQRA0x17 ?hyRA0x17 (by assumption) ?restRA0x17
                case' hiRA0x17 => (first | (simp only [List.getElem?_toArray, List.getElem?_cons_succ, List.getElem?_cons_zero]; done) | (simp only [List.getElem?_toArray, List.getElem?_cons_succ, List.getElem?_cons_zero]; rfl))
                case' hQRA0x17 => exact fun _ _ _ h => h
                case' hyRA0x17 => exact Or.inr ⟨by rfl, rfl⟩
                try simp only [Act.put, List.setIfInBounds_toArray, List.set_cons_zero, List.set_cons_succ]
                refine' wpAnyH_take (i := 17) (oi := _) (v := undef) ?hiRA0x18 (by kernel_rfl) (by kernel_rfl) (by kernel_rfl) ?hQRA0x18 ?hyRA0x18 (by assumption) ?restRA0x18
                case' hiRA0x18 => (first | (simp only [List.getElem?_toArray, List.getElem?_cons_succ, List.getElem?_cons_zero]; done) | (simp only [List.getElem?_toArray, List.getElem?_cons_succ, List.getElem?_cons_zero]; rfl))
                case' hQRA0x18 => exact fun _ _ _ h => h
                case' hyRA0x18 => exact Or.inr ⟨by rfl, rfl⟩
                try simp only [Act.put, List.setIfInBounds_toArray, List.set_cons_zero, List.set_cons_succ]
                refine' wpAnyH_take (i := 18) (oi := _) (v := undef) ?hiRA0x19 (by kernel_rfl) (by kernel_rfl) (by kernel_rfl) ?hQRA0x19 ?hyRA0x19 (by assumption) ?restRA0x19
                case' hiRA0x19 => (first | (simp only [List.getElem?_toArray, List.getElem?_cons_succ, List.getElem?_cons_zero]; done) | (simp only [List.getElem?_toArray, List.getElem?_cons_succ, List.getElem?_cons_zero]; rfl))
                case' hQRA0x19 => exact fun _ _ _ h => h
                case' hyRA0x19 => exact Or.inr ⟨by rfl, rfl⟩
                try simp only [Act.put, List.setIfInBounds_toArray, List.set_cons_zero, List.set_cons_succ]
                refine' wpAnyH_take (i := 19) (oi := _) (v := undef) ?hiRA0x20 (by kernel_rfl) (by kernel_rfl) (by kernel_rfl) ?hQRA0x20 ?hyRA0x20 (by assumption) ?restRA0x20
                case' hiRA0x20 => (first | (simp only [List.getElem?_toArray, List.getElem?_cons_succ, List.getElem?_cons_zero]; done) | (simp only [List.getElem?_toArray, List.getElem?_cons_succ, List.getElem?_cons_zero]; rfl))
                case' hQRA0x20 => exact fun _ _ _ h => h
                case' hyRA0x20 => exact Or.inr ⟨by rfl, rfl⟩
                try simp only [Act.put, List.setIfInBounds_toArray, List.set_cons_zero, List.set_cons_succ]
                refine' wpAnyH_take (i := 20) (oi := _) (v := undef) ?hiRA0x21 (by kernel_rfl) (by kernel_rfl) (by kernel_rfl) ?hQRA0x21 ?hyRA0x21 (by assumption) ?restRA0x21
                case' hiRA0x21 => (first | (simp only [List.getElem?_toArray, List.getElem?_cons_succ, List.getElem?_cons_zero]; done) | (simp only [List.getElem?_toArray, List.getElem?_cons_succ, List.getElem?_cons_zero]; rfl))
                case' hQRA0x21 => exact fun _ _ _ h => h
                case' hyRA0x21 => exact Or.inr ⟨by rfl, rfl⟩
                try simp only [Act.put, List.setIfInBounds_toArray, List.set_cons_zero, List.set_cons_succ]
                refine' wpAnyH_take (i := 21) (oi := _) (v := undef) ?hiRA0x22 (by kernel_rfl) (by kernel_rfl) (by kernel_rfl) ?hQRA0x22 ?hyRA0x22 (by assumption) ?restRA0x22
                case' hiRA0x22 => (first | (simp only [List.getElem?_toArray, List.getElem?_cons_succ, List.getElem?_cons_zero]; done) | (simp only [List.getElem?_toArray, List.getElem?_cons_succ, List.getElem?_cons_zero]; rfl))
                case' hQRA0x22 => exact fun _ _ _ h => h
                case' hyRA0x22 => exact Or.inr ⟨by rfl, rfl⟩
                try simp only [Act.put, List.setIfInBounds_toArray, List.set_cons_zero, List.set_cons_succ]
                refine' wpAnyH_take (i := 22) (oi := _) (v := undef) ?hiRA0x23 (by kernel_rfl) (by kernel_rfl) (by kernel_rfl) ?hQRA0x23 ?hyRA0x23 (by assumption) ?restRA0x23
                case' hiRA0x23 => (first | (simp only [List.getElem?_toArray, List.getElem?_cons_succ, List.getElem?_cons_zero]; done) | (simp only [List.getElem?_toArray, List.getElem?_cons_succ, List.getElem?_cons_zero]; rfl))
                case' hQRA0x23 => exact fun _ _ _ h => h
                case' hyRA0x23 => exact Or.inr ⟨by rfl, rfl⟩
                try simp only [Act.put, List.setIfInBounds_toArray, List.set_cons_zero, List.set_cons_succ]
                refine' wpAnyH_take (i := 23) (oi := _) (v := undef) ?hiRA0x24 (by kernel_rfl) (by kernel_rfl) (by kernel_rfl) ?hQRA0x24 ?hyRA0x24 (by assumption) ?restRA0x24
                case' hiRA0x24 => (first | (simp only [List.getElem?_toArray, List.getElem?_cons_succ, List.getElem?_cons_zero]; done) | (simp only [List.getElem?_toArray, List.getElem?_cons_succ, List.getElem?_cons_zero]; rfl))
                case' hQRA0x24 => exact fun _ _ _ h => h
                case' hyRA0x24 => exact Or.inr ⟨by rfl, rfl⟩
                try simp only [Act.put, List.setIfInBounds_toArray, List.set_cons_zero, List.set_cons_succ]
                refine' wpAnyH_take (i := 24) (oi := _) (v := undef) ?hiRA0x25 (by kernel_rfl) (by kernel_rfl) (by kernel_rfl) ?hQRA0x25 ?hyRA0x25 (by assumption) ?restRA0x25
                case' hiRA0x25 => (first | (simp only [List.getElem?_toArray, List.getElem?_cons_succ, List.getElem?_cons_zero]; done) | (simp only [List.getElem?_toArray, List.getElem?_cons_succ, List.getElem?_cons_zero]; rfl))
                case' hQRA0x25 => exact fun _ _ _ h => h
                case' hyRA0x25 => exact Or.inr ⟨by rfl, rfl⟩
                try simp only [Act.put, List.setIfInBounds_toArray, List.set_cons_zero, List.set_cons_succ]
                refine' wpAnyH_take (i := 25) (oi := _) (v := undef) ?hiRA0x26 (by kernel_rfl) (by kernel_rfl) (by kernel_rfl) ?hQRA0x26 ?hyRA0x26 (by assumption) ?restRA0x26
                case' hiRA0x26 => (first | (simp only [List.getElem?_toArray, List.getElem?_cons_succ, List.getElem?_cons_zero]; done) | (simp only [List.getElem?_toArray, List.getElem?_cons_succ, List.getElem?_cons_zero]; rfl))
                case' hQRA0x26 => exact fun _ _ _ h => h
                case' hyRA0x26 => exact Or.inr ⟨by rfl, rfl⟩
                try simp only [Act.put, List.setIfInBounds_toArray, List.set_cons_zero, List.set_cons_succ]
                refine' wpAnyH_take (i := 26) (oi := _) (v := undef) ?hiRA0x27 (by kernel_rfl) (by kernel_rfl) (by kernel_rfl) ?hQRA0x27 ?hyRA0x27 (by assumption) ?restRA0x27
                case' hiRA0x27 => (first | (simp only [List.getElem?_toArray, List.getElem?_cons_succ, List.getElem?_cons_zero]; done) | (simp only [List.getElem?_toArray, List.getElem?_cons_succ, List.getElem?_cons_zero]; rfl))
                case' hQRA0x27 => exact fun _ _ _ h => h
                case' hyRA0x27 => exact Or.inr ⟨by rfl, rfl⟩
                try simp only [Act.put, List.setIfInBounds_toArray, List.set_cons_zero, List.set_cons_succ]
                refine' wpAnyH_take (i := 27) (oi := _) (v := undef) ?hiRA0x28 (by kernel_rfl) (by kernel_rfl) (by kernel_rfl) ?hQRA0x28 ?hyRA0x28 (by assumption) ?restRA0x28
                case' hiRA0x28 => (first | (simp only [List.getElem?_toArray, List.getElem?_cons_succ, List.getElem?_cons_zero]; done) | (simp only [List.getElem?_toArray, List.getElem?_cons_succ, List.getElem?_cons_zero]; rfl))
                case' hQRA0x28 => exact fun _ _ _ h => h
                case' hyRA0x28 => exact Or.inr ⟨by rfl, rfl⟩
                try simp only [Act.put, List.setIfInBounds_toArray, List.set_cons_zero, List.set_cons_succ]
                refine' wpAnyH_take (i := 28) (oi := _) (v := undef) ?hiRA0x29 (by kernel_rfl) (by kernel_rfl) (by kernel_rfl) ?hQRA0x29 ?hyRA0x29 (by assumption) ?restRA0x29
                case' hiRA0x29 => (first | (simp only [List.getElem?_toArray, List.getElem?_cons_succ, List.getElem?_cons_zero]; done) | (simp only [List.getElem?_toArray, List.getElem?_cons_succ, List.getElem?_cons_zero]; rfl))
                case' hQRA0x29 => exact fun _ _ _ h => h
                case' hyRA0x29 => exact Or.inr ⟨by rfl, rfl⟩
                try simp only [Act.put, List.setIfInBounds_toArray, List.set_cons_zero, List.set_cons_succ]
                refine' wpAnyH_take (i := 29) (oi := _) (v := undef) ?hiRA0x30 (by kernel_rfl) (by kernel_rfl) (by kernel_rfl) ?hQRA0x30 ?hyRA0x30 (by assumption) ?restRA0x30
                case' hiRA0x30 => (first | (simp only [List.getElem?_toArray, List.getElem?_cons_succ, List.getElem?_cons_zero]; done) | (simp only [List.getElem?_toArray, List.getElem?_cons_succ, List.getElem?_cons_zero]; rfl))
                case' hQRA0x30 => exact fun _ _ _ h => h
                case' hyRA0x30 => exact Or.inr ⟨by rfl, rfl⟩
                try simp only [Act.put, List.setIfInBounds_toArray, List.set_cons_zero, List.set_cons_succ]
                refine' wpAnyH_take (i := 30) (oi := _) (v := undef) ?hiRA0x31 (by kernel_rfl) (by kernel_rfl) (by kernel_rfl) ?hQRA0x31 ?hyRA0x31 (by assumption) ?restRA0x31
                case' hiRA0x31 => (first | (simp only [List.getElem?_toArray, List.getElem?_cons_succ, List.getElem?_cons_zero]; done) | (simp only [List.getElem?_toArray, List.getElem?_cons_succ, List.getElem?_cons_zero]; rfl))
                case' hQRA0x31 => exact fun _ _ _ h => h
                case' hyRA0x31 => exact Or.inr ⟨by rfl, rfl⟩
                try simp only [Act.put, List.setIfInBounds_toArray, List.set_cons_zero, List.set_cons_succ]
                refine' wpAnyH_take (i := 31) (oi := _) (v := undef) ?hiRA0x32 (by kernel_rfl) (by kernel_rfl) (by kernel_rfl) ?hQRA0x32 ?hyRA0x32 (by assumption) ?restRA0x32
                case' hiRA0x32 => (first | (simp only [List.getElem?_toArray, List.getElem?_cons_succ, List.getElem?_cons_zero]; done) | (simp only [List.getElem?_toArray, List.getElem?_cons_succ, List.getElem?_cons_zero]; rfl))
                case' hQRA0x32 => exact fun _ _ _ h => h
                case' hyRA0x32 => exact Or.inr ⟨by rfl, rfl⟩
                try simp only [Act.put, List.setIfInBounds_toArray, List.set_cons_zero, List.set_cons_succ]
                refine' wpAnyH_take (i := 32) (oi := _) (v := undef) ?hiRA0x33 (by kernel_rfl) (by kernel_rfl) (by kernel_rfl) ?hQRA0x33 ?hyRA0x33 (by assumption) ?restRA0x33
                case' hiRA0x33 => (first | (simp only [List.getElem?_toArray, List.getElem?_cons_succ, List.getElem?_cons_zero]; done) | (simp only [List.getElem?_toArray, List.getElem?_cons_succ, List.getElem?_cons_zero]; rfl))
                case' hQRA0x33 => exact fun _ _ _ h => h
                case' hyRA0x33 => exact Or.inr ⟨by rfl, rfl⟩
                try simp only [Act.put, List.setIfInBounds_toArray, List.set_cons_zero, List.set_cons_succ]
                refine' wpAnyH_take (i := 33) (oi := _) (v := undef) ?hiRA0x34 (by kernel_rfl) (by kernel_rfl) (by kernel_rfl) ?hQRA0x34 ?hyRA0x34 (by assumption) ?restRA0x34
                case' hiRA0x34 => (first | (simp only [List.getElem?_toArray, List.getElem?_cons_succ, List.getElem?_cons_zero]; done) | (simp only [List.getElem?_toArray, List.getElem?_cons_succ, List.getElem?_cons_zero]; rfl))
                case' hQRA0x34 => exact fun _ _ _ h => h
                case' hyRA0x34 => exact Or.inr ⟨by rfl, rfl⟩
                try simp only [Act.put, List.setIfInBounds_toArray, List.set_cons_zero, List.set_cons_succ]
                refine' wpAnyH_take (i := 34) (oi := _) (v := undef) ?hiRA0x35 (by kernel_rfl) (by kernel_rfl) (by kernel_rfl) ?hQRA0x35 ?hyRA0x35 (by assumption) ?restRA0x35
                case' hiRA0x35 => (first | (simp only [List.getElem?_toArray, List.getElem?_cons_succ, List.getElem?_cons_zero]; done) | (simp only [List.getElem?_toArray, List.getElem?_cons_succ, List.getElem?_cons_zero]; rfl))
                case' hQRA0x35 => exact fun _ _ _ h => h
                case' hyRA0x35 => exact Or.inr ⟨by rfl, rfl⟩
                try simp only [Act.put, List.setIfInBounds_toArray, List.set_cons_zero, List.set_cons_succ]
                refine' wpAnyH_take (i := 35) (oi := _) (v := undef) ?hiRA0x36 (by kernel_rfl) (by kernel_rfl) (by kernel_rfl) ?hQRA0x36 ?hyRA0x36 (by assumption) ?restRA0x36
                case' hiRA0x36 => (first | (simp only [List.getElem?_toArray, List.getElem?_cons_succ, List.getElem?_cons_zero]; done) | (simp only [List.getElem?_toArray, List.getElem?_cons_succ, List.getElem?_cons_zero]; rfl))
                case' hQRA0x36 => exact fun _ _ _ h => h
                case' hyRA0x36 => exact Or.inr ⟨by rfl, rfl⟩
                try simp only [Act.put, List.setIfInBounds_toArray, List.set_cons_zero, List.set_cons_succ]
                refine' wpAnyH_take (i := 36) (oi := _) (v := undef) ?hiRA0x37 (by kernel_rfl) (by kernel_rfl) (by kernel_rfl) ?hQRA0x37 ?hyRA0x37 (by assumption) ?restRA0x37
                case' hiRA0x37 => (first | (simp only [List.getElem?_toArray, List.getElem?_cons_succ, List.getElem?_cons_zero]; done) | (simp only [List.getElem?_toArray, List.getElem?_cons_succ, List.getElem?_cons_zero]; rfl))
                case' hQRA0x37 => exact fun _ _ _ h => h
                case' hyRA0x37 => exact Or.inr ⟨by rfl, rfl⟩
                try simp only [Act.put, List.setIfInBounds_toArray, List.set_cons_zero, List.set_cons_succ]
                refine' wpAnyH_take (i := 37) (oi := _) (v := undef) ?hiRA0x38 (by kernel_rfl) (by kernel_rfl) (by kernel_rfl) ?hQRA0x38 ?hyRA0x38 (by assumption) ?restRA0x38
                case' hiRA0x38 => (first | (simp only [List.getElem?_toArray, List.getElem?_cons_succ, List.getElem?_cons_zero]; done) | (simp only [List.getElem?_toArray, List.getElem?_cons_succ, List.getElem?_cons_zero]; rfl))
                case' hQRA0x38 => exact fun _ _ _ h => h
                case' hyRA0x38 => exact Or.inr ⟨by rfl, rfl⟩
                try simp only [Act.put, List.setIfInBounds_toArray, List.set_cons_zero, List.set_cons_succ]
                refine' wpAnyH_take (i := 38) (oi := _) (v := undef) ?hiRA0x39 (by kernel_rfl) (by kernel_rfl) (by kernel_rfl) ?hQRA0x39 ?hyRA0x39 (by assumption) ?restRA0x39
                case' hiRA0x39 => (first | (simp only [List.getElem?_toArray, List.getElem?_cons_succ, List.getElem?_cons_zero]; done) | (simp only [List.getElem?_toArray, List.getElem?_cons_succ, List.getElem?_cons_zero]; rfl))
                case' hQRA0x39 => exact fun _ _ _ h => h
                case' hyRA0x39 => exact Or.inr ⟨by rfl, rfl⟩
                try simp only [Act.put, List.setIfInBounds_toArray, List.set_cons_zero, List.set_cons_succ]
                refine' wpAnyH_take (i := 39) (oi := _) (v := undef) ?hiRA0x40 (by kernel_rfl) (by kernel_rfl) (by kernel_rfl) ?hQRA0x40 ?hyRA0x40 (by assumption) ?restRA0x40
                case' hiRA0x40 => (first | (simp only [List.getElem?_toArray, List.getElem?_cons_succ, List.getElem?_cons_zero]; done) | (simp only [List.getElem?_toArray, List.getElem?_cons_succ, List.getElem?_cons_zero]; rfl))
                case' hQRA0x40 => exact fun _ _ _ h => h
                case' hyRA0x40 => exact Or.inr ⟨by rfl, rfl⟩
                try simp only [Act.put, List.setIfInBounds_toArray, List.set_cons_zero, List.set_cons_succ]
                refine' wpAnyH_take (i := 40) (oi := _) (v := _) ?hiRA0x41 (by kernel_rfl) (by kernel_rfl) (by kernel_rfl) ?hQRA0x41 ?hyRA0x41 (by assumption) ?restRA0x41
                case' hiRA0x41 => (first | (simp only [List.getElem?_toArray, List.getElem?_cons_succ, List.getElem?_cons_zero]; done) | (simp only [List.getElem?_toArray, List.getElem?_cons_succ, List.getElem?_cons_zero]; rfl))
                case' hQRA0x41 => exact fun _ _ _ h => h
                case' hyRA0x41 => refine Or.inl ⟨by rfl, ?_⟩
                (intro w hSw; (try dsimp only at hSw); go_simp; try with_reducible rfl)
                try simp only [Act.put, List.setIfInBounds_toArray, List.set_cons_zero, List.set_cons_succ]
                refine wpAnyH_done (by kernel_rfl) ?_ _
                skip
                have UN : Hid (Upd (fun _ => False) wo wq.drew) := US.out.trans UU.out (fun _ _ h => h)
                go_wp2
                go_roundw
                case rel => exact ⟨m + 1, by omega, by simp, m, rfl, NB, UN⟩
                case measure => simp [intOf]; omega
              · subst er
                have hbn : bb < nl := by omega
                have hbl : bb < C.length := by rw [← NL.out]; exact hbn
                have q2 : (bb : Int) < (nl : Int) := by omega
                have q3 : decide ((bb : Int) < 0) = false := decide_eq_false (by omega)
                have HBS := Lib.hid hbs
                obtain ⟨b2, tb, ep, hb2, hbl2, htk, hcs, _⟩ := cel_cells (M1.out.keep0 US.out).cells hbl
                injection ep with ep
                injection ep with ep
                subst ep
                have etb : tb.c = cb := by
                  have : S1.cells[bb]? = some tb.c := by rw [← M1.out.eq, List.getElem?_map, htk]; rfl
                  rw [hbs] at this; injection this with e; exact e.symm
                obtain ⟨kb, ib, wbn⟩ := cb
                have KP : Hid (∀ W, Upd (fun _ => False) wq W → W.cell? ⟨wb, 0, none⟩ = some (.slice (some ⟨b, 0, none⟩) nl c) ∧ wb < W.heap.size ∧ W.cell? ⟨q, 0, none⟩ = some (.string ky) ∧ W.cell? ⟨q, 4, none⟩ = some (.int .i64 wn) ∧ q < W.heap.size ∧ W.cell? ⟨b, bb * 5, none⟩ = some (.string kb) ∧ W.cell? ⟨b, bb * 5 + 4, none⟩ = some (.int .i64 wbn) ∧ b < W.heap.size) := Lib.hid fun W u => by
                  have m2 := (M1.out.keep0 US.out).keep0 u
                  have y0 := hcs 0 (by omega)
                  have y4 := hcs 4 (by omega)
                  simp only [rcs, List.getElem?_cons_zero, List.getElem?_cons_succ, Nat.add_zero, etb] at y0 y4
                  refine ⟨by have := m2.blk.cellAt (i := 0) (v := .slice (some ⟨b, 0, none⟩) C.length c) rfl; rw [this, NL.out], m2.blk.lt, (u.blk BQ.out (fun h => h)).cellAt (i := 0) rfl, (u.blk BQ.out (fun h => h)).cellAt (i := 4) rfl, (u.blk BQ.out (fun h => h)).lt, (u.cell (p := ⟨b, bb * 5, none⟩) hbl2 (fun h => h)).trans y0, (u.cell (p := ⟨b, bb * 5 + 4, none⟩) hbl2 (fun h => h)).trans y4, Nat.lt_of_lt_of_le hbl2 u.size⟩
                clear hcs htk etb hbs hbl hb2 hbl2
                by_cases a3 : wn < wbn
                · have NB : Hid (BestAt S1.cells now (m + 1) (m : Int)) := best_less B.out HBS.out HS.out ED.out (Or.inl a3)
                  have t3 : decide (wn < wbn) = true := decide_eq_true a3
                  clear a3
                  refine wp_region_held_drew (S := fun w' => Hid (Upd (fun _ => False) wq w')) (by kernel_rfl) ?_ (fun hHeld => ?_)
                  · exact UU
                  try simp only [Array.replicate, Act.put, List.setIfInBounds_toArray]
                  refine' wpAnyH_take (i := 0) (oi := _) (v := _) ?hiRB1x1 (by kernel_rfl) (by kernel_rfl) (by kernel_rfl) ?hQRB1x1 ?hyRB1x1 (by assumption) ?restRB1x1
                  case' hiRB1x1 => (first | (simp only [List.getElem?_toArray, List.getElem?_cons_succ, List.getElem?_cons_zero]; done) | (simp only [List.getElem?_toArray, List.getElem?_cons_succ, List.getElem?_cons_zero]; rfl))
                  case' hQRB1x1 => exact fun _ _ _ h => h
                  case' hyRB1x1 => refine Or.inl ⟨by rfl, ?_⟩
                  (intro w hSw; (try dsimp only at hSw); go_simp; try with_reducible rfl)
                  try simp only [Act.put, List.setIfInBounds_toArray, List.set_cons_zero, List.set_cons_succ]
                  refine' wpAnyH_take (i := 1) (oi := _) (v := _) ?hiRB1x2 (by kernel_rfl) (by kernel_rfl) (by kernel_rfl) ?hQRB1x2 ?hyRB1x2 (by assumption) ?restRB1x2
                  case' hiRB1x2 => (first | (simp only [List.getElem?_toArray, List.getElem?_cons_succ, List.getElem?_cons_zero]; done) | (simp only [List.getElem?_toArray, List.getElem?_cons_succ, List.getElem?_cons_zero]; rfl))
                  case' hQRB1x2 => exact fun _ _ _ h => h
                  case' hyRB1x2 => refine Or.inl ⟨by rfl, ?_⟩
                  (intro w hSw; (try dsimp only at hSw); go_simp; try with_reducible rfl)
                  try simp only [Act.put, List.setIfInBounds_toArray, List.set_cons_zero, List.set_cons_succ]
                  refine' wpAnyH_take (i := 2) (oi := _) (v := _) ?hiRB1x3 (by kernel_rfl) (by kernel_rfl) (by kernel_rfl) ?hQRB1x3 ?hyRB1x3 (by assumption) ?restRB1x3
                  case' hiRB1x3 => (first | (simp only [List.getElem?_toArray, List.getElem?_cons_succ, List.getElem?_cons_zero]; done) | (simp only [List.getElem?_toArray, List.getElem?_cons_succ, List.getElem?_cons_zero]; rfl))
                  case' hQRB1x3 => exact fun _ _ _ h => h
                  case' hyRB1x3 => refine Or.inl ⟨by rfl, ?_⟩
                  (intro w hSw; (try dsimp only at hSw); go_simp; try with_reducible rfl)
                  try simp only [Act.put, List.setIfInBounds_toArray, List.set_cons_zero, List.set_cons_succ]
                  refine' wpAnyH_take (i := 3) (oi := _) (v := _) ?hiRB1x4 (by kernel_rfl) (by kernel_rfl) (by kernel_rfl) ?hQRB1x4 ?hyRB1x4 (by assumption) ?restRB1x4
                  case' hiRB1x4 => (first | (simp only [List.getElem?_toArray, List.getElem?_cons_succ, List.getElem?_cons_zero]; done) | (simp only [List.getElem?_toArray, List.getElem?_cons_succ, List.getElem?_cons_zero]; rfl))
                  case' hQRB1x4 => exact fun _ _ _ h => h
                  case' hyRB1x4 => refine Or.inl ⟨by rfl, ?_⟩
                  (intro w hSw; (try dsimp only at hSw); go_simp; try with_reducible rfl)
                  try simp only [Act.put, List.setIfInBounds_toArray, List.set_cons_zero, List.set_cons_succ]
                  refine' wpAnyH_take (i := 4) (oi := _) (v := _) ?hiRB1x5 (by kernel_rfl) (by kernel_rfl) (by kernel_rfl) ?hQRB1x5 ?hyRB1x5 (by assumption) ?restRB1x5
                  case' hiRB1x5 => (first | (simp only [List.getElem?_toArray, List.getElem?_cons_succ, List.getElem?_cons_zero]; done) | (simp only [List.getElem?_toArray, List.getElem?_cons_succ, List.getElem?_cons_zero]; rfl))
                  case' hQRB1x5 => exact fun _ _ _ h => h
                  case' hyRB1x5 => refine Or.inl ⟨by rfl, ?_⟩
                  (intro w hSw; (obtain ⟨x0, lx, z0, z2, zl, y0, y4, yl⟩ := KP.out _ hSw.out); go_simp; try with_reducible rfl)
                  try simp only [Act.put, List.setIfInBounds_toArray, List.set_cons_zero, List.set_cons_succ]
                  refine' wpAnyH_take (i := 5) (oi := _) (v := _) ?hiRB1x6 (by kernel_rfl) (by kernel_rfl) (by kernel_rfl) ?hQRB1x6 ?hyRB1x6 (by assumption) ?restRB1x6
                  case' hiRB1x6 => (first | (simp only [List.getElem?_toArray, List.getElem?_cons_succ, List.getElem?_cons_zero]; done) | (simp only [List.getElem?_toArray, List.getElem?_cons_succ, List.getElem?_cons_zero]; rfl))
                  case' hQRB1x6 => exact fun _ _ _ h => h
                  case' hyRB1x6 => refine Or.inl ⟨by rfl, ?_⟩
                  (intro w hSw; (try dsimp only at hSw); go_simp; try with_reducible rfl)
                  try simp only [Act.put, List.setIfInBounds_toArray, List.set_cons_zero, List.set_cons_succ]
                  refine' wpAnyH_take (i := 6) (oi := _) (v := _) ?hiRB1x7 (by kernel_rfl) (by kernel_rfl) (by kernel_rfl) ?hQRB1x7 ?hyRB1x7 (by assumption) ?restRB1x7
                  case' hiRB1x7 => (first | (simp only [List.getElem?_toArray, List.getElem?_cons_succ, List.getElem?_cons_zero]; done) | (simp only [List.getElem?_toArray, List.getElem?_cons_succ, List.getElem?_cons_zero]; rfl))
                  case' hQRB1x7 => exact fun _ _ _ h => h
                  case' hyRB1x7 => refine Or.inl ⟨by rfl, ?_⟩
                  (intro w hSw; (try dsimp only at hSw); go_simp; try with_reducible rfl)
                  try simp only [Act.put, List.setIfInBounds_toArray, List.set_cons_zero, List.set_cons_succ]
                  refine' wpAnyH_take (i := 7) (oi := _) (v := _) ?hiRB1x8 (by kernel_rfl) (by kernel_rfl) (by kernel_rfl) ?hQRB1x8 ?hyRB1x8 (by assumption) ?restRB1x8
                  case' hiRB1x8 => (first | (simp only [List.getElem?_toArray, List.getElem?_cons_succ, List.getElem?_cons_zero]; done) | (simp only [List.getElem?_toArray, List.getElem?_cons_succ, List.getElem?_cons_zero]; rfl))
                  case' hQRB1x8 => exact fun _ _ _ h => h
                  case' hyRB1x8 => refine Or.inl ⟨by rfl, ?_⟩
                  (intro w hSw; (try dsimp only at hSw); go_simp; try with_reducible rfl)
                  try simp only [Act.put, List.setIfInBounds_toArray, List.set_cons_zero, List.set_cons_succ]
                  refine' wpAnyH_take (i := 8) (oi := _) (v := _) ?hiRB1x9 (by kernel_rfl) (by kernel_rfl) (by kernel_rfl) ?hQRB1x9 ?hyRB1x9 (by assumption) ?restRB1x9
                  case' hiRB1x9 => (first | (simp only [List.getElem?_toArray, List.getElem?_cons_succ, List.getElem?_cons_zero]; done) | (simp only [List.getElem?_toArray, List.getElem?_cons_succ, List.getElem?_cons_zero]; rfl))
                  case' hQRB1x9 => exact fun _ _ _ h => h
                  case' hyRB1x9 => refine Or.inl ⟨by rfl, ?_⟩
                  (intro w hSw; (obtain ⟨x0, lx, z0, z2, zl, y0, y4, yl⟩ := KP.out _ hSw.out); go_simp; try with_reducible rfl)
                  try simp only [Act.put, List.setIfInBounds_toArray, List.set_cons_zero, List.set_cons_succ]
                  refine' wpAnyH_take (i := 9) (oi := _) (v := _) ?hiRB1x10 (by kernel_rfl) (by kernel_rfl) (by kernel_rfl) ?hQRB1x10 ?hyRB1x10 (by assumption) ?restRB1x10
                  case' hiRB1x10 => (first | (simp only [List.getElem?_toArray, List.getElem?_cons_succ, List.getElem?_cons_zero]; done) | (simp only [List.getElem?_toArray, List.getElem?_cons_succ, List.getElem?_cons_zero]; rfl))
                  case' hQRB1x10 => exact fun _ _ _ h => h
                  case' hyRB1x10 => refine Or.inl ⟨by rfl, ?_⟩
                  (intro w hSw; (try dsimp only at hSw); go_simp; try with_reducible rfl)
                  try simp only [Act.put, List.setIfInBounds_toArray, List.set_cons_zero, List.set_cons_succ]
                  refine' wpAnyH_take (i := 10) (oi := _) (v := _) ?hiRB1x11 (by kernel_rfl) (by kernel_rfl) (by kernel_rfl) ?hQRB1x11 ?hyRB1x11 (by assumption) ?restRB1x11
                  case' hiRB1x11 => (first | (simp only [List.getElem?_toArray, List.getElem?_cons_succ, List.getElem?_cons_zero]; done) | (simp only [List.getElem?_toArray, List.getElem?_cons_succ, List.getElem?_cons_zero]; rfl))
                  case' hQRB1x11 => exact fun _ _ _ h => h
                  case' hyRB1x11 => refine Or.inl ⟨by rfl, ?_⟩
                  (intro w hSw; (try dsimp only at hSw); go_simp; try with_reducible rfl)
                  try simp only [Act.put, List.setIfInBounds_toArray, List.set_cons_zero, List.set_cons_succ]
                  refine' wpAnyH_take (i := 11) (oi := _) (v := _) ?hiRB1x12 (by kernel_rfl) (by kernel_rfl) (by kernel_rfl) ?hQRB1x12 ?hyRB1x12 (by assumption) ?restRB1x12
                  case' hiRB1x12 => (first | (simp only [List.getElem?_toArray, List.getElem?_cons_succ, List.getElem?_cons_zero]; done) | (simp only [List.getElem?_toArray, List.getElem?_cons_succ, List.getElem?_cons_zero]; rfl))
                  case' hQRB1x12 => exact fun _ _ _ h => h
                  case' hyRB1x12 => refine Or.inl ⟨by rfl, ?_⟩
                  (intro w hSw; (try dsimp only at hSw); go_simp; try with_reducible rfl)
                  try simp only [Act.put, List.setIfInBounds_toArray, List.set_cons_zero, List.set_cons_succ]
                  refine' wpAnyH_take (i := 12) (oi := _) (v := _) ?hiRB1x13 (by kernel_rfl) (by kernel_rfl) (by kernel_rfl) ?hQRB1x13 ?hyRB1x13 (by assumption) ?restRB1x13
                  case' hiRB1x13 => (first | (simp only [List.getElem?_toArray, List.getElem?_cons_succ, List.getElem?_cons_zero]; done) | (simp only [List.getElem?_toArray, List.getElem?_cons_succ, List.getElem?_cons_zero]; rfl))
                  case' hQRB1x13 => exact fun _ _ _ h => h
                  case' hyRB1x13 => refine Or.inl ⟨by rfl, ?_⟩
                  (intro w hSw; (obtain ⟨x0, lx, z0, z2, zl, y0, y4, yl⟩ := KP.out _ hSw.out); go_simp; try with_reducible rfl)
                  try simp only [Act.put, List.setIfInBounds_toArray, List.set_cons_zero, List.set_cons_succ]
                  refine' wpAnyH_take (i := 13) (oi := _) (v := _) ?hiRB1x14 (by kernel_rfl) (by kernel_rfl) (by kernel_rfl) ?hQRB1x14 ?hyRB1x14 (by assumption) ?restRB1x14
                  case' hiRB1x14 => (first | (simp only [List.getElem?_toArray, List.getElem?_cons_succ, List.getElem?_cons_zero]; done) | (simp only [List.getElem?_toArray, List.getElem?_cons_succ, List.getElem?_cons_zero]; rfl))
                  case' hQRB1x14 => exact fun _ _ _ h => h
                  case' hyRB1x14 => refine Or.inl ⟨by rfl, ?_⟩
                  (intro w hSw; (try dsimp only at hSw); go_simp; try with_reducible rfl)
                  try simp only [Act.put, List.setIfInBounds_toArray, List.set_cons_zero, List.set_cons_succ]
                  refine' wpAnyH_take (i := 14) (oi := _) (v := _) ?hiRB1x15 (by kernel_rfl) (by kernel_rfl) (by kernel_rfl) ?hQRB1x15 ?hyRB1x15 (by assumption) ?restRB1x15
                  case' hiRB1x15 => (first | (simp only [List.getElem?_toArray, List.getElem?_cons_succ, List.getElem?_cons_zero]; done) | (simp only [List.getElem?_toArray, List.getElem?_cons_succ, List.getElem?_cons_zero]; rfl))
                  case' hQRB1x15 => exact fun _ _ _ h => h
                  case' hyRB1x15 => refine Or.inl ⟨by rfl, ?_⟩
                  (intro w hSw; (try dsimp only at hSw); go_simp; try with_reducible rfl)
                  try simp only [Act.put, List.setIfInBounds_toArray, List.set_cons_zero, List.set_cons_succ]
                  refine' wpAnyH_take (i := 15) (oi := _) (v := _) ?hiRB1x16 (by kernel_rfl) (by kernel_rfl) (by kernel_rfl) ?hQRB1x16 ?hyRB1x16 (by assumption) ?restRB1x16
                  case' hiRB1x16 => (first | (simp only [List.getElem?_toArray, List.getElem?_cons_succ, List.getElem?_cons_zero]; done) | (simp only [List.getElem?_toArray, List.getElem?_cons_succ, List.getElem?_cons_zero]; rfl))
                  case' hQRB1x16 => exact fun _ _ _ h => h
                  case' hyRB1x16 => refine Or.inl ⟨by rfl, ?_⟩
                  (intro w hSw; (try dsimp only at hSw); go_simp; try with_reducible rfl)
                  try simp only [Act.put, List.setIfInBounds_toArray, List.set_cons_zero, List.set_cons_succ]
                  refine' wpAnyH_take (i := 16) (oi := _) (v := undef) ?hiRB1x17 (by kernel_rfl) (by kernel_rfl) (by kernel_rfl) ?hQRB1x17 ?hyRB1x17 (by assumption) ?restRB1x17
                  case' hiRB1x17 => (first | (simp only [List.getElem?_toArray, List.getElem?_cons_succ, List.getElem?_cons_zero]; done) | (simp only [List.getElem?_toArray, List.getElem?_cons_succ, List.getElem?_cons_zero]; rfl))
                  case' hQRB1x17 => exact fun _ _ _ h => h
                  case' hyRB1x17 => exact Or.inr ⟨by rfl, rfl⟩
                  try simp only [Act.put, List.setIfInBounds_toArray, List.set_cons_zero, List.set_cons_succ]
                  refine' wpAnyH_take (i := 17) (oi := _) (v := undef) ?hiRB1x18 (by kernel_rfl) (by kernel_rfl) (by kernel_rfl) ?hQRB1x18 ?hyRB1x18 (by assumption) ?restRB1x18
                  case' hiRB1x18 => (first | (simp only [List.getElem?_toArray, List.getElem?_cons_succ, List.getElem?_cons_zero]; done) | (simp only [List.getElem?_toArray, List.getElem?_cons_succ, List.getElem?_cons_zero]; rfl))
                  case' hQRB1x18 => exact fun _ _ _ h => h
                  case' hyRB1x18 => exact Or.inr ⟨by rfl, rfl⟩
                  try simp only [Act.put, List.setIfInBounds_toArray, List.set_cons_zero, List.set_cons_succ]
                  refine' wpAnyH_take (i := 18) (oi := _) (v := undef) ?hiRB1x19 (by kernel_rfl) (by kernel_rfl) (by kernel_rfl) ?hQRB1x19 ?hyRB1x19 (by assumption) ?restRB1x19
                  case' hiRB1x19 => (first | (simp only [List.getElem?_toArray, List.getElem?_cons_succ, List.getElem?_cons_zero]; done) | (simp only [List.getElem?_toArray, List.getElem?_cons_succ, List.getElem?_cons_zero]; rfl))
                  case' hQRB1x19 => exact fun _ _ _ h => h
                  case' hyRB1x19 => exact Or.inr ⟨by rfl, rfl⟩
                  try simp only [Act.put, List.setIfInBounds_toArray, List.set_cons_zero, List.set_cons_succ]
                  refine' wpAnyH_take (i := 19) (oi := _) (v := undef) ?hiRB1x20 (by kernel_rfl) (by kernel_rfl) (by kernel_rfl) ?hQRB1x20 ?hyRB1x20 (by assumption) ?restRB1x20
                  case' hiRB1x20 => (first | (simp only [List.getElem?_toArray, List.getElem?_cons_succ, List.getElem?_cons_zero]; done) | (simp only [List.getElem?_toArray, List.getElem?_cons_succ, List.getElem?_cons_zero]; rfl))
                  case' hQRB1x20 => exact fun _ _ _ h => h
                  case' hyRB1x20 => exact Or.inr ⟨by rfl, rfl⟩
                  try simp only [Act.put, List.setIfInBounds_toArray, List.set_cons_zero, List.set_cons_succ]
                  refine' wpAnyH_take (i := 20) (oi := _) (v := undef) ?hiRB1x21 (by kernel_rfl) (by kernel_rfl) (by kernel_rfl) ?hQRB1x21 ?hyRB1x21 (by assumption) ?restRB1x21
                  case' hiRB1x21 => (first | (simp only [List.getElem?_toArray, List.getElem?_cons_succ, List.getElem?_cons_zero]; done) | (simp only [List.getElem?_toArray, List.getElem?_cons_succ, List.getElem?_cons_zero]; rfl))
                  case' hQRB1x21 => exact fun _ _ _ h => h
                  case' hyRB1x21 => exact Or.inr ⟨by rfl, rfl⟩
                  try simp only [Act.put, List.setIfInBounds_toArray, List.set_cons_zero, List.set_cons_succ]
                  refine' wpAnyH_take (i := 21) (oi := _) (v := undef) ?hiRB1x22 (by kernel_rfl) (by kernel_rfl) (by kernel_rfl) ?hQRB1x22 ?hyRB1x22 (by assumption) ?restRB1x22
                  case' hiRB1x22 => (first | (simp only [List.getElem?_toArray, List.getElem?_cons_succ, List.getElem?_cons_zero]; done) | (simp only [List.getElem?_toArray, List.getElem?_cons_succ, List.getElem?_cons_zero]; rfl))
                  case' hQRB1x22 => exact fun _ _ _ h => h
                  case' hyRB1x22 => exact Or.inr ⟨by rfl, rfl⟩
                  try simp only [Act.put, List.setIfInBounds_toArray, List.set_cons_zero, List.set_cons_succ]
                  refine' wpAnyH_take (i := 22) (oi := _) (v := undef) ?hiRB1x23 (by kernel_rfl) (by kernel_rfl) (by kernel_rfl) ?hQRB1x23 ?hyRB1x23 (by assumption) ?restRB1x23
                  case' hiRB1x23 => (first | (simp only [List.getElem?_toArray, List.getElem?_cons_succ, List.getElem?_cons_zero]; done) | (simp only [List.getElem?_toArray, List.getElem?_cons_succ, List.getElem?_cons_zero]; rfl))
                  case' hQRB1x23 => exact fun _ _ _ h => h
                  case' hyRB1x23 => exact Or.inr ⟨by rfl, rfl⟩
                  try simp only [Act.put, List.setIfInBounds_toArray, List.set_cons_zero, List.set_cons_succ]
                  refine' wpAnyH_take (i := 23) (oi := _) (v := undef) ?hiRB1x24 (by kernel_rfl) (by kernel_rfl) (by kernel_rfl) ?hQRB1x24 ?hyRB1x24 (by assumption) ?restRB1x24
                  case' hiRB1x24 => (first | (simp only [List.getElem?_toArray, List.getElem?_cons_succ, List.getElem?_cons_zero]; done) | (simp only [List.getElem?_toArray, List.getElem?_cons_succ, List.getElem?_cons_zero]; rfl))
                  case' hQRB1x24 => exact fun _ _ _ h => h
                  case' hyRB1x24 => exact Or.inr ⟨by rfl, rfl⟩
                  try simp only [Act.put, List.setIfInBounds_toArray, List.set_cons_zero, List.set_cons_succ]
                  refine' wpAnyH_take (i := 24) (oi := _) (v := undef) ?hiRB1x25 (by kernel_rfl) (by kernel_rfl) (by kernel_rfl) ?hQRB1x25 ?hyRB1x25 (by assumption) ?restRB1x25
                  case' hiRB1x25 => (first | (simp only [List.getElem?_toArray, List.getElem?_cons_succ, List.getElem?_cons_zero]; done) | (simp only [List.getElem?_toArray, List.getElem?_cons_succ, List.getElem?_cons_zero]; rfl))
                  case' hQRB1x25 => exact fun _ _ _ h => h
                  case' hyRB1x25 => exact Or.inr ⟨by rfl, rfl⟩
                  try simp only [Act.put, List.setIfInBounds_toArray, List.set_cons_zero, List.set_cons_succ]
                  refine' wpAnyH_take (i := 25) (oi := _) (v := undef) ?hiRB1x26 (by kernel_rfl) (by kernel_rfl) (by kernel_rfl) ?hQRB1x26 ?hyRB1x26 (by assumption) ?restRB1x26
                  case' hiRB1x26 => (first | (simp only [List.getElem?_toArray, List.getElem?_cons_succ, List.getElem?_cons_zero]; done) | (simp only [List.getElem?_toArray, List.getElem?_cons_succ, List.getElem?_cons_zero]; rfl))
                  case' hQRB1x26 => exact fun _ _ _ h => h
                  case' hyRB1x26 => exact Or.inr ⟨by rfl, rfl⟩
                  try simp only [Act.put, List.setIfInBounds_toArray, List.set_cons_zero, List.set_cons_succ]
                  refine' wpAnyH_take (i := 26) (oi := _) (v := undef) ?hiRB1x27 (by kernel_rfl) (by kernel_rfl) (by kernel_rfl) ?hQRB1x27 ?hyRB1x27 (by assumption) ?restRB1x27
                  case' hiRB1x27 => (first | (simp only [List.getElem?_toArray, List.getElem?_cons_succ, List.getElem?_cons_zero]; done) | (simp only [List.getElem?_toArray, List.getElem?_cons_succ, List.getElem?_cons_zero]; rfl))
                  case' hQRB1x27 => exact fun _ _ _ h => h
                  case' hyRB1x27 => exact Or.inr ⟨by rfl, rfl⟩
                  try simp only [Act.put, List.setIfInBounds_toArray, List.set_cons_zero, List.set_cons_succ]
                  refine' wpAnyH_take (i := 27) (oi := _) (v := undef) ?hiRB1x28 (by kernel_rfl) (by kernel_rfl) (by kernel_rfl) ?hQRB1x28 ?hyRB1x28 (by assumption) ?restRB1x28
                  case' hiRB1x28 => (first | (simp only [List.getElem?_toArray, List.getElem?_cons_succ, List.getElem?_cons_zero]; done) | (simp only [List.getElem?_toArray, List.getElem?_cons_succ, List.getElem?_cons_zero]; rfl))
                  case' hQRB1x28 => exact fun _ _ _ h => h
                  case' hyRB1x28 => exact Or.inr ⟨by rfl, rfl⟩
                  try simp only [Act.put, List.setIfInBounds_toArray, List.set_cons_zero, List.set_cons_succ]
                  refine' wpAnyH_take (i := 28) (oi := _) (v := undef) ?hiRB1x29 (by kernel_rfl) (by kernel_rfl) (by kernel_rfl) ?hQRB1x29 ?hyRB1x29 (by assumption) ?restRB1x29
                  case' hiRB1x29 => (first | (simp only [List.getElem?_toArray, List.getElem?_cons_succ, List.getElem?_cons_zero]; done) | (simp only [List.getElem?_toArray, List.getElem?_cons_succ, List.getElem?_cons_zero]; rfl))
                  case' hQRB1x29 => exact fun _ _ _ h => h
                  case' hyRB1x29 => exact Or.inr ⟨by rfl, rfl⟩
                  try simp only [Act.put, List.setIfInBounds_toArray, List.set_cons_zero, List.set_cons_succ]
                  refine' wpAnyH_take (i := 29) (oi := _) (v := undef) ?hiRB1x30 (by kernel_rfl) (by kernel_rfl) (by kernel_rfl) ?hQRB1x30 ?hyRB1x30 (by assumption) ?restRB1x30
                  case' hiRB1x30 => (first | (simp only [List.getElem?_toArray, List.getElem?_cons_succ, List.getElem?_cons_zero]; done) | (simp only [List.getElem?_toArray, List.getElem?_cons_succ, List.getElem?_cons_zero]; rfl))
                  case' hQRB1x30 => exact fun _ _ _ h => h
                  case' hyRB1x30 => exact Or.inr ⟨by rfl, rfl⟩
                  try simp only [Act.put, List.setIfInBounds_toArray, List.set_cons_zero, List.set_cons_succ]
                  refine' wpAnyH_take (i := 30) (oi := _) (v := undef) ?hiRB1x31 (by kernel_rfl) (by kernel_rfl) (by kernel_rfl) ?hQRB1x31 ?hyRB1x31 (by assumption) ?restRB1x31
                  case' hiRB1x31 => (first | (simp only [List.getElem?_toArray, List.getElem?_cons_succ, List.getElem?_cons_zero]; done) | (simp only [List.getElem?_toArray, List.getElem?_cons_succ, List.getElem?_cons_zero]; rfl))
                  case' hQRB1x31 => exact fun _ _ _ h => h
                  case' hyRB1x31 => exact Or.inr ⟨by rfl, rfl⟩
                  try simp only [Act.put, List.setIfInBounds_toArray, List.set_cons_zero, List.set_cons_succ]
                  refine' wpAnyH_take (i := 31) (oi := _) (v := undef) ?hiRB1x32 (by kernel_rfl) (by kernel_rfl) (by kernel_rfl) ?hQRB1x32 ?hyRB1x32 (by assumption) ?restRB1x32
                  case' hiRB1x32 => (first | (simp only [List.getElem?_toArray, List.getElem?_cons_succ, List.getElem?_cons_zero]; done) | (simp only [List.getElem?_toArray, List.getElem?_cons_succ, List.getElem?_cons_zero]; rfl))
                  case' hQRB1x32 => exact fun _ _ _ h => h
                  case' hyRB1x32 => exact Or.inr ⟨by rfl, rfl⟩
                  try simp only [Act.put, List.setIfInBounds_toArray, List.set_cons_zero, List.set_cons_succ]
                  refine' wpAnyH_take (i := 32) (oi := _) (v := undef) ?hiRB1x33 (by kernel_rfl) (by kernel_rfl) (by kernel_rfl) ?hQRB1x33 ?hyRB1x33 (by assumption) ?restRB1x33
                  case' hiRB1x33 => (first | (simp only [List.getElem?_toArray, List.getElem?_cons_succ, List.getElem?_cons_zero]; done) | (simp only [List.getElem?_toArray, List.getElem?_cons_succ, List.getElem?_cons_zero]; rfl))
                  case' hQRB1x33 => exact fun _ _ _ h => h
                  case' hyRB1x33 => exact Or.inr ⟨by rfl, rfl⟩
                  try simp only [Act.put, List.setIfInBounds_toArray, List.set_cons_zero, List.set_cons_succ]
                  refine' wpAnyH_take (i := 33) (oi := _) (v := undef) ?hiRB1x34 (by kernel_rfl) (by kernel_rfl) (by kernel_rfl) ?hQRB1x34 ?hyRB1x34 (by assumption) ?restRB1x34
                  case' hiRB1x34 => (first | (simp only [List.getElem?_toArray, List.getElem?_cons_succ, List.getElem?_cons_zero]; done) | (simp only [List.getElem?_toArray, List.getElem?_cons_succ, List.getElem?_cons_zero]; rfl))
                  case' hQRB1x34 => exact fun _ _ _ h => h
                  case' hyRB1x34 => exact Or.inr ⟨by rfl, rfl⟩
                  try simp only [Act.put, List.setIfInBounds_toArray, List.set_cons_zero, List.set_cons_succ]
                  refine' wpAnyH_take (i := 34) (oi := _) (v := undef) ?hiRB1x35 (by kernel_rfl) (by kernel_rfl) (by kernel_rfl) ?hQRB1x35 ?hyRB1x35 (by assumption) ?restRB1x35
                  case' hiRB1x35 => (first | (simp only [List.getElem?_toArray, List.getElem?_cons_succ, List.getElem?_cons_zero]; done) | (simp only [List.getElem?_toArray, List.getElem?_cons_succ, List.getElem?_cons_zero]; rfl))
                  case' hQRB1x35 => exact fun _ _ _ h => h
                  case' hyRB1x35 => exact Or.inr ⟨by rfl, rfl⟩
                  try simp only [Act.put, List.setIfInBounds_toArray, List.set_cons_zero, List.set_cons_succ]
                  refine' wpAnyH_take (i := 35) (oi := _) (v := undef) ?hiRB1x36 (by kernel_rfl) (by kernel_rfl) (by kernel_rfl) ?hQRB1x36 ?hyRB1x36 (by assumption) ?restRB1x36
                  case' hiRB1x36 => (first | (simp only [List.getElem?_toArray, List.getElem?_cons_succ, List.getElem?_cons_zero]; done) | (simp only [List.getElem?_toArray, List.getElem?_cons_succ, List.getElem?_cons_zero]; rfl))
                  case' hQRB1x36 => exact fun _ _ _ h => h
                  case' hyRB1x36 => exact Or.inr ⟨by rfl, rfl⟩
                  try simp only [Act.put, List.setIfInBounds_toArray, List.set_cons_zero, List.set_cons_succ]
                  refine' wpAnyH_take (i := 36) (oi := _) (v := undef) ?hiRB1x37 (by kernel_rfl) (by kernel_rfl) (by kernel_rfl) ?hQRB1x37 ?hyRB1x37 (by assumption) ?restRB1x37
                  case' hiRB1x37 => (first | (simp only [List.getElem?_toArray, List.getElem?_cons_succ, List.getElem?_cons_zero]; done) | (simp only [List.getElem?_toArray, List.getElem?_cons_succ, List.getElem?_cons_zero]; rfl))
                  case' hQRB1x37 => exact fun _ _ _ h => h
                  case' hyRB1x37 => exact Or.inr ⟨by rfl, rfl⟩
                  try simp only [Act.put, List.setIfInBounds_toArray, List.set_cons_zero, List.set_cons_succ]
                  refine' wpAnyH_take (i := 37) (oi := _) (v := undef) ?hiRB1x38 (by kernel_rfl) (by kernel_rfl) (by kernel_rfl) ?hQRB1x38 ?hyRB1x38 (by assumption) ?restRB1x38
                  case' hiRB1x38 => (first | (simp only [List.getElem?_toArray, List.getElem?_cons_succ, List.getElem?_cons_zero]; done) | (simp only [List.getElem?_toArray, List.getElem?_cons_succ, List.getElem?_cons_zero]; rfl))
                  case' hQRB1x38 => exact fun _ _ _ h => h
                  case' hyRB1x38 => exact Or.inr ⟨by rfl, rfl⟩
                  try simp only [Act.put, List.setIfInBounds_toArray, List.set_cons_zero, List.set_cons_succ]
                  refine' wpAnyH_take (i := 38) (oi := _) (v := undef) ?hiRB1x39 (by kernel_rfl) (by kernel_rfl) (by kernel_rfl) ?hQRB1x39 ?hyRB1x39 (by assumption) ?restRB1x39
                  case' hiRB1x39 => (first | (simp only [List.getElem?_toArray, List.getElem?_cons_succ, List.getElem?_cons_zero]; done) | (simp only [List.getElem?_toArray, List.getElem?_cons_succ, List.getElem?_cons_zero]; rfl))
                  case' hQRB1x39 => exact fun _ _ _ h => h
                  case' hyRB1x39 => exact Or.inr ⟨by rfl, rfl⟩
                  try simp only [Act.put, List.setIfInBounds_toArray, List.set_cons_zero, List.set_cons_succ]
                  refine' wpAnyH_take (i := 39) (oi := _) (v := undef) ?hiRB1x40 (by kernel_rfl) (by kernel_rfl) (by kernel_rfl) ?hQRB1x40 ?hyRB1x40 (by assumption) ?restRB1x40
                  case' hiRB1x40 => (first | (simp only [List.getElem?_toArray, List.getElem?_cons_succ, List.getElem?_cons_zero]; done) | (simp only [List.getElem?_toArray, List.getElem?_cons_succ, List.getElem?_cons_zero]; rfl))
                  case' hQRB1x40 => exact fun _ _ _ h => h
                  case' hyRB1x40 => exact Or.inr ⟨by rfl, rfl⟩
                  try simp only [Act.put, List.setIfInBounds_toArray, List.set_cons_zero, List.set_cons_succ]
                  refine' wpAnyH_take (i := 40) (oi := _) (v := _) ?hiRB1x41 (by kernel_rfl) (by kernel_rfl) (by kernel_rfl) ?hQRB1x41 ?hyRB1x41 (by assumption) ?restRB1x41
                  case' hiRB1x41 => (first | (simp only [List.getElem?_toArray, List.getElem?_cons_succ, List.getElem?_cons_zero]; done) | (simp only [List.getElem?_toArray, List.getElem?_cons_succ, List.getElem?_cons_zero]; rfl))
                  case' hQRB1x41 => exact fun _ _ _ h => h
                  case' hyRB1x41 => refine Or.inl ⟨by rfl, ?_⟩
                  (intro w hSw; (try dsimp only at hSw); go_simp; try with_reducible rfl)
                  try simp only [Act.put, List.setIfInBounds_toArray, List.set_cons_zero, List.set_cons_succ]
                  refine wpAnyH_done (by kernel_rfl) ?_ _
                  skip
                  have UN : Hid (Upd (fun _ => False) wo wq.drew) := US.out.trans UU.out (fun _ _ h => h)
                  go_wp2
                  go_roundw
                  case rel => exact ⟨m + 1, by omega, by simp, m, rfl, NB, UN⟩
                  case measure => simp [intOf]; omega
                · have t3 : decide (wn < wbn) = false := decide_eq_false a3
                  by_cases a4 : wn = wbn
                  · subst a4
                    clear a3
                    cases a5 : Op.bytesLess ky.toList kb.toList with
                    | true =>
                      have NB : Hid (BestAt S1.cells now (m + 1) (m : Int)) := best_less B.out HBS.out HS.out ED.out (Or.inr ⟨rfl, by rw [bytesLess_lt] at a5; exact of_decide_eq_true a5⟩)
                      refine wp_region_held_drew (S := fun w' => Hid (Upd (fun _ => False) wq w')) (by kernel_rfl) ?_ (fun hHeld => ?_)
                      · exact UU
                      try simp only [Array.replicate, Act.put, List.setIfInBounds_toArray]
                      refine' wpAnyH_take (i := 0) (oi := _) (v := _) ?hiRC2x1 (by kernel_rfl) (by kernel_rfl) (by kernel_rfl) ?hQRC2x1 ?hyRC2x1 (by assumption) ?restRC2x1
                      case' hiRC2x1 => (first | (simp only [List.getElem?_toArray, List.getElem?_cons_succ, List.getElem?_cons_zero]; done) | (simp only [List.getElem?_toArray, List.getElem?_cons_succ, List.getElem?_cons_zero]; rfl))
                      case' hQRC2x1 => exact fun _ _ _ h => h
                      case' hyRC2x1 => refine Or.inl ⟨by rfl, ?_⟩
                      (intro w hSw; (try dsimp only at hSw); go_simp; try with_reducible rfl)
                      try simp only [Act.put, List.setIfInBounds_toArray, List.set_cons_zero, List.set_cons_succ]
                      refine' wpAnyH_take (i := 1) (oi := _) (v := _) ?hiRC2x2 (by kernel_rfl) (by kernel_rfl) (by kernel_rfl) ?hQRC2x2 ?hyRC2x2 (by assumption) ?restRC2x2
                      case' hiRC2x2 => (first | (simp only [List.getElem?_toArray, List.getElem?_cons_succ, List.getElem?_cons_zero]; done) | (simp only [List.getElem?_toArray, List.getElem?_cons_succ, List.getElem?_cons_zero]; rfl))
                      case' hQRC2x2 => exact fun _ _ _ h => h
                      case' hyRC2x2 => refine Or.inl ⟨by rfl, ?_⟩
                      (intro w hSw; (try dsimp only at hSw); go_simp; try with_reducible rfl)
                      try simp only [Act.put, List.setIfInBounds_toArray, List.set_cons_zero, List.set_cons_succ]
                      refine' wpAnyH_take (i := 2) (oi := _) (v := _) ?hiRC2x3 (by kernel_rfl) (by kernel_rfl) (by kernel_rfl) ?hQRC2x3 ?hyRC2x3 (by assumption) ?restRC2x3
                      case' hiRC2x3 => (first | (simp only [List.getElem?_toArray, List.getElem?_cons_succ, List.getElem?_cons_zero]; done) | (simp only [List.getElem?_toArray, List.getElem?_cons_succ, List.getElem?_cons_zero]; rfl))
                      case' hQRC2x3 => exact fun _ _ _ h => h
                      case' hyRC2x3 => refine Or.inl ⟨by rfl, ?_⟩
                      (intro w hSw; (try dsimp only at hSw); go_simp; try with_reducible rfl)
                      try simp only [Act.put, List.setIfInBounds_toArray, List.set_cons_zero, List.set_cons_succ]
                      refine' wpAnyH_take (i := 3) (oi := _) (v := _) ?hiRC2x4 (by kernel_rfl) (by kernel_rfl) (by kernel_rfl) ?hQRC2x4 ?hyRC2x4 (by assumption) ?restRC2x4
                      case' hiRC2x4 => (first | (simp only [List.getElem?_toArray, List.getElem?_cons_succ, List.getElem?_cons_zero]; done) | (simp only [List.getElem?_toArray, List.getElem?_cons_succ, List.getElem?_cons_zero]; rfl))
                      case' hQRC2x4 => exact fun _ _ _ h => h
                      case' hyRC2x4 => refine Or.inl ⟨by rfl, ?_⟩
                      (intro w hSw; (try dsimp only at hSw); go_simp; try with_reducible rfl)
                      try simp only [Act.put, List.setIfInBounds_toArray, List.set_cons_zero, List.set_cons_succ]
                      refine' wpAnyH_take (i := 4) (oi := _) (v := _) ?hiRC2x5 (by kernel_rfl) (by kernel_rfl) (by kernel_rfl) ?hQRC2x5 ?hyRC2x5 (by assumption) ?restRC2x5
                      case' hiRC2x5 => (first | (simp only [List.getElem?_toArray, List.getElem?_cons_succ, List.getElem?_cons_zero]; done) | (simp only [List.getElem?_toArray, List.getElem?_cons_succ, List.getElem?_cons_zero]; rfl))
                      case' hQRC2x5 => exact fun _ _ _ h => h
                      case' hyRC2x5 => refine Or.inl ⟨by rfl, ?_⟩
                      (intro w hSw; (obtain ⟨x0, lx, z0, z2, zl, y0, y4, yl⟩ := KP.out _ hSw.out); go_simp; try with_reducible rfl)
                      try simp only [Act.put, List.setIfInBounds_toArray, List.set_cons_zero, List.set_cons_succ]
                      refine' wpAnyH_take (i := 5) (oi := _) (v := _) ?hiRC2x6 (by kernel_rfl) (by kernel_rfl) (by kernel_rfl) ?hQRC2x6 ?hyRC2x6 (by assumption) ?restRC2x6
                      case' hiRC2x6 => (first | (simp only [List.getElem?_toArray, List.getElem?_cons_succ, List.getElem?_cons_zero]; done) | (simp only [List.getElem?_toArray, List.getElem?_cons_succ, List.getElem?_cons_zero]; rfl))
                      case' hQRC2x6 => exact fun _ _ _ h => h
                      case' hyRC2x6 => refine Or.inl ⟨by rfl, ?_⟩
                      (intro w hSw; (try dsimp only at hSw); go_simp; try with_reducible rfl)
                      try simp only [Act.put, List.setIfInBounds_toArray, List.set_cons_zero, List.set_cons_succ]
                      refine' wpAnyH_take (i := 6) (oi := _) (v := _) ?hiRC2x7 (by kernel_rfl) (by kernel_rfl) (by kernel_rfl) ?hQRC2x7 ?hyRC2x7 (by assumption) ?restRC2x7
                      case' hiRC2x7 => (first | (simp only [List.getElem?_toArray, List.getElem?_cons_succ, List.getElem?_cons_zero]; done) | (simp only [List.getElem?_toArray, List.getElem?_cons_succ, List.getElem?_cons_zero]; rfl))
                      case' hQRC2x7 => exact fun _ _ _ h => h
                      case' hyRC2x7 => refine Or.inl ⟨by rfl, ?_⟩
                      (intro w hSw; (try dsimp only at hSw); go_simp; try with_reducible rfl)
                      try simp only [Act.put, List.setIfInBounds_toArray, List.set_cons_zero, List.set_cons_succ]
                      refine' wpAnyH_take (i := 7) (oi := _) (v := _) ?hiRC2x8 (by kernel_rfl) (by kernel_rfl) (by kernel_rfl) ?hQRC2x8 ?hyRC2x8 (by assumption) ?restRC2x8
                      case' hiRC2x8 => (first | (simp only [List.getElem?_toArray, List.getElem?_cons_succ, List.getElem?_cons_zero]; done) | (simp only [List.getElem?_toArray, List.getElem?_cons_succ, List.getElem?_cons_zero]; rfl))
                      case' hQRC2x8 => exact fun _ _ _ h => h
                      case' hyRC2x8 => refine Or.inl ⟨by rfl, ?_⟩
                      (intro w hSw; (try dsimp only at hSw); go_simp; try with_reducible rfl)
                      try simp only [Act.put, List.setIfInBounds_toArray, List.set_cons_zero, List.set_cons_succ]
                      refine' wpAnyH_take (i := 8) (oi := _) (v := _) ?hiRC2x9 (by kernel_rfl) (by kernel_rfl) (by kernel_rfl) ?hQRC2x9 ?hyRC2x9 (by assumption) ?restRC2x9
                      case' hiRC2x9 => (first | (simp only [List.getElem?_toArray, List.getElem?_cons_succ, List.getElem?_cons_zero]; done) | (simp only [List.getElem?_toArray, List.getElem?_cons_succ, List.getElem?_cons_zero]; rfl))
                      case' hQRC2x9 => exact fun _ _ _ h => h
                      case' hyRC2x9 => refine Or.inl ⟨by rfl, ?_⟩
                      (intro w hSw; (obtain ⟨x0, lx, z0, z2, zl, y0, y4, yl⟩ := KP.out _ hSw.out); go_simp; try with_reducible rfl)
                      try simp only [Act.put, List.setIfInBounds_toArray, List.set_cons_zero, List.set_cons_succ]
                      refine' wpAnyH_take (i := 9) (oi := _) (v := _) ?hiRC2x10 (by kernel_rfl) (by kernel_rfl) (by kernel_rfl) ?hQRC2x10 ?hyRC2x10 (by assumption) ?restRC2x10
                      case' hiRC2x10 => (first | (simp only [List.getElem?_toArray, List.getElem?_cons_succ, List.getElem?_cons_zero]; done) | (simp only [List.getElem?_toArray, List.getElem?_cons_succ, List.getElem?_cons_zero]; rfl))
                      case' hQRC2x10 => exact fun _ _ _ h => h
                      case' hyRC2x10 => refine Or.inl ⟨by rfl, ?_⟩
                      (intro w hSw; (try dsimp only at hSw); go_simp; try with_reducible rfl)
                      try simp only [Act.put, List.setIfInBounds_toArray, List.set_cons_zero, List.set_cons_succ]
                      refine' wpAnyH_take (i := 10) (oi := _) (v := _) ?hiRC2x11 (by kernel_rfl) (by kernel_rfl) (by kernel_rfl) ?hQRC2x11 ?hyRC2x11 (by assumption) ?restRC2x11
                      case' hiRC2x11 => (first | (simp only [List.getElem?_toArray, List.getElem?_cons_succ, List.getElem?_cons_zero]; done) | (simp only [List.getElem?_toArray, List.getElem?_cons_succ, List.getElem?_cons_zero]; rfl))
                      case' hQRC2x11 => exact fun _ _ _ h => h
                      case' hyRC2x11 => refine Or.inl ⟨by rfl, ?_⟩
                      (intro w hSw; (try dsimp only at hSw); go_simp; try with_reducible rfl)
                      try simp only [Act.put, List.setIfInBounds_toArray, List.set_cons_zero, List.set_cons_succ]
                      refine' wpAnyH_take (i := 11) (oi := _) (v := _) ?hiRC2x12 (by kernel_rfl) (by kernel_rfl) (by kernel_rfl) ?hQRC2x12 ?hyRC2x12 (by assumption) ?restRC2x12
                      case' hiRC2x12 => (first | (simp only [List.getElem?_toArray, List.getElem?_cons_succ, List.getElem?_cons_zero]; done) | (simp only [List.getElem?_toArray, List.getElem?_cons_succ, List.getElem?_cons_zero]; rfl))
                      case' hQRC2x12 => exact fun _ _ _ h => h
                      case' hyRC2x12 => refine Or.inl ⟨by rfl, ?_⟩
                      (intro w hSw; (try dsimp only at hSw); go_simp; try with_reducible rfl)
                      try simp only [Act.put, List.setIfInBounds_toArray, List.set_cons_zero, List.set_cons_succ]
                      refine' wpAnyH_take (i := 12) (oi := _) (v := _) ?hiRC2x13 (by kernel_rfl) (by kernel_rfl) (by kernel_rfl) ?hQRC2x13 ?hyRC2x13 (by assumption) ?restRC2x13
                      case' hiRC2x13 => (first | (simp only [List.getElem?_toArray, List.getElem?_cons_succ, List.getElem?_cons_zero]; done) | (simp only [List.getElem?_toArray, List.getElem?_cons_succ, List.getElem?_cons_zero]; rfl))
                      case' hQRC2x13 => exact fun _ _ _ h => h
                      case' hyRC2x13 => refine Or.inl ⟨by rfl, ?_⟩
                      (intro w hSw; (obtain ⟨x0, lx, z0, z2, zl, y0, y4, yl⟩ := KP.out _ hSw.out); go_simp; try with_reducible rfl)
                      try simp only [Act.put, List.setIfInBounds_toArray, List.set_cons_zero, List.set_cons_succ]
                      refine' wpAnyH_take (i := 13) (oi := _) (v := _) ?hiRC2x14 (by kernel_rfl) (by kernel_rfl) (by kernel_rfl) ?hQRC2x14 ?hyRC2x14 (by assumption) ?restRC2x14
                      case' hiRC2x14 => (first | (simp only [List.getElem?_toArray, List.getElem?_cons_succ, List.getElem?_cons_zero]; done) | (simp only [List.getElem?_toArray, List.getElem?_cons_succ, List.getElem?_cons_zero]; rfl))
                      case' hQRC2x14 => exact fun _ _ _ h => h
                      case' hyRC2x14 => refine Or.inl ⟨by rfl, ?_⟩
                      (intro w hSw; (try dsimp only at hSw); go_simp; try with_reducible rfl)
                      try simp only [Act.put, List.setIfInBounds_toArray, List.set_cons_zero, List.set_cons_succ]
                      refine' wpAnyH_take (i := 14) (oi := _) (v := _) ?hiRC2x15 (by kernel_rfl) (by kernel_rfl) (by kernel_rfl) ?hQRC2x15 ?hyRC2x15 (by assumption) ?restRC2x15
                      case' hiRC2x15 => (first | (simp only [List.getElem?_toArray, List.getElem?_cons_succ, List.getElem?_cons_zero]; done) | (simp only [List.getElem?_toArray, List.getElem?_cons_succ, List.getElem?_cons_zero]; rfl))
                      case' hQRC2x15 => exact fun _ _ _ h => h
                      case' hyRC2x15 => refine Or.inl ⟨by rfl, ?_⟩
                      (intro w hSw; (try dsimp only at hSw); go_simp; try with_reducible rfl)
                      try simp only [Act.put, List.setIfInBounds_toArray, List.set_cons_zero, List.set_cons_succ]
                      refine' wpAnyH_take (i := 15) (oi := _) (v := _) ?hiRC2x16 (by kernel_rfl) (by kernel_rfl) (by kernel_rfl) ?hQRC2x16 ?hyRC2x16 (by assumption) ?restRC2x16
                      case' hiRC2x16 => (first | (simp only [List.getElem?_toArray, List.getElem?_cons_succ, List.getElem?_cons_zero]; done) | (simp only [List.getElem?_toArray, List.getElem?_cons_succ, List.getElem?_cons_zero]; rfl))
                      case' hQRC2x16 => exact fun _ _ _ h => h
                      case' hyRC2x16 => refine Or.inl ⟨by rfl, ?_⟩
                      (intro w hSw; (try dsimp only at hSw); go_simp; try with_reducible rfl)
                      try simp only [Act.put, List.setIfInBounds_toArray, List.set_cons_zero, List.set_cons_succ]
                      refine' wpAnyH_take (i := 16) (oi := _) (v := _) ?hiRC2x17 (by kernel_rfl) (by kernel_rfl) (by kernel_rfl) ?hQRC2x17 ?hyRC2x17 (by assumption) ?restRC2x17
                      case' hiRC2x17 => (first | (simp only [List.getElem?_toArray, List.getElem?_cons_succ, List.getElem?_cons_zero]; done) | (simp only [List.getElem?_toArray, List.getElem?_cons_succ, List.getElem?_cons_zero]; rfl))
                      case' hQRC2x17 => exact fun _ _ _ h => h
                      case' hyRC2x17 => refine Or.inl ⟨by rfl, ?_⟩
                      (intro w hSw; (try dsimp only at hSw); go_simp; try with_reducible rfl)
                      try simp only [Act.put, List.setIfInBounds_toArray, List.set_cons_zero, List.set_cons_succ]
                      refine' wpAnyH_take (i := 17) (oi := _) (v := _) ?hiRC2x18 (by kernel_rfl) (by kernel_rfl) (by kernel_rfl) ?hQRC2x18 ?hyRC2x18 (by assumption) ?restRC2x18
                      case' hiRC2x18 => (first | (simp only [List.getElem?_toArray, List.getElem?_cons_succ, List.getElem?_cons_zero]; done) | (simp only [List.getElem?_toArray, List.getElem?_cons_succ, List.getElem?_cons_zero]; rfl))
                      case' hQRC2x18 => exact fun _ _ _ h => h
                      case' hyRC2x18 => refine Or.inl ⟨by rfl, ?_⟩
                      (intro w hSw; (obtain ⟨x0, lx, z0, z2, zl, y0, y4, yl⟩ := KP.out _ hSw.out); go_simp; try with_reducible rfl)
                      try simp only [Act.put, List.setIfInBounds_toArray, List.set_cons_zero, List.set_cons_succ]
                      refine' wpAnyH_take (i := 18) (oi := _) (v := _) ?hiRC2x19 (by kernel_rfl) (by kernel_rfl) (by kernel_rfl) ?hQRC2x19 ?hyRC2x19 (by assumption) ?restRC2x19
                      case' hiRC2x19 => (first | (simp only [List.getElem?_toArray, List.getElem?_cons_succ, List.getElem?_cons_zero]; done) | (simp only [List.getElem?_toArray, List.getElem?_cons_succ, List.getElem?_cons_zero]; rfl))
                      case' hQRC2x19 => exact fun _ _ _ h => h
                      case' hyRC2x19 => refine Or.inl ⟨by rfl, ?_⟩
                      (intro w hSw; (try dsimp only at hSw); go_simp; try with_reducible rfl)
                      try simp only [Act.put, List.setIfInBounds_toArray, List.set_cons_zero, List.set_cons_succ]
                      refine' wpAnyH_take (i := 19) (oi := _) (v := _) ?hiRC2x20 (by kernel_rfl) (by kernel_rfl) (by kernel_rfl) ?hQRC2x20 ?hyRC2x20 (by assumption) ?restRC2x20
                      case' hiRC2x20 => (first | (simp only [List.getElem?_toArray, List.getElem?_cons_succ, List.getElem?_cons_zero]; done) | (simp only [List.getElem?_toArray, List.getElem?_cons_succ, List.getElem?_cons_zero]; rfl))
                      case' hQRC2x20 => exact fun _ _ _ h => h
                      case' hyRC2x20 => refine Or.inl ⟨by rfl, ?_⟩
                      (intro w hSw; (try dsimp only at hSw); go_simp; try with_reducible rfl)
                      try simp only [Act.put, List.setIfInBounds_toArray, List.set_cons_zero, List.set_cons_succ]
                      refine' wpAnyH_take (i := 20) (oi := _) (v := _) ?hiRC2x21 (by kernel_rfl) (by kernel_rfl) (by kernel_rfl) ?hQRC2x21 ?hyRC2x21 (by assumption) ?restRC2x21
                      case' hiRC2x21 => (first | (simp only [List.getElem?_toArray, List.getElem?_cons_succ, List.getElem?_cons_zero]; done) | (simp only [List.getElem?_toArray, List.getElem?_cons_succ, List.getElem?_cons_zero]; rfl))
                      case' hQRC2x21 => exact fun _ _ _ h => h
                      case' hyRC2x21 => refine Or.inl ⟨by rfl, ?_⟩
                      (intro w hSw; (try dsimp only at hSw); go_simp; try with_reducible rfl)
                      try simp only [Act.put, List.setIfInBounds_toArray, List.set_cons_zero, List.set_cons_succ]
                      refine' wpAnyH_take (i := 21) (oi := _) (v := _) ?hiRC2x22 (by kernel_rfl) (by kernel_rfl) (by kernel_rfl) ?hQRC2x22 ?hyRC2x22 (by assumption) ?restRC2x22
                      case' hiRC2x22 => (first | (simp only [List.getElem?_toArray, List.getElem?_cons_succ, List.getElem?_cons_zero]; done) | (simp only [List.getElem?_toArray, List.getElem?_cons_succ, List.getElem?_cons_zero]; rfl))
                      case' hQRC2x22 => exact fun _ _ _ h => h
                      case' hyRC2x22 => refine Or.inl ⟨by rfl, ?_⟩
                      (intro w hSw; (obtain ⟨x0, lx, z0, z2, zl, y0, y4, yl⟩ := KP.out _ hSw.out); go_simp; try with_reducible rfl)
                      try simp only [Act.put, List.setIfInBounds_toArray, List.set_cons_zero, List.set_cons_succ]
                      refine' wpAnyH_take (i := 22) (oi := _) (v := _) ?hiRC2x23 (by kernel_rfl) (by kernel_rfl) (by kernel_rfl) ?hQRC2x23 ?hyRC2x23 (by assumption) ?restRC2x23
                      case' hiRC2x23 => (first | (simp only [List.getElem?_toArray, List.getElem?_cons_succ, List.getElem?_cons_zero]; done) | (simp only [List.getElem?_toArray, List.getElem?_cons_succ, List.getElem?_cons_zero]; rfl))
                      case' hQRC2x23 => exact fun _ _ _ h => h
                      case' hyRC2x23 => refine Or.inl ⟨by rfl, ?_⟩
                      (intro w hSw; (try dsimp only at hSw); go_simp; try with_reducible rfl)
                      try simp only [Act.put, List.setIfInBounds_toArray, List.set_cons_zero, List.set_cons_succ]
                      refine' wpAnyH_take (i := 23) (oi := _) (v := _) ?hiRC2x24 (by kernel_rfl) (by kernel_rfl) (by kernel_rfl) ?hQRC2x24 ?hyRC2x24 (by assumption) ?restRC2x24
                      case' hiRC2x24 => (first | (simp only [List.getElem?_toArray, List.getElem?_cons_succ, List.getElem?_cons_zero]; done) | (simp only [List.getElem?_toArray, List.getElem?_cons_succ, List.getElem?_cons_zero]; rfl))
                      case' hQRC2x24 => exact fun _ _ _ h => h
                      case' hyRC2x24 => refine Or.inl ⟨by rfl, ?_⟩
                      (intro w hSw; (try dsimp only at hSw); go_simp; try with_reducible rfl)
                      try simp only [Act.put, List.setIfInBounds_toArray, List.set_cons_zero, List.set_cons_succ]
                      refine' wpAnyH_take (i := 24) (oi := _) (v := _) ?hiRC2x25 (by kernel_rfl) (by kernel_rfl) (by kernel_rfl) ?hQRC2x25 ?hyRC2x25 (by assumption) ?restRC2x25
                      case' hiRC2x25 => (first | (simp only [List.getElem?_toArray, List.getElem?_cons_succ, List.getElem?_cons_zero]; done) | (simp only [List.getElem?_toArray, List.getElem?_cons_succ, List.getElem?_cons_zero]; rfl))
                      case' hQRC2x25 => exact fun _ _ _ h => h
                      case' hyRC2x25 => refine Or.inl ⟨by rfl, ?_⟩
                      (intro w hSw; (try dsimp only at hSw); go_simp; try with_reducible rfl)
                      try simp only [Act.put, List.setIfInBounds_toArray, List.set_cons_zero, List.set_cons_succ]
                      refine' wpAnyH_take (i := 25) (oi := _) (v := _) ?hiRC2x26 (by kernel_rfl) (by kernel_rfl) (by kernel_rfl) ?hQRC2x26 ?hyRC2x26 (by assumption) ?restRC2x26
                      case' hiRC2x26 => (first | (simp only [List.getElem?_toArray, List.getElem?_cons_succ, List.getElem?_cons_zero]; done) | (simp only [List.getElem?_toArray, List.getElem?_cons_succ, List.getElem?_cons_zero]; rfl))
                      case' hQRC2x26 => exact fun _ _ _ h => h
                      case' hyRC2x26 => refine Or.inl ⟨by rfl, ?_⟩
                      (intro w hSw; (obtain ⟨x0, lx, z0, z2, zl, y0, y4, yl⟩ := KP.out _ hSw.out); go_simp; try with_reducible rfl)
                      try simp only [Act.put, List.setIfInBounds_toArray, List.set_cons_zero, List.set_cons_succ]
                      refine' wpAnyH_take (i := 26) (oi := _) (v := _) ?hiRC2x27 (by kernel_rfl) (by kernel_rfl) (by kernel_rfl) ?hQRC2x27 ?hyRC2x27 (by assumption) ?restRC2x27
                      case' hiRC2x27 => (first | (simp only [List.getElem?_toArray, List.getElem?_cons_succ, List.getElem?_cons_zero]; done) | (simp only [List.getElem?_toArray, List.getElem?_cons_succ, List.getElem?_cons_zero]; rfl))
                      case' hQRC2x27 => exact fun _ _ _ h => h
                      case' hyRC2x27 => refine Or.inl ⟨by rfl, ?_⟩
                      (intro w hSw; (try dsimp only at hSw); go_simp; try with_reducible rfl)
                      try simp only [Act.put, List.setIfInBounds_toArray, List.set_cons_zero, List.set_cons_succ]
                      refine' wpAnyH_take (i := 27) (oi := _) (v := _) ?hiRC2x28 (by kernel_rfl) (by kernel_rfl) (by kernel_rfl) ?hQRC2x28 ?hyRC2x28 (by assumption) ?restRC2x28
                      case' hiRC2x28 => (first | (simp only [List.getElem?_toArray, List.getElem?_cons_succ, List.getElem?_cons_zero]; done) | (simp only [List.getElem?_toArray, List.getElem?_cons_succ, List.getElem?_cons_zero]; rfl))
                      case' hQRC2x28 => exact fun _ _ _ h => h
                      case' hyRC2x28 => refine Or.inl ⟨by rfl, ?_⟩
                      (intro w hSw; (try dsimp only at hSw); go_simp; try with_reducible rfl)
                      try simp only [Act.put, List.setIfInBounds_toArray, List.set_cons_zero, List.set_cons_succ]
                      refine' wpAnyH_take (i := 28) (oi := _) (v := _) ?hiRC2x29 (by kernel_rfl) (by kernel_rfl) (by kernel_rfl) ?hQRC2x29 ?hyRC2x29 (by assumption) ?restRC2x29
                      case' hiRC2x29 => (first | (simp only [List.getElem?_toArray, List.getElem?_cons_succ, List.getElem?_cons_zero]; done) | (simp only [List.getElem?_toArray, List.getElem?_cons_succ, List.getElem?_cons_zero]; rfl))
                      case' hQRC2x29 => exact fun _ _ _ h => h
                      case' hyRC2x29 => refine Or.inl ⟨by rfl, ?_⟩
                      (intro w hSw; (try dsimp only at hSw); go_simp; try with_reducible rfl)
                      try simp only [Act.put, List.setIfInBounds_toArray, List.set_cons_zero, List.set_cons_succ]
                      refine' wpAnyH_take (i := 29) (oi := _) (v := _) ?hiRC2x30 (by kernel_rfl) (by kernel_rfl) (by kernel_rfl) ?hQRC2x30 ?hyRC2x30 (by assumption) ?restRC2x30
                      case' hiRC2x30 => (first | (simp only [List.getElem?_toArray, List.getElem?_cons_succ, List.getElem?_cons_zero]; done) | (simp only [List.getElem?_toArray, List.getElem?_cons_succ, List.getElem?_cons_zero]; rfl))
                      case' hQRC2x30 => exact fun _ _ _ h => h
                      case' hyRC2x30 => refine Or.inl ⟨by rfl, ?_⟩
                      (intro w hSw; (obtain ⟨x0, lx, z0, z2, zl, y0, y4, yl⟩ := KP.out _ hSw.out); go_simp; try with_reducible rfl)
                      try simp only [Act.put, List.setIfInBounds_toArray, List.set_cons_zero, List.set_cons_succ]
                      refine' wpAnyH_take (i := 30) (oi := _) (v := _) ?hiRC2x31 (by kernel_rfl) (by kernel_rfl) (by kernel_rfl) ?hQRC2x31 ?hyRC2x31 (by assumption) ?restRC2x31
                      case' hiRC2x31 => (first | (simp only [List.getElem?_toArray, List.getElem?_cons_succ, List.getElem?_cons_zero]; done) | (simp only [List.getElem?_toArray, List.getElem?_cons_succ, List.getElem?_cons_zero]; rfl))
                      case' hQRC2x31 => exact fun _ _ _ h => h
                      case' hyRC2x31 => refine Or.inl ⟨by rfl, ?_⟩
                      (intro w hSw; (try dsimp only at hSw); go_simp; try with_reducible rfl)
                      try simp only [Act.put, List.setIfInBounds_toArray, List.set_cons_zero, List.set_cons_succ]
                      refine' wpAnyH_take (i := 31) (oi := _) (v := _) ?hiRC2x32 (by kernel_rfl) (by kernel_rfl) (by kernel_rfl) ?hQRC2x32 ?hyRC2x32 (by assumption) ?restRC2x32
                      case' hiRC2x32 => (first | (simp only [List.getElem?_toArray, List.getElem?_cons_succ, List.getElem?_cons_zero]; done) | (simp only [List.getElem?_toArray, List.getElem?_cons_succ, List.getElem?_cons_zero]; rfl))
                      case' hQRC2x32 => exact fun _ _ _ h => h
                      case' hyRC2x32 => refine Or.inl ⟨by rfl, ?_⟩
                      (intro w hSw; (try dsimp only at hSw); go_simp; try with_reducible rfl)
                      try simp only [Act.put, List.setIfInBounds_toArray, List.set_cons_zero, List.set_cons_succ]
                      refine' wpAnyH_take (i := 32) (oi := _) (v := _) ?hiRC2x33 (by kernel_rfl) (by kernel_rfl) (by kernel_rfl) ?hQRC2x33 ?hyRC2x33 (by assumption) ?restRC2x33
                      case' hiRC2x33 => (first | (simp only [List.getElem?_toArray, List.getElem?_cons_succ, List.getElem?_cons_zero]; done) | (simp only [List.getElem?_toArray, List.getElem?_cons_succ, List.getElem?_cons_zero]; rfl))
                      case' hQRC2x33 => exact fun _ _ _ h => h
                      case' hyRC2x33 => refine Or.inl ⟨by rfl, ?_⟩
                      (intro w hSw; (try dsimp only at hSw); go_simp; try with_reducible rfl)
                      try simp only [Act.put, List.setIfInBounds_toArray, List.set_cons_zero, List.set_cons_succ]
                      refine' wpAnyH_take (i := 33) (oi := _) (v := _) ?hiRC2x34 (by kernel_rfl) (by kernel_rfl) (by kernel_rfl) ?hQRC2x34 ?hyRC2x34 (by assumption) ?restRC2x34
                      case' hiRC2x34 => (first | (simp only [List.getElem?_toArray, List.getElem?_cons_succ, List.getElem?_cons_zero]; done) | (simp only [List.getElem?_toArray, List.getElem?_cons_succ, List.getElem?_cons_zero]; rfl))
                      case' hQRC2x34 => exact fun _ _ _ h => h
                      case' hyRC2x34 => refine Or.inl ⟨by rfl, ?_⟩
                      (intro w hSw; (obtain ⟨x0, lx, z0, z2, zl, y0, y4, yl⟩ := KP.out _ hSw.out); go_simp; try with_reducible rfl)
                      try simp only [Act.put, List.setIfInBounds_toArray, List.set_cons_zero, List.set_cons_succ]
                      refine' wpAnyH_take (i := 34) (oi := _) (v := _) ?hiRC2x35 (by kernel_rfl) (by kernel_rfl) (by kernel_rfl) ?hQRC2x35 ?hyRC2x35 (by assumption) ?restRC2x35
                      case' hiRC2x35 => (first | (simp only [List.getElem?_toArray, List.getElem?_cons_succ, List.getElem?_cons_zero]; done) | (simp only [List.getElem?_toArray, List.getElem?_cons_succ, List.getElem?_cons_zero]; rfl))
                      case' hQRC2x35 => exact fun _ _ _ h => h
                      case' hyRC2x35 => refine Or.inl ⟨by rfl, ?_⟩
                      (intro w hSw; (try dsimp only at hSw); go_simp; try with_reducible rfl)
                      try simp only [Act.put, List.setIfInBounds_toArray, List.set_cons_zero, List.set_cons_succ]
                      refine' wpAnyH_take (i := 35) (oi := _) (v := _) ?hiRC2x36 (by kernel_rfl) (by kernel_rfl) (by kernel_rfl) ?hQRC2x36 ?hyRC2x36 (by assumption) ?restRC2x36
                      case' hiRC2x36 => (first | (simp only [List.getElem?_toArray, List.getElem?_cons_succ, List.getElem?_cons_zero]; done) | (simp only [List.getElem?_toArray, List.getElem?_cons_succ, List.getElem?_cons_zero]; rfl))
                      case' hQRC2x36 => exact fun _ _ _ h => h
                      case' hyRC2x36 => refine Or.inl ⟨by rfl, ?_⟩
                      (intro w hSw; (try dsimp only at hSw); go_simp; try with_reducible rfl)
                      try simp only [Act.put, List.setIfInBounds_toArray, List.set_cons_zero, List.set_cons_succ]
                      refine' wpAnyH_take (i := 36) (oi := _) (v := _) ?hiRC2x37 (by kernel_rfl) (by kernel_rfl) (by kernel_rfl) ?hQRC2x37 ?hyRC2x37 (by assumption) ?restRC2x37
                      case' hiRC2x37 => (first | (simp only [List.getElem?_toArray, List.getElem?_cons_succ, List.getElem?_cons_zero]; done) | (simp only [List.getElem?_toArray, List.getElem?_cons_succ, List.getElem?_cons_zero]; rfl))
                      case' hQRC2x37 => exact fun _ _ _ h => h
                      case' hyRC2x37 => refine Or.inl ⟨by rfl, ?_⟩
                      (intro w hSw; (try dsimp only at hSw); go_simp; try with_reducible rfl)
                      try simp only [Act.put, List.setIfInBounds_toArray, List.set_cons_zero, List.set_cons_succ]
                      refine' wpAnyH_take (i := 37) (oi := _) (v := _) ?hiRC2x38 (by kernel_rfl) (by kernel_rfl) (by kernel_rfl) ?hQRC2x38 ?hyRC2x38 (by assumption) ?restRC2x38
                      case' hiRC2x38 => (first | (simp only [List.getElem?_toArray, List.getElem?_cons_succ, List.getElem?_cons_zero]; done) | (simp only [List.getElem?_toArray, List.getElem?_cons_succ, List.getElem?_cons_zero]; rfl))
                      case' hQRC2x38 => exact fun _ _ _ h => h
                      case' hyRC2x38 => refine Or.inl ⟨by rfl, ?_⟩
                      (intro w hSw; (obtain ⟨x0, lx, z0, z2, zl, y0, y4, yl⟩ := KP.out _ hSw.out); go_simp; try with_reducible rfl)
                      try simp only [Act.put, List.setIfInBounds_toArray, List.set_cons_zero, List.set_cons_succ]
                      refine' wpAnyH_take (i := 38) (oi := _) (v := _) ?hiRC2x39 (by kernel_rfl) (by kernel_rfl) (by kernel_rfl) ?hQRC2x39 ?hyRC2x39 (by assumption) ?restRC2x39
                      case' hiRC2x39 => (first | (simp only [List.getElem?_toArray, List.getElem?_cons_succ, List.getElem?_cons_zero]; done) | (simp only [List.getElem?_toArray, List.getElem?_cons_succ, List.getElem?_cons_zero]; rfl))
                      case' hQRC2x39 => exact fun _ _ _ h => h
                      case' hyRC2x39 => refine Or.inl ⟨by rfl, ?_⟩
                      (intro w hSw; (try dsimp only at hSw); go_simp; try with_reducible rfl)
                      try simp only [Act.put, List.setIfInBounds_toArray, List.set_cons_zero, List.set_cons_succ]
                      refine' wpAnyH_take (i := 39) (oi := _) (v := _) ?hiRC2x40 (by kernel_rfl) (by kernel_rfl) (by kernel_rfl) ?hQRC2x40 ?hyRC2x40 (by assumption) ?restRC2x40
                      case' hiRC2x40 => (first | (simp only [List.getElem?_toArray, List.getElem?_cons_succ, List.getElem?_cons_zero]; done) | (simp only [List.getElem?_toArray, List.getElem?_cons_succ, List.getElem?_cons_zero]; rfl))
                      case' hQRC2x40 => exact fun _ _ _ h => h
                      case' hyRC2x40 => refine Or.inl ⟨by rfl, ?_⟩
                      (intro w hSw; (try dsimp only at hSw); go_simp; try with_reducible rfl)
                      try simp only [Act.put, List.setIfInBounds_toArray, List.set_cons_zero, List.set_cons_succ]
                      refine' wpAnyH_take (i := 40) (oi := _) (v := _) ?hiRC2x41 (by kernel_rfl) (by kernel_rfl) (by kernel_rfl) ?hQRC2x41 ?hyRC2x41 (by assumption) ?restRC2x41
                      case' hiRC2x41 => (first | (simp only [List.getElem?_toArray, List.getElem?_cons_succ, List.getElem?_cons_zero]; done) | (simp only [List.getElem?_toArray, List.getElem?_cons_succ, List.getElem?_cons_zero]; rfl))
                      case' hQRC2x41 => exact fun _ _ _ h => h
                      case' hyRC2x41 => refine Or.inl ⟨by rfl, ?_⟩
                      (intro w hSw; (try dsimp only at hSw); go_simp; try with_reducible rfl)
                      try simp only [Act.put, List.setIfInBounds_toArray, List.set_cons_zero, List.set_cons_succ]
                      refine wpAnyH_done (by kernel_rfl) ?_ _
                      skip
                      have UN : Hid (Upd (fun _ => False) wo wq.drew) := US.out.trans UU.out (fun _ _ h => h)
                      go_wp2
                      go_roundw
                      case rel => exact ⟨m + 1, by omega, by simp, m, rfl, NB, UN⟩
                      case measure => simp [intOf]; omega
                    | false =>
                      have NB : Hid (BestAt S1.cells now (m + 1) (bb : Int)) := best_keep B.out HBS.out HS.out (by
                        rw [bytesLess_lt] at a5
                        have := of_decide_eq_false a5
                        rintro (g | ⟨_, g⟩)
                        · simp only [DC] at g; omega
                        · exact this g)
                      refine wp_region_held_drew (S := fun w' => Hid (Upd (fun _ => False) wq w')) (by kernel_rfl) ?_ (fun hHeld => ?_)
                      · exact UU
                      try simp only [Array.replicate, Act.put, List.setIfInBounds_toArray]
                      refine' wpAnyH_take (i := 0) (oi := _) (v := _) ?hiRC3x1 (by kernel_rfl) (by kernel_rfl) (by kernel_rfl) ?hQRC3x1 ?hyRC3x1 (by assumption) ?restRC3x1
                      case' hiRC3x1 => (first | (simp only [List.getElem?_toArray, List.getElem?_cons_succ, List.getElem?_cons_zero]; done) | (simp only [List.getElem?_toArray, List.getElem?_cons_succ, List.getElem?_cons_zero]; rfl))
                      case' hQRC3x1 => exact fun _ _ _ h => h
                      case' hyRC3x1 => refine Or.inl ⟨by rfl, ?_⟩
                      (intro w hSw; (try dsimp only at hSw); go_simp; try with_reducible rfl)
                      try simp only [Act.put, List.setIfInBounds_toArray, List.set_cons_zero, List.set_cons_succ]
                      refine' wpAnyH_take (i := 1) (oi := _) (v := _) ?hiRC3x2 (by kernel_rfl) (by kernel_rfl) (by kernel_rfl) ?hQRC3x2 ?hyRC3x2 (by assumption) ?restRC3x2
                      case' hiRC3x2 => (first | (simp only [List.getElem?_toArray, List.getElem?_cons_succ, List.getElem?_cons_zero]; done) | (simp only [List.getElem?_toArray, List.getElem?_cons_succ, List.getElem?_cons_zero]; rfl))
                      case' hQRC3x2 => exact fun _ _ _ h => h
                      case' hyRC3x2 => refine Or.inl ⟨by rfl, ?_⟩
                      (intro w hSw; (try dsimp only at hSw); go_simp; try with_reducible rfl)
                      try simp only [Act.put, List.setIfInBounds_toArray, List.set_cons_zero, List.set_cons_succ]
                      refine' wpAnyH_take (i := 2) (oi := _) (v := _) ?hiRC3x3 (by kernel_rfl) (by kernel_rfl) (by kernel_rfl) ?hQRC3x3 ?hyRC3x3 (by assumption) ?restRC3x3
                      case' hiRC3x3 => (first | (simp only [List.getElem?_toArray, List.getElem?_cons_succ, List.getElem?_cons_zero]; done) | (simp only [List.getElem?_toArray, List.getElem?_cons_succ, List.getElem?_cons_zero]; rfl))
                      case' hQRC3x3 => exact fun _ _ _ h => h
                      case' hyRC3x3 => refine Or.inl ⟨by rfl, ?_⟩
                      (intro w hSw; (try dsimp only at hSw); go_simp; try with_reducible rfl)
                      try simp only [Act.put, List.setIfInBounds_toArray, List.set_cons_zero, List.set_cons_succ]
                      refine' wpAnyH_take (i := 3) (oi := _) (v := _) ?hiRC3x4 (by kernel_rfl) (by kernel_rfl) (by kernel_rfl) ?hQRC3x4 ?hyRC3x4 (by assumption) ?restRC3x4
                      case' hiRC3x4 => (first | (simp only [List.getElem?_toArray, List.getElem?_cons_succ, List.getElem?_cons_zero]; done) | (simp only [List.getElem?_toArray, List.getElem?_cons_succ, List.getElem?_cons_zero]; rfl))
                      case' hQRC3x4 => exact fun _ _ _ h => h
                      case' hyRC3x4 => refine Or.inl ⟨by rfl, ?_⟩
                      (intro w hSw; (try dsimp only at hSw); go_simp; try with_reducible rfl)
                      try simp only [Act.put, List.setIfInBounds_toArray, List.set_cons_zero, List.set_cons_succ]
                      refine' wpAnyH_take (i := 4) (oi := _) (v := _) ?hiRC3x5 (by kernel_rfl) (by kernel_rfl) (by kernel_rfl) ?hQRC3x5 ?hyRC3x5 (by assumption) ?restRC3x5
                      case' hiRC3x5 => (first | (simp only [List.getElem?_toArray, List.getElem?_cons_succ, List.getElem?_cons_zero]; done) | (simp only [List.getElem?_toArray, List.getElem?_cons_succ, List.getElem?_cons_zero]; rfl))
                      case' hQRC3x5 => exact fun _ _ _ h => h
                      case' hyRC3x5 => refine Or.inl ⟨by rfl, ?_⟩
                      (intro w hSw; (obtain ⟨x0, lx, z0, z2, zl, y0, y4, yl⟩ := KP.out _ hSw.out); go_simp; try with_reducible rfl)
                      try simp only [Act.put, List.setIfInBounds_toArray, List.set_cons_zero, List.set_cons_succ]
                      refine' wpAnyH_take (i := 5) (oi := _) (v := _) ?hiRC3x6 (by kernel_rfl) (by kernel_rfl) (by kernel_rfl) ?hQRC3x6 ?hyRC3x6 (by assumption) ?restRC3x6
                      case' hiRC3x6 => (first | (simp only [List.getElem?_toArray, List.getElem?_cons_succ, List.getElem?_cons_zero]; done) | (simp only [List.getElem?_toArray, List.getElem?_cons_succ, List.getElem?_cons_zero]; rfl))
                      case' hQRC3x6 => exact fun _ _ _ h => h
                      case' hyRC3x6 => refine Or.inl ⟨by rfl, ?_⟩
                      (intro w hSw; (try dsimp only at hSw); go_simp; try with_reducible rfl)
                      try simp only [Act.put, List.setIfInBounds_toArray, List.set_cons_zero, List.set_cons_succ]
                      refine' wpAnyH_take (i := 6) (oi := _) (v := _) ?hiRC3x7 (by kernel_rfl) (by kernel_rfl) (by kernel_rfl) ?hQRC3x7 ?hyRC3x7 (by assumption) ?restRC3x7
                      case' hiRC3x7 => (first | (simp only [List.getElem?_toArray, List.getElem?_cons_succ, List.getElem?_cons_zero]; done) | (simp only [List.getElem?_toArray, List.getElem?_cons_succ, List.getElem?_cons_zero]; rfl))
                      case' hQRC3x7 => exact fun _ _ _ h => h
                      case' hyRC3x7 => refine Or.inl ⟨by rfl, ?_⟩
                      (intro w hSw; (try dsimp only at hSw); go_simp; try with_reducible rfl)
                      try simp only [Act.put, List.setIfInBounds_toArray, List.set_cons_zero, List.set_cons_succ]
                      refine' wpAnyH_take (i := 7) (oi := _) (v := _) ?hiRC3x8 (by kernel_rfl) (by kernel_rfl) (by kernel_rfl) ?hQRC3x8 ?hyRC3x8 (by assumption) ?restRC3x8
                      case' hiRC3x8 => (first | (simp only [List.getElem?_toArray, List.getElem?_cons_succ, List.getElem?_cons_zero]; done) | (simp only [List.getElem?_toArray, List.getElem?_cons_succ, List.getElem?_cons_zero]; rfl))
                      case' hQRC3x8 => exact fun _ _ _ h => h
                      case' hyRC3x8 => refine Or.inl ⟨by rfl, ?_⟩
                      (intro w hSw; (try dsimp only at hSw); go_simp; try with_reducible rfl)
                      try simp only [Act.put, List.setIfInBounds_toArray, List.set_cons_zero, List.set_cons_succ]
                      refine' wpAnyH_take (i := 8) (oi := _) (v := _) ?hiRC3x9 (by kernel_rfl) (by kernel_rfl) (by kernel_rfl) ?hQRC3x9 ?hyRC3x9 (by assumption) ?restRC3x9
                      case' hiRC3x9 => (first | (simp only [List.getElem?_toArray, List.getElem?_cons_succ, List.getElem?_cons_zero]; done) | (simp only [List.getElem?_toArray, List.getElem?_cons_succ, List.getElem?_cons_zero]; rfl))
                      case' hQRC3x9 => exact fun _ _ _ h => h
                      case' hyRC3x9 => refine Or.inl ⟨by rfl, ?_⟩
                      (intro w hSw; (obtain ⟨x0, lx, z0, z2, zl, y0, y4, yl⟩ := KP.out _ hSw.out); go_simp; try with_reducible rfl)
                      try simp only [Act.put, List.setIfInBounds_toArray, List.set_cons_zero, List.set_cons_succ]
                      refine' wpAnyH_take (i := 9) (oi := _) (v := _) ?hiRC3x10 (by kernel_rfl) (by kernel_rfl) (by kernel_rfl) ?hQRC3x10 ?hyRC3x10 (by assumption) ?restRC3x10
                      case' hiRC3x10 => (first | (simp only [List.getElem?_toArray, List.getElem?_cons_succ, List.getElem?_cons_zero]; done) | (simp only [List.getElem?_toArray, List.getElem?_cons_succ, List.getElem?_cons_zero]; rfl))
                      case' hQRC3x10 => exact fun _ _ _ h => h
                      case' hyRC3x10 => refine Or.inl ⟨by rfl, ?_⟩
                      (intro w hSw; (try dsimp only at hSw); go_simp; try with_reducible rfl)
                      try simp only [Act.put, List.setIfInBounds_toArray, List.set_cons_zero, List.set_cons_succ]
                      refine' wpAnyH_take (i := 10) (oi := _) (v := _) ?hiRC3x11 (by kernel_rfl) (by kernel_rfl) (by kernel_rfl) ?hQRC3x11 ?hyRC3x11 (by assumption) ?restRC3x11
                      case' hiRC3x11 => (first | (simp only [List.getElem?_toArray, List.getElem?_cons_succ, List.getElem?_cons_zero]; done) | (simp only [List.getElem?_toArray, List.getElem?_cons_succ, List.getElem?_cons_zero]; rfl))
                      case' hQRC3x11 => exact fun _ _ _ h => h
                      case' hyRC3x11 => refine Or.inl ⟨by rfl, ?_⟩
                      (intro w hSw; (try dsimp only at hSw); go_simp; try with_reducible rfl)
                      try simp only [Act.put, List.setIfInBounds_toArray, List.set_cons_zero, List.set_cons_succ]
                      refine' wpAnyH_take (i := 11) (oi := _) (v := _) ?hiRC3x12 (by kernel_rfl) (by kernel_rfl) (by kernel_rfl) ?hQRC3x12 ?hyRC3x12 (by assumption) ?restRC3x12
                      case' hiRC3x12 => (first | (simp only [List.getElem?_toArray, List.getElem?_cons_succ, List.getElem?_cons_zero]; done) | (simp only [List.getElem?_toArray, List.getElem?_cons_succ, List.getElem?_cons_zero]; rfl))
                      case' hQRC3x12 => exact fun _ _ _ h => h
                      case' hyRC3x12 => refine Or.inl ⟨by rfl, ?_⟩
                      (intro w hSw; (try dsimp only at hSw); go_simp; try with_reducible rfl)
                      try simp only [Act.put, List.setIfInBounds_toArray, List.set_cons_zero, List.set_cons_succ]
                      refine' wpAnyH_take (i := 12) (oi := _) (v := _) ?hiRC3x13 (by kernel_rfl) (by kernel_rfl) (by kernel_rfl) ?hQRC3x13 ?hyRC3x13 (by assumption) ?restRC3x13
                      case' hiRC3x13 => (first | (simp only [List.getElem?_toArray, List.getElem?_cons_succ, List.getElem?_cons_zero]; done) | (simp only [List.getElem?_toArray, List.getElem?_cons_succ, List.getElem?_cons_zero]; rfl))
                      case' hQRC3x13 => exact fun _ _ _ h => h
                      case' hyRC3x13 => refine Or.inl ⟨by rfl, ?_⟩
                      (intro w hSw; (obtain ⟨x0, lx, z0, z2, zl, y0, y4, yl⟩ := KP.out _ hSw.out); go_simp; try with_reducible rfl)
                      try simp only [Act.put, List.setIfInBounds_toArray, List.set_cons_zero, List.set_cons_succ]
                      refine' wpAnyH_take (i := 13) (oi := _) (v := _) ?hiRC3x14 (by kernel_rfl) (by kernel_rfl) (by kernel_rfl) ?hQRC3x14 ?hyRC3x14 (by assumption) ?restRC3x14
                      case' hiRC3x14 => (first | (simp only [List.getElem?_toArray, List.getElem?_cons_succ, List.getElem?_cons_zero]; done) | (simp only [List.getElem?_toArray, List.getElem?_cons_succ, List.getElem?_cons_zero]; rfl))
                      case' hQRC3x14 => exact fun _ _ _ h => h
                      case' hyRC3x14 => refine Or.inl ⟨by rfl, ?_⟩
                      (intro w hSw; (try dsimp only at hSw); go_simp; try with_reducible rfl)
                      try simp only [Act.put, List.setIfInBounds_toArray, List.set_cons_zero, List.set_cons_succ]
                      refine' wpAnyH_take (i := 14) (oi := _) (v := _) ?hiRC3x15 (by kernel_rfl) (by kernel_rfl) (by kernel_rfl) ?hQRC3x15 ?hyRC3x15 (by assumption) ?restRC3x15
                      case' hiRC3x15 => (first | (simp only [List.getElem?_toArray, List.getElem?_cons_succ, List.getElem?_cons_zero]; done) | (simp only [List.getElem?_toArray, List.getElem?_cons_succ, List.getElem?_cons_zero]; rfl))
                      case' hQRC3x15 => exact fun _ _ _ h => h
                      case' hyRC3x15 => refine Or.inl ⟨by rfl, ?_⟩
                      (intro w hSw; (try dsimp only at hSw); go_simp; try with_reducible rfl)
                      try simp only [Act.put, List.setIfInBounds_toArray, List.set_cons_zero, List.set_cons_succ]
                      refine' wpAnyH_take (i := 15) (oi := _) (v := _) ?hiRC3x16 (by kernel_rfl) (by kernel_rfl) (by kernel_rfl) ?hQRC3x16 ?hyRC3x16 (by assumption) ?restRC3x16
                      case' hiRC3x16 => (first | (simp only [List.getElem?_toArray, List.getElem?_cons_succ, List.getElem?_cons_zero]; done) | (simp only [List.getElem?_toArray, List.getElem?_cons_succ, List.getElem?_cons_zero]; rfl))
                      case' hQRC3x16 => exact fun _ _ _ h => h
                      case' hyRC3x16 => refine Or.inl ⟨by rfl, ?_⟩
                      (intro w hSw; (try dsimp only at hSw); go_simp; try with_reducible rfl)
                      try simp only [Act.put, List.setIfInBounds_toArray, List.set_cons_zero, List.set_cons_succ]
                      refine' wpAnyH_take (i := 16) (oi := _) (v := _) ?hiRC3x17 (by kernel_rfl) (by kernel_rfl) (by kernel_rfl) ?hQRC3x17 ?hyRC3x17 (by assumption) ?restRC3x17
                      case' hiRC3x17 => (first | (simp only [List.getElem?_toArray, List.getElem?_cons_succ, List.getElem?_cons_zero]; done) | (simp only [List.getElem?_toArray, List.getElem?_cons_succ, List.getElem?_cons_zero]; rfl))
                      case' hQRC3x17 => exact fun _ _ _ h => h
                      case' hyRC3x17 => refine Or.inl ⟨by rfl, ?_⟩
                      (intro w hSw; (try dsimp only at hSw); go_simp; try with_reducible rfl)
                      try simp only [Act.put, List.setIfInBounds_toArray, List.set_cons_zero, List.set_cons_succ]
                      refine' wpAnyH_take (i := 17) (oi := _) (v := _) ?hiRC3x18 (by kernel_rfl) (by kernel_rfl) (by kernel_rfl) ?hQRC3x18 ?hyRC3x18 (by assumption) ?restRC3x18
                      case' hiRC3x18 => (first | (simp only [List.getElem?_toArray, List.getElem?_cons_succ, List.getElem?_cons_zero]; done) | (simp only [List.getElem?_toArray, List.getElem?_cons_succ, List.getElem?_cons_zero]; rfl))
                      case' hQRC3x18 => exact fun _ _ _ h => h
                      case' hyRC3x18 => refine Or.inl ⟨by rfl, ?_⟩
                      (intro w hSw; (obtain ⟨x0, lx, z0, z2, zl, y0, y4, yl⟩ := KP.out _ hSw.out); go_simp; try with_reducible rfl)
                      try simp only [Act.put, List.setIfInBounds_toArray, List.set_cons_zero, List.set_cons_succ]
                      refine' wpAnyH_take (i := 18) (oi := _) (v := _) ?hiRC3x19 (by kernel_rfl) (by kernel_rfl) (by kernel_rfl) ?hQRC3x19 ?hyRC3x19 (by assumption) ?restRC3x19
                      case' hiRC3x19 => (first | (simp only [List.getElem?_toArray, List.getElem?_cons_succ, List.getElem?_cons_zero]; done) | (simp only [List.getElem?_toArray, List.getElem?_cons_succ, List.getElem?_cons_zero]; rfl))
                      case' hQRC3x19 => exact fun _ _ _ h => h
                      case' hyRC3x19 => refine Or.inl ⟨by rfl, ?_⟩
                      (intro w hSw; (try dsimp only at hSw); go_simp; try with_reducible rfl)
                      try simp only [Act.put, List.setIfInBounds_toArray, List.set_cons_zero, List.set_cons_succ]
                      refine' wpAnyH_take (i := 19) (oi := _) (v := _) ?hiRC3x20 (by kernel_rfl) (by kernel_rfl) (by kernel_rfl) ?hQRC3x20 ?hyRC3x20 (by assumption) ?restRC3x20
                      case' hiRC3x20 => (first | (simp only [List.getElem?_toArray, List.getElem?_cons_succ, List.getElem?_cons_zero]; done) | (simp only [List.getElem?_toArray, List.getElem?_cons_succ, List.getElem?_cons_zero]; rfl))
                      case' hQRC3x20 => exact fun _ _ _ h => h
                      case' hyRC3x20 => refine Or.inl ⟨by rfl, ?_⟩
                      (intro w hSw; (try dsimp only at hSw); go_simp; try with_reducible rfl)
                      try simp only [Act.put, List.setIfInBounds_toArray, List.set_cons_zero, List.set_cons_succ]
                      refine' wpAnyH_take (i := 20) (oi := _) (v := _) ?hiRC3x21 (by kernel_rfl) (by kernel_rfl) (by kernel_rfl) ?hQRC3x21 ?hyRC3x21 (by assumption) ?restRC3x21
                      case' hiRC3x21 => (first | (simp only [List.getElem?_toArray, List.getElem?_cons_succ, List.getElem?_cons_zero]; done) | (simp only [List.getElem?_toArray, List.getElem?_cons_succ, List.getElem?_cons_zero]; rfl))
                      case' hQRC3x21 => exact fun _ _ _ h => h
                      case' hyRC3x21 => refine Or.inl ⟨by rfl, ?_⟩
                      (intro w hSw; (try dsimp only at hSw); go_simp; try with_reducible rfl)
                      try simp only [Act.put, List.setIfInBounds_toArray, List.set_cons_zero, List.set_cons_succ]
                      refine' wpAnyH_take (i := 21) (oi := _) (v := _) ?hiRC3x22 (by kernel_rfl) (by kernel_rfl) (by kernel_rfl) ?hQRC3x22 ?hyRC3x22 (by assumption) ?restRC3x22
                      case' hiRC3x22 => (first | (simp only [List.getElem?_toArray, List.getElem?_cons_succ, List.getElem?_cons_zero]; done) | (simp only [List.getElem?_toArray, List.getElem?_cons_succ, List.getElem?_cons_zero]; rfl))
                      case' hQRC3x22 => exact fun _ _ _ h => h
                      case' hyRC3x22 => refine Or.inl ⟨by rfl, ?_⟩
                      (intro w hSw; (obtain ⟨x0, lx, z0, z2, zl, y0, y4, yl⟩ := KP.out _ hSw.out); go_simp; try with_reducible rfl)
                      try simp only [Act.put, List.setIfInBounds_toArray, List.set_cons_zero, List.set_cons_succ]
                      refine' wpAnyH_take (i := 22) (oi := _) (v := _) ?hiRC3x23 (by kernel_rfl) (by kernel_rfl) (by kernel_rfl) ?hQRC3x23 ?hyRC3x23 (by assumption) ?restRC3x23
                      case' hiRC3x23 => (first | (simp only [List.getElem?_toArray, List.getElem?_cons_succ, List.getElem?_cons_zero]; done) | (simp only [List.getElem?_toArray, List.getElem?_cons_succ, List.getElem?_cons_zero]; rfl))
                      case' hQRC3x23 => exact fun _ _ _ h => h
                      case' hyRC3x23 => refine Or.inl ⟨by rfl, ?_⟩
                      (intro w hSw; (try dsimp only at hSw); go_simp; try with_reducible rfl)
                      try simp only [Act.put, List.setIfInBounds_toArray, List.set_cons_zero, List.set_cons_succ]
                      refine' wpAnyH_take (i := 23) (oi := _) (v := _) ?hiRC3x24 (by kernel_rfl) (by kernel_rfl) (by kernel_rfl) ?hQRC3x24 ?hyRC3x24 (by assumption) ?restRC3x24
                      case' hiRC3x24 => (first | (simp only [List.getElem?_toArray, List.getElem?_cons_succ, List.getElem?_cons_zero]; done) | (simp only [List.getElem?_toArray, List.getElem?_cons_succ, List.getElem?_cons_zero]; rfl))
                      case' hQRC3x24 => exact fun _ _ _ h => h
                      case' hyRC3x24 => refine Or.inl ⟨by rfl, ?_⟩
                      (intro w hSw; (try dsimp only at hSw); go_simp; try with_reducible rfl)
                      try simp only [Act.put, List.setIfInBounds_toArray, List.set_cons_zero, List.set_cons_succ]
                      refine' wpAnyH_take (i := 24) (oi := _) (v := _) ?hiRC3x25 (by kernel_rfl) (by kernel_rfl) (by kernel_rfl) ?hQRC3x25 ?hyRC3x25 (by assumption) ?restRC3x25
                      case' hiRC3x25 => (first | (simp only [List.getElem?_toArray, List.getElem?_cons_succ, List.getElem?_cons_zero]; done) | (simp only [List.getElem?_toArray, List.getElem?_cons_succ, List.getElem?_cons_zero]; rfl))
                      case' hQRC3x25 => exact fun _ _ _ h => h
                      case' hyRC3x25 => refine Or.inl ⟨by rfl, ?_⟩
                      (intro w hSw; (try dsimp only at hSw); go_simp; try with_reducible rfl)
                      try simp only [Act.put, List.setIfInBounds_toArray, List.set_cons_zero, List.set_cons_succ]
                      refine' wpAnyH_take (i := 25) (oi := _) (v := _) ?hiRC3x26 (by kernel_rfl) (by kernel_rfl) (by kernel_rfl) ?hQRC3x26 ?hyRC3x26 (by assumption) ?restRC3x26
                      case' hiRC3x26 => (first | (simp only [List.getElem?_toArray, List.getElem?_cons_succ, List.getElem?_cons_zero]; done) | (simp only [List.getElem?_toArray, List.getElem?_cons_succ, List.getElem?_cons_zero]; rfl))
                      case' hQRC3x26 => exact fun _ _ _ h => h
                      case' hyRC3x26 => refine Or.inl ⟨by rfl, ?_⟩
                      (intro w hSw; (obtain ⟨x0, lx, z0, z2, zl, y0, y4, yl⟩ := KP.out _ hSw.out); go_simp; try with_reducible rfl)
                      try simp only [Act.put, List.setIfInBounds_toArray, List.set_cons_zero, List.set_cons_succ]
                      refine' wpAnyH_take (i := 26) (oi := _) (v := _) ?hiRC3x27 (by kernel_rfl) (by kernel_rfl) (by kernel_rfl) ?hQRC3x27 ?hyRC3x27 (by assumption) ?restRC3x27
                      case' hiRC3x27 => (first | (simp only [List.getElem?_toArray, List.getElem?_cons_succ, List.getElem?_cons_zero]; done) | (simp only [List.getElem?_toArray, List.getElem?_cons_succ, List.getElem?_cons_zero]; rfl))
                      case' hQRC3x27 => exact fun _ _ _ h => h
                      case' hyRC3x27 => refine Or.inl ⟨by rfl, ?_⟩
                      (intro w hSw; (try dsimp only at hSw); go_simp; try with_reducible rfl)
                      try simp only [Act.put, List.setIfInBounds_toArray, List.set_cons_zero, List.set_cons_succ]
                      refine' wpAnyH_take (i := 27) (oi := _) (v := _) ?hiRC3x28 (by kernel_rfl) (by kernel_rfl) (by kernel_rfl) ?hQRC3x28 ?hyRC3x28 (by assumption) ?restRC3x28
                      case' hiRC3x28 => (first | (simp only [List.getElem?_toArray, List.getElem?_cons_succ, List.getElem?_cons_zero]; done) | (simp only [List.getElem?_toArray, List.getElem?_cons_succ, List.getElem?_cons_zero]; rfl))
                      case' hQRC3x28 => exact fun _ _ _ h => h
                      case' hyRC3x28 => refine Or.inl ⟨by rfl, ?_⟩
                      (intro w hSw; (try dsimp only at hSw); go_simp; try with_reducible rfl)
                      try simp only [Act.put, List.setIfInBounds_toArray, List.set_cons_zero, List.set_cons_succ]
                      refine' wpAnyH_take (i := 28) (oi := _) (v := _) ?hiRC3x29 (by kernel_rfl) (by kernel_rfl) (by kernel_rfl) ?hQRC3x29 ?hyRC3x29 (by assumption) ?restRC3x29
                      case' hiRC3x29 => (first | (simp only [List.getElem?_toArray, List.getElem?_cons_succ, List.getElem?_cons_zero]; done) | (simp only [List.getElem?_toArray, List.getElem?_cons_succ, List.getElem?_cons_zero]; rfl))
                      case' hQRC3x29 => exact fun _ _ _ h => h
                      case' hyRC3x29 => refine Or.inl ⟨by rfl, ?_⟩
                      (intro w hSw; (try dsimp only at hSw); go_simp; try with_reducible rfl)
                      try simp only [Act.put, List.setIfInBounds_toArray, List.set_cons_zero, List.set_cons_succ]
                      refine' wpAnyH_take (i := 29) (oi := _) (v := _) ?hiRC3x30 (by kernel_rfl) (by kernel_rfl) (by kernel_rfl) ?hQRC3x30 ?hyRC3x30 (by assumption) ?restRC3x30
                      case' hiRC3x30 => (first | (simp only [List.getElem?_toArray, List.getElem?_cons_succ, List.getElem?_cons_zero]; done) | (simp only [List.getElem?_toArray, List.getElem?_cons_succ, List.getElem?_cons_zero]; rfl))
                      case' hQRC3x30 => exact fun _ _ _ h => h
                      case' hyRC3x30 => refine Or.inl ⟨by rfl, ?_⟩
                      (intro w hSw; (obtain ⟨x0, lx, z0, z2, zl, y0, y4, yl⟩ := KP.out _ hSw.out); go_simp; try with_reducible rfl)
                      try simp only [Act.put, List.setIfInBounds_toArray, List.set_cons_zero, List.set_cons_succ]
                      refine' wpAnyH_take (i := 30) (oi := _) (v := _) ?hiRC3x31 (by kernel_rfl) (by kernel_rfl) (by kernel_rfl) ?hQRC3x31 ?hyRC3x31 (by assumption) ?restRC3x31
                      case' hiRC3x31 => (first | (simp only [List.getElem?_toArray, List.getElem?_cons_succ, List.getElem?_cons_zero]; done) | (simp only [List.getElem?_toArray, List.getElem?_cons_succ, List.getElem?_cons_zero]; rfl))
                      case' hQRC3x31 => exact fun _ _ _ h => h
                      case' hyRC3x31 => refine Or.inl ⟨by rfl, ?_⟩
                      (intro w hSw; (try dsimp only at hSw); go_simp; try with_reducible rfl)
                      try simp only [Act.put, List.setIfInBounds_toArray, List.set_cons_zero, List.set_cons_succ]
                      refine' wpAnyH_take (i := 31) (oi := _) (v := _) ?hiRC3x32 (by kernel_rfl) (by kernel_rfl) (by kernel_rfl) ?hQRC3x32 ?hyRC3x32 (by assumption) ?restRC3x32
                      case' hiRC3x32 => (first | (simp only [List.getElem?_toArray, List.getElem?_cons_succ, List.getElem?_cons_zero]; done) | (simp only [List.getElem?_toArray, List.getElem?_cons_succ, List.getElem?_cons_zero]; rfl))
                      case' hQRC3x32 => exact fun _ _ _ h => h
                      case' hyRC3x32 => refine Or.inl ⟨by rfl, ?_⟩
                      (intro w hSw; (try dsimp only at hSw); go_simp; try with_reducible rfl)
                      try simp only [Act.put, List.setIfInBounds_toArray, List.set_cons_zero, List.set_cons_succ]
                      refine' wpAnyH_take (i := 32) (oi := _) (v := _) ?hiRC3x33 (by kernel_rfl) (by kernel_rfl) (by kernel_rfl) ?hQRC3x33 ?hyRC3x33 (by assumption) ?restRC3x33
                      case' hiRC3x33 => (first | (simp only [List.getElem?_toArray, List.getElem?_cons_succ, List.getElem?_cons_zero]; done) | (simp only [List.getElem?_toArray, List.getElem?_cons_succ, List.getElem?_cons_zero]; rfl))
                      case' hQRC3x33 => exact fun _ _ _ h => h
                      case' hyRC3x33 => refine Or.inl ⟨by rfl, ?_⟩
                      (intro w hSw; (try dsimp only at hSw); go_simp; try with_reducible rfl)
                      try simp only [Act.put, List.setIfInBounds_toArray, List.set_cons_zero, List.set_cons_succ]
                      refine' wpAnyH_take (i := 33) (oi := _) (v := _) ?hiRC3x34 (by kernel_rfl) (by kernel_rfl) (by kernel_rfl) ?hQRC3x34 ?hyRC3x34 (by assumption) ?restRC3x34
                      case' hiRC3x34 => (first | (simp only [List.getElem?_toArray, List.getElem?_cons_succ, List.getElem?_cons_zero]; done) | (simp only [List.getElem?_toArray, List.getElem?_cons_succ, List.getElem?_cons_zero]; rfl))
                      case' hQRC3x34 => exact fun _ _ _ h => h
                      case' hyRC3x34 => refine Or.inl ⟨by rfl, ?_⟩
                      (intro w hSw; (obtain ⟨x0, lx, z0, z2, zl, y0, y4, yl⟩ := KP.out _ hSw.out); go_simp; try with_reducible rfl)
                      try simp only [Act.put, List.setIfInBounds_toArray, List.set_cons_zero, List.set_cons_succ]
                      refine' wpAnyH_take (i := 34) (oi := _) (v := _) ?hiRC3x35 (by kernel_rfl) (by kernel_rfl) (by kernel_rfl) ?hQRC3x35 ?hyRC3x35 (by assumption) ?restRC3x35
                      case' hiRC3x35 => (first | (simp only [List.getElem?_toArray, List.getElem?_cons_succ, List.getElem?_cons_zero]; done) | (simp only [List.getElem?_toArray, List.getElem?_cons_succ, List.getElem?_cons_zero]; rfl))
                      case' hQRC3x35 => exact fun _ _ _ h => h
                      case' hyRC3x35 => refine Or.inl ⟨by rfl, ?_⟩
                      (intro w hSw; (try dsimp only at hSw); go_simp; try with_reducible rfl)
                      try simp only [Act.put, List.setIfInBounds_toArray, List.set_cons_zero, List.set_cons_succ]
                      refine' wpAnyH_take (i := 35) (oi := _) (v := _) ?hiRC3x36 (by kernel_rfl) (by kernel_rfl) (by kernel_rfl) ?hQRC3x36 ?hyRC3x36 (by assumption) ?restRC3x36
                      case' hiRC3x36 => (first | (simp only [List.getElem?_toArray, List.getElem?_cons_succ, List.getElem?_cons_zero]; done) | (simp only [List.getElem?_toArray, List.getElem?_cons_succ, List.getElem?_cons_zero]; rfl))
                      case' hQRC3x36 => exact fun _ _ _ h => h
                      case' hyRC3x36 => refine Or.inl ⟨by rfl, ?_⟩
                      (intro w hSw; (try dsimp only at hSw); go_simp; try with_reducible rfl)
                      try simp only [Act.put, List.setIfInBounds_toArray, List.set_cons_zero, List.set_cons_succ]
                      refine' wpAnyH_take (i := 36) (oi := _) (v := _) ?hiRC3x37 (by kernel_rfl) (by kernel_rfl) (by kernel_rfl) ?hQRC3x37 ?hyRC3x37 (by assumption) ?restRC3x37
                      case' hiRC3x37 => (first | (simp only [List.getElem?_toArray, List.getElem?_cons_succ, List.getElem?_cons_zero]; done) | (simp only [List.getElem?_toArray, List.getElem?_cons_succ, List.getElem?_cons_zero]; rfl))
                      case' hQRC3x37 => exact fun _ _ _ h => h
                      case' hyRC3x37 => refine Or.inl ⟨by rfl, ?_⟩
                      (intro w hSw; (try dsimp only at hSw); go_simp; try with_reducible rfl)
                      try simp only [Act.put, List.setIfInBounds_toArray, List.set_cons_zero, List.set_cons_succ]
                      refine' wpAnyH_take (i := 37) (oi := _) (v := _) ?hiRC3x38 (by kernel_rfl) (by kernel_rfl) (by kernel_rfl) ?hQRC3x38 ?hyRC3x38 (by assumption) ?restRC3x38
                      case' hiRC3x38 => (first | (simp only [List.getElem?_toArray, List.getElem?_cons_succ, List.getElem?_cons_zero]; done) | (simp only [List.getElem?_toArray, List.getElem?_cons_succ, List.getElem?_cons_zero]; rfl))
                      case' hQRC3x38 => exact fun _ _ _ h => h
                      case' hyRC3x38 => refine Or.inl ⟨by rfl, ?_⟩
                      (intro w hSw; (obtain ⟨x0, lx, z0, z2, zl, y0, y4, yl⟩ := KP.out _ hSw.out); go_simp; try with_reducible rfl)
                      try simp only [Act.put, List.setIfInBounds_toArray, List.set_cons_zero, List.set_cons_succ]
                      refine' wpAnyH_take (i := 38) (oi := _) (v := _) ?hiRC3x39 (by kernel_rfl) (by kernel_rfl) (by kernel_rfl) ?hQRC3x39 ?hyRC3x39 (by assumption) ?restRC3x39
                      case' hiRC3x39 => (first | (simp only [List.getElem?_toArray, List.getElem?_cons_succ, List.getElem?_cons_zero]; done) | (simp only [List.getElem?_toArray, List.getElem?_cons_succ, List.getElem?_cons_zero]; rfl))
                      case' hQRC3x39 => exact fun _ _ _ h => h
                      case' hyRC3x39 => refine Or.inl ⟨by rfl, ?_⟩
                      (intro w hSw; (try dsimp only at hSw); go_simp; try with_reducible rfl)
                      try simp only [Act.put, List.setIfInBounds_toArray, List.set_cons_zero, List.set_cons_succ]
                      refine' wpAnyH_take (i := 39) (oi := _) (v := _) ?hiRC3x40 (by kernel_rfl) (by kernel_rfl) (by kernel_rfl) ?hQRC3x40 ?hyRC3x40 (by assumption) ?restRC3x40
                      case' hiRC3x40 => (first | (simp only [List.getElem?_toArray, List.getElem?_cons_succ, List.getElem?_cons_zero]; done) | (simp only [List.getElem?_toArray, List.getElem?_cons_succ, List.getElem?_cons_zero]; rfl))
                      case' hQRC3x40 => exact fun _ _ _ h => h
                      case' hyRC3x40 => refine Or.inl ⟨by rfl, ?_⟩
                      (intro w hSw; (try dsimp only at hSw); go_simp; try with_reducible rfl)
                      try simp only [Act.put, List.setIfInBounds_toArray, List.set_cons_zero, List.set_cons_succ]
                      refine' wpAnyH_take (i := 40) (oi := _) (v := _) ?hiRC3x41 (by kernel_rfl) (by kernel_rfl) (by kernel_rfl) ?hQRC3x41 ?hyRC3x41 (by assumption) ?restRC3x41
                      case' hiRC3x41 => (first | (simp only [List.getElem?_toArray, List.getElem?_cons_succ, List.getElem?_cons_zero]; done) | (simp only [List.getElem?_toArray, List.getElem?_cons_succ, List.getElem?_cons_zero]; rfl))
                      case' hQRC3x41 => exact fun _ _ _ h => h
                      case' hyRC3x41 => refine Or.inl ⟨by rfl, ?_⟩
                      (intro w hSw; (try dsimp only at hSw); go_simp; try with_reducible rfl)
                      try simp only [Act.put, List.setIfInBounds_toArray, List.set_cons_zero, List.set_cons_succ]
                      refine wpAnyH_done (by kernel_rfl) ?_ _
                      skip
                      have UN : Hid (Upd (fun _ => False) wo wq.drew) := US.out.trans UU.out (fun _ _ h => h)
                      go_wp2
                      go_roundw
                      case rel => exact ⟨m + 1, by omega, by simp, bb, rfl, NB, UN⟩
                      case measure => simp [intOf]; omega
                  · have NB : Hid (BestAt S1.cells now (m + 1) (bb : Int)) := best_keep B.out HBS.out HS.out (by
                      rintro (g | ⟨g, _⟩)
                      · exact a3 g
                      · exact a4 g)
                    have t4 : decide (wn = wbn) = false := decide_eq_false a4
                    have t5 : (wn == wbn) = false := beq_false_of_ne a4
                    clear a3 a4
                    refine wp_region_held_drew (S := fun w' => Hid (Upd (fun _ => False) wq w')) (by kernel_rfl) ?_ (fun hHeld => ?_)
                    · exact UU
                    try simp only [Array.replicate, Act.put, List.setIfInBounds_toArray]
                    refine' wpAnyH_take (i := 0) (oi := _) (v := _) ?hiRD4x1 (by kernel_rfl) (by kernel_rfl) (by kernel_rfl) ?hQRD4x1 ?hyRD4x1 (by assumption) ?restRD4x1
                    case' hiRD4x1 => (first | (simp only [List.getElem?_toArray, List.getElem?_cons_succ, List.getElem?_cons_zero]; done) | (simp only [List.getElem?_toArray, List.getElem?_cons_succ, List.getElem?_cons_zero]; rfl))
                    case' hQRD4x1 => exact fun _ _ _ h => h
                    case' hyRD4x1 => refine Or.inl ⟨by rfl, ?_⟩
                    (intro w hSw; (try dsimp only at hSw); go_simp; try with_reducible rfl)
                    try simp only [Act.put, List.setIfInBounds_toArray, List.set_cons_zero, List.set_cons_succ]
                    refine' wpAnyH_take (i := 1) (oi := _) (v := _) ?hiRD4x2 (by kernel_rfl) (by kernel_rfl) (by kernel_rfl) ?hQRD4x2 ?hyRD4x2 (by assumption) ?restRD4x2
                    case' hiRD4x2 => (first | (simp only [List.getElem?_toArray, List.getElem?_cons_succ, List.getElem?_cons_zero]; done) | (simp only [List.getElem?_toArray, List.getElem?_cons_succ, List.getElem?_cons_zero]; rfl))
                    case' hQRD4x2 => exact fun _ _ _ h => h
                    case' hyRD4x2 => refine Or.inl ⟨by rfl, ?_⟩
                    (intro w hSw; (try dsimp only at hSw); go_simp; try with_reducible rfl)
                    try simp only [Act.put, List.setIfInBounds_toArray, List.set_cons_zero, List.set_cons_succ]
                    refine' wpAnyH_take (i := 2) (oi := _) (v := _) ?hiRD4x3 (by kernel_rfl) (by kernel_rfl) (by kernel_rfl) ?hQRD4x3 ?hyRD4x3 (by assumption) ?restRD4x3
                    case' hiRD4x3 => (first | (simp only [List.getElem?_toArray, List.getElem?_cons_succ, List.getElem?_cons_zero]; done) | (simp only [List.getElem?_toArray, List.getElem?_cons_succ, List.getElem?_cons_zero]; rfl))
                    case' hQRD4x3 => exact fun _ _ _ h => h
                    case' hyRD4x3 => refine Or.inl ⟨by rfl, ?_⟩
                    (intro w hSw; (try dsimp only at hSw); go_simp; try with_reducible rfl)
                    try simp only [Act.put, List.setIfInBounds_toArray, List.set_cons_zero, List.set_cons_succ]
                    refine' wpAnyH_take (i := 3) (oi := _) (v := _) ?hiRD4x4 (by kernel_rfl) (by kernel_rfl) (by kernel_rfl) ?hQRD4x4 ?hyRD4x4 (by assumption) ?restRD4x4
                    case' hiRD4x4 => (first | (simp only [List.getElem?_toArray, List.getElem?_cons_succ, List.getElem?_cons_zero]; done) | (simp only [List.getElem?_toArray, List.getElem?_cons_succ, List.getElem?_cons_zero]; rfl))
                    case' hQRD4x4 => exact fun _ _ _ h => h
                    case' hyRD4x4 => refine Or.inl ⟨by rfl, ?_⟩
                    (intro w hSw; (try dsimp only at hSw); go_simp; try with_reducible rfl)
                    try simp only [Act.put, List.setIfInBounds_toArray, List.set_cons_zero, List.set_cons_succ]
                    refine' wpAnyH_take (i := 4) (oi := _) (v := _) ?hiRD4x5 (by kernel_rfl) (by kernel_rfl) (by kernel_rfl) ?hQRD4x5 ?hyRD4x5 (by assumption) ?restRD4x5
                    case' hiRD4x5 => (first | (simp only [List.getElem?_toArray, List.getElem?_cons_succ, List.getElem?_cons_zero]; done) | (simp only [List.getElem?_toArray, List.getElem?_cons_succ, List.getElem?_cons_zero]; rfl))
                    case' hQRD4x5 => exact fun _ _ _ h => h
                    case' hyRD4x5 => refine Or.inl ⟨by rfl, ?_⟩
                    (intro w hSw; (obtain ⟨x0, lx, z0, z2, zl, y0, y4, yl⟩ := KP.out _ hSw.out); go_simp; try with_reducible rfl)
                    try simp only [Act.put, List.setIfInBounds_toArray, List.set_cons_zero, List.set_cons_succ]
                    refine' wpAnyH_take (i := 5) (oi := _) (v := _) ?hiRD4x6 (by kernel_rfl) (by kernel_rfl) (by kernel_rfl) ?hQRD4x6 ?hyRD4x6 (by assumption) ?restRD4x6
                    case' hiRD4x6 => (first | (simp only [List.getElem?_toArray, List.getElem?_cons_succ, List.getElem?_cons_zero]; done) | (simp only [List.getElem?_toArray, List.getElem?_cons_succ, List.getElem?_cons_zero]; rfl))
                    case' hQRD4x6 => exact fun _ _ _ h => h
                    case' hyRD4x6 => refine Or.inl ⟨by rfl, ?_⟩
                    (intro w hSw; (try dsimp only at hSw); go_simp; try with_reducible rfl)
                    try simp only [Act.put, List.setIfInBounds_toArray, List.set_cons_zero, List.set_cons_succ]
                    refine' wpAnyH_take (i := 6) (oi := _) (v := _) ?hiRD4x7 (by kernel_rfl) (by kernel_rfl) (by kernel_rfl) ?hQRD4x7 ?hyRD4x7 (by assumption) ?restRD4x7
                    case' hiRD4x7 => (first | (simp only [List.getElem?_toArray, List.getElem?_cons_succ, List.getElem?_cons_zero]; done) | (simp only [List.getElem?_toArray, List.getElem?_cons_succ, List.getElem?_cons_zero]; rfl))
                    case' hQRD4x7 => exact fun _ _ _ h => h
                    case' hyRD4x7 => refine Or.inl ⟨by rfl, ?_⟩
                    (intro w hSw; (try dsimp only at hSw); go_simp; try with_reducible rfl)
                    try simp only [Act.put, List.setIfInBounds_toArray, List.set_cons_zero, List.set_cons_succ]
                    refine' wpAnyH_take (i := 7) (oi := _) (v := _) ?hiRD4x8 (by kernel_rfl) (by kernel_rfl) (by kernel_rfl) ?hQRD4x8 ?hyRD4x8 (by assumption) ?restRD4x8
                    case' hiRD4x8 => (first | (simp only [List.getElem?_toArray, List.getElem?_cons_succ, List.getElem?_cons_zero]; done) | (simp only [List.getElem?_toArray, List.getElem?_cons_succ, List.getElem?_cons_zero]; rfl))
                    case' hQRD4x8 => exact fun _ _ _ h => h
                    case' hyRD4x8 => refine Or.inl ⟨by rfl, ?_⟩
                    (intro w hSw; (try dsimp only at hSw); go_simp; try with_reducible rfl)
                    try simp only [Act.put, List.setIfInBounds_toArray, List.set_cons_zero, List.set_cons_succ]
                    refine' wpAnyH_take (i := 8) (oi := _) (v := _) ?hiRD4x9 (by kernel_rfl) (by kernel_rfl) (by kernel_rfl) ?hQRD4x9 ?hyRD4x9 (by assumption) ?restRD4x9
                    case' hiRD4x9 => (first | (simp only [List.getElem?_toArray, List.getElem?_cons_succ, List.getElem?_cons_zero]; done) | (simp only [List.getElem?_toArray, List.getElem?_cons_succ, List.getElem?_cons_zero]; rfl))
                    case' hQRD4x9 => exact fun _ _ _ h => h
                    case' hyRD4x9 => refine Or.inl ⟨by rfl, ?_⟩
                    (intro w hSw; (obtain ⟨x0, lx, z0, z2, zl, y0, y4, yl⟩ := KP.out _ hSw.out); go_simp; try with_reducible rfl)
                    try simp only [Act.put, List.setIfInBounds_toArray, List.set_cons_zero, List.set_cons_succ]
                    refine' wpAnyH_take (i := 9) (oi := _) (v := _) ?hiRD4x10 (by kernel_rfl) (by kernel_rfl) (by kernel_rfl) ?hQRD4x10 ?hyRD4x10 (by assumption) ?restRD4x10
                    case' hiRD4x10 => (first | (simp only [List.getElem?_toArray, List.getElem?_cons_succ, List.getElem?_cons_zero]; done) | (simp only [List.getElem?_toArray, List.getElem?_cons_succ, List.getElem?_cons_zero]; rfl))
                    case' hQRD4x10 => exact fun _ _ _ h => h
                    case' hyRD4x10 => refine Or.inl ⟨by rfl, ?_⟩
                    (intro w hSw; (try dsimp only at hSw); go_simp; try with_reducible rfl)
                    try simp only [Act.put, List.setIfInBounds_toArray, List.set_cons_zero, List.set_cons_succ]
                    refine' wpAnyH_take (i := 10) (oi := _) (v := _) ?hiRD4x11 (by kernel_rfl) (by kernel_rfl) (by kernel_rfl) ?hQRD4x11 ?hyRD4x11 (by assumption) ?restRD4x11
                    case' hiRD4x11 => (first | (simp only [List.getElem?_toArray, List.getElem?_cons_succ, List.getElem?_cons_zero]; done) | (simp only [List.getElem?_toArray, List.getElem?_cons_succ, List.getElem?_cons_zero]; rfl))
                    case' hQRD4x11 => exact fun _ _ _ h => h
                    case' hyRD4x11 => refine Or.inl ⟨by rfl, ?_⟩
                    (intro w hSw; (try dsimp only at hSw); go_simp; try with_reducible rfl)
                    try simp only [Act.put, List.setIfInBounds_toArray, List.set_cons_zero, List.set_cons_succ]
                    refine' wpAnyH_take (i := 11) (oi := _) (v := _) ?hiRD4x12 (by kernel_rfl) (by kernel_rfl) (by kernel_rfl) ?hQRD4x12 ?hyRD4x12 (by assumption) ?restRD4x12
                    case' hiRD4x12 => (first | (simp only [List.getElem?_toArray, List.getElem?_cons_succ, List.getElem?_cons_zero]; done) | (simp only [List.getElem?_toArray, List.getElem?_cons_succ, List.getElem?_cons_zero]; rfl))
                    case' hQRD4x12 => exact fun _ _ _ h => h
                    case' hyRD4x12 => refine Or.inl ⟨by rfl, ?_⟩
                    (intro w hSw; (try dsimp only at hSw); go_simp; try with_reducible rfl)
                    try simp only [Act.put, List.setIfInBounds_toArray, List.set_cons_zero, List.set_cons_succ]
                    refine' wpAnyH_take (i := 12) (oi := _) (v := _) ?hiRD4x13 (by kernel_rfl) (by kernel_rfl) (by kernel_rfl) ?hQRD4x13 ?hyRD4x13 (by assumption) ?restRD4x13
                    case' hiRD4x13 => (first | (simp only [List.getElem?_toArray, List.getElem?_cons_succ, List.getElem?_cons_zero]; done) | (simp only [List.getElem?_toArray, List.getElem?_cons_succ, List.getElem?_cons_zero]; rfl))
                    case' hQRD4x13 => exact fun _ _ _ h => h
                    case' hyRD4x13 => refine Or.inl ⟨by rfl, ?_⟩
                    (intro w hSw; (obtain ⟨x0, lx, z0, z2, zl, y0, y4, yl⟩ := KP.out _ hSw.out); go_simp; try with_reducible rfl)
                    try simp only [Act.put, List.setIfInBounds_toArray, List.set_cons_zero, List.set_cons_succ]
                    refine' wpAnyH_take (i := 13) (oi := _) (v := _) ?hiRD4x14 (by kernel_rfl) (by kernel_rfl) (by kernel_rfl) ?hQRD4x14 ?hyRD4x14 (by assumption) ?restRD4x14
                    case' hiRD4x14 => (first | (simp only [List.getElem?_toArray, List.getElem?_cons_succ, List.getElem?_cons_zero]; done) | (simp only [List.getElem?_toArray, List.getElem?_cons_succ, List.getElem?_cons_zero]; rfl))
                    case' hQRD4x14 => exact fun _ _ _ h => h
                    case' hyRD4x14 => refine Or.inl ⟨by rfl, ?_⟩
                    (intro w hSw; (try dsimp only at hSw); go_simp; try with_reducible rfl)
                    try simp only [Act.put, List.setIfInBounds_toArray, List.set_cons_zero, List.set_cons_succ]
                    refine' wpAnyH_take (i := 14) (oi := _) (v := _) ?hiRD4x15 (by kernel_rfl) (by kernel_rfl) (by kernel_rfl) ?hQRD4x15 ?hyRD4x15 (by assumption) ?restRD4x15
                    case' hiRD4x15 => (first | (simp only [List.getElem?_toArray, List.getElem?_cons_succ, List.getElem?_cons_zero]; done) | (simp only [List.getElem?_toArray, List.getElem?_cons_succ, List.getElem?_cons_zero]; rfl))
                    case' hQRD4x15 => exact fun _ _ _ h => h
                    case' hyRD4x15 => refine Or.inl ⟨by rfl, ?_⟩
                    (intro w hSw; (try dsimp only at hSw); go_simp; try with_reducible rfl)
                    try simp only [Act.put, List.setIfInBounds_toArray, List.set_cons_zero, List.set_cons_succ]
                    refine' wpAnyH_take (i := 15) (oi := _) (v := _) ?hiRD4x16 (by kernel_rfl) (by kernel_rfl) (by kernel_rfl) ?hQRD4x16 ?hyRD4x16 (by assumption) ?restRD4x16
                    case' hiRD4x16 => (first | (simp only [List.getElem?_toArray, List.getElem?_cons_succ, List.getElem?_cons_zero]; done) | (simp only [List.getElem?_toArray, List.getElem?_cons_succ, List.getElem?_cons_zero]; rfl))
                    case' hQRD4x16 => exact fun _ _ _ h => h
                    case' hyRD4x16 => refine Or.inl ⟨by rfl, ?_⟩
                    (intro w hSw; (try dsimp only at hSw); go_simp; try with_reducible rfl)
                    try simp only [Act.put, List.setIfInBounds_toArray, List.set_cons_zero, List.set_cons_succ]
                    refine' wpAnyH_take (i := 16) (oi := _) (v := _) ?hiRD4x17 (by kernel_rfl) (by kernel_rfl) (by kernel_rfl) ?hQRD4x17 ?hyRD4x17 (by assumption) ?restRD4x17
                    case' hiRD4x17 => (first | (simp only [List.getElem?_toArray, List.getElem?_cons_succ, List.getElem?_cons_zero]; done) | (simp only [List.getElem?_toArray, List.getElem?_cons_succ, List.getElem?_cons_zero]; rfl))
                    case' hQRD4x17 => exact fun _ _ _ h => h
                    case' hyRD4x17 => refine Or.inl ⟨by rfl, ?_⟩
                    (intro w hSw; (try dsimp only at hSw); go_simp; try with_reducible rfl)
                    try simp only [Act.put, List.setIfInBounds_toArray, List.set_cons_zero, List.set_cons_succ]
                    refine' wpAnyH_take (i := 17) (oi := _) (v := _) ?hiRD4x18 (by kernel_rfl) (by kernel_rfl) (by kernel_rfl) ?hQRD4x18 ?hyRD4x18 (by assumption) ?restRD4x18
                    case' hiRD4x18 => (first | (simp only [List.getElem?_toArray, List.getElem?_cons_succ, List.getElem?_cons_zero]; done) | (simp only [List.getElem?_toArray, List.getElem?_cons_succ, List.getElem?_cons_zero]; rfl))
                    case' hQRD4x18 => exact fun _ _ _ h => h
                    case' hyRD4x18 => refine Or.inl ⟨by rfl, ?_⟩
                    (intro w hSw; (obtain ⟨x0, lx, z0, z2, zl, y0, y4, yl⟩ := KP.out _ hSw.out); go_simp; try with_reducible rfl)
                    try simp only [Act.put, List.setIfInBounds_toArray, List.set_cons_zero, List.set_cons_succ]
                    refine' wpAnyH_take (i := 18) (oi := _) (v := _) ?hiRD4x19 (by kernel_rfl) (by kernel_rfl) (by kernel_rfl) ?hQRD4x19 ?hyRD4x19 (by assumption) ?restRD4x19
                    case' hiRD4x19 => (first | (simp only [List.getElem?_toArray, List.getElem?_cons_succ, List.getElem?_cons_zero]; done) | (simp only [List.getElem?_toArray, List.getElem?_cons_succ, List.getElem?_cons_zero]; rfl))
                    case' hQRD4x19 => exact fun _ _ _ h => h
                    case' hyRD4x19 => refine Or.inl ⟨by rfl, ?_⟩
                    (intro w hSw; (try dsimp only at hSw); go_simp; try with_reducible rfl)
                    try simp only [Act.put, List.setIfInBounds_toArray, List.set_cons_zero, List.set_cons_succ]
                    refine' wpAnyH_take (i := 19) (oi := _) (v := _) ?hiRD4x20 (by kernel_rfl) (by kernel_rfl) (by kernel_rfl) ?hQRD4x20 ?hyRD4x20 (by assumption) ?restRD4x20
                    case' hiRD4x20 => (first | (simp only [List.getElem?_toArray, List.getElem?_cons_succ, List.getElem?_cons_zero]; done) | (simp only [List.getElem?_toArray, List.getElem?_cons_succ, List.getElem?_cons_zero]; rfl))
                    case' hQRD4x20 => exact fun _ _ _ h => h
                    case' hyRD4x20 => refine Or.inl ⟨by rfl, ?_⟩
                    (intro w hSw; (try dsimp only at hSw); go_simp; try with_reducible rfl)
                    try simp only [Act.put, List.setIfInBounds_toArray, List.set_cons_zero, List.set_cons_succ]
                    refine' wpAnyH_take (i := 20) (oi := _) (v := _) ?hiRD4x21 (by kernel_rfl) (by kernel_rfl) (by kernel_rfl) ?hQRD4x21 ?hyRD4x21 (by assumption) ?restRD4x21
                    case' hiRD4x21 => (first | (simp only [List.getElem?_toArray, List.getElem?_cons_succ, List.getElem?_cons_zero]; done) | (simp only [List.getElem?_toArray, List.getElem?_cons_succ, List.getElem?_cons_zero]; rfl))
                    case' hQRD4x21 => exact fun _ _ _ h => h
                    case' hyRD4x21 => refine Or.inl ⟨by rfl, ?_⟩
                    (intro w hSw; (try dsimp only at hSw); go_simp; try with_reducible rfl)
                    try simp only [Act.put, List.setIfInBounds_toArray, List.set_cons_zero, List.set_cons_succ]
                    refine' wpAnyH_take (i := 21) (oi := _) (v := _) ?hiRD4x22 (by kernel_rfl) (by kernel_rfl) (by kernel_rfl) ?hQRD4x22 ?hyRD4x22 (by assumption) ?restRD4x22
                    case' hiRD4x22 => (first | (simp only [List.getElem?_toArray, List.getElem?_cons_succ, List.getElem?_cons_zero]; done) | (simp only [List.getElem?_toArray, List.getElem?_cons_succ, List.getElem?_cons_zero]; rfl))
                    case' hQRD4x22 => exact fun _ _ _ h => h
                    case' hyRD4x22 => refine Or.inl ⟨by rfl, ?_⟩
                    (intro w hSw; (obtain ⟨x0, lx, z0, z2, zl, y0, y4, yl⟩ := KP.out _ hSw.out); go_simp; try with_reducible rfl)
                    try simp only [Act.put, List.setIfInBounds_toArray, List.set_cons_zero, List.set_cons_succ]
                    refine' wpAnyH_take (i := 22) (oi := _) (v := _) ?hiRD4x23 (by kernel_rfl) (by kernel_rfl) (by kernel_rfl) ?hQRD4x23 ?hyRD4x23 (by assumption) ?restRD4x23
                    case' hiRD4x23 => (first | (simp only [List.getElem?_toArray, List.getElem?_cons_succ, List.getElem?_cons_zero]; done) | (simp only [List.getElem?_toArray, List.getElem?_cons_succ, List.getElem?_cons_zero]; rfl))
                    case' hQRD4x23 => exact fun _ _ _ h => h
                    case' hyRD4x23 => refine Or.inl ⟨by rfl, ?_⟩
                    (intro w hSw; (try dsimp only at hSw); go_simp; try with_reducible rfl)
                    try simp only [Act.put, List.setIfInBounds_toArray, List.set_cons_zero, List.set_cons_succ]
                    refine' wpAnyH_take (i := 23) (oi := _) (v := _) ?hiRD4x24 (by kernel_rfl) (by kernel_rfl) (by kernel_rfl) ?hQRD4x24 ?hyRD4x24 (by assumption) ?restRD4x24
                    case' hiRD4x24 => (first | (simp only [List.getElem?_toArray, List.getElem?_cons_succ, List.getElem?_cons_zero]; done) | (simp only [List.getElem?_toArray, List.getElem?_cons_succ, List.getElem?_cons_zero]; rfl))
                    case' hQRD4x24 => exact fun _ _ _ h => h
                    case' hyRD4x24 => refine Or.inl ⟨by rfl, ?_⟩
                    (intro w hSw; (try dsimp only at hSw); go_simp; try with_reducible rfl)
                    try simp only [Act.put, List.setIfInBounds_toArray, List.set_cons_zero, List.set_cons_succ]
                    refine' wpAnyH_take (i := 24) (oi := _) (v := _) ?hiRD4x25 (by kernel_rfl) (by kernel_rfl) (by kernel_rfl) ?hQRD4x25 ?hyRD4x25 (by assumption) ?restRD4x25
                    case' hiRD4x25 => (first | (simp only [List.getElem?_toArray, List.getElem?_cons_succ, List.getElem?_cons_zero]; done) | (simp only [List.getElem?_toArray, List.getElem?_cons_succ, List.getElem?_cons_zero]; rfl))
                    case' hQRD4x25 => exact fun _ _ _ h => h
                    case' hyRD4x25 => refine Or.inl ⟨by rfl, ?_⟩
                    (intro w hSw; (try dsimp only at hSw); go_simp; try with_reducible rfl)
                    try simp only [Act.put, List.setIfInBounds_toArray, List.set_cons_zero, List.set_cons_succ]
                    refine' wpAnyH_take (i := 25) (oi := _) (v := _) ?hiRD4x26 (by kernel_rfl) (by kernel_rfl) (by kernel_rfl) ?hQRD4x26 ?hyRD4x26 (by assumption) ?restRD4x26
                    case' hiRD4x26 => (first | (simp only [List.getElem?_toArray, List.getElem?_cons_succ, List.getElem?_cons_zero]; done) | (simp only [List.getElem?_toArray, List.getElem?_cons_succ, List.getElem?_cons_zero]; rfl))
                    case' hQRD4x26 => exact fun _ _ _ h => h
                    case' hyRD4x26 => refine Or.inl ⟨by rfl, ?_⟩
                    (intro w hSw; (obtain ⟨x0, lx, z0, z2, zl, y0, y4, yl⟩ := KP.out _ hSw.out); go_simp; try with_reducible rfl)
                    try simp only [Act.put, List.setIfInBounds_toArray, List.set_cons_zero, List.set_cons_succ]
                    refine' wpAnyH_take (i := 26) (oi := _) (v := _) ?hiRD4x27 (by kernel_rfl) (by kernel_rfl) (by kernel_rfl) ?hQRD4x27 ?hyRD4x27 (by assumption) ?restRD4x27
                    case' hiRD4x27 => (first | (simp only [List.getElem?_toArray, List.getElem?_cons_succ, List.getElem?_cons_zero]; done) | (simp only [List.getElem?_toArray, List.getElem?_cons_succ, List.getElem?_cons_zero]; rfl))
                    case' hQRD4x27 => exact fun _ _ _ h => h
                    case' hyRD4x27 => refine Or.inl ⟨by rfl, ?_⟩
                    (intro w hSw; (try dsimp only at hSw); go_simp; try with_reducible rfl)
                    try simp only [Act.put, List.setIfInBounds_toArray, List.set_cons_zero, List.set_cons_succ]
                    refine' wpAnyH_take (i := 27) (oi := _) (v := _) ?hiRD4x28 (by kernel_rfl) (by kernel_rfl) (by kernel_rfl) ?hQRD4x28 ?hyRD4x28 (by assumption) ?restRD4x28
                    case' hiRD4x28 => (first | (simp only [List.getElem?_toArray, List.getElem?_cons_succ, List.getElem?_cons_zero]; done) | (simp only [List.getElem?_toArray, List.getElem?_cons_succ, List.getElem?_cons_zero]; rfl))
                    case' hQRD4x28 => exact fun _ _ _ h => h
                    case' hyRD4x28 => refine Or.inl ⟨by rfl, ?_⟩
                    (intro w hSw; (try dsimp only at hSw); go_simp; try with_reducible rfl)
                    try simp only [Act.put, List.setIfInBounds_toArray, List.set_cons_zero, List.set_cons_succ]
                    refine' wpAnyH_take (i := 28) (oi := _) (v := undef) ?hiRD4x29 (by kernel_rfl) (by kernel_rfl) (by kernel_rfl) ?hQRD4x29 ?hyRD4x29 (by assumption) ?restRD4x29
                    case' hiRD4x29 => (first | (simp only [List.getElem?_toArray, List.getElem?_cons_succ, List.getElem?_cons_zero]; done) | (simp only [List.getElem?_toArray, List.getElem?_cons_succ, List.getElem?_cons_zero]; rfl))
                    case' hQRD4x29 => exact fun _ _ _ h => h
                    case' hyRD4x29 => exact Or.inr ⟨by rfl, rfl⟩
                    try simp only [Act.put, List.setIfInBounds_toArray, List.set_cons_zero, List.set_cons_succ]
                    refine' wpAnyH_take (i := 29) (oi := _) (v := undef) ?hiRD4x30 (by kernel_rfl) (by kernel_rfl) (by kernel_rfl) ?hQRD4x30 ?hyRD4x30 (by assumption) ?restRD4x30
                    case' hiRD4x30 => (first | (simp only [List.getElem?_toArray, List.getElem?_cons_succ, List.getElem?_cons_zero]; done) | (simp only [List.getElem?_toArray, List.getElem?_cons_succ, List.getElem?_cons_zero]; rfl))
                    case' hQRD4x30 => exact fun _ _ _ h => h
                    case' hyRD4x30 => exact Or.inr ⟨by rfl, rfl⟩
                    try simp only [Act.put, List.setIfInBounds_toArray, List.set_cons_zero, List.set_cons_succ]
                    refine' wpAnyH_take (i := 30) (oi := _) (v := undef) ?hiRD4x31 (by kernel_rfl) (by kernel_rfl) (by kernel_rfl) ?hQRD4x31 ?hyRD4x31 (by assumption) ?restRD4x31
                    case' hiRD4x31 => (first | (simp only [List.getElem?_toArray, List.getElem?_cons_succ, List.getElem?_cons_zero]; done) | (simp only [List.getElem?_toArray, List.getElem?_cons_succ, List.getElem?_cons_zero]; rfl))
                    case' hQRD4x31 => exact fun _ _ _ h => h
                    case' hyRD4x31 => exact Or.inr ⟨by rfl, rfl⟩
                    try simp only [Act.put, List.setIfInBounds_toArray, List.set_cons_zero, List.set_cons_succ]
                    refine' wpAnyH_take (i := 31) (oi := _) (v := undef) ?hiRD4x32 (by kernel_rfl) (by kernel_rfl) (by kernel_rfl) ?hQRD4x32 ?hyRD4x32 (by assumption) ?restRD4x32
                    case' hiRD4x32 => (first | (simp only [List.getElem?_toArray, List.getElem?_cons_succ, List.getElem?_cons_zero]; done) | (simp only [List.getElem?_toArray, List.getElem?_cons_succ, List.getElem?_cons_zero]; rfl))
                    case' hQRD4x32 => exact fun _ _ _ h => h
                    case' hyRD4x32 => exact Or.inr ⟨by rfl, rfl⟩
                    try simp only [Act.put, List.setIfInBounds_toArray, List.set_cons_zero, List.set_cons_succ]
                    refine' wpAnyH_take (i := 32) (oi := _) (v := undef) ?hiRD4x33 (by kernel_rfl) (by kernel_rfl) (by kernel_rfl) ?hQRD4x33 ?hyRD4x33 (by assumption) ?restRD4x33
                    case' hiRD4x33 => (first | (simp only [List.getElem?_toArray, List.getElem?_cons_succ, List.getElem?_cons_zero]; done) | (simp only [List.getElem?_toArray, List.getElem?_cons_succ, List.getElem?_cons_zero]; rfl))
                    case' hQRD4x33 => exact fun _ _ _ h => h
                    case' hyRD4x33 => exact Or.inr ⟨by rfl, rfl⟩
                    try simp only [Act.put, List.setIfInBounds_toArray, List.set_cons_zero, List.set_cons_succ]
                    refine' wpAnyH_take (i := 33) (oi := _) (v := undef) ?hiRD4x34 (by kernel_rfl) (by kernel_rfl) (by kernel_rfl) ?hQRD4x34 ?hyRD4x34 (by assumption) ?restRD4x34
                    case' hiRD4x34 => (first | (simp only [List.getElem?_toArray, List.getElem?_cons_succ, List.getElem?_cons_zero]; done) | (simp only [List.getElem?_toArray, List.getElem?_cons_succ, List.getElem?_cons_zero]; rfl))
                    case' hQRD4x34 => exact fun _ _ _ h => h
                    case' hyRD4x34 => exact Or.inr ⟨by rfl, rfl⟩
                    try simp only [Act.put, List.setIfInBounds_toArray, List.set_cons_zero, List.set_cons_succ]
                    refine' wpAnyH_take (i := 34) (oi := _) (v := undef) ?hiRD4x35 (by kernel_rfl) (by kernel_rfl) (by kernel_rfl) ?hQRD4x35 ?hyRD4x35 (by assumption) ?restRD4x35
                    case' hiRD4x35 => (first | (simp only [List.getElem?_toArray, List.getElem?_cons_succ, List.getElem?_cons_zero]; done) | (simp only [List.getElem?_toArray, List.getElem?_cons_succ, List.getElem?_cons_zero]; rfl))
                    case' hQRD4x35 => exact fun _ _ _ h => h
                    case' hyRD4x35 => exact Or.inr ⟨by rfl, rfl⟩
                    try simp only [Act.put, List.setIfInBounds_toArray, List.set_cons_zero, List.set_cons_succ]
                    refine' wpAnyH_take (i := 35) (oi := _) (v := undef) ?hiRD4x36 (by kernel_rfl) (by kernel_rfl) (by kernel_rfl) ?hQRD4x36 ?hyRD4x36 (by assumption) ?restRD4x36
                    case' hiRD4x36 => (first | (simp only [List.getElem?_toArray, List.getElem?_cons_succ, List.getElem?_cons_zero]; done) | (simp only [List.getElem?_toArray, List.getElem?_cons_succ, List.getElem?_cons_zero]; rfl))
                    case' hQRD4x36 => exact fun _ _ _ h => h
                    case' hyRD4x36 => exact Or.inr ⟨by rfl, rfl⟩
                    try simp only [Act.put, List.setIfInBounds_toArray, List.set_cons_zero, List.set_cons_succ]
                    refine' wpAnyH_take (i := 36) (oi := _) (v := undef) ?hiRD4x37 (by kernel_rfl) (by kernel_rfl) (by kernel_rfl) ?hQRD4x37 ?hyRD4x37 (by assumption) ?restRD4x37
                    case' hiRD4x37 => (first | (simp only [List.getElem?_toArray, List.getElem?_cons_succ, List.getElem?_cons_zero]; done) | (simp only [List.getElem?_toArray, List.getElem?_cons_succ, List.getElem?_cons_zero]; rfl))
                    case' hQRD4x37 => exact fun _ _ _ h => h
                    case' hyRD4x37 => exact Or.inr ⟨by rfl, rfl⟩
                    try simp only [Act.put, List.setIfInBounds_toArray, List.set_cons_zero, List.set_cons_succ]
                    refine' wpAnyH_take (i := 37) (oi := _) (v := undef) ?hiRD4x38 (by kernel_rfl) (by kernel_rfl) (by kernel_rfl) ?hQRD4x38 ?hyRD4x38 (by assumption) ?restRD4x38
                    case' hiRD4x38 => (first | (simp only [List.getElem?_toArray, List.getElem?_cons_succ, List.getElem?_cons_zero]; done) | (simp only [List.getElem?_toArray, List.getElem?_cons_succ, List.getElem?_cons_zero]; rfl))
                    case' hQRD4x38 => exact fun _ _ _ h => h
                    case' hyRD4x38 => exact Or.inr ⟨by rfl, rfl⟩
                    try simp only [Act.put, List.setIfInBounds_toArray, List.set_cons_zero, List.set_cons_succ]
                    refine' wpAnyH_take (i := 38) (oi := _) (v := undef) ?hiRD4x39 (by kernel_rfl) (by kernel_rfl) (by kernel_rfl) ?hQRD4x39 ?hyRD4x39 (by assumption) ?restRD4x39
                    case' hiRD4x39 => (first | (simp only [List.getElem?_toArray, List.getElem?_cons_succ, List.getElem?_cons_zero]; done) | (simp only [List.getElem?_toArray, List.getElem?_cons_succ, List.getElem?_cons_zero]; rfl))
                    case' hQRD4x39 => exact fun _ _ _ h => h
                    case' hyRD4x39 => exact Or.inr ⟨by rfl, rfl⟩
                    try simp only [Act.put, List.setIfInBounds_toArray, List.set_cons_zero, List.set_cons_succ]
                    refine' wpAnyH_take (i := 39) (oi := _) (v := _) ?hiRD4x40 (by kernel_rfl) (by kernel_rfl) (by kernel_rfl) ?hQRD4x40 ?hyRD4x40 (by assumption) ?restRD4x40
                    case' hiRD4x40 => (first | (simp only [List.getElem?_toArray, List.getElem?_cons_succ, List.getElem?_cons_zero]; done) | (simp only [List.getElem?_toArray, List.getElem?_cons_succ, List.getElem?_cons_zero]; rfl))
                    case' hQRD4x40 => exact fun _ _ _ h => h
                    case' hyRD4x40 => refine Or.inl ⟨by rfl, ?_⟩
                    (intro w hSw; (try dsimp only at hSw); go_simp; try with_reducible rfl)
                    try simp only [Act.put, List.setIfInBounds_toArray, List.set_cons_zero, List.set_cons_succ]
                    refine' wpAnyH_take (i := 40) (oi := _) (v := _) ?hiRD4x41 (by kernel_rfl) (by kernel_rfl) (by kernel_rfl) ?hQRD4x41 ?hyRD4x41 (by assumption) ?restRD4x41
                    case' hiRD4x41 => (first | (simp only [List.getElem?_toArray, List.getElem?_cons_succ, List.getElem?_cons_zero]; done) | (simp only [List.getElem?_toArray, List.getElem?_cons_succ, List.getElem?_cons_zero]; rfl))
                    case' hQRD4x41 => exact fun _ _ _ h => h
                    case' hyRD4x41 => refine Or.inl ⟨by rfl, ?_⟩
                    (intro w hSw; (try dsimp only at hSw); go_simp; try with_reducible rfl)
                    try simp only [Act.put, List.setIfInBounds_toArray, List.set_cons_zero, List.set_cons_succ]
                    refine wpAnyH_done (by kernel_rfl) ?_ _
                    skip
                    have UN : Hid (Upd (fun _ => False) wo wq.drew) := US.out.trans UU.out (fun _ _ h => h)
                    go_wp2
                    go_roundw
                    case rel => exact ⟨m + 1, by omega, by simp, bb, rfl, NB, UN⟩
                    case measure => simp [intOf]; omega
        · obtain rfl : m = nl := by omega
          rcases B.out with ⟨er, _⟩ | ⟨bb, cb, er, hbm, hbs, _, _⟩
          · subst er
            have hB := B.out
            have EN := sweep_end (S := S1) (now := now) (most := most - k) (Or.inl (best_none (by rw [SL.out]; exact hB)))
            have FIN : Hid ((k : Int) = (N2 : Int) ∧ RGo w base wb X wr S2) := by
              obtain ⟨e2, n2, _⟩ := E1.out
              refine ⟨by rw [n2, EN.1]; simp, ?_⟩
              rw [e2, EN.2]
              exact RGo.onTo F1.out.1 F1.out.2 (R1.out.go0 U.out)
            clear EN hB
            go_wp2
            go_ret
            rw [FIN.out.1]
            exact ⟨rfl, FIN.out.2⟩
          · subst er
            have hbl : bb < C.length := by rw [← NL.out]; exact hbm
            have q2 : (bb : Int) < (m : Int) := by omega
            have q3 : decide ((bb : Int) < 0) = false := decide_eq_false (by omega)
            have m2 := M1.out.keep0 U.out
            obtain ⟨b2, tb, ep, hb2, hbl2, htk, hcs, _⟩ := cel_cells m2.cells hbl
            subst ep
            have etb : tb.c = cb := by
              have : S1.cells[bb]? = some tb.c := by rw [← M1.out.eq, List.getElem?_map, htk]; rfl
              rw [hbs] at this; injection this with e; exact e.symm
            have y0 := hcs 0 (by omega)
            simp only [rcs, List.getElem?_cons_zero, List.getElem?_cons_succ, Nat.add_zero, etb] at y0
            have x0 := m2.blk.cellAt (i := 0) (v := .slice (some ⟨b2, 0, none⟩) C.length c) rfl
            rw [← NL.out] at x0
            have hwb := m2.blk.lt
            have hB := B.out
            obtain ⟨hde, R, hR⟩ := best_some OK1.out.nd (by rw [SL.out]; exact hB) hbs
            have ST := sweep_step (now := now) (most := most - k) OK1.out (List.mem_of_getElem? hbs) hR hde.2 (by omega)
            have GL := goneP_less OK1.out.nd hbs 3
            have GO := Lib.hid (rgone_any (R1.out.keep0 U.out) cb.key 3 (by have := E1.out.2.2.1; have := HC.out; omega) (by have := E1.out.2.2.2; have := HC.out; omega))
            have NXT : Hid (∀ w', RGo wr base wb X1 w' (goneP S1 cb.key 3) → SwR w base wb X cl el now most S2 N2 (k + 1) w' ∧ lenAt w' wb < lenAt wo wb) := Lib.hid fun w' g => by
              obtain ⟨e2, n2, l1, l2⟩ := E1.out
              have u2 : Upd X w wr := F1.out.2.trans U.out (fun _ _ h => h.elim)
              have gg : RGo w base wb X w' (goneP S1 cb.key 3) := RGo.onTo F1.out.1 u2 g
              refine ⟨⟨goneP S1 cb.key 3, gg, ?_, ?_, by omega, by omega⟩, ?_⟩
              · rw [e2, ST.2]; congr 1; simp; omega
              · rw [n2, ST.1]
                have : most - (k : Int) - 1 = most - ((k + 1 : Nat) : Int) := by simp; omega
                rw [this]; simp; omega
              · obtain ⟨X', ⟨vs', ve', C', m', _⟩, _⟩ := gg
                rw [m'.lenAt, M1.out.lenAt]; omega
            clear hcs htk etb hbs hbl hR hde ST GL m2 hb2 hB
            obtain ⟨kb, ib, wbn⟩ := cb
            simp only at y0 GO NXT
            go_wp2_with (fail)
            go_at_call 60
            refine GO.out.mono ?_
            rintro e w10 ⟨rfl, g10⟩
            have NX2 := Lib.hid (NXT.out _ g10)
            clear g10 GO NXT
            go_wp2
            go_roundw
            case rel => exact ⟨k + 1, by go_num, NX2.out.1⟩
            case measure => exact NX2.out.2
    · have FIN : Hid ((k : Int) = (N2 : Int) ∧ RGo w base wb X wr S2) := by
        obtain ⟨S1, g, e2, n2, _⟩ := I.out
        have EN := sweep_end (S := S1) (now := now) (most := most - k) (Or.inr (by omega))
        exact ⟨by rw [n2, EN.1]; simp, by rw [e2, EN.2]; exact g⟩
      clear I
      go_wp2
      go_ret
      rw [FIN.out.1]
      exact ⟨rfl, FIN.out.2⟩
end Go.Proofs.YtgdenmddbgcacaaGreatDoor
