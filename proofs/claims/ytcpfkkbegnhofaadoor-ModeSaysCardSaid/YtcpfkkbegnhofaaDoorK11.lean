/- The document's modes: which can be. -/
import Derived.Test.YtcpfkkbegnhofaaDoorK10
set_option linter.unusedVariables false
set_option linter.unusedSimpArgs false
namespace Go.Proofs.YtcpfkkbegnhofaaDoor
open Go.RowKit

set_option maxHeartbeats 8000000 in
set_option maxRecDepth 100000 in
theorem right13_any (m : MD) (v : Value) (w : World) (h : RowOf txtc 1 w v m.ps) (hl : m.ps.length ≤ 1000000) (hs : ∀ t ∈ m.ps, t.length ≤ maxLen) (hcap : ∀ p n c, v = .slice p n c → n ≤ c ∧ c ≤ maxLen) :
    Calls Tryd.prog 11 #[mdV m v] w fun e w' => e = .returned (.bool (rightM m)) ∧ Upd (fun _ => False) w w' := by
  obtain ⟨p, c, rfl, hm⟩ := h.len
  obtain ⟨hcp, hcm⟩ := hcap _ _ _ rfl
  clear hcap
  unfold maxLen at hm hcm
  obtain ⟨on, bc, oi, oo, nl, rd, ps⟩ := m
  dsimp only at *
  have U : Hid (∀ o, Upd (fun _ => False) w (w.alloc o)) := fun o => (Upd.refl _ _).alloc o
  have SA : Hid (∀ W, Upd (fun _ => False) w W → Calls Tryd.prog 17 #[mdV ⟨on, bc, oi, oo, nl, rd, ps⟩ (.slice p ps.length c), mdV offM (.slice none 0 0)] W fun e w' => e = .returned (.bool (decide ((⟨on, bc, oi, oo, nl, rd, ps⟩ : MD) = offM))) ∧ Upd (fun _ => False) w w') := fun W u => by
    refine (same13r_any ⟨on, bc, oi, oo, nl, rd, ps⟩ offM _ _ W (h.keep u (fun _ _ _ h => h)) (Or.inl ⟨none, 0, rfl, rfl⟩) hl).mono ?_
    rintro e w' ⟨rfl, u2⟩; exact ⟨rfl, u.trans u2 (fun _ _ h => h)⟩
  have H := Lib.hid h
  have HS := Lib.hid hs
  clear h hs
  unfold mdV at *
  have RM : Hid (rightM ⟨on, bc, oi, oo, nl, rd, ps⟩ = if on = false then decide ((⟨on, bc, oi, oo, nl, rd, ps⟩ : MD) = offM) else if rd < 0 ∨ 1000000000 < rd ∨ (oi = true ∧ oo = true) ∨ (bc = true ∧ (oi = true ∨ oo = true)) then false else if bc = false then decide (ps = []) else decide (preR ps)) := rfl
  generalize rightM ⟨on, bc, oi, oo, nl, rd, ps⟩ = rr at *
  cases on with
  | false =>
    have R : Hid (rr = decide ((⟨false, bc, oi, oo, nl, rd, ps⟩ : MD) = offM)) := RM.out
    generalize decide ((⟨false, bc, oi, oo, nl, rd, ps⟩ : MD) = offM) = dd at *
    dsimp only [offM] at *
    generalize ps.length = np at *
    clear RM
    go_enter Tryd.func11, Tryd.ntmps11
    go_wp2_with fail
    refine (SA.out _ (U.out _)).mono ?_
    rintro e w5 ⟨rfl, u5⟩
    have U5 := Lib.hid u5
    clear u5
    go_wp2
    go_ret
    exact ⟨by rw [R.out]; rfl, U5.out⟩
  | true =>
    clear SA
    by_cases h1 : rd < 0
    · have R : Hid (rr = false) := RM.out.trans (by simp [h1])
      clear RM
      generalize ps.length = np at *
      go_enter Tryd.func11, Tryd.ntmps11
      go_wp2
      all_goals (go_ret; exact ⟨by rw [R.out]; rfl, U.out _⟩)
    · by_cases h2 : 1000000000 < rd
      · have R : Hid (rr = false) := RM.out.trans (by simp [h2])
        clear RM
        generalize ps.length = np at *
        go_enter Tryd.func11, Tryd.ntmps11
        go_wp2
        all_goals (go_ret; exact ⟨by rw [R.out]; rfl, U.out _⟩)
      · have RM : Hid (rr = if (oi = true ∧ oo = true) ∨ (bc = true ∧ (oi = true ∨ oo = true)) then false else if bc = false then decide (ps = []) else decide (preR ps)) := RM.out.trans (by simp [h1, h2])
        have LE : Hid (decide (ps = []) = decide ((ps.length : Int) = 0)) := decide_eq_decide.2 (by rw [← List.length_eq_zero_iff]; omega)
        obtain ⟨np, hnp⟩ : ∃ np, np = ps.length := ⟨_, rfl⟩
        rw [← hnp] at LE H hm hcp ⊢
        have NP := Lib.hid hnp
        clear hnp
        cases bc with
        | false =>
          cases oi with
          | false =>
            cases oo with
            | false =>
              have R : Hid (rr = decide (ps = [])) := RM.out.trans (by simp)
              clear RM
              go_enter Tryd.func11, Tryd.ntmps11
              go_wp2
              go_ret
              exact ⟨by rw [R.out, LE.out]; rfl, U.out _⟩
            | true =>
              have R : Hid (rr = decide (ps = [])) := RM.out.trans (by simp)
              clear RM
              go_enter Tryd.func11, Tryd.ntmps11
              go_wp2
              go_ret
              exact ⟨by rw [R.out, LE.out]; rfl, U.out _⟩
          | true =>
            cases oo with
            | false =>
              have R : Hid (rr = decide (ps = [])) := RM.out.trans (by simp)
              clear RM
              go_enter Tryd.func11, Tryd.ntmps11
              go_wp2
              go_ret
              exact ⟨by rw [R.out, LE.out]; rfl, U.out _⟩
            | true =>
              have R : Hid (rr = false) := RM.out.trans (by simp)
              clear RM LE
              go_enter Tryd.func11, Tryd.ntmps11
              go_wp2
              go_ret
              exact ⟨by rw [R.out]; rfl, U.out _⟩
        | true =>
          cases oi with
          | false =>
            cases oo with
            | false =>
              have R : Hid (rr = decide (preR ps)) := RM.out.trans (by simp)
              clear RM LE
              have K1 : Hid (∀ W, Upd (fun _ => False) (w.alloc (.cells #[.bool true, .bool true, .bool false, .bool false, .bool nl, .int .i64 rd, .slice p np c] 24)) W → Blk W w.heap.size [.bool true, .bool true, .bool false, .bool false, .bool nl, .int .i64 rd, .slice p np c] 24) := fun W u => u.blk (Blk.made w [.bool true, .bool true, .bool false, .bool false, .bool nl, .int .i64 rd, .slice p np c] _) (fun h => h)
              go_enter Tryd.func11, Tryd.ntmps11
              go_wp2
              go_loopw [55] (fun x7 wr => ∃ (k : Nat), k ≤ np ∧ x7 = .int .i64 (k : Int) ∧ Hid (preO ps k) ∧ Hid (Upd (fun _ => False) (w.alloc (.cells #[.bool true, .bool true, .bool false, .bool false, .bool nl, .int .i64 rd, .slice p np c] 24)) wr)) (fun x7 _ => np - (intOf x7).toNat)
              case atStart => exact ⟨0, by omega, rfl, Lib.hid (preO_zero ps), Lib.hid (Upd.refl _ _)⟩
              case round =>
                obtain ⟨k, hk, rfl, PA, U1⟩ := hrel
                have b1 := K1.out wr U1.out
                have y1 := b1.lt
                have d6 := b1.cellAt (i := 6) (v := .slice p np c) rfl
                clear b1
                by_cases hlt : k < np
                · have q1 : (k : Int) < (np : Int) := by omega
                  have CELL : Hid (∀ j (hj : j < ps.length), ∃ b off, p = some ⟨b, off, none⟩ ∧ b < wr.heap.size ∧ wr.cell? ⟨b, off + j, none⟩ = some (.string (ofL ps[j])) ∧ ps[j]? = some ps[j]) := fun j hjl => by
                    obtain ⟨b', off', ep', hb', c0'⟩ := txt_rcell (NP.out ▸ H.out.keep ((U.out _).trans U1.out (fun _ _ h => h)) (fun _ _ _ h => h)) hjl
                    exact ⟨b', off', ep', hb', c0', List.getElem?_eq_getElem hjl⟩
                  have hkl : k < ps.length := by rw [← NP.out]; exact hlt
                  obtain ⟨b, off, ep, hb, c0, gk⟩ := CELL.out k hkl
                  have GK := Lib.hid gk
                  obtain ⟨t, ht⟩ : ∃ t, t = ps[k] := ⟨_, rfl⟩
                  rw [← ht] at c0 GK
                  have tsz := ofL_size t
                  have HT := Lib.hid (HS.out t (List.mem_of_getElem? GK.out))
                  clear ht gk hkl
                  subst ep
                  by_cases h5 : 512 < t.length
                  · have q2 : (512 : Int) < (t.length : Int) := by omega
                    have R2 : Hid (rr = false) := R.out.trans (decide_eq_false (fun hR => by
                      have h3 := (preR_O.1 hR).1.1 k t (by have := NP.out; omega) GK.out
                      omega))
                    clear R CELL h5
                    generalize ofL t = st at *
                    generalize t.length = lt at *
                    go_wp2
                    go_ret
                    exact ⟨by rw [R2.out]; rfl, (U.out _).trans U1.out (fun _ _ h => h)⟩
                  · have q2 : ¬ (512 : Int) < (t.length : Int) := by omega
                    have H5 := Lib.hid h5
                    obtain ⟨st, hst⟩ : ∃ st, st = ofL t := ⟨_, rfl⟩
                    rw [← hst] at c0 tsz
                    have ST := Lib.hid hst
                    obtain ⟨w6, hw6⟩ : ∃ w6, w6 = wr := ⟨_, rfl⟩
                    clear hst h5
                    obtain ⟨lt, hlt2⟩ : ∃ lt, lt = t.length := ⟨_, rfl⟩
                    rw [← hlt2] at tsz q2
                    have LT := Lib.hid hlt2
                    clear hlt2
                    subst hw6
                    have q7 : (k : Int) ≤ (c : Int) := by omega
                    have q8 : (0 : Int) ≤ (k : Int) := by omega
                    go_wp2
                    go_loopw [68] (fun x8 wq => ∃ (j : Nat), j ≤ k ∧ x8 = .int .i64 (j : Int) ∧ Hid (wq = w6) ∧ Hid (∀ i q, i < j → ps[i]? = some q → q < t ∧ ¬ q <+: t)) (fun x8 _ => k - (intOf x8).toNat)
                    case atStart => exact ⟨0, by omega, rfl, Lib.hid rfl, Lib.hid (fun i q hi => by omega)⟩
                    case round =>
                      obtain ⟨j, hj, rfl, WQ, OK⟩ := hrel
                      have hwq := WQ.out
                      subst hwq
                      clear WQ
                      by_cases hjk : j < k
                      · have q3 : (j : Int) < (k : Int) := by omega
                        obtain ⟨b2, off2, ep2, _, c1, gj⟩ := CELL.out j (by have := NP.out; omega)
                        obtain ⟨rfl, rfl⟩ : b = b2 ∧ off = off2 := by injection ep2 with e; injection e with e1 e2; exact ⟨e1, e2⟩
                        have GJ := Lib.hid gj
                        obtain ⟨q, hq⟩ : ∃ q, q = ps[j]'(by have := NP.out; omega) := ⟨_, rfl⟩
                        rw [← hq] at c1 GJ
                        clear hq gj ep2
                        have qsz := ofL_size q
                        have LQ := less_txt q t
                        have rt0 := fun h w => run_take t (q.length : Int) (by omega) h w
                        have BQ0 := beq_txt (t.take q.length) q
                        rw [← ST.out] at LQ
                        have BAD : Hid ((¬ q < t ∨ q <+: t) → rr = false) := fun hh => R.out.trans (decide_eq_false (fun hR => by
                          have h3 := (preR_O.1 hR).1.2 k j t q (by have := NP.out; omega) hjk GK.out GJ.out
                          rcases hh with g | g
                          · exact g h3.1
                          · exact h3.2 g))
                        have OK2 : Hid (q < t → ¬ q <+: t → ∀ i q', i < j + 1 → ps[i]? = some q' → q' < t ∧ ¬ q' <+: t) := fun h1 h2 i q' hi hq' => by
                          by_cases e : i = j
                          · subst e; rw [GJ.out] at hq'; injection hq' with e; subst e; exact ⟨h1, h2⟩
                          · exact OK.out i q' (by omega) hq'
                        by_cases h1 : q < t
                        · rw [decide_eq_true h1] at LQ
                          by_cases h2 : q.length ≤ t.length
                          · have q4 : (q.length : Int) ≤ (lt : Int) := by rw [LT.out]; omega
                            have rt := rt0 (by omega)
                            rw [Int.toNat_natCast, ← ST.out] at rt
                            by_cases h3 : q <+: t
                            · rw [take_pre.2 h3, decide_eq_true rfl] at BQ0
                              rw [take_pre.2 h3] at rt
                              have R2 := Lib.hid (BAD.out (Or.inr h3))
                              clear h1 h2 h3 rt0 OK2 BAD R
                              generalize ofL q = sq at *
                              generalize q.length = lq at *
                              go_wp2
                              go_ret
                              exact ⟨by rw [R2.out]; rfl, (U.out _).trans U1.out (fun _ _ h => h)⟩
                            · rw [decide_eq_false (fun e => h3 (take_pre.1 e))] at BQ0
                              have OK3 := Lib.hid (OK2.out h1 h3)
                              clear h1 h2 h3 rt0 OK2 BAD
                              generalize ofL (t.take q.length) = sz at *
                              generalize ofL q = sq at *
                              generalize q.length = lq at *
                              go_wp2
                              go_roundw
                              case rel => exact ⟨j + 1, by omega, by simp, Lib.hid (by first | trivial | rfl), OK3⟩
                              case measure => simp [intOf]; omega
                          · have q4 : ¬ (q.length : Int) ≤ (lt : Int) := by rw [LT.out]; omega
                            have OK3 := Lib.hid (OK2.out h1 (fun g => h2 g.length_le))
                            clear h1 h2 rt0 OK2 BAD BQ0
                            generalize ofL q = sq at *
                            generalize q.length = lq at *
                            go_wp2
                            go_roundw
                            case rel => exact ⟨j + 1, by omega, by simp, Lib.hid (by first | trivial | rfl), OK3⟩
                            case measure => simp [intOf]; omega
                        · rw [decide_eq_false h1] at LQ
                          have R2 := Lib.hid (BAD.out (Or.inl h1))
                          clear h1 rt0 OK2 BAD R BQ0
                          generalize ofL q = sq at *
                          generalize q.length = lq at *
                          go_wp2
                          go_ret
                          exact ⟨by rw [R2.out]; rfl, (U.out _).trans U1.out (fun _ _ h => h)⟩
                      · have q3 : ¬ (j : Int) < (k : Int) := by omega
                        have PA2 : Hid (preO ps (k + 1)) := preO_succ PA.out GK.out (by have := H5.out; omega) (fun i q hi hq => OK.out i q (by omega) hq)
                        go_wp2
                        go_roundw
                        case rel => exact ⟨k + 1, by omega, by simp, PA2, U1⟩
                        case measure => simp [intOf]; omega
                · have q1 : ¬ (k : Int) < (np : Int) := by omega
                  have ek : k = ps.length := by have := NP.out; omega
                  have PA3 : Hid (preO ps ps.length) := by rw [ek] at PA; exact PA
                  clear PA ek
                  by_cases h1 : 1 ≤ np
                  · have q5 : (0 : Int) < (np : Int) := by omega
                    by_cases h2 : np ≤ 32
                    · have q6 : (np : Int) ≤ 32 := by omega
                      have R2 : Hid (rr = true) := R.out.trans (decide_eq_true (preR_O.2 ⟨PA3.out, by rw [← NP.out]; exact h1, by rw [← NP.out]; exact h2⟩))
                      clear h1 h2 R
                      go_wp2
                      go_ret
                      exact ⟨by rw [R2.out]; first | rfl | simp [q6], (U.out _).trans U1.out (fun _ _ h => h)⟩
                    · have q6 : ¬ (np : Int) ≤ 32 := by omega
                      have R2 : Hid (rr = false) := R.out.trans (decide_eq_false (fun hR => by have := (preR_O.1 hR).2.2; rw [← NP.out] at this; exact h2 this))
                      clear h1 h2 R
                      go_wp2
                      go_ret
                      exact ⟨by rw [R2.out]; first | rfl | simp [q6], (U.out _).trans U1.out (fun _ _ h => h)⟩
                  · have q5 : ¬ (0 : Int) < (np : Int) := by omega
                    have R2 : Hid (rr = false) := R.out.trans (decide_eq_false (fun hR => by have := (preR_O.1 hR).2.1; rw [← NP.out] at this; exact h1 this))
                    clear h1 R
                    go_wp2
                    go_ret
                    exact ⟨by rw [R2.out]; first | rfl | simp [q5], (U.out _).trans U1.out (fun _ _ h => h)⟩
            | true =>
              have R : Hid (rr = false) := RM.out.trans (by simp)
              clear RM LE
              go_enter Tryd.func11, Tryd.ntmps11
              go_wp2
              go_ret
              exact ⟨by rw [R.out]; rfl, U.out _⟩
          | true =>
            cases oo with
            | false =>
              have R : Hid (rr = false) := RM.out.trans (by simp)
              clear RM LE
              go_enter Tryd.func11, Tryd.ntmps11
              go_wp2
              go_ret
              exact ⟨by rw [R.out]; rfl, U.out _⟩
            | true =>
              have R : Hid (rr = false) := RM.out.trans (by simp)
              clear RM LE
              go_enter Tryd.func11, Tryd.ntmps11
              go_wp2
              go_ret
              exact ⟨by rw [R.out]; rfl, U.out _⟩
end Go.Proofs.YtcpfkkbegnhofaaDoor
/- Walk: ModeOff. -/
set_option linter.unusedVariables false
set_option linter.unusedSimpArgs false
namespace Go.Proofs.YtcpfkkbegnhofaaDoor
open Go.RowKit

abbrev TMd : TypeId := 24
theorem switch_out (m m' M : MD) (er : Int) (hM : switchM m m' = (M, er)) (p p' : Option Addr) (n n' c c' : Nat) (hn : n = m.ps.length) (hn' : n' = m'.ps.length) (W : World) (h : RowOf txtc 1 W (.slice p n c) m.ps) (h' : RowOf txtc 1 W (.slice p' n' c') m'.ps) (hl : m.ps.length ≤ 1000) (hl' : m'.ps.length ≤ 1000) (hs : ∀ t ∈ m.ps, t.length ≤ maxLen) (hs' : ∀ t ∈ m'.ps, t.length ≤ maxLen) :
    Calls Tryd.prog 22 #[.agg #[.bool m.on, .bool m.bc, .bool m.oi, .bool m.oo, .bool m.nl, .int .i64 m.rd, .slice p n c], .agg #[.bool m'.on, .bool m'.bc, .bool m'.oi, .bool m'.oo, .bool m'.nl, .int .i64 m'.rd, .slice p' n' c']] W fun e w' => ∃ p2 n2 c2, e = .returned (.tuple #[.agg #[.bool M.on, .bool M.bc, .bool M.oi, .bool M.oo, .bool M.nl, .int .i64 M.rd, .slice p2 n2 c2], .int .i64 er]) ∧ n2 = M.ps.length ∧ n2 ≤ maxLen ∧ RowOf txtc 1 w' (.slice p2 n2 c2) M.ps ∧ Upd (fun _ => False) W w' := by
  subst hn hn'
  refine (switch_any m m' _ _ W h h' (by omega) (by omega) hs hs').mono ?_
  rintro e w' ⟨v2, he, ht, u⟩
  rw [hM] at he ht
  obtain ⟨p2, c2, rfl, hm2⟩ := own_slice ht
  exact ⟨p2, _, c2, he, rfl, hm2, txts_row ht, u⟩
theorem same_out (m m' : MD) (p p' : Option Addr) (n n' c c' : Nat) (hn : n = m.ps.length) (hn' : n' = m'.ps.length) (r : Bool) (hr : decide (m = m') = r) (W : World) (h : RowOf txtc 1 W (.slice p n c) m.ps) (h' : RowOf txtc 1 W (.slice p' n' c') m'.ps) (hl : m.ps.length ≤ 1000) :
    Calls Tryd.prog 13 #[.agg #[.bool m.on, .bool m.bc, .bool m.oi, .bool m.oo, .bool m.nl, .int .i64 m.rd, .slice p n c], .agg #[.bool m'.on, .bool m'.bc, .bool m'.oi, .bool m'.oo, .bool m'.nl, .int .i64 m'.rd, .slice p' n' c']] W fun e w' => e = .returned (.bool r) ∧ Upd (fun _ => False) W w' := by
  subst hn hn' hr
  exact msame_any m m' _ _ W h h' (by omega)
theorem right_out (m : MD) (p : Option Addr) (n c : Nat) (hn : n = m.ps.length) (r : Bool) (hr : rightM m = r) (W : World) (h : RowOf txtc 1 W (.slice p n c) m.ps) (hl : m.ps.length ≤ 1000) (hs : ∀ t ∈ m.ps, t.length ≤ maxLen) :
    Calls Tryd.prog 18 #[.agg #[.bool m.on, .bool m.bc, .bool m.oi, .bool m.oo, .bool m.nl, .int .i64 m.rd, .slice p n c]] W fun e w' => e = .returned (.bool r) ∧ Upd (fun _ => False) W w' := by
  subst hn hr
  exact right_any m _ W h (by omega) hs
theorem right13_out (m : MD) (p : Option Addr) (n c : Nat) (hn : n = m.ps.length) (r : Bool) (hr : rightM m = r) (W : World) (h : RwT W p c m.ps) (hl : m.ps.length ≤ 1000) (hs : ∀ t ∈ m.ps, t.length ≤ maxLen) :
    Calls Tryd.prog 11 #[.agg #[.bool m.on, .bool m.bc, .bool m.oi, .bool m.oo, .bool m.nl, .int .i64 m.rd, .slice p n c]] W fun e w' => e = .returned (.bool r) ∧ Upd (fun _ => False) W w' := by
  subst hn hr
  refine right13_any m _ W h.1 (by omega) hs (fun p' n' c' e => ?_)
  simp only [Value.slice.injEq] at e
  obtain ⟨_, rfl, rfl⟩ := e
  exact h.2
theorem great_out (m : MD) (p : Option Addr) (n c : Nat) (hn : n = m.ps.length) (W : World) (h : RwT W p c m.ps) (hs : ∀ t ∈ m.ps, t.length ≤ maxLen) :
    Calls Tryd.prog 10 #[.agg #[.bool m.on, .bool m.bc, .bool m.oi, .bool m.oo, .bool m.nl, .int .i64 m.rd, .slice p n c]] W (GreatM m W) := by
  subst hn
  exact great_any m p c W h hs
theorem right_small {m : MD} (h : rightM m = true) : m.ps.length ≤ 32 ∧ ∀ t ∈ m.ps, t.length ≤ 512 := by
  unfold rightM at h
  split at h
  · have e := of_decide_eq_true h
    rw [e]; simp [offM]
  · split at h
    · cases h
    · split at h
      · have e := of_decide_eq_true h
        rw [e]; simp
      · have e := of_decide_eq_true h
        exact ⟨e.2.2.2, e.1⟩
theorem join_self {a : MD} (h : rightM a = true) (ho : a.on = true) : joinM a a = a := by
  have hr : Rising a.ps := by
    unfold rightM at h
    rw [if_neg (by rw [ho]; simp)] at h
    split at h
    · cases h
    · split at h
      · rw [of_decide_eq_true h]; exact List.Pairwise.nil
      · exact preR_rising (of_decide_eq_true h)
  unfold joinM
  have e : uniT (a.ps ++ a.ps) = a.ps := (uniT_eq hr (fun t => by simp)).symm
  rw [e]
theorem off_self {a : MD} (h : rightM a = true) : switchM a a = (a, 0) := by
  unfold switchM
  by_cases ho : a.on = true
  · rw [if_neg (by rw [ho]; simp), if_neg (by simp), join_self h ho, if_pos h]
  · rw [if_pos (Or.inl (by simpa using ho))]
theorem off_from (b : MD) : switchM offM b = (b, 0) := by unfold switchM; rw [if_pos (show offM.on = false ∨ b.on = false from Or.inl rfl)]
theorem off_to (a : MD) : switchM a offM = (offM, 0) := by unfold switchM; rw [if_pos (show a.on = false ∨ offM.on = false from Or.inr rfl)]
theorem sw_right {a b : MD} (ha : rightM a = true) (hb : rightM b = true) : rightM (switchM a b).1 = true ∧ ((switchM a b).2 = 0 ∨ ((switchM a b).2 = 132 ∧ (switchM a b).1 = a)) := by
  unfold switchM
  split
  · exact ⟨hb, Or.inl rfl⟩
  · split
    · exact ⟨ha, Or.inr ⟨rfl, rfl⟩⟩
    · split
      · rename_i h; exact ⟨h, Or.inl rfl⟩
      · exact ⟨ha, Or.inr ⟨rfl, rfl⟩⟩
set_option maxHeartbeats 8000000 in
set_option maxRecDepth 100000 in
theorem lawOff (a b : MD) (pa pb : Option Addr) (ca cb : Nat) (w : World) (ha : RwT w pa ca a.ps) (hb : RwT w pb cb b.ps) (hza : ∀ t ∈ a.ps, t.length ≤ maxLen) (hzb : ∀ t ∈ b.ps, t.length ≤ maxLen) (hs : StdU w) :
    Calls Tryd.prog 7 #[mdV a (.slice pa a.ps.length ca), mdV b (.slice pb b.ps.length cb)] w fun e w' => e = .returned (.bool true) ∧ Upd (fun _ => False) w w' := by
  have hla := ha.2
  have hlb := hb.2
  unfold maxLen at hla hlb
  obtain ⟨na, hna⟩ : ∃ na, na = a.ps.length := ⟨_, rfl⟩
  obtain ⟨nb, hnb⟩ : ∃ nb, nb = b.ps.length := ⟨_, rfl⟩
  unfold mdV
  rw [← hna, ← hnb]
  rw [← hna] at hla
  rw [← hnb] at hlb
  have NA := Lib.hid hna
  have NB := Lib.hid hnb
  have GA := Lib.hid (fun W (u : Upd (fun _ => False) w W) => great_out a pa na ca hna W (ha.keep u) hza)
  have GB := Lib.hid (fun W (u : Upd (fun _ => False) w W) => great_out b pb nb cb hnb W (hb.keep u) hzb)
  have AL := Lib.hid (fun W (u : Upd (fun _ => False) w W) => alive_any W (hs.keep u))
  have HA := Lib.hid ha
  have HB := Lib.hid hb
  have RAw : Hid (∀ W, Upd (fun _ => False) w W → RowOf txtc 1 W (.slice pa na ca) a.ps) := Lib.hid (fun W u => by rw [NA.out]; exact (HA.out.keep u).1)
  have RBw : Hid (∀ W, Upd (fun _ => False) w W → RowOf txtc 1 W (.slice pb nb cb) b.ps) := Lib.hid (fun W u => by rw [NB.out]; exact (HB.out.keep u).1)
  have ZA := Lib.hid hza
  have ZB := Lib.hid hzb
  clear ha hb hza hzb hs hna hnb
  have U0 : Hid (Upd (fun _ => False) w ((w.alloc (.cells #[.bool a.on, .bool a.bc, .bool a.oi, .bool a.oo, .bool a.nl, .int .i64 a.rd, .slice pa na ca] 24)).alloc (.cells #[.bool b.on, .bool b.bc, .bool b.oi, .bool b.oo, .bool b.nl, .int .i64 b.rd, .slice pb nb cb] 24))) := Lib.hid (((Upd.refl _ _).alloc _).alloc _)
  have BA0 := (Blk.made w [.bool a.on, .bool a.bc, .bool a.oi, .bool a.oo, .bool a.nl, .int .i64 a.rd, .slice pa na ca] 24).alloc (.cells #[.bool b.on, .bool b.bc, .bool b.oi, .bool b.oo, .bool b.nl, .int .i64 b.rd, .slice pb nb cb] 24)
  have BB0 := Blk.made (w.alloc (.cells #[.bool a.on, .bool a.bc, .bool a.oi, .bool a.oo, .bool a.nl, .int .i64 a.rd, .slice pa na ca] 24)) [.bool b.on, .bool b.bc, .bool b.oi, .bool b.oo, .bool b.nl, .int .i64 b.rd, .slice pb nb cb] 24
  have hs1 : (w.alloc (.cells #[.bool a.on, .bool a.bc, .bool a.oi, .bool a.oo, .bool a.nl, .int .i64 a.rd, .slice pa na ca] 24)).heap.size = w.heap.size + 1 := by simp
  rw [hs1] at BB0
  have BA0 := Lib.hid BA0
  have BB0 := Lib.hid BB0
  have AL := Lib.hid (AL.out _ U0.out)
  clear hs1
  go_enter Tryd.func7, Tryd.ntmps7
  go_wp2_with fail
  refine AL.out.mono ?_
  rintro e w1 ⟨rfl, u1⟩
  have U1 := Lib.hid (U0.out.trans u1 (fun _ _ h => h))
  have BA1 := Lib.hid (u1.blk BA0.out id)
  have BB1 := Lib.hid (u1.blk BB0.out id)
  obtain ⟨ya, ga, a0, a1, a2, a3, a4, a5, a6⟩ := mode_facts BA1.out
  have G1 := Lib.hid (GA.out w1 U1.out)
  clear u1 BA0 BB0 U0
  go_wp2_with fail
  refine G1.out.mono ?_
  rintro e w2 ⟨g, rfl, hg, u2⟩
  have U2 := Lib.hid (U1.out.trans u2 (fun _ _ h => h))
  cases g with
  | true =>
    clear u2
    go_wp2
    go_ret
    exact ⟨rfl, U2.out⟩
  | false =>
  have SA := Lib.hid (hg rfl)
  have BA2 := Lib.hid (u2.blk BA1.out id)
  have BB2 := Lib.hid (u2.blk BB1.out id)
  obtain ⟨yb, gb, b0, b1, b2, b3, b4, b5, b6⟩ := mode_facts BB2.out
  have G2 := Lib.hid (GB.out w2 U2.out)
  clear u2 BA1 BB1 hg ya ga a0 a1 a2 a3 a4 a5 a6 G1
  go_wp2_with fail
  refine G2.out.mono ?_
  rintro e w3 ⟨g, rfl, hg, u3⟩
  have U3 := Lib.hid (U2.out.trans u3 (fun _ _ h => h))
  cases g with
  | true =>
    clear u3
    go_wp2
    go_ret
    exact ⟨rfl, U3.out⟩
  | false =>
  have SB := Lib.hid (hg rfl)
  have BA3 := Lib.hid (u3.blk BA2.out id)
  have BB3 := Lib.hid (u3.blk BB2.out id)
  obtain ⟨ya, ga, a0, a1, a2, a3, a4, a5, a6⟩ := mode_facts BA3.out
  clear u3 BA2 BB2 hg yb gb b0 b1 b2 b3 b4 b5 b6 G2
  cases hra : rightM a with
  | false =>
    have R1 := Lib.hid (right13_out a pa na ca NA.out false hra w3 (HA.out.keep U3.out) (by have := SA.out.1; omega) ZA.out)
    clear hra
    go_wp2_with fail
    refine R1.out.mono ?_
    rintro e w4 ⟨rfl, u4⟩
    have U4 := Lib.hid (U3.out.trans u4 (fun _ _ h => h))
    clear u4
    go_wp2
    go_ret
    exact ⟨rfl, U4.out⟩
  | true =>
  have R1 := Lib.hid (right13_out a pa na ca NA.out true hra w3 (HA.out.keep U3.out) (by have := SA.out.1; omega) ZA.out)
  have RA := Lib.hid hra
  clear hra
  go_wp2_with fail
  refine R1.out.mono ?_
  rintro e w4 ⟨rfl, u4⟩
  have U4 := Lib.hid (U3.out.trans u4 (fun _ _ h => h))
  have BA4 := Lib.hid (u4.blk BA3.out id)
  have BB4 := Lib.hid (u4.blk BB3.out id)
  obtain ⟨yb, gb, b0, b1, b2, b3, b4, b5, b6⟩ := mode_facts BB4.out
  clear u4 BA3 BB3 ya ga a0 a1 a2 a3 a4 a5 a6 R1
  cases hrb : rightM b with
  | false =>
    have R1 := Lib.hid (right13_out b pb nb cb NB.out false hrb w4 (HB.out.keep U4.out) (by have := SB.out.1; omega) ZB.out)
    clear hrb
    go_wp2_with fail
    refine R1.out.mono ?_
    rintro e w5 ⟨rfl, u5⟩
    have U5 := Lib.hid (U4.out.trans u5 (fun _ _ h => h))
    clear u5
    go_wp2
    go_ret
    exact ⟨rfl, U5.out⟩
  | true =>
  have R1 := Lib.hid (right13_out b pb nb cb NB.out true hrb w4 (HB.out.keep U4.out) (by have := SB.out.1; omega) ZB.out)
  have RB := Lib.hid hrb
  clear hrb
  go_wp2_with fail
  refine R1.out.mono ?_
  rintro e w5 ⟨rfl, u5⟩
  have U5 := Lib.hid (U4.out.trans u5 (fun _ _ h => h))
  have BA5 := Lib.hid (u5.blk BA4.out id)
  have BB5 := Lib.hid (u5.blk BB4.out id)
  obtain ⟨ya, ga, a0, a1, a2, a3, a4, a5, a6⟩ := mode_facts BA5.out
  clear u5 BA4 BB4 yb gb b0 b1 b2 b3 b4 b5 b6 R1 GA GB AL
  have LA : Hid (a.ps.length ≤ 1000) := Lib.hid (by have := SA.out.1; omega)
  have LB : Hid (b.ps.length ≤ 1000) := Lib.hid (by have := SB.out.1; omega)
  -- off
  have S1 : Hid (Calls Tryd.prog 22 #[.agg #[.bool a.on, .bool a.bc, .bool a.oi, .bool a.oo, .bool a.nl, .int .i64 a.rd, .slice pa na ca], .agg #[.bool false, .bool false, .bool false, .bool false, .bool false, .int .i64 0, .slice none 0 0]] w5 fun e w' => ∃ p2 n2 c2, e = .returned (.tuple #[.agg #[.bool false, .bool false, .bool false, .bool false, .bool false, .int .i64 0, .slice p2 n2 c2], .int .i64 0]) ∧ n2 = 0 ∧ n2 ≤ maxLen ∧ RowOf txtc 1 w' (.slice p2 n2 c2) [] ∧ Upd (fun _ => False) w5 w') :=
    Lib.hid (switch_out a offM offM 0 (off_to a) pa none na 0 ca 0 NA.out rfl w5 (RAw.out _ U5.out) (Or.inl ⟨_, _, rfl, rfl⟩) LA.out (by simp [offM]) ZA.out (by simp [offM]))
  go_wp2_with fail
  refine S1.out.mono ?_
  rintro e w6 ⟨pm, nm, cm, rfl, hnm, _, hm, u6⟩
  subst hnm
  have BA6 := Lib.hid ((u6.blk BA5.out id).alloc (.cells #[.bool false, .bool false, .bool false, .bool false, .bool false, .int .i64 0, .slice pm 0 cm] 24))
  have BB6 := Lib.hid ((u6.blk BB5.out id).alloc (.cells #[.bool false, .bool false, .bool false, .bool false, .bool false, .int .i64 0, .slice pm 0 cm] 24))
  have BM6 := Lib.hid (Blk.made w6 [.bool false, .bool false, .bool false, .bool false, .bool false, .int .i64 0, .slice pm 0 cm] 24)
  have U6 : Hid (Upd (fun _ => False) w (w6.alloc (.cells #[.bool false, .bool false, .bool false, .bool false, .bool false, .int .i64 0, .slice pm 0 cm] 24))) := Lib.hid ((U5.out.trans u6 (fun _ _ h => h)).alloc _)
  obtain ⟨yb, gb, b0, b1, b2, b3, b4, b5, b6⟩ := mode_facts BB6.out
  obtain ⟨ym, gm, m0, m1, m2, m3, m4, m5, m6⟩ := mode_facts BM6.out
  clear u6 BA5 BB5 ya ga a0 a1 a2 a3 a4 a5 a6 S1 hm
  -- on again
  have S2 := Lib.hid (switch_out offM b b 0 (off_from b) pm pb 0 nb cm cb rfl NB.out _ (Or.inl ⟨_, _, rfl, rfl⟩) (RBw.out _ U6.out) (by simp [offM]) LB.out (by simp [offM]) ZB.out)
  go_wp2_with fail
  refine S2.out.mono ?_
  rintro e w7 ⟨pn, nn, cn, rfl, hnn, hnl, hn, u7⟩
  unfold maxLen at hnl
  have NN := Lib.hid hnn
  have BA7 := Lib.hid ((u7.blk BA6.out id).alloc (.cells #[.bool b.on, .bool b.bc, .bool b.oi, .bool b.oo, .bool b.nl, .int .i64 b.rd, .slice pn nn cn] 24))
  have BB7 := Lib.hid ((u7.blk BB6.out id).alloc (.cells #[.bool b.on, .bool b.bc, .bool b.oi, .bool b.oo, .bool b.nl, .int .i64 b.rd, .slice pn nn cn] 24))
  have BM7 := Lib.hid ((u7.blk BM6.out id).alloc (.cells #[.bool b.on, .bool b.bc, .bool b.oi, .bool b.oo, .bool b.nl, .int .i64 b.rd, .slice pn nn cn] 24))
  have BN7 := Lib.hid (Blk.made w7 [.bool b.on, .bool b.bc, .bool b.oi, .bool b.oo, .bool b.nl, .int .i64 b.rd, .slice pn nn cn] 24)
  have HN7 : Hid (RowOf txtc 1 (w7.alloc (.cells #[.bool b.on, .bool b.bc, .bool b.oi, .bool b.oo, .bool b.nl, .int .i64 b.rd, .slice pn nn cn] 24)) (.slice pn nn cn) b.ps) := Lib.hid (hn.keep ((Upd.refl _ _).alloc _) (fun _ _ _ => id))
  have U7 : Hid (Upd (fun _ => False) w (w7.alloc (.cells #[.bool b.on, .bool b.bc, .bool b.oi, .bool b.oo, .bool b.nl, .int .i64 b.rd, .slice pn nn cn] 24))) := Lib.hid ((U6.out.trans u7 (fun _ _ h => h)).alloc _)
  obtain ⟨ya, ga, a0, a1, a2, a3, a4, a5, a6⟩ := mode_facts BA7.out
  clear u7 BA6 BB6 BM6 yb gb b0 b1 b2 b3 b4 b5 b6 ym gm m0 m1 m2 m3 m4 m5 m6 S2 hn hnn
  -- to itself
  have S3 := Lib.hid (switch_out a a a 0 (off_self RA.out) pa pa na na ca ca NA.out NA.out _ (RAw.out _ U7.out) (RAw.out _ U7.out) LA.out LA.out ZA.out ZA.out)
  go_wp2_with fail
  refine S3.out.mono ?_
  rintro e w8 ⟨px, nx, cx, rfl, hnx, hxl, hx, u8⟩
  unfold maxLen at hxl
  have NX := Lib.hid hnx
  have BA8 := Lib.hid ((u8.blk BA7.out id).alloc (.cells #[.bool a.on, .bool a.bc, .bool a.oi, .bool a.oo, .bool a.nl, .int .i64 a.rd, .slice px nx cx] 24))
  have BB8 := Lib.hid ((u8.blk BB7.out id).alloc (.cells #[.bool a.on, .bool a.bc, .bool a.oi, .bool a.oo, .bool a.nl, .int .i64 a.rd, .slice px nx cx] 24))
  have BM8 := Lib.hid ((u8.blk BM7.out id).alloc (.cells #[.bool a.on, .bool a.bc, .bool a.oi, .bool a.oo, .bool a.nl, .int .i64 a.rd, .slice px nx cx] 24))
  have BN8 := Lib.hid ((u8.blk BN7.out id).alloc (.cells #[.bool a.on, .bool a.bc, .bool a.oi, .bool a.oo, .bool a.nl, .int .i64 a.rd, .slice px nx cx] 24))
  have BX8 := Lib.hid (Blk.made w8 [.bool a.on, .bool a.bc, .bool a.oi, .bool a.oo, .bool a.nl, .int .i64 a.rd, .slice px nx cx] 24)
  have HN8 : Hid (RowOf txtc 1 (w8.alloc (.cells #[.bool a.on, .bool a.bc, .bool a.oi, .bool a.oo, .bool a.nl, .int .i64 a.rd, .slice px nx cx] 24)) (.slice pn nn cn) b.ps) := Lib.hid (HN7.out.keep (u8.alloc _) (fun _ _ _ => id))
  have HX8 : Hid (RowOf txtc 1 (w8.alloc (.cells #[.bool a.on, .bool a.bc, .bool a.oi, .bool a.oo, .bool a.nl, .int .i64 a.rd, .slice px nx cx] 24)) (.slice px nx cx) a.ps) := Lib.hid (hx.keep ((Upd.refl _ _).alloc _) (fun _ _ _ => id))
  have U8 : Hid (Upd (fun _ => False) w (w8.alloc (.cells #[.bool a.on, .bool a.bc, .bool a.oi, .bool a.oo, .bool a.nl, .int .i64 a.rd, .slice px nx cx] 24))) := Lib.hid ((U7.out.trans u8 (fun _ _ h => h)).alloc _)
  obtain ⟨ya, ga, a0, a1, a2, a3, a4, a5, a6⟩ := mode_facts BA8.out
  obtain ⟨yb, gb, b0, b1, b2, b3, b4, b5, b6⟩ := mode_facts BB8.out
  clear u8 BA7 BB7 BM7 BN7 HN7 S3 hx hnx
  -- to the other one
  obtain ⟨M, er, hM⟩ : ∃ M er, switchM a b = (M, er) := ⟨_, _, rfl⟩
  have SW := sw_right RA.out RB.out
  rw [hM] at SW
  have SW : rightM M = true ∧ (er = 0 ∨ (er = 132 ∧ M = a)) := SW
  have RM := Lib.hid SW.1
  have ER : er = 0 ∨ (er = 132 ∧ Hid (M = a)) := SW.2
  have hMs := right_small SW.1
  have LM : Hid (M.ps.length ≤ 1000) := Lib.hid (by have := hMs.1; omega)
  have ZM : Hid (∀ t ∈ M.ps, t.length ≤ maxLen) := Lib.hid (fun t ht => by have := hMs.2 t ht; unfold maxLen; omega)
  have S4 := Lib.hid (switch_out a b M er hM pa pb na nb ca cb NA.out NB.out _ (RAw.out _ U8.out) (RBw.out _ U8.out) LA.out LB.out ZA.out ZB.out)
  clear hM SW hMs
  go_wp2_with fail
  refine S4.out.mono ?_
  rintro e w9 ⟨py, ny, cy, rfl, hny, hyl, hy, u9⟩
  unfold maxLen at hyl
  have NY := Lib.hid hny
  obtain ⟨o9, ho9⟩ : ∃ o9, o9 = Obj.cells #[.bool M.on, .bool M.bc, .bool M.oi, .bool M.oo, .bool M.nl, .int .i64 M.rd, .slice py ny cy] 24 := ⟨_, rfl⟩
  have BA9 := (u9.blk BA8.out id).alloc o9
  have BB9 := (u9.blk BB8.out id).alloc o9
  have BM9 := (u9.blk BM8.out id).alloc o9
  have BN9 := (u9.blk BN8.out id).alloc o9
  have BX9 := (u9.blk BX8.out id).alloc o9
  have HN9 := HN8.out.keep (u9.alloc o9) (fun _ _ _ => id)
  have HX9 := HX8.out.keep (u9.alloc o9) (fun _ _ _ => id)
  have HY9 := hy.keep ((Upd.refl (fun _ => False) w9).alloc o9) (fun _ _ _ => id)
  have U9 := (U8.out.trans u9 (fun _ _ h => h)).alloc o9
  have BY9 := Blk.made w9 [.bool M.on, .bool M.bc, .bool M.oi, .bool M.oo, .bool M.nl, .int .i64 M.rd, .slice py ny cy] 24
  rw [ho9] at BA9 BB9 BM9 BN9 BX9 HN9 HX9 HY9 U9
  have BA9 := Lib.hid BA9
  have BB9 := Lib.hid BB9
  have BM9 := Lib.hid BM9
  have BN9 := Lib.hid BN9
  have BX9 := Lib.hid BX9
  have BY9 := Lib.hid BY9
  have HN9 := Lib.hid HN9
  have HX9 := Lib.hid HX9
  have HY9 := Lib.hid HY9
  have U9 := Lib.hid U9
  obtain ⟨ym, gm, m0, m1, m2, m3, m4, m5, m6⟩ := mode_facts BM9.out
  clear u9 BA8 BB8 BM8 BN8 BX8 HN8 HX8 S4 hy hny ho9 o9 ya ga a0 a1 a2 a3 a4 a5 a6 yb gb b0 b1 b2 b3 b4 b5 b6
  have T1 : Hid (∀ W, Calls Tryd.prog 13 #[.agg #[.bool false, .bool false, .bool false, .bool false, .bool false, .int .i64 0, .slice pm 0 cm], .agg #[.bool false, .bool false, .bool false, .bool false, .bool false, .int .i64 0, .slice none 0 0]] W fun e w' => e = .returned (.bool true) ∧ Upd (fun _ => False) W w') :=
    Lib.hid (fun W => same_out offM offM pm none 0 0 cm 0 rfl rfl true (by decide) W (Or.inl ⟨_, _, rfl, rfl⟩) (Or.inl ⟨_, _, rfl, rfl⟩) (by simp [offM]))
  rcases ER with rfl | ⟨rfl, hMa⟩
  all_goals
    go_wp2_with fail
    refine (T1.out _).mono ?_
    rintro e wa ⟨rfl, ua⟩
    have UA := Lib.hid (U9.out.trans ua (fun _ _ h => h))
    obtain ⟨xn, fn, n0, n1, n2, n3, n4, n5, n6⟩ := mode_facts (ua.blk BN9.out id)
    obtain ⟨xb, fb, b0, b1, b2, b3, b4, b5, b6⟩ := mode_facts (ua.blk BB9.out id)
    have BA := Lib.hid (ua.blk BA9.out id)
    have BX := Lib.hid (ua.blk BX9.out id)
    have BY := Lib.hid (ua.blk BY9.out id)
    have HX := Lib.hid (HX9.out.keep ua (fun _ _ _ => id))
    have HY := Lib.hid (HY9.out.keep ua (fun _ _ _ => id))
    have T2 := Lib.hid (same_out b b pn pb nn nb cn cb NN.out NB.out true (by simp) wa (HN9.out.keep ua (fun _ _ _ => id)) (RBw.out _ UA.out) LB.out)
    clear ua ym gm m0 m1 m2 m3 m4 m5 m6
    go_wp2_with fail
    refine T2.out.mono ?_
    rintro e wb ⟨rfl, ub⟩
    have UB := Lib.hid (UA.out.trans ub (fun _ _ h => h))
    obtain ⟨xx, fx, x0, x1, x2, x3, x4, x5, x6⟩ := mode_facts (ub.blk BX.out id)
    obtain ⟨xa, fa, a0, a1, a2, a3, a4, a5, a6⟩ := mode_facts (ub.blk BA.out id)
    have BA2 := Lib.hid (ub.blk BA.out id)
    have BY2 := Lib.hid (ub.blk BY.out id)
    have HY2 := Lib.hid (HY.out.keep ub (fun _ _ _ => id))
    have T3 := Lib.hid (same_out a a px pa nx na cx ca NX.out NA.out true (by simp) wb (HX.out.keep ub (fun _ _ _ => id)) (RAw.out _ UB.out) LA.out)
    clear ub xn fn n0 n1 n2 n3 n4 n5 n6 xb fb b0 b1 b2 b3 b4 b5 b6
    go_wp2_with fail
    refine T3.out.mono ?_
    rintro e wc ⟨rfl, uc⟩
    have UC := Lib.hid (UB.out.trans uc (fun _ _ h => h))
    obtain ⟨xy, fy, y0, y1, y2, y3, y4, y5, y6⟩ := mode_facts (uc.blk BY2.out id)
    have BA3 := Lib.hid (uc.blk BA2.out id)
    have BY3 := Lib.hid (uc.blk BY2.out id)
    have HY3 := Lib.hid (HY2.out.keep uc (fun _ _ _ => id))
    have T4 := Lib.hid (right_out _ py ny cy NY.out true RM.out wc HY3.out LM.out ZM.out)
    clear uc xx fx x0 x1 x2 x3 x4 x5 x6 xa fa a0 a1 a2 a3 a4 a5 a6
    go_wp2_with fail
    refine T4.out.mono ?_
    rintro e wd ⟨rfl, ud⟩
    have UD := Lib.hid (UC.out.trans ud (fun _ _ h => h))
    obtain ⟨xy, fy, y0, y1, y2, y3, y4, y5, y6⟩ := mode_facts (ud.blk BY3.out id)
    obtain ⟨xa, fa, a0, a1, a2, a3, a4, a5, a6⟩ := mode_facts (ud.blk BA3.out id)
    have HY4 := Lib.hid (HY3.out.keep ud (fun _ _ _ => id))
    clear ud
  · go_wp2
    go_ret
    exact ⟨rfl, UD.out⟩
  · have T5 := Lib.hid (same_out M a py pa ny na cy ca NY.out NA.out true (by rw [hMa.out]; simp) wd HY4.out (RAw.out _ UD.out) LM.out)
    go_wp2_with fail
    refine T5.out.mono ?_
    rintro e we ⟨rfl, ue⟩
    have UE := Lib.hid (UD.out.trans ue (fun _ _ h => h))
    clear ue
    go_wp2
    go_ret
    exact ⟨rfl, UE.out⟩
end Go.Proofs.YtcpfkkbegnhofaaDoor
/- Walk: bit; the rows of ModeWords. -/
set_option linter.unusedVariables false
set_option linter.unusedSimpArgs false
namespace Go.Proofs.YtcpfkkbegnhofaaDoor
open Go.RowKit

/-- 1 or 0. -/
def bitI (b : Bool) : Int := if b then 1 else 0
set_option maxHeartbeats 4000000 in
theorem bit_any (b : Bool) (w : World) : Calls Tryd.prog 14 #[.bool b] w fun e w' => e = .returned (.int .i64 (bitI b)) ∧ w' = w := by
  cases b with
  | true =>
    go_enter Tryd.func14, Tryd.ntmps14
    go_wp2
    go_ret
    exact ⟨rfl, rfl⟩
  | false =>
    go_enter Tryd.func14, Tryd.ntmps14
    go_wp2
    go_ret
    exact ⟨rfl, rfl⟩
/-- Words being put together, beside a block of numbers. -/
theorem txts_ne {w : World} {base : Nat} {v : Value} {l : List Txt} (h : TxtsAt w base v l) {b : Nat} (hb : v.ownBlock = some b) {ib : Nat} {cs : List Value} {T : TypeId} (hB : Blk w ib cs T) (hT : T ≠ 9) : b ≠ ib := by
  rintro rfl
  obtain ⟨_, _, cs', hs⟩ := own_lt h hb
  exact hT (hB.ty hs)
/-- Two texts behind the others. -/
theorem txts_app2 (w : World) (base : Nat) (v : Value) (l : List Txt) (t u : Txt) (h : TxtsAt w base v l) (hl : l.length ≤ 900000) (hb : base ≤ w.heap.size) :
    ∃ p c w', (Builtin.append_ #[22, 22] 22 #[v, .slice (some ⟨w.heap.size, 0, none⟩) 2 2]).run Tryd.prog (w.alloc (.cells #[.string (ofL t), .string (ofL u)] 9)) = .ok (.slice p (l.length + 2) c) w' ∧ TxtsAt w' base (.slice p (l.length + 2) c) (l ++ [t, u]) ∧ Upd (fun k => v.ownBlock = some k) w w' := by
  have u0 : Upd (fun _ => False) w (w.alloc (.cells #[.string (ofL t), .string (ofL u)] 9)) := (Upd.refl _ _).alloc _
  have h0 : TxtsAt (w.alloc (.cells #[.string (ofL t), .string (ofL u)] 9)) base v l := own_keep h u0 (fun _ _ h => h)
  have hlit : TxtsAt (w.alloc (.cells #[.string (ofL t), .string (ofL u)] 9)) 0 (.slice (some ⟨w.heap.size, 0, none⟩) 2 2) [t, u] := own_of (cs := []) (Nat.zero_le _) (Blk.made w _ _) rfl rfl (by unfold maxLen; omega)
  obtain ⟨v', w', a, b, c, d⟩ := txts_append _ base 0 22 v _ l [t, u] h0 hlit (by simp; omega) (Nat.le_trans hb u0.size)
  obtain ⟨p, k, e, _⟩ := own_slice b
  rw [List.length_append] at e
  subst e
  exact ⟨p, k, w', a, b, (u0.weaken (F := fun k => v.ownBlock = some k) (fun _ _ h => h.elim)).trans c (fun _ _ h => h)⟩
theorem rwt_own {w : World} {base : Nat} {p : Option Addr} {n c : Nat} {l : List Txt} (h : TxtsAt w base (.slice p n c) l) (hn : n = l.length) : RwT w p c l := by
  subst hn
  refine ⟨txts_row h, ?_⟩
  obtain ⟨_, ⟨e, e2⟩ | ⟨g, cap, cur, e, _, _, h1, h2, _⟩⟩ := h
  · simp only [Value.slice.injEq] at e
    obtain ⟨_, e3, rfl⟩ := e
    exact ⟨by omega, by unfold maxLen; omega⟩
  · simp only [Value.slice.injEq] at e
    obtain ⟨_, _, rfl⟩ := e
    exact ⟨h1, h2⟩
theorem parse_words (w : World) (b : Nat) (p : Option Addr) (n c : Nat) (ws : List Txt) (h : TxtsAt w b (.slice p n c) ws) (hn0 : n = ws.length) (hs : StdU w) (hn : ws.length ≤ 1000) (hl : ∀ t ∈ ws, t.length ≤ 10000) (on bc oi oo nl : Bool) (rd : Int) (ps : List Txt) (k : Nat) (hk : k = ps.length) (er : Int) (hm : parseM ws = (⟨on, bc, oi, oo, nl, rd, ps⟩, er)) :
    Calls Tryd.prog 12 #[.slice p n c] w fun e w' => ∃ p' c', e = .returned (.tuple #[.agg #[.bool on, .bool bc, .bool oi, .bool oo, .bool nl, .int .i64 rd, .slice p' k c'], .int .i64 er]) ∧ c' ≤ 9223372036854775807 ∧ TxtsAt w' w.heap.size (.slice p' k c') ps ∧ Upd (fun _ => False) w w' := by
  have hr := rwt_own h hn0
  subst hk hn0
  exact parseR_any p c ws w hr hs hn hl _ er hm
theorem wfp_len (s : Bool) (m : MD) (l : List Txt) : (wf s m 4 ++ pw l).length ≤ 5 + 2 * l.length := by
  have := wf_len s m 4
  rw [List.length_append, pw_len]; omega
theorem wfp_small (s : Bool) {m : MD} (h : ∀ t ∈ m.ps, t.length ≤ 512) : ∀ t ∈ wf s m 4 ++ pw m.ps.reverse, t.length ≤ 10000 := by
  intro t ht
  rcases List.mem_append.1 ht with h1 | h1
  · have := wf_small s m 4 (Nat.le_refl _) t h1; omega
  · have := pw_small (l := m.ps.reverse) (fun t ht => h t (List.mem_reverse.1 ht)) t h1; omega
theorem pw_snoc (l : List Txt) (t : Txt) : pw (l ++ [t]) = pw l ++ [wPre, t] := by unfold pw; simp
theorem rev_drop (l : List Txt) {k : Nat} (hk : k < l.length) {t : Txt} (ht : l[k]? = some t) : (l.drop k).reverse = (l.drop (k + 1)).reverse ++ [t] := by
  rw [List.drop_eq_getElem_cons hk, List.reverse_cons]
  rw [List.getElem?_eq_getElem hk] at ht
  simp only [Option.some.injEq] at ht
  rw [ht]
theorem lw_len (s : Bool) : (lw s).length = 5 := by cases s <;> rfl
end Go.Proofs.YtcpfkkbegnhofaaDoor
