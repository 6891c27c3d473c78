/- Walk: ModeSays. Printed by gensays.py. -/
import Derived.Test.YtcpfkkbegnhofaaDoorK12
import Derived.Deep.RegionHeld3
import Derived.Deep.DeepCutAuto
set_option linter.unusedVariables false
set_option linter.unusedSimpArgs false
namespace Go.Proofs.YtcpfkkbegnhofaaDoor
open Go.RowKit

set_option maxHeartbeats 8000000 in
set_option maxRecDepth 100000 in
theorem lawMSays_B (m : MD) (cc : Int) (p : Option Addr) (c : Nat) (w : World) (h : RwT w p c m.ps) (hz : ∀ t ∈ m.ps, t.length ≤ maxLen) (hs : StdU w) (hf : m.on = true ∧ m.bc = true ∧ m.oi = false ∧ m.oo = false) :
    Calls Tryd.prog 6 #[mdV m (.slice p m.ps.length c), .int .i64 cc] w fun e w' => e = .returned (.bool true) ∧ Upd (fun _ => False) w w' := by
  have hla := h.2
  unfold maxLen at hla
  obtain ⟨on, bc, oi, oo, nl, rd, ps⟩ := m
  dsimp only at *
  obtain ⟨rfl, rfl, rfl, rfl⟩ := hf
  obtain ⟨n, hn⟩ : ∃ n, n = ps.length := ⟨_, rfl⟩
  unfold mdV
  dsimp only
  rw [← hn]
  rw [← hn] at hla
  have NA := Lib.hid hn
  have GA := Lib.hid (fun W (u : Upd (fun _ => False) w W) => great_out ⟨true, true, false, false, nl, rd, ps⟩ p n c hn W (h.keep u) hz)
  have HA := Lib.hid h
  have HS := Lib.hid hs
  have ZA := Lib.hid hz
  clear h hz hs hn
  obtain ⟨w0, hw0⟩ : ∃ w0, w0 = w.alloc (.cells #[.bool true, .bool true, .bool false, .bool false, .bool nl, .int .i64 rd, .slice p n c] 24) := ⟨_, rfl⟩
  have u0 : Upd (fun _ => False) w w0 := by rw [hw0]; exact (Upd.refl _ _).alloc _
  have BA0 : Hid (Blk w0 w.heap.size [.bool true, .bool true, .bool false, .bool false, .bool nl, .int .i64 rd, .slice p n c] 24) := Lib.hid (by rw [hw0]; exact Blk.made w _ _)
  have AL := Lib.hid (alive_any _ (HS.out.keep u0))
  have U0 := Lib.hid u0
  rw [hw0] at AL
  go_enter Tryd.func6, Tryd.ntmps6
  go_wp2_with fail
  refine AL.out.mono ?_
  rintro e w1 ⟨rfl, u1⟩
  rw [← hw0] at u1
  have U1 : Hid (Upd (fun _ => False) w0 w1) := Lib.hid u1
  have BA1 := Lib.hid (u1.blk BA0.out id)
  obtain ⟨ya, ga, a0, a1, a2, a3, a4, a5, a6⟩ := mode_facts BA1.out
  have G1 := Lib.hid (GA.out w1 (U0.out.trans U1.out (fun _ _ h => h)))
  clear u1 AL hw0 u0
  go_wp2_with fail
  refine G1.out.mono ?_
  rintro e w2 ⟨g, rfl, hg, u2⟩
  have U2 := Lib.hid (U1.out.trans u2 (fun _ _ h => h))
  cases g with
  | true =>
    clear u2
    go_wp2
    go_ret
    exact ⟨rfl, (U0.out.trans U2.out (fun _ _ h => h))⟩
  | false =>
  have SA := Lib.hid (hg rfl)
  have BA2 := Lib.hid (u2.blk BA1.out id)
  obtain ⟨yb, gb, b0, b1, b2, b3, b4, b5, b6⟩ := mode_facts BA2.out
  clear u2 BA1 hg ya ga a0 a1 a2 a3 a4 a5 a6 G1
  cases hra : rightM ⟨true, true, false, false, nl, rd, ps⟩ with
  | false =>
    have R1 := Lib.hid (right13_out ⟨true, true, false, false, nl, rd, ps⟩ p n c NA.out false hra w2 (HA.out.keep (U0.out.trans U2.out (fun _ _ h => h))) (by have := SA.out.1; omega) ZA.out)
    clear hra
    go_wp2_with fail
    refine R1.out.mono ?_
    rintro e w4 ⟨rfl, u4⟩
    have U4 := Lib.hid (U2.out.trans u4 (fun _ _ h => h))
    clear u4
    go_wp2
    go_ret
    exact ⟨rfl, (U0.out.trans U4.out (fun _ _ h => h))⟩
  | true =>
  have R1 := Lib.hid (right13_out ⟨true, true, false, false, nl, rd, ps⟩ p n c NA.out true hra w2 (HA.out.keep (U0.out.trans U2.out (fun _ _ h => h))) (by have := SA.out.1; omega) ZA.out)
  clear hra
  go_wp2_with fail
  refine R1.out.mono ?_
  rintro e w3 ⟨rfl, u3⟩
  have U3 := Lib.hid (U2.out.trans u3 (fun _ _ h => h))
  clear u3 yb gb b0 b1 b2 b3 b4 b5 b6 R1 GA BA2 U2 U1 SA
  have CT : Hid (∀ W, Calls Tryd.prog 19 #[.agg #[.bool true, .bool true, .bool false, .bool false, .bool nl, .int .i64 rd, .slice p n c], .bool true] W fun e w' => e = .returned (.int .i64 132) ∧ Upd (fun _ => False) W w') := Lib.hid (fun W => by
    have := caching_any ⟨true, true, false, false, nl, rd, ps⟩ (.slice p n c) true W
    rw [show cachM ⟨true, true, false, false, nl, rd, ps⟩ true = 132 by simp [cachM]] at this
    exact this)
  have CF : Hid (∀ W, Calls Tryd.prog 19 #[.agg #[.bool true, .bool true, .bool false, .bool false, .bool nl, .int .i64 rd, .slice p n c], .bool false] W fun e w' => e = .returned (.int .i64 132) ∧ Upd (fun _ => False) W w') := Lib.hid (fun W => by
    have := caching_any ⟨true, true, false, false, nl, rd, ps⟩ (.slice p n c) false W
    rw [show cachM ⟨true, true, false, false, nl, rd, ps⟩ false = 132 by simp [cachM]] at this
    exact this)
  have TC : Hid (∀ x b, tracksM ⟨true, true, false, false, nl, rd, ps⟩ x = b → ∀ W, Calls Tryd.prog 20 #[.agg #[.bool true, .bool true, .bool false, .bool false, .bool nl, .int .i64 rd, .slice p n c], .int .i64 x] W fun e w' => e = .returned (.bool b) ∧ Upd (fun _ => False) W w') := Lib.hid (fun x b hb W => by
    subst hb
    exact tracks_any ⟨true, true, false, false, nl, rd, ps⟩ (.slice p n c) x W)
  have TA := Lib.hid (TC.out 0 false (by simp [tracksM]))
  have TB := Lib.hid (TC.out 1 false (by simp [tracksM]))
  have TD := Lib.hid (TC.out 2 false (by simp [tracksM]))
  have KP : Hid (∀ W, Upd (fun _ => False) w0 W → W.cell? ⟨w.heap.size, 0, none⟩ = some (.bool true) ∧ W.cell? ⟨w.heap.size, 1, none⟩ = some (.bool true) ∧ W.cell? ⟨w.heap.size, 2, none⟩ = some (.bool false) ∧ W.cell? ⟨w.heap.size, 3, none⟩ = some (.bool false) ∧ W.cell? ⟨w.heap.size, 4, none⟩ = some (.bool nl) ∧ W.cell? ⟨w.heap.size, 5, none⟩ = some (.int .i64 rd) ∧ W.cell? ⟨w.heap.size, 6, none⟩ = some (.slice p n c)) := Lib.hid (fun W u => (mode_facts (u.blk BA0.out id)).2.2)
  obtain ⟨z0, z1, z2, z3, z4, z5, z6⟩ := KP.out w3 U3.out
  have UU := U3
  go_upto_region 5 with (fail)
  go_cut [5, 6] (fun v5 v6 wx => v5 = .bool false ∧ v6 = .bool false ∧ Hid (Upd (fun _ => False) w0 wx))
  case first =>
    go_region_held3 (fun w' => w'.cell? ⟨w.heap.size, 0, none⟩ = some (.bool true) ∧ w'.cell? ⟨w.heap.size, 1, none⟩ = some (.bool true) ∧ w'.cell? ⟨w.heap.size, 2, none⟩ = some (.bool false) ∧ w'.cell? ⟨w.heap.size, 3, none⟩ = some (.bool false) ∧ w'.cell? ⟨w.heap.size, 4, none⟩ = some (.bool nl) ∧ w'.cell? ⟨w.heap.size, 5, none⟩ = some (.int .i64 rd) ∧ w'.cell? ⟨w.heap.size, 6, none⟩ = some (.slice p n c)) (go_keep) (first
      | (go_at_call 19; (with_reducible refine (CT.out _).mono ?_); rintro e w4 ⟨rfl, u4⟩; (have UU := Lib.hid (Upd.trans (by first | exact UU.out | exact UU.out.drew) u4 (fun _ _ h => h))); (clear z0 z1 z2 z3 z4 z5 z6); (obtain ⟨z0, z1, z2, z3, z4, z5, z6⟩ := KP.out _ UU.out))
      | (go_at_call 19; (with_reducible refine (CF.out _).mono ?_); rintro e w5 ⟨rfl, u4⟩; (have UU := Lib.hid (Upd.trans (by first | exact UU.out | exact UU.out.drew) u4 (fun _ _ h => h))); (clear z0 z1 z2 z3 z4 z5 z6); (obtain ⟨z0, z1, z2, z3, z4, z5, z6⟩ := KP.out _ UU.out)))
    all_goals
      go_wp2_with fail
      go_meet
      exact ⟨rfl, rfl, UU⟩
  case' rest =>
    obtain ⟨rfl, rfl, UX⟩ := hcut
    clear z0 z1 z2 z3 z4 z5 z6 UU
    obtain ⟨z0, z1, z2, z3, z4, z5, z6⟩ := KP.out _ UX.out
    have UU := UX
    go_upto_region 6 with (fail)
  go_cut [7, 8, 9] (fun v7 v8 v9 wx => v7 = .bool false ∧ v8 = .bool false ∧ v9 = .bool false ∧ Hid (Upd (fun _ => False) w0 wx))
  case first =>
    go_region_held3 (fun w' => w'.cell? ⟨w.heap.size, 0, none⟩ = some (.bool true) ∧ w'.cell? ⟨w.heap.size, 1, none⟩ = some (.bool true) ∧ w'.cell? ⟨w.heap.size, 2, none⟩ = some (.bool false) ∧ w'.cell? ⟨w.heap.size, 3, none⟩ = some (.bool false) ∧ w'.cell? ⟨w.heap.size, 4, none⟩ = some (.bool nl) ∧ w'.cell? ⟨w.heap.size, 5, none⟩ = some (.int .i64 rd) ∧ w'.cell? ⟨w.heap.size, 6, none⟩ = some (.slice p n c)) (go_keep) (first
      | (go_at_call 20; (with_reducible refine (TA.out _).mono ?_); rintro e w6 ⟨rfl, u4⟩; (have UU := Lib.hid (Upd.trans (by first | exact UU.out | exact UU.out.drew) u4 (fun _ _ h => h))); (clear z0 z1 z2 z3 z4 z5 z6); (obtain ⟨z0, z1, z2, z3, z4, z5, z6⟩ := KP.out _ UU.out))
      | (go_at_call 20; (with_reducible refine (TB.out _).mono ?_); rintro e w7 ⟨rfl, u4⟩; (have UU := Lib.hid (Upd.trans (by first | exact UU.out | exact UU.out.drew) u4 (fun _ _ h => h))); (clear z0 z1 z2 z3 z4 z5 z6); (obtain ⟨z0, z1, z2, z3, z4, z5, z6⟩ := KP.out _ UU.out))
      | (go_at_call 20; (with_reducible refine (TD.out _).mono ?_); rintro e w8 ⟨rfl, u4⟩; (have UU := Lib.hid (Upd.trans (by first | exact UU.out | exact UU.out.drew) u4 (fun _ _ h => h))); (clear z0 z1 z2 z3 z4 z5 z6); (obtain ⟨z0, z1, z2, z3, z4, z5, z6⟩ := KP.out _ UU.out)))
    all_goals
      go_wp2_with fail
      go_meet
      exact ⟨rfl, rfl, rfl, UU⟩
  case rest =>
    clear UX
    obtain ⟨rfl, rfl, rfl, UX⟩ := hcut
    clear z0 z1 z2 z3 z4 z5 z6 UU
    obtain ⟨z0, z1, z2, z3, z4, z5, z6⟩ := KP.out _ UX.out
    have FL := Lib.hid (fun W => flags_any ⟨true, true, false, false, nl, rd, ps⟩ p n c W)
    obtain ⟨fr, hfr⟩ : ∃ fr, flagsM ⟨true, true, false, false, nl, rd, ps⟩ = ([111, 110] : Txt) :: fr := ⟨_, rfl⟩
    have FRL : fr.length ≤ 10 := by
      have h1 : (flagsM ⟨true, true, false, false, nl, rd, ps⟩).length ≤ 5 := by cases nl <;> simp [flagsM]
      rw [hfr] at h1; simp only [List.length_cons] at h1; omega
    have FR := Lib.hid hfr
    clear hfr
    go_wp2_with fail
    refine (FL.out _).mono ?_
    rintro e w9 ⟨vl, rfl, tl, u9⟩
    have U9 := Lib.hid (UX.out.trans u9 (fun _ _ h => h))
    rw [FR.out] at tl
    obtain ⟨pl, cl, rfl, _⟩ := own_slice tl
    obtain ⟨g, rfl, hg, hcell0⟩ := txts_get tl (k := 0) (by simp)
    have hcell : w9.cell? ⟨g, 0, none⟩ = some (.string { data := #[111, 110] }) := hcell0
    have hll : (0 : Int) < ((([111, 110] : Txt) :: fr : List Txt).length : Int) := by simp only [List.length_cons]; omega
    generalize hgn : (([111, 110] : Txt) :: fr : List Txt).length = nn at *
    clear hcell0 tl u9 z0 z1 z2 z3 z4 z5 z6 hgn FRL
    have hlN : 0 < nn := by omega
    have hlD : decide (0 < nn) = true := decide_eq_true hlN
    have hlI : decide ((0 : Int) < (nn : Int)) = true := decide_eq_true hll
    obtain ⟨z0, z1, z2, z3, z4, z5, z6⟩ := KP.out _ U9.out
    have zb := (U9.out.blk BA0.out id).lt
    by_cases c2 : (2 : Int) < cc
    · have c2D : decide ((2 : Int) < cc) = true := decide_eq_true c2
      go_wp2
      go_quiet (fail)
      go_wp2
      go_ret
      exact ⟨rfl, U0.out.trans (U9.out.drewN _) (fun _ _ h => h)⟩
    · by_cases c0 : cc < 0
      · have c2D : decide ((2 : Int) < cc) = false := decide_eq_false c2
        have c0D : decide (cc < 0) = true := decide_eq_true c0
        go_wp2
        go_quiet (fail)
        go_wp2
        go_ret
        exact ⟨rfl, U0.out.trans (U9.out.drewN _) (fun _ _ h => h)⟩
      · have c2D : decide ((2 : Int) < cc) = false := decide_eq_false c2
        have c0D : decide (cc < 0) = false := decide_eq_false c0
        obtain ⟨b, hb, hx⟩ : ∃ b, tracksM ⟨true, true, false, false, nl, rd, ps⟩ cc = b ∧ ((cc = 0 ∧ b = false) ∨ (cc = 1 ∧ b = false) ∨ (cc = 2 ∧ b = false)) := by
          have : cc = 0 ∨ cc = 1 ∨ cc = 2 := by omega
          rcases this with rfl | rfl | rfl
          · exact ⟨_, rfl, Or.inl ⟨rfl, by simp [tracksM]⟩⟩
          · exact ⟨_, rfl, Or.inr (Or.inl ⟨rfl, by simp [tracksM]⟩)⟩
          · exact ⟨_, rfl, Or.inr (Or.inr ⟨rfl, by simp [tracksM]⟩)⟩
        have TX := Lib.hid (TC.out cc b hb)
        have ix := idx3 false false false cc b hx
        have LC : Hid (∀ W, Upd (fun _ => False) w9 W → W.cell? ⟨g, 0, none⟩ = some (.string { data := #[111, 110] })) := Lib.hid (fun W u => (u.cell (p := ⟨g, 0, none⟩) hg id).trans hcell)
        have UU := U9
        clear hx hb
        go_wp2
        refine wp_region_held_drew (S := fun w' => w'.cell? ⟨w.heap.size, 0, none⟩ = some (.bool true) ∧ w'.cell? ⟨w.heap.size, 1, none⟩ = some (.bool true) ∧ w'.cell? ⟨w.heap.size, 2, none⟩ = some (.bool false) ∧ w'.cell? ⟨w.heap.size, 3, none⟩ = some (.bool false) ∧ w'.cell? ⟨w.heap.size, 4, none⟩ = some (.bool nl) ∧ w'.cell? ⟨w.heap.size, 5, none⟩ = some (.int .i64 rd) ∧ w'.cell? ⟨w.heap.size, 6, none⟩ = some (.slice p n c) ∧ w'.cell? ⟨g, 0, none⟩ = some (.string { data := #[111, 110] })) (by kernel_rfl) ?_ (fun hHeld => ?_)
        · (try dsimp only); go_keep
        try simp only [Array.replicate, Act.put, List.setIfInBounds_toArray]
        refine' wpAnyH_take (i := 0) (oi := _) (v := _) ?hiCx1 (by kernel_rfl) (by kernel_rfl) (by kernel_rfl) ?hQCx1 ?hyCx1 (by assumption) ?restCx1
        case' hiCx1 => (first | (simp only [List.getElem?_toArray, List.getElem?_cons_succ, List.getElem?_cons_zero]; done) | (simp only [List.getElem?_toArray, List.getElem?_cons_succ, List.getElem?_cons_zero]; rfl))
        case' hQCx1 => exact fun _ _ _ h => h
        case' hyCx1 => refine Or.inl ⟨by rfl, ?_⟩
        (intro w hSw; (try dsimp only at hSw); go_simp; try with_reducible rfl)
        try simp only [Act.put, List.setIfInBounds_toArray, List.set_cons_zero, List.set_cons_succ]
        refine' wpAnyH_take (i := 1) (oi := _) (v := _) ?hiCx2 (by kernel_rfl) (by kernel_rfl) (by kernel_rfl) ?hQCx2 ?hyCx2 (by assumption) ?restCx2
        case' hiCx2 => (first | (simp only [List.getElem?_toArray, List.getElem?_cons_succ, List.getElem?_cons_zero]; done) | (simp only [List.getElem?_toArray, List.getElem?_cons_succ, List.getElem?_cons_zero]; rfl))
        case' hQCx2 => exact fun _ _ _ h => h
        case' hyCx2 => refine Or.inl ⟨by rfl, ?_⟩
        (intro w hSw; (try dsimp only at hSw); go_simp; try with_reducible rfl)
        try simp only [Act.put, List.setIfInBounds_toArray, List.set_cons_zero, List.set_cons_succ]
        refine' wpAnyH_take (i := 2) (oi := _) (v := _) ?hiCx3 (by kernel_rfl) (by kernel_rfl) (by kernel_rfl) ?hQCx3 ?hyCx3 (by assumption) ?restCx3
        case' hiCx3 => (first | (simp only [List.getElem?_toArray, List.getElem?_cons_succ, List.getElem?_cons_zero]; done) | (simp only [List.getElem?_toArray, List.getElem?_cons_succ, List.getElem?_cons_zero]; rfl))
        case' hQCx3 => exact fun _ _ _ h => h
        case' hyCx3 => refine Or.inl ⟨by rfl, ?_⟩
        (intro w hSw; (try dsimp only at hSw); go_simp; try with_reducible rfl)
        try simp only [Act.put, List.setIfInBounds_toArray, List.set_cons_zero, List.set_cons_succ]
        refine' wpAnyH_take (i := 3) (oi := _) (v := _) ?hiCx4 (by kernel_rfl) (by kernel_rfl) (by kernel_rfl) ?hQCx4 ?hyCx4 (by assumption) ?restCx4
        case' hiCx4 => (first | (simp only [List.getElem?_toArray, List.getElem?_cons_succ, List.getElem?_cons_zero]; done) | (simp only [List.getElem?_toArray, List.getElem?_cons_succ, List.getElem?_cons_zero]; rfl))
        case' hQCx4 => exact fun _ _ _ h => h
        case' hyCx4 => refine Or.inl ⟨by rfl, ?_⟩
        (intro w hSw; (try dsimp only at hSw); go_simp; try with_reducible rfl)
        try simp only [Act.put, List.setIfInBounds_toArray, List.set_cons_zero, List.set_cons_succ]
        refine' wpAnyH_take (i := 4) (oi := _) (v := _) ?hiCx5 (by kernel_rfl) (by kernel_rfl) (by kernel_rfl) ?hQCx5 ?hyCx5 (by assumption) ?restCx5
        case' hiCx5 => (first | (simp only [List.getElem?_toArray, List.getElem?_cons_succ, List.getElem?_cons_zero]; done) | (simp only [List.getElem?_toArray, List.getElem?_cons_succ, List.getElem?_cons_zero]; rfl))
        case' hQCx5 => exact fun _ _ _ h => h
        case' hyCx5 => refine Or.inl ⟨by rfl, ?_⟩
        (intro w hSw; (try dsimp only at hSw); go_simp; try with_reducible rfl)
        try simp only [Act.put, List.setIfInBounds_toArray, List.set_cons_zero, List.set_cons_succ]
        refine' wpAnyH_take (i := 5) (oi := _) (v := _) ?hiCx6 (by kernel_rfl) (by kernel_rfl) (by kernel_rfl) ?hQCx6 ?hyCx6 (by assumption) ?restCx6
        case' hiCx6 => (first | (simp only [List.getElem?_toArray, List.getElem?_cons_succ, List.getElem?_cons_zero]; done) | (simp only [List.getElem?_toArray, List.getElem?_cons_succ, List.getElem?_cons_zero]; rfl))
        case' hQCx6 => exact fun _ _ _ h => h
        case' hyCx6 => refine Or.inl ⟨by rfl, ?_⟩
        (intro w hSw; (try dsimp only at hSw); go_simp; try with_reducible rfl)
        try simp only [Act.put, List.setIfInBounds_toArray, List.set_cons_zero, List.set_cons_succ]
        refine' wpAnyH_take (i := 6) (oi := _) (v := _) ?hiCx7 (by kernel_rfl) (by kernel_rfl) (by kernel_rfl) ?hQCx7 ?hyCx7 (by assumption) ?restCx7
        case' hiCx7 => (first | (simp only [List.getElem?_toArray, List.getElem?_cons_succ, List.getElem?_cons_zero]; done) | (simp only [List.getElem?_toArray, List.getElem?_cons_succ, List.getElem?_cons_zero]; rfl))
        case' hQCx7 => exact fun _ _ _ h => h
        case' hyCx7 => refine Or.inl ⟨by rfl, ?_⟩
        (intro w hSw; (try dsimp only at hSw); go_simp; try with_reducible rfl)
        try simp only [Act.put, List.setIfInBounds_toArray, List.set_cons_zero, List.set_cons_succ]
        refine' wpAnyH_take (i := 7) (oi := _) (v := _) ?hiCx8 (by kernel_rfl) (by kernel_rfl) (by kernel_rfl) ?hQCx8 ?hyCx8 (by assumption) ?restCx8
        case' hiCx8 => (first | (simp only [List.getElem?_toArray, List.getElem?_cons_succ, List.getElem?_cons_zero]; done) | (simp only [List.getElem?_toArray, List.getElem?_cons_succ, List.getElem?_cons_zero]; rfl))
        case' hQCx8 => exact fun _ _ _ h => h
        case' hyCx8 => refine Or.inl ⟨by rfl, ?_⟩
        (intro w hSw; (try dsimp only at hSw); go_simp; try with_reducible rfl)
        try simp only [Act.put, List.setIfInBounds_toArray, List.set_cons_zero, List.set_cons_succ]
        refine' wpAnyH_take (i := 8) (oi := _) (v := _) ?hiCx9 (by kernel_rfl) (by kernel_rfl) (by kernel_rfl) ?hQCx9 ?hyCx9 (by assumption) ?restCx9
        case' hiCx9 => (first | (simp only [List.getElem?_toArray, List.getElem?_cons_succ, List.getElem?_cons_zero]; done) | (simp only [List.getElem?_toArray, List.getElem?_cons_succ, List.getElem?_cons_zero]; rfl))
        case' hQCx9 => exact fun _ _ _ h => h
        case' hyCx9 => refine Or.inl ⟨by rfl, ?_⟩
        (intro w hSw; (try dsimp only at hSw); go_simp; try with_reducible rfl)
        try simp only [Act.put, List.setIfInBounds_toArray, List.set_cons_zero, List.set_cons_succ]
        refine' wpAnyH_take (i := 9) (oi := _) (v := _) ?hiCx10 (by kernel_rfl) (by kernel_rfl) (by kernel_rfl) ?hQCx10 ?hyCx10 (by assumption) ?restCx10
        case' hiCx10 => (first | (simp only [List.getElem?_toArray, List.getElem?_cons_succ, List.getElem?_cons_zero]; done) | (simp only [List.getElem?_toArray, List.getElem?_cons_succ, List.getElem?_cons_zero]; rfl))
        case' hQCx10 => exact fun _ _ _ h => h
        case' hyCx10 => refine Or.inl ⟨by rfl, ?_⟩
        (intro w hSw; (try dsimp only at hSw); go_simp; try with_reducible rfl)
        try simp only [Act.put, List.setIfInBounds_toArray, List.set_cons_zero, List.set_cons_succ]
        refine' wpAnyH_take (i := 10) (oi := _) (v := _) ?hiCx11 (by kernel_rfl) (by kernel_rfl) (by kernel_rfl) ?hQCx11 ?hyCx11 (by assumption) ?restCx11
        case' hiCx11 => (first | (simp only [List.getElem?_toArray, List.getElem?_cons_succ, List.getElem?_cons_zero]; done) | (simp only [List.getElem?_toArray, List.getElem?_cons_succ, List.getElem?_cons_zero]; rfl))
        case' hQCx11 => exact fun _ _ _ h => h
        case' hyCx11 => refine Or.inl ⟨by rfl, ?_⟩
        (intro w hSw; (try dsimp only at hSw); go_simp; try with_reducible rfl)
        try simp only [Act.put, List.setIfInBounds_toArray, List.set_cons_zero, List.set_cons_succ]
        refine' wpAnyH_take (i := 11) (oi := _) (v := _) ?hiCx12 (by kernel_rfl) (by kernel_rfl) (by kernel_rfl) ?hQCx12 ?hyCx12 (by assumption) ?restCx12
        case' hiCx12 => (first | (simp only [List.getElem?_toArray, List.getElem?_cons_succ, List.getElem?_cons_zero]; done) | (simp only [List.getElem?_toArray, List.getElem?_cons_succ, List.getElem?_cons_zero]; rfl))
        case' hQCx12 => exact fun _ _ _ h => h
        case' hyCx12 => refine Or.inl ⟨by rfl, ?_⟩
        (intro w hSw; (try dsimp only at hSw); go_simp; try with_reducible rfl)
        try simp only [Act.put, List.setIfInBounds_toArray, List.set_cons_zero, List.set_cons_succ]
        refine' wpAnyH_take (i := 12) (oi := _) (v := _) ?hiCx13 (by kernel_rfl) (by kernel_rfl) (by kernel_rfl) ?hQCx13 ?hyCx13 (by assumption) ?restCx13
        case' hiCx13 => (first | (simp only [List.getElem?_toArray, List.getElem?_cons_succ, List.getElem?_cons_zero]; done) | (simp only [List.getElem?_toArray, List.getElem?_cons_succ, List.getElem?_cons_zero]; rfl))
        case' hQCx13 => exact fun _ _ _ h => h
        case' hyCx13 => refine Or.inl ⟨by rfl, ?_⟩
        (intro w hSw; (try dsimp only at hSw); go_simp; try with_reducible rfl)
        try simp only [Act.put, List.setIfInBounds_toArray, List.set_cons_zero, List.set_cons_succ]
        refine' wpAnyH_take (i := 13) (oi := _) (v := _) ?hiCx14 (by kernel_rfl) (by kernel_rfl) (by kernel_rfl) ?hQCx14 ?hyCx14 (by assumption) ?restCx14
        case' hiCx14 => (first | (simp only [List.getElem?_toArray, List.getElem?_cons_succ, List.getElem?_cons_zero]; done) | (simp only [List.getElem?_toArray, List.getElem?_cons_succ, List.getElem?_cons_zero]; rfl))
        case' hQCx14 => exact fun _ _ _ h => h
        case' hyCx14 => refine Or.inl ⟨by rfl, ?_⟩
        (intro w hSw; (try dsimp only at hSw); go_simp; try with_reducible rfl)
        try simp only [Act.put, List.setIfInBounds_toArray, List.set_cons_zero, List.set_cons_succ]
        refine' wpAnyH_take (i := 14) (oi := _) (v := _) ?hiCx15 (by kernel_rfl) (by kernel_rfl) (by kernel_rfl) ?hQCx15 ?hyCx15 (by assumption) ?restCx15
        case' hiCx15 => (first | (simp only [List.getElem?_toArray, List.getElem?_cons_succ, List.getElem?_cons_zero]; done) | (simp only [List.getElem?_toArray, List.getElem?_cons_succ, List.getElem?_cons_zero]; rfl))
        case' hQCx15 => exact fun _ _ _ h => h
        case' hyCx15 => refine Or.inl ⟨by rfl, ?_⟩
        (intro w hSw; (try dsimp only at hSw); go_simp; try with_reducible rfl)
        try simp only [Act.put, List.setIfInBounds_toArray, List.set_cons_zero, List.set_cons_succ]
        refine' wpAnyH_take (i := 15) (oi := _) (v := _) ?hiCx16 (by kernel_rfl) (by kernel_rfl) (by kernel_rfl) ?hQCx16 ?hyCx16 (by assumption) ?restCx16
        case' hiCx16 => (first | (simp only [List.getElem?_toArray, List.getElem?_cons_succ, List.getElem?_cons_zero]; done) | (simp only [List.getElem?_toArray, List.getElem?_cons_succ, List.getElem?_cons_zero]; rfl))
        case' hQCx16 => exact fun _ _ _ h => h
        case' hyCx16 => refine Or.inl ⟨by rfl, ?_⟩
        (intro w hSw; (try dsimp only at hSw); go_simp; try with_reducible rfl)
        try simp only [Act.put, List.setIfInBounds_toArray, List.set_cons_zero, List.set_cons_succ]
        refine' wpAnyH_take (i := 16) (oi := _) (v := _) ?hiCx17 (by kernel_rfl) (by kernel_rfl) (by kernel_rfl) ?hQCx17 ?hyCx17 (by assumption) ?restCx17
        case' hiCx17 => (first | (simp only [List.getElem?_toArray, List.getElem?_cons_succ, List.getElem?_cons_zero]; done) | (simp only [List.getElem?_toArray, List.getElem?_cons_succ, List.getElem?_cons_zero]; rfl))
        case' hQCx17 => exact fun _ _ _ h => h
        case' hyCx17 => refine Or.inl ⟨by rfl, ?_⟩
        (intro w hSw; (try dsimp only at hSw); go_simp; try with_reducible rfl)
        try simp only [Act.put, List.setIfInBounds_toArray, List.set_cons_zero, List.set_cons_succ]
        refine' wpAnyH_take (i := 17) (oi := _) (v := _) ?hiCx18 (by kernel_rfl) (by kernel_rfl) (by kernel_rfl) ?hQCx18 ?hyCx18 (by assumption) ?restCx18
        case' hiCx18 => (first | (simp only [List.getElem?_toArray, List.getElem?_cons_succ, List.getElem?_cons_zero]; done) | (simp only [List.getElem?_toArray, List.getElem?_cons_succ, List.getElem?_cons_zero]; rfl))
        case' hQCx18 => exact fun _ _ _ h => h
        case' hyCx18 => refine Or.inl ⟨by rfl, ?_⟩
        (intro w hSw; (try dsimp only at hSw); go_simp; try with_reducible rfl)
        try simp only [Act.put, List.setIfInBounds_toArray, List.set_cons_zero, List.set_cons_succ]
        refine' wpAnyH_take (i := 18) (oi := _) (v := _) ?hiCx19 (by kernel_rfl) (by kernel_rfl) (by kernel_rfl) ?hQCx19 ?hyCx19 (by assumption) ?restCx19
        case' hiCx19 => (first | (simp only [List.getElem?_toArray, List.getElem?_cons_succ, List.getElem?_cons_zero]; done) | (simp only [List.getElem?_toArray, List.getElem?_cons_succ, List.getElem?_cons_zero]; rfl))
        case' hQCx19 => exact fun _ _ _ h => h
        case' hyCx19 => refine Or.inl ⟨by rfl, ?_⟩
        (intro w hSw; (try dsimp only at hSw); go_simp; try with_reducible rfl)
        try simp only [Act.put, List.setIfInBounds_toArray, List.set_cons_zero, List.set_cons_succ]
        refine' wpAnyH_take (i := 19) (oi := _) (v := _) ?hiCx20 (by kernel_rfl) (by kernel_rfl) (by kernel_rfl) ?hQCx20 ?hyCx20 (by assumption) ?restCx20
        case' hiCx20 => (first | (simp only [List.getElem?_toArray, List.getElem?_cons_succ, List.getElem?_cons_zero]; done) | (simp only [List.getElem?_toArray, List.getElem?_cons_succ, List.getElem?_cons_zero]; rfl))
        case' hQCx20 => exact fun _ _ _ h => h
        case' hyCx20 => refine Or.inl ⟨by rfl, ?_⟩
        (intro w hSw; (try dsimp only at hSw); go_simp; try with_reducible rfl)
        try simp only [Act.put, List.setIfInBounds_toArray, List.set_cons_zero, List.set_cons_succ]
        refine' wpAnyH_take (i := 20) (oi := _) (v := _) ?hiCx21 (by kernel_rfl) (by kernel_rfl) (by kernel_rfl) ?hQCx21 ?hyCx21 (by assumption) ?restCx21
        case' hiCx21 => (first | (simp only [List.getElem?_toArray, List.getElem?_cons_succ, List.getElem?_cons_zero]; done) | (simp only [List.getElem?_toArray, List.getElem?_cons_succ, List.getElem?_cons_zero]; rfl))
        case' hQCx21 => exact fun _ _ _ h => h
        case' hyCx21 => refine Or.inl ⟨by rfl, ?_⟩
        (intro w hSw; (try dsimp only at hSw); go_simp; try with_reducible rfl)
        try simp only [Act.put, List.setIfInBounds_toArray, List.set_cons_zero, List.set_cons_succ]
        refine' wpAnyH_take (i := 21) (oi := _) (v := _) ?hiCx22 (by kernel_rfl) (by kernel_rfl) (by kernel_rfl) ?hQCx22 ?hyCx22 (by assumption) ?restCx22
        case' hiCx22 => (first | (simp only [List.getElem?_toArray, List.getElem?_cons_succ, List.getElem?_cons_zero]; done) | (simp only [List.getElem?_toArray, List.getElem?_cons_succ, List.getElem?_cons_zero]; rfl))
        case' hQCx22 => exact fun _ _ _ h => h
        case' hyCx22 => refine Or.inl ⟨by rfl, ?_⟩
        (intro w hSw; (try dsimp only at hSw); go_simp; try with_reducible rfl)
        try simp only [Act.put, List.setIfInBounds_toArray, List.set_cons_zero, List.set_cons_succ]
        refine' wpAnyH_take (i := 22) (oi := _) (v := _) ?hiCx23 (by kernel_rfl) (by kernel_rfl) (by kernel_rfl) ?hQCx23 ?hyCx23 (by assumption) ?restCx23
        case' hiCx23 => (first | (simp only [List.getElem?_toArray, List.getElem?_cons_succ, List.getElem?_cons_zero]; done) | (simp only [List.getElem?_toArray, List.getElem?_cons_succ, List.getElem?_cons_zero]; rfl))
        case' hQCx23 => exact fun _ _ _ h => h
        case' hyCx23 => refine Or.inl ⟨by rfl, ?_⟩
        (intro w hSw; (try dsimp only at hSw); go_simp; try with_reducible rfl)
        try simp only [Act.put, List.setIfInBounds_toArray, List.set_cons_zero, List.set_cons_succ]
        refine' wpAnyH_take (i := 23) (oi := _) (v := _) ?hiCx24 (by kernel_rfl) (by kernel_rfl) (by kernel_rfl) ?hQCx24 ?hyCx24 (by assumption) ?restCx24
        case' hiCx24 => (first | (simp only [List.getElem?_toArray, List.getElem?_cons_succ, List.getElem?_cons_zero]; done) | (simp only [List.getElem?_toArray, List.getElem?_cons_succ, List.getElem?_cons_zero]; rfl))
        case' hQCx24 => exact fun _ _ _ h => h
        case' hyCx24 => refine Or.inl ⟨by rfl, ?_⟩
        (intro w hSw; (try dsimp only at hSw); go_simp; try with_reducible rfl)
        try simp only [Act.put, List.setIfInBounds_toArray, List.set_cons_zero, List.set_cons_succ]
        refine' wpAnyH_take (i := 24) (oi := _) (v := _) ?hiCx25 (by kernel_rfl) (by kernel_rfl) (by kernel_rfl) ?hQCx25 ?hyCx25 (by assumption) ?restCx25
        case' hiCx25 => (first | (simp only [List.getElem?_toArray, List.getElem?_cons_succ, List.getElem?_cons_zero]; done) | (simp only [List.getElem?_toArray, List.getElem?_cons_succ, List.getElem?_cons_zero]; rfl))
        case' hQCx25 => exact fun _ _ _ h => h
        case' hyCx25 => refine Or.inl ⟨by rfl, ?_⟩
        (intro w hSw; (try dsimp only at hSw); go_simp; try with_reducible rfl)
        try simp only [Act.put, List.setIfInBounds_toArray, List.set_cons_zero, List.set_cons_succ]
        refine' wpAnyH_take (i := 25) (oi := _) (v := _) ?hiCx26 (by kernel_rfl) (by kernel_rfl) (by kernel_rfl) ?hQCx26 ?hyCx26 (by assumption) ?restCx26
        case' hiCx26 => (first | (simp only [List.getElem?_toArray, List.getElem?_cons_succ, List.getElem?_cons_zero]; done) | (simp only [List.getElem?_toArray, List.getElem?_cons_succ, List.getElem?_cons_zero]; rfl))
        case' hQCx26 => exact fun _ _ _ h => h
        case' hyCx26 => refine Or.inl ⟨by rfl, ?_⟩
        (intro w hSw; (try dsimp only at hSw); go_simp; try with_reducible rfl)
        try simp only [Act.put, List.setIfInBounds_toArray, List.set_cons_zero, List.set_cons_succ]
        refine' wpAnyH_take (i := 26) (oi := _) (v := _) ?hiCx27 (by kernel_rfl) (by kernel_rfl) (by kernel_rfl) ?hQCx27 ?hyCx27 (by assumption) ?restCx27
        case' hiCx27 => (first | (simp only [List.getElem?_toArray, List.getElem?_cons_succ, List.getElem?_cons_zero]; done) | (simp only [List.getElem?_toArray, List.getElem?_cons_succ, List.getElem?_cons_zero]; rfl))
        case' hQCx27 => exact fun _ _ _ h => h
        case' hyCx27 => refine Or.inl ⟨by rfl, ?_⟩
        (intro w hSw; (try dsimp only at hSw); go_simp; try with_reducible rfl)
        try simp only [Act.put, List.setIfInBounds_toArray, List.set_cons_zero, List.set_cons_succ]
        refine' wpAnyH_take (i := 27) (oi := _) (v := _) ?hiCx28 (by kernel_rfl) (by kernel_rfl) (by kernel_rfl) ?hQCx28 ?hyCx28 (by assumption) ?restCx28
        case' hiCx28 => (first | (simp only [List.getElem?_toArray, List.getElem?_cons_succ, List.getElem?_cons_zero]; done) | (simp only [List.getElem?_toArray, List.getElem?_cons_succ, List.getElem?_cons_zero]; rfl))
        case' hQCx28 => exact fun _ _ _ h => h
        case' hyCx28 => refine Or.inl ⟨by rfl, ?_⟩
        (intro w hSw; (try dsimp only at hSw); go_simp; try with_reducible rfl)
        try simp only [Act.put, List.setIfInBounds_toArray, List.set_cons_zero, List.set_cons_succ]
        refine' wpAnyH_take (i := 28) (oi := _) (v := _) ?hiCx29 (by kernel_rfl) (by kernel_rfl) (by kernel_rfl) ?hQCx29 ?hyCx29 (by assumption) ?restCx29
        case' hiCx29 => (first | (simp only [List.getElem?_toArray, List.getElem?_cons_succ, List.getElem?_cons_zero]; done) | (simp only [List.getElem?_toArray, List.getElem?_cons_succ, List.getElem?_cons_zero]; rfl))
        case' hQCx29 => exact fun _ _ _ h => h
        case' hyCx29 => refine Or.inl ⟨by rfl, ?_⟩
        (intro w hSw; (try dsimp only at hSw); go_simp; try with_reducible rfl)
        try simp only [Act.put, List.setIfInBounds_toArray, List.set_cons_zero, List.set_cons_succ]
        refine' wpAnyH_take (i := 29) (oi := _) (v := _) ?hiCx30 (by kernel_rfl) (by kernel_rfl) (by kernel_rfl) ?hQCx30 ?hyCx30 (by assumption) ?restCx30
        case' hiCx30 => (first | (simp only [List.getElem?_toArray, List.getElem?_cons_succ, List.getElem?_cons_zero]; done) | (simp only [List.getElem?_toArray, List.getElem?_cons_succ, List.getElem?_cons_zero]; rfl))
        case' hQCx30 => exact fun _ _ _ h => h
        case' hyCx30 => refine Or.inl ⟨by rfl, ?_⟩
        (intro w hSw; (try dsimp only at hSw); go_simp; try with_reducible rfl)
        try simp only [Act.put, List.setIfInBounds_toArray, List.set_cons_zero, List.set_cons_succ]
        refine' wpAnyH_take (i := 30) (oi := _) (v := _) ?hiCx31 (by kernel_rfl) (by kernel_rfl) (by kernel_rfl) ?hQCx31 ?hyCx31 (by assumption) ?restCx31
        case' hiCx31 => (first | (simp only [List.getElem?_toArray, List.getElem?_cons_succ, List.getElem?_cons_zero]; done) | (simp only [List.getElem?_toArray, List.getElem?_cons_succ, List.getElem?_cons_zero]; rfl))
        case' hQCx31 => exact fun _ _ _ h => h
        case' hyCx31 => refine Or.inl ⟨by rfl, ?_⟩
        (intro w hSw; (try dsimp only at hSw); go_simp; try with_reducible rfl)
        try simp only [Act.put, List.setIfInBounds_toArray, List.set_cons_zero, List.set_cons_succ]
        refine' wpAnyH_take (i := 31) (oi := _) (v := _) ?hiCx32 (by kernel_rfl) (by kernel_rfl) (by kernel_rfl) ?hQCx32 ?hyCx32 (by assumption) ?restCx32
        case' hiCx32 => (first | (simp only [List.getElem?_toArray, List.getElem?_cons_succ, List.getElem?_cons_zero]; done) | (simp only [List.getElem?_toArray, List.getElem?_cons_succ, List.getElem?_cons_zero]; rfl))
        case' hQCx32 => exact fun _ _ _ h => h
        case' hyCx32 => refine Or.inl ⟨by rfl, ?_⟩
        (intro w hSw; (try dsimp only at hSw); go_simp; try with_reducible rfl)
        try simp only [Act.put, List.setIfInBounds_toArray, List.set_cons_zero, List.set_cons_succ]
        refine' wpAnyH_take (i := 32) (oi := _) (v := _) ?hiCx33 (by kernel_rfl) (by kernel_rfl) (by kernel_rfl) ?hQCx33 ?hyCx33 (by assumption) ?restCx33
        case' hiCx33 => (first | (simp only [List.getElem?_toArray, List.getElem?_cons_succ, List.getElem?_cons_zero]; done) | (simp only [List.getElem?_toArray, List.getElem?_cons_succ, List.getElem?_cons_zero]; rfl))
        case' hQCx33 => exact fun _ _ _ h => h
        case' hyCx33 => refine Or.inl ⟨by rfl, ?_⟩
        (intro w hSw; (try dsimp only at hSw); go_simp; try with_reducible rfl)
        try simp only [Act.put, List.setIfInBounds_toArray, List.set_cons_zero, List.set_cons_succ]
        refine' wpAnyH_take (i := 33) (oi := _) (v := _) ?hiCx34 (by kernel_rfl) (by kernel_rfl) (by kernel_rfl) ?hQCx34 ?hyCx34 (by assumption) ?restCx34
        case' hiCx34 => (first | (simp only [List.getElem?_toArray, List.getElem?_cons_succ, List.getElem?_cons_zero]; done) | (simp only [List.getElem?_toArray, List.getElem?_cons_succ, List.getElem?_cons_zero]; rfl))
        case' hQCx34 => exact fun _ _ _ h => h
        case' hyCx34 => refine Or.inl ⟨by rfl, ?_⟩
        (intro w hSw; (try dsimp only at hSw); go_simp; try with_reducible rfl)
        try simp only [Act.put, List.setIfInBounds_toArray, List.set_cons_zero, List.set_cons_succ]
        refine' wpAnyH_take (i := 34) (oi := _) (v := _) ?hiCx35 (by kernel_rfl) (by kernel_rfl) (by kernel_rfl) ?hQCx35 ?hyCx35 (by assumption) ?restCx35
        case' hiCx35 => (first | (simp only [List.getElem?_toArray, List.getElem?_cons_succ, List.getElem?_cons_zero]; done) | (simp only [List.getElem?_toArray, List.getElem?_cons_succ, List.getElem?_cons_zero]; rfl))
        case' hQCx35 => exact fun _ _ _ h => h
        case' hyCx35 => refine Or.inl ⟨by rfl, ?_⟩
        (intro w hSw; (try dsimp only at hSw); go_simp; try with_reducible rfl)
        try simp only [Act.put, List.setIfInBounds_toArray, List.set_cons_zero, List.set_cons_succ]
        refine' wpAnyH_take (i := 35) (oi := _) (v := _) ?hiCx36 (by kernel_rfl) (by kernel_rfl) (by kernel_rfl) ?hQCx36 ?hyCx36 (by assumption) ?restCx36
        case' hiCx36 => (first | (simp only [List.getElem?_toArray, List.getElem?_cons_succ, List.getElem?_cons_zero]; done) | (simp only [List.getElem?_toArray, List.getElem?_cons_succ, List.getElem?_cons_zero]; rfl))
        case' hQCx36 => exact fun _ _ _ h => h
        case' hyCx36 => refine Or.inl ⟨by rfl, ?_⟩
        (intro w hSw; (try dsimp only at hSw); go_simp; try with_reducible rfl)
        try simp only [Act.put, List.setIfInBounds_toArray, List.set_cons_zero, List.set_cons_succ]
        refine' wpAnyH_take (i := 36) (oi := _) (v := _) ?hiCx37 (by kernel_rfl) (by kernel_rfl) (by kernel_rfl) ?hQCx37 ?hyCx37 (by assumption) ?restCx37
        case' hiCx37 => (first | (simp only [List.getElem?_toArray, List.getElem?_cons_succ, List.getElem?_cons_zero]; done) | (simp only [List.getElem?_toArray, List.getElem?_cons_succ, List.getElem?_cons_zero]; rfl))
        case' hQCx37 => exact fun _ _ _ h => h
        case' hyCx37 => refine Or.inl ⟨by rfl, ?_⟩
        (intro w hSw; (try dsimp only at hSw); go_simp; try with_reducible rfl)
        try simp only [Act.put, List.setIfInBounds_toArray, List.set_cons_zero, List.set_cons_succ]
        refine' wpAnyH_take (i := 37) (oi := _) (v := _) ?hiCx38 (by kernel_rfl) (by kernel_rfl) (by kernel_rfl) ?hQCx38 ?hyCx38 (by assumption) ?restCx38
        case' hiCx38 => (first | (simp only [List.getElem?_toArray, List.getElem?_cons_succ, List.getElem?_cons_zero]; done) | (simp only [List.getElem?_toArray, List.getElem?_cons_succ, List.getElem?_cons_zero]; rfl))
        case' hQCx38 => exact fun _ _ _ h => h
        case' hyCx38 => refine Or.inl ⟨by rfl, ?_⟩
        (intro w hSw; (try dsimp only at hSw); go_simp; try with_reducible rfl)
        try simp only [Act.put, List.setIfInBounds_toArray, List.set_cons_zero, List.set_cons_succ]
        refine' wpAnyH_take (i := 39) (oi := _) (v := _) ?hiCx39 (by kernel_rfl) (by kernel_rfl) (by kernel_rfl) ?hQCx39 ?hyCx39 (by assumption) ?restCx39
        case' hiCx39 => (first | (simp only [List.getElem?_toArray, List.getElem?_cons_succ, List.getElem?_cons_zero]; done) | (simp only [List.getElem?_toArray, List.getElem?_cons_succ, List.getElem?_cons_zero]; rfl))
        case' hQCx39 => exact fun _ _ _ h => h
        case' hyCx39 => refine Or.inl ⟨by rfl, ?_⟩
        (intro w hSw; (try dsimp only at hSw); go_simp; try with_reducible rfl)
        try simp only [Act.put, List.setIfInBounds_toArray, List.set_cons_zero, List.set_cons_succ]
        refine' wpAnyH_take (i := 40) (oi := _) (v := _) ?hiCx40 (by kernel_rfl) (by kernel_rfl) (by kernel_rfl) ?hQCx40 ?hyCx40 (by assumption) ?restCx40
        case' hiCx40 => (first | (simp only [List.getElem?_toArray, List.getElem?_cons_succ, List.getElem?_cons_zero]; done) | (simp only [List.getElem?_toArray, List.getElem?_cons_succ, List.getElem?_cons_zero]; rfl))
        case' hQCx40 => exact fun _ _ _ h => h
        case' hyCx40 => refine Or.inl ⟨by rfl, ?_⟩
        (intro w hSw; (try dsimp only at hSw); go_simp; try with_reducible rfl)
        try simp only [Act.put, List.setIfInBounds_toArray, List.set_cons_zero, List.set_cons_succ]
        refine' wpAnyH_take (i := 41) (oi := _) (v := _) ?hiCx41 (by kernel_rfl) (by kernel_rfl) (by kernel_rfl) ?hQCx41 ?hyCx41 (by assumption) ?restCx41
        case' hiCx41 => (first | (simp only [List.getElem?_toArray, List.getElem?_cons_succ, List.getElem?_cons_zero]; done) | (simp only [List.getElem?_toArray, List.getElem?_cons_succ, List.getElem?_cons_zero]; rfl))
        case' hQCx41 => exact fun _ _ _ h => h
        case' hyCx41 => refine Or.inl ⟨by rfl, ?_⟩
        (intro w hSw; (try dsimp only at hSw); go_simp; try with_reducible rfl)
        try simp only [Act.put, List.setIfInBounds_toArray, List.set_cons_zero, List.set_cons_succ]
        refine' wpAnyH_take (i := 42) (oi := _) (v := _) ?hiCx42 (by kernel_rfl) (by kernel_rfl) (by kernel_rfl) ?hQCx42 ?hyCx42 (by assumption) ?restCx42
        case' hiCx42 => (first | (simp only [List.getElem?_toArray, List.getElem?_cons_succ, List.getElem?_cons_zero]; done) | (simp only [List.getElem?_toArray, List.getElem?_cons_succ, List.getElem?_cons_zero]; rfl))
        case' hQCx42 => exact fun _ _ _ h => h
        case' hyCx42 => refine Or.inl ⟨by rfl, ?_⟩
        (intro w hSw; (try dsimp only at hSw); go_simp; try with_reducible rfl)
        try simp only [Act.put, List.setIfInBounds_toArray, List.set_cons_zero, List.set_cons_succ]
        refine' wpAnyH_take (i := 43) (oi := _) (v := _) ?hiCx43 (by kernel_rfl) (by kernel_rfl) (by kernel_rfl) ?hQCx43 ?hyCx43 (by assumption) ?restCx43
        case' hiCx43 => (first | (simp only [List.getElem?_toArray, List.getElem?_cons_succ, List.getElem?_cons_zero]; done) | (simp only [List.getElem?_toArray, List.getElem?_cons_succ, List.getElem?_cons_zero]; rfl))
        case' hQCx43 => exact fun _ _ _ h => h
        case' hyCx43 => refine Or.inl ⟨by rfl, ?_⟩
        (intro w hSw; (try dsimp only at hSw); go_simp; try with_reducible rfl)
        try simp only [Act.put, List.setIfInBounds_toArray, List.set_cons_zero, List.set_cons_succ]
        refine' wpAnyH_take (i := 44) (oi := _) (v := _) ?hiCx44 (by kernel_rfl) (by kernel_rfl) (by kernel_rfl) ?hQCx44 ?hyCx44 (by assumption) ?restCx44
        case' hiCx44 => (first | (simp only [List.getElem?_toArray, List.getElem?_cons_succ, List.getElem?_cons_zero]; done) | (simp only [List.getElem?_toArray, List.getElem?_cons_succ, List.getElem?_cons_zero]; rfl))
        case' hQCx44 => exact fun _ _ _ h => h
        case' hyCx44 => refine Or.inl ⟨by rfl, ?_⟩
        (intro w hSw; (try dsimp only at hSw); go_simp; try with_reducible rfl)
        try simp only [Act.put, List.setIfInBounds_toArray, List.set_cons_zero, List.set_cons_succ]
        refine wpAnyH_ready (rs := [38]) (by kernel_rfl) (by simp) ?_
        refine' AllReadyH.cons (o := _) ?hiCx45 (fun K hK => ?hKCx45) AllReadyH.nil
        case' hiCx45 => (first | (simp only [List.getElem?_toArray, List.getElem?_cons_succ, List.getElem?_cons_zero]; done) | (simp only [List.getElem?_toArray, List.getElem?_cons_succ, List.getElem?_cons_zero]; rfl))
        go_simp
        (go_at_call 20; refine (TX.out _).mono ?_; rintro e w10 ⟨rfl, u4⟩; (have UU := Lib.hid (Upd.trans (by first | exact UU.out | exact UU.out.drew) u4 (fun _ _ h => h))); (have hcell := LC.out _ (by first | exact u4 | exact (Upd.refl (fun _ => False) _).drew.trans u4 (fun _ _ h => h))); (clear z0 z1 z2 z3 z4 z5 z6); (obtain ⟨z0, z1, z2, z3, z4, z5, z6⟩ := KP.out _ UU.out))
        refine hK.out _ _ ?_ (fun hHeld => ?_)
        · (try dsimp only); go_keep
        clear hK K
        try simp only [Act.put, List.setIfInBounds_toArray, List.set_cons_zero, List.set_cons_succ]
        refine' wpAnyH_take (i := 45) (oi := _) (v := _) ?hiCx46 (by kernel_rfl) (by kernel_rfl) (by kernel_rfl) ?hQCx46 ?hyCx46 (by assumption) ?restCx46
        case' hiCx46 => (first | (simp only [List.getElem?_toArray, List.getElem?_cons_succ, List.getElem?_cons_zero]; done) | (simp only [List.getElem?_toArray, List.getElem?_cons_succ, List.getElem?_cons_zero]; rfl))
        case' hQCx46 => exact fun _ _ _ h => h
        case' hyCx46 => refine Or.inl ⟨by rfl, ?_⟩
        (intro w hSw; (try dsimp only at hSw); go_simp; try with_reducible rfl)
        try simp only [Act.put, List.setIfInBounds_toArray, List.set_cons_zero, List.set_cons_succ]
        refine' wpAnyH_take (i := 46) (oi := _) (v := _) ?hiCx47 (by kernel_rfl) (by kernel_rfl) (by kernel_rfl) ?hQCx47 ?hyCx47 (by assumption) ?restCx47
        case' hiCx47 => (first | (simp only [List.getElem?_toArray, List.getElem?_cons_succ, List.getElem?_cons_zero]; done) | (simp only [List.getElem?_toArray, List.getElem?_cons_succ, List.getElem?_cons_zero]; rfl))
        case' hQCx47 => exact fun _ _ _ h => h
        case' hyCx47 => refine Or.inl ⟨by rfl, ?_⟩
        (intro w hSw; (try dsimp only at hSw); go_simp; try with_reducible rfl)
        try simp only [Act.put, List.setIfInBounds_toArray, List.set_cons_zero, List.set_cons_succ]
        refine' wpAnyH_take (i := 47) (oi := _) (v := _) ?hiCx48 (by kernel_rfl) (by kernel_rfl) (by kernel_rfl) ?hQCx48 ?hyCx48 (by assumption) ?restCx48
        case' hiCx48 => (first | (simp only [List.getElem?_toArray, List.getElem?_cons_succ, List.getElem?_cons_zero]; done) | (simp only [List.getElem?_toArray, List.getElem?_cons_succ, List.getElem?_cons_zero]; rfl))
        case' hQCx48 => exact fun _ _ _ h => h
        case' hyCx48 => refine Or.inl ⟨by rfl, ?_⟩
        (intro w hSw; (try dsimp only at hSw); go_simp; try with_reducible rfl)
        try simp only [Act.put, List.setIfInBounds_toArray, List.set_cons_zero, List.set_cons_succ]
        refine' wpAnyH_take (i := 48) (oi := _) (v := _) ?hiCx49 (by kernel_rfl) (by kernel_rfl) (by kernel_rfl) ?hQCx49 ?hyCx49 (by assumption) ?restCx49
        case' hiCx49 => (first | (simp only [List.getElem?_toArray, List.getElem?_cons_succ, List.getElem?_cons_zero]; done) | (simp only [List.getElem?_toArray, List.getElem?_cons_succ, List.getElem?_cons_zero]; rfl))
        case' hQCx49 => exact fun _ _ _ h => h
        case' hyCx49 => refine Or.inl ⟨by rfl, ?_⟩
        (intro w hSw; (try dsimp only at hSw); go_simp; try with_reducible rfl)
        try simp only [Act.put, List.setIfInBounds_toArray, List.set_cons_zero, List.set_cons_succ]
        refine wpAnyH_done (by kernel_rfl) ?_ _
        all_goals
          try go_wp2
          go_ret
          exact ⟨rfl, U0.out.trans UU.out (fun _ _ h => h)⟩
end Go.Proofs.YtcpfkkbegnhofaaDoor
