/- Walk: ModeSays. Printed by gensays.py. -/
import Derived.Test.YtcpfkkbegnhofaaDoorK12
import Derived.Deep.RegionHeld3
import Derived.Deep.DeepCutAuto
set_option linter.unusedVariables false
set_option linter.unusedSimpArgs false
namespace Go.Proofs.YtcpfkkbegnhofaaDoor
open Go.RowKit

set_option maxHeartbeats 8000000 in
set_option maxRecDepth 100000 in
theorem lawMSays_D (m : MD) (cc : Int) (p : Option Addr) (c : Nat) (w : World) (h : RwT w p c m.ps) (hz : ∀ t ∈ m.ps, t.length ≤ maxLen) (hs : StdU w) (hf : m.on = true ∧ m.bc = false ∧ m.oi = false ∧ m.oo = true) :
    Calls Tryd.prog 6 #[mdV m (.slice p m.ps.length c), .int .i64 cc] w fun e w' => e = .returned (.bool true) ∧ Upd (fun _ => False) w w' := by
  have hla := h.2
  unfold maxLen at hla
  obtain ⟨on, bc, oi, oo, nl, rd, ps⟩ := m
  dsimp only at *
  obtain ⟨rfl, rfl, rfl, rfl⟩ := hf
  obtain ⟨n, hn⟩ : ∃ n, n = ps.length := ⟨_, rfl⟩
  unfold mdV
  dsimp only
  rw [← hn]
  rw [← hn] at hla
  have NA := Lib.hid hn
  have GA := Lib.hid (fun W (u : Upd (fun _ => False) w W) => great_out ⟨true, false, false, true, nl, rd, ps⟩ p n c hn W (h.keep u) hz)
  have HA := Lib.hid h
  have HS := Lib.hid hs
  have ZA := Lib.hid hz
  clear h hz hs hn
  obtain ⟨w0, hw0⟩ : ∃ w0, w0 = w.alloc (.cells #[.bool true, .bool false, .bool false, .bool true, .bool nl, .int .i64 rd, .slice p n c] 24) := ⟨_, rfl⟩
  have u0 : Upd (fun _ => False) w w0 := by rw [hw0]; exact (Upd.refl _ _).alloc _
  have BA0 : Hid (Blk w0 w.heap.size [.bool true, .bool false, .bool false, .bool true, .bool nl, .int .i64 rd, .slice p n c] 24) := Lib.hid (by rw [hw0]; exact Blk.made w _ _)
  have AL := Lib.hid (alive_any _ (HS.out.keep u0))
  have U0 := Lib.hid u0
  rw [hw0] at AL
  go_enter Tryd.func6, Tryd.ntmps6
  go_wp2_with fail
  refine AL.out.mono ?_
  rintro e w1 ⟨rfl, u1⟩
  rw [← hw0] at u1
  have U1 : Hid (Upd (fun _ => False) w0 w1) := Lib.hid u1
  have BA1 := Lib.hid (u1.blk BA0.out id)
  obtain ⟨ya, ga, a0, a1, a2, a3, a4, a5, a6⟩ := mode_facts BA1.out
  have G1 := Lib.hid (GA.out w1 (U0.out.trans U1.out (fun _ _ h => h)))
  clear u1 AL hw0 u0
  go_wp2_with fail
  refine G1.out.mono ?_
  rintro e w2 ⟨g, rfl, hg, u2⟩
  have U2 := Lib.hid (U1.out.trans u2 (fun _ _ h => h))
  cases g with
  | true =>
    clear u2
    go_wp2
    go_ret
    exact ⟨rfl, (U0.out.trans U2.out (fun _ _ h => h))⟩
  | false =>
  have SA := Lib.hid (hg rfl)
  have BA2 := Lib.hid (u2.blk BA1.out id)
  obtain ⟨yb, gb, b0, b1, b2, b3, b4, b5, b6⟩ := mode_facts BA2.out
  clear u2 BA1 hg ya ga a0 a1 a2 a3 a4 a5 a6 G1
  cases hra : rightM ⟨true, false, false, true, nl, rd, ps⟩ with
  | false =>
    have R1 := Lib.hid (right13_out ⟨true, false, false, true, nl, rd, ps⟩ p n c NA.out false hra w2 (HA.out.keep (U0.out.trans U2.out (fun _ _ h => h))) (by have := SA.out.1; omega) ZA.out)
    clear hra
    go_wp2_with fail
    refine R1.out.mono ?_
    rintro e w4 ⟨rfl, u4⟩
    have U4 := Lib.hid (U2.out.trans u4 (fun _ _ h => h))
    clear u4
    go_wp2
    go_ret
    exact ⟨rfl, (U0.out.trans U4.out (fun _ _ h => h))⟩
  | true =>
  have R1 := Lib.hid (right13_out ⟨true, false, false, true, nl, rd, ps⟩ p n c NA.out true hra w2 (HA.out.keep (U0.out.trans U2.out (fun _ _ h => h))) (by have := SA.out.1; omega) ZA.out)
  clear hra
  go_wp2_with fail
  refine R1.out.mono ?_
  rintro e w3 ⟨rfl, u3⟩
  have U3 := Lib.hid (U2.out.trans u3 (fun _ _ h => h))
  clear u3 yb gb b0 b1 b2 b3 b4 b5 b6 R1 GA BA2 U2 U1 SA
  have CT : Hid (∀ W, Calls Tryd.prog 19 #[.agg #[.bool true, .bool false, .bool false, .bool true, .bool nl, .int .i64 rd, .slice p n c], .bool true] W fun e w' => e = .returned (.int .i64 132) ∧ Upd (fun _ => False) W w') := Lib.hid (fun W => by
    have := caching_any ⟨true, false, false, true, nl, rd, ps⟩ (.slice p n c) true W
    rw [show cachM ⟨true, false, false, true, nl, rd, ps⟩ true = 132 by simp [cachM]] at this
    exact this)
  have CF : Hid (∀ W, Calls Tryd.prog 19 #[.agg #[.bool true, .bool false, .bool false, .bool true, .bool nl, .int .i64 rd, .slice p n c], .bool false] W fun e w' => e = .returned (.int .i64 0) ∧ Upd (fun _ => False) W w') := Lib.hid (fun W => by
    have := caching_any ⟨true, false, false, true, nl, rd, ps⟩ (.slice p n c) false W
    rw [show cachM ⟨true, false, false, true, nl, rd, ps⟩ false = 0 by simp [cachM]] at this
    exact this)
  have TC : Hid (∀ x b, tracksM ⟨true, false, false, true, nl, rd, ps⟩ x = b → ∀ W, Calls Tryd.prog 20 #[.agg #[.bool true, .bool false, .bool false, .bool true, .bool nl, .int .i64 rd, .slice p n c], .int .i64 x] W fun e w' => e = .returned (.bool b) ∧ Upd (fun _ => False) W w') := Lib.hid (fun x b hb W => by
    subst hb
    exact tracks_any ⟨true, false, false, true, nl, rd, ps⟩ (.slice p n c) x W)
  have TA := Lib.hid (TC.out 0 true (by simp [tracksM]))
  have TB := Lib.hid (TC.out 1 true (by simp [tracksM]))
  have TD := Lib.hid (TC.out 2 false (by simp [tracksM]))
  have KP : Hid (∀ W, Upd (fun _ => False) w0 W → W.cell? ⟨w.heap.size, 0, none⟩ = some (.bool true) ∧ W.cell? ⟨w.heap.size, 1, none⟩ = some (.bool false) ∧ W.cell? ⟨w.heap.size, 2, none⟩ = some (.bool false) ∧ W.cell? ⟨w.heap.size, 3, none⟩ = some (.bool true) ∧ W.cell? ⟨w.heap.size, 4, none⟩ = some (.bool nl) ∧ W.cell? ⟨w.heap.size, 5, none⟩ = some (.int .i64 rd) ∧ W.cell? ⟨w.heap.size, 6, none⟩ = some (.slice p n c)) := Lib.hid (fun W u => (mode_facts (u.blk BA0.out id)).2.2)
  obtain ⟨z0, z1, z2, z3, z4, z5, z6⟩ := KP.out w3 U3.out
  have UU := U3
  go_upto_region 5 with (fail)
  go_cut [5, 6] (fun v5 v6 wx => v5 = .bool false ∧ v6 = .bool true ∧ Hid (Upd (fun _ => False) w0 wx))
  case first =>
    go_region_held3 (fun w' => w'.cell? ⟨w.heap.size, 0, none⟩ = some (.bool true) ∧ w'.cell? ⟨w.heap.size, 1, none⟩ = some (.bool false) ∧ w'.cell? ⟨w.heap.size, 2, none⟩ = some (.bool false) ∧ w'.cell? ⟨w.heap.size, 3, none⟩ = some (.bool true) ∧ w'.cell? ⟨w.heap.size, 4, none⟩ = some (.bool nl) ∧ w'.cell? ⟨w.heap.size, 5, none⟩ = some (.int .i64 rd) ∧ w'.cell? ⟨w.heap.size, 6, none⟩ = some (.slice p n c)) (go_keep) (first
      | (go_at_call 19; (with_reducible refine (CT.out _).mono ?_); rintro e w4 ⟨rfl, u4⟩; (have UU := Lib.hid (Upd.trans (by first | exact UU.out | exact UU.out.drew) u4 (fun _ _ h => h))); (clear z0 z1 z2 z3 z4 z5 z6); (obtain ⟨z0, z1, z2, z3, z4, z5, z6⟩ := KP.out _ UU.out))
      | (go_at_call 19; (with_reducible refine (CF.out _).mono ?_); rintro e w5 ⟨rfl, u4⟩; (have UU := Lib.hid (Upd.trans (by first | exact UU.out | exact UU.out.drew) u4 (fun _ _ h => h))); (clear z0 z1 z2 z3 z4 z5 z6); (obtain ⟨z0, z1, z2, z3, z4, z5, z6⟩ := KP.out _ UU.out)))
    all_goals
      go_wp2_with fail
      go_meet
      exact ⟨rfl, rfl, UU⟩
  case' rest =>
    obtain ⟨rfl, rfl, UX⟩ := hcut
    clear z0 z1 z2 z3 z4 z5 z6 UU
    obtain ⟨z0, z1, z2, z3, z4, z5, z6⟩ := KP.out _ UX.out
    have UU := UX
    go_upto_region 6 with (fail)
  go_cut [7, 8, 9] (fun v7 v8 v9 wx => v7 = .bool true ∧ v8 = .bool true ∧ v9 = .bool false ∧ Hid (Upd (fun _ => False) w0 wx))
  case first =>
    go_region_held3 (fun w' => w'.cell? ⟨w.heap.size, 0, none⟩ = some (.bool true) ∧ w'.cell? ⟨w.heap.size, 1, none⟩ = some (.bool false) ∧ w'.cell? ⟨w.heap.size, 2, none⟩ = some (.bool false) ∧ w'.cell? ⟨w.heap.size, 3, none⟩ = some (.bool true) ∧ w'.cell? ⟨w.heap.size, 4, none⟩ = some (.bool nl) ∧ w'.cell? ⟨w.heap.size, 5, none⟩ = some (.int .i64 rd) ∧ w'.cell? ⟨w.heap.size, 6, none⟩ = some (.slice p n c)) (go_keep) (first
      | (go_at_call 20; (with_reducible refine (TA.out _).mono ?_); rintro e w6 ⟨rfl, u4⟩; (have UU := Lib.hid (Upd.trans (by first | exact UU.out | exact UU.out.drew) u4 (fun _ _ h => h))); (clear z0 z1 z2 z3 z4 z5 z6); (obtain ⟨z0, z1, z2, z3, z4, z5, z6⟩ := KP.out _ UU.out))
      | (go_at_call 20; (with_reducible refine (TB.out _).mono ?_); rintro e w7 ⟨rfl, u4⟩; (have UU := Lib.hid (Upd.trans (by first | exact UU.out | exact UU.out.drew) u4 (fun _ _ h => h))); (clear z0 z1 z2 z3 z4 z5 z6); (obtain ⟨z0, z1, z2, z3, z4, z5, z6⟩ := KP.out _ UU.out))
      | (go_at_call 20; (with_reducible refine (TD.out _).mono ?_); rintro e w8 ⟨rfl, u4⟩; (have UU := Lib.hid (Upd.trans (by first | exact UU.out | exact UU.out.drew) u4 (fun _ _ h => h))); (clear z0 z1 z2 z3 z4 z5 z6); (obtain ⟨z0, z1, z2, z3, z4, z5, z6⟩ := KP.out _ UU.out)))
    all_goals
      go_wp2_with fail
      go_meet
      exact ⟨rfl, rfl, rfl, UU⟩
  case rest =>
    clear UX
    obtain ⟨rfl, rfl, rfl, UX⟩ := hcut
    clear z0 z1 z2 z3 z4 z5 z6 UU
    obtain ⟨z0, z1, z2, z3, z4, z5, z6⟩ := KP.out _ UX.out
    have FL := Lib.hid (fun W => flags_any ⟨true, false, false, true, nl, rd, ps⟩ p n c W)
    obtain ⟨fr, hfr⟩ : ∃ fr, flagsM ⟨true, false, false, true, nl, rd, ps⟩ = ([111, 110] : Txt) :: fr := ⟨_, rfl⟩
    have FRL : fr.length ≤ 10 := by
      have h1 : (flagsM ⟨true, false, false, true, nl, rd, ps⟩).length ≤ 5 := by cases nl <;> simp [flagsM]
      rw [hfr] at h1; simp only [List.length_cons] at h1; omega
    have FR := Lib.hid hfr
    clear hfr
    go_wp2_with fail
    refine (FL.out _).mono ?_
    rintro e w9 ⟨vl, rfl, tl, u9⟩
    have U9 := Lib.hid (UX.out.trans u9 (fun _ _ h => h))
    rw [FR.out] at tl
    obtain ⟨pl, cl, rfl, _⟩ := own_slice tl
    obtain ⟨g, rfl, hg, hcell0⟩ := txts_get tl (k := 0) (by simp)
    have hcell : w9.cell? ⟨g, 0, none⟩ = some (.string { data := #[111, 110] }) := hcell0
    have hll : (0 : Int) < ((([111, 110] : Txt) :: fr : List Txt).length : Int) := by simp only [List.length_cons]; omega
    generalize hgn : (([111, 110] : Txt) :: fr : List Txt).length = nn at *
    clear hcell0 tl u9 z0 z1 z2 z3 z4 z5 z6 hgn FRL
    have hlN : 0 < nn := by omega
    have hlD : decide (0 < nn) = true := decide_eq_true hlN
    have hlI : decide ((0 : Int) < (nn : Int)) = true := decide_eq_true hll
    obtain ⟨z0, z1, z2, z3, z4, z5, z6⟩ := KP.out _ U9.out
    have zb := (U9.out.blk BA0.out id).lt
    by_cases c2 : (2 : Int) < cc
    · have c2D : decide ((2 : Int) < cc) = true := decide_eq_true c2
      go_wp2
      go_quiet (fail)
      go_wp2
      go_ret
      exact ⟨rfl, U0.out.trans (U9.out.drewN _) (fun _ _ h => h)⟩
    · by_cases c0 : cc < 0
      · have c2D : decide ((2 : Int) < cc) = false := decide_eq_false c2
        have c0D : decide (cc < 0) = true := decide_eq_true c0
        go_wp2
        go_quiet (fail)
        go_wp2
        go_ret
        exact ⟨rfl, U0.out.trans (U9.out.drewN _) (fun _ _ h => h)⟩
      · have c2D : decide ((2 : Int) < cc) = false := decide_eq_false c2
        have c0D : decide (cc < 0) = false := decide_eq_false c0
        obtain ⟨b, hb, hx⟩ : ∃ b, tracksM ⟨true, false, false, true, nl, rd, ps⟩ cc = b ∧ ((cc = 0 ∧ b = true) ∨ (cc = 1 ∧ b = true) ∨ (cc = 2 ∧ b = false)) := by
          have : cc = 0 ∨ cc = 1 ∨ cc = 2 := by omega
          rcases this with rfl | rfl | rfl
          · exact ⟨_, rfl, Or.inl ⟨rfl, by simp [tracksM]⟩⟩
          · exact ⟨_, rfl, Or.inr (Or.inl ⟨rfl, by simp [tracksM]⟩)⟩
          · exact ⟨_, rfl, Or.inr (Or.inr ⟨rfl, by simp [tracksM]⟩)⟩
        have TX := Lib.hid (TC.out cc b hb)
        have ix := idx3 true true false cc b hx
        have LC : Hid (∀ W, Upd (fun _ => False) w9 W → W.cell? ⟨g, 0, none⟩ = some (.string { data := #[111, 110] })) := Lib.hid (fun W u => (u.cell (p := ⟨g, 0, none⟩) hg id).trans hcell)
        have UU := U9
        clear hx hb
        go_wp2
        refine wp_region_held_drew (S := fun w' => w'.cell? ⟨w.heap.size, 0, none⟩ = some (.bool true) ∧ w'.cell? ⟨w.heap.size, 1, none⟩ = some (.bool false) ∧ w'.cell? ⟨w.heap.size, 2, none⟩ = some (.bool false) ∧ w'.cell? ⟨w.heap.size, 3, none⟩ = some (.bool true) ∧ w'.cell? ⟨w.heap.size, 4, none⟩ = some (.bool nl) ∧ w'.cell? ⟨w.heap.size, 5, none⟩ = some (.int .i64 rd) ∧ w'.cell? ⟨w.heap.size, 6, none⟩ = some (.slice p n c) ∧ w'.cell? ⟨g, 0, none⟩ = some (.string { data := #[111, 110] })) (by kernel_rfl) ?_ (fun hHeld => ?_)
        · (try dsimp only); go_keep
        try simp only [Array.replicate, Act.put, List.setIfInBounds_toArray]
        refine' wpAnyH_take (i := 0) (oi := _) (v := _) ?hiB1 (by kernel_rfl) (by kernel_rfl) (by kernel_rfl) ?hQB1 ?hyB1 (by assumption) ?restB1
        case' hiB1 => (first | (simp only [List.getElem?_toArray, List.getElem?_cons_succ, List.getElem?_cons_zero]; done) | (simp only [List.getElem?_toArray, List.getElem?_cons_succ, List.getElem?_cons_zero]; rfl))
        case' hQB1 => exact fun _ _ _ h => h
        case' hyB1 => refine Or.inl ⟨by rfl, ?_⟩
        (intro w hSw; (try dsimp only at hSw); go_simp; try with_reducible rfl)
        try simp only [Act.put, List.setIfInBounds_toArray, List.set_cons_zero, List.set_cons_succ]
        refine' wpAnyH_take (i := 1) (oi := _) (v := _) ?hiB2 (by kernel_rfl) (by kernel_rfl) (by kernel_rfl) ?hQB2 ?hyB2 (by assumption) ?restB2
        case' hiB2 => (first | (simp only [List.getElem?_toArray, List.getElem?_cons_succ, List.getElem?_cons_zero]; done) | (simp only [List.getElem?_toArray, List.getElem?_cons_succ, List.getElem?_cons_zero]; rfl))
        case' hQB2 => exact fun _ _ _ h => h
        case' hyB2 => refine Or.inl ⟨by rfl, ?_⟩
        (intro w hSw; (try dsimp only at hSw); go_simp; try with_reducible rfl)
        try simp only [Act.put, List.setIfInBounds_toArray, List.set_cons_zero, List.set_cons_succ]
        refine' wpAnyH_take (i := 2) (oi := _) (v := _) ?hiB3 (by kernel_rfl) (by kernel_rfl) (by kernel_rfl) ?hQB3 ?hyB3 (by assumption) ?restB3
        case' hiB3 => (first | (simp only [List.getElem?_toArray, List.getElem?_cons_succ, List.getElem?_cons_zero]; done) | (simp only [List.getElem?_toArray, List.getElem?_cons_succ, List.getElem?_cons_zero]; rfl))
        case' hQB3 => exact fun _ _ _ h => h
        case' hyB3 => refine Or.inl ⟨by rfl, ?_⟩
        (intro w hSw; (try dsimp only at hSw); go_simp; try with_reducible rfl)
        try simp only [Act.put, List.setIfInBounds_toArray, List.set_cons_zero, List.set_cons_succ]
        refine' wpAnyH_take (i := 3) (oi := _) (v := _) ?hiB4 (by kernel_rfl) (by kernel_rfl) (by kernel_rfl) ?hQB4 ?hyB4 (by assumption) ?restB4
        case' hiB4 => (first | (simp only [List.getElem?_toArray, List.getElem?_cons_succ, List.getElem?_cons_zero]; done) | (simp only [List.getElem?_toArray, List.getElem?_cons_succ, List.getElem?_cons_zero]; rfl))
        case' hQB4 => exact fun _ _ _ h => h
        case' hyB4 => refine Or.inl ⟨by rfl, ?_⟩
        (intro w hSw; (try dsimp only at hSw); go_simp; try with_reducible rfl)
        try simp only [Act.put, List.setIfInBounds_toArray, List.set_cons_zero, List.set_cons_succ]
        refine' wpAnyH_take (i := 4) (oi := _) (v := _) ?hiB5 (by kernel_rfl) (by kernel_rfl) (by kernel_rfl) ?hQB5 ?hyB5 (by assumption) ?restB5
        case' hiB5 => (first | (simp only [List.getElem?_toArray, List.getElem?_cons_succ, List.getElem?_cons_zero]; done) | (simp only [List.getElem?_toArray, List.getElem?_cons_succ, List.getElem?_cons_zero]; rfl))
        case' hQB5 => exact fun _ _ _ h => h
        case' hyB5 => refine Or.inl ⟨by rfl, ?_⟩
        (intro w hSw; (try dsimp only at hSw); go_simp; try with_reducible rfl)
        try simp only [Act.put, List.setIfInBounds_toArray, List.set_cons_zero, List.set_cons_succ]
        refine' wpAnyH_take (i := 5) (oi := _) (v := undef) ?hiB6 (by kernel_rfl) (by kernel_rfl) (by kernel_rfl) ?hQB6 ?hyB6 (by assumption) ?restB6
        case' hiB6 => (first | (simp only [List.getElem?_toArray, List.getElem?_cons_succ, List.getElem?_cons_zero]; done) | (simp only [List.getElem?_toArray, List.getElem?_cons_succ, List.getElem?_cons_zero]; rfl))
        case' hQB6 => exact fun _ _ _ h => h
        case' hyB6 => exact Or.inr ⟨by rfl, rfl⟩
        try simp only [Act.put, List.setIfInBounds_toArray, List.set_cons_zero, List.set_cons_succ]
        refine' wpAnyH_take (i := 6) (oi := _) (v := undef) ?hiB7 (by kernel_rfl) (by kernel_rfl) (by kernel_rfl) ?hQB7 ?hyB7 (by assumption) ?restB7
        case' hiB7 => (first | (simp only [List.getElem?_toArray, List.getElem?_cons_succ, List.getElem?_cons_zero]; done) | (simp only [List.getElem?_toArray, List.getElem?_cons_succ, List.getElem?_cons_zero]; rfl))
        case' hQB7 => exact fun _ _ _ h => h
        case' hyB7 => exact Or.inr ⟨by rfl, rfl⟩
        try simp only [Act.put, List.setIfInBounds_toArray, List.set_cons_zero, List.set_cons_succ]
        refine' wpAnyH_take (i := 7) (oi := _) (v := undef) ?hiB8 (by kernel_rfl) (by kernel_rfl) (by kernel_rfl) ?hQB8 ?hyB8 (by assumption) ?restB8
        case' hiB8 => (first | (simp only [List.getElem?_toArray, List.getElem?_cons_succ, List.getElem?_cons_zero]; done) | (simp only [List.getElem?_toArray, List.getElem?_cons_succ, List.getElem?_cons_zero]; rfl))
        case' hQB8 => exact fun _ _ _ h => h
        case' hyB8 => exact Or.inr ⟨by rfl, rfl⟩
        try simp only [Act.put, List.setIfInBounds_toArray, List.set_cons_zero, List.set_cons_succ]
        refine' wpAnyH_take (i := 8) (oi := _) (v := undef) ?hiB9 (by kernel_rfl) (by kernel_rfl) (by kernel_rfl) ?hQB9 ?hyB9 (by assumption) ?restB9
        case' hiB9 => (first | (simp only [List.getElem?_toArray, List.getElem?_cons_succ, List.getElem?_cons_zero]; done) | (simp only [List.getElem?_toArray, List.getElem?_cons_succ, List.getElem?_cons_zero]; rfl))
        case' hQB9 => exact fun _ _ _ h => h
        case' hyB9 => exact Or.inr ⟨by rfl, rfl⟩
        try simp only [Act.put, List.setIfInBounds_toArray, List.set_cons_zero, List.set_cons_succ]
        refine' wpAnyH_take (i := 9) (oi := _) (v := undef) ?hiB10 (by kernel_rfl) (by kernel_rfl) (by kernel_rfl) ?hQB10 ?hyB10 (by assumption) ?restB10
        case' hiB10 => (first | (simp only [List.getElem?_toArray, List.getElem?_cons_succ, List.getElem?_cons_zero]; done) | (simp only [List.getElem?_toArray, List.getElem?_cons_succ, List.getElem?_cons_zero]; rfl))
        case' hQB10 => exact fun _ _ _ h => h
        case' hyB10 => exact Or.inr ⟨by rfl, rfl⟩
        try simp only [Act.put, List.setIfInBounds_toArray, List.set_cons_zero, List.set_cons_succ]
        refine' wpAnyH_take (i := 10) (oi := _) (v := undef) ?hiB11 (by kernel_rfl) (by kernel_rfl) (by kernel_rfl) ?hQB11 ?hyB11 (by assumption) ?restB11
        case' hiB11 => (first | (simp only [List.getElem?_toArray, List.getElem?_cons_succ, List.getElem?_cons_zero]; done) | (simp only [List.getElem?_toArray, List.getElem?_cons_succ, List.getElem?_cons_zero]; rfl))
        case' hQB11 => exact fun _ _ _ h => h
        case' hyB11 => exact Or.inr ⟨by rfl, rfl⟩
        try simp only [Act.put, List.setIfInBounds_toArray, List.set_cons_zero, List.set_cons_succ]
        refine' wpAnyH_take (i := 11) (oi := _) (v := undef) ?hiB12 (by kernel_rfl) (by kernel_rfl) (by kernel_rfl) ?hQB12 ?hyB12 (by assumption) ?restB12
        case' hiB12 => (first | (simp only [List.getElem?_toArray, List.getElem?_cons_succ, List.getElem?_cons_zero]; done) | (simp only [List.getElem?_toArray, List.getElem?_cons_succ, List.getElem?_cons_zero]; rfl))
        case' hQB12 => exact fun _ _ _ h => h
        case' hyB12 => exact Or.inr ⟨by rfl, rfl⟩
        try simp only [Act.put, List.setIfInBounds_toArray, List.set_cons_zero, List.set_cons_succ]
        refine' wpAnyH_take (i := 12) (oi := _) (v := undef) ?hiB13 (by kernel_rfl) (by kernel_rfl) (by kernel_rfl) ?hQB13 ?hyB13 (by assumption) ?restB13
        case' hiB13 => (first | (simp only [List.getElem?_toArray, List.getElem?_cons_succ, List.getElem?_cons_zero]; done) | (simp only [List.getElem?_toArray, List.getElem?_cons_succ, List.getElem?_cons_zero]; rfl))
        case' hQB13 => exact fun _ _ _ h => h
        case' hyB13 => exact Or.inr ⟨by rfl, rfl⟩
        try simp only [Act.put, List.setIfInBounds_toArray, List.set_cons_zero, List.set_cons_succ]
        refine' wpAnyH_take (i := 13) (oi := _) (v := _) ?hiB14 (by kernel_rfl) (by kernel_rfl) (by kernel_rfl) ?hQB14 ?hyB14 (by assumption) ?restB14
        case' hiB14 => (first | (simp only [List.getElem?_toArray, List.getElem?_cons_succ, List.getElem?_cons_zero]; done) | (simp only [List.getElem?_toArray, List.getElem?_cons_succ, List.getElem?_cons_zero]; rfl))
        case' hQB14 => exact fun _ _ _ h => h
        case' hyB14 => refine Or.inl ⟨by rfl, ?_⟩
        (intro w hSw; (try dsimp only at hSw); go_simp; try with_reducible rfl)
        try simp only [Act.put, List.setIfInBounds_toArray, List.set_cons_zero, List.set_cons_succ]
        refine' wpAnyH_take (i := 14) (oi := _) (v := _) ?hiB15 (by kernel_rfl) (by kernel_rfl) (by kernel_rfl) ?hQB15 ?hyB15 (by assumption) ?restB15
        case' hiB15 => (first | (simp only [List.getElem?_toArray, List.getElem?_cons_succ, List.getElem?_cons_zero]; done) | (simp only [List.getElem?_toArray, List.getElem?_cons_succ, List.getElem?_cons_zero]; rfl))
        case' hQB15 => exact fun _ _ _ h => h
        case' hyB15 => refine Or.inl ⟨by rfl, ?_⟩
        (intro w hSw; (try dsimp only at hSw); go_simp; try with_reducible rfl)
        try simp only [Act.put, List.setIfInBounds_toArray, List.set_cons_zero, List.set_cons_succ]
        refine' wpAnyH_take (i := 15) (oi := _) (v := _) ?hiB16 (by kernel_rfl) (by kernel_rfl) (by kernel_rfl) ?hQB16 ?hyB16 (by assumption) ?restB16
        case' hiB16 => (first | (simp only [List.getElem?_toArray, List.getElem?_cons_succ, List.getElem?_cons_zero]; done) | (simp only [List.getElem?_toArray, List.getElem?_cons_succ, List.getElem?_cons_zero]; rfl))
        case' hQB16 => exact fun _ _ _ h => h
        case' hyB16 => refine Or.inl ⟨by rfl, ?_⟩
        (intro w hSw; (try dsimp only at hSw); go_simp; try with_reducible rfl)
        try simp only [Act.put, List.setIfInBounds_toArray, List.set_cons_zero, List.set_cons_succ]
        refine' wpAnyH_take (i := 16) (oi := _) (v := _) ?hiB17 (by kernel_rfl) (by kernel_rfl) (by kernel_rfl) ?hQB17 ?hyB17 (by assumption) ?restB17
        case' hiB17 => (first | (simp only [List.getElem?_toArray, List.getElem?_cons_succ, List.getElem?_cons_zero]; done) | (simp only [List.getElem?_toArray, List.getElem?_cons_succ, List.getElem?_cons_zero]; rfl))
        case' hQB17 => exact fun _ _ _ h => h
        case' hyB17 => refine Or.inl ⟨by rfl, ?_⟩
        (intro w hSw; (try dsimp only at hSw); go_simp; try with_reducible rfl)
        try simp only [Act.put, List.setIfInBounds_toArray, List.set_cons_zero, List.set_cons_succ]
        refine' wpAnyH_take (i := 17) (oi := _) (v := _) ?hiB18 (by kernel_rfl) (by kernel_rfl) (by kernel_rfl) ?hQB18 ?hyB18 (by assumption) ?restB18
        case' hiB18 => (first | (simp only [List.getElem?_toArray, List.getElem?_cons_succ, List.getElem?_cons_zero]; done) | (simp only [List.getElem?_toArray, List.getElem?_cons_succ, List.getElem?_cons_zero]; rfl))
        case' hQB18 => exact fun _ _ _ h => h
        case' hyB18 => refine Or.inl ⟨by rfl, ?_⟩
        (intro w hSw; (try dsimp only at hSw); go_simp; try with_reducible rfl)
        try simp only [Act.put, List.setIfInBounds_toArray, List.set_cons_zero, List.set_cons_succ]
        refine' wpAnyH_take (i := 18) (oi := _) (v := _) ?hiB19 (by kernel_rfl) (by kernel_rfl) (by kernel_rfl) ?hQB19 ?hyB19 (by assumption) ?restB19
        case' hiB19 => (first | (simp only [List.getElem?_toArray, List.getElem?_cons_succ, List.getElem?_cons_zero]; done) | (simp only [List.getElem?_toArray, List.getElem?_cons_succ, List.getElem?_cons_zero]; rfl))
        case' hQB19 => exact fun _ _ _ h => h
        case' hyB19 => refine Or.inl ⟨by rfl, ?_⟩
        (intro w hSw; (try dsimp only at hSw); go_simp; try with_reducible rfl)
        try simp only [Act.put, List.setIfInBounds_toArray, List.set_cons_zero, List.set_cons_succ]
        refine' wpAnyH_take (i := 19) (oi := _) (v := _) ?hiB20 (by kernel_rfl) (by kernel_rfl) (by kernel_rfl) ?hQB20 ?hyB20 (by assumption) ?restB20
        case' hiB20 => (first | (simp only [List.getElem?_toArray, List.getElem?_cons_succ, List.getElem?_cons_zero]; done) | (simp only [List.getElem?_toArray, List.getElem?_cons_succ, List.getElem?_cons_zero]; rfl))
        case' hQB20 => exact fun _ _ _ h => h
        case' hyB20 => refine Or.inl ⟨by rfl, ?_⟩
        (intro w hSw; (try dsimp only at hSw); go_simp; try with_reducible rfl)
        try simp only [Act.put, List.setIfInBounds_toArray, List.set_cons_zero, List.set_cons_succ]
        refine' wpAnyH_take (i := 20) (oi := _) (v := _) ?hiB21 (by kernel_rfl) (by kernel_rfl) (by kernel_rfl) ?hQB21 ?hyB21 (by assumption) ?restB21
        case' hiB21 => (first | (simp only [List.getElem?_toArray, List.getElem?_cons_succ, List.getElem?_cons_zero]; done) | (simp only [List.getElem?_toArray, List.getElem?_cons_succ, List.getElem?_cons_zero]; rfl))
        case' hQB21 => exact fun _ _ _ h => h
        case' hyB21 => refine Or.inl ⟨by rfl, ?_⟩
        (intro w hSw; (try dsimp only at hSw); go_simp; try with_reducible rfl)
        try simp only [Act.put, List.setIfInBounds_toArray, List.set_cons_zero, List.set_cons_succ]
        refine' wpAnyH_take (i := 21) (oi := _) (v := _) ?hiB22 (by kernel_rfl) (by kernel_rfl) (by kernel_rfl) ?hQB22 ?hyB22 (by assumption) ?restB22
        case' hiB22 => (first | (simp only [List.getElem?_toArray, List.getElem?_cons_succ, List.getElem?_cons_zero]; done) | (simp only [List.getElem?_toArray, List.getElem?_cons_succ, List.getElem?_cons_zero]; rfl))
        case' hQB22 => exact fun _ _ _ h => h
        case' hyB22 => refine Or.inl ⟨by rfl, ?_⟩
        (intro w hSw; (try dsimp only at hSw); go_simp; try with_reducible rfl)
        try simp only [Act.put, List.setIfInBounds_toArray, List.set_cons_zero, List.set_cons_succ]
        refine' wpAnyH_take (i := 22) (oi := _) (v := _) ?hiB23 (by kernel_rfl) (by kernel_rfl) (by kernel_rfl) ?hQB23 ?hyB23 (by assumption) ?restB23
        case' hiB23 => (first | (simp only [List.getElem?_toArray, List.getElem?_cons_succ, List.getElem?_cons_zero]; done) | (simp only [List.getElem?_toArray, List.getElem?_cons_succ, List.getElem?_cons_zero]; rfl))
        case' hQB23 => exact fun _ _ _ h => h
        case' hyB23 => refine Or.inl ⟨by rfl, ?_⟩
        (intro w hSw; (try dsimp only at hSw); go_simp; try with_reducible rfl)
        try simp only [Act.put, List.setIfInBounds_toArray, List.set_cons_zero, List.set_cons_succ]
        refine' wpAnyH_take (i := 23) (oi := _) (v := _) ?hiB24 (by kernel_rfl) (by kernel_rfl) (by kernel_rfl) ?hQB24 ?hyB24 (by assumption) ?restB24
        case' hiB24 => (first | (simp only [List.getElem?_toArray, List.getElem?_cons_succ, List.getElem?_cons_zero]; done) | (simp only [List.getElem?_toArray, List.getElem?_cons_succ, List.getElem?_cons_zero]; rfl))
        case' hQB24 => exact fun _ _ _ h => h
        case' hyB24 => refine Or.inl ⟨by rfl, ?_⟩
        (intro w hSw; (try dsimp only at hSw); go_simp; try with_reducible rfl)
        try simp only [Act.put, List.setIfInBounds_toArray, List.set_cons_zero, List.set_cons_succ]
        refine' wpAnyH_take (i := 24) (oi := _) (v := _) ?hiB25 (by kernel_rfl) (by kernel_rfl) (by kernel_rfl) ?hQB25 ?hyB25 (by assumption) ?restB25
        case' hiB25 => (first | (simp only [List.getElem?_toArray, List.getElem?_cons_succ, List.getElem?_cons_zero]; done) | (simp only [List.getElem?_toArray, List.getElem?_cons_succ, List.getElem?_cons_zero]; rfl))
        case' hQB25 => exact fun _ _ _ h => h
        case' hyB25 => refine Or.inl ⟨by rfl, ?_⟩
        (intro w hSw; (try dsimp only at hSw); go_simp; try with_reducible rfl)
        try simp only [Act.put, List.setIfInBounds_toArray, List.set_cons_zero, List.set_cons_succ]
        refine' wpAnyH_take (i := 25) (oi := _) (v := _) ?hiB26 (by kernel_rfl) (by kernel_rfl) (by kernel_rfl) ?hQB26 ?hyB26 (by assumption) ?restB26
        case' hiB26 => (first | (simp only [List.getElem?_toArray, List.getElem?_cons_succ, List.getElem?_cons_zero]; done) | (simp only [List.getElem?_toArray, List.getElem?_cons_succ, List.getElem?_cons_zero]; rfl))
        case' hQB26 => exact fun _ _ _ h => h
        case' hyB26 => refine Or.inl ⟨by rfl, ?_⟩
        (intro w hSw; (try dsimp only at hSw); go_simp; try with_reducible rfl)
        try simp only [Act.put, List.setIfInBounds_toArray, List.set_cons_zero, List.set_cons_succ]
        refine' wpAnyH_take (i := 26) (oi := _) (v := _) ?hiB27 (by kernel_rfl) (by kernel_rfl) (by kernel_rfl) ?hQB27 ?hyB27 (by assumption) ?restB27
        case' hiB27 => (first | (simp only [List.getElem?_toArray, List.getElem?_cons_succ, List.getElem?_cons_zero]; done) | (simp only [List.getElem?_toArray, List.getElem?_cons_succ, List.getElem?_cons_zero]; rfl))
        case' hQB27 => exact fun _ _ _ h => h
        case' hyB27 => refine Or.inl ⟨by rfl, ?_⟩
        (intro w hSw; (try dsimp only at hSw); go_simp; try with_reducible rfl)
        try simp only [Act.put, List.setIfInBounds_toArray, List.set_cons_zero, List.set_cons_succ]
        refine' wpAnyH_take (i := 27) (oi := _) (v := _) ?hiB28 (by kernel_rfl) (by kernel_rfl) (by kernel_rfl) ?hQB28 ?hyB28 (by assumption) ?restB28
        case' hiB28 => (first | (simp only [List.getElem?_toArray, List.getElem?_cons_succ, List.getElem?_cons_zero]; done) | (simp only [List.getElem?_toArray, List.getElem?_cons_succ, List.getElem?_cons_zero]; rfl))
        case' hQB28 => exact fun _ _ _ h => h
        case' hyB28 => refine Or.inl ⟨by rfl, ?_⟩
        (intro w hSw; (try dsimp only at hSw); go_simp; try with_reducible rfl)
        try simp only [Act.put, List.setIfInBounds_toArray, List.set_cons_zero, List.set_cons_succ]
        refine' wpAnyH_take (i := 28) (oi := _) (v := _) ?hiB29 (by kernel_rfl) (by kernel_rfl) (by kernel_rfl) ?hQB29 ?hyB29 (by assumption) ?restB29
        case' hiB29 => (first | (simp only [List.getElem?_toArray, List.getElem?_cons_succ, List.getElem?_cons_zero]; done) | (simp only [List.getElem?_toArray, List.getElem?_cons_succ, List.getElem?_cons_zero]; rfl))
        case' hQB29 => exact fun _ _ _ h => h
        case' hyB29 => refine Or.inl ⟨by rfl, ?_⟩
        (intro w hSw; (try dsimp only at hSw); go_simp; try with_reducible rfl)
        try simp only [Act.put, List.setIfInBounds_toArray, List.set_cons_zero, List.set_cons_succ]
        refine' wpAnyH_take (i := 29) (oi := _) (v := _) ?hiB30 (by kernel_rfl) (by kernel_rfl) (by kernel_rfl) ?hQB30 ?hyB30 (by assumption) ?restB30
        case' hiB30 => (first | (simp only [List.getElem?_toArray, List.getElem?_cons_succ, List.getElem?_cons_zero]; done) | (simp only [List.getElem?_toArray, List.getElem?_cons_succ, List.getElem?_cons_zero]; rfl))
        case' hQB30 => exact fun _ _ _ h => h
        case' hyB30 => refine Or.inl ⟨by rfl, ?_⟩
        (intro w hSw; (try dsimp only at hSw); go_simp; try with_reducible rfl)
        try simp only [Act.put, List.setIfInBounds_toArray, List.set_cons_zero, List.set_cons_succ]
        refine' wpAnyH_take (i := 30) (oi := _) (v := _) ?hiB31 (by kernel_rfl) (by kernel_rfl) (by kernel_rfl) ?hQB31 ?hyB31 (by assumption) ?restB31
        case' hiB31 => (first | (simp only [List.getElem?_toArray, List.getElem?_cons_succ, List.getElem?_cons_zero]; done) | (simp only [List.getElem?_toArray, List.getElem?_cons_succ, List.getElem?_cons_zero]; rfl))
        case' hQB31 => exact fun _ _ _ h => h
        case' hyB31 => refine Or.inl ⟨by rfl, ?_⟩
        (intro w hSw; (try dsimp only at hSw); go_simp; try with_reducible rfl)
        try simp only [Act.put, List.setIfInBounds_toArray, List.set_cons_zero, List.set_cons_succ]
        refine' wpAnyH_take (i := 31) (oi := _) (v := _) ?hiB32 (by kernel_rfl) (by kernel_rfl) (by kernel_rfl) ?hQB32 ?hyB32 (by assumption) ?restB32
        case' hiB32 => (first | (simp only [List.getElem?_toArray, List.getElem?_cons_succ, List.getElem?_cons_zero]; done) | (simp only [List.getElem?_toArray, List.getElem?_cons_succ, List.getElem?_cons_zero]; rfl))
        case' hQB32 => exact fun _ _ _ h => h
        case' hyB32 => refine Or.inl ⟨by rfl, ?_⟩
        (intro w hSw; (try dsimp only at hSw); go_simp; try with_reducible rfl)
        try simp only [Act.put, List.setIfInBounds_toArray, List.set_cons_zero, List.set_cons_succ]
        refine' wpAnyH_take (i := 32) (oi := _) (v := _) ?hiB33 (by kernel_rfl) (by kernel_rfl) (by kernel_rfl) ?hQB33 ?hyB33 (by assumption) ?restB33
        case' hiB33 => (first | (simp only [List.getElem?_toArray, List.getElem?_cons_succ, List.getElem?_cons_zero]; done) | (simp only [List.getElem?_toArray, List.getElem?_cons_succ, List.getElem?_cons_zero]; rfl))
        case' hQB33 => exact fun _ _ _ h => h
        case' hyB33 => refine Or.inl ⟨by rfl, ?_⟩
        (intro w hSw; (try dsimp only at hSw); go_simp; try with_reducible rfl)
        try simp only [Act.put, List.setIfInBounds_toArray, List.set_cons_zero, List.set_cons_succ]
        refine' wpAnyH_take (i := 33) (oi := _) (v := _) ?hiB34 (by kernel_rfl) (by kernel_rfl) (by kernel_rfl) ?hQB34 ?hyB34 (by assumption) ?restB34
        case' hiB34 => (first | (simp only [List.getElem?_toArray, List.getElem?_cons_succ, List.getElem?_cons_zero]; done) | (simp only [List.getElem?_toArray, List.getElem?_cons_succ, List.getElem?_cons_zero]; rfl))
        case' hQB34 => exact fun _ _ _ h => h
        case' hyB34 => refine Or.inl ⟨by rfl, ?_⟩
        (intro w hSw; (try dsimp only at hSw); go_simp; try with_reducible rfl)
        try simp only [Act.put, List.setIfInBounds_toArray, List.set_cons_zero, List.set_cons_succ]
        refine' wpAnyH_take (i := 34) (oi := _) (v := _) ?hiB35 (by kernel_rfl) (by kernel_rfl) (by kernel_rfl) ?hQB35 ?hyB35 (by assumption) ?restB35
        case' hiB35 => (first | (simp only [List.getElem?_toArray, List.getElem?_cons_succ, List.getElem?_cons_zero]; done) | (simp only [List.getElem?_toArray, List.getElem?_cons_succ, List.getElem?_cons_zero]; rfl))
        case' hQB35 => exact fun _ _ _ h => h
        case' hyB35 => refine Or.inl ⟨by rfl, ?_⟩
        (intro w hSw; (try dsimp only at hSw); go_simp; try with_reducible rfl)
        try simp only [Act.put, List.setIfInBounds_toArray, List.set_cons_zero, List.set_cons_succ]
        refine' wpAnyH_take (i := 35) (oi := _) (v := _) ?hiB36 (by kernel_rfl) (by kernel_rfl) (by kernel_rfl) ?hQB36 ?hyB36 (by assumption) ?restB36
        case' hiB36 => (first | (simp only [List.getElem?_toArray, List.getElem?_cons_succ, List.getElem?_cons_zero]; done) | (simp only [List.getElem?_toArray, List.getElem?_cons_succ, List.getElem?_cons_zero]; rfl))
        case' hQB36 => exact fun _ _ _ h => h
        case' hyB36 => refine Or.inl ⟨by rfl, ?_⟩
        (intro w hSw; (try dsimp only at hSw); go_simp; try with_reducible rfl)
        try simp only [Act.put, List.setIfInBounds_toArray, List.set_cons_zero, List.set_cons_succ]
        refine' wpAnyH_take (i := 36) (oi := _) (v := _) ?hiB37 (by kernel_rfl) (by kernel_rfl) (by kernel_rfl) ?hQB37 ?hyB37 (by assumption) ?restB37
        case' hiB37 => (first | (simp only [List.getElem?_toArray, List.getElem?_cons_succ, List.getElem?_cons_zero]; done) | (simp only [List.getElem?_toArray, List.getElem?_cons_succ, List.getElem?_cons_zero]; rfl))
        case' hQB37 => exact fun _ _ _ h => h
        case' hyB37 => refine Or.inl ⟨by rfl, ?_⟩
        (intro w hSw; (try dsimp only at hSw); go_simp; try with_reducible rfl)
        try simp only [Act.put, List.setIfInBounds_toArray, List.set_cons_zero, List.set_cons_succ]
        refine' wpAnyH_take (i := 37) (oi := _) (v := _) ?hiB38 (by kernel_rfl) (by kernel_rfl) (by kernel_rfl) ?hQB38 ?hyB38 (by assumption) ?restB38
        case' hiB38 => (first | (simp only [List.getElem?_toArray, List.getElem?_cons_succ, List.getElem?_cons_zero]; done) | (simp only [List.getElem?_toArray, List.getElem?_cons_succ, List.getElem?_cons_zero]; rfl))
        case' hQB38 => exact fun _ _ _ h => h
        case' hyB38 => refine Or.inl ⟨by rfl, ?_⟩
        (intro w hSw; (try dsimp only at hSw); go_simp; try with_reducible rfl)
        try simp only [Act.put, List.setIfInBounds_toArray, List.set_cons_zero, List.set_cons_succ]
        refine' wpAnyH_take (i := 39) (oi := _) (v := _) ?hiB39 (by kernel_rfl) (by kernel_rfl) (by kernel_rfl) ?hQB39 ?hyB39 (by assumption) ?restB39
        case' hiB39 => (first | (simp only [List.getElem?_toArray, List.getElem?_cons_succ, List.getElem?_cons_zero]; done) | (simp only [List.getElem?_toArray, List.getElem?_cons_succ, List.getElem?_cons_zero]; rfl))
        case' hQB39 => exact fun _ _ _ h => h
        case' hyB39 => refine Or.inl ⟨by rfl, ?_⟩
        (intro w hSw; (try dsimp only at hSw); go_simp; try with_reducible rfl)
        try simp only [Act.put, List.setIfInBounds_toArray, List.set_cons_zero, List.set_cons_succ]
        refine' wpAnyH_take (i := 40) (oi := _) (v := _) ?hiB40 (by kernel_rfl) (by kernel_rfl) (by kernel_rfl) ?hQB40 ?hyB40 (by assumption) ?restB40
        case' hiB40 => (first | (simp only [List.getElem?_toArray, List.getElem?_cons_succ, List.getElem?_cons_zero]; done) | (simp only [List.getElem?_toArray, List.getElem?_cons_succ, List.getElem?_cons_zero]; rfl))
        case' hQB40 => exact fun _ _ _ h => h
        case' hyB40 => refine Or.inl ⟨by rfl, ?_⟩
        (intro w hSw; (try dsimp only at hSw); go_simp; try with_reducible rfl)
        try simp only [Act.put, List.setIfInBounds_toArray, List.set_cons_zero, List.set_cons_succ]
        refine' wpAnyH_take (i := 41) (oi := _) (v := _) ?hiB41 (by kernel_rfl) (by kernel_rfl) (by kernel_rfl) ?hQB41 ?hyB41 (by assumption) ?restB41
        case' hiB41 => (first | (simp only [List.getElem?_toArray, List.getElem?_cons_succ, List.getElem?_cons_zero]; done) | (simp only [List.getElem?_toArray, List.getElem?_cons_succ, List.getElem?_cons_zero]; rfl))
        case' hQB41 => exact fun _ _ _ h => h
        case' hyB41 => refine Or.inl ⟨by rfl, ?_⟩
        (intro w hSw; (try dsimp only at hSw); go_simp; try with_reducible rfl)
        try simp only [Act.put, List.setIfInBounds_toArray, List.set_cons_zero, List.set_cons_succ]
        refine' wpAnyH_take (i := 42) (oi := _) (v := _) ?hiB42 (by kernel_rfl) (by kernel_rfl) (by kernel_rfl) ?hQB42 ?hyB42 (by assumption) ?restB42
        case' hiB42 => (first | (simp only [List.getElem?_toArray, List.getElem?_cons_succ, List.getElem?_cons_zero]; done) | (simp only [List.getElem?_toArray, List.getElem?_cons_succ, List.getElem?_cons_zero]; rfl))
        case' hQB42 => exact fun _ _ _ h => h
        case' hyB42 => refine Or.inl ⟨by rfl, ?_⟩
        (intro w hSw; (try dsimp only at hSw); go_simp; try with_reducible rfl)
        try simp only [Act.put, List.setIfInBounds_toArray, List.set_cons_zero, List.set_cons_succ]
        refine' wpAnyH_take (i := 43) (oi := _) (v := _) ?hiB43 (by kernel_rfl) (by kernel_rfl) (by kernel_rfl) ?hQB43 ?hyB43 (by assumption) ?restB43
        case' hiB43 => (first | (simp only [List.getElem?_toArray, List.getElem?_cons_succ, List.getElem?_cons_zero]; done) | (simp only [List.getElem?_toArray, List.getElem?_cons_succ, List.getElem?_cons_zero]; rfl))
        case' hQB43 => exact fun _ _ _ h => h
        case' hyB43 => refine Or.inl ⟨by rfl, ?_⟩
        (intro w hSw; (try dsimp only at hSw); go_simp; try with_reducible rfl)
        try simp only [Act.put, List.setIfInBounds_toArray, List.set_cons_zero, List.set_cons_succ]
        refine' wpAnyH_take (i := 44) (oi := _) (v := _) ?hiB44 (by kernel_rfl) (by kernel_rfl) (by kernel_rfl) ?hQB44 ?hyB44 (by assumption) ?restB44
        case' hiB44 => (first | (simp only [List.getElem?_toArray, List.getElem?_cons_succ, List.getElem?_cons_zero]; done) | (simp only [List.getElem?_toArray, List.getElem?_cons_succ, List.getElem?_cons_zero]; rfl))
        case' hQB44 => exact fun _ _ _ h => h
        case' hyB44 => refine Or.inl ⟨by rfl, ?_⟩
        (intro w hSw; (try dsimp only at hSw); go_simp; try with_reducible rfl)
        try simp only [Act.put, List.setIfInBounds_toArray, List.set_cons_zero, List.set_cons_succ]
        refine wpAnyH_ready (rs := [38]) (by kernel_rfl) (by simp) ?_
        refine' AllReadyH.cons (o := _) ?hiB45 (fun K hK => ?hKB45) AllReadyH.nil
        case' hiB45 => (first | (simp only [List.getElem?_toArray, List.getElem?_cons_succ, List.getElem?_cons_zero]; done) | (simp only [List.getElem?_toArray, List.getElem?_cons_succ, List.getElem?_cons_zero]; rfl))
        go_simp
        (go_at_call 20; refine (TX.out _).mono ?_; rintro e w10 ⟨rfl, u4⟩; (have UU := Lib.hid (Upd.trans (by first | exact UU.out | exact UU.out.drew) u4 (fun _ _ h => h))); (have hcell := LC.out _ (by first | exact u4 | exact (Upd.refl (fun _ => False) _).drew.trans u4 (fun _ _ h => h))); (clear z0 z1 z2 z3 z4 z5 z6); (obtain ⟨z0, z1, z2, z3, z4, z5, z6⟩ := KP.out _ UU.out))
        refine hK.out _ _ ?_ (fun hHeld => ?_)
        · (try dsimp only); go_keep
        clear hK K
        try simp only [Act.put, List.setIfInBounds_toArray, List.set_cons_zero, List.set_cons_succ]
        refine' wpAnyH_take (i := 45) (oi := _) (v := _) ?hiB46 (by kernel_rfl) (by kernel_rfl) (by kernel_rfl) ?hQB46 ?hyB46 (by assumption) ?restB46
        case' hiB46 => (first | (simp only [List.getElem?_toArray, List.getElem?_cons_succ, List.getElem?_cons_zero]; done) | (simp only [List.getElem?_toArray, List.getElem?_cons_succ, List.getElem?_cons_zero]; rfl))
        case' hQB46 => exact fun _ _ _ h => h
        case' hyB46 => refine Or.inl ⟨by rfl, ?_⟩
        (intro w hSw; (try dsimp only at hSw); go_simp; try with_reducible rfl)
        try simp only [Act.put, List.setIfInBounds_toArray, List.set_cons_zero, List.set_cons_succ]
        refine' wpAnyH_take (i := 46) (oi := _) (v := _) ?hiB47 (by kernel_rfl) (by kernel_rfl) (by kernel_rfl) ?hQB47 ?hyB47 (by assumption) ?restB47
        case' hiB47 => (first | (simp only [List.getElem?_toArray, List.getElem?_cons_succ, List.getElem?_cons_zero]; done) | (simp only [List.getElem?_toArray, List.getElem?_cons_succ, List.getElem?_cons_zero]; rfl))
        case' hQB47 => exact fun _ _ _ h => h
        case' hyB47 => refine Or.inl ⟨by rfl, ?_⟩
        (intro w hSw; (try dsimp only at hSw); go_simp; try with_reducible rfl)
        try simp only [Act.put, List.setIfInBounds_toArray, List.set_cons_zero, List.set_cons_succ]
        refine' wpAnyH_take (i := 47) (oi := _) (v := _) ?hiB48 (by kernel_rfl) (by kernel_rfl) (by kernel_rfl) ?hQB48 ?hyB48 (by assumption) ?restB48
        case' hiB48 => (first | (simp only [List.getElem?_toArray, List.getElem?_cons_succ, List.getElem?_cons_zero]; done) | (simp only [List.getElem?_toArray, List.getElem?_cons_succ, List.getElem?_cons_zero]; rfl))
        case' hQB48 => exact fun _ _ _ h => h
        case' hyB48 => refine Or.inl ⟨by rfl, ?_⟩
        (intro w hSw; (try dsimp only at hSw); go_simp; try with_reducible rfl)
        try simp only [Act.put, List.setIfInBounds_toArray, List.set_cons_zero, List.set_cons_succ]
        refine' wpAnyH_take (i := 48) (oi := _) (v := _) ?hiB49 (by kernel_rfl) (by kernel_rfl) (by kernel_rfl) ?hQB49 ?hyB49 (by assumption) ?restB49
        case' hiB49 => (first | (simp only [List.getElem?_toArray, List.getElem?_cons_succ, List.getElem?_cons_zero]; done) | (simp only [List.getElem?_toArray, List.getElem?_cons_succ, List.getElem?_cons_zero]; rfl))
        case' hQB49 => exact fun _ _ _ h => h
        case' hyB49 => refine Or.inl ⟨by rfl, ?_⟩
        (intro w hSw; (try dsimp only at hSw); go_simp; try with_reducible rfl)
        try simp only [Act.put, List.setIfInBounds_toArray, List.set_cons_zero, List.set_cons_succ]
        refine wpAnyH_done (by kernel_rfl) ?_ _
        all_goals
          try go_wp2
          go_ret
          exact ⟨rfl, U0.out.trans UU.out (fun _ _ h => h)⟩
end Go.Proofs.YtcpfkkbegnhofaaDoor
