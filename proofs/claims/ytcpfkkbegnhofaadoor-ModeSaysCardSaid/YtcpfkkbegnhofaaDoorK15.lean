/- Walk: ModeSays. Printed by gensays.py. -/
import Derived.Test.YtcpfkkbegnhofaaDoorK12
import Derived.Deep.RegionHeld3
import Derived.Deep.DeepCutAuto
set_option linter.unusedVariables false
set_option linter.unusedSimpArgs false
namespace Go.Proofs.YtcpfkkbegnhofaaDoor
open Go.RowKit

set_option maxHeartbeats 8000000 in
set_option maxRecDepth 100000 in
theorem lawMSays_C (m : MD) (cc : Int) (p : Option Addr) (c : Nat) (w : World) (h : RwT w p c m.ps) (hz : ∀ t ∈ m.ps, t.length ≤ maxLen) (hs : StdU w) (hf : m.on = true ∧ m.bc = false ∧ m.oi = true ∧ m.oo = false) :
    Calls Tryd.prog 6 #[mdV m (.slice p m.ps.length c), .int .i64 cc] w fun e w' => e = .returned (.bool true) ∧ Upd (fun _ => False) w w' := by
  have hla := h.2
  unfold maxLen at hla
  obtain ⟨on, bc, oi, oo, nl, rd, ps⟩ := m
  dsimp only at *
  obtain ⟨rfl, rfl, rfl, rfl⟩ := hf
  obtain ⟨n, hn⟩ : ∃ n, n = ps.length := ⟨_, rfl⟩
  unfold mdV
  dsimp only
  rw [← hn]
  rw [← hn] at hla
  have NA := Lib.hid hn
  have GA := Lib.hid (fun W (u : Upd (fun _ => False) w W) => great_out ⟨true, false, true, false, nl, rd, ps⟩ p n c hn W (h.keep u) hz)
  have HA := Lib.hid h
  have HS := Lib.hid hs
  have ZA := Lib.hid hz
  clear h hz hs hn
  obtain ⟨w0, hw0⟩ : ∃ w0, w0 = w.alloc (.cells #[.bool true, .bool false, .bool true, .bool false, .bool nl, .int .i64 rd, .slice p n c] 24) := ⟨_, rfl⟩
  have u0 : Upd (fun _ => False) w w0 := by rw [hw0]; exact (Upd.refl _ _).alloc _
  have BA0 : Hid (Blk w0 w.heap.size [.bool true, .bool false, .bool true, .bool false, .bool nl, .int .i64 rd, .slice p n c] 24) := Lib.hid (by rw [hw0]; exact Blk.made w _ _)
  have AL := Lib.hid (alive_any _ (HS.out.keep u0))
  have U0 := Lib.hid u0
  rw [hw0] at AL
  go_enter Tryd.func6, Tryd.ntmps6
  go_wp2_with fail
  refine AL.out.mono ?_
  rintro e w1 ⟨rfl, u1⟩
  rw [← hw0] at u1
  have U1 : Hid (Upd (fun _ => False) w0 w1) := Lib.hid u1
  have BA1 := Lib.hid (u1.blk BA0.out id)
  obtain ⟨ya, ga, a0, a1, a2, a3, a4, a5, a6⟩ := mode_facts BA1.out
  have G1 := Lib.hid (GA.out w1 (U0.out.trans U1.out (fun _ _ h => h)))
  clear u1 AL hw0 u0
  go_wp2_with fail
  refine G1.out.mono ?_
  rintro e w2 ⟨g, rfl, hg, u2⟩
  have U2 := Lib.hid (U1.out.trans u2 (fun _ _ h => h))
  cases g with
  | true =>
    clear u2
    go_wp2
    go_ret
    exact ⟨rfl, (U0.out.trans U2.out (fun _ _ h => h))⟩
  | false =>
  have SA := Lib.hid (hg rfl)
  have BA2 := Lib.hid (u2.blk BA1.out id)
  obtain ⟨yb, gb, b0, b1, b2, b3, b4, b5, b6⟩ := mode_facts BA2.out
  clear u2 BA1 hg ya ga a0 a1 a2 a3 a4 a5 a6 G1
  cases hra : rightM ⟨true, false, true, false, nl, rd, ps⟩ with
  | false =>
    have R1 := Lib.hid (right13_out ⟨true, false, true, false, nl, rd, ps⟩ p n c NA.out false hra w2 (HA.out.keep (U0.out.trans U2.out (fun _ _ h => h))) (by have := SA.out.1; omega) ZA.out)
    clear hra
    go_wp2_with fail
    refine R1.out.mono ?_
    rintro e w4 ⟨rfl, u4⟩
    have U4 := Lib.hid (U2.out.trans u4 (fun _ _ h => h))
    clear u4
    go_wp2
    go_ret
    exact ⟨rfl, (U0.out.trans U4.out (fun _ _ h => h))⟩
  | true =>
  have R1 := Lib.hid (right13_out ⟨true, false, true, false, nl, rd, ps⟩ p n c NA.out true hra w2 (HA.out.keep (U0.out.trans U2.out (fun _ _ h => h))) (by have := SA.out.1; omega) ZA.out)
  clear hra
  go_wp2_with fail
  refine R1.out.mono ?_
  rintro e w3 ⟨rfl, u3⟩
  have U3 := Lib.hid (U2.out.trans u3 (fun _ _ h => h))
  clear u3 yb gb b0 b1 b2 b3 b4 b5 b6 R1 GA BA2 U2 U1 SA
  have CT : Hid (∀ W, Calls Tryd.prog 19 #[.agg #[.bool true, .bool false, .bool true, .bool false, .bool nl, .int .i64 rd, .slice p n c], .bool true] W fun e w' => e = .returned (.int .i64 0) ∧ Upd (fun _ => False) W w') := Lib.hid (fun W => by
    have := caching_any ⟨true, false, true, false, nl, rd, ps⟩ (.slice p n c) true W
    rw [show cachM ⟨true, false, true, false, nl, rd, ps⟩ true = 0 by simp [cachM]] at this
    exact this)
  have CF : Hid (∀ W, Calls Tryd.prog 19 #[.agg #[.bool true, .bool false, .bool true, .bool false, .bool nl, .int .i64 rd, .slice p n c], .bool false] W fun e w' => e = .returned (.int .i64 132) ∧ Upd (fun _ => False) W w') := Lib.hid (fun W => by
    have := caching_any ⟨true, false, true, false, nl, rd, ps⟩ (.slice p n c) false W
    rw [show cachM ⟨true, false, true, false, nl, rd, ps⟩ false = 132 by simp [cachM]] at this
    exact this)
  have TC : Hid (∀ x b, tracksM ⟨true, false, true, false, nl, rd, ps⟩ x = b → ∀ W, Calls Tryd.prog 20 #[.agg #[.bool true, .bool false, .bool true, .bool false, .bool nl, .int .i64 rd, .slice p n c], .int .i64 x] W fun e w' => e = .returned (.bool b) ∧ Upd (fun _ => False) W w') := Lib.hid (fun x b hb W => by
    subst hb
    exact tracks_any ⟨true, false, true, false, nl, rd, ps⟩ (.slice p n c) x W)
  have TA := Lib.hid (TC.out 0 false (by simp [tracksM]))
  have TB := Lib.hid (TC.out 1 true (by simp [tracksM]))
  have TD := Lib.hid (TC.out 2 false (by simp [tracksM]))
  have KP : Hid (∀ W, Upd (fun _ => False) w0 W → W.cell? ⟨w.heap.size, 0, none⟩ = some (.bool true) ∧ W.cell? ⟨w.heap.size, 1, none⟩ = some (.bool false) ∧ W.cell? ⟨w.heap.size, 2, none⟩ = some (.bool true) ∧ W.cell? ⟨w.heap.size, 3, none⟩ = some (.bool false) ∧ W.cell? ⟨w.heap.size, 4, none⟩ = some (.bool nl) ∧ W.cell? ⟨w.heap.size, 5, none⟩ = some (.int .i64 rd) ∧ W.cell? ⟨w.heap.size, 6, none⟩ = some (.slice p n c)) := Lib.hid (fun W u => (mode_facts (u.blk BA0.out id)).2.2)
  obtain ⟨z0, z1, z2, z3, z4, z5, z6⟩ := KP.out w3 U3.out
  have UU := U3
  go_upto_region 5 with (fail)
  go_cut [5, 6] (fun v5 v6 wx => v5 = .bool true ∧ v6 = .bool false ∧ Hid (Upd (fun _ => False) w0 wx))
  case first =>
    go_region_held3 (fun w' => w'.cell? ⟨w.heap.size, 0, none⟩ = some (.bool true) ∧ w'.cell? ⟨w.heap.size, 1, none⟩ = some (.bool false) ∧ w'.cell? ⟨w.heap.size, 2, none⟩ = some (.bool true) ∧ w'.cell? ⟨w.heap.size, 3, none⟩ = some (.bool false) ∧ w'.cell? ⟨w.heap.size, 4, none⟩ = some (.bool nl) ∧ w'.cell? ⟨w.heap.size, 5, none⟩ = some (.int .i64 rd) ∧ w'.cell? ⟨w.heap.size, 6, none⟩ = some (.slice p n c)) (go_keep) (first
      | (go_at_call 19; (with_reducible refine (CT.out _).mono ?_); rintro e w4 ⟨rfl, u4⟩; (have UU := Lib.hid (Upd.trans (by first | exact UU.out | exact UU.out.drew) u4 (fun _ _ h => h))); (clear z0 z1 z2 z3 z4 z5 z6); (obtain ⟨z0, z1, z2, z3, z4, z5, z6⟩ := KP.out _ UU.out))
      | (go_at_call 19; (with_reducible refine (CF.out _).mono ?_); rintro e w5 ⟨rfl, u4⟩; (have UU := Lib.hid (Upd.trans (by first | exact UU.out | exact UU.out.drew) u4 (fun _ _ h => h))); (clear z0 z1 z2 z3 z4 z5 z6); (obtain ⟨z0, z1, z2, z3, z4, z5, z6⟩ := KP.out _ UU.out)))
    all_goals
      go_wp2_with fail
      go_meet
      exact ⟨rfl, rfl, UU⟩
  case' rest =>
    obtain ⟨rfl, rfl, UX⟩ := hcut
    clear z0 z1 z2 z3 z4 z5 z6 UU
    obtain ⟨z0, z1, z2, z3, z4, z5, z6⟩ := KP.out _ UX.out
    have UU := UX
    go_upto_region 6 with (fail)
  go_cut [7, 8, 9] (fun v7 v8 v9 wx => v7 = .bool false ∧ v8 = .bool true ∧ v9 = .bool false ∧ Hid (Upd (fun _ => False) w0 wx))
  case first =>
    go_region_held3 (fun w' => w'.cell? ⟨w.heap.size, 0, none⟩ = some (.bool true) ∧ w'.cell? ⟨w.heap.size, 1, none⟩ = some (.bool false) ∧ w'.cell? ⟨w.heap.size, 2, none⟩ = some (.bool true) ∧ w'.cell? ⟨w.heap.size, 3, none⟩ = some (.bool false) ∧ w'.cell? ⟨w.heap.size, 4, none⟩ = some (.bool nl) ∧ w'.cell? ⟨w.heap.size, 5, none⟩ = some (.int .i64 rd) ∧ w'.cell? ⟨w.heap.size, 6, none⟩ = some (.slice p n c)) (go_keep) (first
      | (go_at_call 20; (with_reducible refine (TA.out _).mono ?_); rintro e w6 ⟨rfl, u4⟩; (have UU := Lib.hid (Upd.trans (by first | exact UU.out | exact UU.out.drew) u4 (fun _ _ h => h))); (clear z0 z1 z2 z3 z4 z5 z6); (obtain ⟨z0, z1, z2, z3, z4, z5, z6⟩ := KP.out _ UU.out))
      | (go_at_call 20; (with_reducible refine (TB.out _).mono ?_); rintro e w7 ⟨rfl, u4⟩; (have UU := Lib.hid (Upd.trans (by first | exact UU.out | exact UU.out.drew) u4 (fun _ _ h => h))); (clear z0 z1 z2 z3 z4 z5 z6); (obtain ⟨z0, z1, z2, z3, z4, z5, z6⟩ := KP.out _ UU.out))
      | (go_at_call 20; (with_reducible refine (TD.out _).mono ?_); rintro e w8 ⟨rfl, u4⟩; (have UU := Lib.hid (Upd.trans (by first | exact UU.out | exact UU.out.drew) u4 (fun _ _ h => h))); (clear z0 z1 z2 z3 z4 z5 z6); (obtain ⟨z0, z1, z2, z3, z4, z5, z6⟩ := KP.out _ UU.out)))
    all_goals
      go_wp2_with fail
      go_meet
      exact ⟨rfl, rfl, rfl, UU⟩
  case rest =>
    clear UX
    obtain ⟨rfl, rfl, rfl, UX⟩ := hcut
    clear z0 z1 z2 z3 z4 z5 z6 UU
    obtain ⟨z0, z1, z2, z3, z4, z5, z6⟩ := KP.out _ UX.out
    have FL := Lib.hid (fun W => flags_any ⟨true, false, true, false, nl, rd, ps⟩ p n c W)
    obtain ⟨fr, hfr⟩ : ∃ fr, flagsM ⟨true, false, true, false, nl, rd, ps⟩ = ([111, 110] : Txt) :: fr := ⟨_, rfl⟩
    have FRL : fr.length ≤ 10 := by
      have h1 : (flagsM ⟨true, false, true, false, nl, rd, ps⟩).length ≤ 5 := by cases nl <;> simp [flagsM]
      rw [hfr] at h1; simp only [List.length_cons] at h1; omega
    have FR := Lib.hid hfr
    clear hfr
    go_wp2_with fail
    refine (FL.out _).mono ?_
    rintro e w9 ⟨vl, rfl, tl, u9⟩
    have U9 := Lib.hid (UX.out.trans u9 (fun _ _ h => h))
    rw [FR.out] at tl
    obtain ⟨pl, cl, rfl, _⟩ := own_slice tl
    obtain ⟨g, rfl, hg, hcell0⟩ := txts_get tl (k := 0) (by simp)
    have hcell : w9.cell? ⟨g, 0, none⟩ = some (.string { data := #[111, 110] }) := hcell0
    have hll : (0 : Int) < ((([111, 110] : Txt) :: fr : List Txt).length : Int) := by simp only [List.length_cons]; omega
    generalize hgn : (([111, 110] : Txt) :: fr : List Txt).length = nn at *
    clear hcell0 tl u9 z0 z1 z2 z3 z4 z5 z6 hgn FRL
    have hlN : 0 < nn := by omega
    have hlD : decide (0 < nn) = true := decide_eq_true hlN
    have hlI : decide ((0 : Int) < (nn : Int)) = true := decide_eq_true hll
    obtain ⟨z0, z1, z2, z3, z4, z5, z6⟩ := KP.out _ U9.out
    have zb := (U9.out.blk BA0.out id).lt
    by_cases c2 : (2 : Int) < cc
    · have c2D : decide ((2 : Int) < cc) = true := decide_eq_true c2
      go_wp2
      go_quiet (fail)
      go_wp2
      go_ret
      exact ⟨rfl, U0.out.trans (U9.out.drewN _) (fun _ _ h => h)⟩
    · by_cases c0 : cc < 0
      · have c2D : decide ((2 : Int) < cc) = false := decide_eq_false c2
        have c0D : decide (cc < 0) = true := decide_eq_true c0
        go_wp2
        go_quiet (fail)
        go_wp2
        go_ret
        exact ⟨rfl, U0.out.trans (U9.out.drewN _) (fun _ _ h => h)⟩
      · have c2D : decide ((2 : Int) < cc) = false := decide_eq_false c2
        have c0D : decide (cc < 0) = false := decide_eq_false c0
        obtain ⟨b, hb, hx⟩ : ∃ b, tracksM ⟨true, false, true, false, nl, rd, ps⟩ cc = b ∧ ((cc = 0 ∧ b = false) ∨ (cc = 1 ∧ b = true) ∨ (cc = 2 ∧ b = false)) := by
          have : cc = 0 ∨ cc = 1 ∨ cc = 2 := by omega
          rcases this with rfl | rfl | rfl
          · exact ⟨_, rfl, Or.inl ⟨rfl, by simp [tracksM]⟩⟩
          · exact ⟨_, rfl, Or.inr (Or.inl ⟨rfl, by simp [tracksM]⟩)⟩
          · exact ⟨_, rfl, Or.inr (Or.inr ⟨rfl, by simp [tracksM]⟩)⟩
        have TX := Lib.hid (TC.out cc b hb)
        have ix := idx3 false true false cc b hx
        have LC : Hid (∀ W, Upd (fun _ => False) w9 W → W.cell? ⟨g, 0, none⟩ = some (.string { data := #[111, 110] })) := Lib.hid (fun W u => (u.cell (p := ⟨g, 0, none⟩) hg id).trans hcell)
        have UU := U9
        clear hx hb
        go_wp2
        refine wp_region_held_drew (S := fun w' => w'.cell? ⟨w.heap.size, 0, none⟩ = some (.bool true) ∧ w'.cell? ⟨w.heap.size, 1, none⟩ = some (.bool false) ∧ w'.cell? ⟨w.heap.size, 2, none⟩ = some (.bool true) ∧ w'.cell? ⟨w.heap.size, 3, none⟩ = some (.bool false) ∧ w'.cell? ⟨w.heap.size, 4, none⟩ = some (.bool nl) ∧ w'.cell? ⟨w.heap.size, 5, none⟩ = some (.int .i64 rd) ∧ w'.cell? ⟨w.heap.size, 6, none⟩ = some (.slice p n c) ∧ w'.cell? ⟨g, 0, none⟩ = some (.string { data := #[111, 110] })) (by kernel_rfl) ?_ (fun hHeld => ?_)
        · (try dsimp only); go_keep
        try simp only [Array.replicate, Act.put, List.setIfInBounds_toArray]
        refine' wpAnyH_take (i := 0) (oi := _) (v := _) ?hiA1 (by kernel_rfl) (by kernel_rfl) (by kernel_rfl) ?hQA1 ?hyA1 (by assumption) ?restA1
        case' hiA1 => (first | (simp only [List.getElem?_toArray, List.getElem?_cons_succ, List.getElem?_cons_zero]; done) | (simp only [List.getElem?_toArray, List.getElem?_cons_succ, List.getElem?_cons_zero]; rfl))
        case' hQA1 => exact fun _ _ _ h => h
        case' hyA1 => refine Or.inl ⟨by rfl, ?_⟩
        (intro w hSw; (try dsimp only at hSw); go_simp; try with_reducible rfl)
        try simp only [Act.put, List.setIfInBounds_toArray, List.set_cons_zero, List.set_cons_succ]
        refine' wpAnyH_take (i := 1) (oi := _) (v := _) ?hiA2 (by kernel_rfl) (by kernel_rfl) (by kernel_rfl) ?hQA2 ?hyA2 (by assumption) ?restA2
        case' hiA2 => (first | (simp only [List.getElem?_toArray, List.getElem?_cons_succ, List.getElem?_cons_zero]; done) | (simp only [List.getElem?_toArray, List.getElem?_cons_succ, List.getElem?_cons_zero]; rfl))
        case' hQA2 => exact fun _ _ _ h => h
        case' hyA2 => refine Or.inl ⟨by rfl, ?_⟩
        (intro w hSw; (try dsimp only at hSw); go_simp; try with_reducible rfl)
        try simp only [Act.put, List.setIfInBounds_toArray, List.set_cons_zero, List.set_cons_succ]
        refine' wpAnyH_take (i := 2) (oi := _) (v := undef) ?hiA3 (by kernel_rfl) (by kernel_rfl) (by kernel_rfl) ?hQA3 ?hyA3 (by assumption) ?restA3
        case' hiA3 => (first | (simp only [List.getElem?_toArray, List.getElem?_cons_succ, List.getElem?_cons_zero]; done) | (simp only [List.getElem?_toArray, List.getElem?_cons_succ, List.getElem?_cons_zero]; rfl))
        case' hQA3 => exact fun _ _ _ h => h
        case' hyA3 => exact Or.inr ⟨by rfl, rfl⟩
        try simp only [Act.put, List.setIfInBounds_toArray, List.set_cons_zero, List.set_cons_succ]
        refine' wpAnyH_take (i := 3) (oi := _) (v := _) ?hiA4 (by kernel_rfl) (by kernel_rfl) (by kernel_rfl) ?hQA4 ?hyA4 (by assumption) ?restA4
        case' hiA4 => (first | (simp only [List.getElem?_toArray, List.getElem?_cons_succ, List.getElem?_cons_zero]; done) | (simp only [List.getElem?_toArray, List.getElem?_cons_succ, List.getElem?_cons_zero]; rfl))
        case' hQA4 => exact fun _ _ _ h => h
        case' hyA4 => refine Or.inl ⟨by rfl, ?_⟩
        (intro w hSw; (try dsimp only at hSw); go_simp; try with_reducible rfl)
        try simp only [Act.put, List.setIfInBounds_toArray, List.set_cons_zero, List.set_cons_succ]
        refine' wpAnyH_take (i := 4) (oi := _) (v := _) ?hiA5 (by kernel_rfl) (by kernel_rfl) (by kernel_rfl) ?hQA5 ?hyA5 (by assumption) ?restA5
        case' hiA5 => (first | (simp only [List.getElem?_toArray, List.getElem?_cons_succ, List.getElem?_cons_zero]; done) | (simp only [List.getElem?_toArray, List.getElem?_cons_succ, List.getElem?_cons_zero]; rfl))
        case' hQA5 => exact fun _ _ _ h => h
        case' hyA5 => refine Or.inl ⟨by rfl, ?_⟩
        (intro w hSw; (try dsimp only at hSw); go_simp; try with_reducible rfl)
        try simp only [Act.put, List.setIfInBounds_toArray, List.set_cons_zero, List.set_cons_succ]
        refine' wpAnyH_take (i := 5) (oi := _) (v := undef) ?hiA6 (by kernel_rfl) (by kernel_rfl) (by kernel_rfl) ?hQA6 ?hyA6 (by assumption) ?restA6
        case' hiA6 => (first | (simp only [List.getElem?_toArray, List.getElem?_cons_succ, List.getElem?_cons_zero]; done) | (simp only [List.getElem?_toArray, List.getElem?_cons_succ, List.getElem?_cons_zero]; rfl))
        case' hQA6 => exact fun _ _ _ h => h
        case' hyA6 => exact Or.inr ⟨by rfl, rfl⟩
        try simp only [Act.put, List.setIfInBounds_toArray, List.set_cons_zero, List.set_cons_succ]
        refine' wpAnyH_take (i := 6) (oi := _) (v := undef) ?hiA7 (by kernel_rfl) (by kernel_rfl) (by kernel_rfl) ?hQA7 ?hyA7 (by assumption) ?restA7
        case' hiA7 => (first | (simp only [List.getElem?_toArray, List.getElem?_cons_succ, List.getElem?_cons_zero]; done) | (simp only [List.getElem?_toArray, List.getElem?_cons_succ, List.getElem?_cons_zero]; rfl))
        case' hQA7 => exact fun _ _ _ h => h
        case' hyA7 => exact Or.inr ⟨by rfl, rfl⟩
        try simp only [Act.put, List.setIfInBounds_toArray, List.set_cons_zero, List.set_cons_succ]
        refine' wpAnyH_take (i := 7) (oi := _) (v := undef) ?hiA8 (by kernel_rfl) (by kernel_rfl) (by kernel_rfl) ?hQA8 ?hyA8 (by assumption) ?restA8
        case' hiA8 => (first | (simp only [List.getElem?_toArray, List.getElem?_cons_succ, List.getElem?_cons_zero]; done) | (simp only [List.getElem?_toArray, List.getElem?_cons_succ, List.getElem?_cons_zero]; rfl))
        case' hQA8 => exact fun _ _ _ h => h
        case' hyA8 => exact Or.inr ⟨by rfl, rfl⟩
        try simp only [Act.put, List.setIfInBounds_toArray, List.set_cons_zero, List.set_cons_succ]
        refine' wpAnyH_take (i := 8) (oi := _) (v := undef) ?hiA9 (by kernel_rfl) (by kernel_rfl) (by kernel_rfl) ?hQA9 ?hyA9 (by assumption) ?restA9
        case' hiA9 => (first | (simp only [List.getElem?_toArray, List.getElem?_cons_succ, List.getElem?_cons_zero]; done) | (simp only [List.getElem?_toArray, List.getElem?_cons_succ, List.getElem?_cons_zero]; rfl))
        case' hQA9 => exact fun _ _ _ h => h
        case' hyA9 => exact Or.inr ⟨by rfl, rfl⟩
        try simp only [Act.put, List.setIfInBounds_toArray, List.set_cons_zero, List.set_cons_succ]
        refine' wpAnyH_take (i := 9) (oi := _) (v := undef) ?hiA10 (by kernel_rfl) (by kernel_rfl) (by kernel_rfl) ?hQA10 ?hyA10 (by assumption) ?restA10
        case' hiA10 => (first | (simp only [List.getElem?_toArray, List.getElem?_cons_succ, List.getElem?_cons_zero]; done) | (simp only [List.getElem?_toArray, List.getElem?_cons_succ, List.getElem?_cons_zero]; rfl))
        case' hQA10 => exact fun _ _ _ h => h
        case' hyA10 => exact Or.inr ⟨by rfl, rfl⟩
        try simp only [Act.put, List.setIfInBounds_toArray, List.set_cons_zero, List.set_cons_succ]
        refine' wpAnyH_take (i := 10) (oi := _) (v := undef) ?hiA11 (by kernel_rfl) (by kernel_rfl) (by kernel_rfl) ?hQA11 ?hyA11 (by assumption) ?restA11
        case' hiA11 => (first | (simp only [List.getElem?_toArray, List.getElem?_cons_succ, List.getElem?_cons_zero]; done) | (simp only [List.getElem?_toArray, List.getElem?_cons_succ, List.getElem?_cons_zero]; rfl))
        case' hQA11 => exact fun _ _ _ h => h
        case' hyA11 => exact Or.inr ⟨by rfl, rfl⟩
        try simp only [Act.put, List.setIfInBounds_toArray, List.set_cons_zero, List.set_cons_succ]
        refine' wpAnyH_take (i := 11) (oi := _) (v := undef) ?hiA12 (by kernel_rfl) (by kernel_rfl) (by kernel_rfl) ?hQA12 ?hyA12 (by assumption) ?restA12
        case' hiA12 => (first | (simp only [List.getElem?_toArray, List.getElem?_cons_succ, List.getElem?_cons_zero]; done) | (simp only [List.getElem?_toArray, List.getElem?_cons_succ, List.getElem?_cons_zero]; rfl))
        case' hQA12 => exact fun _ _ _ h => h
        case' hyA12 => exact Or.inr ⟨by rfl, rfl⟩
        try simp only [Act.put, List.setIfInBounds_toArray, List.set_cons_zero, List.set_cons_succ]
        refine' wpAnyH_take (i := 12) (oi := _) (v := undef) ?hiA13 (by kernel_rfl) (by kernel_rfl) (by kernel_rfl) ?hQA13 ?hyA13 (by assumption) ?restA13
        case' hiA13 => (first | (simp only [List.getElem?_toArray, List.getElem?_cons_succ, List.getElem?_cons_zero]; done) | (simp only [List.getElem?_toArray, List.getElem?_cons_succ, List.getElem?_cons_zero]; rfl))
        case' hQA13 => exact fun _ _ _ h => h
        case' hyA13 => exact Or.inr ⟨by rfl, rfl⟩
        try simp only [Act.put, List.setIfInBounds_toArray, List.set_cons_zero, List.set_cons_succ]
        refine' wpAnyH_take (i := 13) (oi := _) (v := _) ?hiA14 (by kernel_rfl) (by kernel_rfl) (by kernel_rfl) ?hQA14 ?hyA14 (by assumption) ?restA14
        case' hiA14 => (first | (simp only [List.getElem?_toArray, List.getElem?_cons_succ, List.getElem?_cons_zero]; done) | (simp only [List.getElem?_toArray, List.getElem?_cons_succ, List.getElem?_cons_zero]; rfl))
        case' hQA14 => exact fun _ _ _ h => h
        case' hyA14 => refine Or.inl ⟨by rfl, ?_⟩
        (intro w hSw; (try dsimp only at hSw); go_simp; try with_reducible rfl)
        try simp only [Act.put, List.setIfInBounds_toArray, List.set_cons_zero, List.set_cons_succ]
        refine' wpAnyH_take (i := 14) (oi := _) (v := _) ?hiA15 (by kernel_rfl) (by kernel_rfl) (by kernel_rfl) ?hQA15 ?hyA15 (by assumption) ?restA15
        case' hiA15 => (first | (simp only [List.getElem?_toArray, List.getElem?_cons_succ, List.getElem?_cons_zero]; done) | (simp only [List.getElem?_toArray, List.getElem?_cons_succ, List.getElem?_cons_zero]; rfl))
        case' hQA15 => exact fun _ _ _ h => h
        case' hyA15 => refine Or.inl ⟨by rfl, ?_⟩
        (intro w hSw; (try dsimp only at hSw); go_simp; try with_reducible rfl)
        try simp only [Act.put, List.setIfInBounds_toArray, List.set_cons_zero, List.set_cons_succ]
        refine' wpAnyH_take (i := 15) (oi := _) (v := _) ?hiA16 (by kernel_rfl) (by kernel_rfl) (by kernel_rfl) ?hQA16 ?hyA16 (by assumption) ?restA16
        case' hiA16 => (first | (simp only [List.getElem?_toArray, List.getElem?_cons_succ, List.getElem?_cons_zero]; done) | (simp only [List.getElem?_toArray, List.getElem?_cons_succ, List.getElem?_cons_zero]; rfl))
        case' hQA16 => exact fun _ _ _ h => h
        case' hyA16 => refine Or.inl ⟨by rfl, ?_⟩
        (intro w hSw; (try dsimp only at hSw); go_simp; try with_reducible rfl)
        try simp only [Act.put, List.setIfInBounds_toArray, List.set_cons_zero, List.set_cons_succ]
        refine' wpAnyH_take (i := 16) (oi := _) (v := _) ?hiA17 (by kernel_rfl) (by kernel_rfl) (by kernel_rfl) ?hQA17 ?hyA17 (by assumption) ?restA17
        case' hiA17 => (first | (simp only [List.getElem?_toArray, List.getElem?_cons_succ, List.getElem?_cons_zero]; done) | (simp only [List.getElem?_toArray, List.getElem?_cons_succ, List.getElem?_cons_zero]; rfl))
        case' hQA17 => exact fun _ _ _ h => h
        case' hyA17 => refine Or.inl ⟨by rfl, ?_⟩
        (intro w hSw; (try dsimp only at hSw); go_simp; try with_reducible rfl)
        try simp only [Act.put, List.setIfInBounds_toArray, List.set_cons_zero, List.set_cons_succ]
        refine' wpAnyH_take (i := 17) (oi := _) (v := _) ?hiA18 (by kernel_rfl) (by kernel_rfl) (by kernel_rfl) ?hQA18 ?hyA18 (by assumption) ?restA18
        case' hiA18 => (first | (simp only [List.getElem?_toArray, List.getElem?_cons_succ, List.getElem?_cons_zero]; done) | (simp only [List.getElem?_toArray, List.getElem?_cons_succ, List.getElem?_cons_zero]; rfl))
        case' hQA18 => exact fun _ _ _ h => h
        case' hyA18 => refine Or.inl ⟨by rfl, ?_⟩
        (intro w hSw; (try dsimp only at hSw); go_simp; try with_reducible rfl)
        try simp only [Act.put, List.setIfInBounds_toArray, List.set_cons_zero, List.set_cons_succ]
        refine' wpAnyH_take (i := 18) (oi := _) (v := _) ?hiA19 (by kernel_rfl) (by kernel_rfl) (by kernel_rfl) ?hQA19 ?hyA19 (by assumption) ?restA19
        case' hiA19 => (first | (simp only [List.getElem?_toArray, List.getElem?_cons_succ, List.getElem?_cons_zero]; done) | (simp only [List.getElem?_toArray, List.getElem?_cons_succ, List.getElem?_cons_zero]; rfl))
        case' hQA19 => exact fun _ _ _ h => h
        case' hyA19 => refine Or.inl ⟨by rfl, ?_⟩
        (intro w hSw; (try dsimp only at hSw); go_simp; try with_reducible rfl)
        try simp only [Act.put, List.setIfInBounds_toArray, List.set_cons_zero, List.set_cons_succ]
        refine' wpAnyH_take (i := 19) (oi := _) (v := _) ?hiA20 (by kernel_rfl) (by kernel_rfl) (by kernel_rfl) ?hQA20 ?hyA20 (by assumption) ?restA20
        case' hiA20 => (first | (simp only [List.getElem?_toArray, List.getElem?_cons_succ, List.getElem?_cons_zero]; done) | (simp only [List.getElem?_toArray, List.getElem?_cons_succ, List.getElem?_cons_zero]; rfl))
        case' hQA20 => exact fun _ _ _ h => h
        case' hyA20 => refine Or.inl ⟨by rfl, ?_⟩
        (intro w hSw; (try dsimp only at hSw); go_simp; try with_reducible rfl)
        try simp only [Act.put, List.setIfInBounds_toArray, List.set_cons_zero, List.set_cons_succ]
        refine' wpAnyH_take (i := 20) (oi := _) (v := _) ?hiA21 (by kernel_rfl) (by kernel_rfl) (by kernel_rfl) ?hQA21 ?hyA21 (by assumption) ?restA21
        case' hiA21 => (first | (simp only [List.getElem?_toArray, List.getElem?_cons_succ, List.getElem?_cons_zero]; done) | (simp only [List.getElem?_toArray, List.getElem?_cons_succ, List.getElem?_cons_zero]; rfl))
        case' hQA21 => exact fun _ _ _ h => h
        case' hyA21 => refine Or.inl ⟨by rfl, ?_⟩
        (intro w hSw; (try dsimp only at hSw); go_simp; try with_reducible rfl)
        try simp only [Act.put, List.setIfInBounds_toArray, List.set_cons_zero, List.set_cons_succ]
        refine' wpAnyH_take (i := 21) (oi := _) (v := _) ?hiA22 (by kernel_rfl) (by kernel_rfl) (by kernel_rfl) ?hQA22 ?hyA22 (by assumption) ?restA22
        case' hiA22 => (first | (simp only [List.getElem?_toArray, List.getElem?_cons_succ, List.getElem?_cons_zero]; done) | (simp only [List.getElem?_toArray, List.getElem?_cons_succ, List.getElem?_cons_zero]; rfl))
        case' hQA22 => exact fun _ _ _ h => h
        case' hyA22 => refine Or.inl ⟨by rfl, ?_⟩
        (intro w hSw; (try dsimp only at hSw); go_simp; try with_reducible rfl)
        try simp only [Act.put, List.setIfInBounds_toArray, List.set_cons_zero, List.set_cons_succ]
        refine' wpAnyH_take (i := 22) (oi := _) (v := _) ?hiA23 (by kernel_rfl) (by kernel_rfl) (by kernel_rfl) ?hQA23 ?hyA23 (by assumption) ?restA23
        case' hiA23 => (first | (simp only [List.getElem?_toArray, List.getElem?_cons_succ, List.getElem?_cons_zero]; done) | (simp only [List.getElem?_toArray, List.getElem?_cons_succ, List.getElem?_cons_zero]; rfl))
        case' hQA23 => exact fun _ _ _ h => h
        case' hyA23 => refine Or.inl ⟨by rfl, ?_⟩
        (intro w hSw; (try dsimp only at hSw); go_simp; try with_reducible rfl)
        try simp only [Act.put, List.setIfInBounds_toArray, List.set_cons_zero, List.set_cons_succ]
        refine' wpAnyH_take (i := 23) (oi := _) (v := _) ?hiA24 (by kernel_rfl) (by kernel_rfl) (by kernel_rfl) ?hQA24 ?hyA24 (by assumption) ?restA24
        case' hiA24 => (first | (simp only [List.getElem?_toArray, List.getElem?_cons_succ, List.getElem?_cons_zero]; done) | (simp only [List.getElem?_toArray, List.getElem?_cons_succ, List.getElem?_cons_zero]; rfl))
        case' hQA24 => exact fun _ _ _ h => h
        case' hyA24 => refine Or.inl ⟨by rfl, ?_⟩
        (intro w hSw; (try dsimp only at hSw); go_simp; try with_reducible rfl)
        try simp only [Act.put, List.setIfInBounds_toArray, List.set_cons_zero, List.set_cons_succ]
        refine' wpAnyH_take (i := 24) (oi := _) (v := _) ?hiA25 (by kernel_rfl) (by kernel_rfl) (by kernel_rfl) ?hQA25 ?hyA25 (by assumption) ?restA25
        case' hiA25 => (first | (simp only [List.getElem?_toArray, List.getElem?_cons_succ, List.getElem?_cons_zero]; done) | (simp only [List.getElem?_toArray, List.getElem?_cons_succ, List.getElem?_cons_zero]; rfl))
        case' hQA25 => exact fun _ _ _ h => h
        case' hyA25 => refine Or.inl ⟨by rfl, ?_⟩
        (intro w hSw; (try dsimp only at hSw); go_simp; try with_reducible rfl)
        try simp only [Act.put, List.setIfInBounds_toArray, List.set_cons_zero, List.set_cons_succ]
        refine' wpAnyH_take (i := 25) (oi := _) (v := _) ?hiA26 (by kernel_rfl) (by kernel_rfl) (by kernel_rfl) ?hQA26 ?hyA26 (by assumption) ?restA26
        case' hiA26 => (first | (simp only [List.getElem?_toArray, List.getElem?_cons_succ, List.getElem?_cons_zero]; done) | (simp only [List.getElem?_toArray, List.getElem?_cons_succ, List.getElem?_cons_zero]; rfl))
        case' hQA26 => exact fun _ _ _ h => h
        case' hyA26 => refine Or.inl ⟨by rfl, ?_⟩
        (intro w hSw; (try dsimp only at hSw); go_simp; try with_reducible rfl)
        try simp only [Act.put, List.setIfInBounds_toArray, List.set_cons_zero, List.set_cons_succ]
        refine' wpAnyH_take (i := 26) (oi := _) (v := _) ?hiA27 (by kernel_rfl) (by kernel_rfl) (by kernel_rfl) ?hQA27 ?hyA27 (by assumption) ?restA27
        case' hiA27 => (first | (simp only [List.getElem?_toArray, List.getElem?_cons_succ, List.getElem?_cons_zero]; done) | (simp only [List.getElem?_toArray, List.getElem?_cons_succ, List.getElem?_cons_zero]; rfl))
        case' hQA27 => exact fun _ _ _ h => h
        case' hyA27 => refine Or.inl ⟨by rfl, ?_⟩
        (intro w hSw; (try dsimp only at hSw); go_simp; try with_reducible rfl)
        try simp only [Act.put, List.setIfInBounds_toArray, List.set_cons_zero, List.set_cons_succ]
        refine' wpAnyH_take (i := 27) (oi := _) (v := _) ?hiA28 (by kernel_rfl) (by kernel_rfl) (by kernel_rfl) ?hQA28 ?hyA28 (by assumption) ?restA28
        case' hiA28 => (first | (simp only [List.getElem?_toArray, List.getElem?_cons_succ, List.getElem?_cons_zero]; done) | (simp only [List.getElem?_toArray, List.getElem?_cons_succ, List.getElem?_cons_zero]; rfl))
        case' hQA28 => exact fun _ _ _ h => h
        case' hyA28 => refine Or.inl ⟨by rfl, ?_⟩
        (intro w hSw; (try dsimp only at hSw); go_simp; try with_reducible rfl)
        try simp only [Act.put, List.setIfInBounds_toArray, List.set_cons_zero, List.set_cons_succ]
        refine' wpAnyH_take (i := 28) (oi := _) (v := _) ?hiA29 (by kernel_rfl) (by kernel_rfl) (by kernel_rfl) ?hQA29 ?hyA29 (by assumption) ?restA29
        case' hiA29 => (first | (simp only [List.getElem?_toArray, List.getElem?_cons_succ, List.getElem?_cons_zero]; done) | (simp only [List.getElem?_toArray, List.getElem?_cons_succ, List.getElem?_cons_zero]; rfl))
        case' hQA29 => exact fun _ _ _ h => h
        case' hyA29 => refine Or.inl ⟨by rfl, ?_⟩
        (intro w hSw; (try dsimp only at hSw); go_simp; try with_reducible rfl)
        try simp only [Act.put, List.setIfInBounds_toArray, List.set_cons_zero, List.set_cons_succ]
        refine' wpAnyH_take (i := 29) (oi := _) (v := _) ?hiA30 (by kernel_rfl) (by kernel_rfl) (by kernel_rfl) ?hQA30 ?hyA30 (by assumption) ?restA30
        case' hiA30 => (first | (simp only [List.getElem?_toArray, List.getElem?_cons_succ, List.getElem?_cons_zero]; done) | (simp only [List.getElem?_toArray, List.getElem?_cons_succ, List.getElem?_cons_zero]; rfl))
        case' hQA30 => exact fun _ _ _ h => h
        case' hyA30 => refine Or.inl ⟨by rfl, ?_⟩
        (intro w hSw; (try dsimp only at hSw); go_simp; try with_reducible rfl)
        try simp only [Act.put, List.setIfInBounds_toArray, List.set_cons_zero, List.set_cons_succ]
        refine' wpAnyH_take (i := 30) (oi := _) (v := _) ?hiA31 (by kernel_rfl) (by kernel_rfl) (by kernel_rfl) ?hQA31 ?hyA31 (by assumption) ?restA31
        case' hiA31 => (first | (simp only [List.getElem?_toArray, List.getElem?_cons_succ, List.getElem?_cons_zero]; done) | (simp only [List.getElem?_toArray, List.getElem?_cons_succ, List.getElem?_cons_zero]; rfl))
        case' hQA31 => exact fun _ _ _ h => h
        case' hyA31 => refine Or.inl ⟨by rfl, ?_⟩
        (intro w hSw; (try dsimp only at hSw); go_simp; try with_reducible rfl)
        try simp only [Act.put, List.setIfInBounds_toArray, List.set_cons_zero, List.set_cons_succ]
        refine' wpAnyH_take (i := 31) (oi := _) (v := _) ?hiA32 (by kernel_rfl) (by kernel_rfl) (by kernel_rfl) ?hQA32 ?hyA32 (by assumption) ?restA32
        case' hiA32 => (first | (simp only [List.getElem?_toArray, List.getElem?_cons_succ, List.getElem?_cons_zero]; done) | (simp only [List.getElem?_toArray, List.getElem?_cons_succ, List.getElem?_cons_zero]; rfl))
        case' hQA32 => exact fun _ _ _ h => h
        case' hyA32 => refine Or.inl ⟨by rfl, ?_⟩
        (intro w hSw; (try dsimp only at hSw); go_simp; try with_reducible rfl)
        try simp only [Act.put, List.setIfInBounds_toArray, List.set_cons_zero, List.set_cons_succ]
        refine' wpAnyH_take (i := 32) (oi := _) (v := _) ?hiA33 (by kernel_rfl) (by kernel_rfl) (by kernel_rfl) ?hQA33 ?hyA33 (by assumption) ?restA33
        case' hiA33 => (first | (simp only [List.getElem?_toArray, List.getElem?_cons_succ, List.getElem?_cons_zero]; done) | (simp only [List.getElem?_toArray, List.getElem?_cons_succ, List.getElem?_cons_zero]; rfl))
        case' hQA33 => exact fun _ _ _ h => h
        case' hyA33 => refine Or.inl ⟨by rfl, ?_⟩
        (intro w hSw; (try dsimp only at hSw); go_simp; try with_reducible rfl)
        try simp only [Act.put, List.setIfInBounds_toArray, List.set_cons_zero, List.set_cons_succ]
        refine' wpAnyH_take (i := 33) (oi := _) (v := _) ?hiA34 (by kernel_rfl) (by kernel_rfl) (by kernel_rfl) ?hQA34 ?hyA34 (by assumption) ?restA34
        case' hiA34 => (first | (simp only [List.getElem?_toArray, List.getElem?_cons_succ, List.getElem?_cons_zero]; done) | (simp only [List.getElem?_toArray, List.getElem?_cons_succ, List.getElem?_cons_zero]; rfl))
        case' hQA34 => exact fun _ _ _ h => h
        case' hyA34 => refine Or.inl ⟨by rfl, ?_⟩
        (intro w hSw; (try dsimp only at hSw); go_simp; try with_reducible rfl)
        try simp only [Act.put, List.setIfInBounds_toArray, List.set_cons_zero, List.set_cons_succ]
        refine' wpAnyH_take (i := 34) (oi := _) (v := _) ?hiA35 (by kernel_rfl) (by kernel_rfl) (by kernel_rfl) ?hQA35 ?hyA35 (by assumption) ?restA35
        case' hiA35 => (first | (simp only [List.getElem?_toArray, List.getElem?_cons_succ, List.getElem?_cons_zero]; done) | (simp only [List.getElem?_toArray, List.getElem?_cons_succ, List.getElem?_cons_zero]; rfl))
        case' hQA35 => exact fun _ _ _ h => h
        case' hyA35 => refine Or.inl ⟨by rfl, ?_⟩
        (intro w hSw; (try dsimp only at hSw); go_simp; try with_reducible rfl)
        try simp only [Act.put, List.setIfInBounds_toArray, List.set_cons_zero, List.set_cons_succ]
        refine' wpAnyH_take (i := 35) (oi := _) (v := _) ?hiA36 (by kernel_rfl) (by kernel_rfl) (by kernel_rfl) ?hQA36 ?hyA36 (by assumption) ?restA36
        case' hiA36 => (first | (simp only [List.getElem?_toArray, List.getElem?_cons_succ, List.getElem?_cons_zero]; done) | (simp only [List.getElem?_toArray, List.getElem?_cons_succ, List.getElem?_cons_zero]; rfl))
        case' hQA36 => exact fun _ _ _ h => h
        case' hyA36 => refine Or.inl ⟨by rfl, ?_⟩
        (intro w hSw; (try dsimp only at hSw); go_simp; try with_reducible rfl)
        try simp only [Act.put, List.setIfInBounds_toArray, List.set_cons_zero, List.set_cons_succ]
        refine' wpAnyH_take (i := 36) (oi := _) (v := _) ?hiA37 (by kernel_rfl) (by kernel_rfl) (by kernel_rfl) ?hQA37 ?hyA37 (by assumption) ?restA37
        case' hiA37 => (first | (simp only [List.getElem?_toArray, List.getElem?_cons_succ, List.getElem?_cons_zero]; done) | (simp only [List.getElem?_toArray, List.getElem?_cons_succ, List.getElem?_cons_zero]; rfl))
        case' hQA37 => exact fun _ _ _ h => h
        case' hyA37 => refine Or.inl ⟨by rfl, ?_⟩
        (intro w hSw; (try dsimp only at hSw); go_simp; try with_reducible rfl)
        try simp only [Act.put, List.setIfInBounds_toArray, List.set_cons_zero, List.set_cons_succ]
        refine' wpAnyH_take (i := 37) (oi := _) (v := _) ?hiA38 (by kernel_rfl) (by kernel_rfl) (by kernel_rfl) ?hQA38 ?hyA38 (by assumption) ?restA38
        case' hiA38 => (first | (simp only [List.getElem?_toArray, List.getElem?_cons_succ, List.getElem?_cons_zero]; done) | (simp only [List.getElem?_toArray, List.getElem?_cons_succ, List.getElem?_cons_zero]; rfl))
        case' hQA38 => exact fun _ _ _ h => h
        case' hyA38 => refine Or.inl ⟨by rfl, ?_⟩
        (intro w hSw; (try dsimp only at hSw); go_simp; try with_reducible rfl)
        try simp only [Act.put, List.setIfInBounds_toArray, List.set_cons_zero, List.set_cons_succ]
        refine' wpAnyH_take (i := 39) (oi := _) (v := _) ?hiA39 (by kernel_rfl) (by kernel_rfl) (by kernel_rfl) ?hQA39 ?hyA39 (by assumption) ?restA39
        case' hiA39 => (first | (simp only [List.getElem?_toArray, List.getElem?_cons_succ, List.getElem?_cons_zero]; done) | (simp only [List.getElem?_toArray, List.getElem?_cons_succ, List.getElem?_cons_zero]; rfl))
        case' hQA39 => exact fun _ _ _ h => h
        case' hyA39 => refine Or.inl ⟨by rfl, ?_⟩
        (intro w hSw; (try dsimp only at hSw); go_simp; try with_reducible rfl)
        try simp only [Act.put, List.setIfInBounds_toArray, List.set_cons_zero, List.set_cons_succ]
        refine' wpAnyH_take (i := 40) (oi := _) (v := _) ?hiA40 (by kernel_rfl) (by kernel_rfl) (by kernel_rfl) ?hQA40 ?hyA40 (by assumption) ?restA40
        case' hiA40 => (first | (simp only [List.getElem?_toArray, List.getElem?_cons_succ, List.getElem?_cons_zero]; done) | (simp only [List.getElem?_toArray, List.getElem?_cons_succ, List.getElem?_cons_zero]; rfl))
        case' hQA40 => exact fun _ _ _ h => h
        case' hyA40 => refine Or.inl ⟨by rfl, ?_⟩
        (intro w hSw; (try dsimp only at hSw); go_simp; try with_reducible rfl)
        try simp only [Act.put, List.setIfInBounds_toArray, List.set_cons_zero, List.set_cons_succ]
        refine' wpAnyH_take (i := 41) (oi := _) (v := _) ?hiA41 (by kernel_rfl) (by kernel_rfl) (by kernel_rfl) ?hQA41 ?hyA41 (by assumption) ?restA41
        case' hiA41 => (first | (simp only [List.getElem?_toArray, List.getElem?_cons_succ, List.getElem?_cons_zero]; done) | (simp only [List.getElem?_toArray, List.getElem?_cons_succ, List.getElem?_cons_zero]; rfl))
        case' hQA41 => exact fun _ _ _ h => h
        case' hyA41 => refine Or.inl ⟨by rfl, ?_⟩
        (intro w hSw; (try dsimp only at hSw); go_simp; try with_reducible rfl)
        try simp only [Act.put, List.setIfInBounds_toArray, List.set_cons_zero, List.set_cons_succ]
        refine' wpAnyH_take (i := 42) (oi := _) (v := _) ?hiA42 (by kernel_rfl) (by kernel_rfl) (by kernel_rfl) ?hQA42 ?hyA42 (by assumption) ?restA42
        case' hiA42 => (first | (simp only [List.getElem?_toArray, List.getElem?_cons_succ, List.getElem?_cons_zero]; done) | (simp only [List.getElem?_toArray, List.getElem?_cons_succ, List.getElem?_cons_zero]; rfl))
        case' hQA42 => exact fun _ _ _ h => h
        case' hyA42 => refine Or.inl ⟨by rfl, ?_⟩
        (intro w hSw; (try dsimp only at hSw); go_simp; try with_reducible rfl)
        try simp only [Act.put, List.setIfInBounds_toArray, List.set_cons_zero, List.set_cons_succ]
        refine' wpAnyH_take (i := 43) (oi := _) (v := _) ?hiA43 (by kernel_rfl) (by kernel_rfl) (by kernel_rfl) ?hQA43 ?hyA43 (by assumption) ?restA43
        case' hiA43 => (first | (simp only [List.getElem?_toArray, List.getElem?_cons_succ, List.getElem?_cons_zero]; done) | (simp only [List.getElem?_toArray, List.getElem?_cons_succ, List.getElem?_cons_zero]; rfl))
        case' hQA43 => exact fun _ _ _ h => h
        case' hyA43 => refine Or.inl ⟨by rfl, ?_⟩
        (intro w hSw; (try dsimp only at hSw); go_simp; try with_reducible rfl)
        try simp only [Act.put, List.setIfInBounds_toArray, List.set_cons_zero, List.set_cons_succ]
        refine' wpAnyH_take (i := 44) (oi := _) (v := _) ?hiA44 (by kernel_rfl) (by kernel_rfl) (by kernel_rfl) ?hQA44 ?hyA44 (by assumption) ?restA44
        case' hiA44 => (first | (simp only [List.getElem?_toArray, List.getElem?_cons_succ, List.getElem?_cons_zero]; done) | (simp only [List.getElem?_toArray, List.getElem?_cons_succ, List.getElem?_cons_zero]; rfl))
        case' hQA44 => exact fun _ _ _ h => h
        case' hyA44 => refine Or.inl ⟨by rfl, ?_⟩
        (intro w hSw; (try dsimp only at hSw); go_simp; try with_reducible rfl)
        try simp only [Act.put, List.setIfInBounds_toArray, List.set_cons_zero, List.set_cons_succ]
        refine wpAnyH_ready (rs := [38]) (by kernel_rfl) (by simp) ?_
        refine' AllReadyH.cons (o := _) ?hiA45 (fun K hK => ?hKA45) AllReadyH.nil
        case' hiA45 => (first | (simp only [List.getElem?_toArray, List.getElem?_cons_succ, List.getElem?_cons_zero]; done) | (simp only [List.getElem?_toArray, List.getElem?_cons_succ, List.getElem?_cons_zero]; rfl))
        go_simp
        (go_at_call 20; refine (TX.out _).mono ?_; rintro e w10 ⟨rfl, u4⟩; (have UU := Lib.hid (Upd.trans (by first | exact UU.out | exact UU.out.drew) u4 (fun _ _ h => h))); (have hcell := LC.out _ (by first | exact u4 | exact (Upd.refl (fun _ => False) _).drew.trans u4 (fun _ _ h => h))); (clear z0 z1 z2 z3 z4 z5 z6); (obtain ⟨z0, z1, z2, z3, z4, z5, z6⟩ := KP.out _ UU.out))
        refine hK.out _ _ ?_ (fun hHeld => ?_)
        · (try dsimp only); go_keep
        clear hK K
        try simp only [Act.put, List.setIfInBounds_toArray, List.set_cons_zero, List.set_cons_succ]
        refine' wpAnyH_take (i := 45) (oi := _) (v := _) ?hiA46 (by kernel_rfl) (by kernel_rfl) (by kernel_rfl) ?hQA46 ?hyA46 (by assumption) ?restA46
        case' hiA46 => (first | (simp only [List.getElem?_toArray, List.getElem?_cons_succ, List.getElem?_cons_zero]; done) | (simp only [List.getElem?_toArray, List.getElem?_cons_succ, List.getElem?_cons_zero]; rfl))
        case' hQA46 => exact fun _ _ _ h => h
        case' hyA46 => refine Or.inl ⟨by rfl, ?_⟩
        (intro w hSw; (try dsimp only at hSw); go_simp; try with_reducible rfl)
        try simp only [Act.put, List.setIfInBounds_toArray, List.set_cons_zero, List.set_cons_succ]
        refine' wpAnyH_take (i := 46) (oi := _) (v := _) ?hiA47 (by kernel_rfl) (by kernel_rfl) (by kernel_rfl) ?hQA47 ?hyA47 (by assumption) ?restA47
        case' hiA47 => (first | (simp only [List.getElem?_toArray, List.getElem?_cons_succ, List.getElem?_cons_zero]; done) | (simp only [List.getElem?_toArray, List.getElem?_cons_succ, List.getElem?_cons_zero]; rfl))
        case' hQA47 => exact fun _ _ _ h => h
        case' hyA47 => refine Or.inl ⟨by rfl, ?_⟩
        (intro w hSw; (try dsimp only at hSw); go_simp; try with_reducible rfl)
        try simp only [Act.put, List.setIfInBounds_toArray, List.set_cons_zero, List.set_cons_succ]
        refine' wpAnyH_take (i := 47) (oi := _) (v := _) ?hiA48 (by kernel_rfl) (by kernel_rfl) (by kernel_rfl) ?hQA48 ?hyA48 (by assumption) ?restA48
        case' hiA48 => (first | (simp only [List.getElem?_toArray, List.getElem?_cons_succ, List.getElem?_cons_zero]; done) | (simp only [List.getElem?_toArray, List.getElem?_cons_succ, List.getElem?_cons_zero]; rfl))
        case' hQA48 => exact fun _ _ _ h => h
        case' hyA48 => refine Or.inl ⟨by rfl, ?_⟩
        (intro w hSw; (try dsimp only at hSw); go_simp; try with_reducible rfl)
        try simp only [Act.put, List.setIfInBounds_toArray, List.set_cons_zero, List.set_cons_succ]
        refine' wpAnyH_take (i := 48) (oi := _) (v := _) ?hiA49 (by kernel_rfl) (by kernel_rfl) (by kernel_rfl) ?hQA49 ?hyA49 (by assumption) ?restA49
        case' hiA49 => (first | (simp only [List.getElem?_toArray, List.getElem?_cons_succ, List.getElem?_cons_zero]; done) | (simp only [List.getElem?_toArray, List.getElem?_cons_succ, List.getElem?_cons_zero]; rfl))
        case' hQA49 => exact fun _ _ _ h => h
        case' hyA49 => refine Or.inl ⟨by rfl, ?_⟩
        (intro w hSw; (try dsimp only at hSw); go_simp; try with_reducible rfl)
        try simp only [Act.put, List.setIfInBounds_toArray, List.set_cons_zero, List.set_cons_succ]
        refine wpAnyH_done (by kernel_rfl) ?_ _
        all_goals
          try go_wp2
          go_ret
          exact ⟨rfl, U0.out.trans UU.out (fun _ _ h => h)⟩
end Go.Proofs.YtcpfkkbegnhofaaDoor
