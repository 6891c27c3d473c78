/- Walk: ModeWords. Printed by genwords.py. -/
import Derived.Test.YtcpfkkbegnhofaaDoorK11
import Derived.Deep.RegionHeld3
set_option linter.unusedVariables false
set_option linter.unusedSimpArgs false
namespace Go.Proofs.YtcpfkkbegnhofaaDoor
open Go.RowKit

set_option maxHeartbeats 8000000 in
set_option maxRecDepth 100000 in
theorem lawMWords (m : MD) (s : Bool) (p : Option Addr) (c : Nat) (w : World) (h : RwT w p c m.ps) (hz : ∀ t ∈ m.ps, t.length ≤ maxLen) (hs : StdU w) :
    Calls Tryd.prog 3 #[mdV m (.slice p m.ps.length c), .bool s] w fun e w' => e = .returned (.bool true) ∧ Upd (fun _ => False) w w' := by
  have hla := h.2
  unfold maxLen at hla
  obtain ⟨n, hn⟩ : ∃ n, n = m.ps.length := ⟨_, rfl⟩
  unfold mdV
  rw [← hn]
  rw [← hn] at hla
  have NA := Lib.hid hn
  have GA := Lib.hid (fun W (u : Upd (fun _ => False) w W) => great_out m p n c hn W (h.keep u) hz)
  have HA := Lib.hid h
  have HS := Lib.hid hs
  have RAw : Hid (∀ W, Upd (fun _ => False) w W → RowOf txtc 1 W (.slice p n c) m.ps) := Lib.hid (fun W u => by rw [NA.out]; exact (HA.out.keep u).1)
  have ZA := Lib.hid hz
  clear h hz hs hn
  have U0 : Hid (Upd (fun _ => False) w (w.alloc (.cells #[.bool m.on, .bool m.bc, .bool m.oi, .bool m.oo, .bool m.nl, .int .i64 m.rd, .slice p n c] 24))) := Lib.hid ((Upd.refl _ _).alloc _)
  have BA0 := Lib.hid (Blk.made w [.bool m.on, .bool m.bc, .bool m.oi, .bool m.oo, .bool m.nl, .int .i64 m.rd, .slice p n c] 24)
  have AL := Lib.hid (alive_any _ (HS.out.keep U0.out))
  go_enter Tryd.func3, Tryd.ntmps3
  go_wp2_with fail
  refine AL.out.mono ?_
  rintro e w1 ⟨rfl, u1⟩
  have U1 := Lib.hid (U0.out.trans u1 (fun _ _ h => h))
  have BA1 := Lib.hid (u1.blk BA0.out id)
  obtain ⟨ya, ga, a0, a1, a2, a3, a4, a5, a6⟩ := mode_facts BA1.out
  have G1 := Lib.hid (GA.out w1 U1.out)
  clear u1 BA0 U0 AL
  go_wp2_with fail
  refine G1.out.mono ?_
  rintro e w2 ⟨g, rfl, hg, u2⟩
  have U2 := Lib.hid (U1.out.trans u2 (fun _ _ h => h))
  cases g with
  | true =>
    clear u2
    go_wp2
    go_ret
    exact ⟨rfl, U2.out⟩
  | false =>
  have SA := Lib.hid (hg rfl)
  have BA2 := Lib.hid (u2.blk BA1.out id)
  obtain ⟨yb, gb, b0, b1, b2, b3, b4, b5, b6⟩ := mode_facts BA2.out
  clear u2 BA1 hg ya ga a0 a1 a2 a3 a4 a5 a6 G1
  cases hra : rightM m with
  | false =>
    have R1 := Lib.hid (right13_out m p n c NA.out false hra w2 (HA.out.keep U2.out) (by have := SA.out.1; omega) ZA.out)
    clear hra
    go_wp2_with fail
    refine R1.out.mono ?_
    rintro e w4 ⟨rfl, u4⟩
    have U4 := Lib.hid (U2.out.trans u4 (fun _ _ h => h))
    clear u4
    go_wp2
    go_ret
    exact ⟨rfl, U4.out⟩
  | true =>
  have R1 := Lib.hid (right13_out m p n c NA.out true hra w2 (HA.out.keep U2.out) (by have := SA.out.1; omega) ZA.out)
  have RA := Lib.hid hra
  have OE : Hid (m.on = false → m = offM) := Lib.hid (fun ho => by unfold rightM at hra; rw [if_pos ho] at hra; exact of_decide_eq_true hra)
  clear hra
  go_wp2_with fail
  refine R1.out.mono ?_
  rintro e w3 ⟨rfl, u3⟩
  have U3 := Lib.hid (U2.out.trans u3 (fun _ _ h => h))
  have BA3 := Lib.hid (u3.blk BA2.out id)
  obtain ⟨ya, ga, a0, a1, a2, a3, a4, a5, a6⟩ := mode_facts BA3.out
  clear u3 BA2 yb gb b0 b1 b2 b3 b4 b5 b6 R1 GA
  cases hon : m.on with
  | false =>
    rw [hon] at a0
    cases s with
    | false =>
      have PO := Lib.hid (parse_out (w3.alloc (.cells #[.string { data := #[79, 78] }, .string { data := #[66, 67, 65, 83, 84] }, .string { data := #[79, 80, 84, 73, 78] }, .string { data := #[79, 80, 84, 79, 85, 84] }, .string { data := #[78, 79, 76, 79, 79, 80] }] 9)) (HS.out.keep (U3.out.trans (((Upd.refl (fun _ => False) w3).alloc _)) (fun _ _ h => h))) [[111, 102, 102]] [.string { data := #[111, 102, 102] }] rfl 1 rfl (by decide) (by decide) _ _ _ _ _ _ _ 0 rfl 0 words_off (w3.heap.size + 1) (by simp))
      have ux : Upd (fun _ => False) w3 (w3.alloc (.cells #[.string { data := #[79, 78] }, .string { data := #[66, 67, 65, 83, 84] }, .string { data := #[79, 80, 84, 73, 78] }, .string { data := #[79, 80, 84, 79, 85, 84] }, .string { data := #[78, 79, 76, 79, 79, 80] }] 9)) := ((Upd.refl (fun _ => False) w3).alloc _)
      have UO : Hid (Upd (fun _ => False) w (w3.alloc (.cells #[.string { data := #[79, 78] }, .string { data := #[66, 67, 65, 83, 84] }, .string { data := #[79, 80, 84, 73, 78] }, .string { data := #[79, 80, 84, 79, 85, 84] }, .string { data := #[78, 79, 76, 79, 79, 80] }] 9))) := Lib.hid (U3.out.trans ux (fun _ _ h => h))
      have BAo := Lib.hid (ux.blk BA3.out id)
      clear ux
      go_wp2_with fail
      refine PO.out.mono ?_
      rintro e w4 ⟨p4, c4, rfl, hc4, t4, u4⟩
      have U4 : Hid (Upd (fun _ => False) w (w4.alloc (.cells #[.bool false, .bool false, .bool false, .bool false, .bool false, .int .i64 0, .slice p4 0 c4] 24))) := Lib.hid ((UO.out.trans u4 (fun _ _ h => h)).alloc _)
      have BA4 := Lib.hid ((u4.blk BAo.out id).alloc (.cells #[.bool false, .bool false, .bool false, .bool false, .bool false, .int .i64 0, .slice p4 0 c4] 24))
      obtain ⟨yb, gb, b0, b1, b2, b3, b4, b5, b6⟩ := mode_facts BA4.out
      rw [hon] at b0
      have R4 : Hid (RowOf txtc 1 (w4.alloc (.cells #[.bool false, .bool false, .bool false, .bool false, .bool false, .int .i64 0, .slice p4 0 c4] 24)) (.slice p4 0 c4) []) := Lib.hid (txts_row (own_keep t4 ((Upd.refl (fun _ => False) w4).alloc _) (fun _ _ h => h)))
      have SM0 := same_out offM m p4 p 0 n c4 c rfl NA.out true (decide_eq_true (OE.out hon).symm) _ R4.out (RAw.out _ U4.out) (by simp [offM])
      rw [hon] at SM0
      have SM := Lib.hid SM0
      clear SM0 t4 u4 PO hon
      go_wp2_with fail
      refine SM.out.mono ?_
      rintro e w5 ⟨rfl, u5⟩
      have U5 := Lib.hid (U4.out.trans u5 (fun _ _ h => h))
      clear u5
      go_wp2
      go_ret
      exact ⟨rfl, U5.out⟩
    | true =>
      have PO := Lib.hid (parse_out ((w3.alloc (.cells #[.string { data := #[79, 78] }, .string { data := #[66, 67, 65, 83, 84] }, .string { data := #[79, 80, 84, 73, 78] }, .string { data := #[79, 80, 84, 79, 85, 84] }, .string { data := #[78, 79, 76, 79, 79, 80] }] 9)).alloc (.cells #[.string { data := #[111, 110] }, .string { data := #[98, 99, 97, 115, 116] }, .string { data := #[111, 112, 116, 105, 110] }, .string { data := #[111, 112, 116, 111, 117, 116] }, .string { data := #[110, 111, 108, 111, 111, 112] }] 9)) (HS.out.keep (U3.out.trans ((((Upd.refl (fun _ => False) w3).alloc _).alloc _)) (fun _ _ h => h))) [[111, 102, 102]] [.string { data := #[111, 102, 102] }] rfl 1 rfl (by decide) (by decide) _ _ _ _ _ _ _ 0 rfl 0 words_off (w3.heap.size + 2) (by simp))
      have ux : Upd (fun _ => False) w3 ((w3.alloc (.cells #[.string { data := #[79, 78] }, .string { data := #[66, 67, 65, 83, 84] }, .string { data := #[79, 80, 84, 73, 78] }, .string { data := #[79, 80, 84, 79, 85, 84] }, .string { data := #[78, 79, 76, 79, 79, 80] }] 9)).alloc (.cells #[.string { data := #[111, 110] }, .string { data := #[98, 99, 97, 115, 116] }, .string { data := #[111, 112, 116, 105, 110] }, .string { data := #[111, 112, 116, 111, 117, 116] }, .string { data := #[110, 111, 108, 111, 111, 112] }] 9)) := (((Upd.refl (fun _ => False) w3).alloc _).alloc _)
      have UO : Hid (Upd (fun _ => False) w ((w3.alloc (.cells #[.string { data := #[79, 78] }, .string { data := #[66, 67, 65, 83, 84] }, .string { data := #[79, 80, 84, 73, 78] }, .string { data := #[79, 80, 84, 79, 85, 84] }, .string { data := #[78, 79, 76, 79, 79, 80] }] 9)).alloc (.cells #[.string { data := #[111, 110] }, .string { data := #[98, 99, 97, 115, 116] }, .string { data := #[111, 112, 116, 105, 110] }, .string { data := #[111, 112, 116, 111, 117, 116] }, .string { data := #[110, 111, 108, 111, 111, 112] }] 9))) := Lib.hid (U3.out.trans ux (fun _ _ h => h))
      have BAo := Lib.hid (ux.blk BA3.out id)
      clear ux
      go_wp2_with fail
      refine PO.out.mono ?_
      rintro e w4 ⟨p4, c4, rfl, hc4, t4, u4⟩
      have U4 : Hid (Upd (fun _ => False) w (w4.alloc (.cells #[.bool false, .bool false, .bool false, .bool false, .bool false, .int .i64 0, .slice p4 0 c4] 24))) := Lib.hid ((UO.out.trans u4 (fun _ _ h => h)).alloc _)
      have BA4 := Lib.hid ((u4.blk BAo.out id).alloc (.cells #[.bool false, .bool false, .bool false, .bool false, .bool false, .int .i64 0, .slice p4 0 c4] 24))
      obtain ⟨yb, gb, b0, b1, b2, b3, b4, b5, b6⟩ := mode_facts BA4.out
      rw [hon] at b0
      have R4 : Hid (RowOf txtc 1 (w4.alloc (.cells #[.bool false, .bool false, .bool false, .bool false, .bool false, .int .i64 0, .slice p4 0 c4] 24)) (.slice p4 0 c4) []) := Lib.hid (txts_row (own_keep t4 ((Upd.refl (fun _ => False) w4).alloc _) (fun _ _ h => h)))
      have SM0 := same_out offM m p4 p 0 n c4 c rfl NA.out true (decide_eq_true (OE.out hon).symm) _ R4.out (RAw.out _ U4.out) (by simp [offM])
      rw [hon] at SM0
      have SM := Lib.hid SM0
      clear SM0 t4 u4 PO hon
      go_wp2_with fail
      refine SM.out.mono ?_
      rintro e w5 ⟨rfl, u5⟩
      have U5 := Lib.hid (U4.out.trans u5 (fun _ _ h => h))
      clear u5
      go_wp2
      go_ret
      exact ⟨rfl, U5.out⟩
  | true =>
    rw [hon] at a0
    have BT := Lib.hid bit_any
    have WM := Lib.hid (words_mode s RA.out hon)
    clear OE
    cases s with
    | false =>
      have ux : Upd (fun _ => False) w3 (w3.alloc (.cells #[.string { data := #[79, 78] }, .string { data := #[66, 67, 65, 83, 84] }, .string { data := #[79, 80, 84, 73, 78] }, .string { data := #[79, 80, 84, 79, 85, 84] }, .string { data := #[78, 79, 76, 79, 79, 80] }] 9)) := ((Upd.refl (fun _ => False) w3).alloc _)
      have uy : Upd (fun _ => False) w3 ((w3.alloc (.cells #[.string { data := #[79, 78] }, .string { data := #[66, 67, 65, 83, 84] }, .string { data := #[79, 80, 84, 73, 78] }, .string { data := #[79, 80, 84, 79, 85, 84] }, .string { data := #[78, 79, 76, 79, 79, 80] }] 9)).alloc (.cells #[.string { data := #[79, 78] }] 9)) := ux.alloc _
      have BA4 : Hid (Blk ((w3.alloc (.cells #[.string { data := #[79, 78] }, .string { data := #[66, 67, 65, 83, 84] }, .string { data := #[79, 80, 84, 73, 78] }, .string { data := #[79, 80, 84, 79, 85, 84] }, .string { data := #[78, 79, 76, 79, 79, 80] }] 9)).alloc (.cells #[.string { data := #[79, 78] }] 9)) w.heap.size [.bool m.on, .bool m.bc, .bool m.oi, .bool m.oo, .bool m.nl, .int .i64 m.rd, .slice p n c] 24) := Lib.hid (uy.blk BA3.out id)
      have U4 : Hid (Upd (fun _ => False) w ((w3.alloc (.cells #[.string { data := #[79, 78] }, .string { data := #[66, 67, 65, 83, 84] }, .string { data := #[79, 80, 84, 73, 78] }, .string { data := #[79, 80, 84, 79, 85, 84] }, .string { data := #[78, 79, 76, 79, 79, 80] }] 9)).alloc (.cells #[.string { data := #[79, 78] }] 9))) := Lib.hid (U3.out.trans uy (fun _ _ h => h))
      have hb := Blk.made (w3.alloc (.cells #[.string { data := #[79, 78] }, .string { data := #[66, 67, 65, 83, 84] }, .string { data := #[79, 80, 84, 73, 78] }, .string { data := #[79, 80, 84, 79, 85, 84] }, .string { data := #[78, 79, 76, 79, 79, 80] }] 9)) [.string (ofL ((lw false).getD 0 []))] 9
      have hsz : (w3.alloc (.cells #[.string { data := #[79, 78] }, .string { data := #[66, 67, 65, 83, 84] }, .string { data := #[79, 80, 84, 73, 78] }, .string { data := #[79, 80, 84, 79, 85, 84] }, .string { data := #[78, 79, 76, 79, 79, 80] }] 9)).heap.size = (w3.heap.size + 1) := by simp
      rw [hsz] at hb
      have TX : Hid (TxtsAt ((w3.alloc (.cells #[.string { data := #[79, 78] }, .string { data := #[66, 67, 65, 83, 84] }, .string { data := #[79, 80, 84, 73, 78] }, .string { data := #[79, 80, 84, 79, 85, 84] }, .string { data := #[78, 79, 76, 79, 79, 80] }] 9)).alloc (.cells #[.string { data := #[79, 78] }] 9)) (w3.heap.size + 1) (.slice (some ⟨(w3.heap.size + 1), 0, none⟩) 1 1) (wf false m 0)) := Lib.hid (own_of (b := (w3.heap.size + 1)) (xs := [.string (ofL ((lw false).getD 0 []))]) (cs := []) (Nat.le_refl _) hb rfl rfl (by unfold maxLen; omega))
      have BL : Hid (Blk ((w3.alloc (.cells #[.string { data := #[79, 78] }, .string { data := #[66, 67, 65, 83, 84] }, .string { data := #[79, 80, 84, 73, 78] }, .string { data := #[79, 80, 84, 79, 85, 84] }, .string { data := #[78, 79, 76, 79, 79, 80] }] 9)).alloc (.cells #[.string { data := #[79, 78] }] 9)) w3.heap.size [.string (ofL ((lw false).getD 0 [])), .string (ofL ((lw false).getD 1 [])), .string (ofL ((lw false).getD 2 [])), .string (ofL ((lw false).getD 3 [])), .string (ofL ((lw false).getD 4 []))] 9) := Lib.hid (((Blk.made w3 _ _).alloc _))
      have hlt3 := BA3.out.lt
      have BHS : Hid (w.heap.size < (w3.heap.size + 1)) := Lib.hid (by have := BA3.out.lt; omega)
      clear ux uy hb hsz
      go_wp2
      generalize ((w3.alloc (.cells #[.string { data := #[79, 78] }, .string { data := #[66, 67, 65, 83, 84] }, .string { data := #[79, 80, 84, 73, 78] }, .string { data := #[79, 80, 84, 79, 85, 84] }, .string { data := #[78, 79, 76, 79, 79, 80] }] 9)).alloc (.cells #[.string { data := #[79, 78] }] 9)) = X at *
      obtain ⟨yb, gb, b0, b1, b2, b3, b4, b5, b6⟩ := mode_facts BA4.out
      go_region_held3 (fun w' => w'.cell? ⟨w.heap.size, 1, none⟩ = some (.bool m.bc) ∧ w'.cell? ⟨w.heap.size, 2, none⟩ = some (.bool m.oi) ∧ w'.cell? ⟨w.heap.size, 3, none⟩ = some (.bool m.oo) ∧ w'.cell? ⟨w.heap.size, 4, none⟩ = some (.bool m.nl)) (go_keep) (first | (go_at_call 14; refine (BT.out _ _).mono ?_; rintro e w4 ⟨rfl, rfl⟩))
      have UI : Upd (fun _ => False) X ((X.alloc (.cells #[.int .i64 (bitI m.bc), .int .i64 (bitI m.oi), .int .i64 (bitI m.oo), .int .i64 (bitI m.nl)] 3))).drew := ((Upd.refl _ _).alloc _).drew
      have BI := Lib.hid (Blk.made X [.int .i64 (bitI m.bc), .int .i64 (bitI m.oi), .int .i64 (bitI m.oo), .int .i64 (bitI m.nl)] 3)
      have TX1 := Lib.hid (own_keep TX.out UI (fun _ _ h => h))
      have U5 := Lib.hid (U4.out.trans UI (fun _ _ h => h))
      have BA5 := Lib.hid (UI.blk BA4.out id)
      have BL5 := Lib.hid (UI.blk BL.out id)
      have BI5 := Lib.hid ((((Upd.refl (fun _ => False) _).drew).blk BI.out id))
      clear UI
      go_wp2
      go_loopw [8, 59] (fun v8 v59 wx => ∃ (k n' : Nat) (p' : Option Addr) (c' : Nat), v59 = .int .i64 (k : Int) ∧ k ≤ 4 ∧ v8 = .slice p' n' c' ∧ n' ≤ k + 1 ∧ c' ≤ 9223372036854775807 ∧ Hid (n' = (wf false m k).length) ∧ Hid (TxtsAt wx (w3.heap.size + 1) (.slice p' n' c') (wf false m k)) ∧ Hid (Upd (fun _ => False) w wx) ∧ Hid (Blk wx w.heap.size [.bool m.on, .bool m.bc, .bool m.oi, .bool m.oo, .bool m.nl, .int .i64 m.rd, .slice p n c] 24) ∧ Hid (Blk wx w3.heap.size [.string (ofL ((lw false).getD 0 [])), .string (ofL ((lw false).getD 1 [])), .string (ofL ((lw false).getD 2 [])), .string (ofL ((lw false).getD 3 [])), .string (ofL ((lw false).getD 4 []))] 9) ∧ Hid (Blk wx X.heap.size [.int .i64 (bitI m.bc), .int .i64 (bitI m.oi), .int .i64 (bitI m.oo), .int .i64 (bitI m.nl)] 3)) (fun _ v59 _ => 4 - (intOf v59).toNat)
      case atStart => exact ⟨0, 1, _, 1, rfl, by omega, rfl, by omega, by omega, Lib.hid rfl, TX1, U5, BA5, BL5, BI5⟩
      case round =>
        obtain ⟨k, n', p', c', rfl, hk, rfl, hn', hc', HN, TY, UY, BY, LY, IY⟩ := hrel
        clear TX1 U5 BA5 BL5 BI5 BI TX U4 BA4 BL yb gb b0 b1 b2 b3 b4 b5 b6 ya ga a0 a1 a2 a3 a4 a5 a6
        by_cases hk4 : k < 4
        · have q1 : (k : Int) < 4 := by omega
          have ic : wr.cell? ⟨X.heap.size, k, none⟩ = some (.int .i64 (bitI (wIs m k))) := by
            have : k = 0 ∨ k = 1 ∨ k = 2 ∨ k = 3 := by omega
            rcases this with rfl | rfl | rfl | rfl <;> exact IY.out.cellAt rfl
          have il := IY.out.lt
          cases hb : wIs m k with
          | false =>
            rw [hb] at ic
            have ic : wr.cell? ⟨X.heap.size, k, none⟩ = some (.int .i64 0) := ic
            have FK : Hid (wf false m (k + 1) = wf false m k) := Lib.hid (by rw [wf, hb]; simp)
            clear hb
            go_wp2
            go_roundw
            case rel => exact ⟨k + 1, n', p', c', by go_num, by omega, rfl, by omega, hc', Lib.hid (by rw [FK.out]; exact HN.out), Lib.hid (by rw [FK.out]; exact TY.out), UY, BY, LY, IY⟩
            case measure => simp [intOf]; omega
          | true =>
            rw [hb] at ic
            have ic : wr.cell? ⟨X.heap.size, k, none⟩ = some (.int .i64 1) := ic
            obtain ⟨wd, hwd⟩ : ∃ wd, wd = (lw false).getD (k + 1) [] := ⟨_, rfl⟩
            have lc : wr.cell? ⟨w3.heap.size, k + 1, none⟩ = some (.string (ofL wd)) := by
              have : k = 0 ∨ k = 1 ∨ k = 2 ∨ k = 3 := by omega
              rcases this with rfl | rfl | rfl | rfl <;> (rw [hwd]; exact LY.out.cellAt rfl)
            have ll := LY.out.lt
            have FK : Hid (wf false m (k + 1) = wf false m k ++ [wd]) := Lib.hid (by rw [wf, hb, hwd]; simp)
            have TX1 := TY.out
            rw [HN.out] at TX1
            obtain ⟨p4, c4, w4, hr4, i4, u4⟩ := txts_app1 wr (w3.heap.size + 1) _ (wf false m k) wd TX1 (by have := wf_len false m k; omega) (by have := IY.out.lt; have := LY.out.lt; omega)
            rw [← HN.out] at hr4 i4 u4
            have hc4 := own_capT i4
            have I4 := Lib.hid i4
            have hne : ∀ i, i < (w3.heap.size + 1) → ¬ Value.ownBlock (.slice p' n' c') = some i := fun i hi e => by have := (own_lt TY.out e).2.1; omega
            have U4 : Hid (Upd (fun _ => False) w w4) := Lib.hid (UY.out.trans u4 (fun i hi e => hne i (by omega) e))
            have BY4 : Hid (Blk w4 w.heap.size [.bool m.on, .bool m.bc, .bool m.oi, .bool m.oo, .bool m.nl, .int .i64 m.rd, .slice p n c] 24) := Lib.hid (u4.blk BY.out (fun e => hne _ (by omega) e))
            have LY4 := Lib.hid (u4.blk LY.out (fun e => hne _ (by omega) e))
            have IY4 := Lib.hid (u4.blk IY.out (fun e => txts_ne TY.out e IY.out (by decide) rfl))
            clear hb hwd TX1 i4 u4 hne
            go_wp2_with (at_builtin; refine wpList_builtin rfl _ _ 22 rfl _ _ rfl rfl hr4 ?_)
            go_roundw
            case rel => exact ⟨k + 1, n' + 1, p4, c4, by go_num, by omega, rfl, by omega, hc4, Lib.hid (by rw [FK.out, List.length_append, HN.out]; rfl), Lib.hid (by rw [FK.out]; exact I4.out), U4, BY4, LY4, IY4⟩
            case measure => simp [intOf]; omega
        · have q1 : ¬ (k : Int) < 4 := by omega
          have K4 : Hid (k = 4) := Lib.hid (by omega)
          have T4 : Hid (TxtsAt wr (w3.heap.size + 1) (.slice p' n' c') (wf false m 4 ++ pw (m.ps.drop n).reverse)) := Lib.hid (by rw [NA.out, List.drop_length]; have := TY.out; rw [K4.out] at this; simpa [pw] using this)
          have N4 : Hid (n' = (wf false m 4 ++ pw (m.ps.drop n).reverse).length) := Lib.hid (by rw [NA.out, List.drop_length]; have := HN.out; rw [K4.out] at this; simpa [pw] using this)
          have hn32 : n ≤ 32 := by rw [NA.out]; exact (right_small RA.out).1
          have hn5 : n' ≤ 5 + 2 * n := by omega
          obtain ⟨yb, gb, b0, b1, b2, b3, b4, b5, b6⟩ := mode_facts BY.out
          obtain ⟨wo, hwo⟩ : ∃ wo, wo = wr := ⟨_, rfl⟩
          subst hwo
          have BS : Hid ((w3.heap.size + 1) ≤ wo.heap.size) := Lib.hid (by have := LY.out.lt; omega)
          clear TY HN LY IY BT hk hn'
          go_wp2
          go_loopw [8, 11] (fun v8 v11 wx => ∃ (j n' : Nat) (p' : Option Addr) (c' : Nat) (x : Int), v11 = .int .i64 x ∧ x = (j : Int) - 1 ∧ j ≤ n ∧ v8 = .slice p' n' c' ∧ n' ≤ 5 + 2 * n ∧ c' ≤ 9223372036854775807 ∧ Hid (n' = (wf false m 4 ++ pw (m.ps.drop j).reverse).length) ∧ Hid (TxtsAt wx (w3.heap.size + 1) (.slice p' n' c') (wf false m 4 ++ pw (m.ps.drop j).reverse)) ∧ Hid (Upd (fun _ => False) w wx) ∧ Hid (Blk wx w.heap.size [.bool m.on, .bool m.bc, .bool m.oi, .bool m.oo, .bool m.nl, .int .i64 m.rd, .slice p n c] 24) ∧ Hid ((w3.heap.size + 1) ≤ wx.heap.size)) (fun _ v11 _ => (intOf v11 + 1).toNat)
          case atStart => exact ⟨n, n', p', c', (n : Int) - 1, rfl, rfl, Nat.le_refl _, rfl, hn5, hc', N4, T4, UY, BY, BS⟩
          case round =>
            clear T4 N4 K4 q1 hn5 hc' UY BY BS yb gb b0 b1 b2 b3 b4 b5 b6 hk4
            obtain ⟨j, n'', p'', c'', x, rfl, hx, hj, rfl, hn', hc', HN, TY, UY, BY, BS⟩ := hrel
            obtain ⟨yb, gb, b0, b1, b2, b3, b4, b5, b6⟩ := mode_facts BY.out
            by_cases hj0 : 0 < j
            · obtain ⟨k, rfl⟩ : ∃ k, j = k + 1 := ⟨j - 1, by omega⟩
              obtain rfl : x = (k : Int) := by omega
              clear hx hj0
              have hkn : k < n := by omega
              obtain ⟨wd, hwd⟩ : ∃ wd, m.ps[k]? = some wd := ⟨_, List.getElem?_eq_getElem (by rw [← NA.out]; exact hkn)⟩
              obtain ⟨wb, off, hp, hwb, c9⟩ := txt_rcell (by have := RAw.out wr UY.out; rw [NA.out] at this; exact this) (k := k) (by rw [← NA.out]; exact hkn)
              subst hp
              have c0 : wr.cell? ⟨wb, off + k, none⟩ = some (.string (ofL wd)) := by
                rw [c9]
                rw [List.getElem?_eq_getElem (by rw [← NA.out]; exact hkn)] at hwd
                simp only [Option.some.injEq] at hwd
                rw [hwd]
              clear c9
              have FK : Hid (wf false m 4 ++ pw (m.ps.drop k).reverse = (wf false m 4 ++ pw (m.ps.drop (k + 1)).reverse) ++ [wPre, wd]) := Lib.hid (by rw [rev_drop m.ps (by rw [← NA.out]; exact hkn) hwd, pw_snoc, List.append_assoc])
              have TX1 := TY.out
              rw [HN.out] at TX1
              obtain ⟨p4, c4, w4, hr4, i4, u4⟩ := txts_app2 wr (w3.heap.size + 1) _ (wf false m 4 ++ pw (m.ps.drop (k + 1)).reverse) wPre wd TX1 (by rw [← HN.out]; omega) BS.out
              rw [← HN.out] at hr4 i4 u4
              replace hr4 : (Builtin.append_ #[22, 22] 22 #[.slice p'' n'' c'', .slice (some ⟨wr.heap.size, 0, none⟩) 2 2]).run Tryd.prog (wr.alloc (.cells #[.string { data := #[80, 114, 101, 102, 105, 120] }, .string (ofL wd)] 9)) = .ok (.slice p4 (n'' + 2) c4) w4 := hr4
              have hc4 := own_capT i4
              have I4 := Lib.hid i4
              have hne : ∀ i, i < (w3.heap.size + 1) → ¬ Value.ownBlock (.slice p'' n'' c'') = some i := fun i hi e => by have := (own_lt TY.out e).2.1; omega
              have U4 : Hid (Upd (fun _ => False) w w4) := Lib.hid (UY.out.trans u4 (fun i hi e => hne i (by have := BHS.out; omega) e))
              have BY4 := Lib.hid (u4.blk BY.out (fun e => hne _ (by have := BHS.out; omega) e))
              have BS4 : Hid ((w3.heap.size + 1) ≤ w4.heap.size) := Lib.hid (Nat.le_trans BS.out u4.size)
              have hnk : n'' + 2 ≤ 5 + 2 * n := by
                have e1 := HN.out
                have e2 := wfp_len false m (m.ps.drop (k + 1)).reverse
                rw [List.length_reverse, List.length_drop, ← NA.out] at e2
                omega
              clear hwd TX1 i4 u4 hne
              go_wp2_with (at_builtin; refine wpList_builtin rfl _ _ 22 rfl _ _ rfl rfl hr4 ?_)
              go_roundw
              case rel => exact ⟨k, n'' + 2, p4, c4, (k : Int) - 1, rfl, rfl, by omega, rfl, hnk, hc4, Lib.hid (by rw [FK.out, List.length_append, HN.out]; rfl), Lib.hid (by rw [FK.out]; exact I4.out), U4, BY4, BS4⟩
              case measure => simp [intOf]
            · obtain rfl : x = -1 := by omega
              have J0 : Hid (j = 0) := Lib.hid (by omega)
              clear hx hj hj0
              have q2 : ¬ (0 : Int) ≤ -1 := by omega
              have TW : TxtsAt wr (w3.heap.size + 1) (.slice p'' n'' c'') (wf false m 4 ++ pw m.ps.reverse) := by have := TY.out; rw [J0.out] at this; exact this
              have NW : n'' = (wf false m 4 ++ pw m.ps.reverse).length := by have := HN.out; rw [J0.out] at this; exact this
              have PW := Lib.hid (parse_words wr (w3.heap.size + 1) p'' n'' c'' _ TW NW (HS.out.keep UY.out) (by rw [← NW]; omega) (wfp_small false (right_small RA.out).2) m.on m.bc m.oi m.oo m.nl 0 m.ps n NA.out 0 WM.out)
              clear TW NW TY HN hn'
              go_wp2_with fail
              refine PW.out.mono ?_
              rintro e w5 ⟨p5, c5, rfl, hc5, t5, u5⟩
              have U5 := Lib.hid (UY.out.trans u5 (fun _ _ h => h))
              have B5 := Lib.hid (u5.blk BY.out id)
              have T5 := Lib.hid t5
              clear u5 t5 PW yb gb b0 b1 b2 b3 b4 b5 b6
              obtain ⟨o5, ho5⟩ : ∃ o5, o5 = Obj.cells #[.bool m.on, .bool m.bc, .bool m.oi, .bool m.oo, .bool m.nl, .int .i64 m.rd, .slice p5 n c5] 24 := ⟨_, rfl⟩
              have u6 : Upd (fun _ => False) w5 (w5.alloc o5) := (Upd.refl (fun _ => False) w5).alloc o5
              have R6 := (txts_row T5.out).keep u6 (fun _ _ _ => id)
              have U6 := Lib.hid (U5.out.trans u6 (fun _ _ h => h))
              have SM0 := same_out m m p5 p n n c5 c NA.out NA.out true (by simp) _ R6 (RAw.out _ U6.out) (by have := (right_small RA.out).1; omega)
              rw [ho5] at SM0 U6
              rw [hon] at SM0 U6
              have SM := Lib.hid SM0
              have U6 := Lib.hid U6.out
              obtain ⟨yb, gb, b0, b1, b2, b3, b4, b5, b6⟩ := mode_facts B5.out
              clear SM0 u6 R6 ho5 o5
              go_wp2_with fail
              refine SM.out.mono ?_
              rintro e w7 ⟨rfl, u7⟩
              have U7 := Lib.hid (U6.out.trans u7 (fun _ _ h => h))
              clear u7
              go_wp2
              go_ret
              exact ⟨rfl, U7.out⟩
    | true =>
      have ux : Upd (fun _ => False) w3 ((w3.alloc (.cells #[.string { data := #[79, 78] }, .string { data := #[66, 67, 65, 83, 84] }, .string { data := #[79, 80, 84, 73, 78] }, .string { data := #[79, 80, 84, 79, 85, 84] }, .string { data := #[78, 79, 76, 79, 79, 80] }] 9)).alloc (.cells #[.string { data := #[111, 110] }, .string { data := #[98, 99, 97, 115, 116] }, .string { data := #[111, 112, 116, 105, 110] }, .string { data := #[111, 112, 116, 111, 117, 116] }, .string { data := #[110, 111, 108, 111, 111, 112] }] 9)) := (((Upd.refl (fun _ => False) w3).alloc _).alloc _)
      have uy : Upd (fun _ => False) w3 (((w3.alloc (.cells #[.string { data := #[79, 78] }, .string { data := #[66, 67, 65, 83, 84] }, .string { data := #[79, 80, 84, 73, 78] }, .string { data := #[79, 80, 84, 79, 85, 84] }, .string { data := #[78, 79, 76, 79, 79, 80] }] 9)).alloc (.cells #[.string { data := #[111, 110] }, .string { data := #[98, 99, 97, 115, 116] }, .string { data := #[111, 112, 116, 105, 110] }, .string { data := #[111, 112, 116, 111, 117, 116] }, .string { data := #[110, 111, 108, 111, 111, 112] }] 9)).alloc (.cells #[.string { data := #[111, 110] }] 9)) := ux.alloc _
      have BA4 : Hid (Blk (((w3.alloc (.cells #[.string { data := #[79, 78] }, .string { data := #[66, 67, 65, 83, 84] }, .string { data := #[79, 80, 84, 73, 78] }, .string { data := #[79, 80, 84, 79, 85, 84] }, .string { data := #[78, 79, 76, 79, 79, 80] }] 9)).alloc (.cells #[.string { data := #[111, 110] }, .string { data := #[98, 99, 97, 115, 116] }, .string { data := #[111, 112, 116, 105, 110] }, .string { data := #[111, 112, 116, 111, 117, 116] }, .string { data := #[110, 111, 108, 111, 111, 112] }] 9)).alloc (.cells #[.string { data := #[111, 110] }] 9)) w.heap.size [.bool m.on, .bool m.bc, .bool m.oi, .bool m.oo, .bool m.nl, .int .i64 m.rd, .slice p n c] 24) := Lib.hid (uy.blk BA3.out id)
      have U4 : Hid (Upd (fun _ => False) w (((w3.alloc (.cells #[.string { data := #[79, 78] }, .string { data := #[66, 67, 65, 83, 84] }, .string { data := #[79, 80, 84, 73, 78] }, .string { data := #[79, 80, 84, 79, 85, 84] }, .string { data := #[78, 79, 76, 79, 79, 80] }] 9)).alloc (.cells #[.string { data := #[111, 110] }, .string { data := #[98, 99, 97, 115, 116] }, .string { data := #[111, 112, 116, 105, 110] }, .string { data := #[111, 112, 116, 111, 117, 116] }, .string { data := #[110, 111, 108, 111, 111, 112] }] 9)).alloc (.cells #[.string { data := #[111, 110] }] 9))) := Lib.hid (U3.out.trans uy (fun _ _ h => h))
      have hb := Blk.made ((w3.alloc (.cells #[.string { data := #[79, 78] }, .string { data := #[66, 67, 65, 83, 84] }, .string { data := #[79, 80, 84, 73, 78] }, .string { data := #[79, 80, 84, 79, 85, 84] }, .string { data := #[78, 79, 76, 79, 79, 80] }] 9)).alloc (.cells #[.string { data := #[111, 110] }, .string { data := #[98, 99, 97, 115, 116] }, .string { data := #[111, 112, 116, 105, 110] }, .string { data := #[111, 112, 116, 111, 117, 116] }, .string { data := #[110, 111, 108, 111, 111, 112] }] 9)) [.string (ofL ((lw true).getD 0 []))] 9
      have hsz : ((w3.alloc (.cells #[.string { data := #[79, 78] }, .string { data := #[66, 67, 65, 83, 84] }, .string { data := #[79, 80, 84, 73, 78] }, .string { data := #[79, 80, 84, 79, 85, 84] }, .string { data := #[78, 79, 76, 79, 79, 80] }] 9)).alloc (.cells #[.string { data := #[111, 110] }, .string { data := #[98, 99, 97, 115, 116] }, .string { data := #[111, 112, 116, 105, 110] }, .string { data := #[111, 112, 116, 111, 117, 116] }, .string { data := #[110, 111, 108, 111, 111, 112] }] 9)).heap.size = (w3.heap.size + 2) := by simp
      rw [hsz] at hb
      have TX : Hid (TxtsAt (((w3.alloc (.cells #[.string { data := #[79, 78] }, .string { data := #[66, 67, 65, 83, 84] }, .string { data := #[79, 80, 84, 73, 78] }, .string { data := #[79, 80, 84, 79, 85, 84] }, .string { data := #[78, 79, 76, 79, 79, 80] }] 9)).alloc (.cells #[.string { data := #[111, 110] }, .string { data := #[98, 99, 97, 115, 116] }, .string { data := #[111, 112, 116, 105, 110] }, .string { data := #[111, 112, 116, 111, 117, 116] }, .string { data := #[110, 111, 108, 111, 111, 112] }] 9)).alloc (.cells #[.string { data := #[111, 110] }] 9)) (w3.heap.size + 2) (.slice (some ⟨(w3.heap.size + 2), 0, none⟩) 1 1) (wf true m 0)) := Lib.hid (own_of (b := (w3.heap.size + 2)) (xs := [.string (ofL ((lw true).getD 0 []))]) (cs := []) (Nat.le_refl _) hb rfl rfl (by unfold maxLen; omega))
      have BL : Hid (Blk (((w3.alloc (.cells #[.string { data := #[79, 78] }, .string { data := #[66, 67, 65, 83, 84] }, .string { data := #[79, 80, 84, 73, 78] }, .string { data := #[79, 80, 84, 79, 85, 84] }, .string { data := #[78, 79, 76, 79, 79, 80] }] 9)).alloc (.cells #[.string { data := #[111, 110] }, .string { data := #[98, 99, 97, 115, 116] }, .string { data := #[111, 112, 116, 105, 110] }, .string { data := #[111, 112, 116, 111, 117, 116] }, .string { data := #[110, 111, 108, 111, 111, 112] }] 9)).alloc (.cells #[.string { data := #[111, 110] }] 9)) (w3.heap.size + 1) [.string (ofL ((lw true).getD 0 [])), .string (ofL ((lw true).getD 1 [])), .string (ofL ((lw true).getD 2 [])), .string (ofL ((lw true).getD 3 [])), .string (ofL ((lw true).getD 4 []))] 9) := Lib.hid ((by have hm := (Blk.made (w3.alloc (.cells #[.string { data := #[79, 78] }, .string { data := #[66, 67, 65, 83, 84] }, .string { data := #[79, 80, 84, 73, 78] }, .string { data := #[79, 80, 84, 79, 85, 84] }, .string { data := #[78, 79, 76, 79, 79, 80] }] 9)) [.string { data := #[111, 110] }, .string { data := #[98, 99, 97, 115, 116] }, .string { data := #[111, 112, 116, 105, 110] }, .string { data := #[111, 112, 116, 111, 117, 116] }, .string { data := #[110, 111, 108, 111, 111, 112] }] 9).alloc (.cells #[.string { data := #[111, 110] }] 9); have hz : (w3.alloc (.cells #[.string { data := #[79, 78] }, .string { data := #[66, 67, 65, 83, 84] }, .string { data := #[79, 80, 84, 73, 78] }, .string { data := #[79, 80, 84, 79, 85, 84] }, .string { data := #[78, 79, 76, 79, 79, 80] }] 9)).heap.size = w3.heap.size + 1 := (by simp); rw [hz] at hm; exact hm))
      have hlt3 := BA3.out.lt
      have BHS : Hid (w.heap.size < (w3.heap.size + 2)) := Lib.hid (by have := BA3.out.lt; omega)
      clear ux uy hb hsz
      go_wp2
      generalize (((w3.alloc (.cells #[.string { data := #[79, 78] }, .string { data := #[66, 67, 65, 83, 84] }, .string { data := #[79, 80, 84, 73, 78] }, .string { data := #[79, 80, 84, 79, 85, 84] }, .string { data := #[78, 79, 76, 79, 79, 80] }] 9)).alloc (.cells #[.string { data := #[111, 110] }, .string { data := #[98, 99, 97, 115, 116] }, .string { data := #[111, 112, 116, 105, 110] }, .string { data := #[111, 112, 116, 111, 117, 116] }, .string { data := #[110, 111, 108, 111, 111, 112] }] 9)).alloc (.cells #[.string { data := #[111, 110] }] 9)) = X at *
      obtain ⟨yb, gb, b0, b1, b2, b3, b4, b5, b6⟩ := mode_facts BA4.out
      go_region_held3 (fun w' => w'.cell? ⟨w.heap.size, 1, none⟩ = some (.bool m.bc) ∧ w'.cell? ⟨w.heap.size, 2, none⟩ = some (.bool m.oi) ∧ w'.cell? ⟨w.heap.size, 3, none⟩ = some (.bool m.oo) ∧ w'.cell? ⟨w.heap.size, 4, none⟩ = some (.bool m.nl)) (go_keep) (first | (go_at_call 14; refine (BT.out _ _).mono ?_; rintro e w4 ⟨rfl, rfl⟩))
      have UI : Upd (fun _ => False) X ((X.alloc (.cells #[.int .i64 (bitI m.bc), .int .i64 (bitI m.oi), .int .i64 (bitI m.oo), .int .i64 (bitI m.nl)] 3))).drew := ((Upd.refl _ _).alloc _).drew
      have BI := Lib.hid (Blk.made X [.int .i64 (bitI m.bc), .int .i64 (bitI m.oi), .int .i64 (bitI m.oo), .int .i64 (bitI m.nl)] 3)
      have TX1 := Lib.hid (own_keep TX.out UI (fun _ _ h => h))
      have U5 := Lib.hid (U4.out.trans UI (fun _ _ h => h))
      have BA5 := Lib.hid (UI.blk BA4.out id)
      have BL5 := Lib.hid (UI.blk BL.out id)
      have BI5 := Lib.hid ((((Upd.refl (fun _ => False) _).drew).blk BI.out id))
      clear UI
      go_wp2
      go_loopw [8, 59] (fun v8 v59 wx => ∃ (k n' : Nat) (p' : Option Addr) (c' : Nat), v59 = .int .i64 (k : Int) ∧ k ≤ 4 ∧ v8 = .slice p' n' c' ∧ n' ≤ k + 1 ∧ c' ≤ 9223372036854775807 ∧ Hid (n' = (wf true m k).length) ∧ Hid (TxtsAt wx (w3.heap.size + 2) (.slice p' n' c') (wf true m k)) ∧ Hid (Upd (fun _ => False) w wx) ∧ Hid (Blk wx w.heap.size [.bool m.on, .bool m.bc, .bool m.oi, .bool m.oo, .bool m.nl, .int .i64 m.rd, .slice p n c] 24) ∧ Hid (Blk wx (w3.heap.size + 1) [.string (ofL ((lw true).getD 0 [])), .string (ofL ((lw true).getD 1 [])), .string (ofL ((lw true).getD 2 [])), .string (ofL ((lw true).getD 3 [])), .string (ofL ((lw true).getD 4 []))] 9) ∧ Hid (Blk wx X.heap.size [.int .i64 (bitI m.bc), .int .i64 (bitI m.oi), .int .i64 (bitI m.oo), .int .i64 (bitI m.nl)] 3)) (fun _ v59 _ => 4 - (intOf v59).toNat)
      case atStart => exact ⟨0, 1, _, 1, rfl, by omega, rfl, by omega, by omega, Lib.hid rfl, TX1, U5, BA5, BL5, BI5⟩
      case round =>
        obtain ⟨k, n', p', c', rfl, hk, rfl, hn', hc', HN, TY, UY, BY, LY, IY⟩ := hrel
        clear TX1 U5 BA5 BL5 BI5 BI TX U4 BA4 BL yb gb b0 b1 b2 b3 b4 b5 b6 ya ga a0 a1 a2 a3 a4 a5 a6
        by_cases hk4 : k < 4
        · have q1 : (k : Int) < 4 := by omega
          have ic : wr.cell? ⟨X.heap.size, k, none⟩ = some (.int .i64 (bitI (wIs m k))) := by
            have : k = 0 ∨ k = 1 ∨ k = 2 ∨ k = 3 := by omega
            rcases this with rfl | rfl | rfl | rfl <;> exact IY.out.cellAt rfl
          have il := IY.out.lt
          cases hb : wIs m k with
          | false =>
            rw [hb] at ic
            have ic : wr.cell? ⟨X.heap.size, k, none⟩ = some (.int .i64 0) := ic
            have FK : Hid (wf true m (k + 1) = wf true m k) := Lib.hid (by rw [wf, hb]; simp)
            clear hb
            go_wp2
            go_roundw
            case rel => exact ⟨k + 1, n', p', c', by go_num, by omega, rfl, by omega, hc', Lib.hid (by rw [FK.out]; exact HN.out), Lib.hid (by rw [FK.out]; exact TY.out), UY, BY, LY, IY⟩
            case measure => simp [intOf]; omega
          | true =>
            rw [hb] at ic
            have ic : wr.cell? ⟨X.heap.size, k, none⟩ = some (.int .i64 1) := ic
            obtain ⟨wd, hwd⟩ : ∃ wd, wd = (lw true).getD (k + 1) [] := ⟨_, rfl⟩
            have lc : wr.cell? ⟨(w3.heap.size + 1), k + 1, none⟩ = some (.string (ofL wd)) := by
              have : k = 0 ∨ k = 1 ∨ k = 2 ∨ k = 3 := by omega
              rcases this with rfl | rfl | rfl | rfl <;> (rw [hwd]; exact LY.out.cellAt rfl)
            have ll := LY.out.lt
            have FK : Hid (wf true m (k + 1) = wf true m k ++ [wd]) := Lib.hid (by rw [wf, hb, hwd]; simp)
            have TX1 := TY.out
            rw [HN.out] at TX1
            obtain ⟨p4, c4, w4, hr4, i4, u4⟩ := txts_app1 wr (w3.heap.size + 2) _ (wf true m k) wd TX1 (by have := wf_len true m k; omega) (by have := IY.out.lt; have := LY.out.lt; omega)
            rw [← HN.out] at hr4 i4 u4
            have hc4 := own_capT i4
            have I4 := Lib.hid i4
            have hne : ∀ i, i < (w3.heap.size + 2) → ¬ Value.ownBlock (.slice p' n' c') = some i := fun i hi e => by have := (own_lt TY.out e).2.1; omega
            have U4 : Hid (Upd (fun _ => False) w w4) := Lib.hid (UY.out.trans u4 (fun i hi e => hne i (by omega) e))
            have BY4 : Hid (Blk w4 w.heap.size [.bool m.on, .bool m.bc, .bool m.oi, .bool m.oo, .bool m.nl, .int .i64 m.rd, .slice p n c] 24) := Lib.hid (u4.blk BY.out (fun e => hne _ (by omega) e))
            have LY4 := Lib.hid (u4.blk LY.out (fun e => hne _ (by omega) e))
            have IY4 := Lib.hid (u4.blk IY.out (fun e => txts_ne TY.out e IY.out (by decide) rfl))
            clear hb hwd TX1 i4 u4 hne
            go_wp2_with (at_builtin; refine wpList_builtin rfl _ _ 22 rfl _ _ rfl rfl hr4 ?_)
            go_roundw
            case rel => exact ⟨k + 1, n' + 1, p4, c4, by go_num, by omega, rfl, by omega, hc4, Lib.hid (by rw [FK.out, List.length_append, HN.out]; rfl), Lib.hid (by rw [FK.out]; exact I4.out), U4, BY4, LY4, IY4⟩
            case measure => simp [intOf]; omega
        · have q1 : ¬ (k : Int) < 4 := by omega
          have K4 : Hid (k = 4) := Lib.hid (by omega)
          have T4 : Hid (TxtsAt wr (w3.heap.size + 2) (.slice p' n' c') (wf true m 4 ++ pw (m.ps.drop n).reverse)) := Lib.hid (by rw [NA.out, List.drop_length]; have := TY.out; rw [K4.out] at this; simpa [pw] using this)
          have N4 : Hid (n' = (wf true m 4 ++ pw (m.ps.drop n).reverse).length) := Lib.hid (by rw [NA.out, List.drop_length]; have := HN.out; rw [K4.out] at this; simpa [pw] using this)
          have hn32 : n ≤ 32 := by rw [NA.out]; exact (right_small RA.out).1
          have hn5 : n' ≤ 5 + 2 * n := by omega
          obtain ⟨yb, gb, b0, b1, b2, b3, b4, b5, b6⟩ := mode_facts BY.out
          obtain ⟨wo, hwo⟩ : ∃ wo, wo = wr := ⟨_, rfl⟩
          subst hwo
          have BS : Hid ((w3.heap.size + 2) ≤ wo.heap.size) := Lib.hid (by have := LY.out.lt; omega)
          clear TY HN LY IY BT hk hn'
          go_wp2
          go_loopw [8, 11] (fun v8 v11 wx => ∃ (j n' : Nat) (p' : Option Addr) (c' : Nat) (x : Int), v11 = .int .i64 x ∧ x = (j : Int) - 1 ∧ j ≤ n ∧ v8 = .slice p' n' c' ∧ n' ≤ 5 + 2 * n ∧ c' ≤ 9223372036854775807 ∧ Hid (n' = (wf true m 4 ++ pw (m.ps.drop j).reverse).length) ∧ Hid (TxtsAt wx (w3.heap.size + 2) (.slice p' n' c') (wf true m 4 ++ pw (m.ps.drop j).reverse)) ∧ Hid (Upd (fun _ => False) w wx) ∧ Hid (Blk wx w.heap.size [.bool m.on, .bool m.bc, .bool m.oi, .bool m.oo, .bool m.nl, .int .i64 m.rd, .slice p n c] 24) ∧ Hid ((w3.heap.size + 2) ≤ wx.heap.size)) (fun _ v11 _ => (intOf v11 + 1).toNat)
          case atStart => exact ⟨n, n', p', c', (n : Int) - 1, rfl, rfl, Nat.le_refl _, rfl, hn5, hc', N4, T4, UY, BY, BS⟩
          case round =>
            clear T4 N4 K4 q1 hn5 hc' UY BY BS yb gb b0 b1 b2 b3 b4 b5 b6 hk4
            obtain ⟨j, n'', p'', c'', x, rfl, hx, hj, rfl, hn', hc', HN, TY, UY, BY, BS⟩ := hrel
            obtain ⟨yb, gb, b0, b1, b2, b3, b4, b5, b6⟩ := mode_facts BY.out
            by_cases hj0 : 0 < j
            · obtain ⟨k, rfl⟩ : ∃ k, j = k + 1 := ⟨j - 1, by omega⟩
              obtain rfl : x = (k : Int) := by omega
              clear hx hj0
              have hkn : k < n := by omega
              obtain ⟨wd, hwd⟩ : ∃ wd, m.ps[k]? = some wd := ⟨_, List.getElem?_eq_getElem (by rw [← NA.out]; exact hkn)⟩
              obtain ⟨wb, off, hp, hwb, c9⟩ := txt_rcell (by have := RAw.out wr UY.out; rw [NA.out] at this; exact this) (k := k) (by rw [← NA.out]; exact hkn)
              subst hp
              have c0 : wr.cell? ⟨wb, off + k, none⟩ = some (.string (ofL wd)) := by
                rw [c9]
                rw [List.getElem?_eq_getElem (by rw [← NA.out]; exact hkn)] at hwd
                simp only [Option.some.injEq] at hwd
                rw [hwd]
              clear c9
              have FK : Hid (wf true m 4 ++ pw (m.ps.drop k).reverse = (wf true m 4 ++ pw (m.ps.drop (k + 1)).reverse) ++ [wPre, wd]) := Lib.hid (by rw [rev_drop m.ps (by rw [← NA.out]; exact hkn) hwd, pw_snoc, List.append_assoc])
              have TX1 := TY.out
              rw [HN.out] at TX1
              obtain ⟨p4, c4, w4, hr4, i4, u4⟩ := txts_app2 wr (w3.heap.size + 2) _ (wf true m 4 ++ pw (m.ps.drop (k + 1)).reverse) wPre wd TX1 (by rw [← HN.out]; omega) BS.out
              rw [← HN.out] at hr4 i4 u4
              replace hr4 : (Builtin.append_ #[22, 22] 22 #[.slice p'' n'' c'', .slice (some ⟨wr.heap.size, 0, none⟩) 2 2]).run Tryd.prog (wr.alloc (.cells #[.string { data := #[80, 114, 101, 102, 105, 120] }, .string (ofL wd)] 9)) = .ok (.slice p4 (n'' + 2) c4) w4 := hr4
              have hc4 := own_capT i4
              have I4 := Lib.hid i4
              have hne : ∀ i, i < (w3.heap.size + 2) → ¬ Value.ownBlock (.slice p'' n'' c'') = some i := fun i hi e => by have := (own_lt TY.out e).2.1; omega
              have U4 : Hid (Upd (fun _ => False) w w4) := Lib.hid (UY.out.trans u4 (fun i hi e => hne i (by have := BHS.out; omega) e))
              have BY4 := Lib.hid (u4.blk BY.out (fun e => hne _ (by have := BHS.out; omega) e))
              have BS4 : Hid ((w3.heap.size + 2) ≤ w4.heap.size) := Lib.hid (Nat.le_trans BS.out u4.size)
              have hnk : n'' + 2 ≤ 5 + 2 * n := by
                have e1 := HN.out
                have e2 := wfp_len true m (m.ps.drop (k + 1)).reverse
                rw [List.length_reverse, List.length_drop, ← NA.out] at e2
                omega
              clear hwd TX1 i4 u4 hne
              go_wp2_with (at_builtin; refine wpList_builtin rfl _ _ 22 rfl _ _ rfl rfl hr4 ?_)
              go_roundw
              case rel => exact ⟨k, n'' + 2, p4, c4, (k : Int) - 1, rfl, rfl, by omega, rfl, hnk, hc4, Lib.hid (by rw [FK.out, List.length_append, HN.out]; rfl), Lib.hid (by rw [FK.out]; exact I4.out), U4, BY4, BS4⟩
              case measure => simp [intOf]
            · obtain rfl : x = -1 := by omega
              have J0 : Hid (j = 0) := Lib.hid (by omega)
              clear hx hj hj0
              have q2 : ¬ (0 : Int) ≤ -1 := by omega
              have TW : TxtsAt wr (w3.heap.size + 2) (.slice p'' n'' c'') (wf true m 4 ++ pw m.ps.reverse) := by have := TY.out; rw [J0.out] at this; exact this
              have NW : n'' = (wf true m 4 ++ pw m.ps.reverse).length := by have := HN.out; rw [J0.out] at this; exact this
              have PW := Lib.hid (parse_words wr (w3.heap.size + 2) p'' n'' c'' _ TW NW (HS.out.keep UY.out) (by rw [← NW]; omega) (wfp_small true (right_small RA.out).2) m.on m.bc m.oi m.oo m.nl 0 m.ps n NA.out 0 WM.out)
              clear TW NW TY HN hn'
              go_wp2_with fail
              refine PW.out.mono ?_
              rintro e w5 ⟨p5, c5, rfl, hc5, t5, u5⟩
              have U5 := Lib.hid (UY.out.trans u5 (fun _ _ h => h))
              have B5 := Lib.hid (u5.blk BY.out id)
              have T5 := Lib.hid t5
              clear u5 t5 PW yb gb b0 b1 b2 b3 b4 b5 b6
              obtain ⟨o5, ho5⟩ : ∃ o5, o5 = Obj.cells #[.bool m.on, .bool m.bc, .bool m.oi, .bool m.oo, .bool m.nl, .int .i64 m.rd, .slice p5 n c5] 24 := ⟨_, rfl⟩
              have u6 : Upd (fun _ => False) w5 (w5.alloc o5) := (Upd.refl (fun _ => False) w5).alloc o5
              have R6 := (txts_row T5.out).keep u6 (fun _ _ _ => id)
              have U6 := Lib.hid (U5.out.trans u6 (fun _ _ h => h))
              have SM0 := same_out m m p5 p n n c5 c NA.out NA.out true (by simp) _ R6 (RAw.out _ U6.out) (by have := (right_small RA.out).1; omega)
              rw [ho5] at SM0 U6
              rw [hon] at SM0 U6
              have SM := Lib.hid SM0
              have U6 := Lib.hid U6.out
              obtain ⟨yb, gb, b0, b1, b2, b3, b4, b5, b6⟩ := mode_facts B5.out
              clear SM0 u6 R6 ho5 o5
              go_wp2_with fail
              refine SM.out.mono ?_
              rintro e w7 ⟨rfl, u7⟩
              have U7 := Lib.hid (U6.out.trans u7 (fun _ _ h => h))
              clear u7
              go_wp2
              go_ret
              exact ⟨rfl, U7.out⟩
end Go.Proofs.YtcpfkkbegnhofaaDoor
