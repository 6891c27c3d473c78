/- Walk: a mode in words. -/
import Derived.Test.YtcpfkkbegnhofaaDoorK10
import Derived.Test.YtcpfkkbegnhofaaDoorK11
import Derived.Deep.RegionHeld3
import Derived.Deep.DeepCutAuto
set_option linter.unusedVariables false
set_option linter.unusedSimpArgs false
namespace Go.Proofs.YtcpfkkbegnhofaaDoor
open Go.RowKit

def fWords : List Txt := [[98, 99, 97, 115, 116], [111, 112, 116, 105, 110], [111, 112, 116, 111, 117, 116], [110, 111, 108, 111, 111, 112]]
def fIs (m : MD) : Nat → Bool
  | 0 => m.bc
  | 1 => m.oi
  | 2 => m.oo
  | _ => m.nl
/-- What k tests have put together. -/
def fl (m : MD) : Nat → List Txt
  | 0 => [[111, 110]]
  | k + 1 => fl m k ++ (if fIs m k then [fWords.getD k []] else [])
theorem fl_len (m : MD) : ∀ k, (fl m k).length ≤ k + 1
  | 0 => by simp [fl]
  | k + 1 => by
    have := fl_len m k
    rw [fl, List.length_append]
    split <;> simp <;> omega
theorem fl_four (m : MD) (h : m.on = true) : fl m 4 = flagsM m := by
  unfold flagsM
  rw [h, if_neg (by simp)]
  rfl
theorem idx4 (m : MD) (k : Nat) (hk : k < 4) (w : World) : (Instr.index 57 (.agg #[.bool m.bc, .string { data := #[98, 99, 97, 115, 116] }, .bool m.oi, .string { data := #[111, 112, 116, 105, 110] }, .bool m.oo, .string { data := #[111, 112, 116, 111, 117, 116] }, .bool m.nl, .string { data := #[110, 111, 108, 111, 111, 112] }]) (.int .i64 (k : Int))).run Tryd.prog w = .ok (.agg #[.bool (fIs m k), .string (ofL (fWords.getD k []))]) w := by
  have : k = 0 ∨ k = 1 ∨ k = 2 ∨ k = 3 := by omega
  rcases this with rfl | rfl | rfl | rfl <;>
  · simp [Instr.index, run_underlying Tryd.underlying57, asIntOf, sizeOf, Tryd.sizeOf56, go_sem]
    first | rfl | trace_state
set_option maxHeartbeats 4000000 in
set_option maxRecDepth 100000 in
theorem flags_any (m : MD) (p : Option Addr) (n c : Nat) (w : World) :
    Calls Tryd.prog 21 #[.agg #[.bool m.on, .bool m.bc, .bool m.oi, .bool m.oo, .bool m.nl, .int .i64 m.rd, .slice p n c]] w fun e w' => ∃ v, e = .returned v ∧ TxtsAt w' w.heap.size v (flagsM m) ∧ Upd (fun _ => False) w w' := by
  obtain ⟨o0, ho0⟩ : ∃ o0, o0 = Obj.cells #[.bool m.on, .bool m.bc, .bool m.oi, .bool m.oo, .bool m.nl, .int .i64 m.rd, .slice p n c] 24 := ⟨_, rfl⟩
  cases hon : m.on with
  | false =>
    have FE : Hid (flagsM m = [[111, 102, 102]]) := Lib.hid (by unfold flagsM; rw [if_pos hon])
    clear ho0 o0
    go_enter Tryd.func21, Tryd.ntmps21
    go_wp2
    go_ret
    refine ⟨_, rfl, ?_, ((Upd.refl _ _).alloc _).alloc _⟩
    rw [FE.out]
    have hs1 : (w.alloc (.cells #[.bool false, .bool m.bc, .bool m.oi, .bool m.oo, .bool m.nl, .int .i64 m.rd, .slice p n c] 24)).heap.size = w.heap.size + 1 := by simp
    have := Blk.made (w.alloc (.cells #[.bool false, .bool m.bc, .bool m.oi, .bool m.oo, .bool m.nl, .int .i64 m.rd, .slice p n c] 24)) [.string (ofL [111, 102, 102])] 9
    rw [hs1] at this
    exact own_of (cs := []) (by omega) this rfl rfl (by unfold maxLen; omega)
  | true =>
    have FE := Lib.hid (fl_four m hon)
    go_enter Tryd.func21, Tryd.ntmps21
    go_wp2
    have UA := (((Upd.refl (fun _ => False) w).alloc (.cells #[.bool true, .bool m.bc, .bool m.oi, .bool m.oo, .bool m.nl, .int .i64 m.rd, .slice p n c] 24)).alloc (.cells #[.string { data := #[111, 110] }] 9))
    have hs1 : (w.alloc (.cells #[.bool true, .bool m.bc, .bool m.oi, .bool m.oo, .bool m.nl, .int .i64 m.rd, .slice p n c] 24)).heap.size = w.heap.size + 1 := by simp
    have T0 := Blk.made (w.alloc (.cells #[.bool true, .bool m.bc, .bool m.oi, .bool m.oo, .bool m.nl, .int .i64 m.rd, .slice p n c] 24)) [.string (ofL [111, 110])] 9
    rw [hs1] at T0
    have T0 : Hid (TxtsAt ((w.alloc (.cells #[.bool true, .bool m.bc, .bool m.oi, .bool m.oo, .bool m.nl, .int .i64 m.rd, .slice p n c] 24)).alloc (.cells #[.string { data := #[111, 110] }] 9)) w.heap.size (.slice (some ⟨w.heap.size + 1, 0, none⟩) 1 1) (fl m 0)) := Lib.hid (own_of (b := w.heap.size + 1) (xs := [.string (ofL [111, 110])]) (cs := []) (by omega) T0 rfl rfl (by unfold maxLen; omega))
    have UA := Lib.hid UA
    clear hs1
    go_loopw [3, 24] (fun v3 v24 wx => ∃ (k n' : Nat) (p' : Option Addr) (c' : Nat), v24 = .int .i64 (k : Int) ∧ k ≤ 4 ∧ v3 = .slice p' n' c' ∧ n' ≤ k + 1 ∧ c' ≤ 9223372036854775807 ∧ Hid (n' = (fl m k).length) ∧ Hid (TxtsAt wx w.heap.size (.slice p' n' c') (fl m k)) ∧ Hid (Upd (fun _ => False) w wx)) (fun _ v24 _ => 4 - (intOf v24).toNat)
    case atStart => exact ⟨0, 1, _, 1, rfl, by omega, rfl, by omega, by omega, Lib.hid rfl, T0, UA⟩
    case round =>
      obtain ⟨k, n', p', c', rfl, hk, rfl, hn', hc', HN, TX, U⟩ := hrel
      clear T0 UA
      by_cases hk4 : k < 4
      · have q1 : (k : Int) < 4 := by omega
        have ix := idx4 m k hk4
        obtain ⟨wd, hwd⟩ : ∃ wd, wd = fWords.getD k [] := ⟨_, rfl⟩
        rw [← hwd] at ix
        have HW := Lib.hid hwd
        have hl := fl_len m k
        cases hb : fIs m k with
        | false =>
          rw [hb] at ix
          have FK : Hid (fl m (k + 1) = fl m k) := Lib.hid (by rw [fl, hb]; simp)
          clear hb hwd
          go_wp2
          go_roundw
          case rel => exact ⟨k + 1, n', p', c', by go_num, by omega, rfl, by omega, hc', Lib.hid (by rw [FK.out]; exact HN.out), Lib.hid (by rw [FK.out]; exact own_keep TX.out ((Upd.refl (fun _ => False) wr).alloc _) (fun _ _ h => h)), Lib.hid (U.out.alloc _)⟩
          case measure => simp [intOf]; omega
        | true =>
          rw [hb] at ix
          have FK : Hid (fl m (k + 1) = fl m k ++ [wd]) := Lib.hid (by rw [fl, hb, HW.out]; simp)
          obtain ⟨w1, hw1⟩ : ∃ w1, w1 = wr.alloc (.cells #[.bool true, .string (ofL wd)] 56) := ⟨_, rfl⟩
          have u1 : Upd (fun _ => False) wr w1 := by rw [hw1]; exact (Upd.refl _ _).alloc _
          have TX1 := own_keep TX.out u1 (fun _ _ h => h)
          rw [HN.out] at TX1
          obtain ⟨p4, c4, w4, hr4, i4, u4⟩ := txts_app1 w1 w.heap.size _ (fl m k) wd TX1 (by omega) (Nat.le_trans U.out.size u1.size)
          rw [← HN.out] at hr4 i4 u4
          have hc4 := own_capT i4
          have I4 := Lib.hid i4
          have U4 : Hid (Upd (fun _ => False) w w4) := Lib.hid ((U.out.trans u1 (fun _ _ h => h)).trans u4 (fun i hi e => by have := (own_lt TX.out e).2.1; omega))
          have hs2 : w1.heap.size = wr.heap.size + 1 := by rw [hw1]; simp
          rw [hs2, hw1] at hr4
          clear hb hwd u1 TX1 i4 u4 hs2 hw1
          go_wp2_with (at_builtin; refine wpList_builtin rfl _ _ 22 rfl _ _ rfl rfl hr4 ?_)
          go_roundw
          case rel => exact ⟨k + 1, n' + 1, p4, c4, by go_num, by omega, rfl, by omega, hc4, Lib.hid (by rw [FK.out, List.length_append, HN.out]; rfl), Lib.hid (by rw [FK.out]; exact I4.out), U4⟩
          case measure => simp [intOf]; omega
      · have q1 : ¬ (k : Int) < 4 := by omega
        have hk4e : k = 4 := by omega
        have TF : Hid (TxtsAt wr w.heap.size (.slice p' n' c') (flagsM m)) := Lib.hid (by rw [← FE.out, ← hk4e]; exact TX.out)
        go_wp2
        go_ret
        exact ⟨_, rfl, TF.out, U.out⟩
end Go.Proofs.YtcpfkkbegnhofaaDoor
/- What ModeSays leans on. Printed by gensays.py. -/
set_option linter.unusedVariables false
set_option linter.unusedSimpArgs false
namespace Go.Proofs.YtcpfkkbegnhofaaDoor
open Go.RowKit

theorem right_flags {on bc oi oo nl : Bool} {rd : Int} {ps : List Txt} (h : rightM ⟨on, bc, oi, oo, nl, rd, ps⟩ = true) :
    (on = false ∧ bc = false ∧ oi = false ∧ oo = false) ∨ (on = true ∧ bc = true ∧ oi = false ∧ oo = false) ∨ (on = true ∧ bc = false ∧ oi = true ∧ oo = false) ∨ (on = true ∧ bc = false ∧ oi = false ∧ oo = true) ∨ (on = true ∧ bc = false ∧ oi = false ∧ oo = false) := by
  unfold rightM at h
  cases on
  · left
    have h := of_decide_eq_true (by simpa using h)
    unfold offM at h
    injection h with a1 a2 a3 a4
    exact ⟨rfl, a2, a3, a4⟩
  · cases bc <;> cases oi <;> cases oo <;> simp at h ⊢
/-- Which of three. -/
theorem idx3 (b0 b1 b2 : Bool) (c : Int) (b : Bool) (h : (c = 0 ∧ b = b0) ∨ (c = 1 ∧ b = b1) ∨ (c = 2 ∧ b = b2)) (w : World) : (Instr.index 41 (.agg #[.bool b0, .bool b1, .bool b2]) (.int .i64 c)).run Tryd.prog w = .ok (.bool b) w := by
  rcases h with ⟨rfl, rfl⟩ | ⟨rfl, rfl⟩ | ⟨rfl, rfl⟩
  · kernel_rfl
  · kernel_rfl
  · kernel_rfl
end Go.Proofs.YtcpfkkbegnhofaaDoor
/- Walk: ModeSays. Printed by gensays.py. -/
set_option linter.unusedVariables false
set_option linter.unusedSimpArgs false
namespace Go.Proofs.YtcpfkkbegnhofaaDoor
open Go.RowKit

set_option maxHeartbeats 8000000 in
set_option maxRecDepth 100000 in
theorem lawMSays_no (m : MD) (cc : Int) (p : Option Addr) (c : Nat) (w : World) (h : RwT w p c m.ps) (hz : ∀ t ∈ m.ps, t.length ≤ maxLen) (hs : StdU w) (hr : rightM m = false) :
    Calls Tryd.prog 6 #[mdV m (.slice p m.ps.length c), .int .i64 cc] w fun e w' => e = .returned (.bool true) ∧ Upd (fun _ => False) w w' := by
  have hla := h.2
  unfold maxLen at hla
  obtain ⟨on, bc, oi, oo, nl, rd, ps⟩ := m
  dsimp only at *
  obtain ⟨n, hn⟩ : ∃ n, n = ps.length := ⟨_, rfl⟩
  unfold mdV
  dsimp only
  rw [← hn]
  rw [← hn] at hla
  have NA := Lib.hid hn
  have GA := Lib.hid (fun W (u : Upd (fun _ => False) w W) => great_out ⟨on, bc, oi, oo, nl, rd, ps⟩ p n c hn W (h.keep u) hz)
  have HA := Lib.hid h
  have HS := Lib.hid hs
  have ZA := Lib.hid hz
  clear h hz hs hn
  obtain ⟨w0, hw0⟩ : ∃ w0, w0 = w.alloc (.cells #[.bool on, .bool bc, .bool oi, .bool oo, .bool nl, .int .i64 rd, .slice p n c] 24) := ⟨_, rfl⟩
  have u0 : Upd (fun _ => False) w w0 := by rw [hw0]; exact (Upd.refl _ _).alloc _
  have BA0 : Hid (Blk w0 w.heap.size [.bool on, .bool bc, .bool oi, .bool oo, .bool nl, .int .i64 rd, .slice p n c] 24) := Lib.hid (by rw [hw0]; exact Blk.made w _ _)
  have AL := Lib.hid (alive_any _ (HS.out.keep u0))
  have U0 := Lib.hid u0
  rw [hw0] at AL
  go_enter Tryd.func6, Tryd.ntmps6
  go_wp2_with fail
  refine AL.out.mono ?_
  rintro e w1 ⟨rfl, u1⟩
  rw [← hw0] at u1
  have U1 : Hid (Upd (fun _ => False) w0 w1) := Lib.hid u1
  have BA1 := Lib.hid (u1.blk BA0.out id)
  obtain ⟨ya, ga, a0, a1, a2, a3, a4, a5, a6⟩ := mode_facts BA1.out
  have G1 := Lib.hid (GA.out w1 (U0.out.trans U1.out (fun _ _ h => h)))
  clear u1 AL hw0 u0
  go_wp2_with fail
  refine G1.out.mono ?_
  rintro e w2 ⟨g, rfl, hg, u2⟩
  have U2 := Lib.hid (U1.out.trans u2 (fun _ _ h => h))
  cases g with
  | true =>
    clear u2
    go_wp2
    go_ret
    exact ⟨rfl, (U0.out.trans U2.out (fun _ _ h => h))⟩
  | false =>
  have SA := Lib.hid (hg rfl)
  have BA2 := Lib.hid (u2.blk BA1.out id)
  obtain ⟨yb, gb, b0, b1, b2, b3, b4, b5, b6⟩ := mode_facts BA2.out
  clear u2 BA1 hg ya ga a0 a1 a2 a3 a4 a5 a6 G1
  cases hra : rightM ⟨on, bc, oi, oo, nl, rd, ps⟩ with
  | false =>
    have R1 := Lib.hid (right13_out ⟨on, bc, oi, oo, nl, rd, ps⟩ p n c NA.out false hra w2 (HA.out.keep (U0.out.trans U2.out (fun _ _ h => h))) (by have := SA.out.1; omega) ZA.out)
    clear hra
    go_wp2_with fail
    refine R1.out.mono ?_
    rintro e w4 ⟨rfl, u4⟩
    have U4 := Lib.hid (U2.out.trans u4 (fun _ _ h => h))
    clear u4
    go_wp2
    go_ret
    exact ⟨rfl, (U0.out.trans U4.out (fun _ _ h => h))⟩
  | true => rw [hra] at hr; cases hr
end Go.Proofs.YtcpfkkbegnhofaaDoor
