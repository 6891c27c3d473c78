/- Walk: a mode in words. -/
import Derived.Test.YtcpfkkbegnhofaaDoorK10
import Derived.Test.YtcpfkkbegnhofaaDoorK12
import Derived.Deep.DeepCutAuto
import Derived.Test.YtcpfkkbegnhofaaDoorK01
import Derived.Deep.QuietTactic
import Derived.BigQuiet
import Derived.Test.YtcpfkkbegnhofaaDoorK04
set_option linter.unusedVariables false
set_option linter.unusedSimpArgs false
namespace Go.Proofs.YtcpfkkbegnhofaaDoor
open Go.RowKit

def fWords : List Txt := [[98, 99, 97, 115, 116], [111, 112, 116, 105, 110], [111, 112, 116, 111, 117, 116], [110, 111, 108, 111, 111, 112]]
def fIs (m : MD) : Nat → Bool
  | 0 => m.bc
  | 1 => m.oi
  | 2 => m.oo
  | _ => m.nl
/-- What k tests have put together. -/
def fl (m : MD) : Nat → List Txt
  | 0 => [[111, 110]]
  | k + 1 => fl m k ++ (if fIs m k then [fWords.getD k []] else [])
theorem fl_len (m : MD) : ∀ k, (fl m k).length ≤ k + 1
  | 0 => by simp [fl]
  | k + 1 => by
    have := fl_len m k
    rw [fl, List.length_append]
    split <;> simp <;> omega
theorem fl_four (m : MD) (h : m.on = true) : fl m 4 = flagsM m := by
  unfold flagsM
  rw [h, if_neg (by simp)]
  rfl
theorem idx4 (m : MD) (k : Nat) (hk : k < 4) (w : World) : (Instr.index 57 (.agg #[.bool m.bc, .string { data := #[98, 99, 97, 115, 116] }, .bool m.oi, .string { data := #[111, 112, 116, 105, 110] }, .bool m.oo, .string { data := #[111, 112, 116, 111, 117, 116] }, .bool m.nl, .string { data := #[110, 111, 108, 111, 111, 112] }]) (.int .i64 (k : Int))).run Tryd.prog w = .ok (.agg #[.bool (fIs m k), .string (ofL (fWords.getD k []))]) w := by
  have : k = 0 ∨ k = 1 ∨ k = 2 ∨ k = 3 := by omega
  rcases this with rfl | rfl | rfl | rfl <;>
  · simp [Instr.index, run_underlying Tryd.underlying57, asIntOf, sizeOf, Tryd.sizeOf56, go_sem]
    first | rfl | trace_state
set_option maxHeartbeats 4000000 in
set_option maxRecDepth 100000 in
theorem flags_any (m : MD) (p : Option Addr) (n c : Nat) (w : World) :
    Calls Tryd.prog 21 #[.agg #[.bool m.on, .bool m.bc, .bool m.oi, .bool m.oo, .bool m.nl, .int .i64 m.rd, .slice p n c]] w fun e w' => ∃ v, e = .returned v ∧ TxtsAt w' w.heap.size v (flagsM m) ∧ Upd (fun _ => False) w w' := by
  obtain ⟨o0, ho0⟩ : ∃ o0, o0 = Obj.cells #[.bool m.on, .bool m.bc, .bool m.oi, .bool m.oo, .bool m.nl, .int .i64 m.rd, .slice p n c] 24 := ⟨_, rfl⟩
  cases hon : m.on with
  | false =>
    have FE : Hid (flagsM m = [[111, 102, 102]]) := Lib.hid (by unfold flagsM; rw [if_pos hon])
    clear ho0 o0
    go_enter Tryd.func21, Tryd.ntmps21
    go_wp2
    go_ret
    refine ⟨_, rfl, ?_, ((Upd.refl _ _).alloc _).alloc _⟩
    rw [FE.out]
    have hs1 : (w.alloc (.cells #[.bool false, .bool m.bc, .bool m.oi, .bool m.oo, .bool m.nl, .int .i64 m.rd, .slice p n c] 24)).heap.size = w.heap.size + 1 := by simp
    have := Blk.made (w.alloc (.cells #[.bool false, .bool m.bc, .bool m.oi, .bool m.oo, .bool m.nl, .int .i64 m.rd, .slice p n c] 24)) [.string (ofL [111, 102, 102])] 9
    rw [hs1] at this
    exact own_of (cs := []) (by omega) this rfl rfl (by unfold maxLen; omega)
  | true =>
    have FE := Lib.hid (fl_four m hon)
    go_enter Tryd.func21, Tryd.ntmps21
    go_wp2
    have UA := (((Upd.refl (fun _ => False) w).alloc (.cells #[.bool true, .bool m.bc, .bool m.oi, .bool m.oo, .bool m.nl, .int .i64 m.rd, .slice p n c] 24)).alloc (.cells #[.string { data := #[111, 110] }] 9))
    have hs1 : (w.alloc (.cells #[.bool true, .bool m.bc, .bool m.oi, .bool m.oo, .bool m.nl, .int .i64 m.rd, .slice p n c] 24)).heap.size = w.heap.size + 1 := by simp
    have T0 := Blk.made (w.alloc (.cells #[.bool true, .bool m.bc, .bool m.oi, .bool m.oo, .bool m.nl, .int .i64 m.rd, .slice p n c] 24)) [.string (ofL [111, 110])] 9
    rw [hs1] at T0
    have T0 : Hid (TxtsAt ((w.alloc (.cells #[.bool true, .bool m.bc, .bool m.oi, .bool m.oo, .bool m.nl, .int .i64 m.rd, .slice p n c] 24)).alloc (.cells #[.string { data := #[111, 110] }] 9)) w.heap.size (.slice (some ⟨w.heap.size + 1, 0, none⟩) 1 1) (fl m 0)) := Lib.hid (own_of (b := w.heap.size + 1) (xs := [.string (ofL [111, 110])]) (cs := []) (by omega) T0 rfl rfl (by unfold maxLen; omega))
    have UA := Lib.hid UA
    clear hs1
    go_loopw [3, 24] (fun v3 v24 wx => ∃ (k n' : Nat) (p' : Option Addr) (c' : Nat), v24 = .int .i64 (k : Int) ∧ k ≤ 4 ∧ v3 = .slice p' n' c' ∧ n' ≤ k + 1 ∧ c' ≤ 9223372036854775807 ∧ Hid (n' = (fl m k).length) ∧ Hid (TxtsAt wx w.heap.size (.slice p' n' c') (fl m k)) ∧ Hid (Upd (fun _ => False) w wx)) (fun _ v24 _ => 4 - (intOf v24).toNat)
    case atStart => exact ⟨0, 1, _, 1, rfl, by omega, rfl, by omega, by omega, Lib.hid rfl, T0, UA⟩
    case round =>
      obtain ⟨k, n', p', c', rfl, hk, rfl, hn', hc', HN, TX, U⟩ := hrel
      clear T0 UA
      by_cases hk4 : k < 4
      · have q1 : (k : Int) < 4 := by omega
        have ix := idx4 m k hk4
        obtain ⟨wd, hwd⟩ : ∃ wd, wd = fWords.getD k [] := ⟨_, rfl⟩
        rw [← hwd] at ix
        have HW := Lib.hid hwd
        have hl := fl_len m k
        cases hb : fIs m k with
        | false =>
          rw [hb] at ix
          have FK : Hid (fl m (k + 1) = fl m k) := Lib.hid (by rw [fl, hb]; simp)
          clear hb hwd
          go_wp2
          go_roundw
          case rel => exact ⟨k + 1, n', p', c', by go_num, by omega, rfl, by omega, hc', Lib.hid (by rw [FK.out]; exact HN.out), Lib.hid (by rw [FK.out]; exact own_keep TX.out ((Upd.refl (fun _ => False) wr).alloc _) (fun _ _ h => h)), Lib.hid (U.out.alloc _)⟩
          case measure => simp [intOf]; omega
        | true =>
          rw [hb] at ix
          have FK : Hid (fl m (k + 1) = fl m k ++ [wd]) := Lib.hid (by rw [fl, hb, HW.out]; simp)
          obtain ⟨w1, hw1⟩ : ∃ w1, w1 = wr.alloc (.cells #[.bool true, .string (ofL wd)] 56) := ⟨_, rfl⟩
          have u1 : Upd (fun _ => False) wr w1 := by rw [hw1]; exact (Upd.refl _ _).alloc _
          have TX1 := own_keep TX.out u1 (fun _ _ h => h)
          rw [HN.out] at TX1
          obtain ⟨p4, c4, w4, hr4, i4, u4⟩ := txts_app1 w1 w.heap.size _ (fl m k) wd TX1 (by omega) (Nat.le_trans U.out.size u1.size)
          rw [← HN.out] at hr4 i4 u4
          have hc4 := own_capT i4
          have I4 := Lib.hid i4
          have U4 : Hid (Upd (fun _ => False) w w4) := Lib.hid ((U.out.trans u1 (fun _ _ h => h)).trans u4 (fun i hi e => by have := (own_lt TX.out e).2.1; omega))
          have hs2 : w1.heap.size = wr.heap.size + 1 := by rw [hw1]; simp
          rw [hs2, hw1] at hr4
          clear hb hwd u1 TX1 i4 u4 hs2 hw1
          go_wp2_with (at_builtin; refine wpList_builtin rfl _ _ 22 rfl _ _ rfl rfl hr4 ?_)
          go_roundw
          case rel => exact ⟨k + 1, n' + 1, p4, c4, by go_num, by omega, rfl, by omega, hc4, Lib.hid (by rw [FK.out, List.length_append, HN.out]; rfl), Lib.hid (by rw [FK.out]; exact I4.out), U4⟩
          case measure => simp [intOf]; omega
      · have q1 : ¬ (k : Int) < 4 := by omega
        have hk4e : k = 4 := by omega
        have TF : Hid (TxtsAt wr w.heap.size (.slice p' n' c') (flagsM m)) := Lib.hid (by rw [← FE.out, ← hk4e]; exact TX.out)
        go_wp2
        go_ret
        exact ⟨_, rfl, TF.out, U.out⟩
end Go.Proofs.YtcpfkkbegnhofaaDoor
/- The document's modes: a mode in words. -/
set_option linter.unusedVariables false
set_option linter.unusedSimpArgs false
namespace Go.Proofs.YtcpfkkbegnhofaaDoor
open Go.RowKit

/-- What k tests leave. -/
def FlR (w : World) (m : MD) (p : Option Addr) (n c : Nat) (k : Nat) (v3 : Value) (wx : World) : Prop :=
  ∃ n' p' c', v3 = .slice p' n' c' ∧ n' ≤ k + 1 ∧ c' ≤ 9223372036854775807 ∧ Hid (n' = (fl m k).length) ∧ Hid (TxtsAt wx w.heap.size (.slice p' n' c') (fl m k)) ∧ Hid (Upd (fun _ => False) w wx) ∧ Hid (Blk wx w.heap.size [.bool m.on, .bool m.bc, .bool m.oi, .bool m.oo, .bool m.nl, .int .i64 m.rd, .slice p n c] 24)
theorem FlR.skip {w : World} {m : MD} {p : Option Addr} {n c k : Nat} {v : Value} {wx : World} (h : FlR w m p n c k v wx) (hb : fIs m k = false) : FlR w m p n c (k + 1) v wx := by
  obtain ⟨n', p', c', h1, h2, h3, h4, h5, h6, h7⟩ := h
  have e : fl m (k + 1) = fl m k := by rw [fl, hb]; simp
  exact ⟨n', p', c', h1, by omega, h3, by rw [e]; exact h4, by rw [e]; exact h5, h6, h7⟩
theorem FlR.more {w : World} {m : MD} {p : Option Addr} {n c k : Nat} {wx : World} {n' c' : Nat} {p' : Option Addr} (hk : k ≤ 4) (h : FlR w m p n c k (.slice p' n' c') wx) (hb : fIs m k = true) (t : Txt) (ht : fWords.getD k [] = t) :
    ∃ p4 c4 w4, (Builtin.append_ #[22, 22] 22 #[.slice p' n' c', .slice (some ⟨wx.heap.size, 0, none⟩) 1 1]).run Tryd.prog (wx.alloc (.cells #[.string (ofL t)] 9)) = .ok (.slice p4 (n' + 1) c4) w4 ∧ Hid (FlR w m p n c (k + 1) (.slice p4 (n' + 1) c4) w4) := by
  obtain ⟨n2, p2, c2, h1, h2, h3, h4, h5, h6, h7⟩ := h
  cases h1
  have e : fl m (k + 1) = fl m k ++ [t] := by rw [fl, hb, ht]; simp
  have T := h5.out
  rw [h4.out] at T
  obtain ⟨p4, c4, w4, hr4, i4, u4⟩ := txts_app1 wx w.heap.size _ (fl m k) t T (by have := h4.out; omega) h6.out.size
  rw [← h4.out] at hr4 i4 u4
  refine ⟨p4, c4, w4, hr4, Lib.hid ⟨_, p4, c4, rfl, by omega, own_capT i4, Lib.hid (by rw [e, List.length_append, ← h4.out]; rfl), Lib.hid (by rw [e]; exact i4), Lib.hid (h6.out.trans u4 (fun i hi e => by have := (own_lt h5.out e).2.1; omega)), Lib.hid (u4.blk h7.out (fun e => txts_ne h5.out e h7.out (by decide) rfl))⟩⟩
set_option maxHeartbeats 4000000 in
set_option maxRecDepth 100000 in
theorem flags13_any (m : MD) (p : Option Addr) (n c : Nat) (w : World) :
    Calls Tryd.prog 27 #[.agg #[.bool m.on, .bool m.bc, .bool m.oi, .bool m.oo, .bool m.nl, .int .i64 m.rd, .slice p n c]] w fun e w' => ∃ v, e = .returned v ∧ TxtsAt w' w.heap.size v (flagsM m) ∧ Upd (fun _ => False) w w' := by
  have FE0 := Lib.hid (fl_four m)
  obtain ⟨on, bc, oi, oo, nl, rd, ps⟩ := m
  dsimp only
  cases on with
  | false =>
    have FE : Hid (flagsM ⟨false, bc, oi, oo, nl, rd, ps⟩ = [[111, 102, 102]]) := Lib.hid (by unfold flagsM; rw [if_pos rfl])
    go_enter Tryd.func27, Tryd.ntmps27
    go_wp2
    go_ret
    refine ⟨_, rfl, ?_, ((Upd.refl _ _).alloc _).alloc _⟩
    rw [FE.out]
    have hs1 : (w.alloc (.cells #[.bool false, .bool bc, .bool oi, .bool oo, .bool nl, .int .i64 rd, .slice p n c] 24)).heap.size = w.heap.size + 1 := by simp
    have := Blk.made (w.alloc (.cells #[.bool false, .bool bc, .bool oi, .bool oo, .bool nl, .int .i64 rd, .slice p n c] 24)) [.string (ofL [111, 102, 102])] 9
    rw [hs1] at this
    exact own_of (cs := []) (by omega) this rfl rfl (by unfold maxLen; omega)
  | true =>
    have FE := Lib.hid (FE0.out rfl)
    have hs1 : (w.alloc (.cells #[.bool true, .bool bc, .bool oi, .bool oo, .bool nl, .int .i64 rd, .slice p n c] 24)).heap.size = w.heap.size + 1 := by simp
    have T0 := Blk.made (w.alloc (.cells #[.bool true, .bool bc, .bool oi, .bool oo, .bool nl, .int .i64 rd, .slice p n c] 24)) [.string (ofL [111, 110])] 9
    rw [hs1] at T0
    have FR : Hid (FlR w ⟨true, bc, oi, oo, nl, rd, ps⟩ p n c 0 (.slice (some ⟨w.heap.size + 1, 0, none⟩) 1 1) ((w.alloc (.cells #[.bool true, .bool bc, .bool oi, .bool oo, .bool nl, .int .i64 rd, .slice p n c] 24)).alloc (.cells #[.string { data := #[111, 110] }] 9))) := Lib.hid ⟨1, _, 1, rfl, by omega, by omega, Lib.hid rfl, Lib.hid (own_of (b := w.heap.size + 1) (xs := [.string (ofL [111, 110])]) (cs := []) (by omega) T0 rfl rfl (by unfold maxLen; omega)), Lib.hid (((Upd.refl _ w).alloc _).alloc _), Lib.hid ((Blk.made w _ _).alloc _)⟩
    obtain ⟨wf, hwf⟩ : ∃ wf, wf = ((w.alloc (.cells #[.bool true, .bool bc, .bool oi, .bool oo, .bool nl, .int .i64 rd, .slice p n c] 24)).alloc (.cells #[.string { data := #[111, 110] }] 9)) := ⟨_, rfl⟩
    have hws : wf.heap.size = w.heap.size + 1 + 1 := by rw [hwf]; simp
    rw [← hwf] at FR
    obtain ⟨n', p', c', hv, hn', hc', HN, TX, UX, BX⟩ := FR.out
    clear hs1 T0 FE0
    go_enter Tryd.func27, Tryd.ntmps27
    go_upto_if 10 with (fail)
    go_cut [3] (fun v3 wx => Hid (FlR w ⟨true, bc, oi, oo, nl, rd, ps⟩ p n c (0 + 1) v3 wx))
    case first =>
      cases bc with
      | false =>
        have R2 := Lib.hid (FR.out.skip (k := 0) rfl)
        go_wp2
        go_meet
        first | exact R2 | (rw [hwf] at R2; exact R2)
      | true =>
        obtain ⟨p4, c4, w4, hr4, R2⟩ := FR.out.more (by decide) (k := 0) rfl [98, 99, 97, 115, 116] rfl
        rw [hws, hwf] at hr4
        have hr4 : (Builtin.append_ #[22, 22] 22 #[.slice (some ⟨w.heap.size + 1, 0, none⟩) 1 1, .slice (some ⟨w.heap.size + 1 + 1, 0, none⟩) 1 1]).run Tryd.prog (((w.alloc (.cells #[.bool true, .bool true, .bool oi, .bool oo, .bool nl, .int .i64 rd, .slice p n c] 24)).alloc (.cells #[.string { data := #[111, 110] }] 9)).alloc (.cells #[.string { data := #[98, 99, 97, 115, 116] }] 9)) = .ok (.slice p4 (1 + 1) c4) w4 := hr4
        go_wp2_with (at_builtin; refine wpList_builtin rfl _ _ 22 rfl _ _ rfl rfl hr4 ?_)
        go_meet
        first | exact R2 | (rw [hwf] at R2; exact R2)
    case' rest =>
      clear FR
      try clear y0 x0 e0 e1 e2 e3 e4 e5 e6
      have FR := hcut
      clear hcut
      obtain ⟨n', p', c', rfl, hn', hc', HN, TX, UX, BX⟩ := FR.out
      obtain ⟨y0, x0, e0, e1, e2, e3, e4, e5, e6⟩ := mode_facts BX.out
    go_upto_if 15 with (fail)
    go_cut [3] (fun v3 wx => Hid (FlR w ⟨true, bc, oi, oo, nl, rd, ps⟩ p n c (1 + 1) v3 wx))
    case first =>
      cases oi with
      | false =>
        have R2 := Lib.hid (FR.out.skip (k := 1) rfl)
        go_wp2
        go_meet
        first | exact R2 | (rw [hwf] at R2; exact R2)
      | true =>
        obtain ⟨p4, c4, w4, hr4, R2⟩ := FR.out.more (by decide) (k := 1) rfl [111, 112, 116, 105, 110] rfl
        skip
        have hr4 : (Builtin.append_ #[22, 22] 22 #[.slice p' n' c', .slice (some ⟨wc.heap.size, 0, none⟩) 1 1]).run Tryd.prog (wc.alloc (.cells #[.string { data := #[111, 112, 116, 105, 110] }] 9)) = .ok (.slice p4 (n' + 1) c4) w4 := hr4
        go_wp2_with (at_builtin; refine wpList_builtin rfl _ _ 22 rfl _ _ rfl rfl hr4 ?_)
        go_meet
        first | exact R2 | (rw [hwf] at R2; exact R2)
    case' rest =>
      clear FR
      try clear y0 x0 e0 e1 e2 e3 e4 e5 e6
      have FR := hcut
      clear hcut
      obtain ⟨n', p', c', rfl, hn', hc', HN, TX, UX, BX⟩ := FR.out
      obtain ⟨y0, x0, e0, e1, e2, e3, e4, e5, e6⟩ := mode_facts BX.out
    go_upto_if 20 with (fail)
    go_cut [3] (fun v3 wx => Hid (FlR w ⟨true, bc, oi, oo, nl, rd, ps⟩ p n c (2 + 1) v3 wx))
    case first =>
      cases oo with
      | false =>
        have R2 := Lib.hid (FR.out.skip (k := 2) rfl)
        go_wp2
        go_meet
        first | exact R2 | (rw [hwf] at R2; exact R2)
      | true =>
        obtain ⟨p4, c4, w4, hr4, R2⟩ := FR.out.more (by decide) (k := 2) rfl [111, 112, 116, 111, 117, 116] rfl
        skip
        have hr4 : (Builtin.append_ #[22, 22] 22 #[.slice p' n' c', .slice (some ⟨wc.heap.size, 0, none⟩) 1 1]).run Tryd.prog (wc.alloc (.cells #[.string { data := #[111, 112, 116, 111, 117, 116] }] 9)) = .ok (.slice p4 (n' + 1) c4) w4 := hr4
        go_wp2_with (at_builtin; refine wpList_builtin rfl _ _ 22 rfl _ _ rfl rfl hr4 ?_)
        go_meet
        first | exact R2 | (rw [hwf] at R2; exact R2)
    case' rest =>
      clear FR
      try clear y0 x0 e0 e1 e2 e3 e4 e5 e6
      have FR := hcut
      clear hcut
      obtain ⟨n', p', c', rfl, hn', hc', HN, TX, UX, BX⟩ := FR.out
      obtain ⟨y0, x0, e0, e1, e2, e3, e4, e5, e6⟩ := mode_facts BX.out
    go_upto_if 25 with (fail)
    go_cut [3] (fun v3 wx => Hid (FlR w ⟨true, bc, oi, oo, nl, rd, ps⟩ p n c (3 + 1) v3 wx))
    case first =>
      cases nl with
      | false =>
        have R2 := Lib.hid (FR.out.skip (k := 3) rfl)
        go_wp2
        go_meet
        first | exact R2 | (rw [hwf] at R2; exact R2)
      | true =>
        obtain ⟨p4, c4, w4, hr4, R2⟩ := FR.out.more (by decide) (k := 3) rfl [110, 111, 108, 111, 111, 112] rfl
        skip
        have hr4 : (Builtin.append_ #[22, 22] 22 #[.slice p' n' c', .slice (some ⟨wc.heap.size, 0, none⟩) 1 1]).run Tryd.prog (wc.alloc (.cells #[.string { data := #[110, 111, 108, 111, 111, 112] }] 9)) = .ok (.slice p4 (n' + 1) c4) w4 := hr4
        go_wp2_with (at_builtin; refine wpList_builtin rfl _ _ 22 rfl _ _ rfl rfl hr4 ?_)
        go_meet
        first | exact R2 | (rw [hwf] at R2; exact R2)
    case' rest =>
      clear FR
      try clear y0 x0 e0 e1 e2 e3 e4 e5 e6
      have FR := hcut
      clear hcut
      obtain ⟨n', p', c', rfl, hn', hc', HN, TX, UX, BX⟩ := FR.out
      obtain ⟨y0, x0, e0, e1, e2, e3, e4, e5, e6⟩ := mode_facts BX.out
    go_wp2
    go_ret
    exact ⟨_, rfl, by rw [← FE.out]; exact TX.out, UX.out⟩
end Go.Proofs.YtcpfkkbegnhofaaDoor
/- Walk: nearhandref06.Same. -/
set_option linter.unusedVariables false
set_option linter.unusedSimpArgs false
namespace Go.Proofs.YtcpfkkbegnhofaaDoor
open Go.RowKit

theorem StrsAt.row {w : World} {base : Nat} {v : Value} {l : List ByteArray} (h : StrsAt w base v l) : RowOf strc 1 w v l := by
  rcases h.2 with ⟨rfl, hn⟩ | ⟨g, cap, cur, rfl, hg, hb, h1, h2, h3, h4⟩
  · exact Or.inl ⟨none, 0, rfl, by cases l <;> simp_all⟩
  · refine Or.inr ⟨g, 0, cap, rfl, (Array.getElem?_eq_some_iff.1 hb).1, by omega, fun i a hi j hj => ?_⟩
    obtain rfl : j = 0 := by omega
    have hil : i < l.length := (List.getElem?_eq_some_iff.1 hi).1
    have := World.ownsRow.cellAt (w := w) (g := g) (cap := cap) (base := base) (e := 9) (size := 1) (n := l.length) (xs := l.map Value.string) ⟨h.1, Or.inr ⟨g, cap, cur, rfl, hg, hb, h1, h2, h3, h4⟩⟩ i (by omega)
    have e : (0 + (i * 1 + 0)) = i := by omega
    rw [e, this]
    simp [strc, hi]

set_option maxHeartbeats 1000000 in
theorem same06_any (v1 v2 : Value) (l1 l2 : List ByteArray) (w : World) (h1 : RowOf strc 1 w v1 l1) (h2 : RowOf strc 1 w v2 l2) :
    Calls Tryd.prog 26 #[v1, v2] w fun e w' => e = .returned (.bool (decide (l1 = l2))) ∧ ∃ n, w' = w.drewN n := by
  obtain ⟨p1, k1, rfl, b1⟩ := h1.len
  obtain ⟨p2, k2, rfl, b2⟩ := h2.len
  unfold maxLen at b1 b2
  have H1 := Lib.hid h1
  have H2 := Lib.hid h2
  clear h1 h2
  by_cases hl : l1.length = l2.length
  · have hne : ((l1.length : Int) != (l2.length : Int)) = false := by simp [hl]
    have HL := Lib.hid hl
    clear hl
    go_enter Tryd.func26, Tryd.ntmps26
    go_wp2
    go_loopw [13] (fun c wr => ∃ k : Nat, k ≤ l1.length ∧ c = .int .i64 (k : Int) ∧ Hid (l1.take k = l2.take k) ∧ Hid (∃ n, wr = w.drewN n)) (fun c _ => l1.length - (intOf c).toNat)
    case atStart => exact ⟨0, by omega, rfl, by show l1.take 0 = l2.take 0; simp, 0, rfl⟩
    case round =>
      obtain ⟨k, hk, rfl, T, W⟩ := hrel
      by_cases hlt : k < l1.length
      · have hl := HL.out
        obtain ⟨x, hx⟩ : ∃ x, l1[k]? = some x := ⟨_, List.getElem?_eq_getElem hlt⟩
        obtain ⟨y, hy⟩ : ∃ y, l2[k]? = some y := ⟨_, List.getElem?_eq_getElem (by omega : k < l2.length)⟩
        have hlt2 : k < l2.length := by omega
        obtain ⟨g1, o1, q1, e1, _, _, c1⟩ : ∃ b off cap, Value.slice p1 l1.length k1 = .slice (some ⟨b, off, none⟩) l1.length cap ∧ b < w.heap.size ∧ l1.length ≤ maxLen ∧ ∀ i a, l1[i]? = some a → ∀ j, j < 1 → w.cell? ⟨b, off + (i * 1 + j), none⟩ = (strc a)[j]? := by
          rcases H1.out with ⟨_, _, _, e⟩ | h
          · rw [e] at hlt; simp at hlt
          · exact h
        obtain ⟨g2, o2, q2, e2, _, _, c2⟩ : ∃ b off cap, Value.slice p2 l2.length k2 = .slice (some ⟨b, off, none⟩) l2.length cap ∧ b < w.heap.size ∧ l2.length ≤ maxLen ∧ ∀ i a, l2[i]? = some a → ∀ j, j < 1 → w.cell? ⟨b, off + (i * 1 + j), none⟩ = (strc a)[j]? := by
          rcases H2.out with ⟨_, _, _, e⟩ | h
          · rw [e] at hlt2; simp at hlt2
          · exact h
        have d1 : w.cell? ⟨g1, o1 + k, none⟩ = some (.string x) := by have := c1 k x hx 0 (by omega); simpa [strc] using this
        have d2 : w.cell? ⟨g2, o2 + k, none⟩ = some (.string y) := by have := c2 k y hy 0 (by omega); simpa [strc] using this
        simp only [Value.slice.injEq] at e1 e2
        obtain ⟨rfl, _, rfl⟩ := e1
        obtain ⟨rfl, _, rfl⟩ := e2
        obtain ⟨n0, rfl⟩ := W.out
        have HX : Hid (l1.take (k + 1) = l1.take k ++ [x] ∧ l2.take (k + 1) = l2.take k ++ [y]) := by
          obtain ⟨_, r1⟩ := List.getElem?_eq_some_iff.1 hx
          obtain ⟨_, r2⟩ := List.getElem?_eq_some_iff.1 hy
          exact ⟨by rw [List.take_succ_eq_append_getElem hlt, r1], by rw [List.take_succ_eq_append_getElem hlt2, r2]⟩
        clear c1 c2 hx hy hl
        go_wp2
        go_quiet (fail)
        go_wp2
        · have t : (x.toList != y.toList) = true := by assumption
          have hxy : x ≠ y := by rintro rfl; simp at t
          go_ret
          refine ⟨ret_bool ?_, n0 + nq, World.drewN_drewN _ _ _⟩
          have : l1 ≠ l2 := by
            rintro rfl
            have := HX.out.1.symm.trans HX.out.2
            simp at this
            exact hxy this
          simp [this]
        · have t : (x.toList != y.toList) = false := by assumption
          have hxy : x = y := toList_eq (by simpa using t)
          go_roundw
          case rel =>
            refine ⟨k + 1, by omega, rfl, ?_, n0 + nq, rfl⟩
            show l1.take (k + 1) = l2.take (k + 1)
            rw [HX.out.1, HX.out.2, T.out, hxy]
          case measure => simp [intOf]; omega
      · have hk2 : k = l1.length := by omega
        subst hk2
        go_wp2
        go_ret
        refine ⟨ret_bool ?_, W.out⟩
        have := T.out
        rw [List.take_length, HL.out, List.take_length] at this
        simp [this]
  · have hne : ((l1.length : Int) != (l2.length : Int)) = true := by rw [bne_iff_ne]; omega
    have HL := Lib.hid hl
    clear hl
    go_enter Tryd.func26, Tryd.ntmps26
    go_wp2
    go_ret
    refine ⟨ret_bool ?_, 0, rfl⟩
    have : l1 ≠ l2 := fun e => HL.out (by rw [e])
    simp [this]
end Go.Proofs.YtcpfkkbegnhofaaDoor
