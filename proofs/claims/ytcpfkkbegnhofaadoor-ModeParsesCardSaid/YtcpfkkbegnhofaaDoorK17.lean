/- Walk: ModeParses. Printed by genparses.py. -/
import Derived.Test.YtcpfkkbegnhofaaDoorK14
import Derived.Test.YtcpfkkbegnhofaaDoorK16
import Derived.Deep.DeepCutAuto
import Derived.Test.YtcpfkkbegnhofaaDoorRows
import Derived.Test.YtcpfkkbegnhofaaDoorK10
import Derived.ProofKit
import Derived.LaidMore
import Derived.Lay
import Derived.OpenShut
import Derived.Stop.Joined
import Derived.Stop.LaidErr
import Derived.Lib.LaidTab
import Derived.Lib.LaidU8
import Derived.Test.YtcpfkkbegnhofaaDoorK04
import Derived.Deep.Slices
import Derived.Deep.Fields
import Derived.ChangeSame
set_option linter.unusedVariables false
set_option linter.unusedSimpArgs false
namespace Go.Proofs.YtcpfkkbegnhofaaDoor
open Go.RowKit

theorem ofL_appM (a b : Txt) : ofL (a ++ b) = ofL a ++ ofL b := by
  unfold ofL
  apply ByteArray.ext
  simp
theorem optsM_len : ∀ (n : Nat) (m m' : MD) (l : List Txt), l.length ≤ n → optsM m l = some m' → m'.ps.length ≤ m.ps.length + l.length
  | _, m, m', [], _, h => by rw [optsM_nil] at h; cases h; simp
  | 0, m, m', w :: r, hl, h => by simp at hl
  | n + 1, m, m', w :: r, hl, h => by
    rw [optsM_step] at h
    cases hs : optStep m w r with
    | none => rw [hs] at h; cases h
    | some x =>
      obtain ⟨m1, k⟩ := x
      rw [hs] at h
      have h : optsM m1 (r.drop (k - 1)) = some m' := h
      obtain ⟨_, _, h3, _, _⟩ := optStep_bounds hs
      have hl : r.length ≤ n := by simpa using hl
      have := optsM_len n m1 m' (r.drop (k - 1)) (by rw [List.length_drop]; omega) h
      rw [List.length_drop] at this
      simp only [List.length_cons]; omega
theorem parse_len (ws : List Txt) : (parseM ws).1.ps.length ≤ ws.length + 1 := by
  unfold parseM
  cases ws with
  | nil => simp [offM]
  | cons w r =>
    dsimp only
    split
    · simp [offM]
    · split
      · simp [offM]
      · next m hm =>
        have h1 := optsM_len r.length _ _ r (Nat.le_refl _) hm
        simp only [offM, List.length_nil, Nat.zero_add] at h1
        split
        · simp [offM]
        · split
          · show (if _ then _ else _ : List Txt).length ≤ _
            split
            · simp
            · rw [(ordT_perm m.ps).length_eq]; simp; omega
          · simp [offM]
theorem right_big (m : MD) (p : Option Addr) (n c : Nat) (hn : n = m.ps.length) (r : Bool) (hr : rightM m = r) (W : World) (h : RowOf txtc 1 W (.slice p n c) m.ps) (hl : m.ps.length ≤ 100000) (hs : ∀ t ∈ m.ps, t.length ≤ maxLen) :
    Calls Tryd.prog 18 #[.agg #[.bool m.on, .bool m.bc, .bool m.oi, .bool m.oo, .bool m.nl, .int .i64 m.rd, .slice p n c]] W fun e w' => e = .returned (.bool r) ∧ Upd (fun _ => False) W w' := by
  subst hn hr
  exact right_any m _ W h (by omega) hs
theorem copy_out (m : MD) (p : Option Addr) (n c : Nat) (hn : n = m.ps.length) (W : World) (h : RowOf txtc 1 W (.slice p n c) m.ps) (hl : m.ps.length ≤ 1000) :
    Calls Tryd.prog 16 #[.agg #[.bool m.on, .bool m.bc, .bool m.oi, .bool m.oo, .bool m.nl, .int .i64 m.rd, .slice p n c]] W fun e w' => ∃ p5 c5, e = .returned (.agg #[.bool m.on, .bool m.bc, .bool m.oi, .bool m.oo, .bool m.nl, .int .i64 m.rd, .slice p5 n c5]) ∧ n ≤ c5 ∧ c5 ≤ 9223372036854775807 ∧ TxtsAt w' W.heap.size (.slice p5 n c5) m.ps ∧ Upd (fun _ => False) W w' := by
  subst hn
  refine (copy_any m _ W h (by omega)).mono ?_
  rintro e w' ⟨v', rfl, t, u⟩
  obtain ⟨p5, c5, rfl, _⟩ := own_slice t
  have h2 := (rwt_own t rfl).2
  unfold maxLen at h2
  exact ⟨p5, c5, rfl, h2.1, by omega, t, u⟩
set_option maxHeartbeats 8000000 in
set_option maxRecDepth 100000 in
theorem lawMParses (ws : List Txt) (m : MD) (pw p : Option Addr) (cw c : Nat) (w : World) (hw : RwT w pw cw ws) (hwz : ∀ t ∈ ws, t.length ≤ maxLen) (h : RwT w p c m.ps) (hz : ∀ t ∈ m.ps, t.length ≤ maxLen) (hs : StdU w) :
    Calls Tryd.prog 4 #[.slice pw ws.length cw, mdV m (.slice p m.ps.length c)] w fun e w' => e = .returned (.bool true) ∧ Upd (fun _ => False) w w' := by
  have hla := h.2
  have hlw := hw.2
  unfold maxLen at hla hlw
  obtain ⟨n, hn⟩ : ∃ n, n = m.ps.length := ⟨_, rfl⟩
  obtain ⟨nw, hnw⟩ : ∃ nw, nw = ws.length := ⟨_, rfl⟩
  unfold mdV
  rw [← hn, ← hnw]
  rw [← hn] at hla
  rw [← hnw] at hlw
  have NA := Lib.hid hn
  have NW := Lib.hid hnw
  have GA := Lib.hid (fun W (u : Upd (fun _ => False) w W) => great_out m p n c hn W (h.keep u) hz)
  have HA := Lib.hid h
  have HW := Lib.hid hw
  have HS := Lib.hid hs
  have ZA := Lib.hid hz
  have RAw : Hid (∀ W, Upd (fun _ => False) w W → RowOf txtc 1 W (.slice p n c) m.ps) := Lib.hid (fun W u => by rw [NA.out]; exact (HA.out.keep u).1)
  clear h hw hz hs hn hnw hwz
  have U0 : Hid (Upd (fun _ => False) w (w.alloc (.cells #[.bool m.on, .bool m.bc, .bool m.oi, .bool m.oo, .bool m.nl, .int .i64 m.rd, .slice p n c] 24))) := Lib.hid ((Upd.refl _ _).alloc _)
  have BA0 := Lib.hid (Blk.made w [.bool m.on, .bool m.bc, .bool m.oi, .bool m.oo, .bool m.nl, .int .i64 m.rd, .slice p n c] 24)
  have AL := Lib.hid (alive_any _ (HS.out.keep U0.out))
  go_enter Tryd.func4, Tryd.ntmps4
  go_wp2_with fail
  refine AL.out.mono ?_
  rintro e w1 ⟨rfl, u1⟩
  have U1 := Lib.hid (U0.out.trans u1 (fun _ _ h => h))
  have BA1 := Lib.hid (u1.blk BA0.out id)
  obtain ⟨ya, ga, a0, a1, a2, a3, a4, a5, a6⟩ := mode_facts BA1.out
  have G1 := Lib.hid (GA.out w1 U1.out)
  clear u1 BA0 U0 AL
  by_cases h80 : 80 < nw
  · have q80 : (80 : Int) < (nw : Int) := by omega
    go_wp2
    go_ret
    exact ⟨rfl, U1.out⟩
  have q80 : ¬ (80 : Int) < (nw : Int) := by omega
  go_wp2_with fail
  refine G1.out.mono ?_
  rintro e w2 ⟨g, rfl, hg, u2⟩
  have U2 := Lib.hid (U1.out.trans u2 (fun _ _ h => h))
  cases g with
  | true =>
    clear u2
    go_wp2
    go_ret
    exact ⟨rfl, U2.out⟩
  | false =>
  have SA := Lib.hid (hg rfl)
  have BA2 := Lib.hid (u2.blk BA1.out id)
  clear u2 BA1 hg ya ga a0 a1 a2 a3 a4 a5 a6 G1 GA
  go_wp2
  go_loopw [4, 23] (fun v4 v23 wx => ∃ k : Nat, v4 = .bool false ∧ v23 = .int .i64 (k : Int) ∧ k ≤ nw ∧ Hid (∀ t ∈ ws.take k, t.length ≤ 600) ∧ Hid (wx = w2)) (fun _ v23 _ => nw - (intOf v23).toNat)
  case atStart => exact ⟨0, rfl, rfl, by omega, Lib.hid (by simp), Lib.hid rfl⟩
  case round =>
    obtain ⟨k, rfl, rfl, hk, LE, WE⟩ := hrel
    have hwe := WE.out
    subst hwe
    clear WE
    by_cases hlt : k < nw
    · have q1 : (k : Int) < (nw : Int) := by omega
      obtain ⟨t, ht⟩ : ∃ t, ws[k]? = some t := ⟨_, List.getElem?_eq_getElem (by rw [← NW.out]; exact hlt)⟩
      obtain ⟨wb, off, hp, hwb, c9⟩ := txt_rcell (HW.out.keep U2.out).1 (k := k) (by rw [← NW.out]; exact hlt)
      subst hp
      have ct : wr.cell? ⟨wb, off + k, none⟩ = some (.string (ofL t)) := row_cell (HW.out.keep U2.out).1 ht
      have hts := ofL_size t
      obtain ⟨st, hst⟩ : ∃ st, st = ofL t := ⟨_, rfl⟩
      rw [← hst] at ct hts
      by_cases h6 : t.length ≤ 600
      · have q6 : ¬ (600 : Int) < (st.size : Int) := by omega
        have LE2 := Lib.hid (take_leT LE.out ht h6)
        clear c9 ht hst hts
        go_wp2
        go_roundw
        case rel => exact ⟨k + 1, rfl, by go_num, by omega, LE2, Lib.hid (by first | trivial | rfl)⟩
        case measure => simp [intOf]; omega
      · have q6 : (600 : Int) < (st.size : Int) := by omega
        clear c9 ht hst hts
        go_wp2
        go_ret
        exact ⟨rfl, U2.out⟩
    · have q1 : ¬ (k : Int) < (nw : Int) := by omega
      have LW : Hid (∀ t ∈ ws, t.length ≤ 10000) := Lib.hid (fun t ht => by
        have := LE.out t (by rw [List.take_of_length_le (by rw [← NW.out]; omega)]; exact ht); omega)
      clear LE hk hlt
      obtain ⟨M, er, hM⟩ : ∃ M er, parseM ws = (M, er) := ⟨_, _, rfl⟩
      have P1 := parseR_any pw cw ws wr (HW.out.keep U2.out) (HS.out.keep U2.out) (by rw [← NW.out]; omega) LW.out M er hM
      rw [← NW.out] at P1
      have P1 := Lib.hid P1
      have HM := Lib.hid hM
      obtain ⟨na, hna⟩ : ∃ na, na = M.ps.length := ⟨_, rfl⟩
      have NM := Lib.hid hna
      clear hM
      go_wp2_with fail
      refine P1.out.mono ?_
      rintro e w3 ⟨pa, ca, rfl, hca, ta, u3⟩
      rw [← hna] at ta ⊢
      have hna2 : na ≤ 9223372036854775807 := by obtain ⟨_, _, _, hle⟩ := own_slice ta; unfold maxLen at hle; omega
      obtain ⟨o3, ho3⟩ : ∃ o3, o3 = Obj.cells #[.bool M.on, .bool M.bc, .bool M.oi, .bool M.oo, .bool M.nl, .int .i64 M.rd, .slice pa na ca] 24 := ⟨_, rfl⟩
      have BM3 := (u3.blk BA2.out id).alloc o3
      have BA3 : Blk (w3.alloc o3) w3.heap.size [.bool M.on, .bool M.bc, .bool M.oi, .bool M.oo, .bool M.nl, .int .i64 M.rd, .slice pa na ca] 24 := by rw [ho3]; exact Blk.made w3 _ _
      have RA3 : RowOf txtc 1 (w3.alloc o3) (.slice pa na ca) M.ps := txts_row (own_keep ta ((Upd.refl (fun _ => False) w3).alloc o3) (fun _ _ h => h))
      have U3 : Upd (fun _ => False) w (w3.alloc o3) := (U2.out.trans u3 (fun _ _ h => h)).alloc o3
      have P2 := parse13_any pw cw ws (w3.alloc o3) (HW.out.keep U3) (by rw [← NW.out]; omega) LW.out
      rw [HM.out] at P2
      dsimp only at P2
      rw [← NW.out] at P2
      rw [ho3] at BM3 BA3 RA3 U3 P2
      have BM3 := Lib.hid BM3
      have BA3 := Lib.hid BA3
      have RA3 := Lib.hid RA3
      have U3 := Lib.hid U3
      have P2 := Lib.hid P2
      clear hna ho3 o3 ta u3 P1 BA2
      go_wp2_with fail
      refine P2.out.mono ?_
      rintro e w4 ⟨pb, cb, rfl, hcb, tb, u4⟩
      rw [← NM.out] at tb ⊢
      obtain ⟨o4, ho4⟩ : ∃ o4, o4 = Obj.cells #[.bool M.on, .bool M.bc, .bool M.oi, .bool M.oo, .bool M.nl, .int .i64 M.rd, .slice pb na cb] 24 := ⟨_, rfl⟩
      have BM4 := (u4.blk BM3.out id).alloc o4
      have BA4 := (u4.blk BA3.out id).alloc o4
      have BB4 : Blk (w4.alloc o4) w4.heap.size [.bool M.on, .bool M.bc, .bool M.oi, .bool M.oo, .bool M.nl, .int .i64 M.rd, .slice pb na cb] 24 := by rw [ho4]; exact Blk.made w4 _ _
      have RA4 := (RA3.out.keep u4 (fun _ _ _ => id)).keep ((Upd.refl _ _).alloc o4) (fun _ _ _ => id)
      have RB4 : RowOf txtc 1 (w4.alloc o4) (.slice pb na cb) M.ps := txts_row (own_keep tb ((Upd.refl (fun _ => False) w4).alloc o4) (fun _ _ h => h))
      have U4 : Upd (fun _ => False) w (w4.alloc o4) := (U3.out.trans u4 (fun _ _ h => h)).alloc o4
      have P3 := copy_out m p n c NA.out (w4.alloc o4) (RAw.out _ U4) (by have := SA.out.1; omega)
      rw [ho4] at BM4 BA4 BB4 RA4 RB4 U4 P3
      have BM4 := Lib.hid BM4
      have BA4 := Lib.hid BA4
      have BB4 := Lib.hid BB4
      have RA4 := Lib.hid RA4
      have RB4 := Lib.hid RB4
      have U4 := Lib.hid U4
      have P3 := Lib.hid P3
      clear ho4 o4 tb u4 P2 BM3 BA3 RA3
      obtain ⟨ym, gm, m0, m1, m2, m3, m4, m5, m6⟩ := mode_facts BM4.out
      go_wp2_with fail
      refine P3.out.mono ?_
      rintro e w5 ⟨p5, c5, rfl, hc5, hc5', tc, u5⟩
      obtain ⟨o5, ho5⟩ : ∃ o5, o5 = Obj.cells #[.bool m.on, .bool m.bc, .bool m.oi, .bool m.oo, .bool m.nl, .int .i64 m.rd, .slice p5 n c5] 24 := ⟨_, rfl⟩
      have BM5 := (u5.blk BM4.out id).alloc o5
      have BA5 := (u5.blk BA4.out id).alloc o5
      have BB5 := (u5.blk BB4.out id).alloc o5
      have BC5 : Blk (w5.alloc o5) w5.heap.size [.bool m.on, .bool m.bc, .bool m.oi, .bool m.oo, .bool m.nl, .int .i64 m.rd, .slice p5 n c5] 24 := by rw [ho5]; exact Blk.made w5 _ _
      have RA5 := (RA4.out.keep u5 (fun _ _ _ => id)).keep ((Upd.refl _ _).alloc o5) (fun _ _ _ => id)
      have RB5 := (RB4.out.keep u5 (fun _ _ _ => id)).keep ((Upd.refl _ _).alloc o5) (fun _ _ _ => id)
      have TC5 := own_keep tc ((Upd.refl (fun _ => False) w5).alloc o5) (fun _ _ h => h)
      have U5 : Upd (fun _ => False) w (w5.alloc o5) := (U4.out.trans u5 (fun _ _ h => h)).alloc o5
      have hbase : w.heap.size ≤ (w4.alloc (.cells #[.bool M.on, .bool M.bc, .bool M.oi, .bool M.oo, .bool M.nl, .int .i64 M.rd, .slice pb na cb] 24)).heap.size := U4.out.size
      rw [ho5] at BM5 BA5 BB5 BC5 RA5 RB5 TC5 U5
      clear ho5 o5 tc u5 P3 BM4 BA4 BB4 RA4 RB4 ym gm m0 m1 m2 m3 m4 m5 m6
      go_upto_region 14 with (fail)
      generalize (w5.alloc (.cells #[.bool m.on, .bool m.bc, .bool m.oi, .bool m.oo, .bool m.nl, .int .i64 m.rd, .slice p5 n c5] 24)) = wz at *
      have UZ := Lib.hid U5
      have RA := Lib.hid RA5
      have RB := Lib.hid RB5
      have TC := Lib.hid TC5
      have BMZ := Lib.hid BM5
      have BCZ := Lib.hid BC5
      have HB := Lib.hid hbase
      have KP : Hid (∀ W, Upd (fun _ => False) wz W → (W.cell? ⟨w3.heap.size, 0, none⟩ = some (.bool M.on) ∧ W.cell? ⟨w3.heap.size, 1, none⟩ = some (.bool M.bc) ∧ W.cell? ⟨w3.heap.size, 2, none⟩ = some (.bool M.oi) ∧ W.cell? ⟨w3.heap.size, 3, none⟩ = some (.bool M.oo) ∧ W.cell? ⟨w3.heap.size, 4, none⟩ = some (.bool M.nl) ∧ W.cell? ⟨w3.heap.size, 5, none⟩ = some (.int .i64 M.rd) ∧ W.cell? ⟨w3.heap.size, 6, none⟩ = some (.slice pa na ca)) ∧ (W.cell? ⟨w4.heap.size, 0, none⟩ = some (.bool M.on) ∧ W.cell? ⟨w4.heap.size, 1, none⟩ = some (.bool M.bc) ∧ W.cell? ⟨w4.heap.size, 2, none⟩ = some (.bool M.oi) ∧ W.cell? ⟨w4.heap.size, 3, none⟩ = some (.bool M.oo) ∧ W.cell? ⟨w4.heap.size, 4, none⟩ = some (.bool M.nl) ∧ W.cell? ⟨w4.heap.size, 5, none⟩ = some (.int .i64 M.rd) ∧ W.cell? ⟨w4.heap.size, 6, none⟩ = some (.slice pb na cb)) ∧ (W.cell? ⟨w.heap.size, 0, none⟩ = some (.bool m.on) ∧ W.cell? ⟨w.heap.size, 1, none⟩ = some (.bool m.bc) ∧ W.cell? ⟨w.heap.size, 2, none⟩ = some (.bool m.oi) ∧ W.cell? ⟨w.heap.size, 3, none⟩ = some (.bool m.oo) ∧ W.cell? ⟨w.heap.size, 4, none⟩ = some (.bool m.nl) ∧ W.cell? ⟨w.heap.size, 5, none⟩ = some (.int .i64 m.rd) ∧ W.cell? ⟨w.heap.size, 6, none⟩ = some (.slice p n c)) ∧ (W.cell? ⟨w5.heap.size, 0, none⟩ = some (.bool m.on) ∧ W.cell? ⟨w5.heap.size, 1, none⟩ = some (.bool m.bc) ∧ W.cell? ⟨w5.heap.size, 2, none⟩ = some (.bool m.oi) ∧ W.cell? ⟨w5.heap.size, 3, none⟩ = some (.bool m.oo) ∧ W.cell? ⟨w5.heap.size, 4, none⟩ = some (.bool m.nl) ∧ W.cell? ⟨w5.heap.size, 5, none⟩ = some (.int .i64 m.rd) ∧ W.cell? ⟨w5.heap.size, 6, none⟩ = some (.slice p5 n c5))) := Lib.hid (fun W u => ⟨(mode_facts (u.blk BA5 id)).2.2, (mode_facts (u.blk BB5 id)).2.2, (mode_facts (u.blk BM5 id)).2.2, (mode_facts (u.blk BC5 id)).2.2⟩)
      have LMN : Hid (M.ps.length ≤ 100000) := Lib.hid (by
        have h1 := parse_len ws
        rw [HM.out] at h1
        have h2 : M.ps.length ≤ ws.length + 1 := h1
        rw [← NW.out] at h2; omega)
      have C1 := Lib.hid (fun W (u : Upd (fun _ => False) wz W) => same13_out M M pa pb na na ca cb NM.out NM.out true (by simp) W (RA.out.keep u (fun _ _ _ => id)) (RB.out.keep u (fun _ _ _ => id)) LMN.out)
      obtain ⟨rb, hrb⟩ : ∃ rb, rightM m = rb := ⟨_, rfl⟩
      have C2 := Lib.hid (fun W (u : Upd (fun _ => False) wz W) => right_big m p n c NA.out rb hrb W (RAw.out _ (UZ.out.trans u (fun _ _ h => h))) (by have := SA.out.1; omega) ZA.out)
      have C3 := Lib.hid (fun W (u : Upd (fun _ => False) wz W) => right13_big m p n c NA.out rb hrb W (HA.out.keep (UZ.out.trans u (fun _ _ h => h))) (by have := SA.out.1; omega) ZA.out)
      have C4 := Lib.hid (fun W (u : Upd (fun _ => False) wz W) => same13_out m m p5 p n n c5 c NA.out NA.out true (by simp) W (txts_row (own_keep TC.out u (fun _ _ h => h))) (RAw.out _ (UZ.out.trans u (fun _ _ h => h))) (by have := SA.out.1; omega))
      have UU : Hid (Upd (fun _ => False) wz wz.drew) := Lib.hid (Upd.refl _ _).drew
      have qer : ((er : Int) != er) = false := by simp
      have qrb : (rb != rb) = false := by simp
      clear hrb BA5 BB5 BM5 BC5 RA5 RB5 TC5 U5 RA RB hbase
      go_cut [64] (fun v64 wx => v64 = .bool false ∧ Hid (Upd (fun _ => False) wz wx))
      case first =>
        refine wp_region_held_drew (S := fun w' => Hid (Upd (fun _ => False) wz w')) (by kernel_rfl) ?_ (fun hHeld => ?_)
        · exact UU
        try simp only [Array.replicate, Act.put, List.setIfInBounds_toArray]
        refine' wpAnyH_take (i := 0) (oi := _) (v := _) ?hiQ1 (by kernel_rfl) (by kernel_rfl) (by kernel_rfl) ?hQQ1 ?hyQ1 (by assumption) ?restQ1
        case' hiQ1 => (first | (simp only [List.getElem?_toArray, List.getElem?_cons_succ, List.getElem?_cons_zero]; done) | (simp only [List.getElem?_toArray, List.getElem?_cons_succ, List.getElem?_cons_zero]; rfl))
        case' hQQ1 => exact fun _ _ _ h => h
        case' hyQ1 => refine Or.inl ⟨by rfl, ?_⟩
        (intro w hSw; (obtain ⟨⟨x0, x1, x2, x3, x4, x5, x6⟩, ⟨y0, y1, y2, y3, y4, y5, y6⟩, ⟨z0, z1, z2, z3, z4, z5, z6⟩, ⟨t0, t1, t2, t3, t4, t5, t6⟩⟩ := KP.out _ hSw.out); go_simp; try with_reducible rfl)
        try simp only [Act.put, List.setIfInBounds_toArray, List.set_cons_zero, List.set_cons_succ]
        refine' wpAnyH_take (i := 1) (oi := _) (v := _) ?hiQ2 (by kernel_rfl) (by kernel_rfl) (by kernel_rfl) ?hQQ2 ?hyQ2 (by assumption) ?restQ2
        case' hiQ2 => (first | (simp only [List.getElem?_toArray, List.getElem?_cons_succ, List.getElem?_cons_zero]; done) | (simp only [List.getElem?_toArray, List.getElem?_cons_succ, List.getElem?_cons_zero]; rfl))
        case' hQQ2 => exact fun _ _ _ h => h
        case' hyQ2 => refine Or.inl ⟨by rfl, ?_⟩
        (intro w hSw; (obtain ⟨⟨x0, x1, x2, x3, x4, x5, x6⟩, ⟨y0, y1, y2, y3, y4, y5, y6⟩, ⟨z0, z1, z2, z3, z4, z5, z6⟩, ⟨t0, t1, t2, t3, t4, t5, t6⟩⟩ := KP.out _ hSw.out); go_simp; try with_reducible rfl)
        try simp only [Act.put, List.setIfInBounds_toArray, List.set_cons_zero, List.set_cons_succ]
        refine wpAnyH_ready (rs := [2]) (by kernel_rfl) (by simp) ?_
        refine' AllReadyH.cons (o := _) ?hiQ3 (fun K hK => ?hKQ3) AllReadyH.nil
        case' hiQ3 => (first | (simp only [List.getElem?_toArray, List.getElem?_cons_succ, List.getElem?_cons_zero]; done) | (simp only [List.getElem?_toArray, List.getElem?_cons_succ, List.getElem?_cons_zero]; rfl))
        go_simp
        (go_at_call 17; refine (C1.out _ UU.out).mono ?_; rintro e w9 ⟨rfl, u9⟩; (have UU := Lib.hid (UU.out.trans u9 (fun _ _ h => h))))
        refine hK.out _ _ ?_ (fun hHeld => ?_)
        · exact UU
        clear hK K
        try simp only [Act.put, List.setIfInBounds_toArray, List.set_cons_zero, List.set_cons_succ]
        refine' wpAnyH_take (i := 3) (oi := _) (v := _) ?hiQ4 (by kernel_rfl) (by kernel_rfl) (by kernel_rfl) ?hQQ4 ?hyQ4 (by assumption) ?restQ4
        case' hiQ4 => (first | (simp only [List.getElem?_toArray, List.getElem?_cons_succ, List.getElem?_cons_zero]; done) | (simp only [List.getElem?_toArray, List.getElem?_cons_succ, List.getElem?_cons_zero]; rfl))
        case' hQQ4 => exact fun _ _ _ h => h
        case' hyQ4 => refine Or.inl ⟨by rfl, ?_⟩
        (intro w hSw; (try dsimp only at hSw); go_simp; try with_reducible rfl)
        try simp only [Act.put, List.setIfInBounds_toArray, List.set_cons_zero, List.set_cons_succ]
        refine' wpAnyH_take (i := 4) (oi := _) (v := _) ?hiQ5 (by kernel_rfl) (by kernel_rfl) (by kernel_rfl) ?hQQ5 ?hyQ5 (by assumption) ?restQ5
        case' hiQ5 => (first | (simp only [List.getElem?_toArray, List.getElem?_cons_succ, List.getElem?_cons_zero]; done) | (simp only [List.getElem?_toArray, List.getElem?_cons_succ, List.getElem?_cons_zero]; rfl))
        case' hQQ5 => exact fun _ _ _ h => h
        case' hyQ5 => refine Or.inl ⟨by rfl, ?_⟩
        (intro w hSw; (try dsimp only at hSw); go_simp; try with_reducible rfl)
        try simp only [Act.put, List.setIfInBounds_toArray, List.set_cons_zero, List.set_cons_succ]
        refine' wpAnyH_take (i := 5) (oi := _) (v := _) ?hiQ6 (by kernel_rfl) (by kernel_rfl) (by kernel_rfl) ?hQQ6 ?hyQ6 (by assumption) ?restQ6
        case' hiQ6 => (first | (simp only [List.getElem?_toArray, List.getElem?_cons_succ, List.getElem?_cons_zero]; done) | (simp only [List.getElem?_toArray, List.getElem?_cons_succ, List.getElem?_cons_zero]; rfl))
        case' hQQ6 => exact fun _ _ _ h => h
        case' hyQ6 => refine Or.inl ⟨by rfl, ?_⟩
        (intro w hSw; (try dsimp only at hSw); go_simp; try with_reducible rfl)
        try simp only [Act.put, List.setIfInBounds_toArray, List.set_cons_zero, List.set_cons_succ]
        refine' wpAnyH_take (i := 6) (oi := _) (v := _) ?hiQ7 (by kernel_rfl) (by kernel_rfl) (by kernel_rfl) ?hQQ7 ?hyQ7 (by assumption) ?restQ7
        case' hiQ7 => (first | (simp only [List.getElem?_toArray, List.getElem?_cons_succ, List.getElem?_cons_zero]; done) | (simp only [List.getElem?_toArray, List.getElem?_cons_succ, List.getElem?_cons_zero]; rfl))
        case' hQQ7 => exact fun _ _ _ h => h
        case' hyQ7 => refine Or.inl ⟨by rfl, ?_⟩
        (intro w hSw; (try dsimp only at hSw); go_simp; try with_reducible rfl)
        try simp only [Act.put, List.setIfInBounds_toArray, List.set_cons_zero, List.set_cons_succ]
        refine' wpAnyH_take (i := 7) (oi := _) (v := _) ?hiQ8 (by kernel_rfl) (by kernel_rfl) (by kernel_rfl) ?hQQ8 ?hyQ8 (by assumption) ?restQ8
        case' hiQ8 => (first | (simp only [List.getElem?_toArray, List.getElem?_cons_succ, List.getElem?_cons_zero]; done) | (simp only [List.getElem?_toArray, List.getElem?_cons_succ, List.getElem?_cons_zero]; rfl))
        case' hQQ8 => exact fun _ _ _ h => h
        case' hyQ8 => refine Or.inl ⟨by rfl, ?_⟩
        (intro w hSw; (try dsimp only at hSw); go_simp; try with_reducible rfl)
        try simp only [Act.put, List.setIfInBounds_toArray, List.set_cons_zero, List.set_cons_succ]
        refine' wpAnyH_take (i := 8) (oi := _) (v := _) ?hiQ9 (by kernel_rfl) (by kernel_rfl) (by kernel_rfl) ?hQQ9 ?hyQ9 (by assumption) ?restQ9
        case' hiQ9 => (first | (simp only [List.getElem?_toArray, List.getElem?_cons_succ, List.getElem?_cons_zero]; done) | (simp only [List.getElem?_toArray, List.getElem?_cons_succ, List.getElem?_cons_zero]; rfl))
        case' hQQ9 => exact fun _ _ _ h => h
        case' hyQ9 => refine Or.inl ⟨by rfl, ?_⟩
        (intro w hSw; (try dsimp only at hSw); go_simp; try with_reducible rfl)
        try simp only [Act.put, List.setIfInBounds_toArray, List.set_cons_zero, List.set_cons_succ]
        refine' wpAnyH_take (i := 9) (oi := _) (v := _) ?hiQ10 (by kernel_rfl) (by kernel_rfl) (by kernel_rfl) ?hQQ10 ?hyQ10 (by assumption) ?restQ10
        case' hiQ10 => (first | (simp only [List.getElem?_toArray, List.getElem?_cons_succ, List.getElem?_cons_zero]; done) | (simp only [List.getElem?_toArray, List.getElem?_cons_succ, List.getElem?_cons_zero]; rfl))
        case' hQQ10 => exact fun _ _ _ h => h
        case' hyQ10 => refine Or.inl ⟨by rfl, ?_⟩
        (intro w hSw; (try dsimp only at hSw); go_simp; try with_reducible rfl)
        try simp only [Act.put, List.setIfInBounds_toArray, List.set_cons_zero, List.set_cons_succ]
        refine' wpAnyH_take (i := 10) (oi := _) (v := _) ?hiQ11 (by kernel_rfl) (by kernel_rfl) (by kernel_rfl) ?hQQ11 ?hyQ11 (by assumption) ?restQ11
        case' hiQ11 => (first | (simp only [List.getElem?_toArray, List.getElem?_cons_succ, List.getElem?_cons_zero]; done) | (simp only [List.getElem?_toArray, List.getElem?_cons_succ, List.getElem?_cons_zero]; rfl))
        case' hQQ11 => exact fun _ _ _ h => h
        case' hyQ11 => refine Or.inl ⟨by rfl, ?_⟩
        (intro w hSw; (obtain ⟨⟨x0, x1, x2, x3, x4, x5, x6⟩, ⟨y0, y1, y2, y3, y4, y5, y6⟩, ⟨z0, z1, z2, z3, z4, z5, z6⟩, ⟨t0, t1, t2, t3, t4, t5, t6⟩⟩ := KP.out _ hSw.out); go_simp; try with_reducible rfl)
        try simp only [Act.put, List.setIfInBounds_toArray, List.set_cons_zero, List.set_cons_succ]
        refine' wpAnyH_take (i := 12) (oi := _) (v := _) ?hiQ12 (by kernel_rfl) (by kernel_rfl) (by kernel_rfl) ?hQQ12 ?hyQ12 (by assumption) ?restQ12
        case' hiQ12 => (first | (simp only [List.getElem?_toArray, List.getElem?_cons_succ, List.getElem?_cons_zero]; done) | (simp only [List.getElem?_toArray, List.getElem?_cons_succ, List.getElem?_cons_zero]; rfl))
        case' hQQ12 => exact fun _ _ _ h => h
        case' hyQ12 => refine Or.inl ⟨by rfl, ?_⟩
        (intro w hSw; (obtain ⟨⟨x0, x1, x2, x3, x4, x5, x6⟩, ⟨y0, y1, y2, y3, y4, y5, y6⟩, ⟨z0, z1, z2, z3, z4, z5, z6⟩, ⟨t0, t1, t2, t3, t4, t5, t6⟩⟩ := KP.out _ hSw.out); go_simp; try with_reducible rfl)
        try simp only [Act.put, List.setIfInBounds_toArray, List.set_cons_zero, List.set_cons_succ]
        refine wpAnyH_ready (rs := [11]) (by kernel_rfl) (by simp) ?_
        refine' AllReadyH.cons (o := _) ?hiQ13 (fun K hK => ?hKQ13) AllReadyH.nil
        case' hiQ13 => (first | (simp only [List.getElem?_toArray, List.getElem?_cons_succ, List.getElem?_cons_zero]; done) | (simp only [List.getElem?_toArray, List.getElem?_cons_succ, List.getElem?_cons_zero]; rfl))
        go_simp
        (go_at_call 18; refine (C2.out _ UU.out).mono ?_; rintro e w9 ⟨rfl, u9⟩; (have UU := Lib.hid (UU.out.trans u9 (fun _ _ h => h))))
        refine hK.out _ _ ?_ (fun hHeld => ?_)
        · exact UU
        clear hK K
        try simp only [Act.put, List.setIfInBounds_toArray, List.set_cons_zero, List.set_cons_succ]
        refine wpAnyH_ready (rs := [13]) (by kernel_rfl) (by simp) ?_
        refine' AllReadyH.cons (o := _) ?hiQ14 (fun K hK => ?hKQ14) AllReadyH.nil
        case' hiQ14 => (first | (simp only [List.getElem?_toArray, List.getElem?_cons_succ, List.getElem?_cons_zero]; done) | (simp only [List.getElem?_toArray, List.getElem?_cons_succ, List.getElem?_cons_zero]; rfl))
        go_simp
        (go_at_call 11; refine (C3.out _ UU.out).mono ?_; rintro e w9 ⟨rfl, u9⟩; (have UU := Lib.hid (UU.out.trans u9 (fun _ _ h => h))))
        refine hK.out _ _ ?_ (fun hHeld => ?_)
        · exact UU
        clear hK K
        try simp only [Act.put, List.setIfInBounds_toArray, List.set_cons_zero, List.set_cons_succ]
        refine' wpAnyH_take (i := 14) (oi := _) (v := _) ?hiQ15 (by kernel_rfl) (by kernel_rfl) (by kernel_rfl) ?hQQ15 ?hyQ15 (by assumption) ?restQ15
        case' hiQ15 => (first | (simp only [List.getElem?_toArray, List.getElem?_cons_succ, List.getElem?_cons_zero]; done) | (simp only [List.getElem?_toArray, List.getElem?_cons_succ, List.getElem?_cons_zero]; rfl))
        case' hQQ15 => exact fun _ _ _ h => h
        case' hyQ15 => refine Or.inl ⟨by rfl, ?_⟩
        (intro w hSw; (try dsimp only at hSw); go_simp; try with_reducible rfl)
        try simp only [Act.put, List.setIfInBounds_toArray, List.set_cons_zero, List.set_cons_succ]
        refine' wpAnyH_take (i := 15) (oi := _) (v := _) ?hiQ16 (by kernel_rfl) (by kernel_rfl) (by kernel_rfl) ?hQQ16 ?hyQ16 (by assumption) ?restQ16
        case' hiQ16 => (first | (simp only [List.getElem?_toArray, List.getElem?_cons_succ, List.getElem?_cons_zero]; done) | (simp only [List.getElem?_toArray, List.getElem?_cons_succ, List.getElem?_cons_zero]; rfl))
        case' hQQ16 => exact fun _ _ _ h => h
        case' hyQ16 => refine Or.inl ⟨by rfl, ?_⟩
        (intro w hSw; (try dsimp only at hSw); go_simp; try with_reducible rfl)
        try simp only [Act.put, List.setIfInBounds_toArray, List.set_cons_zero, List.set_cons_succ]
        refine' wpAnyH_take (i := 16) (oi := _) (v := _) ?hiQ17 (by kernel_rfl) (by kernel_rfl) (by kernel_rfl) ?hQQ17 ?hyQ17 (by assumption) ?restQ17
        case' hiQ17 => (first | (simp only [List.getElem?_toArray, List.getElem?_cons_succ, List.getElem?_cons_zero]; done) | (simp only [List.getElem?_toArray, List.getElem?_cons_succ, List.getElem?_cons_zero]; rfl))
        case' hQQ17 => exact fun _ _ _ h => h
        case' hyQ17 => refine Or.inl ⟨by rfl, ?_⟩
        (intro w hSw; (try dsimp only at hSw); go_simp; try with_reducible rfl)
        try simp only [Act.put, List.setIfInBounds_toArray, List.set_cons_zero, List.set_cons_succ]
        refine' wpAnyH_take (i := 17) (oi := _) (v := _) ?hiQ18 (by kernel_rfl) (by kernel_rfl) (by kernel_rfl) ?hQQ18 ?hyQ18 (by assumption) ?restQ18
        case' hiQ18 => (first | (simp only [List.getElem?_toArray, List.getElem?_cons_succ, List.getElem?_cons_zero]; done) | (simp only [List.getElem?_toArray, List.getElem?_cons_succ, List.getElem?_cons_zero]; rfl))
        case' hQQ18 => exact fun _ _ _ h => h
        case' hyQ18 => refine Or.inl ⟨by rfl, ?_⟩
        (intro w hSw; (obtain ⟨⟨x0, x1, x2, x3, x4, x5, x6⟩, ⟨y0, y1, y2, y3, y4, y5, y6⟩, ⟨z0, z1, z2, z3, z4, z5, z6⟩, ⟨t0, t1, t2, t3, t4, t5, t6⟩⟩ := KP.out _ hSw.out); go_simp; try with_reducible rfl)
        try simp only [Act.put, List.setIfInBounds_toArray, List.set_cons_zero, List.set_cons_succ]
        refine' wpAnyH_take (i := 18) (oi := _) (v := _) ?hiQ19 (by kernel_rfl) (by kernel_rfl) (by kernel_rfl) ?hQQ19 ?hyQ19 (by assumption) ?restQ19
        case' hiQ19 => (first | (simp only [List.getElem?_toArray, List.getElem?_cons_succ, List.getElem?_cons_zero]; done) | (simp only [List.getElem?_toArray, List.getElem?_cons_succ, List.getElem?_cons_zero]; rfl))
        case' hQQ19 => exact fun _ _ _ h => h
        case' hyQ19 => refine Or.inl ⟨by rfl, ?_⟩
        (intro w hSw; (obtain ⟨⟨x0, x1, x2, x3, x4, x5, x6⟩, ⟨y0, y1, y2, y3, y4, y5, y6⟩, ⟨z0, z1, z2, z3, z4, z5, z6⟩, ⟨t0, t1, t2, t3, t4, t5, t6⟩⟩ := KP.out _ hSw.out); go_simp; try with_reducible rfl)
        try simp only [Act.put, List.setIfInBounds_toArray, List.set_cons_zero, List.set_cons_succ]
        refine wpAnyH_ready (rs := [19]) (by kernel_rfl) (by simp) ?_
        refine' AllReadyH.cons (o := _) ?hiQ20 (fun K hK => ?hKQ20) AllReadyH.nil
        case' hiQ20 => (first | (simp only [List.getElem?_toArray, List.getElem?_cons_succ, List.getElem?_cons_zero]; done) | (simp only [List.getElem?_toArray, List.getElem?_cons_succ, List.getElem?_cons_zero]; rfl))
        go_simp
        (go_at_call 17; refine (C4.out _ UU.out).mono ?_; rintro e w9 ⟨rfl, u9⟩; (have UU := Lib.hid (UU.out.trans u9 (fun _ _ h => h))))
        refine hK.out _ _ ?_ (fun hHeld => ?_)
        · exact UU
        clear hK K
        try simp only [Act.put, List.setIfInBounds_toArray, List.set_cons_zero, List.set_cons_succ]
        refine' wpAnyH_take (i := 20) (oi := _) (v := _) ?hiQ21 (by kernel_rfl) (by kernel_rfl) (by kernel_rfl) ?hQQ21 ?hyQ21 (by assumption) ?restQ21
        case' hiQ21 => (first | (simp only [List.getElem?_toArray, List.getElem?_cons_succ, List.getElem?_cons_zero]; done) | (simp only [List.getElem?_toArray, List.getElem?_cons_succ, List.getElem?_cons_zero]; rfl))
        case' hQQ21 => exact fun _ _ _ h => h
        case' hyQ21 => refine Or.inl ⟨by rfl, ?_⟩
        (intro w hSw; (try dsimp only at hSw); go_simp; try with_reducible rfl)
        try simp only [Act.put, List.setIfInBounds_toArray, List.set_cons_zero, List.set_cons_succ]
        refine' wpAnyH_take (i := 21) (oi := _) (v := _) ?hiQ22 (by kernel_rfl) (by kernel_rfl) (by kernel_rfl) ?hQQ22 ?hyQ22 (by assumption) ?restQ22
        case' hiQ22 => (first | (simp only [List.getElem?_toArray, List.getElem?_cons_succ, List.getElem?_cons_zero]; done) | (simp only [List.getElem?_toArray, List.getElem?_cons_succ, List.getElem?_cons_zero]; rfl))
        case' hQQ22 => exact fun _ _ _ h => h
        case' hyQ22 => refine Or.inl ⟨by rfl, ?_⟩
        (intro w hSw; (try dsimp only at hSw); go_simp; try with_reducible rfl)
        try simp only [Act.put, List.setIfInBounds_toArray, List.set_cons_zero, List.set_cons_succ]
        refine wpAnyH_done (by kernel_rfl) ?_ _
        go_wp2_with fail
        go_meet
        exact ⟨rfl, UU⟩
      case rest =>
        obtain ⟨rfl, UX⟩ := hcut
        have UW := Lib.hid (UZ.out.trans UX.out (fun _ _ h => h))
        have TX := Lib.hid (own_keep TC.out UX.out (fun _ _ h => h))
        have BMX := Lib.hid (UX.out.blk BMZ.out id)
        have BCX := Lib.hid (UX.out.blk BCZ.out id)
        clear KP C1 C2 C3 C4 UU qer qrb
        obtain ⟨ym, gm, m0, m1, m2, m3, m4, m5, m6⟩ := mode_facts BMX.out
        obtain ⟨yc, gc, d0, d1, d2, d3, d4, d5, d6⟩ := mode_facts BCX.out
        by_cases hn0 : n = 0
        · have q0 : ¬ (0 : Int) < (n : Int) := by omega
          have SM := Lib.hid (same_out m m p5 p n n c5 c NA.out NA.out true (by simp) wc (txts_row TX.out) (RAw.out _ UW.out) (by have := SA.out.1; omega))
          clear hn0
          go_wp2_with fail
          refine SM.out.mono ?_
          rintro e w7 ⟨rfl, u7⟩
          have U7 := Lib.hid (UW.out.trans u7 (fun _ _ h => h))
          clear u7
          go_wp2
          go_ret
          exact ⟨rfl, U7.out⟩
        · have q0 : (0 : Int) < (n : Int) := by omega
          have q0' : 0 < n := by omega
          obtain ⟨t0, rest, hps⟩ : ∃ t0 rest, m.ps = t0 :: rest := by
            cases hp : m.ps with
            | nil => exact absurd (by rw [NA.out, hp]; rfl) hn0
            | cons a b => exact ⟨a, b, rfl⟩
          obtain ⟨g5, e5, hg5, ct⟩ := txts_cell TX.out NA.out (k := 0) (t := t0) (by rw [hps]; rfl)
          subst e5
          have hg5b : (w4.alloc (.cells #[.bool M.on, .bool M.bc, .bool M.oi, .bool M.oo, .bool M.nl, .int .i64 M.rd, .slice pb na cb] 24)).heap.size ≤ g5 := (own_lt TX.out rfl).2.1
          have hfz : ∀ i, wc.frozen? ⟨g5, i, none⟩ = false := by
            obtain ⟨_, ⟨e0, _⟩ | ⟨g6, cap, cs, e6, _, hB, _⟩⟩ := own_blk TX.out
            · cases e0
            · injection e6 with e6; injection e6 with e6; injection e6 with e6
              rw [e6]; exact fun i => hB.free i
          have hz0 : t0.length ≤ 600 := SA.out.2 t0 (by rw [hps]; simp)
          have hsz := ofL_size t0
          have T7 := TxtsAt.ownN.2 (OwnN.set (k := 1) (TxtsAt.ownN.1 TX.out) (fun _ => rfl) (i := 0) (j := 0) (by decide) (a := t0) (b := t0 ++ [120]) (x := .string (ofL (t0 ++ [120]))) (by rw [hps]; rfl) rfl)
          have us : Upd (fun b => b = g5) wc (wc.setCell ⟨g5, 0, none⟩ (.string (ofL (t0 ++ [120])))) := (Upd.refl _ wc).set (fun _ => rfl)
          have U7 : Hid (Upd (fun _ => False) w (wc.setCell ⟨g5, 0, none⟩ (.string (ofL (t0 ++ [120]))))) := Lib.hid (UW.out.trans us (fun i hi e => by have := HB.out; omega))
          have hlen : n = (m.ps.set 0 (t0 ++ [120])).length := by rw [List.length_set]; exact NA.out
          have SM0 := same_out { m with ps := m.ps.set 0 (t0 ++ [120]) } m (some ⟨g5, 0, none⟩) p n n c5 c hlen NA.out false (decide_eq_false (fun e => by
            have h1 := congrArg MD.ps e
            simp only at h1
            rw [hps, List.set_cons_zero] at h1
            have h2 := (List.cons.inj h1).1
            have := congrArg List.length h2
            simp at this)) (wc.setCell ⟨g5, 0, none⟩ (.string (ofL (t0 ++ [120])))) (txts_row T7) (RAw.out _ U7.out) (by show (m.ps.set 0 _).length ≤ _; rw [List.length_set]; have := SA.out.1; omega)
          have es : ofL t0 ++ { data := #[120] } = ofL (t0 ++ [120]) := by rw [ofL_appM]; rfl
          obtain ⟨s0, hs0⟩ : ∃ s0, s0 = ofL t0 := ⟨_, rfl⟩
          obtain ⟨s1, hs1⟩ : ∃ s1, s1 = ofL (t0 ++ [120]) := ⟨_, rfl⟩
          rw [← hs0, ← hs1] at es
          rw [← hs1] at SM0 U7
          rw [← hs0] at ct hsz
          have SM := Lib.hid SM0
          have U7 := Lib.hid U7.out
          obtain ⟨_, _, cs5, hs5⟩ := own_lt TX.out rfl
          have hs5 : Blk wc g5 cs5 9 := hs5
          have hngm : g5 ≠ w.heap.size := fun e => by have h3 := BMX.out.ty (by rw [← e]; exact hs5); exact absurd h3 (by decide)
          have hngc : g5 ≠ w5.heap.size := fun e => by have h3 := BCX.out.ty (by rw [← e]; exact hs5); exact absurd h3 (by decide)
          have hsm : s0.size ≤ 600 := by omega
          have hngm' : w.heap.size ≠ g5 := Ne.symm hngm
          have hngc' : w5.heap.size ≠ g5 := Ne.symm hngc
          clear hn0 T7 us SM0 hps hs0 hs1 hlen hz0 hs5 hsz
          go_wp2_with fail
          refine SM.out.mono ?_
          rintro e w7 ⟨rfl, u7⟩
          have U8 := Lib.hid (U7.out.trans u7 (fun _ _ h => h))
          clear u7
          go_wp2
          go_ret
          exact ⟨rfl, U8.out⟩
end Go.Proofs.YtcpfkkbegnhofaaDoor
/- What the listed variables give the walks, and the witness. -/
set_option linter.unusedVariables false
set_option linter.unusedSimpArgs false
namespace Go.Proofs.YtcpfkkbegnhofaaDoor
open Go.ChangeShapes Go.WideShapes Go.ChangeAt Go.WideMaps Go.WideElems Go.RowKit Go.Stop Go.Extern

theorem int_bounds {n : Int} (h : (Lit.int .i64 n).wf = true) : -9223372036854775808 ≤ n ∧ n ≤ 9223372036854775807 := by
  have := bounds_i64 h
  omega

def laidAll : List (String × DataW Unit) := [("math/bits.deBruijn32tab", Rows.laid_math_bits_deBruijn32tab), ("math/bits.deBruijn64tab", Rows.laid_math_bits_deBruijn64tab), ("internal/strconv.uint64pow10", Lib.tabData .u64 Lib.pow10Tab), ("unicode/utf8.acceptRanges", Rows.laid_unicode_utf8_acceptRanges), ("strconv.ErrRange", Rows.laid_strconv_ErrRange), ("strconv.ErrSyntax", Rows.laid_strconv_ErrSyntax), ("unicode/utf8.first", Rows.laid_unicode_utf8_first)]

theorem star : "*" ++ "errors.errorString" = "*errors.errorString" := by decide
theorem rowErr (u : TypeId) (h : Tryd.prog.typeName? 3 u = some "*errors.errorString") : u = 135 :=
  typeName_ptr_named (nm := "errors.errorString") (by rw [star]; kernel_rfl) (by kernel_rfl) (by decide) u (by rw [star]; exact h)

theorem door_met (os : Os) (args : Array Value) : laidMetH Tryd.prog laidAll ((World.laidAll Tryd.prog os laidAll).forCall (fun _ _ => 0) ⟨#[], args, []⟩).memory := by
  rw [MakeChecks.laidMetH_plain _ _ _ (by kernel_rfl)]
  exact laidMet_laidAll _ (by kernel_rfl) (by kernel_rfl)
theorem door_shaped (os : Os) (args : Array Value) : ((World.laidAll Tryd.prog os laidAll).forCall (fun _ _ => 0) ⟨#[], args, []⟩).Shaped Tryd.prog := World.shaped_of_ZipB (by kernel_rfl) (by kernel_rfl)

theorem std_of_laid {W : World} (h : laidMetH Tryd.prog laidAll W) : Std W := by
  rw [MakeChecks.laidMetH_plain _ _ _ (by kernel_rfl)] at h
  have h3 := laidMet.tail (laidMet.tail h)
  have h4 := laidMet.tail (laidMet.tail h3)
  have h5 := laidMet.tail h4
  refine ⟨Lib.tabIs_of_head (g := 5) (by kernel_rfl) (by kernel_rfl) Tryd.underlying139 Tryd.underlying98 (by kernel_rfl) (by kernel_rfl) h3, ?_, ?_⟩
  · obtain ⟨a, s, h1, _⟩ := laid_sentinel (g := 3) h5 (by kernel_rfl) (by kernel_rfl) Tryd.underlying77 rowErr Tryd.underlying135 Tryd.underlying137 rfl rfl Tryd.underlying9 (by kernel_rfl) (by kernel_rfl)
    exact ⟨_, _, h1⟩
  · obtain ⟨a, s, h1, _⟩ := laid_sentinel (g := 4) h4 (by kernel_rfl) (by kernel_rfl) Tryd.underlying77 rowErr Tryd.underlying135 Tryd.underlying137 rfl rfl Tryd.underlying9 (by kernel_rfl) (by kernel_rfl)
    exact ⟨_, _, h1⟩
theorem first_same : Rows.laid_unicode_utf8_first = Lib.firstData := by kernel_rfl
theorem accept_same : (Rows.laid_unicode_utf8_acceptRanges : DataW Unit) = Lib.acceptData := by kernel_rfl
theorem stdU_of_laid {W : World} (h : laidMetH Tryd.prog laidAll W) : StdU W := by
  refine ⟨std_of_laid h, ?_⟩
  rw [MakeChecks.laidMetH_plain _ _ _ (by kernel_rfl)] at h
  have h1 := Lib.laidMet.reads h (n := "unicode/utf8.first") (d := Rows.laid_unicode_utf8_first) (by simp [laidAll])
  have h2 := Lib.laidMet.reads h (n := "unicode/utf8.acceptRanges") (d := Rows.laid_unicode_utf8_acceptRanges) (by simp [laidAll])
  rw [first_same] at h1
  rw [accept_same] at h2
  exact utf8Tabs_of_reads Tryd.lays260 ⟨by kernel_rfl, by kernel_rfl, by kernel_rfl, by kernel_rfl, by kernel_rfl, by kernel_rfl, by kernel_rfl⟩ h1 h2
end Go.Proofs.YtcpfkkbegnhofaaDoor
/- An argument that is a slice of structs of one-cell fields, opened to its cells. -/
set_option linter.unusedVariables false
set_option linter.unusedSimpArgs false
namespace Go.Proofs.YtcpfkkbegnhofaaDoor
open Go.RowKit Go.ChangeShapes Go.WideShapes Go.Deep

/-- A slice of structs whose fields are one cell each: its length fits, and field j of element i lies in a cell of its own, and is read by that field's type. -/
theorem slice_cells {H : Type} {enc : TypeId × Value → H} {P : Program} {w : World} {base : Nat} {spare : Nat → Bool} {held : Bool} {T E : TypeId} {fs : Array Field} {fuel len cap : Nat} {a : Addr} {x : DataW H × List MemPlace}
    (hT : P.underlying T = some (.slice E)) (hE : P.underlying E = some (.struct fs)) (h1 : oneCellFields P fs = true) (hn : P.cellsOf E = fs.size)
    (h : DataW.trod enc P w base spare held fuel T [.slice (some a) len cap] = some x) :
    len ≤ maxLen ∧ ∀ i, i < len → ∀ j f, fs[j]? = some f → ∃ v y k, w.cell? (a.add (i * fs.size + j)) = some v ∧ DataW.trod enc P w base spare held k f.type [v] = some y := by
  rcases open_slice hT h with ⟨hnil, _⟩ | ⟨a', len', cap', m, n, D, Q, hv, _, hlc, hcm, hm, _, hall⟩
  · simp at hnil
  · simp only [List.cons.injEq, Value.slice.injEq, Option.some.injEq, and_true] at hv
    obtain ⟨rfl, rfl, rfl⟩ := hv
    have hlm : len ≤ m := by rw [hm]; split <;> omega
    refine ⟨Nat.le_trans hlc hcm, fun i hi j f hj => ?_⟩
    have hjs : j < fs.size := (Array.getElem?_eq_some_iff.1 hj).1
    obtain ⟨row, hrow, hread⟩ := hall i (Nat.lt_of_lt_of_le hi hlm)
    obtain ⟨_, hsize, hcells⟩ := World.cells?_some hrow
    obtain ⟨_, k, _, _, _, _, hfield⟩ := DataW.trod_struct hE hread
    obtain ⟨hoff, hone⟩ := hone_of h1 j f hj
    have hjr : j < row.length := by omega
    have hf := hfield j f hj
    rw [hoff, hone, List.drop_eq_getElem_cons hjr] at hf
    simp only [List.take_succ_cons, List.take_zero] at hf
    have hc := hcells j (by omega)
    rw [hn, Go.Deep.add_add, List.getElem?_eq_getElem hjr] at hc
    cases hy : DataW.trod enc P w base spare held k f.type [row[j]] with
    | none =>
      rw [hy] at hf
      have := (List.getElem?_eq_none_iff.1 hf.symm)
      omega
    | some y => exact ⟨row[j], y, k, hc, hy⟩

theorem slice_nil {H : Type} {enc : TypeId × Value → H} {P : Program} {w : World} {base : Nat} {spare : Nat → Bool} {held : Bool} {T E : TypeId} {fuel len cap : Nat} {x : DataW H × List MemPlace}
    (hT : P.underlying T = some (.slice E)) (h : DataW.trod enc P w base spare held fuel T (Value.slice none len cap).cells.toList = some x) : len = 0 ∧ cap = 0 := by
  rcases open_slice hT h with ⟨hnil, _⟩ | ⟨a', _, _, _, _, _, _, hv, _⟩
  · simpa [Value.cells] using hnil
  · simp [Value.cells] at hv

theorem rowOf_mk {α : Type} {f : α → List Value} {k : Nat} (hk : 0 < k) {w : World} {a : Addr} {len cap : Nat} (g : Nat → α) (hm : len ≤ maxLen)
    (hc : ∀ i, i < len → ∀ j, j < k → ∃ v, (f (g i))[j]? = some v ∧ w.cell? (a.add (i * k + j)) = some v) : RowOf f k w (.slice (some a) len cap) ((List.range len).map g) := by
  obtain ⟨b, off, spot⟩ := a
  by_cases h0 : len = 0
  · subst h0; exact Or.inl ⟨_, _, rfl, rfl⟩
  · obtain ⟨v, _, h1⟩ := hc 0 (by omega) 0 hk
    have hspot : spot = none := by simpa [Addr.add] using World.cell?_spot h1
    subst hspot
    have hb : b < w.heap.size := by
      by_cases hb : b < w.heap.size
      · exact hb
      · simp [World.cell?, Addr.add, Array.getElem?_eq_none (by omega : w.heap.size ≤ b)] at h1
    refine Or.inr ⟨b, off, cap, by simp, hb, by simpa using hm, fun i x hi j hj => ?_⟩
    have hil : i < len := by
      have := (List.getElem?_eq_some_iff.1 hi).1
      simpa using this
    have hx : x = g i := by
      have : ((List.range len).map g)[i]? = some (g i) := by simp [hil]
      rw [this] at hi; exact (Option.some.inj hi).symm
    subst hx
    obtain ⟨v, h1, h2⟩ := hc i hil j hj
    have e : (⟨b, off, none⟩ : Addr).add (i * k + j) = ⟨b, off + (i * k + j), none⟩ := by unfold Addr.add; split <;> simp_all
    rw [e] at h2
    rw [h2, h1]
end Go.Proofs.YtcpfkkbegnhofaaDoor
