/- Walk: ModeSwitches. Printed by genswitches.py. -/
import Derived.Test.YtcpfkkbegnhofaaDoorK11
import Derived.Test.YtcpfkkbegnhofaaDoorK12
import Derived.Test.YtcpfkkbegnhofaaDoorK13
import Derived.Test.YtcpfkkbegnhofaaDoorK10
import Derived.Deep.RegionHeld3
import Derived.Test.YtcpfkkbegnhofaaDoorRows
import Derived.ProofKit
import Derived.LaidMore
import Derived.Lay
import Derived.OpenShut
import Derived.Stop.Joined
import Derived.Stop.LaidErr
import Derived.Lib.LaidTab
import Derived.Lib.LaidU8
import Derived.Test.YtcpfkkbegnhofaaDoorK04
import Derived.Deep.Slices
import Derived.Deep.Fields
import Derived.ChangeSame
set_option linter.unusedVariables false
set_option linter.unusedSimpArgs false
namespace Go.Proofs.YtcpfkkbegnhofaaDoor
open Go.RowKit

theorem strs_of {w : World} {base : Nat} {v : Value} {l : List Txt} (h : TxtsAt w base v l) : RowOf strc 1 w v (l.map ofL) := by
  have h2 : StrsAt w base v (l.map ofL) := by
    unfold StrsAt
    unfold TxtsAt at h
    rw [List.length_map, List.map_map]
    exact h
  exact h2.row
theorem same06T_any (w : World) (b1 b2 : Nat) (v1 v2 : Value) (l : List Txt) (h1 : TxtsAt w b1 v1 l) (h2 : TxtsAt w b2 v2 l) :
    Calls Tryd.prog 26 #[v1, v2] w fun e w' => e = .returned (.bool true) ∧ Upd (fun _ => False) w w' := by
  refine (same06_any v1 v2 _ _ w (strs_of h1) (strs_of h2)).mono ?_
  rintro e w' ⟨rfl, n, rfl⟩
  exact ⟨by simp, (Upd.refl _ _).drewN n⟩
theorem same13_out (m m' : MD) (p p' : Option Addr) (n n' c c' : Nat) (hn : n = m.ps.length) (hn' : n' = m'.ps.length) (r : Bool) (hr : decide (m = m') = r) (W : World) (h : RowOf txtc 1 W (.slice p n c) m.ps) (h' : RowOf txtc 1 W (.slice p' n' c') m'.ps) (hl : m.ps.length ≤ 100000) :
    Calls Tryd.prog 17 #[.agg #[.bool m.on, .bool m.bc, .bool m.oi, .bool m.oo, .bool m.nl, .int .i64 m.rd, .slice p n c], .agg #[.bool m'.on, .bool m'.bc, .bool m'.oi, .bool m'.oo, .bool m'.nl, .int .i64 m'.rd, .slice p' n' c']] W fun e w' => e = .returned (.bool r) ∧ Upd (fun _ => False) W w' := by
  subst hn hn' hr
  exact same13r_any m m' _ _ W h h' (by omega)
set_option maxHeartbeats 8000000 in
set_option maxRecDepth 100000 in
theorem lawMSwitches (a b : MD) (cc : Int) (pa pb : Option Addr) (ca cb : Nat) (w : World) (ha : RwT w pa ca a.ps) (hb : RwT w pb cb b.ps) (hza : ∀ t ∈ a.ps, t.length ≤ maxLen) (hzb : ∀ t ∈ b.ps, t.length ≤ maxLen) (hs : StdU w) :
    Calls Tryd.prog 8 #[mdV a (.slice pa a.ps.length ca), mdV b (.slice pb b.ps.length cb), .int .i64 cc] w fun e w' => e = .returned (.bool true) ∧ Upd (fun _ => False) w w' := by
  have hla := ha.2
  have hlb := hb.2
  unfold maxLen at hla hlb
  obtain ⟨na, hna⟩ : ∃ na, na = a.ps.length := ⟨_, rfl⟩
  obtain ⟨nb, hnb⟩ : ∃ nb, nb = b.ps.length := ⟨_, rfl⟩
  unfold mdV
  rw [← hna, ← hnb]
  rw [← hna] at hla
  rw [← hnb] at hlb
  have NA := Lib.hid hna
  have NB := Lib.hid hnb
  have GA := Lib.hid (fun W (u : Upd (fun _ => False) w W) => great_out a pa na ca hna W (ha.keep u) hza)
  have GB := Lib.hid (fun W (u : Upd (fun _ => False) w W) => great_out b pb nb cb hnb W (hb.keep u) hzb)
  have AL := Lib.hid (fun W (u : Upd (fun _ => False) w W) => alive_any W (hs.keep u))
  have HA := Lib.hid ha
  have HB := Lib.hid hb
  have RAw : Hid (∀ W, Upd (fun _ => False) w W → RowOf txtc 1 W (.slice pa na ca) a.ps) := Lib.hid (fun W u => by rw [NA.out]; exact (HA.out.keep u).1)
  have RBw : Hid (∀ W, Upd (fun _ => False) w W → RowOf txtc 1 W (.slice pb nb cb) b.ps) := Lib.hid (fun W u => by rw [NB.out]; exact (HB.out.keep u).1)
  have ZA := Lib.hid hza
  have ZB := Lib.hid hzb
  clear ha hb hza hzb hs hna hnb
  have U0 : Hid (Upd (fun _ => False) w ((w.alloc (.cells #[.bool a.on, .bool a.bc, .bool a.oi, .bool a.oo, .bool a.nl, .int .i64 a.rd, .slice pa na ca] 24)).alloc (.cells #[.bool b.on, .bool b.bc, .bool b.oi, .bool b.oo, .bool b.nl, .int .i64 b.rd, .slice pb nb cb] 24))) := Lib.hid (((Upd.refl _ _).alloc _).alloc _)
  have BA0 := (Blk.made w [.bool a.on, .bool a.bc, .bool a.oi, .bool a.oo, .bool a.nl, .int .i64 a.rd, .slice pa na ca] 24).alloc (.cells #[.bool b.on, .bool b.bc, .bool b.oi, .bool b.oo, .bool b.nl, .int .i64 b.rd, .slice pb nb cb] 24)
  have BB0 := Blk.made (w.alloc (.cells #[.bool a.on, .bool a.bc, .bool a.oi, .bool a.oo, .bool a.nl, .int .i64 a.rd, .slice pa na ca] 24)) [.bool b.on, .bool b.bc, .bool b.oi, .bool b.oo, .bool b.nl, .int .i64 b.rd, .slice pb nb cb] 24
  have hs1 : (w.alloc (.cells #[.bool a.on, .bool a.bc, .bool a.oi, .bool a.oo, .bool a.nl, .int .i64 a.rd, .slice pa na ca] 24)).heap.size = w.heap.size + 1 := by simp
  rw [hs1] at BB0
  have BA0 := Lib.hid BA0
  have BB0 := Lib.hid BB0
  have AL := Lib.hid (AL.out _ U0.out)
  clear hs1
  go_enter Tryd.func8, Tryd.ntmps8
  go_wp2_with fail
  refine AL.out.mono ?_
  rintro e w1 ⟨rfl, u1⟩
  have U1 := Lib.hid (U0.out.trans u1 (fun _ _ h => h))
  have BA1 := Lib.hid (u1.blk BA0.out id)
  have BB1 := Lib.hid (u1.blk BB0.out id)
  obtain ⟨ya, ga, a0, a1, a2, a3, a4, a5, a6⟩ := mode_facts BA1.out
  have G1 := Lib.hid (GA.out w1 U1.out)
  clear u1 BA0 BB0 U0
  go_wp2_with fail
  refine G1.out.mono ?_
  rintro e w2 ⟨g, rfl, hg, u2⟩
  have U2 := Lib.hid (U1.out.trans u2 (fun _ _ h => h))
  cases g with
  | true =>
    clear u2
    go_wp2
    go_ret
    exact ⟨rfl, U2.out⟩
  | false =>
  have SA := Lib.hid (hg rfl)
  have BA2 := Lib.hid (u2.blk BA1.out id)
  have BB2 := Lib.hid (u2.blk BB1.out id)
  obtain ⟨yb, gb, b0, b1, b2, b3, b4, b5, b6⟩ := mode_facts BB2.out
  have G2 := Lib.hid (GB.out w2 U2.out)
  clear u2 BA1 BB1 hg ya ga a0 a1 a2 a3 a4 a5 a6 G1
  go_wp2_with fail
  refine G2.out.mono ?_
  rintro e w3 ⟨g, rfl, hg, u3⟩
  have U3 := Lib.hid (U2.out.trans u3 (fun _ _ h => h))
  cases g with
  | true =>
    clear u3
    go_wp2
    go_ret
    exact ⟨rfl, U3.out⟩
  | false =>
  have SB := Lib.hid (hg rfl)
  have BA3 := Lib.hid (u3.blk BA2.out id)
  have BB3 := Lib.hid (u3.blk BB2.out id)
  obtain ⟨ya, ga, a0, a1, a2, a3, a4, a5, a6⟩ := mode_facts BA3.out
  clear u3 BA2 BB2 hg yb gb b0 b1 b2 b3 b4 b5 b6 G2
  cases hra : rightM a with
  | false =>
    have R1 := Lib.hid (right13_out a pa na ca NA.out false hra w3 (HA.out.keep U3.out) (by have := SA.out.1; omega) ZA.out)
    clear hra
    go_wp2_with fail
    refine R1.out.mono ?_
    rintro e w4 ⟨rfl, u4⟩
    have U4 := Lib.hid (U3.out.trans u4 (fun _ _ h => h))
    clear u4
    go_wp2
    go_ret
    exact ⟨rfl, U4.out⟩
  | true =>
  have R1 := Lib.hid (right13_out a pa na ca NA.out true hra w3 (HA.out.keep U3.out) (by have := SA.out.1; omega) ZA.out)
  have RA := Lib.hid hra
  clear hra
  go_wp2_with fail
  refine R1.out.mono ?_
  rintro e w4 ⟨rfl, u4⟩
  have U4 := Lib.hid (U3.out.trans u4 (fun _ _ h => h))
  have BA4 := Lib.hid (u4.blk BA3.out id)
  have BB4 := Lib.hid (u4.blk BB3.out id)
  obtain ⟨yb, gb, b0, b1, b2, b3, b4, b5, b6⟩ := mode_facts BB4.out
  clear u4 BA3 BB3 ya ga a0 a1 a2 a3 a4 a5 a6 R1
  cases hrb : rightM b with
  | false =>
    have R1 := Lib.hid (right13_out b pb nb cb NB.out false hrb w4 (HB.out.keep U4.out) (by have := SB.out.1; omega) ZB.out)
    clear hrb
    go_wp2_with fail
    refine R1.out.mono ?_
    rintro e w5 ⟨rfl, u5⟩
    have U5 := Lib.hid (U4.out.trans u5 (fun _ _ h => h))
    clear u5
    go_wp2
    go_ret
    exact ⟨rfl, U5.out⟩
  | true =>
  have R1 := Lib.hid (right13_out b pb nb cb NB.out true hrb w4 (HB.out.keep U4.out) (by have := SB.out.1; omega) ZB.out)
  have RB := Lib.hid hrb
  clear hrb
  go_wp2_with fail
  refine R1.out.mono ?_
  rintro e w5 ⟨rfl, u5⟩
  have U5 := Lib.hid (U4.out.trans u5 (fun _ _ h => h))
  have BA5 := Lib.hid (u5.blk BA4.out id)
  have BB5 := Lib.hid (u5.blk BB4.out id)
  obtain ⟨ya, ga, a0, a1, a2, a3, a4, a5, a6⟩ := mode_facts BA5.out
  clear u5 BA4 BB4 yb gb b0 b1 b2 b3 b4 b5 b6 R1 GA GB AL
  have LA : Hid (a.ps.length ≤ 1000) := Lib.hid (by have := SA.out.1; omega)
  have LB : Hid (b.ps.length ≤ 1000) := Lib.hid (by have := SB.out.1; omega)
  obtain ⟨M, er, hM⟩ : ∃ M er, switchM a b = (M, er) := ⟨_, _, rfl⟩
  have LM : Hid (M.ps.length ≤ 100) := Lib.hid (by
    have h1 := (sw_right RA.out RB.out).1
    rw [hM] at h1
    exact Nat.le_trans (show M.ps.length ≤ 32 from (right_small h1).1) (by omega))
  obtain ⟨yb, gb, b0, b1, b2, b3, b4, b5, b6⟩ := mode_facts BB5.out
  have S1 := Lib.hid (switch_out a b M er hM pa pb na nb ca cb NA.out NB.out w5 (RAw.out _ U5.out) (RBw.out _ U5.out) LA.out LB.out ZA.out ZB.out)
  have HM := Lib.hid hM
  clear hM
  go_wp2_with fail
  refine S1.out.mono ?_
  rintro e w6 ⟨p2, n2, c2, rfl, hn2, hm2, hr2, u6⟩
  unfold maxLen at hm2
  have N2 := Lib.hid hn2
  obtain ⟨o6, ho6⟩ : ∃ o6, o6 = Obj.cells #[.bool M.on, .bool M.bc, .bool M.oi, .bool M.oo, .bool M.nl, .int .i64 M.rd, .slice p2 n2 c2] 24 := ⟨_, rfl⟩
  have BA6 := (u6.blk BA5.out id).alloc o6
  have BB6 := (u6.blk BB5.out id).alloc o6
  have BM6 : Blk (w6.alloc o6) w6.heap.size [.bool M.on, .bool M.bc, .bool M.oi, .bool M.oo, .bool M.nl, .int .i64 M.rd, .slice p2 n2 c2] 24 := by rw [ho6]; exact Blk.made w6 _ _
  have R6 : RowOf txtc 1 (w6.alloc o6) (.slice p2 n2 c2) M.ps := hr2.keep ((Upd.refl _ _).alloc o6) (fun _ _ _ => id)
  have U6 : Upd (fun _ => False) w (w6.alloc o6) := (U5.out.trans u6 (fun _ _ h => h)).alloc o6
  have S2 := switch13_any a b M er HM.out pa pb na nb ca cb NA.out NB.out (w6.alloc o6) (HA.out.keep U6) (HB.out.keep U6) LA.out LB.out ZA.out ZB.out
  rw [ho6] at BA6 BB6 BM6 R6 U6 S2
  have BA6 := Lib.hid BA6
  have BB6 := Lib.hid BB6
  have BM6 := Lib.hid BM6
  have R6 := Lib.hid R6
  have U6 := Lib.hid U6
  have S2 := Lib.hid S2
  clear ho6 o6 hr2 hn2 u6 S1 BA5 BB5 ya ga a0 a1 a2 a3 a4 a5 a6 yb gb b0 b1 b2 b3 b4 b5 b6
  obtain ⟨ya, ga, a0, a1, a2, a3, a4, a5, a6⟩ := mode_facts BA6.out
  obtain ⟨yb, gb, b0, b1, b2, b3, b4, b5, b6⟩ := mode_facts BB6.out
  go_wp2_with fail
  refine S2.out.mono ?_
  rintro e w7 ⟨p3, n3, c3, rfl, hn3, hm3, hr3, u7⟩
  unfold maxLen at hm3
  have N3 := Lib.hid hn3
  obtain ⟨o7, ho7⟩ : ∃ o7, o7 = Obj.cells #[.bool M.on, .bool M.bc, .bool M.oi, .bool M.oo, .bool M.nl, .int .i64 M.rd, .slice p3 n3 c3] 24 := ⟨_, rfl⟩
  have BA7 := (u7.blk BA6.out id).alloc o7
  have BB7 := (u7.blk BB6.out id).alloc o7
  have BM7 := (u7.blk BM6.out id).alloc o7
  have BN7 : Blk (w7.alloc o7) w7.heap.size [.bool M.on, .bool M.bc, .bool M.oi, .bool M.oo, .bool M.nl, .int .i64 M.rd, .slice p3 n3 c3] 24 := by rw [ho7]; exact Blk.made w7 _ _
  have RM7 : RowOf txtc 1 (w7.alloc o7) (.slice p2 n2 c2) M.ps := (R6.out.keep u7 (fun _ _ _ => id)).keep ((Upd.refl _ _).alloc o7) (fun _ _ _ => id)
  have RN7 : RowOf txtc 1 (w7.alloc o7) (.slice p3 n3 c3) M.ps := hr3.keep ((Upd.refl _ _).alloc o7) (fun _ _ _ => id)
  have U7 : Upd (fun _ => False) w (w7.alloc o7) := (U6.out.trans u7 (fun _ _ h => h)).alloc o7
  rw [ho7] at BA7 BB7 BM7 BN7 RM7 RN7 U7
  clear ho7 o7 hr3 hn3 u7 S2 BA6 BB6 BM6 R6 ya ga a0 a1 a2 a3 a4 a5 a6 yb gb b0 b1 b2 b3 b4 b5 b6
  go_upto_region 7 with (fail)
  generalize (w7.alloc (.cells #[.bool M.on, .bool M.bc, .bool M.oi, .bool M.oo, .bool M.nl, .int .i64 M.rd, .slice p3 n3 c3] 24)) = wz at *
  have KP : Hid (∀ W, Upd (fun _ => False) wz W → (W.cell? ⟨w.heap.size, 0, none⟩ = some (.bool a.on) ∧ W.cell? ⟨w.heap.size, 1, none⟩ = some (.bool a.bc) ∧ W.cell? ⟨w.heap.size, 2, none⟩ = some (.bool a.oi) ∧ W.cell? ⟨w.heap.size, 3, none⟩ = some (.bool a.oo) ∧ W.cell? ⟨w.heap.size, 4, none⟩ = some (.bool a.nl) ∧ W.cell? ⟨w.heap.size, 5, none⟩ = some (.int .i64 a.rd) ∧ W.cell? ⟨w.heap.size, 6, none⟩ = some (.slice pa na ca)) ∧ (W.cell? ⟨(w.heap.size + 1), 0, none⟩ = some (.bool b.on) ∧ W.cell? ⟨(w.heap.size + 1), 1, none⟩ = some (.bool b.bc) ∧ W.cell? ⟨(w.heap.size + 1), 2, none⟩ = some (.bool b.oi) ∧ W.cell? ⟨(w.heap.size + 1), 3, none⟩ = some (.bool b.oo) ∧ W.cell? ⟨(w.heap.size + 1), 4, none⟩ = some (.bool b.nl) ∧ W.cell? ⟨(w.heap.size + 1), 5, none⟩ = some (.int .i64 b.rd) ∧ W.cell? ⟨(w.heap.size + 1), 6, none⟩ = some (.slice pb nb cb)) ∧ (W.cell? ⟨w6.heap.size, 0, none⟩ = some (.bool M.on) ∧ W.cell? ⟨w6.heap.size, 1, none⟩ = some (.bool M.bc) ∧ W.cell? ⟨w6.heap.size, 2, none⟩ = some (.bool M.oi) ∧ W.cell? ⟨w6.heap.size, 3, none⟩ = some (.bool M.oo) ∧ W.cell? ⟨w6.heap.size, 4, none⟩ = some (.bool M.nl) ∧ W.cell? ⟨w6.heap.size, 5, none⟩ = some (.int .i64 M.rd) ∧ W.cell? ⟨w6.heap.size, 6, none⟩ = some (.slice p2 n2 c2)) ∧ (W.cell? ⟨w7.heap.size, 0, none⟩ = some (.bool M.on) ∧ W.cell? ⟨w7.heap.size, 1, none⟩ = some (.bool M.bc) ∧ W.cell? ⟨w7.heap.size, 2, none⟩ = some (.bool M.oi) ∧ W.cell? ⟨w7.heap.size, 3, none⟩ = some (.bool M.oo) ∧ W.cell? ⟨w7.heap.size, 4, none⟩ = some (.bool M.nl) ∧ W.cell? ⟨w7.heap.size, 5, none⟩ = some (.int .i64 M.rd) ∧ W.cell? ⟨w7.heap.size, 6, none⟩ = some (.slice p3 n3 c3))) := Lib.hid (fun W u => ⟨(mode_facts (u.blk BA7 id)).2.2, (mode_facts (u.blk BB7 id)).2.2, (mode_facts (u.blk BM7 id)).2.2, (mode_facts (u.blk BN7 id)).2.2⟩)
  have UZ := Lib.hid U7
  have RM := Lib.hid RM7
  have RN := Lib.hid RN7
  have C1 := Lib.hid (fun W (u : Upd (fun _ => False) wz W) => same13_out M M p2 p3 n2 n3 c2 c3 N2.out N3.out true (by simp) W (RM.out.keep u (fun _ _ _ => id)) (RN.out.keep u (fun _ _ _ => id)) (by have := LM.out; omega))
  obtain ⟨sb, hsb⟩ : ∃ sb, decide (a = b) = sb := ⟨_, rfl⟩
  have C2 := Lib.hid (fun W (u : Upd (fun _ => False) wz W) => same_out a b pa pb na nb ca cb NA.out NB.out sb hsb W (RAw.out _ (UZ.out.trans u (fun _ _ h => h))) (RBw.out _ (UZ.out.trans u (fun _ _ h => h))) (by have := LA.out; omega))
  have C3 := Lib.hid (fun W (u : Upd (fun _ => False) wz W) => same13_out a b pa pb na nb ca cb NA.out NB.out sb hsb W (RAw.out _ (UZ.out.trans u (fun _ _ h => h))) (RBw.out _ (UZ.out.trans u (fun _ _ h => h))) (by have := LA.out; omega))
  have UU : Hid (Upd (fun _ => False) wz wz.drew) := Lib.hid (Upd.refl _ _).drew
  have qer : ((er : Int) != er) = false := by simp
  have qsb : (sb != sb) = false := by simp
  clear hsb BA7 BB7 BM7 BN7 RM7 RN7 U7 RM RN

  refine wp_region_held_drew (S := fun w' => Hid (Upd (fun _ => False) wz w')) (by kernel_rfl) ?_ (fun hHeld => ?_)
  · exact UU
  try simp only [Array.replicate, Act.put, List.setIfInBounds_toArray]
  refine' wpAnyH_take (i := 0) (oi := _) (v := _) ?hiS1 (by kernel_rfl) (by kernel_rfl) (by kernel_rfl) ?hQS1 ?hyS1 (by assumption) ?restS1
  case' hiS1 => (first | (simp only [List.getElem?_toArray, List.getElem?_cons_succ, List.getElem?_cons_zero]; done) | (simp only [List.getElem?_toArray, List.getElem?_cons_succ, List.getElem?_cons_zero]; rfl))
  case' hQS1 => exact fun _ _ _ h => h
  case' hyS1 => refine Or.inl ⟨by rfl, ?_⟩
  (intro w hSw; (obtain ⟨⟨x0, x1, x2, x3, x4, x5, x6⟩, ⟨y0, y1, y2, y3, y4, y5, y6⟩, ⟨z0, z1, z2, z3, z4, z5, z6⟩, ⟨t0, t1, t2, t3, t4, t5, t6⟩⟩ := KP.out _ hSw.out); go_simp; try with_reducible rfl)
  try simp only [Act.put, List.setIfInBounds_toArray, List.set_cons_zero, List.set_cons_succ]
  refine' wpAnyH_take (i := 1) (oi := _) (v := _) ?hiS2 (by kernel_rfl) (by kernel_rfl) (by kernel_rfl) ?hQS2 ?hyS2 (by assumption) ?restS2
  case' hiS2 => (first | (simp only [List.getElem?_toArray, List.getElem?_cons_succ, List.getElem?_cons_zero]; done) | (simp only [List.getElem?_toArray, List.getElem?_cons_succ, List.getElem?_cons_zero]; rfl))
  case' hQS2 => exact fun _ _ _ h => h
  case' hyS2 => refine Or.inl ⟨by rfl, ?_⟩
  (intro w hSw; (obtain ⟨⟨x0, x1, x2, x3, x4, x5, x6⟩, ⟨y0, y1, y2, y3, y4, y5, y6⟩, ⟨z0, z1, z2, z3, z4, z5, z6⟩, ⟨t0, t1, t2, t3, t4, t5, t6⟩⟩ := KP.out _ hSw.out); go_simp; try with_reducible rfl)
  try simp only [Act.put, List.setIfInBounds_toArray, List.set_cons_zero, List.set_cons_succ]
  refine wpAnyH_ready (rs := [2]) (by kernel_rfl) (by simp) ?_
  refine' AllReadyH.cons (o := _) ?hiS3 (fun K hK => ?hKS3) AllReadyH.nil
  case' hiS3 => (first | (simp only [List.getElem?_toArray, List.getElem?_cons_succ, List.getElem?_cons_zero]; done) | (simp only [List.getElem?_toArray, List.getElem?_cons_succ, List.getElem?_cons_zero]; rfl))
  go_simp
  (go_at_call 17; refine (C1.out _ UU.out).mono ?_; rintro e w9 ⟨rfl, u9⟩; (have UU := Lib.hid (UU.out.trans u9 (fun _ _ h => h))))
  refine hK.out _ _ ?_ (fun hHeld => ?_)
  · exact UU
  clear hK K
  try simp only [Act.put, List.setIfInBounds_toArray, List.set_cons_zero, List.set_cons_succ]
  refine' wpAnyH_take (i := 3) (oi := _) (v := _) ?hiS4 (by kernel_rfl) (by kernel_rfl) (by kernel_rfl) ?hQS4 ?hyS4 (by assumption) ?restS4
  case' hiS4 => (first | (simp only [List.getElem?_toArray, List.getElem?_cons_succ, List.getElem?_cons_zero]; done) | (simp only [List.getElem?_toArray, List.getElem?_cons_succ, List.getElem?_cons_zero]; rfl))
  case' hQS4 => exact fun _ _ _ h => h
  case' hyS4 => refine Or.inl ⟨by rfl, ?_⟩
  (intro w hSw; (try dsimp only at hSw); go_simp; try with_reducible rfl)
  try simp only [Act.put, List.setIfInBounds_toArray, List.set_cons_zero, List.set_cons_succ]
  refine' wpAnyH_take (i := 4) (oi := _) (v := _) ?hiS5 (by kernel_rfl) (by kernel_rfl) (by kernel_rfl) ?hQS5 ?hyS5 (by assumption) ?restS5
  case' hiS5 => (first | (simp only [List.getElem?_toArray, List.getElem?_cons_succ, List.getElem?_cons_zero]; done) | (simp only [List.getElem?_toArray, List.getElem?_cons_succ, List.getElem?_cons_zero]; rfl))
  case' hQS5 => exact fun _ _ _ h => h
  case' hyS5 => refine Or.inl ⟨by rfl, ?_⟩
  (intro w hSw; (try dsimp only at hSw); go_simp; try with_reducible rfl)
  try simp only [Act.put, List.setIfInBounds_toArray, List.set_cons_zero, List.set_cons_succ]
  refine' wpAnyH_take (i := 5) (oi := _) (v := _) ?hiS6 (by kernel_rfl) (by kernel_rfl) (by kernel_rfl) ?hQS6 ?hyS6 (by assumption) ?restS6
  case' hiS6 => (first | (simp only [List.getElem?_toArray, List.getElem?_cons_succ, List.getElem?_cons_zero]; done) | (simp only [List.getElem?_toArray, List.getElem?_cons_succ, List.getElem?_cons_zero]; rfl))
  case' hQS6 => exact fun _ _ _ h => h
  case' hyS6 => refine Or.inl ⟨by rfl, ?_⟩
  (intro w hSw; (try dsimp only at hSw); go_simp; try with_reducible rfl)
  try simp only [Act.put, List.setIfInBounds_toArray, List.set_cons_zero, List.set_cons_succ]
  refine' wpAnyH_take (i := 6) (oi := _) (v := _) ?hiS7 (by kernel_rfl) (by kernel_rfl) (by kernel_rfl) ?hQS7 ?hyS7 (by assumption) ?restS7
  case' hiS7 => (first | (simp only [List.getElem?_toArray, List.getElem?_cons_succ, List.getElem?_cons_zero]; done) | (simp only [List.getElem?_toArray, List.getElem?_cons_succ, List.getElem?_cons_zero]; rfl))
  case' hQS7 => exact fun _ _ _ h => h
  case' hyS7 => refine Or.inl ⟨by rfl, ?_⟩
  (intro w hSw; (try dsimp only at hSw); go_simp; try with_reducible rfl)
  try simp only [Act.put, List.setIfInBounds_toArray, List.set_cons_zero, List.set_cons_succ]
  refine' wpAnyH_take (i := 7) (oi := _) (v := _) ?hiS8 (by kernel_rfl) (by kernel_rfl) (by kernel_rfl) ?hQS8 ?hyS8 (by assumption) ?restS8
  case' hiS8 => (first | (simp only [List.getElem?_toArray, List.getElem?_cons_succ, List.getElem?_cons_zero]; done) | (simp only [List.getElem?_toArray, List.getElem?_cons_succ, List.getElem?_cons_zero]; rfl))
  case' hQS8 => exact fun _ _ _ h => h
  case' hyS8 => refine Or.inl ⟨by rfl, ?_⟩
  (intro w hSw; (try dsimp only at hSw); go_simp; try with_reducible rfl)
  try simp only [Act.put, List.setIfInBounds_toArray, List.set_cons_zero, List.set_cons_succ]
  refine' wpAnyH_take (i := 8) (oi := _) (v := _) ?hiS9 (by kernel_rfl) (by kernel_rfl) (by kernel_rfl) ?hQS9 ?hyS9 (by assumption) ?restS9
  case' hiS9 => (first | (simp only [List.getElem?_toArray, List.getElem?_cons_succ, List.getElem?_cons_zero]; done) | (simp only [List.getElem?_toArray, List.getElem?_cons_succ, List.getElem?_cons_zero]; rfl))
  case' hQS9 => exact fun _ _ _ h => h
  case' hyS9 => refine Or.inl ⟨by rfl, ?_⟩
  (intro w hSw; (try dsimp only at hSw); go_simp; try with_reducible rfl)
  try simp only [Act.put, List.setIfInBounds_toArray, List.set_cons_zero, List.set_cons_succ]
  refine' wpAnyH_take (i := 9) (oi := _) (v := _) ?hiS10 (by kernel_rfl) (by kernel_rfl) (by kernel_rfl) ?hQS10 ?hyS10 (by assumption) ?restS10
  case' hiS10 => (first | (simp only [List.getElem?_toArray, List.getElem?_cons_succ, List.getElem?_cons_zero]; done) | (simp only [List.getElem?_toArray, List.getElem?_cons_succ, List.getElem?_cons_zero]; rfl))
  case' hQS10 => exact fun _ _ _ h => h
  case' hyS10 => refine Or.inl ⟨by rfl, ?_⟩
  (intro w hSw; (try dsimp only at hSw); go_simp; try with_reducible rfl)
  try simp only [Act.put, List.setIfInBounds_toArray, List.set_cons_zero, List.set_cons_succ]
  refine' wpAnyH_take (i := 10) (oi := _) (v := _) ?hiS11 (by kernel_rfl) (by kernel_rfl) (by kernel_rfl) ?hQS11 ?hyS11 (by assumption) ?restS11
  case' hiS11 => (first | (simp only [List.getElem?_toArray, List.getElem?_cons_succ, List.getElem?_cons_zero]; done) | (simp only [List.getElem?_toArray, List.getElem?_cons_succ, List.getElem?_cons_zero]; rfl))
  case' hQS11 => exact fun _ _ _ h => h
  case' hyS11 => refine Or.inl ⟨by rfl, ?_⟩
  (intro w hSw; (obtain ⟨⟨x0, x1, x2, x3, x4, x5, x6⟩, ⟨y0, y1, y2, y3, y4, y5, y6⟩, ⟨z0, z1, z2, z3, z4, z5, z6⟩, ⟨t0, t1, t2, t3, t4, t5, t6⟩⟩ := KP.out _ hSw.out); go_simp; try with_reducible rfl)
  try simp only [Act.put, List.setIfInBounds_toArray, List.set_cons_zero, List.set_cons_succ]
  refine' wpAnyH_take (i := 11) (oi := _) (v := _) ?hiS12 (by kernel_rfl) (by kernel_rfl) (by kernel_rfl) ?hQS12 ?hyS12 (by assumption) ?restS12
  case' hiS12 => (first | (simp only [List.getElem?_toArray, List.getElem?_cons_succ, List.getElem?_cons_zero]; done) | (simp only [List.getElem?_toArray, List.getElem?_cons_succ, List.getElem?_cons_zero]; rfl))
  case' hQS12 => exact fun _ _ _ h => h
  case' hyS12 => refine Or.inl ⟨by rfl, ?_⟩
  (intro w hSw; (obtain ⟨⟨x0, x1, x2, x3, x4, x5, x6⟩, ⟨y0, y1, y2, y3, y4, y5, y6⟩, ⟨z0, z1, z2, z3, z4, z5, z6⟩, ⟨t0, t1, t2, t3, t4, t5, t6⟩⟩ := KP.out _ hSw.out); go_simp; try with_reducible rfl)
  try simp only [Act.put, List.setIfInBounds_toArray, List.set_cons_zero, List.set_cons_succ]
  refine' wpAnyH_take (i := 13) (oi := _) (v := _) ?hiS13 (by kernel_rfl) (by kernel_rfl) (by kernel_rfl) ?hQS13 ?hyS13 (by assumption) ?restS13
  case' hiS13 => (first | (simp only [List.getElem?_toArray, List.getElem?_cons_succ, List.getElem?_cons_zero]; done) | (simp only [List.getElem?_toArray, List.getElem?_cons_succ, List.getElem?_cons_zero]; rfl))
  case' hQS13 => exact fun _ _ _ h => h
  case' hyS13 => refine Or.inl ⟨by rfl, ?_⟩
  (intro w hSw; (obtain ⟨⟨x0, x1, x2, x3, x4, x5, x6⟩, ⟨y0, y1, y2, y3, y4, y5, y6⟩, ⟨z0, z1, z2, z3, z4, z5, z6⟩, ⟨t0, t1, t2, t3, t4, t5, t6⟩⟩ := KP.out _ hSw.out); go_simp; try with_reducible rfl)
  try simp only [Act.put, List.setIfInBounds_toArray, List.set_cons_zero, List.set_cons_succ]
  refine' wpAnyH_take (i := 14) (oi := _) (v := _) ?hiS14 (by kernel_rfl) (by kernel_rfl) (by kernel_rfl) ?hQS14 ?hyS14 (by assumption) ?restS14
  case' hiS14 => (first | (simp only [List.getElem?_toArray, List.getElem?_cons_succ, List.getElem?_cons_zero]; done) | (simp only [List.getElem?_toArray, List.getElem?_cons_succ, List.getElem?_cons_zero]; rfl))
  case' hQS14 => exact fun _ _ _ h => h
  case' hyS14 => refine Or.inl ⟨by rfl, ?_⟩
  (intro w hSw; (obtain ⟨⟨x0, x1, x2, x3, x4, x5, x6⟩, ⟨y0, y1, y2, y3, y4, y5, y6⟩, ⟨z0, z1, z2, z3, z4, z5, z6⟩, ⟨t0, t1, t2, t3, t4, t5, t6⟩⟩ := KP.out _ hSw.out); go_simp; try with_reducible rfl)
  try simp only [Act.put, List.setIfInBounds_toArray, List.set_cons_zero, List.set_cons_succ]
  refine wpAnyH_ready (rs := [12]) (by kernel_rfl) (by simp) ?_
  refine' AllReadyH.cons (o := _) ?hiS15 (fun K hK => ?hKS15) AllReadyH.nil
  case' hiS15 => (first | (simp only [List.getElem?_toArray, List.getElem?_cons_succ, List.getElem?_cons_zero]; done) | (simp only [List.getElem?_toArray, List.getElem?_cons_succ, List.getElem?_cons_zero]; rfl))
  go_simp
  (go_at_call 13; refine (C2.out _ UU.out).mono ?_; rintro e w9 ⟨rfl, u9⟩; (have UU := Lib.hid (UU.out.trans u9 (fun _ _ h => h))))
  refine hK.out _ _ ?_ (fun hHeld => ?_)
  · exact UU
  clear hK K
  try simp only [Act.put, List.setIfInBounds_toArray, List.set_cons_zero, List.set_cons_succ]
  refine wpAnyH_ready (rs := [15]) (by kernel_rfl) (by simp) ?_
  refine' AllReadyH.cons (o := _) ?hiS16 (fun K hK => ?hKS16) AllReadyH.nil
  case' hiS16 => (first | (simp only [List.getElem?_toArray, List.getElem?_cons_succ, List.getElem?_cons_zero]; done) | (simp only [List.getElem?_toArray, List.getElem?_cons_succ, List.getElem?_cons_zero]; rfl))
  go_simp
  (go_at_call 17; refine (C3.out _ UU.out).mono ?_; rintro e w9 ⟨rfl, u9⟩; (have UU := Lib.hid (UU.out.trans u9 (fun _ _ h => h))))
  refine hK.out _ _ ?_ (fun hHeld => ?_)
  · exact UU
  clear hK K
  try simp only [Act.put, List.setIfInBounds_toArray, List.set_cons_zero, List.set_cons_succ]
  refine' wpAnyH_take (i := 16) (oi := _) (v := _) ?hiS17 (by kernel_rfl) (by kernel_rfl) (by kernel_rfl) ?hQS17 ?hyS17 (by assumption) ?restS17
  case' hiS17 => (first | (simp only [List.getElem?_toArray, List.getElem?_cons_succ, List.getElem?_cons_zero]; done) | (simp only [List.getElem?_toArray, List.getElem?_cons_succ, List.getElem?_cons_zero]; rfl))
  case' hQS17 => exact fun _ _ _ h => h
  case' hyS17 => refine Or.inl ⟨by rfl, ?_⟩
  (intro w hSw; (try dsimp only at hSw); go_simp; try with_reducible rfl)
  try simp only [Act.put, List.setIfInBounds_toArray, List.set_cons_zero, List.set_cons_succ]
  refine' wpAnyH_take (i := 17) (oi := _) (v := _) ?hiS18 (by kernel_rfl) (by kernel_rfl) (by kernel_rfl) ?hQS18 ?hyS18 (by assumption) ?restS18
  case' hiS18 => (first | (simp only [List.getElem?_toArray, List.getElem?_cons_succ, List.getElem?_cons_zero]; done) | (simp only [List.getElem?_toArray, List.getElem?_cons_succ, List.getElem?_cons_zero]; rfl))
  case' hQS18 => exact fun _ _ _ h => h
  case' hyS18 => refine Or.inl ⟨by rfl, ?_⟩
  (intro w hSw; (try dsimp only at hSw); go_simp; try with_reducible rfl)
  try simp only [Act.put, List.setIfInBounds_toArray, List.set_cons_zero, List.set_cons_succ]
  refine wpAnyH_done (by kernel_rfl) ?_ _
  skip

  clear C1 C2 C3
  obtain ⟨⟨x0, x1, x2, x3, x4, x5, x6⟩, _, _, _⟩ := KP.out _ UU.out
  obtain ⟨y, hy⟩ : ∃ y, ((cc : Int) == 1) = y := ⟨_, rfl⟩
  obtain ⟨cv, hcv⟩ : ∃ cv, cachM a y = cv := ⟨_, rfl⟩
  obtain ⟨tb, htb⟩ : ∃ tb, tracksM a cc = tb := ⟨_, rfl⟩
  have D1 : Hid (∀ W, Calls Tryd.prog 19 #[.agg #[.bool a.on, .bool a.bc, .bool a.oi, .bool a.oo, .bool a.nl, .int .i64 a.rd, .slice pa na ca], .bool y] W fun e w' => e = .returned (.int .i64 cv) ∧ Upd (fun _ => False) W w') := Lib.hid (fun W => by subst hcv; exact caching_any a _ y W)
  have D2 : Hid (∀ W, Calls Tryd.prog 24 #[.agg #[.bool a.on, .bool a.bc, .bool a.oi, .bool a.oo, .bool a.nl, .int .i64 a.rd, .slice pa na ca], .bool y] W fun e w' => e = .returned (.int .i64 cv) ∧ Upd (fun _ => False) W w') := Lib.hid (fun W => by subst hcv; exact caching13_any a _ y W)
  have D3 : Hid (∀ W, Calls Tryd.prog 20 #[.agg #[.bool a.on, .bool a.bc, .bool a.oi, .bool a.oo, .bool a.nl, .int .i64 a.rd, .slice pa na ca], .int .i64 cc] W fun e w' => e = .returned (.bool tb) ∧ Upd (fun _ => False) W w') := Lib.hid (fun W => by subst htb; exact tracks_any a _ cc W)
  have D4 : Hid (∀ W, Calls Tryd.prog 25 #[.agg #[.bool a.on, .bool a.bc, .bool a.oi, .bool a.oo, .bool a.nl, .int .i64 a.rd, .slice pa na ca], .int .i64 cc] W fun e w' => e = .returned (.bool tb) ∧ Upd (fun _ => False) W w') := Lib.hid (fun W => by subst htb; exact tracks13_any a _ cc W)
  have D5 := Lib.hid (fun W => flags_any a pa na ca W)
  have D6 := Lib.hid (fun W => flags13_any a pa na ca W)
  have qcv : (cv == cv) = true := by simp
  have qtb : (tb == tb) = true := by simp
  clear hcv htb
  go_wp2
  go_region_held3 (fun w' => w'.cell? ⟨w.heap.size, 0, none⟩ = some (.bool a.on) ∧ w'.cell? ⟨w.heap.size, 1, none⟩ = some (.bool a.bc) ∧ w'.cell? ⟨w.heap.size, 2, none⟩ = some (.bool a.oi) ∧ w'.cell? ⟨w.heap.size, 3, none⟩ = some (.bool a.oo) ∧ w'.cell? ⟨w.heap.size, 4, none⟩ = some (.bool a.nl) ∧ w'.cell? ⟨w.heap.size, 5, none⟩ = some (.int .i64 a.rd) ∧ w'.cell? ⟨w.heap.size, 6, none⟩ = some (.slice pa na ca)) (go_keep) (first
    | (go_at_call 19; refine (D1.out _).mono ?_; rintro e w10 ⟨rfl, u9⟩; (have UU := Lib.hid (Upd.trans (by first | exact UU.out | exact UU.out.drew) u9 (fun _ _ h => h))); (clear x0 x1 x2 x3 x4 x5 x6); (obtain ⟨⟨x0, x1, x2, x3, x4, x5, x6⟩, _, _, _⟩ := KP.out _ UU.out); (try have TF1 := Lib.hid (own_keep TF1.out u9 (fun _ _ h => h))); (try have TF2 := Lib.hid (own_keep TF2.out u9 (fun _ _ h => h))))
    | (go_at_call 24; refine (D2.out _).mono ?_; rintro e w10 ⟨rfl, u9⟩; (have UU := Lib.hid (Upd.trans (by first | exact UU.out | exact UU.out.drew) u9 (fun _ _ h => h))); (clear x0 x1 x2 x3 x4 x5 x6); (obtain ⟨⟨x0, x1, x2, x3, x4, x5, x6⟩, _, _, _⟩ := KP.out _ UU.out); (try have TF1 := Lib.hid (own_keep TF1.out u9 (fun _ _ h => h))); (try have TF2 := Lib.hid (own_keep TF2.out u9 (fun _ _ h => h))))
    | (go_at_call 20; refine (D3.out _).mono ?_; rintro e w10 ⟨rfl, u9⟩; (have UU := Lib.hid (Upd.trans (by first | exact UU.out | exact UU.out.drew) u9 (fun _ _ h => h))); (clear x0 x1 x2 x3 x4 x5 x6); (obtain ⟨⟨x0, x1, x2, x3, x4, x5, x6⟩, _, _, _⟩ := KP.out _ UU.out); (try have TF1 := Lib.hid (own_keep TF1.out u9 (fun _ _ h => h))); (try have TF2 := Lib.hid (own_keep TF2.out u9 (fun _ _ h => h))))
    | (go_at_call 25; refine (D4.out _).mono ?_; rintro e w10 ⟨rfl, u9⟩; (have UU := Lib.hid (Upd.trans (by first | exact UU.out | exact UU.out.drew) u9 (fun _ _ h => h))); (clear x0 x1 x2 x3 x4 x5 x6); (obtain ⟨⟨x0, x1, x2, x3, x4, x5, x6⟩, _, _, _⟩ := KP.out _ UU.out); (try have TF1 := Lib.hid (own_keep TF1.out u9 (fun _ _ h => h))); (try have TF2 := Lib.hid (own_keep TF2.out u9 (fun _ _ h => h))))
    | (go_at_call 21; refine (D5.out _).mono ?_; rintro e w10 ⟨vTF1, rfl, t9, u9⟩; (have UU := Lib.hid (Upd.trans (by first | exact UU.out | exact UU.out.drew) u9 (fun _ _ h => h))); (clear x0 x1 x2 x3 x4 x5 x6); (obtain ⟨⟨x0, x1, x2, x3, x4, x5, x6⟩, _, _, _⟩ := KP.out _ UU.out); (try have TF1 := Lib.hid (own_keep TF1.out u9 (fun _ _ h => h))); (try have TF2 := Lib.hid (own_keep TF2.out u9 (fun _ _ h => h))); (have TF1 := Lib.hid t9))
    | (go_at_call 27; refine (D6.out _).mono ?_; rintro e w10 ⟨vTF2, rfl, t9, u9⟩; (have UU := Lib.hid (Upd.trans (by first | exact UU.out | exact UU.out.drew) u9 (fun _ _ h => h))); (clear x0 x1 x2 x3 x4 x5 x6); (obtain ⟨⟨x0, x1, x2, x3, x4, x5, x6⟩, _, _, _⟩ := KP.out _ UU.out); (try have TF1 := Lib.hid (own_keep TF1.out u9 (fun _ _ h => h))); (try have TF2 := Lib.hid (own_keep TF2.out u9 (fun _ _ h => h))); (have TF2 := Lib.hid t9))
    | (go_at_call 26; refine (same06T_any _ _ _ _ _ _ TF1.out TF2.out).mono ?_; rintro e w10 ⟨rfl, u9⟩; (have UU := Lib.hid (Upd.trans (by first | exact UU.out | exact UU.out.drew) u9 (fun _ _ h => h))); (clear x0 x1 x2 x3 x4 x5 x6); (obtain ⟨⟨x0, x1, x2, x3, x4, x5, x6⟩, _, _, _⟩ := KP.out _ UU.out); (try have TF1 := Lib.hid (own_keep TF1.out u9 (fun _ _ h => h))); (try have TF2 := Lib.hid (own_keep TF2.out u9 (fun _ _ h => h)))))
  all_goals
    try go_wp2
    go_ret
    exact ⟨rfl, UZ.out.trans UU.out (fun _ _ h => h)⟩
end Go.Proofs.YtcpfkkbegnhofaaDoor
/- What the listed variables give the walks, and the witness. -/
set_option linter.unusedVariables false
set_option linter.unusedSimpArgs false
namespace Go.Proofs.YtcpfkkbegnhofaaDoor
open Go.ChangeShapes Go.WideShapes Go.ChangeAt Go.WideMaps Go.WideElems Go.RowKit Go.Stop Go.Extern

theorem int_bounds {n : Int} (h : (Lit.int .i64 n).wf = true) : -9223372036854775808 ≤ n ∧ n ≤ 9223372036854775807 := by
  have := bounds_i64 h
  omega

def laidAll : List (String × DataW Unit) := [("math/bits.deBruijn32tab", Rows.laid_math_bits_deBruijn32tab), ("math/bits.deBruijn64tab", Rows.laid_math_bits_deBruijn64tab), ("internal/strconv.uint64pow10", Lib.tabData .u64 Lib.pow10Tab), ("unicode/utf8.acceptRanges", Rows.laid_unicode_utf8_acceptRanges), ("strconv.ErrRange", Rows.laid_strconv_ErrRange), ("strconv.ErrSyntax", Rows.laid_strconv_ErrSyntax), ("unicode/utf8.first", Rows.laid_unicode_utf8_first)]

theorem star : "*" ++ "errors.errorString" = "*errors.errorString" := by decide
theorem rowErr (u : TypeId) (h : Tryd.prog.typeName? 3 u = some "*errors.errorString") : u = 135 :=
  typeName_ptr_named (nm := "errors.errorString") (by rw [star]; kernel_rfl) (by kernel_rfl) (by decide) u (by rw [star]; exact h)

theorem door_met (os : Os) (args : Array Value) : laidMetH Tryd.prog laidAll ((World.laidAll Tryd.prog os laidAll).forCall (fun _ _ => 0) ⟨#[], args, []⟩).memory := by
  rw [MakeChecks.laidMetH_plain _ _ _ (by kernel_rfl)]
  exact laidMet_laidAll _ (by kernel_rfl) (by kernel_rfl)
theorem door_shaped (os : Os) (args : Array Value) : ((World.laidAll Tryd.prog os laidAll).forCall (fun _ _ => 0) ⟨#[], args, []⟩).Shaped Tryd.prog := World.shaped_of_ZipB (by kernel_rfl) (by kernel_rfl)

theorem std_of_laid {W : World} (h : laidMetH Tryd.prog laidAll W) : Std W := by
  rw [MakeChecks.laidMetH_plain _ _ _ (by kernel_rfl)] at h
  have h3 := laidMet.tail (laidMet.tail h)
  have h4 := laidMet.tail (laidMet.tail h3)
  have h5 := laidMet.tail h4
  refine ⟨Lib.tabIs_of_head (g := 5) (by kernel_rfl) (by kernel_rfl) Tryd.underlying139 Tryd.underlying98 (by kernel_rfl) (by kernel_rfl) h3, ?_, ?_⟩
  · obtain ⟨a, s, h1, _⟩ := laid_sentinel (g := 3) h5 (by kernel_rfl) (by kernel_rfl) Tryd.underlying77 rowErr Tryd.underlying135 Tryd.underlying137 rfl rfl Tryd.underlying9 (by kernel_rfl) (by kernel_rfl)
    exact ⟨_, _, h1⟩
  · obtain ⟨a, s, h1, _⟩ := laid_sentinel (g := 4) h4 (by kernel_rfl) (by kernel_rfl) Tryd.underlying77 rowErr Tryd.underlying135 Tryd.underlying137 rfl rfl Tryd.underlying9 (by kernel_rfl) (by kernel_rfl)
    exact ⟨_, _, h1⟩
theorem first_same : Rows.laid_unicode_utf8_first = Lib.firstData := by kernel_rfl
theorem accept_same : (Rows.laid_unicode_utf8_acceptRanges : DataW Unit) = Lib.acceptData := by kernel_rfl
theorem stdU_of_laid {W : World} (h : laidMetH Tryd.prog laidAll W) : StdU W := by
  refine ⟨std_of_laid h, ?_⟩
  rw [MakeChecks.laidMetH_plain _ _ _ (by kernel_rfl)] at h
  have h1 := Lib.laidMet.reads h (n := "unicode/utf8.first") (d := Rows.laid_unicode_utf8_first) (by simp [laidAll])
  have h2 := Lib.laidMet.reads h (n := "unicode/utf8.acceptRanges") (d := Rows.laid_unicode_utf8_acceptRanges) (by simp [laidAll])
  rw [first_same] at h1
  rw [accept_same] at h2
  exact utf8Tabs_of_reads Tryd.lays260 ⟨by kernel_rfl, by kernel_rfl, by kernel_rfl, by kernel_rfl, by kernel_rfl, by kernel_rfl, by kernel_rfl⟩ h1 h2
end Go.Proofs.YtcpfkkbegnhofaaDoor
/- An argument that is a slice of structs of one-cell fields, opened to its cells. -/
set_option linter.unusedVariables false
set_option linter.unusedSimpArgs false
namespace Go.Proofs.YtcpfkkbegnhofaaDoor
open Go.RowKit Go.ChangeShapes Go.WideShapes Go.Deep

/-- A slice of structs whose fields are one cell each: its length fits, and field j of element i lies in a cell of its own, and is read by that field's type. -/
theorem slice_cells {H : Type} {enc : TypeId × Value → H} {P : Program} {w : World} {base : Nat} {spare : Nat → Bool} {held : Bool} {T E : TypeId} {fs : Array Field} {fuel len cap : Nat} {a : Addr} {x : DataW H × List MemPlace}
    (hT : P.underlying T = some (.slice E)) (hE : P.underlying E = some (.struct fs)) (h1 : oneCellFields P fs = true) (hn : P.cellsOf E = fs.size)
    (h : DataW.trod enc P w base spare held fuel T [.slice (some a) len cap] = some x) :
    len ≤ maxLen ∧ ∀ i, i < len → ∀ j f, fs[j]? = some f → ∃ v y k, w.cell? (a.add (i * fs.size + j)) = some v ∧ DataW.trod enc P w base spare held k f.type [v] = some y := by
  rcases open_slice hT h with ⟨hnil, _⟩ | ⟨a', len', cap', m, n, D, Q, hv, _, hlc, hcm, hm, _, hall⟩
  · simp at hnil
  · simp only [List.cons.injEq, Value.slice.injEq, Option.some.injEq, and_true] at hv
    obtain ⟨rfl, rfl, rfl⟩ := hv
    have hlm : len ≤ m := by rw [hm]; split <;> omega
    refine ⟨Nat.le_trans hlc hcm, fun i hi j f hj => ?_⟩
    have hjs : j < fs.size := (Array.getElem?_eq_some_iff.1 hj).1
    obtain ⟨row, hrow, hread⟩ := hall i (Nat.lt_of_lt_of_le hi hlm)
    obtain ⟨_, hsize, hcells⟩ := World.cells?_some hrow
    obtain ⟨_, k, _, _, _, _, hfield⟩ := DataW.trod_struct hE hread
    obtain ⟨hoff, hone⟩ := hone_of h1 j f hj
    have hjr : j < row.length := by omega
    have hf := hfield j f hj
    rw [hoff, hone, List.drop_eq_getElem_cons hjr] at hf
    simp only [List.take_succ_cons, List.take_zero] at hf
    have hc := hcells j (by omega)
    rw [hn, Go.Deep.add_add, List.getElem?_eq_getElem hjr] at hc
    cases hy : DataW.trod enc P w base spare held k f.type [row[j]] with
    | none =>
      rw [hy] at hf
      have := (List.getElem?_eq_none_iff.1 hf.symm)
      omega
    | some y => exact ⟨row[j], y, k, hc, hy⟩

theorem slice_nil {H : Type} {enc : TypeId × Value → H} {P : Program} {w : World} {base : Nat} {spare : Nat → Bool} {held : Bool} {T E : TypeId} {fuel len cap : Nat} {x : DataW H × List MemPlace}
    (hT : P.underlying T = some (.slice E)) (h : DataW.trod enc P w base spare held fuel T (Value.slice none len cap).cells.toList = some x) : len = 0 ∧ cap = 0 := by
  rcases open_slice hT h with ⟨hnil, _⟩ | ⟨a', _, _, _, _, _, _, hv, _⟩
  · simpa [Value.cells] using hnil
  · simp [Value.cells] at hv

theorem rowOf_mk {α : Type} {f : α → List Value} {k : Nat} (hk : 0 < k) {w : World} {a : Addr} {len cap : Nat} (g : Nat → α) (hm : len ≤ maxLen)
    (hc : ∀ i, i < len → ∀ j, j < k → ∃ v, (f (g i))[j]? = some v ∧ w.cell? (a.add (i * k + j)) = some v) : RowOf f k w (.slice (some a) len cap) ((List.range len).map g) := by
  obtain ⟨b, off, spot⟩ := a
  by_cases h0 : len = 0
  · subst h0; exact Or.inl ⟨_, _, rfl, rfl⟩
  · obtain ⟨v, _, h1⟩ := hc 0 (by omega) 0 hk
    have hspot : spot = none := by simpa [Addr.add] using World.cell?_spot h1
    subst hspot
    have hb : b < w.heap.size := by
      by_cases hb : b < w.heap.size
      · exact hb
      · simp [World.cell?, Addr.add, Array.getElem?_eq_none (by omega : w.heap.size ≤ b)] at h1
    refine Or.inr ⟨b, off, cap, by simp, hb, by simpa using hm, fun i x hi j hj => ?_⟩
    have hil : i < len := by
      have := (List.getElem?_eq_some_iff.1 hi).1
      simpa using this
    have hx : x = g i := by
      have : ((List.range len).map g)[i]? = some (g i) := by simp [hil]
      rw [this] at hi; exact (Option.some.inj hi).symm
    subst hx
    obtain ⟨v, h1, h2⟩ := hc i hil j hj
    have e : (⟨b, off, none⟩ : Addr).add (i * k + j) = ⟨b, off + (i * k + j), none⟩ := by unfold Addr.add; split <;> simp_all
    rw [e] at h2
    rw [h2, h1]
end Go.Proofs.YtcpfkkbegnhofaaDoor
