/- Walk: ModeSwitches. Printed by genswitches.py. -/
import Derived.Test.YtcpfkkbegnhofaaDoorK11
import Derived.Test.YtcpfkkbegnhofaaDoorK12
import Derived.Test.YtcpfkkbegnhofaaDoorK13
import Derived.Test.YtcpfkkbegnhofaaDoorK10
import Derived.Deep.RegionHeld3
import Derived.Test.YtcpfkkbegnhofaaDoorK07
import Derived.Deep.DeepCutAuto
set_option linter.unusedVariables false
set_option linter.unusedSimpArgs false
namespace Go.Proofs.YtcpfkkbegnhofaaDoor
open Go.RowKit

theorem strs_of {w : World} {base : Nat} {v : Value} {l : List Txt} (h : TxtsAt w base v l) : RowOf strc 1 w v (l.map ofL) := by
  have h2 : StrsAt w base v (l.map ofL) := by
    unfold StrsAt
    unfold TxtsAt at h
    rw [List.length_map, List.map_map]
    exact h
  exact h2.row
theorem same06T_any (w : World) (b1 b2 : Nat) (v1 v2 : Value) (l : List Txt) (h1 : TxtsAt w b1 v1 l) (h2 : TxtsAt w b2 v2 l) :
    Calls Tryd.prog 26 #[v1, v2] w fun e w' => e = .returned (.bool true) ∧ Upd (fun _ => False) w w' := by
  refine (same06_any v1 v2 _ _ w (strs_of h1) (strs_of h2)).mono ?_
  rintro e w' ⟨rfl, n, rfl⟩
  exact ⟨by simp, (Upd.refl _ _).drewN n⟩
theorem same13_out (m m' : MD) (p p' : Option Addr) (n n' c c' : Nat) (hn : n = m.ps.length) (hn' : n' = m'.ps.length) (r : Bool) (hr : decide (m = m') = r) (W : World) (h : RowOf txtc 1 W (.slice p n c) m.ps) (h' : RowOf txtc 1 W (.slice p' n' c') m'.ps) (hl : m.ps.length ≤ 100000) :
    Calls Tryd.prog 17 #[.agg #[.bool m.on, .bool m.bc, .bool m.oi, .bool m.oo, .bool m.nl, .int .i64 m.rd, .slice p n c], .agg #[.bool m'.on, .bool m'.bc, .bool m'.oi, .bool m'.oo, .bool m'.nl, .int .i64 m'.rd, .slice p' n' c']] W fun e w' => e = .returned (.bool r) ∧ Upd (fun _ => False) W w' := by
  subst hn hn' hr
  exact same13r_any m m' _ _ W h h' (by omega)
set_option maxHeartbeats 8000000 in
set_option maxRecDepth 100000 in
theorem lawMSwitches (a b : MD) (cc : Int) (pa pb : Option Addr) (ca cb : Nat) (w : World) (ha : RwT w pa ca a.ps) (hb : RwT w pb cb b.ps) (hza : ∀ t ∈ a.ps, t.length ≤ maxLen) (hzb : ∀ t ∈ b.ps, t.length ≤ maxLen) (hs : StdU w) :
    Calls Tryd.prog 8 #[mdV a (.slice pa a.ps.length ca), mdV b (.slice pb b.ps.length cb), .int .i64 cc] w fun e w' => e = .returned (.bool true) ∧ Upd (fun _ => False) w w' := by
  have hla := ha.2
  have hlb := hb.2
  unfold maxLen at hla hlb
  obtain ⟨na, hna⟩ : ∃ na, na = a.ps.length := ⟨_, rfl⟩
  obtain ⟨nb, hnb⟩ : ∃ nb, nb = b.ps.length := ⟨_, rfl⟩
  unfold mdV
  rw [← hna, ← hnb]
  rw [← hna] at hla
  rw [← hnb] at hlb
  have NA := Lib.hid hna
  have NB := Lib.hid hnb
  have GA := Lib.hid (fun W (u : Upd (fun _ => False) w W) => great_out a pa na ca hna W (ha.keep u) hza)
  have GB := Lib.hid (fun W (u : Upd (fun _ => False) w W) => great_out b pb nb cb hnb W (hb.keep u) hzb)
  have AL := Lib.hid (fun W (u : Upd (fun _ => False) w W) => alive_any W (hs.keep u))
  have HA := Lib.hid ha
  have HB := Lib.hid hb
  have RAw : Hid (∀ W, Upd (fun _ => False) w W → RowOf txtc 1 W (.slice pa na ca) a.ps) := Lib.hid (fun W u => by rw [NA.out]; exact (HA.out.keep u).1)
  have RBw : Hid (∀ W, Upd (fun _ => False) w W → RowOf txtc 1 W (.slice pb nb cb) b.ps) := Lib.hid (fun W u => by rw [NB.out]; exact (HB.out.keep u).1)
  have ZA := Lib.hid hza
  have ZB := Lib.hid hzb
  clear ha hb hza hzb hs hna hnb
  have U0 : Hid (Upd (fun _ => False) w ((w.alloc (.cells #[.bool a.on, .bool a.bc, .bool a.oi, .bool a.oo, .bool a.nl, .int .i64 a.rd, .slice pa na ca] 24)).alloc (.cells #[.bool b.on, .bool b.bc, .bool b.oi, .bool b.oo, .bool b.nl, .int .i64 b.rd, .slice pb nb cb] 24))) := Lib.hid (((Upd.refl _ _).alloc _).alloc _)
  have BA0 := (Blk.made w [.bool a.on, .bool a.bc, .bool a.oi, .bool a.oo, .bool a.nl, .int .i64 a.rd, .slice pa na ca] 24).alloc (.cells #[.bool b.on, .bool b.bc, .bool b.oi, .bool b.oo, .bool b.nl, .int .i64 b.rd, .slice pb nb cb] 24)
  have BB0 := Blk.made (w.alloc (.cells #[.bool a.on, .bool a.bc, .bool a.oi, .bool a.oo, .bool a.nl, .int .i64 a.rd, .slice pa na ca] 24)) [.bool b.on, .bool b.bc, .bool b.oi, .bool b.oo, .bool b.nl, .int .i64 b.rd, .slice pb nb cb] 24
  have hs1 : (w.alloc (.cells #[.bool a.on, .bool a.bc, .bool a.oi, .bool a.oo, .bool a.nl, .int .i64 a.rd, .slice pa na ca] 24)).heap.size = w.heap.size + 1 := by simp
  rw [hs1] at BB0
  have BA0 := Lib.hid BA0
  have BB0 := Lib.hid BB0
  have AL := Lib.hid (AL.out _ U0.out)
  clear hs1
  go_enter Tryd.func8, Tryd.ntmps8
  go_wp2_with fail
  refine AL.out.mono ?_
  rintro e w1 ⟨rfl, u1⟩
  have U1 := Lib.hid (U0.out.trans u1 (fun _ _ h => h))
  have BA1 := Lib.hid (u1.blk BA0.out id)
  have BB1 := Lib.hid (u1.blk BB0.out id)
  obtain ⟨ya, ga, a0, a1, a2, a3, a4, a5, a6⟩ := mode_facts BA1.out
  have G1 := Lib.hid (GA.out w1 U1.out)
  clear u1 BA0 BB0 U0
  go_wp2_with fail
  refine G1.out.mono ?_
  rintro e w2 ⟨g, rfl, hg, u2⟩
  have U2 := Lib.hid (U1.out.trans u2 (fun _ _ h => h))
  cases g with
  | true =>
    clear u2
    go_wp2
    go_ret
    exact ⟨rfl, U2.out⟩
  | false =>
  have SA := Lib.hid (hg rfl)
  have BA2 := Lib.hid (u2.blk BA1.out id)
  have BB2 := Lib.hid (u2.blk BB1.out id)
  obtain ⟨yb, gb, b0, b1, b2, b3, b4, b5, b6⟩ := mode_facts BB2.out
  have G2 := Lib.hid (GB.out w2 U2.out)
  clear u2 BA1 BB1 hg ya ga a0 a1 a2 a3 a4 a5 a6 G1
  go_wp2_with fail
  refine G2.out.mono ?_
  rintro e w3 ⟨g, rfl, hg, u3⟩
  have U3 := Lib.hid (U2.out.trans u3 (fun _ _ h => h))
  cases g with
  | true =>
    clear u3
    go_wp2
    go_ret
    exact ⟨rfl, U3.out⟩
  | false =>
  have SB := Lib.hid (hg rfl)
  have BA3 := Lib.hid (u3.blk BA2.out id)
  have BB3 := Lib.hid (u3.blk BB2.out id)
  obtain ⟨ya, ga, a0, a1, a2, a3, a4, a5, a6⟩ := mode_facts BA3.out
  clear u3 BA2 BB2 hg yb gb b0 b1 b2 b3 b4 b5 b6 G2
  cases hra : rightM a with
  | false =>
    have R1 := Lib.hid (right13_out a pa na ca NA.out false hra w3 (HA.out.keep U3.out) (by have := SA.out.1; omega) ZA.out)
    clear hra
    go_wp2_with fail
    refine R1.out.mono ?_
    rintro e w4 ⟨rfl, u4⟩
    have U4 := Lib.hid (U3.out.trans u4 (fun _ _ h => h))
    clear u4
    go_wp2
    go_ret
    exact ⟨rfl, U4.out⟩
  | true =>
  have R1 := Lib.hid (right13_out a pa na ca NA.out true hra w3 (HA.out.keep U3.out) (by have := SA.out.1; omega) ZA.out)
  have RA := Lib.hid hra
  clear hra
  go_wp2_with fail
  refine R1.out.mono ?_
  rintro e w4 ⟨rfl, u4⟩
  have U4 := Lib.hid (U3.out.trans u4 (fun _ _ h => h))
  have BA4 := Lib.hid (u4.blk BA3.out id)
  have BB4 := Lib.hid (u4.blk BB3.out id)
  obtain ⟨yb, gb, b0, b1, b2, b3, b4, b5, b6⟩ := mode_facts BB4.out
  clear u4 BA3 BB3 ya ga a0 a1 a2 a3 a4 a5 a6 R1
  cases hrb : rightM b with
  | false =>
    have R1 := Lib.hid (right13_out b pb nb cb NB.out false hrb w4 (HB.out.keep U4.out) (by have := SB.out.1; omega) ZB.out)
    clear hrb
    go_wp2_with fail
    refine R1.out.mono ?_
    rintro e w5 ⟨rfl, u5⟩
    have U5 := Lib.hid (U4.out.trans u5 (fun _ _ h => h))
    clear u5
    go_wp2
    go_ret
    exact ⟨rfl, U5.out⟩
  | true =>
  have R1 := Lib.hid (right13_out b pb nb cb NB.out true hrb w4 (HB.out.keep U4.out) (by have := SB.out.1; omega) ZB.out)
  have RB := Lib.hid hrb
  clear hrb
  go_wp2_with fail
  refine R1.out.mono ?_
  rintro e w5 ⟨rfl, u5⟩
  have U5 := Lib.hid (U4.out.trans u5 (fun _ _ h => h))
  have BA5 := Lib.hid (u5.blk BA4.out id)
  have BB5 := Lib.hid (u5.blk BB4.out id)
  obtain ⟨ya, ga, a0, a1, a2, a3, a4, a5, a6⟩ := mode_facts BA5.out
  clear u5 BA4 BB4 yb gb b0 b1 b2 b3 b4 b5 b6 R1 GA GB AL
  have LA : Hid (a.ps.length ≤ 1000) := Lib.hid (by have := SA.out.1; omega)
  have LB : Hid (b.ps.length ≤ 1000) := Lib.hid (by have := SB.out.1; omega)
  obtain ⟨M, er, hM⟩ : ∃ M er, switchM a b = (M, er) := ⟨_, _, rfl⟩
  have LM : Hid (M.ps.length ≤ 100) := Lib.hid (by
    have h1 := (sw_right RA.out RB.out).1
    rw [hM] at h1
    exact Nat.le_trans (show M.ps.length ≤ 32 from (right_small h1).1) (by omega))
  obtain ⟨yb, gb, b0, b1, b2, b3, b4, b5, b6⟩ := mode_facts BB5.out
  have S1 := Lib.hid (switch_out a b M er hM pa pb na nb ca cb NA.out NB.out w5 (RAw.out _ U5.out) (RBw.out _ U5.out) LA.out LB.out ZA.out ZB.out)
  have HM := Lib.hid hM
  clear hM
  go_wp2_with fail
  refine S1.out.mono ?_
  rintro e w6 ⟨p2, n2, c2, rfl, hn2, hm2, hr2, u6⟩
  unfold maxLen at hm2
  have N2 := Lib.hid hn2
  obtain ⟨o6, ho6⟩ : ∃ o6, o6 = Obj.cells #[.bool M.on, .bool M.bc, .bool M.oi, .bool M.oo, .bool M.nl, .int .i64 M.rd, .slice p2 n2 c2] 24 := ⟨_, rfl⟩
  have BA6 := (u6.blk BA5.out id).alloc o6
  have BB6 := (u6.blk BB5.out id).alloc o6
  have BM6 : Blk (w6.alloc o6) w6.heap.size [.bool M.on, .bool M.bc, .bool M.oi, .bool M.oo, .bool M.nl, .int .i64 M.rd, .slice p2 n2 c2] 24 := by rw [ho6]; exact Blk.made w6 _ _
  have R6 : RowOf txtc 1 (w6.alloc o6) (.slice p2 n2 c2) M.ps := hr2.keep ((Upd.refl _ _).alloc o6) (fun _ _ _ => id)
  have U6 : Upd (fun _ => False) w (w6.alloc o6) := (U5.out.trans u6 (fun _ _ h => h)).alloc o6
  have S2 := switch13_any a b M er HM.out pa pb na nb ca cb NA.out NB.out (w6.alloc o6) (HA.out.keep U6) (HB.out.keep U6) LA.out LB.out ZA.out ZB.out
  rw [ho6] at BA6 BB6 BM6 R6 U6 S2
  have BA6 := Lib.hid BA6
  have BB6 := Lib.hid BB6
  have BM6 := Lib.hid BM6
  have R6 := Lib.hid R6
  have U6 := Lib.hid U6
  have S2 := Lib.hid S2
  clear ho6 o6 hr2 hn2 u6 S1 BA5 BB5 ya ga a0 a1 a2 a3 a4 a5 a6 yb gb b0 b1 b2 b3 b4 b5 b6
  obtain ⟨ya, ga, a0, a1, a2, a3, a4, a5, a6⟩ := mode_facts BA6.out
  obtain ⟨yb, gb, b0, b1, b2, b3, b4, b5, b6⟩ := mode_facts BB6.out
  go_wp2_with fail
  refine S2.out.mono ?_
  rintro e w7 ⟨p3, n3, c3, rfl, hn3, hm3, hr3, u7⟩
  unfold maxLen at hm3
  have N3 := Lib.hid hn3
  obtain ⟨o7, ho7⟩ : ∃ o7, o7 = Obj.cells #[.bool M.on, .bool M.bc, .bool M.oi, .bool M.oo, .bool M.nl, .int .i64 M.rd, .slice p3 n3 c3] 24 := ⟨_, rfl⟩
  have BA7 := (u7.blk BA6.out id).alloc o7
  have BB7 := (u7.blk BB6.out id).alloc o7
  have BM7 := (u7.blk BM6.out id).alloc o7
  have BN7 : Blk (w7.alloc o7) w7.heap.size [.bool M.on, .bool M.bc, .bool M.oi, .bool M.oo, .bool M.nl, .int .i64 M.rd, .slice p3 n3 c3] 24 := by rw [ho7]; exact Blk.made w7 _ _
  have RM7 : RowOf txtc 1 (w7.alloc o7) (.slice p2 n2 c2) M.ps := (R6.out.keep u7 (fun _ _ _ => id)).keep ((Upd.refl _ _).alloc o7) (fun _ _ _ => id)
  have RN7 : RowOf txtc 1 (w7.alloc o7) (.slice p3 n3 c3) M.ps := hr3.keep ((Upd.refl _ _).alloc o7) (fun _ _ _ => id)
  have U7 : Upd (fun _ => False) w (w7.alloc o7) := (U6.out.trans u7 (fun _ _ h => h)).alloc o7
  rw [ho7] at BA7 BB7 BM7 BN7 RM7 RN7 U7
  clear ho7 o7 hr3 hn3 u7 S2 BA6 BB6 BM6 R6 ya ga a0 a1 a2 a3 a4 a5 a6 yb gb b0 b1 b2 b3 b4 b5 b6
  go_upto_region 7 with (fail)
  generalize (w7.alloc (.cells #[.bool M.on, .bool M.bc, .bool M.oi, .bool M.oo, .bool M.nl, .int .i64 M.rd, .slice p3 n3 c3] 24)) = wz at *
  have KP : Hid (∀ W, Upd (fun _ => False) wz W → (W.cell? ⟨w.heap.size, 0, none⟩ = some (.bool a.on) ∧ W.cell? ⟨w.heap.size, 1, none⟩ = some (.bool a.bc) ∧ W.cell? ⟨w.heap.size, 2, none⟩ = some (.bool a.oi) ∧ W.cell? ⟨w.heap.size, 3, none⟩ = some (.bool a.oo) ∧ W.cell? ⟨w.heap.size, 4, none⟩ = some (.bool a.nl) ∧ W.cell? ⟨w.heap.size, 5, none⟩ = some (.int .i64 a.rd) ∧ W.cell? ⟨w.heap.size, 6, none⟩ = some (.slice pa na ca)) ∧ (W.cell? ⟨(w.heap.size + 1), 0, none⟩ = some (.bool b.on) ∧ W.cell? ⟨(w.heap.size + 1), 1, none⟩ = some (.bool b.bc) ∧ W.cell? ⟨(w.heap.size + 1), 2, none⟩ = some (.bool b.oi) ∧ W.cell? ⟨(w.heap.size + 1), 3, none⟩ = some (.bool b.oo) ∧ W.cell? ⟨(w.heap.size + 1), 4, none⟩ = some (.bool b.nl) ∧ W.cell? ⟨(w.heap.size + 1), 5, none⟩ = some (.int .i64 b.rd) ∧ W.cell? ⟨(w.heap.size + 1), 6, none⟩ = some (.slice pb nb cb)) ∧ (W.cell? ⟨w6.heap.size, 0, none⟩ = some (.bool M.on) ∧ W.cell? ⟨w6.heap.size, 1, none⟩ = some (.bool M.bc) ∧ W.cell? ⟨w6.heap.size, 2, none⟩ = some (.bool M.oi) ∧ W.cell? ⟨w6.heap.size, 3, none⟩ = some (.bool M.oo) ∧ W.cell? ⟨w6.heap.size, 4, none⟩ = some (.bool M.nl) ∧ W.cell? ⟨w6.heap.size, 5, none⟩ = some (.int .i64 M.rd) ∧ W.cell? ⟨w6.heap.size, 6, none⟩ = some (.slice p2 n2 c2)) ∧ (W.cell? ⟨w7.heap.size, 0, none⟩ = some (.bool M.on) ∧ W.cell? ⟨w7.heap.size, 1, none⟩ = some (.bool M.bc) ∧ W.cell? ⟨w7.heap.size, 2, none⟩ = some (.bool M.oi) ∧ W.cell? ⟨w7.heap.size, 3, none⟩ = some (.bool M.oo) ∧ W.cell? ⟨w7.heap.size, 4, none⟩ = some (.bool M.nl) ∧ W.cell? ⟨w7.heap.size, 5, none⟩ = some (.int .i64 M.rd) ∧ W.cell? ⟨w7.heap.size, 6, none⟩ = some (.slice p3 n3 c3))) := Lib.hid (fun W u => ⟨(mode_facts (u.blk BA7 id)).2.2, (mode_facts (u.blk BB7 id)).2.2, (mode_facts (u.blk BM7 id)).2.2, (mode_facts (u.blk BN7 id)).2.2⟩)
  have UZ := Lib.hid U7
  have RM := Lib.hid RM7
  have RN := Lib.hid RN7
  have C1 := Lib.hid (fun W (u : Upd (fun _ => False) wz W) => same13_out M M p2 p3 n2 n3 c2 c3 N2.out N3.out true (by simp) W (RM.out.keep u (fun _ _ _ => id)) (RN.out.keep u (fun _ _ _ => id)) (by have := LM.out; omega))
  obtain ⟨sb, hsb⟩ : ∃ sb, decide (a = b) = sb := ⟨_, rfl⟩
  have C2 := Lib.hid (fun W (u : Upd (fun _ => False) wz W) => same_out a b pa pb na nb ca cb NA.out NB.out sb hsb W (RAw.out _ (UZ.out.trans u (fun _ _ h => h))) (RBw.out _ (UZ.out.trans u (fun _ _ h => h))) (by have := LA.out; omega))
  have C3 := Lib.hid (fun W (u : Upd (fun _ => False) wz W) => same13_out a b pa pb na nb ca cb NA.out NB.out sb hsb W (RAw.out _ (UZ.out.trans u (fun _ _ h => h))) (RBw.out _ (UZ.out.trans u (fun _ _ h => h))) (by have := LA.out; omega))
  have UU : Hid (Upd (fun _ => False) wz wz.drew) := Lib.hid (Upd.refl _ _).drew
  have qer : ((er : Int) != er) = false := by simp
  have qsb : (sb != sb) = false := by simp
  clear hsb BA7 BB7 BM7 BN7 RM7 RN7 U7 RM RN

  refine wp_region_held_drew (S := fun w' => Hid (Upd (fun _ => False) wz w')) (by kernel_rfl) ?_ (fun hHeld => ?_)
  · exact UU
  try simp only [Array.replicate, Act.put, List.setIfInBounds_toArray]
  refine' wpAnyH_take (i := 0) (oi := _) (v := _) ?hiS1 (by kernel_rfl) (by kernel_rfl) (by kernel_rfl) ?hQS1 ?hyS1 (by assumption) ?restS1
  case' hiS1 => (first | (simp only [List.getElem?_toArray, List.getElem?_cons_succ, List.getElem?_cons_zero]; done) | (simp only [List.getElem?_toArray, List.getElem?_cons_succ, List.getElem?_cons_zero]; rfl))
  case' hQS1 => exact fun _ _ _ h => h
  case' hyS1 => refine Or.inl ⟨by rfl, ?_⟩
  (intro w hSw; (obtain ⟨⟨x0, x1, x2, x3, x4, x5, x6⟩, ⟨y0, y1, y2, y3, y4, y5, y6⟩, ⟨z0, z1, z2, z3, z4, z5, z6⟩, ⟨t0, t1, t2, t3, t4, t5, t6⟩⟩ := KP.out _ hSw.out); go_simp; try with_reducible rfl)
  try simp only [Act.put, List.setIfInBounds_toArray, List.set_cons_zero, List.set_cons_succ]
  refine' wpAnyH_take (i := 1) (oi := _) (v := _) ?hiS2 (by kernel_rfl) (by kernel_rfl) (by kernel_rfl) ?hQS2 ?hyS2 (by assumption) ?restS2
  case' hiS2 => (first | (simp only [List.getElem?_toArray, List.getElem?_cons_succ, List.getElem?_cons_zero]; done) | (simp only [List.getElem?_toArray, List.getElem?_cons_succ, List.getElem?_cons_zero]; rfl))
  case' hQS2 => exact fun _ _ _ h => h
  case' hyS2 => refine Or.inl ⟨by rfl, ?_⟩
  (intro w hSw; (obtain ⟨⟨x0, x1, x2, x3, x4, x5, x6⟩, ⟨y0, y1, y2, y3, y4, y5, y6⟩, ⟨z0, z1, z2, z3, z4, z5, z6⟩, ⟨t0, t1, t2, t3, t4, t5, t6⟩⟩ := KP.out _ hSw.out); go_simp; try with_reducible rfl)
  try simp only [Act.put, List.setIfInBounds_toArray, List.set_cons_zero, List.set_cons_succ]
  refine wpAnyH_ready (rs := [2]) (by kernel_rfl) (by simp) ?_
  refine' AllReadyH.cons (o := _) ?hiS3 (fun K hK => ?hKS3) AllReadyH.nil
  case' hiS3 => (first | (simp only [List.getElem?_toArray, List.getElem?_cons_succ, List.getElem?_cons_zero]; done) | (simp only [List.getElem?_toArray, List.getElem?_cons_succ, List.getElem?_cons_zero]; rfl))
  go_simp
  (go_at_call 17; refine (C1.out _ UU.out).mono ?_; rintro e w9 ⟨rfl, u9⟩; (have UU := Lib.hid (UU.out.trans u9 (fun _ _ h => h))))
  refine hK.out _ _ ?_ (fun hHeld => ?_)
  · exact UU
  clear hK K
  try simp only [Act.put, List.setIfInBounds_toArray, List.set_cons_zero, List.set_cons_succ]
  refine' wpAnyH_take (i := 3) (oi := _) (v := _) ?hiS4 (by kernel_rfl) (by kernel_rfl) (by kernel_rfl) ?hQS4 ?hyS4 (by assumption) ?restS4
  case' hiS4 => (first | (simp only [List.getElem?_toArray, List.getElem?_cons_succ, List.getElem?_cons_zero]; done) | (simp only [List.getElem?_toArray, List.getElem?_cons_succ, List.getElem?_cons_zero]; rfl))
  case' hQS4 => exact fun _ _ _ h => h
  case' hyS4 => refine Or.inl ⟨by rfl, ?_⟩
  (intro w hSw; (try dsimp only at hSw); go_simp; try with_reducible rfl)
  try simp only [Act.put, List.setIfInBounds_toArray, List.set_cons_zero, List.set_cons_succ]
  refine' wpAnyH_take (i := 4) (oi := _) (v := _) ?hiS5 (by kernel_rfl) (by kernel_rfl) (by kernel_rfl) ?hQS5 ?hyS5 (by assumption) ?restS5
  case' hiS5 => (first | (simp only [List.getElem?_toArray, List.getElem?_cons_succ, List.getElem?_cons_zero]; done) | (simp only [List.getElem?_toArray, List.getElem?_cons_succ, List.getElem?_cons_zero]; rfl))
  case' hQS5 => exact fun _ _ _ h => h
  case' hyS5 => refine Or.inl ⟨by rfl, ?_⟩
  (intro w hSw; (try dsimp only at hSw); go_simp; try with_reducible rfl)
  try simp only [Act.put, List.setIfInBounds_toArray, List.set_cons_zero, List.set_cons_succ]
  refine' wpAnyH_take (i := 5) (oi := _) (v := _) ?hiS6 (by kernel_rfl) (by kernel_rfl) (by kernel_rfl) ?hQS6 ?hyS6 (by assumption) ?restS6
  case' hiS6 => (first | (simp only [List.getElem?_toArray, List.getElem?_cons_succ, List.getElem?_cons_zero]; done) | (simp only [List.getElem?_toArray, List.getElem?_cons_succ, List.getElem?_cons_zero]; rfl))
  case' hQS6 => exact fun _ _ _ h => h
  case' hyS6 => refine Or.inl ⟨by rfl, ?_⟩
  (intro w hSw; (try dsimp only at hSw); go_simp; try with_reducible rfl)
  try simp only [Act.put, List.setIfInBounds_toArray, List.set_cons_zero, List.set_cons_succ]
  refine' wpAnyH_take (i := 6) (oi := _) (v := _) ?hiS7 (by kernel_rfl) (by kernel_rfl) (by kernel_rfl) ?hQS7 ?hyS7 (by assumption) ?restS7
  case' hiS7 => (first | (simp only [List.getElem?_toArray, List.getElem?_cons_succ, List.getElem?_cons_zero]; done) | (simp only [List.getElem?_toArray, List.getElem?_cons_succ, List.getElem?_cons_zero]; rfl))
  case' hQS7 => exact fun _ _ _ h => h
  case' hyS7 => refine Or.inl ⟨by rfl, ?_⟩
  (intro w hSw; (try dsimp only at hSw); go_simp; try with_reducible rfl)
  try simp only [Act.put, List.setIfInBounds_toArray, List.set_cons_zero, List.set_cons_succ]
  refine' wpAnyH_take (i := 7) (oi := _) (v := _) ?hiS8 (by kernel_rfl) (by kernel_rfl) (by kernel_rfl) ?hQS8 ?hyS8 (by assumption) ?restS8
  case' hiS8 => (first | (simp only [List.getElem?_toArray, List.getElem?_cons_succ, List.getElem?_cons_zero]; done) | (simp only [List.getElem?_toArray, List.getElem?_cons_succ, List.getElem?_cons_zero]; rfl))
  case' hQS8 => exact fun _ _ _ h => h
  case' hyS8 => refine Or.inl ⟨by rfl, ?_⟩
  (intro w hSw; (try dsimp only at hSw); go_simp; try with_reducible rfl)
  try simp only [Act.put, List.setIfInBounds_toArray, List.set_cons_zero, List.set_cons_succ]
  refine' wpAnyH_take (i := 8) (oi := _) (v := _) ?hiS9 (by kernel_rfl) (by kernel_rfl) (by kernel_rfl) ?hQS9 ?hyS9 (by assumption) ?restS9
  case' hiS9 => (first | (simp only [List.getElem?_toArray, List.getElem?_cons_succ, List.getElem?_cons_zero]; done) | (simp only [List.getElem?_toArray, List.getElem?_cons_succ, List.getElem?_cons_zero]; rfl))
  case' hQS9 => exact fun _ _ _ h => h
  case' hyS9 => refine Or.inl ⟨by rfl, ?_⟩
  (intro w hSw; (try dsimp only at hSw); go_simp; try with_reducible rfl)
  try simp only [Act.put, List.setIfInBounds_toArray, List.set_cons_zero, List.set_cons_succ]
  refine' wpAnyH_take (i := 9) (oi := _) (v := _) ?hiS10 (by kernel_rfl) (by kernel_rfl) (by kernel_rfl) ?hQS10 ?hyS10 (by assumption) ?restS10
  case' hiS10 => (first | (simp only [List.getElem?_toArray, List.getElem?_cons_succ, List.getElem?_cons_zero]; done) | (simp only [List.getElem?_toArray, List.getElem?_cons_succ, List.getElem?_cons_zero]; rfl))
  case' hQS10 => exact fun _ _ _ h => h
  case' hyS10 => refine Or.inl ⟨by rfl, ?_⟩
  (intro w hSw; (try dsimp only at hSw); go_simp; try with_reducible rfl)
  try simp only [Act.put, List.setIfInBounds_toArray, List.set_cons_zero, List.set_cons_succ]
  refine' wpAnyH_take (i := 10) (oi := _) (v := _) ?hiS11 (by kernel_rfl) (by kernel_rfl) (by kernel_rfl) ?hQS11 ?hyS11 (by assumption) ?restS11
  case' hiS11 => (first | (simp only [List.getElem?_toArray, List.getElem?_cons_succ, List.getElem?_cons_zero]; done) | (simp only [List.getElem?_toArray, List.getElem?_cons_succ, List.getElem?_cons_zero]; rfl))
  case' hQS11 => exact fun _ _ _ h => h
  case' hyS11 => refine Or.inl ⟨by rfl, ?_⟩
  (intro w hSw; (obtain ⟨⟨x0, x1, x2, x3, x4, x5, x6⟩, ⟨y0, y1, y2, y3, y4, y5, y6⟩, ⟨z0, z1, z2, z3, z4, z5, z6⟩, ⟨t0, t1, t2, t3, t4, t5, t6⟩⟩ := KP.out _ hSw.out); go_simp; try with_reducible rfl)
  try simp only [Act.put, List.setIfInBounds_toArray, List.set_cons_zero, List.set_cons_succ]
  refine' wpAnyH_take (i := 11) (oi := _) (v := _) ?hiS12 (by kernel_rfl) (by kernel_rfl) (by kernel_rfl) ?hQS12 ?hyS12 (by assumption) ?restS12
  case' hiS12 => (first | (simp only [List.getElem?_toArray, List.getElem?_cons_succ, List.getElem?_cons_zero]; done) | (simp only [List.getElem?_toArray, List.getElem?_cons_succ, List.getElem?_cons_zero]; rfl))
  case' hQS12 => exact fun _ _ _ h => h
  case' hyS12 => refine Or.inl ⟨by rfl, ?_⟩
  (intro w hSw; (obtain ⟨⟨x0, x1, x2, x3, x4, x5, x6⟩, ⟨y0, y1, y2, y3, y4, y5, y6⟩, ⟨z0, z1, z2, z3, z4, z5, z6⟩, ⟨t0, t1, t2, t3, t4, t5, t6⟩⟩ := KP.out _ hSw.out); go_simp; try with_reducible rfl)
  try simp only [Act.put, List.setIfInBounds_toArray, List.set_cons_zero, List.set_cons_succ]
  refine' wpAnyH_take (i := 13) (oi := _) (v := _) ?hiS13 (by kernel_rfl) (by kernel_rfl) (by kernel_rfl) ?hQS13 ?hyS13 (by assumption) ?restS13
  case' hiS13 => (first | (simp only [List.getElem?_toArray, List.getElem?_cons_succ, List.getElem?_cons_zero]; done) | (simp only [List.getElem?_toArray, List.getElem?_cons_succ, List.getElem?_cons_zero]; rfl))
  case' hQS13 => exact fun _ _ _ h => h
  case' hyS13 => refine Or.inl ⟨by rfl, ?_⟩
  (intro w hSw; (obtain ⟨⟨x0, x1, x2, x3, x4, x5, x6⟩, ⟨y0, y1, y2, y3, y4, y5, y6⟩, ⟨z0, z1, z2, z3, z4, z5, z6⟩, ⟨t0, t1, t2, t3, t4, t5, t6⟩⟩ := KP.out _ hSw.out); go_simp; try with_reducible rfl)
  try simp only [Act.put, List.setIfInBounds_toArray, List.set_cons_zero, List.set_cons_succ]
  refine' wpAnyH_take (i := 14) (oi := _) (v := _) ?hiS14 (by kernel_rfl) (by kernel_rfl) (by kernel_rfl) ?hQS14 ?hyS14 (by assumption) ?restS14
  case' hiS14 => (first | (simp only [List.getElem?_toArray, List.getElem?_cons_succ, List.getElem?_cons_zero]; done) | (simp only [List.getElem?_toArray, List.getElem?_cons_succ, List.getElem?_cons_zero]; rfl))
  case' hQS14 => exact fun _ _ _ h => h
  case' hyS14 => refine Or.inl ⟨by rfl, ?_⟩
  (intro w hSw; (obtain ⟨⟨x0, x1, x2, x3, x4, x5, x6⟩, ⟨y0, y1, y2, y3, y4, y5, y6⟩, ⟨z0, z1, z2, z3, z4, z5, z6⟩, ⟨t0, t1, t2, t3, t4, t5, t6⟩⟩ := KP.out _ hSw.out); go_simp; try with_reducible rfl)
  try simp only [Act.put, List.setIfInBounds_toArray, List.set_cons_zero, List.set_cons_succ]
  refine wpAnyH_ready (rs := [12]) (by kernel_rfl) (by simp) ?_
  refine' AllReadyH.cons (o := _) ?hiS15 (fun K hK => ?hKS15) AllReadyH.nil
  case' hiS15 => (first | (simp only [List.getElem?_toArray, List.getElem?_cons_succ, List.getElem?_cons_zero]; done) | (simp only [List.getElem?_toArray, List.getElem?_cons_succ, List.getElem?_cons_zero]; rfl))
  go_simp
  (go_at_call 13; refine (C2.out _ UU.out).mono ?_; rintro e w9 ⟨rfl, u9⟩; (have UU := Lib.hid (UU.out.trans u9 (fun _ _ h => h))))
  refine hK.out _ _ ?_ (fun hHeld => ?_)
  · exact UU
  clear hK K
  try simp only [Act.put, List.setIfInBounds_toArray, List.set_cons_zero, List.set_cons_succ]
  refine wpAnyH_ready (rs := [15]) (by kernel_rfl) (by simp) ?_
  refine' AllReadyH.cons (o := _) ?hiS16 (fun K hK => ?hKS16) AllReadyH.nil
  case' hiS16 => (first | (simp only [List.getElem?_toArray, List.getElem?_cons_succ, List.getElem?_cons_zero]; done) | (simp only [List.getElem?_toArray, List.getElem?_cons_succ, List.getElem?_cons_zero]; rfl))
  go_simp
  (go_at_call 17; refine (C3.out _ UU.out).mono ?_; rintro e w9 ⟨rfl, u9⟩; (have UU := Lib.hid (UU.out.trans u9 (fun _ _ h => h))))
  refine hK.out _ _ ?_ (fun hHeld => ?_)
  · exact UU
  clear hK K
  try simp only [Act.put, List.setIfInBounds_toArray, List.set_cons_zero, List.set_cons_succ]
  refine' wpAnyH_take (i := 16) (oi := _) (v := _) ?hiS17 (by kernel_rfl) (by kernel_rfl) (by kernel_rfl) ?hQS17 ?hyS17 (by assumption) ?restS17
  case' hiS17 => (first | (simp only [List.getElem?_toArray, List.getElem?_cons_succ, List.getElem?_cons_zero]; done) | (simp only [List.getElem?_toArray, List.getElem?_cons_succ, List.getElem?_cons_zero]; rfl))
  case' hQS17 => exact fun _ _ _ h => h
  case' hyS17 => refine Or.inl ⟨by rfl, ?_⟩
  (intro w hSw; (try dsimp only at hSw); go_simp; try with_reducible rfl)
  try simp only [Act.put, List.setIfInBounds_toArray, List.set_cons_zero, List.set_cons_succ]
  refine' wpAnyH_take (i := 17) (oi := _) (v := _) ?hiS18 (by kernel_rfl) (by kernel_rfl) (by kernel_rfl) ?hQS18 ?hyS18 (by assumption) ?restS18
  case' hiS18 => (first | (simp only [List.getElem?_toArray, List.getElem?_cons_succ, List.getElem?_cons_zero]; done) | (simp only [List.getElem?_toArray, List.getElem?_cons_succ, List.getElem?_cons_zero]; rfl))
  case' hQS18 => exact fun _ _ _ h => h
  case' hyS18 => refine Or.inl ⟨by rfl, ?_⟩
  (intro w hSw; (try dsimp only at hSw); go_simp; try with_reducible rfl)
  try simp only [Act.put, List.setIfInBounds_toArray, List.set_cons_zero, List.set_cons_succ]
  refine wpAnyH_done (by kernel_rfl) ?_ _
  skip

  clear C1 C2 C3
  obtain ⟨⟨x0, x1, x2, x3, x4, x5, x6⟩, _, _, _⟩ := KP.out _ UU.out
  obtain ⟨y, hy⟩ : ∃ y, ((cc : Int) == 1) = y := ⟨_, rfl⟩
  obtain ⟨cv, hcv⟩ : ∃ cv, cachM a y = cv := ⟨_, rfl⟩
  obtain ⟨tb, htb⟩ : ∃ tb, tracksM a cc = tb := ⟨_, rfl⟩
  have D1 : Hid (∀ W, Calls Tryd.prog 19 #[.agg #[.bool a.on, .bool a.bc, .bool a.oi, .bool a.oo, .bool a.nl, .int .i64 a.rd, .slice pa na ca], .bool y] W fun e w' => e = .returned (.int .i64 cv) ∧ Upd (fun _ => False) W w') := Lib.hid (fun W => by subst hcv; exact caching_any a _ y W)
  have D2 : Hid (∀ W, Calls Tryd.prog 24 #[.agg #[.bool a.on, .bool a.bc, .bool a.oi, .bool a.oo, .bool a.nl, .int .i64 a.rd, .slice pa na ca], .bool y] W fun e w' => e = .returned (.int .i64 cv) ∧ Upd (fun _ => False) W w') := Lib.hid (fun W => by subst hcv; exact caching13_any a _ y W)
  have D3 : Hid (∀ W, Calls Tryd.prog 20 #[.agg #[.bool a.on, .bool a.bc, .bool a.oi, .bool a.oo, .bool a.nl, .int .i64 a.rd, .slice pa na ca], .int .i64 cc] W fun e w' => e = .returned (.bool tb) ∧ Upd (fun _ => False) W w') := Lib.hid (fun W => by subst htb; exact tracks_any a _ cc W)
  have D4 : Hid (∀ W, Calls Tryd.prog 25 #[.agg #[.bool a.on, .bool a.bc, .bool a.oi, .bool a.oo, .bool a.nl, .int .i64 a.rd, .slice pa na ca], .int .i64 cc] W fun e w' => e = .returned (.bool tb) ∧ Upd (fun _ => False) W w') := Lib.hid (fun W => by subst htb; exact tracks13_any a _ cc W)
  have D5 := Lib.hid (fun W => flags_any a pa na ca W)
  have D6 := Lib.hid (fun W => flags13_any a pa na ca W)
  have qcv : (cv == cv) = true := by simp
  have qtb : (tb == tb) = true := by simp
  clear hcv htb
  go_wp2
  go_region_held3 (fun w' => w'.cell? ⟨w.heap.size, 0, none⟩ = some (.bool a.on) ∧ w'.cell? ⟨w.heap.size, 1, none⟩ = some (.bool a.bc) ∧ w'.cell? ⟨w.heap.size, 2, none⟩ = some (.bool a.oi) ∧ w'.cell? ⟨w.heap.size, 3, none⟩ = some (.bool a.oo) ∧ w'.cell? ⟨w.heap.size, 4, none⟩ = some (.bool a.nl) ∧ w'.cell? ⟨w.heap.size, 5, none⟩ = some (.int .i64 a.rd) ∧ w'.cell? ⟨w.heap.size, 6, none⟩ = some (.slice pa na ca)) (go_keep) (first
    | (go_at_call 19; refine (D1.out _).mono ?_; rintro e w10 ⟨rfl, u9⟩; (have UU := Lib.hid (Upd.trans (by first | exact UU.out | exact UU.out.drew) u9 (fun _ _ h => h))); (clear x0 x1 x2 x3 x4 x5 x6); (obtain ⟨⟨x0, x1, x2, x3, x4, x5, x6⟩, _, _, _⟩ := KP.out _ UU.out); (try have TF1 := Lib.hid (own_keep TF1.out u9 (fun _ _ h => h))); (try have TF2 := Lib.hid (own_keep TF2.out u9 (fun _ _ h => h))))
    | (go_at_call 24; refine (D2.out _).mono ?_; rintro e w10 ⟨rfl, u9⟩; (have UU := Lib.hid (Upd.trans (by first | exact UU.out | exact UU.out.drew) u9 (fun _ _ h => h))); (clear x0 x1 x2 x3 x4 x5 x6); (obtain ⟨⟨x0, x1, x2, x3, x4, x5, x6⟩, _, _, _⟩ := KP.out _ UU.out); (try have TF1 := Lib.hid (own_keep TF1.out u9 (fun _ _ h => h))); (try have TF2 := Lib.hid (own_keep TF2.out u9 (fun _ _ h => h))))
    | (go_at_call 20; refine (D3.out _).mono ?_; rintro e w10 ⟨rfl, u9⟩; (have UU := Lib.hid (Upd.trans (by first | exact UU.out | exact UU.out.drew) u9 (fun _ _ h => h))); (clear x0 x1 x2 x3 x4 x5 x6); (obtain ⟨⟨x0, x1, x2, x3, x4, x5, x6⟩, _, _, _⟩ := KP.out _ UU.out); (try have TF1 := Lib.hid (own_keep TF1.out u9 (fun _ _ h => h))); (try have TF2 := Lib.hid (own_keep TF2.out u9 (fun _ _ h => h))))
    | (go_at_call 25; refine (D4.out _).mono ?_; rintro e w10 ⟨rfl, u9⟩; (have UU := Lib.hid (Upd.trans (by first | exact UU.out | exact UU.out.drew) u9 (fun _ _ h => h))); (clear x0 x1 x2 x3 x4 x5 x6); (obtain ⟨⟨x0, x1, x2, x3, x4, x5, x6⟩, _, _, _⟩ := KP.out _ UU.out); (try have TF1 := Lib.hid (own_keep TF1.out u9 (fun _ _ h => h))); (try have TF2 := Lib.hid (own_keep TF2.out u9 (fun _ _ h => h))))
    | (go_at_call 21; refine (D5.out _).mono ?_; rintro e w10 ⟨vTF1, rfl, t9, u9⟩; (have UU := Lib.hid (Upd.trans (by first | exact UU.out | exact UU.out.drew) u9 (fun _ _ h => h))); (clear x0 x1 x2 x3 x4 x5 x6); (obtain ⟨⟨x0, x1, x2, x3, x4, x5, x6⟩, _, _, _⟩ := KP.out _ UU.out); (try have TF1 := Lib.hid (own_keep TF1.out u9 (fun _ _ h => h))); (try have TF2 := Lib.hid (own_keep TF2.out u9 (fun _ _ h => h))); (have TF1 := Lib.hid t9))
    | (go_at_call 27; refine (D6.out _).mono ?_; rintro e w10 ⟨vTF2, rfl, t9, u9⟩; (have UU := Lib.hid (Upd.trans (by first | exact UU.out | exact UU.out.drew) u9 (fun _ _ h => h))); (clear x0 x1 x2 x3 x4 x5 x6); (obtain ⟨⟨x0, x1, x2, x3, x4, x5, x6⟩, _, _, _⟩ := KP.out _ UU.out); (try have TF1 := Lib.hid (own_keep TF1.out u9 (fun _ _ h => h))); (try have TF2 := Lib.hid (own_keep TF2.out u9 (fun _ _ h => h))); (have TF2 := Lib.hid t9))
    | (go_at_call 26; refine (same06T_any _ _ _ _ _ _ TF1.out TF2.out).mono ?_; rintro e w10 ⟨rfl, u9⟩; (have UU := Lib.hid (Upd.trans (by first | exact UU.out | exact UU.out.drew) u9 (fun _ _ h => h))); (clear x0 x1 x2 x3 x4 x5 x6); (obtain ⟨⟨x0, x1, x2, x3, x4, x5, x6⟩, _, _, _⟩ := KP.out _ UU.out); (try have TF1 := Lib.hid (own_keep TF1.out u9 (fun _ _ h => h))); (try have TF2 := Lib.hid (own_keep TF2.out u9 (fun _ _ h => h)))))
  all_goals
    try go_wp2
    go_ret
    exact ⟨rfl, UZ.out.trans UU.out (fun _ _ h => h)⟩
end Go.Proofs.YtcpfkkbegnhofaaDoor
/- Walks: the document's parse. -/
set_option linter.unusedVariables false
set_option linter.unusedSimpArgs false
namespace Whole
theorem loop_nil (n : Int) : refLoop n [] = some n := rfl
theorem loop_bad {n : Int} {c : UInt8} {r : List UInt8} (h : ¬ isD c) : refLoop n (c :: r) = none := by rw [refLoop, if_pos h]
theorem loop_over {n : Int} {c : UInt8} {r : List UInt8} (h : n < -922337203685477580 ∨ (n = -922337203685477580 ∧ 8 < (c.toNat : Int) - 48)) : refLoop n (c :: r) = none := by
  rw [refLoop]
  by_cases hc : ¬ isD c
  · rw [if_pos hc]
  · rw [if_neg hc, if_pos h]
theorem loop_go {n : Int} {c : UInt8} {r : List UInt8} (h0 : isD c) (h : ¬ (n < -922337203685477580 ∨ (n = -922337203685477580 ∧ 8 < (c.toNat : Int) - 48))) : refLoop n (c :: r) = refLoop (10 * n - ((c.toNat : Int) - 48)) r := by
  rw [refLoop, if_neg (by simpa using h0), if_neg h]
theorem loop_to {n x : Int} {c : UInt8} {r : List UInt8} (h0 : isD c) (h : ¬ (n < -922337203685477580 ∨ (n = -922337203685477580 ∧ 8 < (c.toNat : Int) - 48))) (e : x = 10 * n - ((c.toNat : Int) - 48)) : refLoop n (c :: r) = refLoop x r := by
  rw [loop_go h0 h, e]
theorem end_bad {neg : Bool} {l : List UInt8} (h : l.length = 0 ∨ 19 < l.length ∨ (l.head? = some 48 ∧ (1 < l.length ∨ neg = true))) : refEnd neg l = none := by
  unfold refEnd; rw [if_pos h]
theorem end_ok {neg : Bool} {l : List UInt8} (h : ¬ (l.length = 0 ∨ 19 < l.length ∨ (l.head? = some 48 ∧ (1 < l.length ∨ neg = true)))) : refEnd neg l = match refLoop 0 l with
    | none => none
    | some n => if neg = true then some n else if n = -9223372036854775808 then none else some (-n) := by
  unfold refEnd; rw [if_neg h]; rfl
end Whole
namespace Go.Proofs.YtcpfkkbegnhofaaDoor
open Go.RowKit Go.Sort Go.Proofs
open Whole (wparse refParse refEnd refLoop isD)

def on (o : Option Int) : Int := o.getD 0
def oe (o : Option Int) : Int := if o.isSome then 0 else 11
theorem pnum_on (s : ByteArray) : pnum s = on (refParse s.data.toList) ∧ perr s = oe (refParse s.data.toList) := by
  unfold pnum perr on oe; rw [Whole.wparse_ref]; exact ⟨rfl, rfl⟩
theorem byte_head {s : ByteArray} (h : 0 < s.size) : s.data.toList.head? = some s[0] := by
  have : 0 < s.data.toList.length := by simpa using h
  rw [List.head?_eq_getElem?, List.getElem?_eq_getElem this]; rfl
theorem byte_drop {s : ByteArray} {k : Nat} (h : k < s.size) : s.data.toList.drop k = s[k] :: s.data.toList.drop (k + 1) := by
  rw [List.drop_eq_getElem_cons (by simpa using h)]; rfl
theorem byte_drop_all (s : ByteArray) : s.data.toList.drop s.size = [] := List.drop_eq_nil_of_le (by simp)
/-- A parse's results at what the document says of it. -/
def Res (o : Option Int) (e : Ending) : Prop := e = .returned (.tuple #[.int .i64 (on o), .int .i64 (oe o)])
theorem res_none {o : Option Int} (h : o = none) : Res o (.returned (.tuple #[.int .i64 0, .int .i64 11])) := by subst h; rfl
theorem res_some {o : Option Int} {n : Int} (h : o = some n) : Res o (.returned (.tuple #[.int .i64 n, .int .i64 0])) := by subst h; rfl

set_option maxHeartbeats 1000000 in
/-- no sign, and digits that can be looked at -/
theorem rparse_pos (s : ByteArray) (hz : s.size ≤ 100000) (w : World) (h0 : 0 < s.size) (hne : ¬ s = ByteArray.empty) (hm : ((s[0].toNat : Int) == 45) = false) (h19 : decide ((19 : Int) < s.size) = false) (hd : (((s[0].toNat : Int) == 48) = false) ∨ (((s[0].toNat : Int) == 48) = true ∧ decide ((1 : Int) < s.size) = false))
    (o : Option Int) (ho : o = match refLoop 0 s.data.toList with
    | none => none
    | some n => if n = -9223372036854775808 then none else some (-n)) :
    Calls Tryd.prog 33 #[.string s] w fun e w' => Res o e ∧ w' = w := by
  have HO := Lib.hid ho
  clear ho
  rcases hd with hd | ⟨hd, hd2⟩
  all_goals
    go_enter Tryd.func33, Tryd.ntmps33
    go_wp2
    go_loop [2, 3, 6, 7] (fun r2 r3 n i => r2 = .int .i64 0 ∧ r3 = .int .i64 0 ∧ ∃ (k : Nat) (m : Int), k ≤ s.size ∧ i = .int .i64 k ∧ n = .int .i64 m ∧ -9223372036854775808 ≤ m ∧ m ≤ 0 ∧ Hid (refLoop 0 s.data.toList = refLoop m (s.data.toList.drop k))) (fun _ _ _ i => s.size - (intOf i).toNat)
    case atStart => exact ⟨rfl, rfl, 0, 0, by omega, rfl, rfl, by omega, by omega, Lib.hid rfl⟩
    case round =>
      obtain ⟨rfl, rfl, k, m, hk, rfl, rfl, m0, m1, HR⟩ := hrel
      by_cases hlt : k < s.size
      · have h256 : s[k].toNat < 256 := s[k].toNat_lt
        have D := Lib.hid (byte_drop hlt)
        go_wp2
        all_goals first
          | (go_ret2
             exact ⟨res_none (by rw [HO.out, HR.out, D.out]; first | rw [Whole.loop_bad (by unfold isD; omega)] | rw [Whole.loop_over (by omega)]), rfl⟩)
          | (go_round
             case rel => exact ⟨_, _, _, _, ⟨rfl, rfl, k + 1, by omega, rfl, _, rfl, by omega, by omega, Lib.hid (by rw [HR.out, D.out]; exact Whole.loop_to (by unfold isD; omega) (by omega) (by omega))⟩, rfl, rfl, rfl, by go_num⟩
             case measure => simp [intOf]; omega)
      · have hk2 : k = s.size := by omega
        subst hk2
        by_cases hl : m = -9223372036854775808
        · have hlb : (m == -9223372036854775808) = true := by simp [hl]
          have HL := Lib.hid hl
          clear hl
          go_wp2
          go_ret2
          exact ⟨res_none (by rw [HO.out, HR.out, byte_drop_all, Whole.loop_nil]; simp [HL.out]), rfl⟩
        · have hlb : (m == -9223372036854775808) = false := by simp [hl]
          have hl2 : -9223372036854775807 ≤ m := by omega
          have HL := Lib.hid hl
          clear hl
          go_wp2
          go_ret2
          exact ⟨res_some (by rw [HO.out, HR.out, byte_drop_all, Whole.loop_nil]; simp [HL.out]), rfl⟩

theorem neg_tail {s : ByteArray} (h : 0 < s.size) (hm : s[0].toNat = 45) : s.data.toList = 45 :: (s.extract 1 s.size).data.toList ∧ (s.extract 1 s.size).size = s.size - 1 := by
  have e := byte_drop h
  rw [List.drop_zero] at e
  have e2 : s[0] = 45 := UInt8.toNat_inj.1 (by rw [hm]; rfl)
  refine ⟨?_, by simp⟩
  rw [e, e2]
  simp
  rw [List.take_of_length_le (by simp)]
set_option maxHeartbeats 1000000 in
/-- a sign, and digits that can be looked at -/
theorem rparse_neg (s : ByteArray) (hz : s.size ≤ 100000) (w : World) (h0 : 0 < s.size) (hne : ¬ s = ByteArray.empty) (hm : ((s[0].toNat : Int) == 45) = true) (ds : ByteArray) (hds : s.extract 1 s.size = ds) (d0 : 0 < ds.size) (dne : ¬ ds = ByteArray.empty) (h19 : decide ((19 : Int) < ds.size) = false) (hd : ((ds[0].toNat : Int) == 48) = false)
    (o : Option Int) (ho : o = refLoop 0 ds.data.toList) :
    Calls Tryd.prog 33 #[.string s] w fun e w' => Res o e ∧ w' = w := by
  have HO := Lib.hid ho
  have HD := Lib.hid hds
  have dz : ds.size ≤ 100000 := by rw [← hds]; simp; omega
  clear ho hds
  go_enter Tryd.func33, Tryd.ntmps33
  go_upto_region 5 with (fail)
  rw [HD.out]
  go_wp2
  go_loop [2, 3, 6, 7] (fun r2 r3 n i => r2 = .int .i64 0 ∧ r3 = .int .i64 0 ∧ ∃ (k : Nat) (m : Int), k ≤ ds.size ∧ i = .int .i64 k ∧ n = .int .i64 m ∧ -9223372036854775808 ≤ m ∧ m ≤ 0 ∧ Hid (refLoop 0 ds.data.toList = refLoop m (ds.data.toList.drop k))) (fun _ _ _ i => ds.size - (intOf i).toNat)
  case atStart => exact ⟨rfl, rfl, 0, 0, by omega, rfl, rfl, by omega, by omega, Lib.hid rfl⟩
  case round =>
    obtain ⟨rfl, rfl, k, m, hk, rfl, rfl, m0, m1, HR⟩ := hrel
    by_cases hlt : k < ds.size
    · have h256 : ds[k].toNat < 256 := ds[k].toNat_lt
      have D := Lib.hid (byte_drop hlt)
      go_wp2
      all_goals first
        | (go_ret2
           exact ⟨res_none (by rw [HO.out, HR.out, D.out]; first | rw [Whole.loop_bad (by unfold isD; omega)] | rw [Whole.loop_over (by omega)]), rfl⟩)
        | (go_round
           case rel => exact ⟨_, _, _, _, ⟨rfl, rfl, k + 1, by omega, rfl, _, rfl, by omega, by omega, Lib.hid (by rw [HR.out, D.out]; exact Whole.loop_to (by unfold isD; omega) (by omega) (by omega))⟩, rfl, rfl, rfl, by go_num⟩
           case measure => simp [intOf]; omega)
    · have hk2 : k = ds.size := by omega
      subst hk2
      go_wp2
      go_ret2
      exact ⟨res_some (by rw [HO.out, HR.out, byte_drop_all, Whole.loop_nil]), rfl⟩

theorem empty_of {s : ByteArray} (h : s.size = 0) : s = ByteArray.empty := by
  cases s with | mk a =>
    have : a = #[] := Array.eq_empty_of_size_eq_zero h
    rw [this]; rfl
theorem ne_empty {s : ByteArray} (h : 0 < s.size) : ¬ s = ByteArray.empty := by
  rintro rfl; simp at h
set_option maxHeartbeats 1000000 in
theorem rparse_any (s : ByteArray) (hz : s.size ≤ 100000) (w : World) :
    Calls Tryd.prog 33 #[.string s] w fun e w' => Res (refParse s.data.toList) e ∧ w' = w := by
  by_cases h0 : s.size = 0
  · have he := empty_of h0
    subst he
    have E : refParse ByteArray.empty.data.toList = none := by kernel_rfl
    have E := Lib.hid E
    clear h0
    go_enter Tryd.func33, Tryd.ntmps33
    go_wp2
    go_ret2
    exact ⟨res_none E.out, rfl⟩
  · have hp : 0 < s.size := by omega
    have hne := ne_empty hp
    have h256 := s[0].toNat_lt
    by_cases hm : s[0].toNat = 45
    · have hmb : ((s[0].toNat : Int) == 45) = true := by simp [hm]
      obtain ⟨t1, t2⟩ := neg_tail hp hm
      have R : refParse s.data.toList = refEnd true (s.extract 1 s.size).data.toList := by rw [t1]; unfold refParse; simp
      obtain ⟨ds, hds⟩ : ∃ ds, s.extract 1 s.size = ds := ⟨_, rfl⟩
      rw [hds] at t2 R
      have dl : ds.data.toList.length = ds.size := by simp
      by_cases d0 : ds.size = 0
      · have de := empty_of d0
        have RN := Lib.hid (R.trans (Whole.end_bad (Or.inl (by omega))))
        have HD := Lib.hid (hds.trans de)
        clear t1 hds hm R de
        go_enter Tryd.func33, Tryd.ntmps33
        go_upto_region 5 with (fail)
        rw [HD.out]
        go_wp2
        go_ret2
        exact ⟨res_none RN.out, rfl⟩
      · have dp : 0 < ds.size := by omega
        have dne := ne_empty dp
        have d256 := ds[0].toNat_lt
        by_cases d19 : 19 < ds.size
        · have db : decide ((19 : Int) < ds.size) = true := by simp; omega
          have RN := Lib.hid (R.trans (Whole.end_bad (Or.inr (Or.inl (by omega)))))
          have HD := Lib.hid hds
          clear t1 hds hm R
          go_enter Tryd.func33, Tryd.ntmps33
          go_upto_region 5 with (fail)
          rw [HD.out]
          go_wp2
          go_ret2
          exact ⟨res_none RN.out, rfl⟩
        · have db : decide ((19 : Int) < ds.size) = false := by simp; omega
          by_cases dz : ds[0].toNat = 48
          · have dzb : ((ds[0].toNat : Int) == 48) = true := by simp [dz]
            have e48 : ds[0] = 48 := UInt8.toNat_inj.1 (by rw [dz]; rfl)
            have RN := Lib.hid (R.trans (Whole.end_bad (Or.inr (Or.inr ⟨by rw [byte_head dp, e48], Or.inr rfl⟩))))
            have HD := Lib.hid hds
            clear t1 hds hm R dz e48
            go_enter Tryd.func33, Tryd.ntmps33
            go_upto_region 5 with (fail)
            rw [HD.out]
            go_wp2
            all_goals
              go_ret2
              exact ⟨res_none RN.out, rfl⟩
          · have dzb : ((ds[0].toNat : Int) == 48) = false := by simp; omega
            refine rparse_neg s hz w hp hne hmb ds hds dp dne db dzb _ ?_
            rw [R, Whole.end_ok ?_]
            · cases refLoop 0 ds.data.toList <;> rfl
            · rintro (h | h | ⟨h, _⟩)
              · omega
              · omega
              · rw [byte_head dp, Option.some.injEq] at h; exact dz (by rw [h]; rfl)
    · have hmb : ((s[0].toNat : Int) == 45) = false := by simp; omega
      have R : refParse s.data.toList = refEnd false s.data.toList := by
        unfold refParse; rw [if_neg]; rw [byte_head hp, Option.some.injEq]; intro h; exact hm (by rw [h]; rfl)
      have dl : s.data.toList.length = s.size := by simp
      by_cases d19 : 19 < s.size
      · have db : decide ((19 : Int) < s.size) = true := by simp; omega
        have RN := Lib.hid (R.trans (Whole.end_bad (Or.inr (Or.inl (by omega)))))
        clear R hm
        go_enter Tryd.func33, Tryd.ntmps33
        go_wp2
        go_ret2
        exact ⟨res_none RN.out, rfl⟩
      · have db : decide ((19 : Int) < s.size) = false := by simp; omega
        by_cases hb : s[0].toNat = 48 ∧ 1 < s.size
        · have dzb : ((s[0].toNat : Int) == 48) = true := by simp [hb.1]
          have d1 : decide ((1 : Int) < s.size) = true := by simp; omega
          have e48 : s[0] = 48 := UInt8.toNat_inj.1 (by rw [hb.1]; rfl)
          have RN := Lib.hid (R.trans (Whole.end_bad (Or.inr (Or.inr ⟨by rw [byte_head hp, e48], Or.inl (by omega)⟩))))
          clear R hm hb e48
          go_enter Tryd.func33, Tryd.ntmps33
          go_wp2
          all_goals
            go_ret2
            exact ⟨res_none RN.out, rfl⟩
        · refine rparse_pos s hz w hp hne hmb db ?_ _ ?_
          · by_cases h48 : s[0].toNat = 48
            · exact Or.inr ⟨by simp [h48], by simp; omega⟩
            · exact Or.inl (by simp; omega)
          · rw [R, Whole.end_ok ?_]
            · cases refLoop 0 s.data.toList <;> simp
            · rintro (h | h | ⟨h, h2 | h2⟩)
              · omega
              · omega
              · rw [byte_head hp, Option.some.injEq] at h; exact hb ⟨by rw [h]; rfl, by omega⟩
              · cases h2
end Go.Proofs.YtcpfkkbegnhofaaDoor
