/- Walks: Step. -/
import Derived.Test.YtgdenmddbgcacaaGreatDoorK06
import Derived.Test.YtgdenmddbgcacaaGreatDoorK04
import Derived.StillTailTactics
import Derived.Deep.RegionWith
set_option linter.unusedVariables false
set_option linter.unusedSimpArgs false
set_option maxRecDepth 100000
namespace Go.Proofs.YtgdenmddbgcacaaGreatDoor
open Go.RowKit
open Tbl (Pl findGo home fnv Tab)

theorem TabAt.bo {w : World} {a bo bf : Nat} {t : Tab} (h : TabAt w a bo bf t) : Blk w a ([] ++ rowc bo t.old ++ (freshc bf t ++ [.bool t.moving, .int .i64 (t.next : Int)])) 88 := by
  have := h.blk; unfold tabc at this; rw [List.append_assoc] at this; exact this
theorem TabAt.bf {w : World} {a bo bf : Nat} {t : Tab} (h : TabAt w a bo bf t) (hm : t.moving = true) : Blk w a (rowc bo t.old ++ rowc bf t.fresh ++ [.bool t.moving, .int .i64 (t.next : Int)]) 88 := by
  have := h.blk; unfold tabc freshc at this; rw [if_pos hm] at this; exact this
theorem TabAt.setOld {w w' : World} {a bo bf : Nat} {t : Tab} (h : TabAt w a bo bf t) (r : Tbl.Row) (hb : Blk w' a ([] ++ rowc bo r ++ (freshc bf t ++ [.bool t.moving, .int .i64 (t.next : Int)])) 88)
    (hp : PlAt w' bo r.pl) (u : Upd (fun k => k = a ∨ k = bo) w w') : TabAt w' a bo bf { t with old := r } := by
  refine ⟨?_, hp, fun hm => u.blk (h.fresh hm) ?_, h.ne, h.nf, h.rest⟩
  · unfold tabc; rw [List.append_assoc]; exact hb
  · have := h.nf hm
    rintro (e | e)
    · exact this.1 e.symm
    · exact this.2 e.symm
theorem TabAt.setFresh {w w' : World} {a bo bf : Nat} {t : Tab} (h : TabAt w a bo bf t) (hm : t.moving = true) (r : Tbl.Row) (hb : Blk w' a (rowc bo t.old ++ rowc bf r ++ [.bool t.moving, .int .i64 (t.next : Int)]) 88)
    (hp : PlAt w' bf r.pl) (u : Upd (fun k => k = a ∨ k = bf) w w') : TabAt w' a bo bf { t with fresh := r } := by
  refine ⟨?_, u.blk h.old ?_, fun _ => hp, h.ne, h.nf, fun h2 => by rw [hm] at h2; cases h2⟩
  · unfold tabc freshc; rw [if_pos hm]; exact hb
  · have := h.nf hm
    rintro (e | e)
    · exact h.ne e.symm
    · exact this.2 e
theorem updOld {w w' : World} {a bo bf : Nat} {t : Tab} (u : Upd (fun k => k = a ∨ k = bo) w w') : Upd (tabF a bo bf t) w w' :=
  u.weaken fun i _ h => by rcases h with h | h <;> simp [tabF, h]
theorem updFresh {w w' : World} {a bo bf : Nat} {t : Tab} (hm : t.moving = true) (u : Upd (fun k => k = a ∨ k = bf) w w') : Upd (tabF a bo bf t) w w' :=
  u.weaken fun i _ h => by rcases h with h | h <;> simp [tabF, h, hm]

theorem TabAt.lt {w : World} {a bo bf : Nat} {t : Tab} (h : TabAt w a bo bf t) (k : Nat) (hk : tabF a bo bf t k) : k < w.heap.size := by
  rcases hk with rfl | rfl | ⟨hm, rfl⟩
  · exact h.blk.lt
  · exact Blk.lt h.old
  · exact Blk.lt (h.fresh hm)

theorem buryOld_any (a bo bf i : Nat) (t : Tab) (w : World) (h : TabAt w a bo bf t) (hi2 : i < t.old.pl.length) (hm : t.old.pl.length ≤ 1000000)
    (hfu : 0 ≤ t.old.full) (hfu' : t.old.full ≤ 1000000) (hgr : 0 ≤ t.old.graves) (hgr' : t.old.graves ≤ 1000000) :
    Calls Tryz.prog 102 #[.pointer (some ⟨a, 0, none⟩), .int .i64 (i : Int)] w fun e w' =>
      e = .returned (.tuple #[]) ∧ TabAt w' a bo bf { t with old := t.old.bury i } ∧ Upd (tabF a bo bf t) w w' :=
  (bury_any a 0 bo i [] _ t.old w _ h.bo rfl h.old h.ne hi2 hm hfu hfu' hgr hgr').mono fun _ _ ⟨e, b, p, u⟩ => ⟨e, h.setOld _ b p u, updOld u⟩
theorem buryFresh_any (a bo bf i : Nat) (t : Tab) (w : World) (h : TabAt w a bo bf t) (mv : t.moving = true) (hi2 : i < t.fresh.pl.length) (hm : t.fresh.pl.length ≤ 1000000)
    (hfu : 0 ≤ t.fresh.full) (hfu' : t.fresh.full ≤ 1000000) (hgr : 0 ≤ t.fresh.graves) (hgr' : t.fresh.graves ≤ 1000000) :
    Calls Tryz.prog 102 #[.pointer (some ⟨a, 3, none⟩), .int .i64 (i : Int)] w fun e w' =>
      e = .returned (.tuple #[]) ∧ TabAt w' a bo bf { t with fresh := t.fresh.bury i } ∧ Upd (tabF a bo bf t) w w' :=
  (bury_any a 3 bf i _ _ t.fresh w _ (h.bf mv) rfl (h.fresh mv) (h.nf mv).1 hi2 hm hfu hfu' hgr hgr').mono fun _ _ ⟨e, b, p, u⟩ => ⟨e, h.setFresh mv _ b p u, updFresh mv u⟩
theorem putOld_any (a bo bf : Nat) (t : Tab) (key : ByteArray) (n : Int) (w : World) (h : TabAt w a bo bf t) (hk : key.size ≤ maxLen) (h0 : 0 < t.old.pl.length) (hm : t.old.pl.length ≤ 1000000) (hf : 0 ≤ (Tbl.find t.old.pl key).1)
    (hfu : 0 ≤ t.old.full) (hfu' : t.old.full ≤ 1000000) (hgr : 0 ≤ t.old.graves) (hgr' : t.old.graves ≤ 1000000) :
    Calls Tryz.prog 78 #[.pointer (some ⟨a, 0, none⟩), .string key, .int .i64 n] w fun e w' =>
      e = .returned (.tuple #[]) ∧ TabAt w' a bo bf { t with old := t.old.put key n } ∧ Upd (tabF a bo bf t) w w' :=
  (put_any a 0 bo [] _ t.old key n w _ h.bo rfl h.old h.ne hk h0 hm hf hfu hfu' hgr hgr').mono fun _ _ ⟨e, b, p, u⟩ => ⟨e, h.setOld _ b p u, updOld u⟩
theorem putFresh_any (a bo bf : Nat) (t : Tab) (key : ByteArray) (n : Int) (w : World) (h : TabAt w a bo bf t) (mv : t.moving = true) (hk : key.size ≤ maxLen) (h0 : 0 < t.fresh.pl.length) (hm : t.fresh.pl.length ≤ 1000000) (hf : 0 ≤ (Tbl.find t.fresh.pl key).1)
    (hfu : 0 ≤ t.fresh.full) (hfu' : t.fresh.full ≤ 1000000) (hgr : 0 ≤ t.fresh.graves) (hgr' : t.fresh.graves ≤ 1000000) :
    Calls Tryz.prog 78 #[.pointer (some ⟨a, 3, none⟩), .string key, .int .i64 n] w fun e w' =>
      e = .returned (.tuple #[]) ∧ TabAt w' a bo bf { t with fresh := t.fresh.put key n } ∧ Upd (tabF a bo bf t) w w' :=
  (put_any a 3 bf _ _ t.fresh key n w _ (h.bf mv) rfl (h.fresh mv) (h.nf mv).1 hk h0 hm hf hfu hfu' hgr hgr').mono fun _ _ ⟨e, b, p, u⟩ => ⟨e, h.setFresh mv _ b p u, updFresh mv u⟩

theorem steps_still (k : Nat) (t : Tab) (h : t.moving = false) : t.steps k = t := by
  cases k with
  | zero => rfl
  | succ k => rw [Tab.steps, if_neg (by simp [h])]
theorem step_last {w W : World} {a bo bf : Nat} {u : Tab} {cs : List Value} (h : TabAt w a bo bf u) (hm : u.moving = true) (hB : Blk W a cs 88) (hU : Upd (fun k => k = a) w W)
    (hcs : cs = tabc bf 0 ⟨u.fresh, Tbl.none, false, 0⟩) : TabAt W a bf 0 ⟨u.fresh, Tbl.none, false, 0⟩ := by
  subst hcs
  have := h.nf hm
  exact ⟨hB, hU.blk (h.fresh hm) (Ne.symm this.1), fun h => (by cases h), this.1, fun h => (by cases h), fun _ => ⟨rfl, rfl⟩⟩
theorem step_next {w W : World} {a bo bf n : Nat} {u : Tab} {cs : List Value} (h : TabAt w a bo bf u) (hm : u.moving = true) (hB : Blk W a cs 88) (hU : Upd (fun k => k = a) w W)
    (hcs : cs = tabc bo bf { u with next := n }) : TabAt W a bo bf { u with next := n } := by
  subst hcs
  have := h.nf hm
  exact ⟨hB, hU.blk h.old (Ne.symm h.ne), fun _ => hU.blk (h.fresh hm) (Ne.symm this.1), h.ne, h.nf, fun h2 => by rw [show ({ u with next := n } : Tab).moving = u.moving from rfl, hm] at h2; cases h2⟩
theorem sets_last (bo bf : Nat) (u : Tab) (hm : u.moving = true) (n : Int) :
    (((((((((tabc bo bf u).set 7 (.int .i64 n)).set 0 (.slice (some ⟨bf, 0, none⟩) u.fresh.pl.length u.fresh.pl.length)).set 1 (.int .i64 u.fresh.full)).set 2 (.int .i64 u.fresh.graves)).set 3 (.slice none 0 0)).set 4 (.int .i64 0)).set 5 (.int .i64 0)).set 6 (.bool false)).set 7 (.int .i64 0) = tabc bf 0 ⟨u.fresh, Tbl.none, false, 0⟩ := by
  simp [tabc, rowc, freshc, hm, Tbl.none]
theorem sets_next (bo bf : Nat) (u : Tab) (hm : u.moving = true) (n : Nat) : (tabc bo bf u).set 7 (.int .i64 (n : Int)) = tabc bo bf { u with next := n } := by
  simp [tabc, rowc, freshc, hm]

theorem tlast_any {w : World} {a bo bf : Nat} {u : Tab} (h : TabAt w a bo bf u) (hm : u.moving = true) (n : Int) (nq : Nat) :
    TabAt ((((((((((w.setCell ⟨a, 7, none⟩ (.int .i64 n)).drewN nq).setCell ⟨a, 0, none⟩ (.slice (some ⟨bf, 0, none⟩) u.fresh.pl.length u.fresh.pl.length)).setCell ⟨a, 1, none⟩ (.int .i64 u.fresh.full)).setCell ⟨a, 2, none⟩ (.int .i64 u.fresh.graves)).setCell ⟨a, 3, none⟩ (.slice none 0 0)).setCell ⟨a, 4, none⟩ (.int .i64 0)).setCell ⟨a, 5, none⟩ (.int .i64 0)).setCell ⟨a, 6, none⟩ (.bool false)).setCell ⟨a, 7, none⟩ (.int .i64 0)) a bf 0 ⟨u.fresh, Tbl.none, false, 0⟩ ∧ Upd (fun k => k = a) w ((((((((((w.setCell ⟨a, 7, none⟩ (.int .i64 n)).drewN nq).setCell ⟨a, 0, none⟩ (.slice (some ⟨bf, 0, none⟩) u.fresh.pl.length u.fresh.pl.length)).setCell ⟨a, 1, none⟩ (.int .i64 u.fresh.full)).setCell ⟨a, 2, none⟩ (.int .i64 u.fresh.graves)).setCell ⟨a, 3, none⟩ (.slice none 0 0)).setCell ⟨a, 4, none⟩ (.int .i64 0)).setCell ⟨a, 5, none⟩ (.int .i64 0)).setCell ⟨a, 6, none⟩ (.bool false)).setCell ⟨a, 7, none⟩ (.int .i64 0)) := by
  have hU : Upd (fun k => k = a) w ((((((((((w.setCell ⟨a, 7, none⟩ (.int .i64 n)).drewN nq).setCell ⟨a, 0, none⟩ (.slice (some ⟨bf, 0, none⟩) u.fresh.pl.length u.fresh.pl.length)).setCell ⟨a, 1, none⟩ (.int .i64 u.fresh.full)).setCell ⟨a, 2, none⟩ (.int .i64 u.fresh.graves)).setCell ⟨a, 3, none⟩ (.slice none 0 0)).setCell ⟨a, 4, none⟩ (.int .i64 0)).setCell ⟨a, 5, none⟩ (.int .i64 0)).setCell ⟨a, 6, none⟩ (.bool false)).setCell ⟨a, 7, none⟩ (.int .i64 0)) :=
    ((((((((((Upd.refl (fun k => k = a) w).set (fun _ => rfl)).drewN _).set (fun _ => rfl)).set (fun _ => rfl)).set (fun _ => rfl)).set (fun _ => rfl)).set (fun _ => rfl)).set (fun _ => rfl)).set (fun _ => rfl)).set (fun _ => rfl)
  refine ⟨step_last h hm ?_ hU (sets_last bo bf u hm n), hU⟩
  exact ((((((((((h.blk.set _ _).drewN _).set _ _).set _ _).set _ _).set _ _).set _ _).set _ _).set _ _).set _ _)
theorem next_any {w : World} {a bo bf : Nat} {u : Tab} (h : TabAt w a bo bf u) (hm : u.moving = true) (n nq : Nat) :
    TabAt ((w.setCell ⟨a, 7, none⟩ (.int .i64 ((n : Int) + 1))).drewN nq) a bo bf { u with next := n + 1 } ∧ Upd (fun k => k = a) w ((w.setCell ⟨a, 7, none⟩ (.int .i64 ((n : Int) + 1))).drewN nq) := by
  have hU : Upd (fun k => k = a) w ((w.setCell ⟨a, 7, none⟩ (.int .i64 ((n : Int) + 1))).drewN nq) := ((Upd.refl (fun k => k = a) w).set (fun _ => rfl)).drewN _
  refine ⟨step_next h hm ?_ hU (sets_next bo bf u hm (n + 1)), hU⟩
  exact (h.blk.set _ _).drewN _

set_option maxHeartbeats 2000000 in
theorem step_any (m a bo bf : Nat) (t : Tab) (w : World) (h : TabAt w a bo bf t) (hi : t.Inv m) (hm : m ≤ 10000) :
    Calls Tryz.prog 75 #[.pointer (some ⟨a, 0, none⟩)] w fun e w' => e = .returned (.tuple #[]) ∧ ∃ bo' bf', TabAt w' a bo' bf' t.step ∧ Upd (tabF a bo bf t) w w' ∧ FromF (tabF a bo bf t) (tabF a bo' bf' t.step) w := by
  by_cases hmv : t.moving = true
  · have cm := h.m
    rw [hmv] at cm
    have H := Lib.hid h
    have HM := Lib.hid hmv
    have HI := Lib.hid hi
    clear h hmv hi
    go_enter Tryz.func75, Tryz.ntmps75
    go_wp2
    go_loopw [8] (fun c wr => ∃ (k : Nat) (t1 : Tab) (bo1 bf1 : Nat), k ≤ 4 ∧ c = .int .i64 (k : Int) ∧ Hid (TabAt wr a bo1 bf1 t1) ∧ Hid (t1.Inv m) ∧ Hid (t1.moving = true) ∧ Hid (t.step = t1.steps (4 - k)) ∧ Hid (Upd (tabF a bo bf t) w wr) ∧ Hid (FromF (tabF a bo bf t) (tabF a bo1 bf1 t1) w)) (fun c _ => 4 - (intOf c).toNat)
    case atStart => exact ⟨0, t, bo, bf, by omega, rfl, H.out, HI.out, HM.out, rfl, Upd.refl _ _, fun k hk => Or.inl hk⟩
    case round =>
      obtain ⟨k, t1, bo1, bf1, hk, rfl, H1, I1, M1, S1, U1, F1⟩ := hrel
      by_cases hlt : k < 4
      · have mv := I1.out.mv M1.out
        have c0 := H1.out.o0
        have cx := H1.out.x
        have p0 := H1.out.old.st t1.next mv.2.1
        have p1 := H1.out.old.key t1.next mv.2.1
        have p2 := H1.out.old.num t1.next mv.2.1
        have hx : t1.next < t1.old.pl.length := mv.2.1
        have hl := I1.out.hi
        have la := H1.out.blk.lt
        have lb := Blk.lt H1.out.old
        clear mv
        obtain ⟨q, hq0⟩ : ∃ q, t1.old.pl.getD t1.next default = q := ⟨_, rfl⟩
        rw [hq0] at p0 p1 p2
        have HQ := Lib.hid hq0
        clear hq0
        go_wp2
        go_region
        have HA : Hid (TabAt (World.drew (wr.alloc (.cells #[.int .i64 q.st, .string q.key, .int .i64 q.n] 94))) a bo1 bf1 t1) :=
          H1.out.keep (G := fun _ => False) (((Upd.refl _ _).alloc _).drew) (fun _ _ => id)
        have HP : Hid (Blk (World.drew (wr.alloc (.cells #[.int .i64 q.st, .string q.key, .int .i64 q.n] 94))) wr.heap.size [.int .i64 q.st, .string q.key, .int .i64 q.n] 94) := Blk.made wr _ _
        have HU : Hid (Upd (tabF a bo bf t) w (World.drew (wr.alloc (.cells #[.int .i64 q.st, .string q.key, .int .i64 q.n] 94)))) := (U1.out.alloc _).drew
        have HS : wr.heap.size < (World.drew (wr.alloc (.cells #[.int .i64 q.st, .string q.key, .int .i64 q.n] 94))).heap.size := Blk.lt HP.out
        generalize World.drew (wr.alloc (.cells #[.int .i64 q.st, .string q.key, .int .i64 q.n] 94)) = wA at *
        clear c0 cx p0 p1 p2 la lb
        have hp0 : wA.cell? ⟨wr.heap.size, 0, none⟩ = some (.int .i64 q.st) := HP.out.cellAt rfl
        have hp1 : wA.cell? ⟨wr.heap.size, 1, none⟩ = some (.string q.key) := HP.out.cellAt rfl
        have hp2 : wA.cell? ⟨wr.heap.size, 2, none⟩ = some (.int .i64 q.n) := HP.out.cellAt rfl
        have hx2 := HA.out.x
        by_cases hq : q.st = 1
        case' pos =>
          have hq1 : (q.st == 1) = true := by simp [hq]
          clear hq
          go_wp2
          go_still_tail 7, (by kernel_rfl)
          show wpList _ _ _ _ _ wA.drew
          go_wp2_with fail
          have ho := I1.out.of
          have hl := I1.out.hi
          refine (buryOld_any a bo1 bf1 t1.next t1 _ (HA.out.drewN 1) hx (by omega) ho.1 (by omega) ho.2.1 (by omega)).mono ?_
          rintro e w2 ⟨rfl, hT2, hU2⟩
          have hnp : ¬ tabF a bo1 bf1 t1 wr.heap.size := fun hh => by have := H1.out.lt _ hh; omega
          have hP2 := hU2.blk (HP.out.drewN 1) hnp
          have hp1' : w2.cell? ⟨wr.heap.size, 1, none⟩ = some (.string q.key) := hP2.cellAt rfl
          have hp2' : w2.cell? ⟨wr.heap.size, 2, none⟩ = some (.int .i64 q.n) := hP2.cellAt rfl
          have HT2 := Lib.hid hT2
          have HU2 := Lib.hid ((HU.out.drewN 1).trans hU2 (fun i hi hh => by
            rcases F1.out i hh with g | g
            · exact g
            · omega))
          have HNP := Lib.hid hnp
          clear hT2 hU2 hP2 hnp hp0 hp1 hp2 hx2
          go_wp2
          go_still_tail 7, (by kernel_rfl)
          show wpList _ _ _ _ _ w2.drew
          go_wp2_with fail
          have hf := I1.out.ff
          have hl2 := I1.out.hi2
          have mv := I1.out.mv M1.out
          have hkk : q.key.size ≤ 100000 := by have := Tbl.key_getD I1.out.old.keys t1.next; rw [HQ.out] at this; exact this
          refine (putFresh_any a bo1 bf1 { t1 with old := t1.old.bury t1.next } q.key q.n _ (HT2.out.drewN 1) M1.out (by unfold maxLen; omega) (by simp only; omega) (by simp only; omega) (Tbl.find_some _ _ (by simp only; omega) (I1.out.room M1.out)) hf.1 (by simp only; omega) hf.2.1 (by simp only; omega)).mono ?_
          rintro e w3 ⟨rfl, hT3, hU3⟩
          have hmvd : t1.moved = { t1 with old := t1.old.bury t1.next, fresh := t1.fresh.put q.key q.n } := by
            unfold Tab.moved; simp only [HQ.out]; rw [if_pos (by simpa using hq1)]
          have HT3 : Hid (TabAt w3 a bo1 bf1 t1.moved) := by rw [hmvd]; exact hT3
          have HU3 : Hid (Upd (tabF a bo bf t) w w3) := (HU2.out.drewN 1).trans hU3 (fun i hi hh => by
            rcases F1.out i hh with g | g
            · exact g
            · omega)
          clear hT3 hU3 hmvd HT2 HU2 HU HA HP HS hf hl2 mv hkk hp1' hp2' ho hl
        case' neg =>
          have hq1 : (q.st == 1) = false := by simp [hq]
          have hmvd : t1.moved = t1 := by
            unfold Tab.moved; simp only [HQ.out]; rw [if_neg hq]
          have HT3 : Hid (TabAt wA a bo1 bf1 t1.moved) := by rw [hmvd]; exact HA.out
          have HU3 := HU
          have hu9 : wA.cell? ⟨a, 7, none⟩ = some (.int .i64 (t1.next : Int)) := hx2
          clear hq hmvd HU HA HP HS hp1 hp2 hx2
          obtain ⟨w3, rfl⟩ : ∃ x, x = wA := ⟨_, rfl⟩
        all_goals
          obtain ⟨k1, k2, k3, k4, k5, k6, k7, k8, k9⟩ := Tbl.moved_inv I1.out M1.out
          have d7 := HT3.out.x
          rw [k6] at d7
          have d0 := HT3.out.o0
          rw [k3] at d0
          have d1 := HT3.out.o1
          have d2 := HT3.out.o2
          have d3 := HT3.out.f0 k5
          have d4 := HT3.out.f1
          have d5 := HT3.out.f2
          have d6 := HT3.out.m
          rw [k5] at d6
          have fb := HT3.out.fb
          have hl := I1.out.hi
          have K3 := Lib.hid k3
          have K4 := Lib.hid k4
          have K5 := Lib.hid k5
          have K6 := Lib.hid k6
          clear k1 k2 k3 k4 k5 k6 k7 k8 k9
          go_wp2
          go_quiet (fail)
          go_wp2
          · have he : t1.next + 1 = t1.old.pl.length := by
              have hh : ((t1.next : Int) + 1 == (t1.old.pl.length : Int)) = true := by assumption
              have := beq_iff_eq.1 hh
              omega
            go_returns
            have e1 : t1.one = ⟨t1.moved.fresh, Tbl.none, false, 0⟩ := by unfold Tab.one; simp only; rw [if_pos he]
            have e2 : t.step = ⟨t1.moved.fresh, Tbl.none, false, 0⟩ := by
              rw [S1.out, show 4 - k = (3 - k) + 1 by omega, Tab.steps, if_pos M1.out, e1, steps_still _ _ rfl]
            rw [e2]
            have HL := tlast_any HT3.out K5.out ((t1.next : Int) + 1) nq
            refine ⟨rfl, bf1, 0, HL.1, HU3.out.trans HL.2 (fun i _ hh => hh ▸ Or.inl rfl), ?_⟩
            intro x hx
            apply F1.out
            rcases hx with rfl | rfl | ⟨hx, _⟩
            · exact Or.inl rfl
            · exact Or.inr (Or.inr ⟨M1.out, rfl⟩)
            · cases hx
          · have he : ¬ t1.next + 1 = t1.old.pl.length := by
              have hh : ((t1.next : Int) + 1 == (t1.old.pl.length : Int)) = false := by assumption
              have := beq_eq_false_iff_ne.1 hh
              omega
            have e1 : t1.one = { t1.moved with next := t1.next + 1 } := by unfold Tab.one; simp only; rw [if_neg he]
            go_roundw
            case rel =>
              have HL := next_any HT3.out K5.out t1.next nq
              refine ⟨k + 1, t1.one, bo1, bf1, by omega, by go_num, by rw [e1]; exact HL.1, Tbl.one_inv I1.out M1.out, by rw [e1]; exact K5.out, ?_, HU3.out.trans HL.2 (fun i _ hh => hh ▸ Or.inl rfl), ?_⟩
              · show t.step = _
                rw [S1.out, show 4 - k = (4 - (k + 1)) + 1 by omega, Tab.steps, if_pos M1.out]
              · intro x hx
                apply F1.out
                rw [e1] at hx
                rcases hx with rfl | rfl | ⟨_, rfl⟩
                · exact Or.inl rfl
                · exact Or.inr (Or.inl rfl)
                · exact Or.inr (Or.inr ⟨M1.out, rfl⟩)
            case measure => simp [intOf]; omega
      · have hk4 : k = 4 := by omega
        subst hk4
        go_wp2
        go_returns
        have e2 : t.step = t1 := S1.out
        rw [e2]
        exact ⟨rfl, bo1, bf1, H1.out, U1.out, F1.out⟩
  · have hmv : t.moving = false := by simpa using hmv
    have cm := h.m
    rw [hmv] at cm
    have e2 : t.step = t := steps_still 4 t hmv
    have E2 := Lib.hid e2
    have H := Lib.hid h
    clear h hmv hi e2
    go_enter Tryz.func75, Tryz.ntmps75
    go_wp2
    go_returns
    rw [E2.out]
    exact ⟨rfl, bo, bf, H.out, Upd.refl _ _, fun _ h => Or.inl h⟩
end Go.Proofs.YtgdenmddbgcacaaGreatDoor
/- Walks: at, Clear. -/
set_option linter.unusedVariables false
set_option linter.unusedSimpArgs false
set_option maxRecDepth 100000
namespace Go.Proofs.YtgdenmddbgcacaaGreatDoor
open Go.RowKit
open Tbl (Pl findGo home fnv Tab)

/-- what 'at' answers. -/
def atVal (a : Nat) : Option (Bool × Nat) → Value
  | some (true, i) => .tuple #[.pointer (some ⟨a, 3, none⟩), .int .i64 (i : Int)]
  | some (false, i) => .tuple #[.pointer (some ⟨a, 0, none⟩), .int .i64 (i : Int)]
  | none => .tuple #[.pointer none, .int .i64 (-1)]

theorem idx0 (x y : Value) (w : World) : (Instr.index 173 (.agg #[x, y]) (.int .i64 0)).run Tryz.prog w = .ok x w := by kernel_rfl
theorem idx1 (x y : Value) (w : World) : (Instr.index 173 (.agg #[x, y]) (.int .i64 1)).run Tryz.prog w = .ok y w := by kernel_rfl

set_option maxHeartbeats 2000000 in
theorem at_any (m a bo bf : Nat) (t : Tab) (key : ByteArray) (w : World) (h : TabAt w a bo bf t) (hi : t.Inv m) (hm : m ≤ 10000) (hk : key.size ≤ maxLen) :
    Calls Tryz.prog 76 #[.pointer (some ⟨a, 0, none⟩), .string key] w fun e w' => e = .returned (atVal a (t.at key)) ∧ ∃ n, w' = w.drewN n := by
  have c0 := h.o0
  have lo := hi.lo
  have l1 := hi.hi
  have l2 := hi.hi2
  have FO : Hid (∀ n, Calls Tryz.prog 103 #[.pointer (some ⟨a, 0, none⟩), .string key] (w.drewN n) fun e w' => e = .returned (.tuple #[.int .i64 (Tbl.find t.old.pl key).1, .bool (Tbl.find t.old.pl key).2]) ∧ ∃ k, w' = (w.drewN n).drewN k) :=
    fun n => find_any a 0 bo t.old.pl key (w := w.drewN n) (hk := hk) (h0 := by omega) (hm := by omega) (hr := c0) (hp := h.old.drewN n)
  have OF : Hid ((Tbl.find t.old.pl key).2 = true → 0 ≤ (Tbl.find t.old.pl key).1) := fun ht => by
    obtain ⟨i, _, e, _⟩ := Tbl.find_there t.old.pl key (by omega) ht
    omega
  have z2 : ((t.old.pl.length : Int) == 0) = false := beq_eq_false_iff_ne.2 (by omega)
  have q2 : t.old.pl.length ≠ 0 := by omega
  have Q2 := Lib.hid q2
  have i0 := idx0 (.pointer (some ⟨a, 3, none⟩)) (.pointer (some ⟨a, 0, none⟩))
  have i1 := idx1 (.pointer (some ⟨a, 3, none⟩)) (.pointer (some ⟨a, 0, none⟩))
  clear q2
  by_cases hmv : t.moving = true
  · have c3 := h.f0 hmv
    have mv := hi.mv hmv
    have FF : Hid (∀ n, Calls Tryz.prog 103 #[.pointer (some ⟨a, 3, none⟩), .string key] (w.drewN n) fun e w' => e = .returned (.tuple #[.int .i64 (Tbl.find t.fresh.pl key).1, .bool (Tbl.find t.fresh.pl key).2]) ∧ ∃ k, w' = (w.drewN n).drewN k) :=
      fun n => find_any a 3 bf t.fresh.pl key (w := w.drewN n) (hk := hk) (h0 := by omega) (hm := by omega) (hr := c3) (hp := (h.fresh hmv).drewN n)
    have OFF : Hid ((Tbl.find t.fresh.pl key).2 = true → 0 ≤ (Tbl.find t.fresh.pl key).1) := fun ht => by
      obtain ⟨i, _, e, _⟩ := Tbl.find_there t.fresh.pl key (by omega) ht
      omega
    have z1 : ((t.fresh.pl.length : Int) == 0) = false := beq_eq_false_iff_ne.2 (by omega)
    have q1 : t.fresh.pl.length ≠ 0 := by omega
    have Q1 := Lib.hid q1
    clear mv h hi hmv q1
    go_enter Tryz.func76, Tryz.ntmps76
    go_wp2
    go_quiet (fail)
    go_wp2
    refine wp_loop_rounds 3 ?_
    rw [rounds_succ]
    go_wp2_with fail
    refine (FF.out _).mono ?_
    rintro e w1 ⟨rfl, n1, rfl⟩
    cases hf : (Tbl.find t.fresh.pl key).2
    · have HF := Lib.hid hf
      clear hf
      go_wp2
      rw [rounds_succ]
      go_wp2_with fail
      refine (FO.out _).mono ?_
      rintro e w1 ⟨rfl, n2, rfl⟩
      cases hg : (Tbl.find t.old.pl key).2
      · have HG := Lib.hid hg
        clear hg
        go_wp2
        rw [rounds_succ]
        go_wp2
        go_ret2
        refine ⟨?_, _, rfl⟩
        unfold Tab.at
        rw [if_neg (by rw [HF.out]; simp), if_neg (by rw [HG.out]; simp)]
        rfl
      · have HG := Lib.hid hg
        clear hg
        go_wp2
        go_ret2
        refine ⟨?_, _, rfl⟩
        unfold Tab.at
        rw [if_neg (by rw [HF.out]; simp), if_pos ⟨Q2.out, HG.out⟩]
        show _ = Ending.returned (.tuple #[_, _])
        rw [Int.toNat_of_nonneg (OF.out HG.out)]
        rfl
    · have HF := Lib.hid hf
      clear hf
      go_wp2
      go_ret2
      refine ⟨?_, _, rfl⟩
      unfold Tab.at
      rw [if_pos ⟨Q1.out, HF.out⟩]
      show _ = Ending.returned (.tuple #[_, _])
      rw [Int.toNat_of_nonneg (OFF.out HF.out)]
      rfl
  · have hmv : t.moving = false := by simpa using hmv
    have c3 := h.n0 hmv
    have q1 : t.fresh.pl.length = 0 := by rw [(hi.rest hmv).1]; rfl
    have Q1 := Lib.hid q1
    clear h hi hmv q1
    go_enter Tryz.func76, Tryz.ntmps76
    go_wp2
    go_quiet (fail)
    go_wp2
    refine wp_loop_rounds 3 ?_
    rw [rounds_succ]
    go_wp2
    rw [rounds_succ]
    go_wp2_with fail
    refine (FO.out _).mono ?_
    rintro e w1 ⟨rfl, n2, rfl⟩
    cases hg : (Tbl.find t.old.pl key).2
    · have HG := Lib.hid hg
      clear hg
      go_wp2
      rw [rounds_succ]
      go_wp2
      go_ret2
      refine ⟨?_, _, rfl⟩
      unfold Tab.at
      rw [if_neg (fun hh => hh.1 Q1.out), if_neg (by rw [HG.out]; simp)]
      rfl
    · have HG := Lib.hid hg
      clear hg
      go_wp2
      go_ret2
      refine ⟨?_, _, rfl⟩
      unfold Tab.at
      rw [if_neg (fun hh => hh.1 Q1.out), if_pos ⟨Q2.out, HG.out⟩]
      show _ = Ending.returned (.tuple #[_, _])
      rw [Int.toNat_of_nonneg (OF.out HG.out)]
      rfl

set_option maxHeartbeats 1000000 in
theorem tclear_any (a bo bf : Nat) (t : Tab) (w : World) (h : TabAt w a bo bf t) :
    Calls Tryz.prog 65 #[.pointer (some ⟨a, 0, none⟩)] w fun e w' => e = .returned (.tuple #[]) ∧ ∃ bo' bf', TabAt w' a bo' bf' Tab.new ∧ Upd (tabF a bo bf t) w w' ∧ FromF (tabF a bo bf t) (tabF a bo' bf' Tab.new) w := by
  go_enter Tryz.func65, Tryz.ntmps65
  have al := h.blk.lt
  have H := Lib.hid h
  clear h
  go_wp2_with fail
  refine (new_any w).mono ?_
  rintro e w1 ⟨a1, F1, rfl, ⟨bo1, bf1, h1, rfl⟩, u1, k1⟩
  have x := H.out.keep u1 (fun _ _ => id)
  have e0 := x.o0
  have e1 := x.o1
  have e2 := x.o2
  obtain ⟨v3, e3⟩ : ∃ v, w1.cell? ⟨a, 3, none⟩ = some v := by
    cases hm : t.moving
    · exact ⟨_, x.n0 hm⟩
    · exact ⟨_, x.f0 hm⟩
  have e4 := x.f1
  have e5 := x.f2
  have e6 := x.m
  have e7 := x.x
  have d0 := h1.o0
  have d1 := h1.o1
  have d2 := h1.o2
  have d3 := h1.n0 rfl
  have d4 := h1.f1
  have d5 := h1.f2
  have d6 := h1.m
  have d7 := h1.x
  have fb := x.fb
  have H1 := Lib.hid h1
  have X := Lib.hid x
  have U1 := Lib.hid u1
  have K1 := Lib.hid k1
  clear h1 x u1 k1
  go_wp2
  go_end0
  have kn := K1.out
  have hne : bo1 ≠ a := by have := kn bo1 (Or.inr (Or.inl rfl)); omega
  have hU : Upd (tabF a bo bf t) w w1 := U1.out.weaken (fun _ _ h => h.elim)
  have ha : tabF a bo bf t a := Or.inl rfl
  refine ⟨rfl, bo1, bf1, ⟨?_, ?_, fun h => (by cases h), Ne.symm hne, fun h => (by cases h), fun _ => ⟨rfl, rfl⟩⟩, ?_, ?_⟩
  · have hB := (((((((X.out.blk.set 0 (.slice (some ⟨bo1, 0, none⟩) Tab.new.old.pl.length Tab.new.old.pl.length)).set 1 (.int .i64 Tab.new.old.full)).set 2 (.int .i64 Tab.new.old.graves)).set 3 (.slice none 0 0)).set 4 (.int .i64 Tab.new.fresh.full)).set 5 (.int .i64 Tab.new.fresh.graves)).set 6 (.bool Tab.new.moving)).set 7 (.int .i64 Tab.new.next)
    have e : ((((((((tabc bo bf t).set 0 (.slice (some ⟨bo1, 0, none⟩) Tab.new.old.pl.length Tab.new.old.pl.length)).set 1 (.int .i64 Tab.new.old.full)).set 2 (.int .i64 Tab.new.old.graves)).set 3 (.slice none 0 0)).set 4 (.int .i64 Tab.new.fresh.full)).set 5 (.int .i64 Tab.new.fresh.graves)).set 6 (.bool Tab.new.moving)).set 7 (.int .i64 Tab.new.next) = tabc bo1 bf1 Tab.new := by
      unfold tabc freshc rowc; split <;> rfl
    rw [← e]; exact hB
  · exact (((((((Blk.set_other H1.out.old hne).set_other hne).set_other hne).set_other hne).set_other hne).set_other hne).set_other hne).set_other hne
  · exact (((((((hU.set (fun _ => ha)).set (fun _ => ha)).set (fun _ => ha)).set (fun _ => ha)).set (fun _ => ha)).set (fun _ => ha)).set (fun _ => ha)).set (fun _ => ha)
  · rintro k (rfl | rfl | ⟨h, _⟩)
    · exact Or.inl ha
    · exact Or.inr (kn _ (Or.inr (Or.inl rfl)))
    · cases h
end Go.Proofs.YtgdenmddbgcacaaGreatDoor
/- Walks: Put, Drop, Get. -/
set_option linter.unusedVariables false
set_option linter.unusedSimpArgs false
set_option maxRecDepth 100000
namespace Go.Proofs.YtgdenmddbgcacaaGreatDoor
open Go.RowKit
open Tbl (Pl findGo home fnv Tab)

/-- From one table to the next: where it lies, what was written, what is new. -/
def TabTo (w w' : World) (a bo bf : Nat) (t t' : Tab) : Prop :=
  ∃ bo' bf', TabAt w' a bo' bf' t' ∧ Upd (tabF a bo bf t) w w' ∧ FromF (tabF a bo bf t) (tabF a bo' bf' t') w

/-- a number is stored in the fresh row; in the old one. -/
theorem numFresh {w : World} {a bo bf i : Nat} {t : Tab} {n : Int} (h : TabAt w a bo bf t) (hm : t.moving = true) (hi : i < t.fresh.pl.length) :
    TabAt (w.setCell ⟨bf, i * 3 + 2, none⟩ (.int .i64 n)) a bo bf { t with fresh := t.fresh.num i n } ∧ Upd (tabF a bo bf t) w (w.setCell ⟨bf, i * 3 + 2, none⟩ (.int .i64 n)) := by
  have nf := h.nf hm
  have hU : Upd (fun k => k = a ∨ k = bf) w (w.setCell ⟨bf, i * 3 + 2, none⟩ (.int .i64 n)) := (Upd.refl (fun k => k = a ∨ k = bf) w).set (fun _ => Or.inr rfl)
  refine ⟨h.setFresh hm _ ?_ ((h.fresh hm).number i n hi) hU, updFresh hm hU⟩
  have e : rowc bf (t.fresh.num i n) = rowc bf t.fresh := by simp [rowc, Tbl.Row.num]
  rw [e]
  exact (h.bf hm).set_other nf.1
theorem numOld {w : World} {a bo bf i : Nat} {t : Tab} {n : Int} (h : TabAt w a bo bf t) (hi : i < t.old.pl.length) :
    TabAt (w.setCell ⟨bo, i * 3 + 2, none⟩ (.int .i64 n)) a bo bf { t with old := t.old.num i n } ∧ Upd (tabF a bo bf t) w (w.setCell ⟨bo, i * 3 + 2, none⟩ (.int .i64 n)) := by
  have hU : Upd (fun k => k = a ∨ k = bo) w (w.setCell ⟨bo, i * 3 + 2, none⟩ (.int .i64 n)) := (Upd.refl (fun k => k = a ∨ k = bo) w).set (fun _ => Or.inr rfl)
  refine ⟨h.setOld _ ?_ (h.old.number i n hi) hU, updOld hU⟩
  have e : rowc bo (t.old.num i n) = rowc bo t.old := by simp [rowc, Tbl.Row.num]
  rw [e]
  exact h.bo.set_other h.ne

set_option maxHeartbeats 2000000 in
theorem tput_any (m a bo bf : Nat) (t : Tab) (key : ByteArray) (n : Int) (w : World) (h : TabAt w a bo bf t) (hi : t.Inv m) (hm : m ≤ 10000) (hk : key.size ≤ 100000) :
    Calls Tryz.prog 50 #[.pointer (some ⟨a, 0, none⟩), .string key, .int .i64 n] w fun e w' => e = .returned (.bool (t.put key n).2) ∧ TabTo w w' a bo bf t (t.put key n).1 := by
  have hkm : key.size ≤ maxLen := by unfold maxLen; omega
  have I1 := Lib.hid (Tbl.step_inv hi)
  have S := Lib.hid (step_any m a bo bf t w h hi hm)
  clear h hi
  show Calls _ _ _ _ fun e w' => e = .returned (.bool (t.step.put2 key n).2) ∧ TabTo w w' a bo bf t (t.step.put2 key n).1
  generalize t.step = t1 at *
  have G := Lib.hid (Tbl.grow_spec I1.out)
  go_enter Tryz.func50, Tryz.ntmps50
  go_wp2_with fail
  refine S.out.mono ?_
  rintro e w1 ⟨rfl, bo1, bf1, h1, u1, f1⟩
  have U1 := Lib.hid u1
  have F1 := Lib.hid f1
  have A := Lib.hid (at_any m a bo1 bf1 t1 key w1 h1 I1.out hm hkm)
  have H1 := Lib.hid h1
  clear S h1 u1 f1
  go_wp2_with fail
  refine A.out.mono ?_
  rintro e w2 ⟨rfl, nq, rfl⟩
  clear A
  cases hat : t1.at key with
  | none =>
    have HAT := Lib.hid hat
    clear hat
    unfold atVal
    go_wp2_with fail
    have hf := I1.out.of
    have hh := I1.out.hi
    have hl := I1.out.lo
    refine (grow_any a bo1 bf1 t1 (w1.drewN nq) (H1.out.drewN nq) hf.1 (by omega) hf.2.1 (by omega) (by omega)).mono ?_
    rintro e w3 ⟨rfl, bf3, h3, u3, k3⟩
    have H3 := Lib.hid h3
    have U3 := Lib.hid (u3.weaken (F := tabF a bo1 bf1 t1) (fun i _ hi => hi ▸ Or.inl rfl))
    have K3 := Lib.hid k3
    have c6 := h3.m
    clear hf hh hl h3 u3 k3
    by_cases hg : t1.grow.moving = true
    · obtain ⟨g1, g2, g3, g4⟩ := G.out
      obtain ⟨m1, m2, m3, m4⟩ := g3 hg
      have q1 := m2.full
      have q2 := m2.graves
      have q3 := Tbl.cf_le t1.grow.fresh.pl
      have q4 := Tbl.cg_le t1.grow.fresh.pl
      have P := Lib.hid (putFresh_any a bo1 bf3 t1.grow key n w3 H3.out hg hkm (by omega) (by omega) (Tbl.find_some _ _ (by omega) m1) (by omega) (by omega) (by omega) (by omega))
      have E : Hid (t1.put2 key n = ({ t1.grow with fresh := t1.grow.fresh.put key n }, true)) := by
        show t1.put2 key n = _
        unfold Tab.put2; rw [HAT.out]; simp only; rw [if_pos hg]
      have HG := Lib.hid hg
      rw [hg] at c6
      clear g1 g2 g3 g4 m1 m2 m3 m4 q1 q2 q3 q4 hg
      go_wp2_with fail
      refine P.out.mono ?_
      rintro e w4 ⟨rfl, h4, u4⟩
      go_wp2
      go_ret
      rw [E.out]
      have FF : FromF (tabF a bo bf t) (tabF a bo1 bf3 t1.grow) w := by
        rintro k (rfl | rfl | ⟨_, rfl⟩)
        · exact Or.inl (Or.inl rfl)
        · exact F1.out _ (Or.inr (Or.inl rfl))
        · rcases K3.out HG.out with ⟨k1, rfl⟩ | k1
          · exact F1.out _ (Or.inr (Or.inr ⟨k1, rfl⟩))
          · right; have := U1.out.size; simp at k1; omega
      refine ⟨rfl, bo1, bf3, h4, FF.lift (F1.out.lift U1.out (((Upd.refl (tabF a bo1 bf1 t1) _).drewN nq).trans U3.out (fun _ _ h => h))) u4, FF⟩
    · have hg : t1.grow.moving = false := by simpa using hg
      obtain ⟨g1, g2, g3, g4⟩ := G.out
      obtain ⟨e1, e2, e3⟩ := g4 hg
      rw [hg] at c6
      have hf := I1.out.of
      have hh := I1.out.hi
      have hl := I1.out.lo
      have h3' := H3.out
      rw [e1] at h3'
      have P := Lib.hid (putOld_any a bo1 bf3 t1 key n w3 h3' hkm (by omega) (by omega) (Tbl.find_some _ _ (by omega) e3) hf.1 (by omega) hf.2.1 (by omega))
      have E : Hid (t1.put2 key n = ({ t1 with old := t1.old.put key n }, true)) := by
        show t1.put2 key n = _
        unfold Tab.put2; rw [HAT.out]; simp only; rw [if_neg (by rw [hg]; simp), e1]
      have HG := Lib.hid e2
      clear g1 g2 g3 g4 e1 e2 e3 hg hf hh hl h3'
      go_wp2_with fail
      refine P.out.mono ?_
      rintro e w4 ⟨rfl, h4, u4⟩
      go_wp2
      go_ret
      rw [E.out]
      have FF : FromF (tabF a bo bf t) (tabF a bo1 bf3 t1) w := by
        rintro k (rfl | rfl | ⟨hk, rfl⟩)
        · exact Or.inl (Or.inl rfl)
        · exact F1.out _ (Or.inr (Or.inl rfl))
        · rw [HG.out] at hk; cases hk
      refine ⟨rfl, bo1, bf3, h4, FF.lift (F1.out.lift U1.out (((Upd.refl (tabF a bo1 bf1 t1) _).drewN nq).trans U3.out (fun _ _ h => h))) u4, FF⟩
  | some x =>
    obtain ⟨b, i⟩ := x
    cases b
    · obtain ⟨a1, a2, a3, a4, a5, a6⟩ := Tbl.at_old hat
      have l1 := I1.out.hi
      have HAT := Lib.hid hat
      have c0 := H1.out.o0
      have p2 := H1.out.old.num i a4
      have fb := Blk.free H1.out.old
      clear a1 a2 a3 a5 a6 hat
      unfold atVal
      go_wp2
      go_ret
      have E : t1.put2 key n = ({ t1 with old := t1.old.num i n }, false) := by
        unfold Tab.put2; rw [HAT.out]
      rw [E]
      have N := numOld (n := n) (H1.out.drewN nq) a4
      exact ⟨rfl, bo1, bf1, N.1, F1.out.lift U1.out (((Upd.refl (tabF a bo1 bf1 t1) _).drewN nq).trans N.2 (fun _ _ h => h)), F1.out⟩
    · obtain ⟨a1, a2, a3, a4, a5, a6⟩ := Tbl.at_fresh hat
      have hmv := I1.out.moving_of a1
      have l1 := I1.out.hi2
      have HAT := Lib.hid hat
      have c0 := H1.out.f0 hmv
      have p2 := (H1.out.fresh hmv).num i a4
      have fb := Blk.free (H1.out.fresh hmv)
      have HM := Lib.hid hmv
      clear a1 a2 a3 a5 a6 hat hmv
      unfold atVal
      go_wp2
      go_ret
      have E : t1.put2 key n = ({ t1 with fresh := t1.fresh.num i n }, false) := by
        unfold Tab.put2; rw [HAT.out]
      rw [E]
      have N := numFresh (n := n) (H1.out.drewN nq) HM.out a4
      exact ⟨rfl, bo1, bf1, N.1, F1.out.lift U1.out (((Upd.refl (tabF a bo1 bf1 t1) _).drewN nq).trans N.2 (fun _ _ h => h)), F1.out⟩

set_option maxHeartbeats 2000000 in
theorem tget_any (m a bo bf : Nat) (t : Tab) (key : ByteArray) (w : World) (h : TabAt w a bo bf t) (hi : t.Inv m) (hm : m ≤ 10000) (hk : key.size ≤ 100000) :
    Calls Tryz.prog 70 #[.pointer (some ⟨a, 0, none⟩), .string key] w fun e w' => e = .returned (.tuple #[.int .i64 (t.get key).2.1, .bool (t.get key).2.2]) ∧ TabTo w w' a bo bf t (t.get key).1 := by
  have hkm : key.size ≤ maxLen := by unfold maxLen; omega
  have I1 := Lib.hid (Tbl.step_inv hi)
  have S := Lib.hid (step_any m a bo bf t w h hi hm)
  clear h hi
  show Calls _ _ _ _ fun e w' => e = .returned (.tuple #[.int .i64 (t.step.look key).1, .bool (t.step.look key).2]) ∧ TabTo w w' a bo bf t t.step
  generalize t.step = t1 at *
  go_enter Tryz.func70, Tryz.ntmps70
  go_wp2_with fail
  refine S.out.mono ?_
  rintro e w1 ⟨rfl, bo1, bf1, h1, u1, f1⟩
  have U1 := Lib.hid u1
  have F1 := Lib.hid f1
  have A := Lib.hid (at_any m a bo1 bf1 t1 key w1 h1 I1.out hm hkm)
  have H1 := Lib.hid h1
  clear S h1 u1 f1
  go_wp2_with fail
  refine A.out.mono ?_
  rintro e w2 ⟨rfl, nq, rfl⟩
  clear A
  cases hat : t1.at key with
  | none =>
    have HAT := Lib.hid hat
    clear hat
    unfold atVal
    go_wp2
    go_ret2
    have E : t1.look key = (0, false) := by unfold Tab.look; rw [HAT.out]
    exact ⟨ret_ib E.symm, bo1, bf1, H1.out.drewN nq, U1.out.drewN nq, F1.out⟩
  | some x =>
    obtain ⟨b, i⟩ := x
    cases b
    · obtain ⟨a1, a2, a3, a4, a5, a6⟩ := Tbl.at_old hat
      have l1 := I1.out.hi
      have HAT := Lib.hid hat
      have c0 := H1.out.o0
      have p2 := H1.out.old.num i a4
      clear a1 a2 a3 a5 a6 hat
      unfold atVal
      go_wp2
      go_ret2
      have E : t1.look key = ((t1.old.pl.getD i default).n, true) := by unfold Tab.look; rw [HAT.out]
      exact ⟨ret_ib (by rw [E, Tbl.getD_lt _ _ a4]), bo1, bf1, H1.out.drewN nq, U1.out.drewN nq, F1.out⟩
    · obtain ⟨a1, a2, a3, a4, a5, a6⟩ := Tbl.at_fresh hat
      have hmv := I1.out.moving_of a1
      have l1 := I1.out.hi2
      have HAT := Lib.hid hat
      have c0 := H1.out.f0 hmv
      have p2 := (H1.out.fresh hmv).num i a4
      clear a1 a2 a3 a5 a6 hat hmv
      unfold atVal
      go_wp2
      go_ret2
      have E : t1.look key = ((t1.fresh.pl.getD i default).n, true) := by unfold Tab.look; rw [HAT.out]
      exact ⟨ret_ib (by rw [E, Tbl.getD_lt _ _ a4]), bo1, bf1, H1.out.drewN nq, U1.out.drewN nq, F1.out⟩

set_option maxHeartbeats 2000000 in
theorem tdrop_any (m a bo bf : Nat) (t : Tab) (key : ByteArray) (w : World) (h : TabAt w a bo bf t) (hi : t.Inv m) (hm : m ≤ 10000) (hk : key.size ≤ 100000) :
    Calls Tryz.prog 106 #[.pointer (some ⟨a, 0, none⟩), .string key] w fun e w' => e = .returned (.tuple #[.int .i64 (t.drop key).2.1, .bool (t.drop key).2.2]) ∧ TabTo w w' a bo bf t (t.drop key).1 := by
  have hkm : key.size ≤ maxLen := by unfold maxLen; omega
  have I1 := Lib.hid (Tbl.step_inv hi)
  have S := Lib.hid (step_any m a bo bf t w h hi hm)
  clear h hi
  show Calls _ _ _ _ fun e w' => e = .returned (.tuple #[.int .i64 (t.step.look key).1, .bool (t.step.look key).2]) ∧ TabTo w w' a bo bf t (t.step.cut key)
  generalize t.step = t1 at *
  go_enter Tryz.func106, Tryz.ntmps106
  go_wp2_with fail
  refine S.out.mono ?_
  rintro e w1 ⟨rfl, bo1, bf1, h1, u1, f1⟩
  have U1 := Lib.hid u1
  have F1 := Lib.hid f1
  have A := Lib.hid (at_any m a bo1 bf1 t1 key w1 h1 I1.out hm hkm)
  have H1 := Lib.hid h1
  clear S h1 u1 f1
  go_wp2_with fail
  refine A.out.mono ?_
  rintro e w2 ⟨rfl, nq, rfl⟩
  clear A
  cases hat : t1.at key with
  | none =>
    have HAT := Lib.hid hat
    clear hat
    unfold atVal
    go_wp2
    go_ret2
    have E : t1.look key = (0, false) := by unfold Tab.look; rw [HAT.out]
    have E2 : t1.cut key = t1 := by unfold Tab.cut; rw [HAT.out]
    rw [E2]
    exact ⟨ret_ib E.symm, bo1, bf1, H1.out.drewN nq, U1.out.drewN nq, F1.out⟩
  | some x =>
    obtain ⟨b, i⟩ := x
    cases b
    · obtain ⟨a1, a2, a3, a4, a5, a6⟩ := Tbl.at_old hat
      have l1 := I1.out.hi
      have HAT := Lib.hid hat
      have c0 := H1.out.o0
      have p2 := H1.out.old.num i a4
      have hf := I1.out.of
      have P := Lib.hid (buryOld_any a bo1 bf1 i t1 _ (H1.out.drewN nq) a4 (by omega) hf.1 (by omega) hf.2.1 (by omega))
      clear a1 a2 a3 a5 a6 hat hf
      unfold atVal
      go_wp2_with fail
      refine P.out.mono ?_
      rintro e w4 ⟨rfl, h4, u4⟩
      go_wp2
      go_ret2
      have E : t1.look key = ((t1.old.pl.getD i default).n, true) := by unfold Tab.look; rw [HAT.out]
      have E2 : t1.cut key = { t1 with old := t1.old.bury i } := by unfold Tab.cut; rw [HAT.out]
      rw [E2]
      exact ⟨ret_ib (by rw [E, Tbl.getD_lt _ _ a4]), bo1, bf1, h4, F1.out.lift (U1.out.drewN nq) u4, F1.out⟩
    · obtain ⟨a1, a2, a3, a4, a5, a6⟩ := Tbl.at_fresh hat
      have hmv := I1.out.moving_of a1
      have l1 := I1.out.hi2
      have HAT := Lib.hid hat
      have c0 := H1.out.f0 hmv
      have p2 := (H1.out.fresh hmv).num i a4
      have hf := I1.out.ff
      have P := Lib.hid (buryFresh_any a bo1 bf1 i t1 _ (H1.out.drewN nq) hmv a4 (by omega) hf.1 (by omega) hf.2.1 (by omega))
      clear a1 a2 a3 a5 a6 hat hmv hf
      unfold atVal
      go_wp2_with fail
      refine P.out.mono ?_
      rintro e w4 ⟨rfl, h4, u4⟩
      go_wp2
      go_ret2
      have E : t1.look key = ((t1.fresh.pl.getD i default).n, true) := by unfold Tab.look; rw [HAT.out]
      have E2 : t1.cut key = { t1 with fresh := t1.fresh.bury i } := by unfold Tab.cut; rw [HAT.out]
      rw [E2]
      exact ⟨ret_ib (by rw [E, Tbl.getD_lt _ _ a4]), bo1, bf1, h4, F1.out.lift (U1.out.drewN nq) u4, F1.out⟩
end Go.Proofs.YtgdenmddbgcacaaGreatDoor
