/- Walks: Step. -/
import Derived.Test.YtbkhpdmadhhdoaaTabD
import Derived.Test.YtbkhpdmadhhdoaaTblInv
import Derived.StillTailTactics
import Derived.Deep.RegionWith
set_option linter.unusedVariables false
set_option linter.unusedSimpArgs false
namespace Go.Proofs.Ytbkhpdmadhhdoaa
open Go.RowKit
open Tbl (Pl findGo home fnv Tab)

theorem TabAt.bo {w : World} {a bo bf : Nat} {t : Tab} (h : TabAt w a bo bf t) : Blk w a ([] ++ rowc bo t.old ++ (freshc bf t ++ [.bool t.moving, .int .i64 (t.next : Int)])) 50 := by
  have := h.blk; unfold tabc at this; rw [List.append_assoc] at this; exact this
theorem TabAt.bf {w : World} {a bo bf : Nat} {t : Tab} (h : TabAt w a bo bf t) (hm : t.moving = true) : Blk w a (rowc bo t.old ++ rowc bf t.fresh ++ [.bool t.moving, .int .i64 (t.next : Int)]) 50 := by
  have := h.blk; unfold tabc freshc at this; rw [if_pos hm] at this; exact this
theorem TabAt.setOld {w w' : World} {a bo bf : Nat} {t : Tab} (h : TabAt w a bo bf t) (r : Tbl.Row) (hb : Blk w' a ([] ++ rowc bo r ++ (freshc bf t ++ [.bool t.moving, .int .i64 (t.next : Int)])) 50)
    (hp : PlAt w' bo r.pl) (u : Upd (fun k => k = a ∨ k = bo) w w') : TabAt w' a bo bf { t with old := r } := by
  refine ⟨?_, hp, fun hm => u.blk (h.fresh hm) ?_, h.ne, h.nf, h.rest⟩
  · unfold tabc; rw [List.append_assoc]; exact hb
  · have := h.nf hm
    rintro (e | e)
    · exact this.1 e.symm
    · exact this.2 e.symm
theorem TabAt.setFresh {w w' : World} {a bo bf : Nat} {t : Tab} (h : TabAt w a bo bf t) (hm : t.moving = true) (r : Tbl.Row) (hb : Blk w' a (rowc bo t.old ++ rowc bf r ++ [.bool t.moving, .int .i64 (t.next : Int)]) 50)
    (hp : PlAt w' bf r.pl) (u : Upd (fun k => k = a ∨ k = bf) w w') : TabAt w' a bo bf { t with fresh := r } := by
  refine ⟨?_, u.blk h.old ?_, fun _ => hp, h.ne, h.nf, fun h2 => by rw [hm] at h2; cases h2⟩
  · unfold tabc freshc; rw [if_pos hm]; exact hb
  · have := h.nf hm
    rintro (e | e)
    · exact h.ne e.symm
    · exact this.2 e
theorem updOld {w w' : World} {a bo bf : Nat} {t : Tab} (u : Upd (fun k => k = a ∨ k = bo) w w') : Upd (tabF a bo bf t) w w' :=
  u.weaken fun i _ h => by rcases h with h | h <;> simp [tabF, h]
theorem updFresh {w w' : World} {a bo bf : Nat} {t : Tab} (hm : t.moving = true) (u : Upd (fun k => k = a ∨ k = bf) w w') : Upd (tabF a bo bf t) w w' :=
  u.weaken fun i _ h => by rcases h with h | h <;> simp [tabF, h, hm]

theorem TabAt.lt {w : World} {a bo bf : Nat} {t : Tab} (h : TabAt w a bo bf t) (k : Nat) (hk : tabF a bo bf t k) : k < w.heap.size := by
  rcases hk with rfl | rfl | ⟨hm, rfl⟩
  · exact h.blk.lt
  · exact Blk.lt h.old
  · exact Blk.lt (h.fresh hm)

theorem buryOld_any (a bo bf i : Nat) (t : Tab) (w : World) (h : TabAt w a bo bf t) (hi2 : i < t.old.pl.length) (hm : t.old.pl.length ≤ 1000000)
    (hfu : 0 ≤ t.old.full) (hfu' : t.old.full ≤ 1000000) (hgr : 0 ≤ t.old.graves) (hgr' : t.old.graves ≤ 1000000) :
    Calls Try.prog 24 #[.pointer (some ⟨a, 0, none⟩), .int .i64 (i : Int)] w fun e w' =>
      e = .returned (.tuple #[]) ∧ TabAt w' a bo bf { t with old := t.old.bury i } ∧ Upd (tabF a bo bf t) w w' :=
  (bury_any a 0 bo i [] _ t.old w _ h.bo rfl h.old h.ne hi2 hm hfu hfu' hgr hgr').mono fun _ _ ⟨e, b, p, u⟩ => ⟨e, h.setOld _ b p u, updOld u⟩
theorem buryFresh_any (a bo bf i : Nat) (t : Tab) (w : World) (h : TabAt w a bo bf t) (mv : t.moving = true) (hi2 : i < t.fresh.pl.length) (hm : t.fresh.pl.length ≤ 1000000)
    (hfu : 0 ≤ t.fresh.full) (hfu' : t.fresh.full ≤ 1000000) (hgr : 0 ≤ t.fresh.graves) (hgr' : t.fresh.graves ≤ 1000000) :
    Calls Try.prog 24 #[.pointer (some ⟨a, 3, none⟩), .int .i64 (i : Int)] w fun e w' =>
      e = .returned (.tuple #[]) ∧ TabAt w' a bo bf { t with fresh := t.fresh.bury i } ∧ Upd (tabF a bo bf t) w w' :=
  (bury_any a 3 bf i _ _ t.fresh w _ (h.bf mv) rfl (h.fresh mv) (h.nf mv).1 hi2 hm hfu hfu' hgr hgr').mono fun _ _ ⟨e, b, p, u⟩ => ⟨e, h.setFresh mv _ b p u, updFresh mv u⟩
theorem putOld_any (a bo bf : Nat) (t : Tab) (key : ByteArray) (n : Int) (w : World) (h : TabAt w a bo bf t) (hk : key.size ≤ maxLen) (h0 : 0 < t.old.pl.length) (hm : t.old.pl.length ≤ 1000000) (hf : 0 ≤ (Tbl.find t.old.pl key).1)
    (hfu : 0 ≤ t.old.full) (hfu' : t.old.full ≤ 1000000) (hgr : 0 ≤ t.old.graves) (hgr' : t.old.graves ≤ 1000000) :
    Calls Try.prog 23 #[.pointer (some ⟨a, 0, none⟩), .string key, .int .i64 n] w fun e w' =>
      e = .returned (.tuple #[]) ∧ TabAt w' a bo bf { t with old := t.old.put key n } ∧ Upd (tabF a bo bf t) w w' :=
  (put_any a 0 bo [] _ t.old key n w _ h.bo rfl h.old h.ne hk h0 hm hf hfu hfu' hgr hgr').mono fun _ _ ⟨e, b, p, u⟩ => ⟨e, h.setOld _ b p u, updOld u⟩
theorem putFresh_any (a bo bf : Nat) (t : Tab) (key : ByteArray) (n : Int) (w : World) (h : TabAt w a bo bf t) (mv : t.moving = true) (hk : key.size ≤ maxLen) (h0 : 0 < t.fresh.pl.length) (hm : t.fresh.pl.length ≤ 1000000) (hf : 0 ≤ (Tbl.find t.fresh.pl key).1)
    (hfu : 0 ≤ t.fresh.full) (hfu' : t.fresh.full ≤ 1000000) (hgr : 0 ≤ t.fresh.graves) (hgr' : t.fresh.graves ≤ 1000000) :
    Calls Try.prog 23 #[.pointer (some ⟨a, 3, none⟩), .string key, .int .i64 n] w fun e w' =>
      e = .returned (.tuple #[]) ∧ TabAt w' a bo bf { t with fresh := t.fresh.put key n } ∧ Upd (tabF a bo bf t) w w' :=
  (put_any a 3 bf _ _ t.fresh key n w _ (h.bf mv) rfl (h.fresh mv) (h.nf mv).1 hk h0 hm hf hfu hfu' hgr hgr').mono fun _ _ ⟨e, b, p, u⟩ => ⟨e, h.setFresh mv _ b p u, updFresh mv u⟩

theorem steps_still (k : Nat) (t : Tab) (h : t.moving = false) : t.steps k = t := by
  cases k with
  | zero => rfl
  | succ k => rw [Tab.steps, if_neg (by simp [h])]
theorem step_last {w W : World} {a bo bf : Nat} {u : Tab} {cs : List Value} (h : TabAt w a bo bf u) (hm : u.moving = true) (hB : Blk W a cs 50) (hU : Upd (fun k => k = a) w W)
    (hcs : cs = tabc bf 0 ⟨u.fresh, Tbl.none, false, 0⟩) : TabAt W a bf 0 ⟨u.fresh, Tbl.none, false, 0⟩ := by
  subst hcs
  have := h.nf hm
  exact ⟨hB, hU.blk (h.fresh hm) (Ne.symm this.1), fun h => (by cases h), this.1, fun h => (by cases h), fun _ => ⟨rfl, rfl⟩⟩
theorem step_next {w W : World} {a bo bf n : Nat} {u : Tab} {cs : List Value} (h : TabAt w a bo bf u) (hm : u.moving = true) (hB : Blk W a cs 50) (hU : Upd (fun k => k = a) w W)
    (hcs : cs = tabc bo bf { u with next := n }) : TabAt W a bo bf { u with next := n } := by
  subst hcs
  have := h.nf hm
  exact ⟨hB, hU.blk h.old (Ne.symm h.ne), fun _ => hU.blk (h.fresh hm) (Ne.symm this.1), h.ne, h.nf, fun h2 => by rw [show ({ u with next := n } : Tab).moving = u.moving from rfl, hm] at h2; cases h2⟩
theorem sets_last (bo bf : Nat) (u : Tab) (hm : u.moving = true) (n : Int) :
    (((((((((tabc bo bf u).set 7 (.int .i64 n)).set 0 (.slice (some ⟨bf, 0, none⟩) u.fresh.pl.length u.fresh.pl.length)).set 1 (.int .i64 u.fresh.full)).set 2 (.int .i64 u.fresh.graves)).set 3 (.slice none 0 0)).set 4 (.int .i64 0)).set 5 (.int .i64 0)).set 6 (.bool false)).set 7 (.int .i64 0) = tabc bf 0 ⟨u.fresh, Tbl.none, false, 0⟩ := by
  simp [tabc, rowc, freshc, hm, Tbl.none]
theorem sets_next (bo bf : Nat) (u : Tab) (hm : u.moving = true) (n : Nat) : (tabc bo bf u).set 7 (.int .i64 (n : Int)) = tabc bo bf { u with next := n } := by
  simp [tabc, rowc, freshc, hm]

theorem last_any {w : World} {a bo bf : Nat} {u : Tab} (h : TabAt w a bo bf u) (hm : u.moving = true) (n : Int) (nq : Nat) :
    TabAt ((((((((((w.setCell ⟨a, 7, none⟩ (.int .i64 n)).drewN nq).setCell ⟨a, 0, none⟩ (.slice (some ⟨bf, 0, none⟩) u.fresh.pl.length u.fresh.pl.length)).setCell ⟨a, 1, none⟩ (.int .i64 u.fresh.full)).setCell ⟨a, 2, none⟩ (.int .i64 u.fresh.graves)).setCell ⟨a, 3, none⟩ (.slice none 0 0)).setCell ⟨a, 4, none⟩ (.int .i64 0)).setCell ⟨a, 5, none⟩ (.int .i64 0)).setCell ⟨a, 6, none⟩ (.bool false)).setCell ⟨a, 7, none⟩ (.int .i64 0)) a bf 0 ⟨u.fresh, Tbl.none, false, 0⟩ ∧ Upd (fun k => k = a) w ((((((((((w.setCell ⟨a, 7, none⟩ (.int .i64 n)).drewN nq).setCell ⟨a, 0, none⟩ (.slice (some ⟨bf, 0, none⟩) u.fresh.pl.length u.fresh.pl.length)).setCell ⟨a, 1, none⟩ (.int .i64 u.fresh.full)).setCell ⟨a, 2, none⟩ (.int .i64 u.fresh.graves)).setCell ⟨a, 3, none⟩ (.slice none 0 0)).setCell ⟨a, 4, none⟩ (.int .i64 0)).setCell ⟨a, 5, none⟩ (.int .i64 0)).setCell ⟨a, 6, none⟩ (.bool false)).setCell ⟨a, 7, none⟩ (.int .i64 0)) := by
  have hU : Upd (fun k => k = a) w ((((((((((w.setCell ⟨a, 7, none⟩ (.int .i64 n)).drewN nq).setCell ⟨a, 0, none⟩ (.slice (some ⟨bf, 0, none⟩) u.fresh.pl.length u.fresh.pl.length)).setCell ⟨a, 1, none⟩ (.int .i64 u.fresh.full)).setCell ⟨a, 2, none⟩ (.int .i64 u.fresh.graves)).setCell ⟨a, 3, none⟩ (.slice none 0 0)).setCell ⟨a, 4, none⟩ (.int .i64 0)).setCell ⟨a, 5, none⟩ (.int .i64 0)).setCell ⟨a, 6, none⟩ (.bool false)).setCell ⟨a, 7, none⟩ (.int .i64 0)) :=
    ((((((((((Upd.refl (fun k => k = a) w).set (fun _ => rfl)).drewN _).set (fun _ => rfl)).set (fun _ => rfl)).set (fun _ => rfl)).set (fun _ => rfl)).set (fun _ => rfl)).set (fun _ => rfl)).set (fun _ => rfl)).set (fun _ => rfl)
  refine ⟨step_last h hm ?_ hU (sets_last bo bf u hm n), hU⟩
  exact ((((((((((h.blk.set _ _).drewN _).set _ _).set _ _).set _ _).set _ _).set _ _).set _ _).set _ _).set _ _)
theorem next_any {w : World} {a bo bf : Nat} {u : Tab} (h : TabAt w a bo bf u) (hm : u.moving = true) (n nq : Nat) :
    TabAt ((w.setCell ⟨a, 7, none⟩ (.int .i64 ((n : Int) + 1))).drewN nq) a bo bf { u with next := n + 1 } ∧ Upd (fun k => k = a) w ((w.setCell ⟨a, 7, none⟩ (.int .i64 ((n : Int) + 1))).drewN nq) := by
  have hU : Upd (fun k => k = a) w ((w.setCell ⟨a, 7, none⟩ (.int .i64 ((n : Int) + 1))).drewN nq) := ((Upd.refl (fun k => k = a) w).set (fun _ => rfl)).drewN _
  refine ⟨step_next h hm ?_ hU (sets_next bo bf u hm (n + 1)), hU⟩
  exact (h.blk.set _ _).drewN _

set_option maxHeartbeats 2000000 in
theorem step_any (m a bo bf : Nat) (t : Tab) (w : World) (h : TabAt w a bo bf t) (hi : t.Inv m) (hm : m ≤ 10000) :
    Calls Try.prog 14 #[.pointer (some ⟨a, 0, none⟩)] w fun e w' => e = .returned (.tuple #[]) ∧ ∃ bo' bf', TabAt w' a bo' bf' t.step ∧ Upd (tabF a bo bf t) w w' ∧ FromF (tabF a bo bf t) (tabF a bo' bf' t.step) w := by
  by_cases hmv : t.moving = true
  · have cm := h.m
    rw [hmv] at cm
    have H := Lib.hid h
    have HM := Lib.hid hmv
    have HI := Lib.hid hi
    clear h hmv hi
    go_enter Try.func14, Try.ntmps14
    go_wp2
    go_loopw [8] (fun c wr => ∃ (k : Nat) (t1 : Tab) (bo1 bf1 : Nat), k ≤ 4 ∧ c = .int .i64 (k : Int) ∧ Hid (TabAt wr a bo1 bf1 t1) ∧ Hid (t1.Inv m) ∧ Hid (t1.moving = true) ∧ Hid (t.step = t1.steps (4 - k)) ∧ Hid (Upd (tabF a bo bf t) w wr) ∧ Hid (FromF (tabF a bo bf t) (tabF a bo1 bf1 t1) w)) (fun c _ => 4 - (intOf c).toNat)
    case atStart => exact ⟨0, t, bo, bf, by omega, rfl, H.out, HI.out, HM.out, rfl, Upd.refl _ _, fun k hk => Or.inl hk⟩
    case round =>
      obtain ⟨k, t1, bo1, bf1, hk, rfl, H1, I1, M1, S1, U1, F1⟩ := hrel
      by_cases hlt : k < 4
      · have mv := I1.out.mv M1.out
        have c0 := H1.out.o0
        have cx := H1.out.x
        have p0 := H1.out.old.st t1.next mv.2.1
        have p1 := H1.out.old.key t1.next mv.2.1
        have p2 := H1.out.old.num t1.next mv.2.1
        have hx : t1.next < t1.old.pl.length := mv.2.1
        have hl := I1.out.hi
        have la := H1.out.blk.lt
        have lb := Blk.lt H1.out.old
        clear mv
        obtain ⟨q, hq0⟩ : ∃ q, t1.old.pl.getD t1.next default = q := ⟨_, rfl⟩
        rw [hq0] at p0 p1 p2
        have HQ := Lib.hid hq0
        clear hq0
        go_wp2
        go_region
        have HA : Hid (TabAt (World.drew (wr.alloc (.cells #[.int .i64 q.st, .string q.key, .int .i64 q.n] 55))) a bo1 bf1 t1) :=
          H1.out.keep (G := fun _ => False) (((Upd.refl _ _).alloc _).drew) (fun _ _ => id)
        have HP : Hid (Blk (World.drew (wr.alloc (.cells #[.int .i64 q.st, .string q.key, .int .i64 q.n] 55))) wr.heap.size [.int .i64 q.st, .string q.key, .int .i64 q.n] 55) := Blk.made wr _ _
        have HU : Hid (Upd (tabF a bo bf t) w (World.drew (wr.alloc (.cells #[.int .i64 q.st, .string q.key, .int .i64 q.n] 55)))) := (U1.out.alloc _).drew
        have HS : wr.heap.size < (World.drew (wr.alloc (.cells #[.int .i64 q.st, .string q.key, .int .i64 q.n] 55))).heap.size := Blk.lt HP.out
        generalize World.drew (wr.alloc (.cells #[.int .i64 q.st, .string q.key, .int .i64 q.n] 55)) = wA at *
        clear c0 cx p0 p1 p2 la lb
        have hp0 : wA.cell? ⟨wr.heap.size, 0, none⟩ = some (.int .i64 q.st) := HP.out.cellAt rfl
        have hp1 : wA.cell? ⟨wr.heap.size, 1, none⟩ = some (.string q.key) := HP.out.cellAt rfl
        have hp2 : wA.cell? ⟨wr.heap.size, 2, none⟩ = some (.int .i64 q.n) := HP.out.cellAt rfl
        have hx2 := HA.out.x
        by_cases hq : q.st = 1
        case' pos =>
          have hq1 : (q.st == 1) = true := by simp [hq]
          clear hq
          go_wp2
          go_still_tail 7, (by kernel_rfl)
          show wpList _ _ _ _ _ wA.drew
          go_wp2_with fail
          have ho := I1.out.of
          have hl := I1.out.hi
          refine (buryOld_any a bo1 bf1 t1.next t1 _ (HA.out.drewN 1) hx (by omega) ho.1 (by omega) ho.2.1 (by omega)).mono ?_
          rintro e w2 ⟨rfl, hT2, hU2⟩
          have hnp : ¬ tabF a bo1 bf1 t1 wr.heap.size := fun hh => by have := H1.out.lt _ hh; omega
          have hP2 := hU2.blk (HP.out.drewN 1) hnp
          have hp1' : w2.cell? ⟨wr.heap.size, 1, none⟩ = some (.string q.key) := hP2.cellAt rfl
          have hp2' : w2.cell? ⟨wr.heap.size, 2, none⟩ = some (.int .i64 q.n) := hP2.cellAt rfl
          have HT2 := Lib.hid hT2
          have HU2 := Lib.hid ((HU.out.drewN 1).trans hU2 (fun i hi hh => by
            rcases F1.out i hh with g | g
            · exact g
            · omega))
          have HNP := Lib.hid hnp
          clear hT2 hU2 hP2 hnp hp0 hp1 hp2 hx2
          go_wp2
          go_still_tail 7, (by kernel_rfl)
          show wpList _ _ _ _ _ w2.drew
          go_wp2_with fail
          have hf := I1.out.ff
          have hl2 := I1.out.hi2
          have mv := I1.out.mv M1.out
          have hkk : q.key.size ≤ 100000 := by have := Tbl.key_getD I1.out.old.keys t1.next; rw [HQ.out] at this; exact this
          refine (putFresh_any a bo1 bf1 { t1 with old := t1.old.bury t1.next } q.key q.n _ (HT2.out.drewN 1) M1.out (by unfold maxLen; omega) (by simp only; omega) (by simp only; omega) (Tbl.find_some _ _ (by simp only; omega) (I1.out.room M1.out)) hf.1 (by simp only; omega) hf.2.1 (by simp only; omega)).mono ?_
          rintro e w3 ⟨rfl, hT3, hU3⟩
          have hmvd : t1.moved = { t1 with old := t1.old.bury t1.next, fresh := t1.fresh.put q.key q.n } := by
            unfold Tab.moved; simp only [HQ.out]; rw [if_pos (by simpa using hq1)]
          have HT3 : Hid (TabAt w3 a bo1 bf1 t1.moved) := by rw [hmvd]; exact hT3
          have HU3 : Hid (Upd (tabF a bo bf t) w w3) := (HU2.out.drewN 1).trans hU3 (fun i hi hh => by
            rcases F1.out i hh with g | g
            · exact g
            · omega)
          clear hT3 hU3 hmvd HT2 HU2 HU HA HP HS hf hl2 mv hkk hp1' hp2' ho hl
        case' neg =>
          have hq1 : (q.st == 1) = false := by simp [hq]
          have hmvd : t1.moved = t1 := by
            unfold Tab.moved; simp only [HQ.out]; rw [if_neg hq]
          have HT3 : Hid (TabAt wA a bo1 bf1 t1.moved) := by rw [hmvd]; exact HA.out
          have HU3 := HU
          have hu9 : wA.cell? ⟨a, 7, none⟩ = some (.int .i64 (t1.next : Int)) := hx2
          clear hq hmvd HU HA HP HS hp1 hp2 hx2
          obtain ⟨w3, rfl⟩ : ∃ x, x = wA := ⟨_, rfl⟩
        all_goals
          obtain ⟨k1, k2, k3, k4, k5, k6, k7, k8, k9⟩ := Tbl.moved_inv I1.out M1.out
          have d7 := HT3.out.x
          rw [k6] at d7
          have d0 := HT3.out.o0
          rw [k3] at d0
          have d1 := HT3.out.o1
          have d2 := HT3.out.o2
          have d3 := HT3.out.f0 k5
          have d4 := HT3.out.f1
          have d5 := HT3.out.f2
          have d6 := HT3.out.m
          rw [k5] at d6
          have fb := HT3.out.fb
          have hl := I1.out.hi
          have K3 := Lib.hid k3
          have K4 := Lib.hid k4
          have K5 := Lib.hid k5
          have K6 := Lib.hid k6
          clear k1 k2 k3 k4 k5 k6 k7 k8 k9
          go_wp2
          go_quiet (fail)
          go_wp2
          · have he : t1.next + 1 = t1.old.pl.length := by
              have hh : ((t1.next : Int) + 1 == (t1.old.pl.length : Int)) = true := by assumption
              have := beq_iff_eq.1 hh
              omega
            go_returns
            have e1 : t1.one = ⟨t1.moved.fresh, Tbl.none, false, 0⟩ := by unfold Tab.one; simp only; rw [if_pos he]
            have e2 : t.step = ⟨t1.moved.fresh, Tbl.none, false, 0⟩ := by
              rw [S1.out, show 4 - k = (3 - k) + 1 by omega, Tab.steps, if_pos M1.out, e1, steps_still _ _ rfl]
            rw [e2]
            have HL := last_any HT3.out K5.out ((t1.next : Int) + 1) nq
            refine ⟨rfl, bf1, 0, HL.1, HU3.out.trans HL.2 (fun i _ hh => hh ▸ Or.inl rfl), ?_⟩
            intro x hx
            apply F1.out
            rcases hx with rfl | rfl | ⟨hx, _⟩
            · exact Or.inl rfl
            · exact Or.inr (Or.inr ⟨M1.out, rfl⟩)
            · cases hx
          · have he : ¬ t1.next + 1 = t1.old.pl.length := by
              have hh : ((t1.next : Int) + 1 == (t1.old.pl.length : Int)) = false := by assumption
              have := beq_eq_false_iff_ne.1 hh
              omega
            have e1 : t1.one = { t1.moved with next := t1.next + 1 } := by unfold Tab.one; simp only; rw [if_neg he]
            go_roundw
            case rel =>
              have HL := next_any HT3.out K5.out t1.next nq
              refine ⟨k + 1, t1.one, bo1, bf1, by omega, by go_num, by rw [e1]; exact HL.1, Tbl.one_inv I1.out M1.out, by rw [e1]; exact K5.out, ?_, HU3.out.trans HL.2 (fun i _ hh => hh ▸ Or.inl rfl), ?_⟩
              · show t.step = _
                rw [S1.out, show 4 - k = (4 - (k + 1)) + 1 by omega, Tab.steps, if_pos M1.out]
              · intro x hx
                apply F1.out
                rw [e1] at hx
                rcases hx with rfl | rfl | ⟨_, rfl⟩
                · exact Or.inl rfl
                · exact Or.inr (Or.inl rfl)
                · exact Or.inr (Or.inr ⟨M1.out, rfl⟩)
            case measure => simp [intOf]; omega
      · have hk4 : k = 4 := by omega
        subst hk4
        go_wp2
        go_returns
        have e2 : t.step = t1 := S1.out
        rw [e2]
        exact ⟨rfl, bo1, bf1, H1.out, U1.out, F1.out⟩
  · have hmv : t.moving = false := by simpa using hmv
    have cm := h.m
    rw [hmv] at cm
    have e2 : t.step = t := steps_still 4 t hmv
    have E2 := Lib.hid e2
    have H := Lib.hid h
    clear h hmv hi e2
    go_enter Try.func14, Try.ntmps14
    go_wp2
    go_returns
    rw [E2.out]
    exact ⟨rfl, bo, bf, H.out, Upd.refl _ _, fun _ h => Or.inl h⟩
end Go.Proofs.Ytbkhpdmadhhdoaa
