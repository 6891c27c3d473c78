/- Walks: Put, Drop, Get. -/
import Derived.Test.YtbkhpdmadhhdoaaTabF
set_option linter.unusedVariables false
set_option linter.unusedSimpArgs false
namespace Go.Proofs.Ytbkhpdmadhhdoaa
open Go.RowKit
open Tbl (Pl findGo home fnv Tab)

/-- From one table to the next: where it lies, what was written, what is new. -/
def TabTo (w w' : World) (a bo bf : Nat) (t t' : Tab) : Prop :=
  ∃ bo' bf', TabAt w' a bo' bf' t' ∧ Upd (tabF a bo bf t) w w' ∧ FromF (tabF a bo bf t) (tabF a bo' bf' t') w

theorem FromF.trans {F G H : Nat → Prop} {w w1 : World} (h : FromF F G w) (k : FromF G H w1) (hs : w.heap.size ≤ w1.heap.size) : FromF F H w := fun i hi => by
  rcases k i hi with g | g
  · exact h i g
  · exact Or.inr (Nat.le_trans hs g)
theorem FromF.lift {F G : Nat → Prop} {w w1 w2 : World} (h : FromF F G w) (u : Upd F w w1) (k : Upd G w1 w2) : Upd F w w2 :=
  u.trans k fun i hi hg => by
    rcases h i hg with g | g
    · exact g
    · omega
theorem FromF.refl (F : Nat → Prop) (w : World) : FromF F F w := fun _ h => Or.inl h

/-- a number is stored in the fresh row; in the old one. -/
theorem numFresh {w : World} {a bo bf i : Nat} {t : Tab} {n : Int} (h : TabAt w a bo bf t) (hm : t.moving = true) (hi : i < t.fresh.pl.length) :
    TabAt (w.setCell ⟨bf, i * 3 + 2, none⟩ (.int .i64 n)) a bo bf { t with fresh := t.fresh.num i n } ∧ Upd (tabF a bo bf t) w (w.setCell ⟨bf, i * 3 + 2, none⟩ (.int .i64 n)) := by
  have nf := h.nf hm
  have hU : Upd (fun k => k = a ∨ k = bf) w (w.setCell ⟨bf, i * 3 + 2, none⟩ (.int .i64 n)) := (Upd.refl (fun k => k = a ∨ k = bf) w).set (fun _ => Or.inr rfl)
  refine ⟨h.setFresh hm _ ?_ ((h.fresh hm).number i n hi) hU, updFresh hm hU⟩
  have e : rowc bf (t.fresh.num i n) = rowc bf t.fresh := by simp [rowc, Tbl.Row.num]
  rw [e]
  exact (h.bf hm).set_other nf.1
theorem numOld {w : World} {a bo bf i : Nat} {t : Tab} {n : Int} (h : TabAt w a bo bf t) (hi : i < t.old.pl.length) :
    TabAt (w.setCell ⟨bo, i * 3 + 2, none⟩ (.int .i64 n)) a bo bf { t with old := t.old.num i n } ∧ Upd (tabF a bo bf t) w (w.setCell ⟨bo, i * 3 + 2, none⟩ (.int .i64 n)) := by
  have hU : Upd (fun k => k = a ∨ k = bo) w (w.setCell ⟨bo, i * 3 + 2, none⟩ (.int .i64 n)) := (Upd.refl (fun k => k = a ∨ k = bo) w).set (fun _ => Or.inr rfl)
  refine ⟨h.setOld _ ?_ (h.old.number i n hi) hU, updOld hU⟩
  have e : rowc bo (t.old.num i n) = rowc bo t.old := by simp [rowc, Tbl.Row.num]
  rw [e]
  exact h.bo.set_other h.ne

set_option maxHeartbeats 2000000 in
theorem tput_any (m a bo bf : Nat) (t : Tab) (key : ByteArray) (n : Int) (w : World) (h : TabAt w a bo bf t) (hi : t.Inv m) (hm : m ≤ 10000) (hk : key.size ≤ 100000) :
    Calls Try.prog 10 #[.pointer (some ⟨a, 0, none⟩), .string key, .int .i64 n] w fun e w' => e = .returned (.bool (t.put key n).2) ∧ TabTo w w' a bo bf t (t.put key n).1 := by
  have hkm : key.size ≤ maxLen := by unfold maxLen; omega
  have I1 := Lib.hid (Tbl.step_inv hi)
  have S := Lib.hid (step_any m a bo bf t w h hi hm)
  clear h hi
  show Calls _ _ _ _ fun e w' => e = .returned (.bool (t.step.put2 key n).2) ∧ TabTo w w' a bo bf t (t.step.put2 key n).1
  generalize t.step = t1 at *
  have G := Lib.hid (Tbl.grow_spec I1.out)
  go_enter Try.func10, Try.ntmps10
  go_wp2_with fail
  refine S.out.mono ?_
  rintro e w1 ⟨rfl, bo1, bf1, h1, u1, f1⟩
  have U1 := Lib.hid u1
  have F1 := Lib.hid f1
  have A := Lib.hid (at_any m a bo1 bf1 t1 key w1 h1 I1.out hm hkm)
  have H1 := Lib.hid h1
  clear S h1 u1 f1
  go_wp2_with fail
  refine A.out.mono ?_
  rintro e w2 ⟨rfl, nq, rfl⟩
  clear A
  cases hat : t1.at key with
  | none =>
    have HAT := Lib.hid hat
    clear hat
    unfold atVal
    go_wp2_with fail
    have hf := I1.out.of
    have hh := I1.out.hi
    have hl := I1.out.lo
    refine (grow_any a bo1 bf1 t1 (w1.drewN nq) (H1.out.drewN nq) hf.1 (by omega) hf.2.1 (by omega) (by omega)).mono ?_
    rintro e w3 ⟨rfl, bf3, h3, u3, k3⟩
    have H3 := Lib.hid h3
    have U3 := Lib.hid (u3.weaken (F := tabF a bo1 bf1 t1) (fun i _ hi => hi ▸ Or.inl rfl))
    have K3 := Lib.hid k3
    have c6 := h3.m
    clear hf hh hl h3 u3 k3
    by_cases hg : t1.grow.moving = true
    · obtain ⟨g1, g2, g3, g4⟩ := G.out
      obtain ⟨m1, m2, m3, m4⟩ := g3 hg
      have q1 := m2.full
      have q2 := m2.graves
      have q3 := Tbl.cf_le t1.grow.fresh.pl
      have q4 := Tbl.cg_le t1.grow.fresh.pl
      have P := Lib.hid (putFresh_any a bo1 bf3 t1.grow key n w3 H3.out hg hkm (by omega) (by omega) (Tbl.find_some _ _ (by omega) m1) (by omega) (by omega) (by omega) (by omega))
      have E : Hid (t1.put2 key n = ({ t1.grow with fresh := t1.grow.fresh.put key n }, true)) := by
        show t1.put2 key n = _
        unfold Tab.put2; rw [HAT.out]; simp only; rw [if_pos hg]
      have HG := Lib.hid hg
      rw [hg] at c6
      clear g1 g2 g3 g4 m1 m2 m3 m4 q1 q2 q3 q4 hg
      go_wp2_with fail
      refine P.out.mono ?_
      rintro e w4 ⟨rfl, h4, u4⟩
      go_wp2
      go_ret
      rw [E.out]
      have FF : FromF (tabF a bo bf t) (tabF a bo1 bf3 t1.grow) w := by
        rintro k (rfl | rfl | ⟨_, rfl⟩)
        · exact Or.inl (Or.inl rfl)
        · exact F1.out _ (Or.inr (Or.inl rfl))
        · rcases K3.out HG.out with ⟨k1, rfl⟩ | k1
          · exact F1.out _ (Or.inr (Or.inr ⟨k1, rfl⟩))
          · right; have := U1.out.size; simp at k1; omega
      refine ⟨rfl, bo1, bf3, h4, FF.lift (F1.out.lift U1.out (((Upd.refl (tabF a bo1 bf1 t1) _).drewN nq).trans U3.out (fun _ _ h => h))) u4, FF⟩
    · have hg : t1.grow.moving = false := by simpa using hg
      obtain ⟨g1, g2, g3, g4⟩ := G.out
      obtain ⟨e1, e2, e3⟩ := g4 hg
      rw [hg] at c6
      have hf := I1.out.of
      have hh := I1.out.hi
      have hl := I1.out.lo
      have h3' := H3.out
      rw [e1] at h3'
      have P := Lib.hid (putOld_any a bo1 bf3 t1 key n w3 h3' hkm (by omega) (by omega) (Tbl.find_some _ _ (by omega) e3) hf.1 (by omega) hf.2.1 (by omega))
      have E : Hid (t1.put2 key n = ({ t1 with old := t1.old.put key n }, true)) := by
        show t1.put2 key n = _
        unfold Tab.put2; rw [HAT.out]; simp only; rw [if_neg (by rw [hg]; simp), e1]
      have HG := Lib.hid e2
      clear g1 g2 g3 g4 e1 e2 e3 hg hf hh hl h3'
      go_wp2_with fail
      refine P.out.mono ?_
      rintro e w4 ⟨rfl, h4, u4⟩
      go_wp2
      go_ret
      rw [E.out]
      have FF : FromF (tabF a bo bf t) (tabF a bo1 bf3 t1) w := by
        rintro k (rfl | rfl | ⟨hk, rfl⟩)
        · exact Or.inl (Or.inl rfl)
        · exact F1.out _ (Or.inr (Or.inl rfl))
        · rw [HG.out] at hk; cases hk
      refine ⟨rfl, bo1, bf3, h4, FF.lift (F1.out.lift U1.out (((Upd.refl (tabF a bo1 bf1 t1) _).drewN nq).trans U3.out (fun _ _ h => h))) u4, FF⟩
  | some x =>
    obtain ⟨b, i⟩ := x
    cases b
    · obtain ⟨a1, a2, a3, a4, a5, a6⟩ := Tbl.at_old hat
      have l1 := I1.out.hi
      have HAT := Lib.hid hat
      have c0 := H1.out.o0
      have p2 := H1.out.old.num i a4
      have fb := Blk.free H1.out.old
      clear a1 a2 a3 a5 a6 hat
      unfold atVal
      go_wp2
      go_ret
      have E : t1.put2 key n = ({ t1 with old := t1.old.num i n }, false) := by
        unfold Tab.put2; rw [HAT.out]
      rw [E]
      have N := numOld (n := n) (H1.out.drewN nq) a4
      exact ⟨rfl, bo1, bf1, N.1, F1.out.lift U1.out (((Upd.refl (tabF a bo1 bf1 t1) _).drewN nq).trans N.2 (fun _ _ h => h)), F1.out⟩
    · obtain ⟨a1, a2, a3, a4, a5, a6⟩ := Tbl.at_fresh hat
      have hmv := I1.out.moving_of a1
      have l1 := I1.out.hi2
      have HAT := Lib.hid hat
      have c0 := H1.out.f0 hmv
      have p2 := (H1.out.fresh hmv).num i a4
      have fb := Blk.free (H1.out.fresh hmv)
      have HM := Lib.hid hmv
      clear a1 a2 a3 a5 a6 hat hmv
      unfold atVal
      go_wp2
      go_ret
      have E : t1.put2 key n = ({ t1 with fresh := t1.fresh.num i n }, false) := by
        unfold Tab.put2; rw [HAT.out]
      rw [E]
      have N := numFresh (n := n) (H1.out.drewN nq) HM.out a4
      exact ⟨rfl, bo1, bf1, N.1, F1.out.lift U1.out (((Upd.refl (tabF a bo1 bf1 t1) _).drewN nq).trans N.2 (fun _ _ h => h)), F1.out⟩

set_option maxHeartbeats 2000000 in
theorem tget_any (m a bo bf : Nat) (t : Tab) (key : ByteArray) (w : World) (h : TabAt w a bo bf t) (hi : t.Inv m) (hm : m ≤ 10000) (hk : key.size ≤ 100000) :
    Calls Try.prog 19 #[.pointer (some ⟨a, 0, none⟩), .string key] w fun e w' => e = .returned (.tuple #[.int .i64 (t.get key).2.1, .bool (t.get key).2.2]) ∧ TabTo w w' a bo bf t (t.get key).1 := by
  have hkm : key.size ≤ maxLen := by unfold maxLen; omega
  have I1 := Lib.hid (Tbl.step_inv hi)
  have S := Lib.hid (step_any m a bo bf t w h hi hm)
  clear h hi
  show Calls _ _ _ _ fun e w' => e = .returned (.tuple #[.int .i64 (t.step.look key).1, .bool (t.step.look key).2]) ∧ TabTo w w' a bo bf t t.step
  generalize t.step = t1 at *
  go_enter Try.func19, Try.ntmps19
  go_wp2_with fail
  refine S.out.mono ?_
  rintro e w1 ⟨rfl, bo1, bf1, h1, u1, f1⟩
  have U1 := Lib.hid u1
  have F1 := Lib.hid f1
  have A := Lib.hid (at_any m a bo1 bf1 t1 key w1 h1 I1.out hm hkm)
  have H1 := Lib.hid h1
  clear S h1 u1 f1
  go_wp2_with fail
  refine A.out.mono ?_
  rintro e w2 ⟨rfl, nq, rfl⟩
  clear A
  cases hat : t1.at key with
  | none =>
    have HAT := Lib.hid hat
    clear hat
    unfold atVal
    go_wp2
    go_ret2
    have E : t1.look key = (0, false) := by unfold Tab.look; rw [HAT.out]
    exact ⟨ret_ib E.symm, bo1, bf1, H1.out.drewN nq, U1.out.drewN nq, F1.out⟩
  | some x =>
    obtain ⟨b, i⟩ := x
    cases b
    · obtain ⟨a1, a2, a3, a4, a5, a6⟩ := Tbl.at_old hat
      have l1 := I1.out.hi
      have HAT := Lib.hid hat
      have c0 := H1.out.o0
      have p2 := H1.out.old.num i a4
      clear a1 a2 a3 a5 a6 hat
      unfold atVal
      go_wp2
      go_ret2
      have E : t1.look key = ((t1.old.pl.getD i default).n, true) := by unfold Tab.look; rw [HAT.out]
      exact ⟨ret_ib (by rw [E, Tbl.getD_lt _ _ a4]), bo1, bf1, H1.out.drewN nq, U1.out.drewN nq, F1.out⟩
    · obtain ⟨a1, a2, a3, a4, a5, a6⟩ := Tbl.at_fresh hat
      have hmv := I1.out.moving_of a1
      have l1 := I1.out.hi2
      have HAT := Lib.hid hat
      have c0 := H1.out.f0 hmv
      have p2 := (H1.out.fresh hmv).num i a4
      clear a1 a2 a3 a5 a6 hat hmv
      unfold atVal
      go_wp2
      go_ret2
      have E : t1.look key = ((t1.fresh.pl.getD i default).n, true) := by unfold Tab.look; rw [HAT.out]
      exact ⟨ret_ib (by rw [E, Tbl.getD_lt _ _ a4]), bo1, bf1, H1.out.drewN nq, U1.out.drewN nq, F1.out⟩

set_option maxHeartbeats 2000000 in
theorem tdrop_any (m a bo bf : Nat) (t : Tab) (key : ByteArray) (w : World) (h : TabAt w a bo bf t) (hi : t.Inv m) (hm : m ≤ 10000) (hk : key.size ≤ 100000) :
    Calls Try.prog 13 #[.pointer (some ⟨a, 0, none⟩), .string key] w fun e w' => e = .returned (.tuple #[.int .i64 (t.drop key).2.1, .bool (t.drop key).2.2]) ∧ TabTo w w' a bo bf t (t.drop key).1 := by
  have hkm : key.size ≤ maxLen := by unfold maxLen; omega
  have I1 := Lib.hid (Tbl.step_inv hi)
  have S := Lib.hid (step_any m a bo bf t w h hi hm)
  clear h hi
  show Calls _ _ _ _ fun e w' => e = .returned (.tuple #[.int .i64 (t.step.look key).1, .bool (t.step.look key).2]) ∧ TabTo w w' a bo bf t (t.step.cut key)
  generalize t.step = t1 at *
  go_enter Try.func13, Try.ntmps13
  go_wp2_with fail
  refine S.out.mono ?_
  rintro e w1 ⟨rfl, bo1, bf1, h1, u1, f1⟩
  have U1 := Lib.hid u1
  have F1 := Lib.hid f1
  have A := Lib.hid (at_any m a bo1 bf1 t1 key w1 h1 I1.out hm hkm)
  have H1 := Lib.hid h1
  clear S h1 u1 f1
  go_wp2_with fail
  refine A.out.mono ?_
  rintro e w2 ⟨rfl, nq, rfl⟩
  clear A
  cases hat : t1.at key with
  | none =>
    have HAT := Lib.hid hat
    clear hat
    unfold atVal
    go_wp2
    go_ret2
    have E : t1.look key = (0, false) := by unfold Tab.look; rw [HAT.out]
    have E2 : t1.cut key = t1 := by unfold Tab.cut; rw [HAT.out]
    rw [E2]
    exact ⟨ret_ib E.symm, bo1, bf1, H1.out.drewN nq, U1.out.drewN nq, F1.out⟩
  | some x =>
    obtain ⟨b, i⟩ := x
    cases b
    · obtain ⟨a1, a2, a3, a4, a5, a6⟩ := Tbl.at_old hat
      have l1 := I1.out.hi
      have HAT := Lib.hid hat
      have c0 := H1.out.o0
      have p2 := H1.out.old.num i a4
      have hf := I1.out.of
      have P := Lib.hid (buryOld_any a bo1 bf1 i t1 _ (H1.out.drewN nq) a4 (by omega) hf.1 (by omega) hf.2.1 (by omega))
      clear a1 a2 a3 a5 a6 hat hf
      unfold atVal
      go_wp2_with fail
      refine P.out.mono ?_
      rintro e w4 ⟨rfl, h4, u4⟩
      go_wp2
      go_ret2
      have E : t1.look key = ((t1.old.pl.getD i default).n, true) := by unfold Tab.look; rw [HAT.out]
      have E2 : t1.cut key = { t1 with old := t1.old.bury i } := by unfold Tab.cut; rw [HAT.out]
      rw [E2]
      exact ⟨ret_ib (by rw [E, Tbl.getD_lt _ _ a4]), bo1, bf1, h4, F1.out.lift (U1.out.drewN nq) u4, F1.out⟩
    · obtain ⟨a1, a2, a3, a4, a5, a6⟩ := Tbl.at_fresh hat
      have hmv := I1.out.moving_of a1
      have l1 := I1.out.hi2
      have HAT := Lib.hid hat
      have c0 := H1.out.f0 hmv
      have p2 := (H1.out.fresh hmv).num i a4
      have hf := I1.out.ff
      have P := Lib.hid (buryFresh_any a bo1 bf1 i t1 _ (H1.out.drewN nq) hmv a4 (by omega) hf.1 (by omega) hf.2.1 (by omega))
      clear a1 a2 a3 a5 a6 hat hmv hf
      unfold atVal
      go_wp2_with fail
      refine P.out.mono ?_
      rintro e w4 ⟨rfl, h4, u4⟩
      go_wp2
      go_ret2
      have E : t1.look key = ((t1.fresh.pl.getD i default).n, true) := by unfold Tab.look; rw [HAT.out]
      have E2 : t1.cut key = { t1 with fresh := t1.fresh.bury i } := by unfold Tab.cut; rw [HAT.out]
      rw [E2]
      exact ⟨ret_ib (by rw [E, Tbl.getD_lt _ _ a4]), bo1, bf1, h4, F1.out.lift (U1.out.drewN nq) u4, F1.out⟩
end Go.Proofs.Ytbkhpdmadhhdoaa
