/- Walk: StoreTells. -/
import Derived.Test.YtgdenmddbgcacaaGreatDoorK30
import Derived.BigQuiet
import Derived.Test.YtgdenmddbgcacaaGreatDoorRows
import Derived.Test.YtgdenmddbgcacaaGreatDoorK14
import Derived.ProofKit
import Derived.LaidMore
import Derived.OpenShut
import Derived.Stop.Joined
import Derived.Stop.LaidErr
import Derived.Lib.LaidTab
set_option linter.unusedVariables false
set_option linter.unusedSimpArgs false
set_option linter.unusedSectionVars false
namespace Go.Proofs.YtgdenmddbgcacaaGreatDoor
open Go.RowKit

set_option maxHeartbeats 32000000 in
set_option maxRecDepth 100000 in
theorem lawST (bud : Int) (v : Value) (l : List Act12) (w : World) (hs : Std w) (hv : RowOf a12c 9 w v l) (hf : ∀ a ∈ l, RowOf fdc 2 w a.fv a.item.flds) (hwt : ∀ a ∈ l, 0 ≤ a.wait ∧ a.wait < 65536) :
    Calls Tryz.prog 4 #[.int .i64 bud, v] w fun e w' => e = .returned (.bool true) ∧ Upd (fun _ => False) w w' := by
  obtain ⟨p, c, ev, hm⟩ := hv.len
  subst ev
  unfold maxLen at hm
  have AL := Lib.hid (alive12_any w hs)
  have HS := Lib.hid hs
  have HV := Lib.hid hv
  have HF := Lib.hid hf
  have HW := Lib.hid hwt
  obtain ⟨nl, hnl⟩ : ∃ nl, nl = l.length := ⟨_, rfl⟩
  have NL := Lib.hid hnl
  rw [← hnl] at HV hm ⊢
  clear hs hv hf hwt hnl
  go_enter Tryz.func4, Tryz.ntmps4
  go_wp2_with fail
  refine (AL.out).mono ?_
  rintro e w0 ⟨rfl, u0⟩
  have GR := Lib.hid (great12_any _ l w0 (HV.out.keep u0 (fun _ _ _ h => h)) (fun a ha => (HF.out a ha).keep u0 (fun _ _ _ h => h)))
  have U0 := Lib.hid u0
  clear u0 AL
  go_wp2_with fail
  refine (GR.out).mono ?_
  rintro e w1 ⟨r, rfl, hgr, u1⟩
  have U1 := Lib.hid (U0.out.trans u1 (fun _ _ h => h))
  clear u1 GR U0
  cases r with
  | true =>
    go_wp2
    go_ret
    exact ⟨rfl, U1.out⟩
  | false =>
    obtain ⟨hl80, hgood⟩ := hgr rfl
    have HG := Lib.hid hgood
    rw [← NL.out] at hl80
    clear hgr hgood
    by_cases h40 : nl ≤ 40
    · have t40 : decide ((nl : Int) > 40) = false := decide_eq_false (by omega)
      have NW := Lib.hid (snew_any bud w1 (HS.out.keep U1.out))
      go_wp2_with fail
      refine (NW.out).mono ?_
      rintro e w2 ⟨sb, rfl, s2, u2⟩
      have mk := run_makeMap (P := Tryz.prog) 58 w2
      have ua : Upd (fun _ => False) w2 (w2.alloc (.map #[] 0)) := (Upd.refl _ _).alloc _
      have I0 : Hid (TI w1 w1.heap.size sb w2.heap.size bud 0 (w2.alloc (.map #[] 0))) := by
        have hbb := (POk.new bud).bud.1
        exact ⟨fun b => b = w2.heap.size, newP bud, [], s2.also ua (fun b hb => Or.inr (by subst hb; simp)), rfl, by show bytesC [] ≤ _; simp only [bytesC]; exact hbb, rfl, MapI.made w2 rfl, by simp [akeys], fun x => rfl, (u2.trans ua (fun _ _ h => h)).weaken fun _ _ h => h.elim⟩
      obtain ⟨base, hbase⟩ : ∃ base, base = w1.heap.size := ⟨_, rfl⟩
      have HBASE := Lib.hid hbase
      rw [← hbase] at I0
      clear s2 u2 ua NW hbase
      go_wp2
      clear mk
      go_loopw [6, 7, 41] (fun v6 v7 x wr => ∃ (k mw : Nat) (now : Int), k ≤ nl ∧ x = .int .i64 (k : Int) ∧ v7 = .map (some mw) ∧ v6 = .int .i64 now ∧ 0 ≤ now ∧ now ≤ 65536 * (k : Int) ∧ Hid (TI w1 base sb mw bud k wr)) (fun _ _ x _ => nl - (intOf x).toNat)
      case atStart => exact ⟨0, _, 0, by omega, rfl, rfl, rfl, by omega, by omega, I0⟩
      case round =>
        clear I0
        obtain ⟨k, mw, now, hkl, rfl, rfl, rfl, hn0, hn1, I⟩ := hrel
        by_cases hlt : k < nl
        · obtain ⟨Y, S, M, st, hev, hfit, hbu, hwas, hnd, hat, u⟩ := I.out
          have MS : Hid ((akeys M).Nodup ∧ ∀ x, (aget M x).map (·.1) = hasC S.cells x) := ⟨hnd, hat⟩
          have MSM : Hid (M.length ≤ 1000 ∧ ∀ x ∈ akeys M, x.size ≤ 512) := ⟨by have h1 := (its_small hnd hat st.ok).1; have h2 := st.len; omega, (its_small hnd hat st.ok).2⟩
          have hkl2 : k < l.length := by rw [← NL.out]; exact hlt
          obtain ⟨a, ha⟩ : ∃ a, l[k]? = some a := ⟨_, List.getElem?_eq_getElem hkl2⟩
          have hrow := ((HV.out.keep U1.out (fun _ _ _ h => h)).keep u (fun b hb _ g => by have := HBASE.out; omega))
          rw [NL.out] at hrow
          obtain ⟨b, off, cap, ev, hb, hc⟩ := a12_cells hrow ha
          injection ev with ev1 ev2 ev3
          subst ev1 ev3
          have ham := List.mem_of_getElem? ha
          have hfd := row_fld0 (base := base) ((HF.out a ham).keep U1.out (fun _ _ _ h => h)) (by have := HBASE.out; omega)
          have hfd := hfd.keep u (fun b hb g => by omega)
          obtain ⟨hk6, _⟩ := HG.out a ham
          obtain ⟨hw0, hw1⟩ := HW.out a ham
          obtain ⟨ak, an, key, ⟨ik, it, il⟩, fv, keep, when, wait⟩ := a
          obtain ⟨pf, cf, ef, hmf⟩ := hfd.1.len
          simp only at ef hmf hfd hk6 hw0 hw1
          subst ef
          have cc : ∀ j v, j < 9 → (a12c ⟨ak, an, key, ⟨ik, it, il⟩, .slice pf il.length cf, keep, when, wait⟩)[j]? = some v → wr.cell? ⟨b, off + k * 9 + j, none⟩ = some v := fun j v hj hv => by
            have := (hc j hj).trans hv
            rw [← Nat.add_assoc] at this; exact this
          have c0 := cc 0 _ (by omega) rfl
          rw [Nat.add_zero] at c0
          have c1 := cc 1 _ (by omega) rfl
          have c2 := cc 2 _ (by omega) rfl
          have c3 := cc 3 _ (by omega) rfl
          have c4 := cc 4 _ (by omega) rfl
          have c5 := cc 5 _ (by omega) rfl
          have c6 := cc 6 _ (by omega) rfl
          have c7 := cc 7 _ (by omega) rfl
          have c8 := cc 8 _ (by omega) rfl
          have hq : (k : Int) < (nl : Int) := by omega
          have UA : Upd (fun _ => False) wr (wr.alloc (.cells #[.int .i64 ak, .int .i64 an, .string key, .int .i64 ik, .string it, .slice pf il.length cf, .bool keep, .int .i64 when, .int .u16 wait] 34)) := (Upd.refl _ _).alloc _
          have BQ := Blk.made wr [.int .i64 ak, .int .i64 an, .string key, .int .i64 ik, .string it, .slice pf il.length cf, .bool keep, .int .i64 when, .int .u16 wait] 34
          have HL := Lib.hid st.len
          have HYL := Lib.hid st.lt
          have NQ := Lib.hid (qnew_any (wr.alloc (.cells #[.int .i64 ak, .int .i64 an, .string key, .int .i64 ik, .string it, .slice pf il.length cf, .bool keep, .int .i64 when, .int .u16 wait] 34)) base bud (Nat.le_trans st.bl UA.size))
          have ST := Lib.hid (And.intro (st.keep0 UA) (And.intro hev (And.intro hfit hbu)))
          have WAS := Lib.hid (hwas.keep UA (fun _ _ h => h))
          have UU := Lib.hid (u.trans UA (fun _ _ h => h.elim))
          have HFD := Lib.hid (hfd.keep UA (fun _ _ h => h))
          have BQ := Lib.hid BQ
          have UA := Lib.hid UA
          have OKS : Hid (POk S) := st.ok
          clear cc hc ha st hev hfit hbu hwas hnd hat u hrow hfd I hkl2 ham
          generalize hnf : il.length = nf at *
          go_wp2_with fail
          refine (NQ.out).mono ?_
          rintro e w4 ⟨rfl, r4, u4, z4⟩
          generalize hwa : wr.alloc (.cells #[.int .i64 ak, .int .i64 an, .string key, .int .i64 ik, .string it, .slice pf nf cf, .bool keep, .int .i64 when, .int .u16 wait] 34) = wa at *
          generalize hqq : wr.heap.size = q at *
          have hqa : q < wa.heap.size := BQ.out.lt
          have DU : Duo w4 base sb wa.heap.size (fun b => Y b ∨ b = wa.heap.size) (fun b => b = wa.heap.size) S (newP bud) k :=
            ⟨ST.out.1.also u4 (fun b hb => hb.imp id fun e => by omega), r4, fun b hb => Or.inr hb⟩
          have ONE := Lib.hid (one12_any DU ⟨ak, an, key, ⟨ik, it, il⟩, .slice pf nf cf, keep, when, wait⟩ (now + wait) (HFD.out.keep u4 (fun _ _ h => h)) (by omega) (by rw [ST.out.2.1]; simp) (by simp [newP]) (by simp [newP]) (by simp only; omega) (by omega) (by omega))
          unfold actV at ONE
          simp only at ONE
          have B4 := u4.blk BQ.out (fun h => h)
          have z0 := B4.cellAt (i := 0) rfl
          have z1 := B4.cellAt (i := 1) rfl
          have z2 := B4.cellAt (i := 2) rfl
          have z3 := B4.cellAt (i := 3) rfl
          have z4' := B4.cellAt (i := 4) rfl
          have z5 := B4.cellAt (i := 5) rfl
          have z6 := B4.cellAt (i := 6) rfl
          have z7 := B4.cellAt (i := 7) rfl
          have z8 := B4.cellAt (i := 8) rfl
          have zl := B4.lt
          have U4 := Lib.hid u4
          clear hwa hqq c0 c1 c2 c3 c4 c5 c6 c7 c8 hb DU B4 r4 u4 z4 NQ
          go_wp2_with fail
          refine (ONE.out).mono ?_
          rintro e w5 ⟨rr, rfl, _, hd5⟩
          have TJ5 : Hid (TJ w1 base sb mw bud (k + 1) 200 S M Y Y (stepP S ⟨ak, an, key, ⟨ik, it, il⟩, .slice pf nf cf, keep, when, wait⟩ (now + wait)) w5) := by
            obtain ⟨X', d5, _, u5⟩ := hd5
            have sk := step_keeps S ⟨ak, an, key, ⟨ik, it, il⟩, .slice pf nf cf, keep, when, wait⟩ (now + wait)
            refine ⟨d5.s.less (fun b hb => Or.inl (Or.inl hb)), (WAS.out.keep U4.out (fun _ _ h => h)).keep u5 (fun b hb g => ?_), fun _ h => h, (Told.refl ST.out.2.1).step OKS.out _ _, FitP.step ST.out.2.2.1 OKS.out _ _, sk.1.trans ST.out.2.2.2, ?_, (UU.out.trans U4.out (fun _ _ h => h.elim)).trans u5 (fun b _ g => g.1)⟩
            · have hy := ST.out.1.lt b hb
              rcases g.2 with g | g
              · exact g (Or.inl hb)
              · omega
            · have := HL.out
              have h0 : S.events.length = 0 := by rw [ST.out.2.1]; rfl
              omega
          generalize stepP S ⟨ak, an, key, ⟨ik, it, il⟩, .slice pf nf cf, keep, when, wait⟩ (now + wait) = S1 at *
          have HNW : 0 ≤ now + wait ∧ now + wait ≤ 65536 * ((k : Int) + 1) := by constructor <;> omega
          have YLT : Hid (∀ b, Y b → b < w5.heap.size) := TJ5.out.st.lt
          have HBM : Hid (base ≤ w5.heap.size) := TJ5.out.st.bl
          clear hd5 ONE z0 z1 z2 z3 z4' z5 z6 z7 z8 zl U4 BQ UA HFD WAS UU ST hqa HL HYL hw0 hw1 hk6 OKS
          generalize now + wait = nw at *
          have mk := run_makeMap (P := Tryz.prog) 58 w5
          have ua : Upd (fun _ => False) w5 (w5.alloc (.map #[] 0)) := (Upd.refl _ _).alloc _
          have T6 := TJ5.out.also (Y' := fun b => Y b ∨ b = w5.heap.size) ua (fun b hb => Or.inl hb) (fun b hb => hb.imp id fun e => by subst e; simp)
          have MT6 : Hid (MapI (w5.alloc (.map #[] 0)) w5.heap.size [] (fun b => Y b ∨ b = w5.heap.size)) := MapI.made w5 (Or.inr rfl)
          obtain ⟨tb, x0, hsb, KS⟩ := T6.st.tkeysAt (by omega)
          have K1 := Lib.hid (KS _ (Upd.refl _ _))
          have LK : Hid (∀ x ∈ keysC S1.cells, x.size ≤ 512) := fun x hx => by
            obtain ⟨c, hc, rfl⟩ := List.mem_map.1 hx
            exact (T6.st.ok.small c hc).2
          have OK6 : Hid (POk S1 ∧ S1.cells.length ≤ k + 1) := ⟨T6.st.ok, T6.st.len⟩
          have T6 := Lib.hid T6
          clear KS ua TJ5
          go_wp2_with fail
          refine (K1.out).mono ?_
          rintro e w6 ⟨vk, rfl, stk, u6⟩
          clear mk
          have MTL : Hid (∀ b, Y b → b < w5.heap.size) := YLT.out
          have SZ6 : Hid ((w5.alloc (.map #[] 0)).heap.size = w5.heap.size + 1) := by show _ = _; simp
          obtain ⟨L, hL⟩ : ∃ L, L = sortStr (keysC S1.cells) := ⟨_, rfl⟩
          rw [← hL] at stk
          have LP : L.Perm (keysC S1.cells) := by rw [hL]; exact sortStr_perm _
          have LI : Hid (L.Nodup ∧ (∀ x ∈ L, x.size ≤ 512) ∧ L.length ≤ k + 1) := ⟨LP.nodup_iff.2 OK6.out.1.nd, fun x hx => LK.out x (LP.mem_iff.1 hx), by have h1 := LP.length_eq; have h2 : (keysC S1.cells).length = S1.cells.length := by { simp [keysC] }; have h3 := OK6.out.2; omega⟩
          obtain ⟨pk, ck, evk, hmk⟩ := own_slice stk
          subst evk
          have PL0 : Hid (PL w1 base sb mw w5.heap.size bud (k + 1) S M Y (.slice pk L.length ck) L 0 w6) := by
            have hown : ∀ q, fOf (.slice pk L.length ck) q → (w5.alloc (.map #[] 0)).heap.size ≤ q ∧ q < w6.heap.size := fun q hq => by
              have := strs_own_lt stk hq; exact ⟨this.2.1, this.1⟩
            refine ⟨fun b => (Y b ∨ b = w5.heap.size) ∨ fOf (.slice pk L.length ck) b, S1, [], ?_, (MT6.out.keep u6 (fun _ _ h => h)).to (fun b hb => Or.inl hb), PeekI.zero (fun x hx => LP.mem_iff.2 hx), StrsAt.row stk, fun q hq => ⟨Or.inr hq, ?_⟩⟩
            · exact T6.out.also u6 (fun b hb => Or.inl hb) (fun b hb => hb.imp id fun g => hown b g)
            · have := hown q hq; have := SZ6.out; omega
          generalize hmt : w5.heap.size = mt at *
          have hlk : L.length ≤ 100 := by have := LI.out.2.2; omega
          clear stk u6 MT6 T6 K1 x0 hsb OK6 LK LP hL SZ6 hmt YLT
          go_wp2
          go_loopw [64] (fun x wr => ∃ j : Nat, j ≤ L.length ∧ x = .int .i64 (j : Int) ∧ Hid (PL w1 base sb mw mt bud (k + 1) S M Y (.slice pk L.length ck) L j wr)) (fun x _ => L.length - (intOf x).toNat)
          case atStart => exact ⟨0, by omega, rfl, PL0⟩
          case round =>
            clear PL0
            obtain ⟨j, hj, rfl, P⟩ := hrel
            obtain ⟨Y2, S2, M2, tj, mt2, pi, rk, hvk⟩ := P.out
            by_cases hjl : j < L.length
            · obtain ⟨x, hx⟩ : ∃ x, L[j]? = some x := ⟨_, List.getElem?_eq_getElem hjl⟩
              obtain ⟨bk, ok, cap, evk, hbk, xk⟩ := str_cell rk hx
              injection evk with evk1 _ evk3
              subst evk1 evk3
              have hq2 : (j : Int) < (L.length : Int) := by omega
              have hx5 := LI.out.2.1 x (List.mem_of_getElem? hx)
              have PK := Lib.hid (speek_any tj.st x nw (by omega) (by omega) (by have := tj.el; omega))
              have TJh := Lib.hid (And.intro tj (And.intro mt2 (And.intro pi (And.intro rk hvk))))
              have HX := Lib.hid hx
              clear tj mt2 pi rk hvk P hx
              go_wp2_with fail
              refine (PK.out).mono ?_
              rintro e w7 ⟨v, rfl, row, s7, u7, fx⟩
              obtain ⟨p1, c1, ev1, _⟩ := row.len
              subst ev1
              unfold itV
              have PN := Lib.hid (TJh.out.2.2.1.next LI.out.1 HX.out nw (.slice p1 (gotI (dueP S2 x nw) x).flds.length c1))
              generalize hgi : gotI (dueP S2 x nw) x = gi at *
              obtain ⟨gk, gt, gl⟩ := gi
              simp only at row s7 fx PN ⊢
              have UB : Upd (fun _ => False) w7 (w7.alloc (.cells #[.int .i64 gk, .string gt, .slice p1 gl.length c1] 31)) := (Upd.refl _ _).alloc _
              have BI := Blk.made w7 [.int .i64 gk, .string gt, .slice p1 gl.length c1] 31
              have i0 := BI.cellAt (i := 0) rfl
              have i1 := BI.cellAt (i := 1) rfl
              have i2 := BI.cellAt (i := 2) rfl
              have il := BI.lt
              have TJ7 := ((TJh.out.1.due x s7 (fun b hb => Or.inl hb) u7).keep0 UB)
              have MT7 := ((TJh.out.2.1.keep u7 (fun b hb g => g.2 hb)).to (Y' := fun q => Y2 q ∨ fX (.slice p1 gl.length c1) gl q) (fun b hb => Or.inl hb)).keep UB (fun _ _ h => h)
              have RK7 := (TJh.out.2.2.2.1.keep u7 (fun b _ hb g => g.2 (TJh.out.2.2.2.2 b hb).1)).keep UB (fun _ _ _ h => h)
              have VK := TJh.out.2.2.2.2
              have ROW7 := row.keep UB (fun _ _ _ h => h)
              have SDX : Hid True := trivial
              clear PK TJh s7 u7 fx row hgi
              generalize dueP S2 x nw = S2' at *
              cases hw : wasP S2' x with
              | false =>
                rw [hw] at PN
                simp only [Bool.false_eq_true, if_false] at PN
                have NX : Hid (PL w1 base sb mw mt bud (k + 1) S M Y (.slice (some ⟨bk, ok, none⟩) L.length ck) L (j + 1) (w7.alloc (.cells #[.int .i64 gk, .string gt, .slice p1 gl.length c1] 31))) :=
                  ⟨_, S2', M2, TJ7, MT7, PN.out, RK7, fun q hq => ⟨Or.inl (VK q hq).1, (VK q hq).2⟩⟩
                clear TJ7 MT7 RK7 VK ROW7 PN UB BI hw
                go_wp2
                go_roundw
                case rel => exact ⟨j + 1, by omega, by simp, NX⟩
                case measure => simp [intOf]; omega
              | true =>
                rw [hw] at PN
                simp only [if_true] at PN
                obtain ⟨w8, hput, mt8, u8⟩ := MT7.put x ⟨gk, gt, gl⟩ (.slice p1 gl.length c1) ROW7
                have NX : Hid (PL w1 base sb mw mt bud (k + 1) S M Y (.slice (some ⟨bk, ok, none⟩) L.length ck) L (j + 1) w8) := by
                  refine ⟨_, S2', _, TJ7.map u8 MT7.mem HBM.out (fun b hb => MTL.out b hb), mt8.to (fun b hb => hb.elim id Or.inr), PN.out, RK7.keep u8 (fun b _ hb e => by have := (VK b hb).2; omega), fun q hq => ⟨Or.inl (VK q hq).1, (VK q hq).2⟩⟩
                simp only at hput
                clear TJ7 MT7 RK7 VK ROW7 PN UB BI mt8 u8 hw
                go_wp2
                go_roundw
                case rel => exact ⟨j + 1, by omega, by simp, NX⟩
                case measure => simp [intOf]; omega
            · obtain rfl : j = L.length := by omega
              have DN : Hid ((akeys M2).Nodup ∧ ∀ x, (aget M2 x).map (·.1) = hasC S2.cells x) := ⟨pi.nd, pi.done (Nat.le_refl _)⟩
              have mk2 := run_makeMap (P := Tryz.prog) 61 wr
              have ua : Upd (fun _ => False) wr (wr.alloc (.map #[] 0)) := (Upd.refl _ _).alloc _
              have T8 := tj.also (Y' := fun b => Y2 b ∨ b = wr.heap.size) ua (fun b hb => Or.inl hb) (fun b hb => hb.imp id fun e => by subst e; simp)
              have EV := Lib.hid (sevents2_any T8.st)
              have TT : Hid (Told S S2 ∧ FitP S2 ∧ S2.budget = (newP bud).budget ∧ POk S2 ∧ S2.cells.length ≤ k + 1) := ⟨tj.told, tj.fit, tj.bu, tj.st.ok, tj.st.len⟩
              have LOW : Hid ((∀ b, Y b → b < wr.heap.size) ∧ (∀ b, Y2 b → b < wr.heap.size) ∧ base ≤ wr.heap.size) := ⟨fun b hb => tj.st.lt b (tj.sub b hb), tj.st.lt, tj.st.bl⟩
              have SUB := Lib.hid tj.sub
              have T8 := Lib.hid T8
              have MT8 := Lib.hid (mt2.keep ua (fun _ _ h => h))
              clear tj mt2 pi rk hvk P ua
              go_wp2_with fail
              refine (EV.out).mono ?_
              rintro e w9 ⟨v8, rfl, ow8, s9, u9, nx⟩
              clear mk2
              obtain ⟨p8, c8, ev8, hm8, _⟩ := ow8.slice
              subst ev8
              unfold maxLen at hm8
              have TW0 : Hid (TW w1 base sb mw mt wr.heap.size (k + 1) Y Y2 (fun b => (Y2 b ∨ b = wr.heap.size) ∨ fOf (.slice p8 S2.events.length c8) b) { S2 with events := [] } M M2 (toldM (S2.events.take 0)) w9) := by
                exact ⟨s9, T8.out.wa.keep u9 (fun b hb g => g.2 (Or.inl (SUB.out b hb))), MT8.out.keep u9 (fun b hb g => g.2 (Or.inl hb)), (MapAt.made (enc := strEnc) wr).keep u9 (fun g => g.2 (Or.inr rfl)), T8.out.up.trans u9 (fun b _ g => g.1), LOW.out.1, LOW.out.2.1, LOW.out.2.2, Or.inl (Or.inr rfl), fun b hb => Or.inl (Or.inl hb)⟩
              have OW8 := Lib.hid ow8
              have NM : Hid (∀ q, fOf (.slice p8 S2.events.length c8) q → q ≠ wr.heap.size) := fun q hq e => nx q hq (Or.inr e)
              clear ow8 s9 u9 nx EV T8 MT8 SUB LI
              generalize hmo : wr.heap.size = mo at *
              obtain ⟨S3, hS3⟩ : ∃ S3 : PS, ({ S2 with events := [] } : PS) = S3 := ⟨_, rfl⟩
              have H3 : Hid (S3.events = [] ∧ S3.cells = S2.cells ∧ S3.budget = S2.budget) := by rw [← hS3]; exact ⟨rfl, rfl, rfl⟩
              rw [hS3] at TW0
              have TD : Hid (Told S S2 ∧ True) := ⟨TT.out.1, trivial⟩
              unfold Told at TD
              obtain ⟨es, hes⟩ : ∃ es, S2.events = es := ⟨_, rfl⟩
              rw [hes] at TW0 OW8 NM TD hm8 ⊢
              clear hS3 hes hmo
              generalize hYY : (fun b => (Y2 b ∨ b = mo) ∨ fOf (.slice p8 es.length c8) b) = YY at *
              clear hYY
              go_wp2
              go_loopw [17, 84] (fun v17 x wr => ∃ j : Nat, j ≤ es.length ∧ x = .int .i64 (j : Int) ∧ v17 = .bool (allE (es.take j)) ∧ Hid (TW w1 base sb mw mt mo (k + 1) Y Y2 YY S3 M M2 (toldM (es.take j)) wr) ∧ Hid (OwnN evc 2 63 wr base (.slice p8 es.length c8) es)) (fun _ x _ => es.length - (intOf x).toNat)
              case atStart => exact ⟨0, by omega, rfl, rfl, TW0, OW8⟩
              case round =>
                clear TW0 OW8
                obtain ⟨j, hj, rfl, rfl, TWj, OWj⟩ := hrel
                by_cases hjl : j < es.length
                · obtain ⟨d, hd⟩ : ∃ d, es[j]? = some d := ⟨_, List.getElem?_eq_getElem hjl⟩
                  obtain ⟨be, epe, hbe, d0, d1⟩ := evt_cells OWj.out hd
                  subst epe
                  have hq3 : (j : Int) < (es.length : Int) := by omega
                  have TK : Hid (es.take (j + 1) = es.take j ++ [d]) := by
                    obtain ⟨g1, g2⟩ := List.getElem?_eq_some_iff.1 hd
                    show _ = _
                    rw [List.take_succ_eq_append_getElem g1, g2]
                  obtain ⟨ek, es1⟩ := d
                  simp only at d0 d1
                  have ub : Upd (fun _ => False) wr (wr.alloc (.cells #[.int .i64 ek, .string es1] 63)) := (Upd.refl _ _).alloc _
                  have BE := Blk.made wr [.int .i64 ek, .string es1] 63
                  have TB := TWj.out.keep0 ub
                  obtain ⟨w11, hput, m11, u11⟩ := TB.tl.put es1 ek
                  have hmol := TWj.out.tl.lt
                  have B11 := u11.blk BE (fun e => by omega)
                  have e0 := B11.cellAt (i := 0) rfl
                  have el := B11.lt
                  have f0 := BE.cellAt (i := 0) rfl
                  have f1 := BE.cellAt (i := 1) rfl
                  have fl := BE.lt
                  have T11 : Hid (TW w1 base sb mw mt mo (k + 1) Y Y2 YY S3 M M2 (toldM (es.take (j + 1))) w11) := by
                    show TW _ _ _ _ _ _ _ _ _ _ _ _ _ _ _
                    rw [TK.out, toldM_snoc]; exact TB.tell m11 u11
                  have O11 := Lib.hid ((OWj.out.keep ub (fun _ _ h => h)).keep u11 (fun b hb e => NM.out b hb e))
                  have AE : Hid (allE (es.take (j + 1)) = (allE (es.take j) || decide (ek = 5))) := by show _ = _; rw [TK.out, allE_snoc]
                  clear m11 u11 TB ub B11 BE TWj OWj hd hbe TK
                  cases hA : allE (es.take j) with
                  | true =>
                    have AF : Hid (allE (es.take (j + 1)) = true) := by show _ = _; rw [AE.out, hA]; rfl
                    clear hA AE
                    go_wp2
                    go_roundw
                    case rel => exact ⟨j + 1, by omega, by simp, by rw [AF.out], T11, O11⟩
                    case measure => simp [intOf]; omega
                  | false =>
                    by_cases h5 : ek = 5
                    · subst h5
                      have AF : Hid (allE (es.take (j + 1)) = true) := by show _ = _; rw [AE.out, hA]; rfl
                      clear hA AE
                      go_wp2
                      go_roundw
                      case rel => exact ⟨j + 1, by omega, by simp, by rw [AF.out], T11, O11⟩
                      case measure => simp [intOf]; omega
                    · have h5b : (ek == 5) = false := beq_false_of_ne h5
                      have AF : Hid (allE (es.take (j + 1)) = false) := by show _ = _; rw [AE.out, hA, decide_eq_false h5]; rfl
                      clear hA AE h5
                      go_wp2
                      go_roundw
                      case rel => exact ⟨j + 1, by omega, by simp, by rw [AF.out], T11, O11⟩
                      case measure => simp [intOf]; omega
                · obtain rfl : j = es.length := by omega
                  rw [List.take_length] at TWj ⊢
                  have TDH : Hid (allE es = false → ∀ x, (usedV (toldM es) x = 0 → hasC S2.cells x = hasC S.cells x) ∧ (1 < usedV (toldM es) x → hasC S2.cells x = none) ∧ (usedV (toldM es) x < 2 → usedV (toldM es) x ≠ 0 → (hasC S2.cells x).isSome = true)) := TD.out.1
                  generalize toldM es = UU at *
                  generalize hAA : allE es = A at *
                  clear TD OWj NM hAA
                  have KND : Hid ((akeys (its M2)).Nodup) := by show _; rw [its_keys]; exact DN.out.1
                  have ISM := its_small DN.out.1 DN.out.2 TT.out.2.2.2.1
                  have KSZ : Hid (∀ x ∈ akeys (its M2), x.size ≤ maxLen) := by show _; rw [its_keys]; exact fun x hx => Nat.le_trans (ISM.2 x hx) (by unfold maxLen; omega)
                  have KLN : Hid ((its M2).length ≤ maxLen) := by
                    have h1 := ISM.1
                    have h2 := TT.out.2.2.2.2
                    show _ ≤ _
                    unfold maxLen its; rw [List.length_map]; omega
                  have KND2 : Hid ((akeys (its M)).Nodup) := by show _; rw [its_keys]; exact MS.out.1
                  have KSZ2 : Hid (∀ x ∈ akeys (its M), x.size ≤ maxLen) := by show _; rw [its_keys]; exact fun x hx => Nat.le_trans (MSM.out.2 x hx) (by unfold maxLen; omega)
                  have KLN2 : Hid ((its M).length ≤ maxLen) := by
                    have h1 := MSM.out.1
                    show _ ≤ _
                    unfold maxLen its; rw [List.length_map]; omega
                  have MPh := Lib.hid TWj.out.th.mp
                  clear ISM
                  go_wp2_with (first
                    | (at_range; refine wpList_range_at _ rfl _ 58 rfl 9 31 Tryz.underlying9 Tryz.underlying58 mt (its M2) rfl MPh.out KND.out KSZ.out KLN.out ?_; intro w12 cnt hra hu hs12)
                    | go_in)
                  go_frame
                  have TW12 := Lib.hid (TWj.out.also (r := wr.heap.size) hu ⟨Nat.le_refl _, by omega⟩)
                  have RNE : Hid (mo < wr.heap.size) := TWj.out.tl.lt
                  have RA := Lib.hid hra
                  clear hra hu hs12 TWj MPh
                  generalize wr.heap.size = r at *
                  go_loopw [20] (fun v20 w13 => (∃ x, v20 = x) ∧ ∃ (done : List ByteArray) (cnt : Nat), Hid (RangeAt Tryz.prog 9 w13 mt r (its M2) done cnt) ∧ Hid (TW w1 base sb mw mt mo (k + 1) Y Y2 (fun q => YY q ∨ q = r) S3 M M2 UU w13)) (fun _ w13 => w13.rangeLeft mt r)
                  case atStart => exact ⟨⟨_, rfl⟩, [], cnt, RA, TW12⟩
                  case round =>
                    clear RA TW12
                    obtain ⟨_, done, cnt, RA, TWr⟩ := hrel
                    go_wp2_with (first
                      | (at_next; refine wpList_next_at _ rfl _ rfl 9 Tryz.underlying9 mt r (its M2) done cnt rfl RA.out ?_ ?_)
                      | go_in)
                    · intro hperm
                      clear hperm RA
                      obtain ⟨YZ, hYZ⟩ : ∃ YZ : Nat → Prop, YZ = fun q => YY q ∨ q = r := ⟨_, rfl⟩
                      rw [← hYZ] at TWr
                      clear hYZ
                      have MPw := Lib.hid TWr.out.wa.mp
                      go_wp2_with (first
                        | (at_range; refine wpList_range_at _ rfl _ 58 rfl 9 31 Tryz.underlying9 Tryz.underlying58 mw (its M) rfl MPw.out KND2.out KSZ2.out KLN2.out ?_; intro w12 cnt hra hu hs12)
                        | go_in)
                      go_frame
                      have TW12 := Lib.hid (TWr.out.also (r := wr.heap.size) hu ⟨Nat.le_refl _, by omega⟩)
                      have RNE2 : Hid (mo < wr.heap.size) := TWr.out.tl.lt
                      have RA := Lib.hid hra
                      clear hra hu hs12 TWr MPw
                      generalize wr.heap.size = r2 at *
                      go_loopw [24] (fun v24 w13 => (∃ x, v24 = x) ∧ ∃ (done : List ByteArray) (cnt : Nat), Hid (RangeAt Tryz.prog 9 w13 mw r2 (its M) done cnt) ∧ Hid (TW w1 base sb mw mt mo (k + 1) Y Y2 (fun q => YZ q ∨ q = r2) S3 M M2 UU w13)) (fun _ w13 => w13.rangeLeft mw r2)
                      case atStart => exact ⟨⟨_, rfl⟩, [], cnt, RA, TW12⟩
                      case round =>
                        clear RA TW12
                        obtain ⟨_, done, cnt, RA, TWr⟩ := hrel
                        go_wp2_with (first
                          | (at_next; refine wpList_next_at _ rfl _ rfl 9 Tryz.underlying9 mw r2 (its M) done cnt rfl RA.out ?_ ?_)
                          | go_in)
                        · intro hperm
                          clear hperm RA
                          have NI : Hid (TI w1 base sb mt bud (k + 1) wr) := by
                            refine ⟨_, S3, M2, TWr.out.st, H3.out.1, ?_, by rw [H3.out.2.2]; exact TT.out.2.2.1, TWr.out.th.to TWr.out.y2, DN.out.1, fun x => by rw [H3.out.2.1]; exact DN.out.2 x, TWr.out.up⟩
                            unfold FitP
                            rw [H3.out.2.1, H3.out.2.2]
                            exact TT.out.2.1
                          have BY := Lib.hid (sbytes_any TWr.out.st)
                          have BL : bytesC S3.cells ≤ max 0 (min bud 1000000000000) := by
                            have h1 := TT.out.2.1
                            have h2 := TT.out.2.2.1
                            unfold FitP at h1
                            rw [h2] at h1
                            rw [H3.out.2.1]
                            exact h1
                          generalize bytesC S3.cells = byt at *
                          clear TWr
                          go_wp2_with fail
                          refine (BY.out).mono ?_
                          rintro e w15 ⟨rfl, rfl⟩
                          clear BY
                          have hcmp : decide (byt > max 0 (min bud 1000000000000)) = false := decide_eq_false (by omega)
                          clear BL
                          go_wp2
                          go_roundw
                          case rel => exact ⟨k + 1, mt, nw, by omega, by simp, rfl, rfl, by omega, by omega, NI⟩
                          case measure => simp [intOf]; omega
                        · intro key val w14 cnt2 hnd hget hra2 hlt2 hu2 hsz2 hent
                          rw [its_get] at hget
                          obtain ⟨x, hg, _⟩ := Option.map_eq_some_iff.1 hget
                          have T14 := TWr.out.range hu2 (Or.inr rfl) RNE2.out
                          have HS1 : hasC S.cells key = some x.1 := by rw [← MS.out.2 key, hg]; rfl
                          have FW : Hid (∀ W, Upd (fun _ => False) w14 W → RangeAt Tryz.prog 9 W mw r2 (its M) (done ++ [key]) cnt2 ∧ TW w1 base sb mw mt mo (k + 1) Y Y2 (fun q => YZ q ∨ q = r2) S3 M M2 UU W ∧ W.rangeLeft mw r2 < wr.rangeLeft mw r2) := Lib.hid fun W u => by
                            have hr3 := hra2.keep u (fun h => h) (fun h => h)
                            exact ⟨hr3, T14.keep0 u, by rw [hr3.left, RA.out.left]; exact hlt2⟩
                          obtain ⟨jk, jt, jl, jp, jc, hd, LK, jrow, hj⟩ := T14.th.look2 key
                          have UB : Upd (fun _ => False) w14 (w14.alloc (.cells #[.int .i64 jk, .string jt, .slice jp jl.length jc] 31)) := (Upd.refl _ _).alloc _
                          have LT := (T14.keep0 UB).tl.look key
                          rw [DN.out.2 key] at hj
                          have KF3 : A = false → hd = false → ¬ usedV UU key < 2 := fun hA hd0 hlt => by
                            have kf := TDH.out hA key
                            rw [hj, hd0, HS1] at kf
                            by_cases h0 : usedV UU key = 0
                            · have := kf.1 h0; simp at this
                            · have := kf.2.2 hlt h0; simp at this
                          have UBh := Lib.hid UB
                          clear hget hra2 hlt2 hu2 hsz2 hnd hg T14 UB jrow hj HS1 RA TWr
                          generalize usedV UU key = t at *
                          cases hd with
                          | true =>
                            clear KF3
                            go_wp2
                            go_roundw
                            case rel => exact ⟨⟨_, rfl⟩, done ++ [key], cnt2, Lib.hid (FW.out _ UBh.out).1, Lib.hid (FW.out _ UBh.out).2.1⟩
                            case measure => exact (FW.out _ UBh.out).2.2
                          | false =>
                            by_cases t2 : t < 2
                            · have t2b : decide (t < 2) = true := decide_eq_true t2
                              cases A with
                              | true =>
                                clear KF3 t2
                                go_wp2
                                go_roundw
                                case rel => exact ⟨⟨_, rfl⟩, done ++ [key], cnt2, Lib.hid (FW.out _ UBh.out).1, Lib.hid (FW.out _ UBh.out).2.1⟩
                                case measure => exact (FW.out _ UBh.out).2.2
                              | false => exact absurd t2 (KF3 rfl rfl)
                            · have t2b : decide (t < 2) = false := decide_eq_false t2
                              clear KF3 t2
                              cases A with
                              | true =>
                                go_wp2
                                go_roundw
                                case rel => exact ⟨⟨_, rfl⟩, done ++ [key], cnt2, Lib.hid (FW.out _ UBh.out).1, Lib.hid (FW.out _ UBh.out).2.1⟩
                                case measure => exact (FW.out _ UBh.out).2.2
                              | false =>
                                go_wp2
                                go_roundw
                                case rel => exact ⟨⟨_, rfl⟩, done ++ [key], cnt2, Lib.hid (FW.out _ UBh.out).1, Lib.hid (FW.out _ UBh.out).2.1⟩
                                case measure => exact (FW.out _ UBh.out).2.2
                    · intro key val w14 cnt2 hnd hget hra2 hlt2 hu2 hsz2 hent
                      rw [its_get] at hget
                      obtain ⟨⟨⟨gk, gt, gl⟩, gv⟩, hg, rfl⟩ := Option.map_eq_some_iff.1 hget
                      have T14 := TWr.out.range hu2 (Or.inr rfl) RNE.out
                      have hrw := (T14.th.rows _ (mem_aget hg)).1
                      obtain ⟨gp, gc, evg, _⟩ := hrw.len
                      simp only at evg hrw
                      subst evg
                      have HS2 : hasC S2.cells key = some ⟨gk, gt, gl⟩ := by rw [← DN.out.2 key, hg]; rfl
                      have FW : Hid (∀ W, Upd (fun _ => False) w14 W → RangeAt Tryz.prog 9 W mt r (its M2) (done ++ [key]) cnt2 ∧ TW w1 base sb mw mt mo (k + 1) Y Y2 (fun q => YY q ∨ q = r) S3 M M2 UU W ∧ W.rangeLeft mt r < wr.rangeLeft mt r) := Lib.hid fun W u => by
                        have hr3 := hra2.keep u (fun h => h) (fun h => h)
                        exact ⟨hr3, T14.keep0 u, by rw [hr3.left, RA.out.left]; exact hlt2⟩
                      have UB : Upd (fun _ => False) w14 (w14.alloc (.cells #[.int .i64 gk, .string gt, .slice gp gl.length gc] 31)) := (Upd.refl _ _).alloc _
                      have TB := T14.keep0 UB
                      obtain ⟨jk, jt, jl, jp, jc, hd, LK, jrow, hj⟩ := TB.wa.look2 key
                      have UC : Upd (fun _ => False) (w14.alloc (.cells #[.int .i64 gk, .string gt, .slice gp gl.length gc] 31)) ((w14.alloc (.cells #[.int .i64 gk, .string gt, .slice gp gl.length gc] 31)).alloc (.cells #[.int .i64 jk, .string jt, .slice jp jl.length jc] 31)) := (Upd.refl _ _).alloc _
                      have LT := (TB.keep0 UC).tl.look key
                      have KF := TDH.out
                      have KF2 : A = false → (usedV UU key = 0 → hasC S2.cells key = hasC S.cells key) ∧ (1 < usedV UU key → hasC S2.cells key = none) := fun h => ⟨(KF h key).1, (KF h key).2.1⟩
                      rw [MS.out.2 key] at hj
                      rw [HS2, hj] at KF2
                      have SMF := Lib.hid (And.intro ((hrw.keep UB (fun _ _ _ h => h)).keep UC (fun _ _ _ h => h)) (jrow.keep UC (fun _ _ _ h => h)))
                      have UBC := Lib.hid (UB.trans UC (fun _ _ h => h))
                      have hent' : (Instr.entry (.pointer (some ⟨r, 0, none⟩))).run Tryz.prog w14 = .ok (.tuple #[.string key, .agg #[.int .i64 gk, .string gt, .slice gp gl.length gc]]) w14 := hent
                      clear hent hget hra2 hlt2 hu2 hsz2 hnd hg T14 TB UB UC hrw jrow hj KF HS2 RA TWr
                      obtain ⟨t, ht⟩ : ∃ t, usedV UU key = t := ⟨_, rfl⟩
                      rw [ht] at LT KF2
                      have HT := Lib.hid ht
                      clear ht
                      by_cases t0 : t = 0
                      · subst t0
                        cases A with
                        | true =>
                          clear KF2
                          go_wp2
                          go_roundw
                          case rel => exact ⟨⟨_, rfl⟩, done ++ [key], cnt2, Lib.hid (FW.out _ UBC.out).1, Lib.hid (FW.out _ UBC.out).2.1⟩
                          case measure => exact (FW.out _ UBC.out).2.2
                        | false =>
                          have hh := (KF2 rfl).1 rfl
                          cases hd with
                          | false => simp at hh
                          | true =>
                            rw [if_pos rfl] at hh
                            injection hh with hh
                            injection hh with e1 e2 e3
                            subst e1 e2 e3
                            have SM := Lib.hid (sameIt_any ⟨gk, gt, gl⟩ ⟨gk, gt, gl⟩ _ _ _ SMF.out.1 SMF.out.2)
                            rw [sameI_refl] at SM
                            unfold itV at SM
                            simp only at SM
                            clear KF2 SMF
                            go_wp2_with fail
                            go_at_call 20
                            refine SM.out.mono ?_
                            rintro e w16 ⟨rfl, u16⟩
                            have UF := Lib.hid (UBC.out.trans u16 (fun _ _ h => h))
                            have LT16 := (FW.out _ UF.out).2.1.tl.look key
                            rw [HT.out] at LT16
                            clear u16 SM LT
                            go_wp2
                            go_roundw
                            case rel => exact ⟨⟨_, rfl⟩, done ++ [key], cnt2, Lib.hid (FW.out _ UF.out).1, Lib.hid (FW.out _ UF.out).2.1⟩
                            case measure => exact (FW.out _ UF.out).2.2
                      · have t0b : (t == 0) = false := beq_false_of_ne t0
                        by_cases t1 : t > 1
                        · have t1b : decide (t > 1) = true := decide_eq_true t1
                          cases A with
                          | true =>
                            clear KF2 t0 t1
                            go_wp2
                            go_roundw
                            case rel => exact ⟨⟨_, rfl⟩, done ++ [key], cnt2, Lib.hid (FW.out _ UBC.out).1, Lib.hid (FW.out _ UBC.out).2.1⟩
                            case measure => exact (FW.out _ UBC.out).2.2
                          | false =>
                            have hh := (KF2 rfl).2 t1
                            simp at hh
                        · have t1b : decide (t > 1) = false := decide_eq_false t1
                          clear KF2 t0 t1
                          cases A with
                          | true =>
                            go_wp2
                            go_roundw
                            case rel => exact ⟨⟨_, rfl⟩, done ++ [key], cnt2, Lib.hid (FW.out _ UBC.out).1, Lib.hid (FW.out _ UBC.out).2.1⟩
                            case measure => exact (FW.out _ UBC.out).2.2
                          | false =>
                            go_wp2
                            go_roundw
                            case rel => exact ⟨⟨_, rfl⟩, done ++ [key], cnt2, Lib.hid (FW.out _ UBC.out).1, Lib.hid (FW.out _ UBC.out).2.1⟩
                            case measure => exact (FW.out _ UBC.out).2.2
        · obtain rfl : k = nl := by omega
          have FIN : Hid (Upd (fun _ => False) w wr) := by
            obtain ⟨Y, S, M, st, hev, hfit, hbu, hwas, hnd, hat, u⟩ := I.out
            exact U1.out.trans (u.weaken (F := fun _ => False) fun b hb g => by have := HBASE.out; omega) (fun _ _ h => h)
          clear I
          go_wp2
          go_ret
          exact ⟨rfl, FIN.out⟩
    · have t40 : decide ((nl : Int) > 40) = true := decide_eq_true (by omega)
      go_wp2
      go_ret
      exact ⟨rfl, U1.out⟩
end Go.Proofs.YtgdenmddbgcacaaGreatDoor
/- What the listed variables give the walks, and the witness. -/
set_option linter.unusedVariables false
set_option linter.unusedSimpArgs false
namespace Go.Proofs.YtgdenmddbgcacaaGreatDoor
open Go.ChangeShapes Go.WideShapes Go.ChangeAt Go.WideMaps Go.WideElems Go.RowKit Go.Stop Go.Extern

theorem int_bounds {n : Int} (h : (Lit.int .i64 n).wf = true) : -9223372036854775808 ≤ n ∧ n ≤ 9223372036854775807 := by
  have := bounds_i64 h
  omega

def laidAll : List (String × DataW Unit) := [("math/bits.deBruijn32tab", Rows.laid_math_bits_deBruijn32tab), ("math/bits.deBruijn64tab", Rows.laid_math_bits_deBruijn64tab), ("internal/strconv.uint64pow10", Lib.tabData .u64 Lib.pow10Tab), ("strconv.ErrRange", Rows.laid_strconv_ErrRange), ("strconv.ErrSyntax", Rows.laid_strconv_ErrSyntax)]

theorem star : "*" ++ "errors.errorString" = "*errors.errorString" := by decide
theorem rowErr (u : TypeId) (h : Tryz.prog.typeName? 3 u = some "*errors.errorString") : u = 213 :=
  typeName_ptr_named (nm := "errors.errorString") (by rw [star]; kernel_rfl) (by kernel_rfl) (by decide) u (by rw [star]; exact h)

theorem door_met (os : Os) (args : Array Value) : laidMetH Tryz.prog laidAll ((World.doorLaid Tryz.prog 400 os).forCall (fun _ _ => 0) ⟨#[], args, []⟩).memory :=
  laidMetH_of_parts3 (fuel := 8) (laidMet_of_run' 8 (by kernel_rfl) (by kernel_rfl)) (by kernel_rfl) (by kernel_rfl)

theorem std_of_laid {W : World} (h : laidMetH Tryz.prog laidAll W) : Std W := by
  rw [MakeChecks.laidMetH_plain _ _ _ (by kernel_rfl)] at h
  have h3 := laidMet.tail (laidMet.tail h)
  have h4 := laidMet.tail h3
  have h5 := laidMet.tail h4
  refine ⟨Lib.tabIs_of_head (g := 3) (by kernel_rfl) (by kernel_rfl) Tryz.underlying218 Tryz.underlying165 (by kernel_rfl) (by kernel_rfl) h3, ?_, ?_⟩
  · obtain ⟨a, s, h1, _⟩ := laid_sentinel (g := 1) h5 (by kernel_rfl) (by kernel_rfl) Tryz.underlying168 rowErr Tryz.underlying213 Tryz.underlying215 rfl rfl Tryz.underlying9 (by kernel_rfl) (by kernel_rfl)
    exact ⟨_, _, h1⟩
  · obtain ⟨a, s, h1, _⟩ := laid_sentinel (g := 2) h4 (by kernel_rfl) (by kernel_rfl) Tryz.underlying168 rowErr Tryz.underlying213 Tryz.underlying215 rfl rfl Tryz.underlying9 (by kernel_rfl) (by kernel_rfl)
    exact ⟨_, _, h1⟩
end Go.Proofs.YtgdenmddbgcacaaGreatDoor
