/- Walk: StoreLast. -/
import Derived.Test.YtcdihffcncaibaaGreatDoorK21
import Derived.Deep.DeepCutAuto
import Derived.Test.YtcdihffcncaibaaGreatDoorRows
import Derived.Test.YtcdihffcncaibaaGreatDoorK14
import Derived.ProofKit
import Derived.LaidMore
import Derived.OpenShut
import Derived.Stop.Joined
import Derived.Stop.LaidErr
import Derived.Lib.LaidTab
import Derived.Test.YtcdihffcncaibaaGreatDoorK13
import Derived.Deep.Slices
import Derived.Deep.Fields
import Derived.ChangeSame
import Derived.Test.YtcdihffcncaibaaGreatDoorChecked
set_option linter.unusedVariables false
set_option linter.unusedSimpArgs false
namespace Go.Proofs.YtcdihffcncaibaaGreatDoor
open Go.RowKit

theorem zeroInt (w : World) : (zeroValue 3).run Tryz.prog w = .ok (.int .i64 0) w := by kernel_rfl
theorem MapS.look {w : World} {b : Nat} {m : Nums} (h : MapS w b m) (key : ByteArray) : (Instr.lookup 64 (.map (some b)) (.string key) false).run Tryz.prog w = .ok (.int .i64 (usedV m key)) w := by
  have := MapAt.look h keyS Tryz.underlying64 (zeroInt w) key false
  refine Eq.trans this ?_
  rw [vmS_get]; unfold usedV
  cases aget m key <;> rfl
theorem MapS.put {w : World} {b : Nat} {m : Nums} (h : MapS w b m) (key : ByteArray) (n : Int) : ∃ w', (Instr.mapUpdate 64 (.map (some b)) (.string key) (.int .i64 n)).run Tryz.prog w = .ok () w' ∧ MapS w' b (aset m key n) ∧ Upd (fun k => k = b) w w' := by
  obtain ⟨w', a, b, c⟩ := MapAt.put h keyS Tryz.underlying64 key (.int .i64 n)
  rw [vmS_set] at b
  exact ⟨w', a, b, c⟩
theorem MapS.del {w : World} {b : Nat} {m : Nums} (h : MapS w b m) (key : ByteArray) : ∃ w', (Builtin.delete_ #[64, 9] 0 #[.map (some b), .string key]).run Tryz.prog w = .ok (.tuple #[]) w' ∧ MapS w' b (adel m key) ∧ Upd (fun k => k = b) w w' := by
  obtain ⟨w', a, b, c⟩ := MapAt.del h keyS Tryz.underlying64 key 0
  rw [vmS_del] at b
  exact ⟨w', a, b, c⟩
theorem MapS.keep {w w' : World} {b : Nat} {m : Nums} (h : MapS w b m) {F : Nat → Prop} (u : Upd F w w') (hb : ¬ F b) : MapS w' b m := MapAt.keep h u hb
/-- The law's state in memory. -/
structure LastM (w wr : World) (base sb mb : Nat) (S : PS) (U : Nums) (N : Nat) : Prop where
  st : SSt wr base sb (fun q => q = mb) S N
  mp : MapS wr mb U
  up : Upd (fun _ => False) w wr
  lo : w.heap.size ≤ base
  mlo : base ≤ mb
section
variable {w wr w' : World} {base sb mb : Nat} {S S' : PS} {U U' : Nums} {N N' : Nat}
theorem LastM.keep0 (h : LastM w wr base sb mb S U N) (u : Upd (fun _ => False) wr w') : LastM w w' base sb mb S U N :=
  ⟨h.st.keep0 u, h.mp.keep u (fun h => h), h.up.trans u (fun _ _ h => h), h.lo, h.mlo⟩
theorem LastM.go (h : LastM w wr base sb mb S U N) (s : SSt w' base sb (fun q => q = mb) S' N') (u : Upd (Fr base (fun q => q = mb)) wr w') : LastM w w' base sb mb S' U N' :=
  ⟨s, h.mp.keep u (fun g => g.2 rfl), h.up.trans u (fun i hi g => by have := g.1; have := h.lo; omega), h.lo, h.mlo⟩
theorem LastM.map (h : LastM w wr base sb mb S U N) (m : MapS w' mb U') (u : Upd (fun k => k = mb) wr w') : LastM w w' base sb mb S U' N := by
  have hlow : lowB ≤ mb := by
    obtain ⟨s, Z, ⟨F, r, _⟩, _⟩ := h.st
    exact Nat.le_trans r.six h.mlo
  exact ⟨h.st.keepG u (fun b hb => ⟨hb, by rw [hb]; exact hlow⟩), m, h.up.trans u (fun i hi g => by have := h.lo; have := h.mlo; omega), h.lo, h.mlo⟩
end
set_option maxHeartbeats 16000000 in
set_option maxRecDepth 100000 in
theorem lawSLast (bud : Int) (v : Value) (l : List ByteArray) (w : World) (hs : Std w) (h : RowOf strc 1 w v l) : Calls Tryz.prog 5 #[.int .i64 bud, v] w fun e w' => e = .returned (.bool true) ∧ Upd (fun _ => False) w w' := by
  obtain ⟨p, c, ev, hm⟩ := h.len
  subst ev
  have HR := Lib.hid h
  have HS := Lib.hid hs
  have AL := Lib.hid (alive12_any w hs)
  clear h hs
  by_cases h1 : l.length ≤ 40
  · have t1 : decide ((l.length : Int) > 40) = false := decide_eq_false (by omega)
    by_cases h2 : 200 ≤ bud
    · have t2 : decide (bud < 200) = false := decide_eq_false (by omega)
      by_cases h3 : bud ≤ 2000
      · have t3 : decide (bud > 2000) = false := decide_eq_false (by omega)
        have nw : newP bud = ⟨[], bud, []⟩ := by unfold newP; congr 1; omega
        have HB := Lib.hid (And.intro h2 h3)
        have HL := Lib.hid h1
        clear h1 h2 h3
        go_enter Tryz.func5, Tryz.ntmps5
        go_wp2_with fail
        refine (AL.out).mono ?_
        rintro e w0 ⟨rfl, u0⟩
        have U0 := Lib.hid u0
        have NW := Lib.hid (snew_any bud w0 (HS.out.keep u0))
        rw [nw] at NW
        clear u0 AL nw
        go_wp2_with fail
        refine (NW.out).mono ?_
        rintro e w1 ⟨sb, rfl, s1, u1⟩
        have mk := run_makeMap (P := Tryz.prog) 64 w1
        have ua : Upd (fun _ => False) w1 (w1.alloc (.map #[] 0)) := (Upd.refl _ _).alloc _
        have I0 : Hid (∃ S U, LastI S U bud 0 ∧ LastM w (w1.alloc (.map #[] 0)) w0.heap.size sb w1.heap.size S U 0) := by
          refine ⟨⟨[], bud, []⟩, [], ⟨?_, rfl, rfl, by simp, by simp [akeys], fun x => by simp [aget, keysC], by simp, by simp, by simp⟩, ⟨s1.also ua (fun b hb => Or.inr (by subst hb; simp)), MapAt.made w1, (U0.out.trans u1 (fun _ _ h => h)).trans ua (fun _ _ h => h), U0.out.size, u1.size⟩⟩
          exact ⟨by simp [keysC], by simp, by simp, by have := HB.out; simp only; omega, by simp⟩
        generalize hbase : w0.heap.size = base at *
        clear s1 u1 NW ua U0 hbase
        go_wp2
        go_loopw [4, 34] (fun v4 x wr => v4 = .bool false ∧ ∃ k : Nat, k ≤ l.length ∧ x = .int .i64 (k : Int) ∧ Hid (∃ S U, LastI S U bud k ∧ LastM w wr base sb w1.heap.size S U k)) (fun _ x _ => l.length - (intOf x).toNat)
        case atStart => exact ⟨rfl, 0, by omega, rfl, I0⟩
        case round =>
          clear I0
          obtain ⟨rfl, k, hkl, rfl, I⟩ := hrel
          by_cases hlt : k < l.length
          · obtain ⟨x, hx⟩ : ∃ x, l[k]? = some x := ⟨_, List.getElem?_eq_getElem hlt⟩
            obtain ⟨S, U, LI, LM⟩ := I.out
            obtain ⟨b, off, cap, ev, hb, c0⟩ := str_cell HR.out hx
            injection ev with ev1 _ ev3
            subst ev1 ev3
            have c0 := (LM.up.cell (p := ⟨b, off + k, none⟩) hb (fun h => h)).trans c0
            have hbw : b < wr.heap.size := Nat.lt_of_lt_of_le hb LM.up.size
            have hq : (k : Int) < (l.length : Int) := by omega
            have LIh := Lib.hid LI
            have LMh := Lib.hid LM
            have hk40 : k ≤ 40 := by have := HL.out; omega
            have hl40 : l.length ≤ 40 := HL.out
            clear LI LM I hx
            by_cases hx1 : x.size ≤ 100
            · have tx : decide ((x.size : Int) > 100) = false := decide_eq_false (by omega)
              have HX := Lib.hid hx1
              clear hx1
              go_wp2_with fail
              refine (ten_any _).mono ?_
              rintro e w2 ⟨rfl, u2⟩
              have M2 := Lib.hid (LMh.out.keep0 u2)
              have PU := Lib.hid (sput_any M2.out.st x tenI (.slice none 0 0) false 0 (nofld _ _) (by have := HL.out; omega) (by have := HX.out; omega) (by rw [LIh.out.ev]; simp))
              have hpe : putE (dueP S x 0) x tenI = 0 := by rw [LIh.out.due]; exact LIh.out.err HX.out HB.out.1
              rw [hpe] at PU
              clear hpe u2 LMh
              go_wp2_with fail
              refine (PU.out).mono ?_
              rintro e w3 ⟨rfl, s3, u3⟩
              have M3 := Lib.hid (M2.out.go s3 u3)
              clear s3 u3 PU M2
              obtain ⟨a, LJ⟩ := LIh.out.put HX.out HB.out.1
              have LJh := Lib.hid LJ
              obtain ⟨w4, hr4, m4, u4⟩ := M3.out.mp.put x ((k : Int) + 1)
              have M4 := Lib.hid (M3.out.map m4 u4)
              clear LJ m4 u4 M3
              generalize putP S x tenI false 0 = S3 at *
              generalize aset U x ((k : Int) + 1) = U1 at *
              obtain ⟨tb, x0, hsb, TK⟩ := M4.out.st.tkeysAt (by have := HL.out; omega)
              have TKh := Lib.hid (TK w4 (Upd.refl _ _))
              have LO0 : Hid (LowO S3 U1 l.length ((l.length : Int) + 1)) := fun t h1 _ => h1
              clear TK
              go_wp2_with fail
              refine (TKh.out).mono ?_
              rintro e w5 ⟨vk, rfl, sk, u5⟩
              obtain ⟨pk, ck, ek, hkm⟩ := own_slice sk
              subst ek
              have M5 := Lib.hid (M4.out.keep0 u5)
              have SK := Lib.hid (StrsAt.row sk)
              have KM := Lib.hid (fun y => (sortStr_perm (keysC S3.cells)).mem_iff (a := y))
              generalize sortStr (keysC S3.cells) = ks at *
              have hk2 : ks.length ≤ 9223372036854775807 := by unfold maxLen at hkm; omega
              clear sk u5 TKh M4 x0
              go_wp2
              go_loopw [9, 60] (fun v9 x60 w6 => ∃ (j : Nat) (o : Int), j ≤ ks.length ∧ x60 = .int .i64 (j : Int) ∧ v9 = .int .i64 o ∧ Hid (LowO S3 U1 l.length o) ∧ Hid (Upd (fun _ => False) w5 w6)) (fun _ x60 _ => ks.length - (intOf x60).toNat)
              case atStart => exact ⟨0, (l.length : Int) + 1, by omega, rfl, by go_num, LO0, Upd.refl _ _⟩
              case round =>
                clear LO0
                obtain ⟨j, o, hjk, rfl, rfl, LO, UJ⟩ := hrel
                by_cases hjlt : j < ks.length
                · obtain ⟨y, hy⟩ : ∃ y, ks[j]? = some y := ⟨_, List.getElem?_eq_getElem hjlt⟩
                  obtain ⟨b2, off2, cap2, ev2, hb2, c2⟩ := str_cell SK.out hy
                  injection ev2 with ev21 _ ev23
                  subst ev21 ev23
                  have c2 := (UJ.out.cell (p := ⟨b2, off2 + j, none⟩) hb2 (fun h => h)).trans c2
                  have hq2 : (j : Int) < (ks.length : Int) := by omega
                  have hmem := (KM.out y).1 (List.mem_of_getElem? hy)
                  have LK := (M5.out.mp.keep UJ.out (fun h => h)).look y
                  have LO2 := Lib.hid (LO.out.min hmem)
                  clear hy hmem
                  generalize usedV U1 y = uy at *
                  go_wp2
                  go_roundw
                  case rel => exact ⟨j + 1, min o uy, by omega, by go_num, rfl, LO2, UJ⟩
                  case measure => simp [intOf]; omega
                · obtain rfl : j = ks.length := by omega
                  have M6 := Lib.hid (M5.out.keep0 UJ.out)
                  obtain ⟨D1, D2, D3⟩ := LJh.out.due
                  have PK := Lib.hid (speek_any M6.out.st x 0 (by have := HL.out; omega) (by have := HX.out; omega) (by
                    rw [LJh.out.ev]
                    have h1 := LJh.out.cl
                    have := HL.out
                    simp at h1 ⊢; omega))
                  rw [D1, D2, D3] at PK
                  unfold itV tenI at PK
                  have LOW := Lib.hid (LJh.out.low (n := l.length) (by omega) LO.out)
                  clear D1 D2 D3 M5 UJ LO SK KM
                  go_wp2_with fail
                  refine (PK.out).mono ?_
                  rintro e w7 ⟨v7, rfl, r7, s7, u7, f7⟩
                  obtain ⟨p7, c7, e7, _⟩ := r7.len
                  subst e7
                  have M7 := Lib.hid (M6.out.go (s7.less fun b hb => Or.inl hb) u7)
                  clear s7 u7 f7 r7 PK M6
                  have BYh := Lib.hid (fun W (u : Upd (fun _ => False) w7 W) => sbytes_any (M7.out.st.keep0 u))
                  have tb2 : decide (bytesC S3.cells > bud) = false := decide_eq_false (by have := LJh.out.fits; omega)
                  have ua : Upd (fun _ => False) w7 (w7.alloc (.cells #[.int .i64 1, .string { data := #[97, 98, 99, 100, 101, 102, 103, 104, 105, 106] }, .slice p7 0 c7] 24)) := (Upd.refl _ _).alloc _
                  go_wp2_with fail
                  refine ((BYh.out _ ua)).mono ?_
                  rintro e w8 ⟨rfl, rfl⟩
                  have M8 := Lib.hid (M7.out.keep0 ua)
                  have EVh := Lib.hid (sevents_any M8.out.st)
                  clear ua BYh M7
                  go_wp2_with fail
                  refine (EVh.out).mono ?_
                  rintro e w9 ⟨v9, rfl, o9, s9, u9⟩
                  have M9 := Lib.hid (M8.out.go (s9.less fun b hb => Or.inl hb) u9)
                  obtain ⟨p9, c9, e9, hm9, _⟩ := o9.slice
                  subst e9
                  have O9 := Lib.hid o9
                  have hev : S3.events.length ≤ 42 := by
                    rw [LJh.out.ev]
                    have h1 := LJh.out.cl
                    simp at h1 ⊢; omega
                  have NM : Hid (∀ q, fOf (.slice p9 S3.events.length c9) q → ¬ q = w1.heap.size) := fun q hq e => by
                    obtain ⟨_, _, cs, hB⟩ := o9.lt hq
                    exact MapAt.notCells M9.out.mp (by unfold Blk at hB; exact hB) e.symm
                  have UN := Lib.hid LJh.out.nd
                  clear s9 u9 o9 EVh M8
                  obtain ⟨evs, hevs⟩ : ∃ evs, S3.events = evs := ⟨_, rfl⟩
                  have HEV := Lib.hid hevs
                  rw [hevs] at hev O9 NM LOW hm9 ⊢
                  clear hevs
                  go_wp2
                  go_loopw [4, 87] (fun v4 x87 w10 => v4 = .bool false ∧ ∃ (j : Nat), j ≤ evs.length ∧ x87 = .int .i64 (j : Int) ∧ Hid (LastM w w10 base sb w1.heap.size { S3 with events := [] } (delE U1 (evs.take j)) (k + 1)) ∧ Hid (RowOf evc 2 w10 (.slice p9 evs.length c9) evs)) (fun _ x87 _ => evs.length - (intOf x87).toNat)
                  case atStart => exact ⟨rfl, 0, by omega, rfl, M9.out, O9.out.row (fun _ => rfl)⟩
                  case round =>
                    clear M9 O9
                    obtain ⟨rfl, i, hie, rfl, MI, RI⟩ := hrel
                    by_cases hilt : i < evs.length
                    · obtain ⟨d, hd⟩ : ∃ d, evs[i]? = some d := ⟨_, List.getElem?_eq_getElem hilt⟩
                      obtain ⟨b3, off3, cap3, ev3, hb3, d0, d1⟩ := ev_cells RI.out hd
                      injection ev3 with ev31 _ ev33
                      subst ev31 ev33
                      have hq3 : (i : Int) < (evs.length : Int) := by omega
                      have hmem := List.mem_of_getElem? hd
                      have TS : Hid (evs.take (i + 1) = evs.take i ++ [d]) := by
                        obtain ⟨g1, g2⟩ := List.getElem?_eq_some_iff.1 hd
                        show _ = _
                        rw [List.take_succ_eq_append_getElem g1, g2]
                      obtain ⟨dk, dx⟩ := d
                      simp only at d0 d1
                      have ub : Upd (fun _ => False) wr (wr.alloc (.cells #[.int .i64 dk, .string dx] 61)) := (Upd.refl _ _).alloc _
                      have MB := Lib.hid (MI.out.keep0 ub)
                      have RB := Lib.hid (RI.out.keep ub (fun _ _ _ h => h))
                      clear hd ub
                      by_cases h4 : dk = 4
                      · subst h4
                        have hle := (LOW.out).2 dx hmem
                        have hle2 := delE_le UN.out (evs.take i) LOW.out.1 hle
                        have LK := MB.out.mp.look dx
                        obtain ⟨w11, hr11, m11, u11⟩ := MB.out.mp.del dx
                        have DS : Hid (delE U1 (evs.take (i + 1)) = adel (delE U1 (evs.take i)) dx) := by
                          show _ = _
                          rw [TS.out, delE_snoc]; simp
                        have M11 : Hid (LastM w w11 base sb w1.heap.size { S3 with events := [] } (delE U1 (evs.take (i + 1))) (k + 1)) := by
                          show LastM _ _ _ _ _ _ _ _
                          rw [DS.out]; exact MB.out.map m11 u11
                        have R11 := Lib.hid (RB.out.keep u11 (fun q _ hq e => NM.out q hq e))
                        generalize usedV (delE U1 (evs.take i)) dx = ux at *
                        have tg : decide (ux > o) = false := decide_eq_false (by omega)
                        clear m11 u11 hle hle2 hmem MI RI
                        go_wp2
                        go_roundw
                        case rel => exact ⟨rfl, i + 1, by omega, by go_num, M11, R11⟩
                        case measure => simp [intOf]; omega
                      · have t4 : (dk == 4) = false := beq_false_of_ne h4
                        have DS : Hid (delE U1 (evs.take (i + 1)) = delE U1 (evs.take i)) := by
                          show _ = _
                          rw [TS.out, delE_snoc]; simp [h4]
                        have M11 : Hid (LastM w (wr.alloc (.cells #[.int .i64 dk, .string dx] 61)) base sb w1.heap.size { S3 with events := [] } (delE U1 (evs.take (i + 1))) (k + 1)) := by
                          show LastM _ _ _ _ _ _ _ _
                          rw [DS.out]; exact MB.out
                        clear hmem MI RI h4
                        go_wp2
                        go_roundw
                        case rel => exact ⟨rfl, i + 1, by omega, by go_num, M11, RB⟩
                        case measure => simp [intOf]; omega
                    · obtain rfl : i = evs.length := by omega
                      have LN := LJh.out.next
                      rw [HEV.out] at LN
                      rw [List.take_length] at MI
                      have LNh := Lib.hid LN
                      clear LN
                      go_wp2
                      go_roundw
                      case rel => exact ⟨rfl, k + 1, by omega, by go_num, _, _, LNh.out, MI.out⟩
                      case measure => simp [intOf]; omega
            · have tx : decide ((x.size : Int) > 100) = true := decide_eq_true (by omega)
              go_wp2
              go_ret
              exact ⟨rfl, LMh.out.up⟩
          · obtain rfl : k = l.length := by omega
            obtain ⟨S, U, LI, LM⟩ := I.out
            obtain ⟨tb, x0, hsb, TL⟩ := LM.st.tlenAt (by have := HL.out; omega)
            have TLh := Lib.hid (TL wr (Upd.refl _ _))
            have hln := LI.len
            have hcl := LI.cl
            rw [hln] at TLh hcl
            have hl40 : l.length ≤ 40 := HL.out
            have UPh := Lib.hid LM.up
            have MPh := Lib.hid LM.mp
            clear LI LM I TL hln
            go_wp2_with fail
            refine (TLh.out).mono ?_
            rintro e w2 ⟨rfl, u2⟩
            have ML := MapAt.len (P := Tryz.prog) (MPh.out.keep u2 (fun h => h)) 3 Tryz.underlying64 (by simp [vmS]; omega)
            have hvl : (vmS U).length = U.length := by simp [vmS]
            rw [hvl] at ML
            have UU := Lib.hid (UPh.out.trans u2 (fun _ _ h => h))
            clear u2
            go_wp2
            go_ret
            exact ⟨by simp, UU.out⟩
      · have t3 : decide (bud > 2000) = true := decide_eq_true (by omega)
        go_enter Tryz.func5, Tryz.ntmps5
        go_wp2_with fail
        refine (AL.out).mono ?_
        rintro e w0 ⟨rfl, u0⟩
        have U0 := Lib.hid u0
        clear u0
        go_wp2
        go_ret
        exact ⟨rfl, U0.out⟩
    · have t2 : decide (bud < 200) = true := decide_eq_true (by omega)
      go_enter Tryz.func5, Tryz.ntmps5
      go_wp2_with fail
      refine (AL.out).mono ?_
      rintro e w0 ⟨rfl, u0⟩
      have U0 := Lib.hid u0
      clear u0
      go_wp2
      go_ret
      exact ⟨rfl, U0.out⟩
  · have t1 : decide ((l.length : Int) > 40) = true := decide_eq_true (by omega)
    go_enter Tryz.func5, Tryz.ntmps5
    go_wp2_with fail
    refine (AL.out).mono ?_
    rintro e w0 ⟨rfl, u0⟩
    have U0 := Lib.hid u0
    clear u0
    go_wp2
    go_ret
    exact ⟨rfl, U0.out⟩
end Go.Proofs.YtcdihffcncaibaaGreatDoor
/- What the listed variables give the walks, and the witness. -/
set_option linter.unusedVariables false
set_option linter.unusedSimpArgs false
namespace Go.Proofs.YtcdihffcncaibaaGreatDoor
open Go.ChangeShapes Go.WideShapes Go.ChangeAt Go.WideMaps Go.WideElems Go.RowKit Go.Stop Go.Extern

theorem int_bounds {n : Int} (h : (Lit.int .i64 n).wf = true) : -9223372036854775808 ≤ n ∧ n ≤ 9223372036854775807 := by
  have := bounds_i64 h
  omega

def laidAll : List (String × DataW Unit) := [("math/bits.deBruijn32tab", Rows.laid_math_bits_deBruijn32tab), ("math/bits.deBruijn64tab", Rows.laid_math_bits_deBruijn64tab), ("internal/strconv.uint64pow10", Lib.tabData .u64 Lib.pow10Tab), ("strconv.ErrRange", Rows.laid_strconv_ErrRange), ("strconv.ErrSyntax", Rows.laid_strconv_ErrSyntax)]

theorem star : "*" ++ "errors.errorString" = "*errors.errorString" := by decide
theorem rowErr (u : TypeId) (h : Tryz.prog.typeName? 3 u = some "*errors.errorString") : u = 219 :=
  typeName_ptr_named (nm := "errors.errorString") (by rw [star]; kernel_rfl) (by kernel_rfl) (by decide) u (by rw [star]; exact h)

theorem door_met (os : Os) (args : Array Value) : laidMetH Tryz.prog laidAll ((World.doorLaid Tryz.prog 400 os).forCall (fun _ _ => 0) ⟨#[], args, []⟩).memory :=
  laidMetH_of_parts3 (fuel := 8) (laidMet_of_run' 8 (by kernel_rfl) (by kernel_rfl)) (by kernel_rfl) (by kernel_rfl)

theorem std_of_laid {W : World} (h : laidMetH Tryz.prog laidAll W) : Std W := by
  rw [MakeChecks.laidMetH_plain _ _ _ (by kernel_rfl)] at h
  have h3 := laidMet.tail (laidMet.tail h)
  have h4 := laidMet.tail h3
  have h5 := laidMet.tail h4
  refine ⟨Lib.tabIs_of_head (g := 3) (by kernel_rfl) (by kernel_rfl) Tryz.underlying224 Tryz.underlying185 (by kernel_rfl) (by kernel_rfl) h3, ?_, ?_⟩
  · obtain ⟨a, s, h1, _⟩ := laid_sentinel (g := 1) h5 (by kernel_rfl) (by kernel_rfl) Tryz.underlying161 rowErr Tryz.underlying219 Tryz.underlying221 rfl rfl Tryz.underlying9 (by kernel_rfl) (by kernel_rfl)
    exact ⟨_, _, h1⟩
  · obtain ⟨a, s, h1, _⟩ := laid_sentinel (g := 2) h4 (by kernel_rfl) (by kernel_rfl) Tryz.underlying161 rowErr Tryz.underlying219 Tryz.underlying221 rfl rfl Tryz.underlying9 (by kernel_rfl) (by kernel_rfl)
    exact ⟨_, _, h1⟩
end Go.Proofs.YtcdihffcncaibaaGreatDoor
/- An argument that is a slice of structs of one-cell fields, opened to its cells. -/
set_option linter.unusedVariables false
set_option linter.unusedSimpArgs false
namespace Go.Proofs.YtcdihffcncaibaaGreatDoor
open Go.RowKit Go.ChangeShapes Go.WideShapes Go.Deep

/-- A slice of structs whose fields are one cell each: its length fits, and field j of element i lies in a cell of its own, and is read by that field's type. -/
theorem slice_cells {H : Type} {enc : TypeId × Value → H} {P : Program} {w : World} {base : Nat} {spare : Nat → Bool} {held : Bool} {T E : TypeId} {fs : Array Field} {fuel len cap : Nat} {a : Addr} {x : DataW H × List MemPlace}
    (hT : P.underlying T = some (.slice E)) (hE : P.underlying E = some (.struct fs)) (h1 : oneCellFields P fs = true) (hn : P.cellsOf E = fs.size)
    (h : DataW.trod enc P w base spare held fuel T [.slice (some a) len cap] = some x) :
    len ≤ maxLen ∧ ∀ i, i < len → ∀ j f, fs[j]? = some f → ∃ v y k, w.cell? (a.add (i * fs.size + j)) = some v ∧ DataW.trod enc P w base spare held k f.type [v] = some y := by
  rcases open_slice hT h with ⟨hnil, _⟩ | ⟨a', len', cap', m, n, D, Q, hv, _, hlc, hcm, hm, _, hall⟩
  · simp at hnil
  · simp only [List.cons.injEq, Value.slice.injEq, Option.some.injEq, and_true] at hv
    obtain ⟨rfl, rfl, rfl⟩ := hv
    have hlm : len ≤ m := by rw [hm]; split <;> omega
    refine ⟨Nat.le_trans hlc hcm, fun i hi j f hj => ?_⟩
    have hjs : j < fs.size := (Array.getElem?_eq_some_iff.1 hj).1
    obtain ⟨row, hrow, hread⟩ := hall i (Nat.lt_of_lt_of_le hi hlm)
    obtain ⟨_, hsize, hcells⟩ := World.cells?_some hrow
    obtain ⟨_, k, _, _, _, _, hfield⟩ := DataW.trod_struct hE hread
    obtain ⟨hoff, hone⟩ := hone_of h1 j f hj
    have hjr : j < row.length := by omega
    have hf := hfield j f hj
    rw [hoff, hone, List.drop_eq_getElem_cons hjr] at hf
    simp only [List.take_succ_cons, List.take_zero] at hf
    have hc := hcells j (by omega)
    rw [hn, Go.Deep.add_add, List.getElem?_eq_getElem hjr] at hc
    cases hy : DataW.trod enc P w base spare held k f.type [row[j]] with
    | none =>
      rw [hy] at hf
      have := (List.getElem?_eq_none_iff.1 hf.symm)
      omega
    | some y => exact ⟨row[j], y, k, hc, hy⟩

theorem slice_nil {H : Type} {enc : TypeId × Value → H} {P : Program} {w : World} {base : Nat} {spare : Nat → Bool} {held : Bool} {T E : TypeId} {fuel len cap : Nat} {x : DataW H × List MemPlace}
    (hT : P.underlying T = some (.slice E)) (h : DataW.trod enc P w base spare held fuel T (Value.slice none len cap).cells.toList = some x) : len = 0 ∧ cap = 0 := by
  rcases open_slice hT h with ⟨hnil, _⟩ | ⟨a', _, _, _, _, _, _, hv, _⟩
  · simpa [Value.cells] using hnil
  · simp [Value.cells] at hv

theorem rowOf_mk {α : Type} {f : α → List Value} {k : Nat} (hk : 0 < k) {w : World} {a : Addr} {len cap : Nat} (g : Nat → α) (hm : len ≤ maxLen)
    (hc : ∀ i, i < len → ∀ j, j < k → ∃ v, (f (g i))[j]? = some v ∧ w.cell? (a.add (i * k + j)) = some v) : RowOf f k w (.slice (some a) len cap) ((List.range len).map g) := by
  obtain ⟨b, off, spot⟩ := a
  by_cases h0 : len = 0
  · subst h0; exact Or.inl ⟨_, _, rfl, rfl⟩
  · obtain ⟨v, _, h1⟩ := hc 0 (by omega) 0 hk
    have hspot : spot = none := by simpa [Addr.add] using World.cell?_spot h1
    subst hspot
    have hb : b < w.heap.size := by
      by_cases hb : b < w.heap.size
      · exact hb
      · simp [World.cell?, Addr.add, Array.getElem?_eq_none (by omega : w.heap.size ≤ b)] at h1
    refine Or.inr ⟨b, off, cap, by simp, hb, by simpa using hm, fun i x hi j hj => ?_⟩
    have hil : i < len := by
      have := (List.getElem?_eq_some_iff.1 hi).1
      simpa using this
    have hx : x = g i := by
      have : ((List.range len).map g)[i]? = some (g i) := by simp [hil]
      rw [this] at hi; exact (Option.some.inj hi).symm
    subst hx
    obtain ⟨v, h1, h2⟩ := hc i hil j hj
    have e : (⟨b, off, none⟩ : Addr).add (i * k + j) = ⟨b, off + (i * k + j), none⟩ := by unfold Addr.add; split <;> simp_all
    rw [e] at h2
    rw [h2, h1]
end Go.Proofs.YtcdihffcncaibaaGreatDoor
/- Arguments: texts, opened. -/
set_option linter.unusedVariables false
set_option linter.unusedSimpArgs false
namespace Go.Proofs.YtcdihffcncaibaaGreatDoor
open Go.RowKit Go.ChangeShapes Go.WideShapes Go.Deep

section
variable {H : Type} {enc : TypeId × Value → H} {w : World} {base : Nat} {spare : Nat → Bool} {held : Bool}
set_option maxRecDepth 100000 in
theorem open_strb {r : Reach} {b0 : Nat} {v : Value} {d : DataW H} {p : List MemPlace} (hv : Value.okWide Tryz.prog w r b0 63 v) (h : DataW.Trod enc Tryz.prog w base spare held 63 v d p) :
    ∃ l : List ByteArray, RowOf strc 1 w v l ∧ ∀ t ∈ l, t.size ≤ maxLen := by
  obtain ⟨a, len, cap, rfl⟩ := okWide_slice Tryz.underlying63 hv
  obtain ⟨fuel, hf⟩ := h
  rcases open_slice1 Tryz.underlying63 (by kernel_rfl) hf with ⟨e, _⟩ | ⟨a', len', cap', m, n, V, D, Pl, e, hb, hlc, hcm, hm, _, hall⟩
  · simp [Value.cells] at e
    obtain ⟨rfl, rfl, rfl⟩ := e
    exact ⟨[], Or.inl ⟨_, _, rfl, rfl⟩, fun a ha => by simp at ha⟩
  · simp [Value.cells] at e
    obtain ⟨rfl, rfl, rfl⟩ := e
    have hlm : len ≤ m := by rw [hm]; split <;> omega
    have key : ∀ i, ∃ x : ByteArray, i < len → w.cell? (a'.add (i * 1 + 0)) = some (.string x) ∧ x.size ≤ maxLen := by
      intro i
      by_cases hil : i < len
      · obtain ⟨c1, t1⟩ := hall i (Nat.lt_of_lt_of_le hil hlm)
        obtain ⟨x1, e1, _, z2⟩ := DataW.trod_string Tryz.underlying9 t1
        simp at e1
        exact ⟨x1, fun _ => ⟨by rw [Nat.mul_one, Nat.add_zero, c1, e1], by omega⟩⟩
      · exact ⟨ByteArray.empty, fun h => absurd h hil⟩
    obtain ⟨g, hg⟩ := Classical.axiomOfChoice key
    refine ⟨(List.range len).map g, rowOf_mk (by omega) g (Nat.le_trans hlc hcm) (fun i hil j hj => ?_), fun x hx => ?_⟩
    · obtain rfl : j = 0 := by omega
      exact ⟨_, rfl, (hg i hil).1⟩
    · obtain ⟨i, hi, rfl⟩ := List.mem_map.1 hx
      exact (hg i (by simpa using hi)).2
end
end Go.Proofs.YtcdihffcncaibaaGreatDoor
