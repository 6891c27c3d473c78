/- Walk: StoreLast. -/
import Derived.Test.YtcdihffcncaibaaGreatDoorK21
import Derived.Deep.DeepCutAuto
set_option linter.unusedVariables false
set_option linter.unusedSimpArgs false
namespace Go.Proofs.YtcdihffcncaibaaGreatDoor
open Go.RowKit

theorem zeroInt (w : World) : (zeroValue 3).run Tryz.prog w = .ok (.int .i64 0) w := by kernel_rfl
theorem MapS.look {w : World} {b : Nat} {m : Nums} (h : MapS w b m) (key : ByteArray) : (Instr.lookup 64 (.map (some b)) (.string key) false).run Tryz.prog w = .ok (.int .i64 (usedV m key)) w := by
  have := MapAt.look h keyS Tryz.underlying64 (zeroInt w) key false
  refine Eq.trans this ?_
  rw [vmS_get]; unfold usedV
  cases aget m key <;> rfl
theorem MapS.put {w : World} {b : Nat} {m : Nums} (h : MapS w b m) (key : ByteArray) (n : Int) : ∃ w', (Instr.mapUpdate 64 (.map (some b)) (.string key) (.int .i64 n)).run Tryz.prog w = .ok () w' ∧ MapS w' b (aset m key n) ∧ Upd (fun k => k = b) w w' := by
  obtain ⟨w', a, b, c⟩ := MapAt.put h keyS Tryz.underlying64 key (.int .i64 n)
  rw [vmS_set] at b
  exact ⟨w', a, b, c⟩
theorem MapS.del {w : World} {b : Nat} {m : Nums} (h : MapS w b m) (key : ByteArray) : ∃ w', (Builtin.delete_ #[64, 9] 0 #[.map (some b), .string key]).run Tryz.prog w = .ok (.tuple #[]) w' ∧ MapS w' b (adel m key) ∧ Upd (fun k => k = b) w w' := by
  obtain ⟨w', a, b, c⟩ := MapAt.del h keyS Tryz.underlying64 key 0
  rw [vmS_del] at b
  exact ⟨w', a, b, c⟩
theorem MapS.keep {w w' : World} {b : Nat} {m : Nums} (h : MapS w b m) {F : Nat → Prop} (u : Upd F w w') (hb : ¬ F b) : MapS w' b m := MapAt.keep h u hb
/-- The law's state in memory. -/
structure LastM (w wr : World) (base sb mb : Nat) (S : PS) (U : Nums) (N : Nat) : Prop where
  st : SSt wr base sb (fun q => q = mb) S N
  mp : MapS wr mb U
  up : Upd (fun _ => False) w wr
  lo : w.heap.size ≤ base
  mlo : base ≤ mb
section
variable {w wr w' : World} {base sb mb : Nat} {S S' : PS} {U U' : Nums} {N N' : Nat}
theorem LastM.keep0 (h : LastM w wr base sb mb S U N) (u : Upd (fun _ => False) wr w') : LastM w w' base sb mb S U N :=
  ⟨h.st.keep0 u, h.mp.keep u (fun h => h), h.up.trans u (fun _ _ h => h), h.lo, h.mlo⟩
theorem LastM.go (h : LastM w wr base sb mb S U N) (s : SSt w' base sb (fun q => q = mb) S' N') (u : Upd (Fr base (fun q => q = mb)) wr w') : LastM w w' base sb mb S' U N' :=
  ⟨s, h.mp.keep u (fun g => g.2 rfl), h.up.trans u (fun i hi g => by have := g.1; have := h.lo; omega), h.lo, h.mlo⟩
theorem LastM.map (h : LastM w wr base sb mb S U N) (m : MapS w' mb U') (u : Upd (fun k => k = mb) wr w') : LastM w w' base sb mb S U' N := by
  have hlow : lowB ≤ mb := by
    obtain ⟨s, Z, ⟨F, r, _⟩, _⟩ := h.st
    exact Nat.le_trans r.six h.mlo
  exact ⟨h.st.keepG u (fun b hb => ⟨hb, by rw [hb]; exact hlow⟩), m, h.up.trans u (fun i hi g => by have := h.lo; have := h.mlo; omega), h.lo, h.mlo⟩
end
set_option maxHeartbeats 16000000 in
set_option maxRecDepth 100000 in
theorem lawSLast (bud : Int) (v : Value) (l : List ByteArray) (w : World) (hs : Std w) (h : RowOf strc 1 w v l) : Calls Tryz.prog 5 #[.int .i64 bud, v] w fun e w' => e = .returned (.bool true) ∧ Upd (fun _ => False) w w' := by
  obtain ⟨p, c, ev, hm⟩ := h.len
  subst ev
  have HR := Lib.hid h
  have HS := Lib.hid hs
  have AL := Lib.hid (alive12_any w hs)
  clear h hs
  by_cases h1 : l.length ≤ 40
  · have t1 : decide ((l.length : Int) > 40) = false := decide_eq_false (by omega)
    by_cases h2 : 200 ≤ bud
    · have t2 : decide (bud < 200) = false := decide_eq_false (by omega)
      by_cases h3 : bud ≤ 2000
      · have t3 : decide (bud > 2000) = false := decide_eq_false (by omega)
        have nw : newP bud = ⟨[], bud, []⟩ := by unfold newP; congr 1; omega
        have HB := Lib.hid (And.intro h2 h3)
        have HL := Lib.hid h1
        clear h1 h2 h3
        go_enter Tryz.func5, Tryz.ntmps5
        go_wp2_with fail
        refine (AL.out).mono ?_
        rintro e w0 ⟨rfl, u0⟩
        have U0 := Lib.hid u0
        have NW := Lib.hid (snew_any bud w0 (HS.out.keep u0))
        rw [nw] at NW
        clear u0 AL nw
        go_wp2_with fail
        refine (NW.out).mono ?_
        rintro e w1 ⟨sb, rfl, s1, u1⟩
        have mk := run_makeMap (P := Tryz.prog) 64 w1
        have ua : Upd (fun _ => False) w1 (w1.alloc (.map #[] 0)) := (Upd.refl _ _).alloc _
        have I0 : Hid (∃ S U, LastI S U bud 0 ∧ LastM w (w1.alloc (.map #[] 0)) w0.heap.size sb w1.heap.size S U 0) := by
          refine ⟨⟨[], bud, []⟩, [], ⟨?_, rfl, rfl, by simp, by simp [akeys], fun x => by simp [aget, keysC], by simp, by simp, by simp⟩, ⟨s1.also ua (fun b hb => Or.inr (by subst hb; simp)), MapAt.made w1, (U0.out.trans u1 (fun _ _ h => h)).trans ua (fun _ _ h => h), U0.out.size, u1.size⟩⟩
          exact ⟨by simp [keysC], by simp, by simp, by have := HB.out; simp only; omega, by simp⟩
        generalize hbase : w0.heap.size = base at *
        clear s1 u1 NW ua U0 hbase
        go_wp2
        go_loopw [4, 34] (fun v4 x wr => v4 = .bool false ∧ ∃ k : Nat, k ≤ l.length ∧ x = .int .i64 (k : Int) ∧ Hid (∃ S U, LastI S U bud k ∧ LastM w wr base sb w1.heap.size S U k)) (fun _ x _ => l.length - (intOf x).toNat)
        case atStart => exact ⟨rfl, 0, by omega, rfl, I0⟩
        case round =>
          clear I0
          obtain ⟨rfl, k, hkl, rfl, I⟩ := hrel
          by_cases hlt : k < l.length
          · obtain ⟨x, hx⟩ : ∃ x, l[k]? = some x := ⟨_, List.getElem?_eq_getElem hlt⟩
            obtain ⟨S, U, LI, LM⟩ := I.out
            obtain ⟨b, off, cap, ev, hb, c0⟩ := str_cell HR.out hx
            injection ev with ev1 _ ev3
            subst ev1 ev3
            have c0 := (LM.up.cell (p := ⟨b, off + k, none⟩) hb (fun h => h)).trans c0
            have hbw : b < wr.heap.size := Nat.lt_of_lt_of_le hb LM.up.size
            have hq : (k : Int) < (l.length : Int) := by omega
            have LIh := Lib.hid LI
            have LMh := Lib.hid LM
            have hk40 : k ≤ 40 := by have := HL.out; omega
            have hl40 : l.length ≤ 40 := HL.out
            clear LI LM I hx
            by_cases hx1 : x.size ≤ 100
            · have tx : decide ((x.size : Int) > 100) = false := decide_eq_false (by omega)
              have HX := Lib.hid hx1
              clear hx1
              go_wp2_with fail
              refine (ten_any _).mono ?_
              rintro e w2 ⟨rfl, u2⟩
              have M2 := Lib.hid (LMh.out.keep0 u2)
              have PU := Lib.hid (sput_any M2.out.st x tenI (.slice none 0 0) false 0 (nofld _ _) (by have := HL.out; omega) (by have := HX.out; omega) (by rw [LIh.out.ev]; simp))
              have hpe : putE (dueP S x 0) x tenI = 0 := by rw [LIh.out.due]; exact LIh.out.err HX.out HB.out.1
              rw [hpe] at PU
              clear hpe u2 LMh
              go_wp2_with fail
              refine (PU.out).mono ?_
              rintro e w3 ⟨rfl, s3, u3⟩
              have M3 := Lib.hid (M2.out.go s3 u3)
              clear s3 u3 PU M2
              obtain ⟨a, LJ⟩ := LIh.out.put HX.out HB.out.1
              have LJh := Lib.hid LJ
              obtain ⟨w4, hr4, m4, u4⟩ := M3.out.mp.put x ((k : Int) + 1)
              have M4 := Lib.hid (M3.out.map m4 u4)
              clear LJ m4 u4 M3
              generalize putP S x tenI false 0 = S3 at *
              generalize aset U x ((k : Int) + 1) = U1 at *
              obtain ⟨tb, x0, hsb, TK⟩ := M4.out.st.tkeysAt (by have := HL.out; omega)
              have TKh := Lib.hid (TK w4 (Upd.refl _ _))
              have LO0 : Hid (LowO S3 U1 l.length ((l.length : Int) + 1)) := fun t h1 _ => h1
              clear TK
              go_wp2_with fail
              refine (TKh.out).mono ?_
              rintro e w5 ⟨vk, rfl, sk, u5⟩
              obtain ⟨pk, ck, ek, hkm⟩ := own_slice sk
              subst ek
              have M5 := Lib.hid (M4.out.keep0 u5)
              have SK := Lib.hid (StrsAt.row sk)
              have KM := Lib.hid (fun y => (sortStr_perm (keysC S3.cells)).mem_iff (a := y))
              generalize sortStr (keysC S3.cells) = ks at *
              have hk2 : ks.length ≤ 9223372036854775807 := by unfold maxLen at hkm; omega
              clear sk u5 TKh M4 x0
              go_wp2
              go_loopw [9, 60] (fun v9 x60 w6 => ∃ (j : Nat) (o : Int), j ≤ ks.length ∧ x60 = .int .i64 (j : Int) ∧ v9 = .int .i64 o ∧ Hid (LowO S3 U1 l.length o) ∧ Hid (Upd (fun _ => False) w5 w6)) (fun _ x60 _ => ks.length - (intOf x60).toNat)
              case atStart => exact ⟨0, (l.length : Int) + 1, by omega, rfl, by go_num, LO0, Upd.refl _ _⟩
              case round =>
                clear LO0
                obtain ⟨j, o, hjk, rfl, rfl, LO, UJ⟩ := hrel
                by_cases hjlt : j < ks.length
                · obtain ⟨y, hy⟩ : ∃ y, ks[j]? = some y := ⟨_, List.getElem?_eq_getElem hjlt⟩
                  obtain ⟨b2, off2, cap2, ev2, hb2, c2⟩ := str_cell SK.out hy
                  injection ev2 with ev21 _ ev23
                  subst ev21 ev23
                  have c2 := (UJ.out.cell (p := ⟨b2, off2 + j, none⟩) hb2 (fun h => h)).trans c2
                  have hq2 : (j : Int) < (ks.length : Int) := by omega
                  have hmem := (KM.out y).1 (List.mem_of_getElem? hy)
                  have LK := (M5.out.mp.keep UJ.out (fun h => h)).look y
                  have LO2 := Lib.hid (LO.out.min hmem)
                  clear hy hmem
                  generalize usedV U1 y = uy at *
                  go_wp2
                  go_roundw
                  case rel => exact ⟨j + 1, min o uy, by omega, by go_num, rfl, LO2, UJ⟩
                  case measure => simp [intOf]; omega
                · obtain rfl : j = ks.length := by omega
                  have M6 := Lib.hid (M5.out.keep0 UJ.out)
                  obtain ⟨D1, D2, D3⟩ := LJh.out.due
                  have PK := Lib.hid (speek_any M6.out.st x 0 (by have := HL.out; omega) (by have := HX.out; omega) (by
                    rw [LJh.out.ev]
                    have h1 := LJh.out.cl
                    have := HL.out
                    simp at h1 ⊢; omega))
                  rw [D1, D2, D3] at PK
                  unfold itV tenI at PK
                  have LOW := Lib.hid (LJh.out.low (n := l.length) (by omega) LO.out)
                  clear D1 D2 D3 M5 UJ LO SK KM
                  go_wp2_with fail
                  refine (PK.out).mono ?_
                  rintro e w7 ⟨v7, rfl, r7, s7, u7, f7⟩
                  obtain ⟨p7, c7, e7, _⟩ := r7.len
                  subst e7
                  have M7 := Lib.hid (M6.out.go (s7.less fun b hb => Or.inl hb) u7)
                  clear s7 u7 f7 r7 PK M6
                  have BYh := Lib.hid (fun W (u : Upd (fun _ => False) w7 W) => sbytes_any (M7.out.st.keep0 u))
                  have tb2 : decide (bytesC S3.cells > bud) = false := decide_eq_false (by have := LJh.out.fits; omega)
                  have ua : Upd (fun _ => False) w7 (w7.alloc (.cells #[.int .i64 1, .string { data := #[97, 98, 99, 100, 101, 102, 103, 104, 105, 106] }, .slice p7 0 c7] 24)) := (Upd.refl _ _).alloc _
                  go_wp2_with fail
                  refine ((BYh.out _ ua)).mono ?_
                  rintro e w8 ⟨rfl, rfl⟩
                  have M8 := Lib.hid (M7.out.keep0 ua)
                  have EVh := Lib.hid (sevents_any M8.out.st)
                  clear ua BYh M7
                  go_wp2_with fail
                  refine (EVh.out).mono ?_
                  rintro e w9 ⟨v9, rfl, o9, s9, u9⟩
                  have M9 := Lib.hid (M8.out.go (s9.less fun b hb => Or.inl hb) u9)
                  obtain ⟨p9, c9, e9, hm9, _⟩ := o9.slice
                  subst e9
                  have O9 := Lib.hid o9
                  have hev : S3.events.length ≤ 42 := by
                    rw [LJh.out.ev]
                    have h1 := LJh.out.cl
                    simp at h1 ⊢; omega
                  have NM : Hid (∀ q, fOf (.slice p9 S3.events.length c9) q → ¬ q = w1.heap.size) := fun q hq e => by
                    obtain ⟨_, _, cs, hB⟩ := o9.lt hq
                    exact MapAt.notCells M9.out.mp (by unfold Blk at hB; exact hB) e.symm
                  have UN := Lib.hid LJh.out.nd
                  clear s9 u9 o9 EVh M8
                  obtain ⟨evs, hevs⟩ : ∃ evs, S3.events = evs := ⟨_, rfl⟩
                  have HEV := Lib.hid hevs
                  rw [hevs] at hev O9 NM LOW hm9 ⊢
                  clear hevs
                  go_wp2
                  go_loopw [4, 87] (fun v4 x87 w10 => v4 = .bool false ∧ ∃ (j : Nat), j ≤ evs.length ∧ x87 = .int .i64 (j : Int) ∧ Hid (LastM w w10 base sb w1.heap.size { S3 with events := [] } (delE U1 (evs.take j)) (k + 1)) ∧ Hid (RowOf evc 2 w10 (.slice p9 evs.length c9) evs)) (fun _ x87 _ => evs.length - (intOf x87).toNat)
                  case atStart => exact ⟨rfl, 0, by omega, rfl, M9.out, O9.out.row (fun _ => rfl)⟩
                  case round =>
                    clear M9 O9
                    obtain ⟨rfl, i, hie, rfl, MI, RI⟩ := hrel
                    by_cases hilt : i < evs.length
                    · obtain ⟨d, hd⟩ : ∃ d, evs[i]? = some d := ⟨_, List.getElem?_eq_getElem hilt⟩
                      obtain ⟨b3, off3, cap3, ev3, hb3, d0, d1⟩ := ev_cells RI.out hd
                      injection ev3 with ev31 _ ev33
                      subst ev31 ev33
                      have hq3 : (i : Int) < (evs.length : Int) := by omega
                      have hmem := List.mem_of_getElem? hd
                      have TS : Hid (evs.take (i + 1) = evs.take i ++ [d]) := by
                        obtain ⟨g1, g2⟩ := List.getElem?_eq_some_iff.1 hd
                        show _ = _
                        rw [List.take_succ_eq_append_getElem g1, g2]
                      obtain ⟨dk, dx⟩ := d
                      simp only at d0 d1
                      have ub : Upd (fun _ => False) wr (wr.alloc (.cells #[.int .i64 dk, .string dx] 61)) := (Upd.refl _ _).alloc _
                      have MB := Lib.hid (MI.out.keep0 ub)
                      have RB := Lib.hid (RI.out.keep ub (fun _ _ _ h => h))
                      clear hd ub
                      by_cases h4 : dk = 4
                      · subst h4
                        have hle := (LOW.out).2 dx hmem
                        have hle2 := delE_le UN.out (evs.take i) LOW.out.1 hle
                        have LK := MB.out.mp.look dx
                        obtain ⟨w11, hr11, m11, u11⟩ := MB.out.mp.del dx
                        have DS : Hid (delE U1 (evs.take (i + 1)) = adel (delE U1 (evs.take i)) dx) := by
                          show _ = _
                          rw [TS.out, delE_snoc]; simp
                        have M11 : Hid (LastM w w11 base sb w1.heap.size { S3 with events := [] } (delE U1 (evs.take (i + 1))) (k + 1)) := by
                          show LastM _ _ _ _ _ _ _ _
                          rw [DS.out]; exact MB.out.map m11 u11
                        have R11 := Lib.hid (RB.out.keep u11 (fun q _ hq e => NM.out q hq e))
                        generalize usedV (delE U1 (evs.take i)) dx = ux at *
                        have tg : decide (ux > o) = false := decide_eq_false (by omega)
                        clear m11 u11 hle hle2 hmem MI RI
                        go_wp2
                        go_roundw
                        case rel => exact ⟨rfl, i + 1, by omega, by go_num, M11, R11⟩
                        case measure => simp [intOf]; omega
                      · have t4 : (dk == 4) = false := beq_false_of_ne h4
                        have DS : Hid (delE U1 (evs.take (i + 1)) = delE U1 (evs.take i)) := by
                          show _ = _
                          rw [TS.out, delE_snoc]; simp [h4]
                        have M11 : Hid (LastM w (wr.alloc (.cells #[.int .i64 dk, .string dx] 61)) base sb w1.heap.size { S3 with events := [] } (delE U1 (evs.take (i + 1))) (k + 1)) := by
                          show LastM _ _ _ _ _ _ _ _
                          rw [DS.out]; exact MB.out
                        clear hmem MI RI h4
                        go_wp2
                        go_roundw
                        case rel => exact ⟨rfl, i + 1, by omega, by go_num, M11, RB⟩
                        case measure => simp [intOf]; omega
                    · obtain rfl : i = evs.length := by omega
                      have LN := LJh.out.next
                      rw [HEV.out] at LN
                      rw [List.take_length] at MI
                      have LNh := Lib.hid LN
                      clear LN
                      go_wp2
                      go_roundw
                      case rel => exact ⟨rfl, k + 1, by omega, by go_num, _, _, LNh.out, MI.out⟩
                      case measure => simp [intOf]; omega
            · have tx : decide ((x.size : Int) > 100) = true := decide_eq_true (by omega)
              go_wp2
              go_ret
              exact ⟨rfl, LMh.out.up⟩
          · obtain rfl : k = l.length := by omega
            obtain ⟨S, U, LI, LM⟩ := I.out
            obtain ⟨tb, x0, hsb, TL⟩ := LM.st.tlenAt (by have := HL.out; omega)
            have TLh := Lib.hid (TL wr (Upd.refl _ _))
            have hln := LI.len
            have hcl := LI.cl
            rw [hln] at TLh hcl
            have hl40 : l.length ≤ 40 := HL.out
            have UPh := Lib.hid LM.up
            have MPh := Lib.hid LM.mp
            clear LI LM I TL hln
            go_wp2_with fail
            refine (TLh.out).mono ?_
            rintro e w2 ⟨rfl, u2⟩
            have ML := MapAt.len (P := Tryz.prog) (MPh.out.keep u2 (fun h => h)) 3 Tryz.underlying64 (by simp [vmS]; omega)
            have hvl : (vmS U).length = U.length := by simp [vmS]
            rw [hvl] at ML
            have UU := Lib.hid (UPh.out.trans u2 (fun _ _ h => h))
            clear u2
            go_wp2
            go_ret
            exact ⟨by simp, UU.out⟩
      · have t3 : decide (bud > 2000) = true := decide_eq_true (by omega)
        go_enter Tryz.func5, Tryz.ntmps5
        go_wp2_with fail
        refine (AL.out).mono ?_
        rintro e w0 ⟨rfl, u0⟩
        have U0 := Lib.hid u0
        clear u0
        go_wp2
        go_ret
        exact ⟨rfl, U0.out⟩
    · have t2 : decide (bud < 200) = true := decide_eq_true (by omega)
      go_enter Tryz.func5, Tryz.ntmps5
      go_wp2_with fail
      refine (AL.out).mono ?_
      rintro e w0 ⟨rfl, u0⟩
      have U0 := Lib.hid u0
      clear u0
      go_wp2
      go_ret
      exact ⟨rfl, U0.out⟩
  · have t1 : decide ((l.length : Int) > 40) = true := decide_eq_true (by omega)
    go_enter Tryz.func5, Tryz.ntmps5
    go_wp2_with fail
    refine (AL.out).mono ?_
    rintro e w0 ⟨rfl, u0⟩
    have U0 := Lib.hid u0
    clear u0
    go_wp2
    go_ret
    exact ⟨rfl, U0.out⟩
end Go.Proofs.YtcdihffcncaibaaGreatDoor
/- StoreSweeps, plain. -/
set_option linter.unusedVariables false
set_option linter.unusedSimpArgs false
namespace Go.Proofs.YtcdihffcncaibaaGreatDoor
open Go.RowKit

/-- Where the law stands behind k dues. -/
structure SwI (S : PS) (W : Nums) (k : Nat) : Prop where
  ok : POk S
  hbud : S.budget = 100000000
  all : ∀ c ∈ S.cells, c.item = tenI ∧ c.key.size ≤ 100
  nd : (akeys W).Nodup
  km : ∀ x, (aget W x).isSome = decide (x ∈ keysC S.cells)
  val : ∀ c ∈ S.cells, aget W c.key = some c.when ∧ 1 ≤ c.when ∧ c.when ≤ 1000000
  cl : S.cells.length ≤ k
  evl : S.events.length ≤ 2 * k
theorem notDue {S : PS} {key : ByteArray} (h : ∀ c, lookC S.cells key = some c → ¬ (0 ≤ c.when ∧ c.when ≤ 0)) : dueP S key 0 = S := by
  unfold dueP
  have : isDue S.cells key 0 = false := by
    unfold isDue
    cases hl : lookC S.cells key with
    | none => rfl
    | some c =>
      have := h c hl
      simp only
      rw [Bool.and_eq_false_iff, decide_eq_false_iff_not, decide_eq_false_iff_not]
      omega
  rw [this, if_neg (by simp)]
theorem setC_laid {l : List Ce} {key : ByteArray} {i : It} {t t' : Int} : setC (delC l key ++ [⟨key, i, t⟩]) key t' = delC l key ++ [⟨key, i, t'⟩] := by
  unfold setC
  rw [List.map_append]
  congr 1
  · conv => rhs; rw [← List.map_id (delC l key)]
    apply List.map_congr_left
    intro c hc
    rw [if_neg (delC_mem.1 hc).2]; rfl
  · simp
theorem bytes_ten {l : List Ce} (h : ∀ c ∈ l, c.item = tenI ∧ c.key.size ≤ 100) : bytesC l ≤ 158 * (l.length : Int) := by
  induction l with
  | nil => simp [bytesC]
  | cons c r ih =>
    have h1 := h c (by simp)
    have h2 := ih (fun d hd => h d (by simp [hd]))
    simp only [bytesC, List.length_cons]
    rw [h1.1, ten_cost]; omega
/-- A key more, that ends then. -/
def swStep (S : PS) (key : ByteArray) (t : Int) : PS := ⟨delC S.cells key ++ [⟨key, tenI, t⟩], S.budget, S.events ++ [(1, key)] ++ [(1, key)]⟩
theorem SwI.put {S : PS} {W : Nums} {k : Nat} (h : SwI S W k) (hk : k ≤ 30) {key : ByteArray} (hs : key.size ≤ 100) : putE (dueP S key 0) key tenI = 0 ∧ putP S key tenI false 0 = ⟨delC S.cells key ++ [⟨key, tenI, -1⟩], S.budget, S.events ++ [(1, key)]⟩ := by
  have hd : dueP S key 0 = S := notDue fun c hc => by have := (h.val c (lookC_some hc).1).2.1; omega
  have he : putE S key tenI = 0 := by
    unfold putE
    rw [if_neg (by rw [not_or]; exact ⟨by omega, by rw [ten_small]; simp⟩), if_neg (by rw [ten_cost, h.hbud]; omega)]
  refine ⟨by rw [hd]; exact he, ?_⟩
  unfold putP
  rw [hd, if_pos he]
  show evictP (laidP S key tenI false) = _
  have hb : bytesC (laidP S key tenI false).cells ≤ (laidP S key tenI false).budget := by
    have h1 : ∀ c ∈ (laidP S key tenI false).cells, c.item = tenI ∧ c.key.size ≤ 100 := fun c hc => by
      rcases List.mem_append.1 hc with g | g
      · exact h.all c (delC_mem.1 g).1
      · obtain rfl := List.mem_singleton.1 g; exact ⟨rfl, hs⟩
    have h2 := bytes_ten h1
    have h3 : (laidP S key tenI false).cells.length ≤ 31 := by
      show (delC S.cells key ++ [_]).length ≤ 31
      rw [List.length_append]
      have := delC_len S.cells key
      have := h.cl
      simp; omega
    have h4 : (laidP S key tenI false).budget = 100000000 := h.hbud
    rw [h4]; omega
  rw [evict_stop hb]
  rfl
theorem SwI.exp {S : PS} {W : Nums} {k : Nat} (h : SwI S W k) {key : ByteArray} {t : Int} (h1 : 1 ≤ t) (h2 : t ≤ 1000000) :
    dueP ⟨delC S.cells key ++ [⟨key, tenI, -1⟩], S.budget, S.events ++ [(1, key)]⟩ key 0 = ⟨delC S.cells key ++ [⟨key, tenI, -1⟩], S.budget, S.events ++ [(1, key)]⟩ ∧
    wasP ⟨delC S.cells key ++ [⟨key, tenI, -1⟩], S.budget, S.events ++ [(1, key)]⟩ key = true ∧
    expireP ⟨delC S.cells key ++ [⟨key, tenI, -1⟩], S.budget, S.events ++ [(1, key)]⟩ key t 0 = swStep S key t := by
  have hl : lookC (delC S.cells key ++ [⟨key, tenI, -1⟩]) key = some ⟨key, tenI, -1⟩ := by
    rw [lookC_app, lookC_delC, if_pos rfl]; simp
  have hd : dueP ⟨delC S.cells key ++ [⟨key, tenI, -1⟩], S.budget, S.events ++ [(1, key)]⟩ key 0 = ⟨delC S.cells key ++ [⟨key, tenI, -1⟩], S.budget, S.events ++ [(1, key)]⟩ := notDue fun c hc => by
    rw [hl] at hc
    cases hc
    simp
  have hw : wasP ⟨delC S.cells key ++ [⟨key, tenI, -1⟩], S.budget, S.events ++ [(1, key)]⟩ key = true := decide_eq_true (by simp [keysC])
  refine ⟨hd, hw, ?_⟩
  unfold expireP
  rw [hd, hw, if_pos rfl, if_neg (by omega)]
  unfold swStep
  simp only
  rw [setC_laid]
  have : min t 4611686018427387904 = t := by omega
  rw [this]
theorem SwI.step {S : PS} {W : Nums} {k : Nat} (h : SwI S W k) (hk : k ≤ 30) {key : ByteArray} (hs : key.size ≤ 100) {t : Int} (h1 : 1 ≤ t) (h2 : t ≤ 1000000) (hok : POk (swStep S key t)) : SwI (swStep S key t) (aset W key t) (k + 1) := by
  have hmem : ∀ c, c ∈ (swStep S key t).cells ↔ (c ∈ S.cells ∧ c.key ≠ key) ∨ c = ⟨key, tenI, t⟩ := fun c => by
    show c ∈ delC S.cells key ++ [_] ↔ _
    rw [List.mem_append, delC_mem, List.mem_singleton]
  refine ⟨hok, h.hbud, fun c hc => ?_, nodup_aset h.nd _ _, fun x => ?_, fun c hc => ?_, ?_, ?_⟩
  · rcases (hmem c).1 hc with ⟨g, _⟩ | rfl
    · exact h.all c g
    · exact ⟨rfl, hs⟩
  · show (aget (aset W key t) x).isSome = decide (x ∈ keysC (delC S.cells key ++ [⟨key, tenI, t⟩]))
    rw [aget_aset]
    by_cases e : key = x
    · subst e; simp [keysC]
    · rw [if_neg e, h.km, ← lookC_isSome, ← lookC_isSome, lookC_app, lookC_delC, if_neg (fun g => e g.symm)]; simp [e]
  · rcases (hmem c).1 hc with ⟨g, g2⟩ | rfl
    · rw [aget_aset, if_neg (fun e => g2 e.symm)]; exact h.val c g
    · exact ⟨by rw [aget_aset, if_pos rfl], h1, h2⟩
  · show (delC S.cells key ++ [_]).length ≤ k + 1
    rw [List.length_append]; have := delC_len S.cells key; have := h.cl; simp; omega
  · show (S.events ++ [(1, key)] ++ [(1, key)]).length ≤ 2 * (k + 1)
    have := h.evl
    simp; omega
theorem takeWhile_p {α : Type} {p : α → Bool} : ∀ {l : List α} {x : α}, x ∈ l.takeWhile p → p x = true
  | [], x, h => by simp at h
  | y :: r, x, h => by
    rw [List.takeWhile_cons] at h
    split at h
    · next hp =>
      rcases List.mem_cons.1 h with rfl | g
      · exact hp
      · exact takeWhile_p g
    · simp at h
/-- The dues that are swept, in order. -/
def swD (S : PS) (now most : Int) : List DueP := (dueD now (duesC S.cells)).take most.toNat
theorem swD_pre (S : PS) (now most : Int) : ∃ R, duesC S.cells = swD S now most ++ R ∧ (∀ d ∈ swD S now most, d.1 ≤ now) ∧ ((swD S now most).length < most.toNat → ∀ d ∈ duesC S.cells, d.1 ≤ now → Rise (duesC S.cells) → d ∈ swD S now most) := by
  unfold swD
  refine ⟨(dueD now (duesC S.cells)).drop most.toNat ++ (duesC S.cells).dropWhile (fun d => decide (d.1 ≤ now)), ?_, fun d hd => ?_, fun hlt d hd hn hr => ?_⟩
  · rw [← List.append_assoc, List.take_append_drop]
    unfold dueD
    exact List.takeWhile_append_dropWhile.symm
  · have := List.mem_of_mem_take hd
    unfold dueD at this
    have := takeWhile_p this
    simpa using this
  · rw [List.length_take] at hlt
    rw [List.take_of_length_le (by omega)]
    rw [← dueD_filter hr]
    exact List.mem_filter.2 ⟨hd, by simpa using hn⟩
theorem goneL_eq {S : PS} : ∀ {l : List ByteArray}, l.Nodup → (∀ x ∈ l, x ∈ keysC S.cells) → goneL S l = ⟨S.cells.filter (fun c => decide (c.key ∉ l)), S.budget, S.events ++ l.map fun x => ((3 : Int), x)⟩ := by
  intro l
  induction l generalizing S with
  | nil =>
    intro _ _
    unfold goneL
    obtain ⟨a, b, c⟩ := S
    simp
    exact (List.filter_eq_self.2 fun _ _ => rfl).symm
  | cons x r ih =>
    intro hn hm
    have hx := List.nodup_cons.1 hn
    have e : goneL S (x :: r) = goneL (goneP S x 3) r := rfl
    have hg : goneP S x 3 = ⟨delC S.cells x, S.budget, S.events ++ [(3, x)]⟩ := if_pos (hm x (by simp))
    rw [e, hg, ih hx.2 (fun y hy => by
      show y ∈ keysC (delC S.cells x)
      rw [delC_keys]
      refine List.mem_filter.2 ⟨hm y (by simp [hy]), ?_⟩
      have : y ≠ x := fun e => hx.1 (e ▸ hy)
      simpa using this)]
    congr 1
    · show (delC S.cells x).filter _ = _
      unfold delC
      rw [List.filter_filter]
      apply List.filter_congr
      intro c _
      by_cases g : c.key = x <;> by_cases g2 : c.key ∈ r <;> simp [g, g2]
    · simp
def delK (W : Nums) (l : List ByteArray) : Nums := l.foldl adel W
theorem delK_snoc (W : Nums) (l : List ByteArray) (x : ByteArray) : delK W (l ++ [x]) = adel (delK W l) x := by
  unfold delK; rw [List.foldl_append]; rfl
theorem delK_nd {W : Nums} (h : (akeys W).Nodup) (l : List ByteArray) : (akeys (delK W l)).Nodup := by
  unfold delK
  induction l generalizing W with
  | nil => exact h
  | cons x r ih => exact ih (nodup_adel h x)
theorem delK_get {W : Nums} (h : (akeys W).Nodup) (l : List ByteArray) (x : ByteArray) : aget (delK W l) x = if x ∈ l then none else aget W x := by
  unfold delK
  induction l generalizing W with
  | nil => simp
  | cons y r ih =>
    rw [List.foldl_cons, ih (nodup_adel h y), aget_adel h]
    by_cases g : y = x
    · subst g; simp
    · have g2 : ¬ x = y := fun q => g q.symm
      simp [g, g2]
section
variable {S : PS} {W : Nums} {k : Nat} {now most : Int}
theorem SwI.due (h : SwI S W k) {d : DueP} (hd : d ∈ duesC S.cells) : aget W d.2 = some d.1 ∧ d.2 ∈ keysC S.cells := by
  obtain ⟨c, hc, _, rfl⟩ := duesC_mem.1 hd
  exact ⟨(h.val c hc).1, List.mem_map.2 ⟨c, hc, rfl⟩⟩
theorem SwI.dues_nd (h : SwI S W k) : ((duesC S.cells).map (·.2)).Nodup := by
  have hr := duesC_rise h.ok.nd
  rw [List.nodup_iff_pairwise_ne, List.pairwise_map]
  refine hr.imp_of_mem fun {a b} ha hb hab e => ?_
  have h1 := (h.due ha).1
  have h2 := (h.due hb).1
  rw [e, h2] at h1
  have : a = b := Prod.ext (Option.some.inj h1).symm e
  subst this
  exact ltD_irrefl _ hab
theorem SwI.sw_nd (h : SwI S W k) (now most : Int) : ((swD S now most).map (·.2)).Nodup := by
  obtain ⟨R, e, _⟩ := swD_pre S now most
  have := h.dues_nd
  rw [e, List.map_append] at this
  exact (List.nodup_append.1 this).1
theorem SwI.sw_mem (h : SwI S W k) {d : DueP} (hd : d ∈ swD S now most) : d ∈ duesC S.cells := by
  obtain ⟨R, e, _⟩ := swD_pre S now most
  rw [e]; exact List.mem_append_left _ hd
theorem SwI.swept (h : SwI S W k) (hev : S.events = []) : sweepP S now most = ⟨S.cells.filter (fun c => decide (c.key ∉ (swD S now most).map (·.2))), S.budget, (swD S now most).map fun d => ((3 : Int), d.2)⟩ := by
  have e : sweepL S now most = (swD S now most).map (·.2) := rfl
  unfold sweepP
  rw [e, goneL_eq (h.sw_nd now most) (fun x hx => by
    obtain ⟨d, hd, rfl⟩ := List.mem_map.1 hx
    exact (h.due (h.sw_mem hd)).2), hev, List.map_map]
  rfl
/-- What the map holds in the end. -/
theorem SwI.rest (h : SwI S W k) {x : ByteArray} {t : Int} (hx : aget (delK W ((swD S now most).map (·.2))) x = some t) :
    ((swD S now most).length < most.toNat → now < t) ∧ ∀ d ∈ swD S now most, d.1 ≤ t := by
  rw [delK_get h.nd] at hx
  split at hx
  · cases hx
  · next hn =>
    have hk : x ∈ keysC S.cells := by
      have := h.km x
      rw [hx] at this; simpa using this.symm
    obtain ⟨c, hc, rfl⟩ := List.mem_map.1 hk
    obtain ⟨h1, h2, h3⟩ := h.val c hc
    rw [h1] at hx
    have et : c.when = t := Option.some.inj hx
    have hd : (c.when, c.key) ∈ duesC S.cells := duesC_mem.2 ⟨c, hc, by omega, rfl⟩
    obtain ⟨R, e, e2, e3⟩ := swD_pre S now most
    have hnm : (c.when, c.key) ∉ swD S now most := fun g => hn (List.mem_map.2 ⟨_, g, rfl⟩)
    refine ⟨fun hlt => ?_, fun d hdm => ?_⟩
    · refine Classical.byContradiction fun hle => hnm (e3 hlt _ hd (by simp only; omega) (duesC_rise h.ok.nd))
    · have hr := duesC_rise h.ok.nd
      rw [e] at hd hr
      rcases List.mem_append.1 hd with g | g
      · exact absurd g hnm
      · have := (List.pairwise_append.1 hr).2.2 d hdm _ g
        rcases this with q | ⟨q, _⟩
        · simp only at q; omega
        · simp only at q; omega
theorem SwI.len (h : SwI S W k) (l : List ByteArray) : (S.cells.filter (fun c => decide (c.key ∉ l))).length = (delK W l).length := by
  have hn : (keysC (S.cells.filter (fun c => decide (c.key ∉ l)))).Nodup := by
    unfold keysC
    exact (List.filter_sublist.map _).nodup h.ok.nd
  have hp : (akeys (delK W l)).Perm (keysC (S.cells.filter (fun c => decide (c.key ∉ l)))) := (List.perm_ext_iff_of_nodup (delK_nd h.nd l) hn).2 fun x => by
    have h1 := h.km x
    have h2 := delK_get h.nd l x
    have h3 : x ∈ akeys (delK W l) ↔ (aget (delK W l) x).isSome = true := by
      cases hk : aget (delK W l) x with
      | none => simp [aget_none.1 hk]
      | some b => simp; exact Decidable.not_not.1 fun hh => by rw [aget_none.2 hh] at hk; cases hk
    rw [h3, h2]
    have h4 : x ∈ keysC (S.cells.filter (fun c => decide (c.key ∉ l))) ↔ x ∈ keysC S.cells ∧ x ∉ l := by
      unfold keysC
      rw [List.mem_map, List.mem_map]
      constructor
      · rintro ⟨c, hc, rfl⟩
        obtain ⟨g1, g2⟩ := List.mem_filter.1 hc
        exact ⟨⟨c, g1, rfl⟩, by simpa using g2⟩
      · rintro ⟨⟨c, hc, rfl⟩, g2⟩
        exact ⟨c, List.mem_filter.2 ⟨hc, by simpa using g2⟩, rfl⟩
    rw [h4]
    by_cases g : x ∈ l
    · simp [g]
    · rw [if_neg g, h1]; simp [g]
  have := hp.length_eq
  simpa [akeys, keysC] using this.symm
/-- The last one that was swept. -/
def lastV (D : List DueP) (j : Nat) : Int := if j = 0 then 0 else ((D[j - 1]?).map (·.1)).getD 0
/-- What the walk asks of the dues that were swept. -/
structure SwF (D : List DueP) (W : Nums) (now most : Int) : Prop where
  nd : (akeys W).Nodup
  up : ∀ d ∈ D, d.1 ≤ now ∧ aget W d.2 = some d.1 ∧ 0 ≤ d.1
  ord : D.Pairwise fun a b => a.1 ≤ b.1
  knd : (D.map (·.2)).Nodup
  len : D.length ≤ most.toNat
  rest : ∀ x t, aget (delK W (D.map (·.2))) x = some t → (D.length < most.toNat → now < t) ∧ ∀ d ∈ D, d.1 ≤ t
  ksz : ∀ x ∈ akeys (delK W (D.map (·.2))), x.size ≤ maxLen
  wl : (delK W (D.map (·.2))).length ≤ 1000
theorem SwI.facts (h : SwI S W k) (hk : k ≤ 1000) : SwF (swD S now most) W now most := by
  obtain ⟨R, e, e2, e3⟩ := swD_pre S now most
  have hr := duesC_rise h.ok.nd
  rw [e] at hr
  refine ⟨h.nd, fun d hd => ⟨e2 d hd, (h.due (h.sw_mem hd)).1, ?_⟩, ?_, h.sw_nd now most, ?_, fun x t hx => h.rest hx, fun x hx => ?_, ?_⟩
  · obtain ⟨c, hc, g, rfl⟩ := duesC_mem.1 (h.sw_mem hd)
    exact g
  · exact (List.pairwise_append.1 hr).1.imp fun {a b} g => by
      rcases g with g | ⟨g, _⟩ <;> omega
  · unfold swD; rw [List.length_take]; omega
  · have : (aget (delK W ((swD S now most).map (·.2))) x).isSome = true := by
      cases hk : aget (delK W ((swD S now most).map (·.2))) x with
      | none => exact absurd hx (aget_none.1 hk)
      | some b => rfl
    rw [delK_get h.nd] at this
    split at this
    · cases this
    · rw [h.km] at this
      obtain ⟨c, hc, rfl⟩ := List.mem_map.1 (of_decide_eq_true this)
      have := (h.all c hc).2
      unfold maxLen; omega
  · rw [← h.len]
    have := List.length_filter_le (fun c => decide (c.key ∉ (swD S now most).map (·.2))) S.cells
    have := h.cl
    omega
end
theorem SwF.look {D : List DueP} {W : Nums} {now most : Int} (f : SwF D W now most) {j : Nat} {d : DueP} (hd : D[j]? = some d) : usedV (delK W ((D.take j).map (·.2))) d.2 = d.1 ∧ d.1 ≤ now ∧ lastV D j ≤ d.1 ∧ lastV D (j + 1) = d.1 ∧ delK W ((D.take (j + 1)).map (·.2)) = adel (delK W ((D.take j).map (·.2))) d.2 := by
  obtain ⟨g1, g2⟩ := List.getElem?_eq_some_iff.1 hd
  have hm := List.mem_of_getElem? hd
  obtain ⟨u1, u2, u3⟩ := f.up d hm
  have et : D.take (j + 1) = D.take j ++ [d] := by rw [List.take_succ_eq_append_getElem g1, g2]
  have hnot : d.2 ∉ (D.take j).map (·.2) := fun g => by
    have h1 := f.knd
    rw [← List.take_append_drop (j + 1) D, List.map_append, et, List.map_append] at h1
    have h2 := (List.nodup_append.1 h1).1
    exact (List.nodup_append.1 h2).2.2 _ g _ (by simp) rfl
  refine ⟨?_, u1, ?_, ?_, ?_⟩
  · unfold usedV; rw [delK_get f.nd, if_neg hnot, u2]; rfl
  · unfold lastV
    split
    · exact u3
    · next hj =>
      have hj1 : j - 1 < D.length := by omega
      rw [List.getElem?_eq_getElem hj1]
      have := List.pairwise_iff_getElem.1 f.ord (j - 1) j hj1 g1 (by omega)
      rw [g2] at this
      exact this
  · unfold lastV; simp [hd]
  · rw [et, List.map_append]; exact delK_snoc _ _ _
theorem SwF.last {D : List DueP} {W : Nums} {now most : Int} (f : SwF D W now most) {x : ByteArray} {t : Int} (hx : aget (delK W (D.map (·.2))) x = some t) : ((D.length : Int) < most → now < t) ∧ (0 < (D.length : Int) → lastV D D.length ≤ t) := by
  obtain ⟨h1, h2⟩ := f.rest x t hx
  refine ⟨fun h => h1 (by omega), fun h => ?_⟩
  unfold lastV
  rw [if_neg (by omega)]
  have hj1 : D.length - 1 < D.length := by omega
  rw [List.getElem?_eq_getElem hj1]
  exact h2 _ (List.getElem_mem _)
end Go.Proofs.YtcdihffcncaibaaGreatDoor
