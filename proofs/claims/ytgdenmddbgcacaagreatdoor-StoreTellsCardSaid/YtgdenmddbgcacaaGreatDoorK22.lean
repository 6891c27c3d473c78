/- The document's items: Right. -/
import Derived.Test.YtgdenmddbgcacaaGreatDoorK21
import Derived.RegionTactic
set_option linter.unusedVariables false
set_option linter.unusedSimpArgs false
namespace Go.Proofs.YtgdenmddbgcacaaGreatDoor
open Go.RowKit

set_option maxHeartbeats 8000000 in
set_option maxRecDepth 100000 in
theorem rright_any (i : It) (v : Value) (w : World) (hv : RowOf fdc 2 w v i.flds) :
    Calls Tryz.prog 59 #[itV i v] w fun e w' => e = .returned (.bool (rightI i)) ∧ Upd (fun _ => False) w w' := by
  obtain ⟨kind, text, l⟩ := i
  obtain ⟨p, c, ev, hm⟩ := hv.len
  simp only at ev hm hv
  subst ev
  show Calls _ _ #[.agg #[.int .i64 kind, .string text, .slice p l.length c]] _ _
  have hml := hm
  unfold maxLen at hml
  have U0 : Hid (Upd (fun _ => False) w (w.alloc (.cells #[.int .i64 kind, .string text, .slice p l.length c] 31))) := (Upd.refl _ _).alloc _
  by_cases h1 : kind = 1
  · subst h1
    by_cases h2 : text.size ≤ 4096
    · have t2 : decide ((text.size : Int) ≤ 4096) = true := decide_eq_true (by omega)
      by_cases h3 : l = []
      · have R : rightI ⟨1, text, l⟩ = true := by unfold rightI; simp [h2, h3]
        have t3 : ((l.length : Int) == 0) = true := by rw [h3]; rfl
        rw [R]
        clear R h2 h3 hv
        go_enter Tryz.func59, Tryz.ntmps59
        go_wp2
        go_ret
        exact ⟨rfl, U0.out⟩
      · have R : rightI ⟨1, text, l⟩ = false := by unfold rightI; simp [h3]
        have t3 : ((l.length : Int) == 0) = false := by
          have := List.length_pos_iff.2 h3
          exact beq_false_of_ne (by omega)
        rw [R]
        clear R h2 h3 hv
        go_enter Tryz.func59, Tryz.ntmps59
        go_wp2
        go_ret
        exact ⟨rfl, U0.out⟩
    · have t2 : decide ((text.size : Int) ≤ 4096) = false := decide_eq_false (by omega)
      have R : rightI ⟨1, text, l⟩ = false := by unfold rightI; simp [h2]
      rw [R]
      clear R h2 hv
      go_enter Tryz.func59, Tryz.ntmps59
      go_wp2
      go_ret
      exact ⟨rfl, U0.out⟩
  · have k1 : (kind == 1) = false := beq_false_of_ne h1
    by_cases h2 : kind = 2
    · subst h2
      have HP : Hid (rightI ⟨2, text, l⟩ = (decide (text.size = 0) && decide (1 ≤ l.length) && decide (l.length ≤ 256) && fOk none l)) := by show _ = _; unfold rightI; simp
      by_cases g1 : text.size = 0
      · have e1 : text = { data := #[] } := by
          apply ByteArray.ext
          have : text.data.size = 0 := g1
          exact Array.eq_empty_of_size_eq_zero this
        have t1 : text.toList = [] := by rw [e1, ByteArray.toList_eq]
        by_cases g2 : 1 ≤ l.length
        · have t2 : ((l.length : Int) == 0) = false := beq_false_of_ne (by omega)
          by_cases g3 : l.length ≤ 256
          · have t3 : decide ((l.length : Int) > 256) = false := decide_eq_false (by omega)
            have HV := Lib.hid hv
            have BX : Hid (Blk (w.alloc (.cells #[.int .i64 2, .string text, .slice p l.length c] 31)) w.heap.size [.int .i64 2, .string text, .slice p l.length c] 31) := Blk.made _ _ _
            have HQ : Hid (rightI ⟨2, text, l⟩ = fOk none l) := by show _ = _; rw [HP.out]; simp [g1, g2, g3]
            rw [HQ.out]
            clear hv HQ HP g1 g2 g3 e1
            go_enter Tryz.func59, Tryz.ntmps59
            go_wp2
            go_loopw [2, 41] (fun v2 x wr => v2 = .bool false ∧ ∃ (k : Nat), k ≤ l.length ∧ x = .int .i64 (k : Int) ∧ Hid (fOk none l = fOk (prevF l k) (l.drop k)) ∧ Hid (Upd (fun _ => False) (w.alloc (.cells #[.int .i64 2, .string text, .slice p l.length c] 31)) wr)) (fun _ x _ => l.length - (intOf x).toNat)
            case atStart => exact ⟨rfl, 0, by omega, rfl, rfl, Upd.refl _ _⟩
            case round =>
              obtain ⟨rfl, k, hkl, rfl, FO, U⟩ := hrel
              have UW := Lib.hid (U0.out.trans U.out (fun _ _ h => h))
              by_cases hlt : k < l.length
              · obtain ⟨d, hd⟩ : ∃ d, l[k]? = some d := ⟨_, List.getElem?_eq_getElem hlt⟩
                have FD := Lib.hid (fOk_drop hd)
                obtain ⟨b, off, cap, ev, hb, c0, c1⟩ := fd_cells HV.out hd
                injection ev with ev1 _ ev3
                subst ev1 ev3
                have c0 := (UW.out.cell (p := ⟨b, off + k * 2, none⟩) hb (fun h => h)).trans c0
                have c1 := (UW.out.cell (p := ⟨b, off + k * 2 + 1, none⟩) hb (fun h => h)).trans c1
                have hq : (k : Int) < (l.length : Int) := by omega
                have hbr : b < wr.heap.size := Nat.lt_of_lt_of_le hb UW.out.size
                obtain ⟨d1, d2⟩ := d
                simp only at c0 c1 FD
                have U2 : Hid (Upd (fun _ => False) w (wr.alloc (.cells #[.string d1, .string d2] 69)).drew) := (UW.out.alloc _).drew
                have U3 : Hid (Upd (fun _ => False) (w.alloc (.cells #[.int .i64 2, .string text, .slice (some ⟨b, off, none⟩) l.length c] 31)) (wr.alloc (.cells #[.string d1, .string d2] 69)).drew) := (U.out.alloc _).drew
                by_cases s1 : d1.size ≤ 512
                · have q1 : decide ((d1.size : Int) > 512) = false := decide_eq_false (by omega)
                  by_cases s2 : d2.size ≤ 4096
                  · have q2 : decide ((d2.size : Int) > 4096) = false := decide_eq_false (by omega)
                    have FE := FD.out
                    rw [decide_eq_true s1, decide_eq_true s2, Bool.true_and, Bool.true_and] at FE
                    have FEh := Lib.hid FE
                    clear FE FD
                    cases k with
                    | zero =>
                      simp only [Nat.zero_mul, Nat.add_zero] at c0 c1
                      have FX : Hid (fOk none l = fOk (prevF l 1) (l.drop 1)) := by
                        show _ = _
                        rw [FO.out, FEh.out]; simp [prevF]
                      clear hd
                      go_wp2
                      go_region
                      go_wp2
                      go_roundw
                      case rel => exact ⟨rfl, 1, by omega, rfl, FX.out, U3.out⟩
                      case measure => simp [intOf]; omega
                    | succ j =>
                      have hjl : j < l.length := by omega
                      obtain ⟨pd, hpd⟩ : ∃ d, l[j]? = some d := ⟨_, List.getElem?_eq_getElem hjl⟩
                      obtain ⟨b2, off2, cap2, ev2, hb2, p0, p1⟩ := fd_cells HV.out hpd
                      injection ev2 with ev21 _ ev23
                      injection ev21 with ev21
                      injection ev21 with e1 e2 e3
                      subst e1 e2
                      clear ev23
                      have p0 := (UW.out.cell (p := ⟨b, off + j * 2, none⟩) hb (fun h => h)).trans p0
                      have hpv : prevF l (j + 1) = some pd.1 := by unfold prevF; simp [hpd]
                      obtain ⟨n1, n2⟩ := pd
                      simp only at p0 hpv
                      have BX2 := U.out.blk BX.out (fun h => h)
                      have bx2 := BX2.cellAt (i := 2) rfl
                      have lbx := BX2.lt
                      have wj : IntKind.i64.wrap (j : Int) = (j : Int) := i64w (by omega) (by omega)
                      have hj1 : (j : Int) < (l.length : Int) := by omega
                      have hj0 : (0 : Int) ≤ (j : Int) := by omega
                      have qj : decide (((j + 1 : Nat) : Int) > 0) = true := decide_eq_true (by omega)
                      clear hpd hd BX2 p1
                      cases hb2 : Op.bytesLess n1.toList d1.toList with
                      | false =>
                        have FX : Hid (fOk none l = false) := by show _ = _; rw [FO.out, FEh.out, hpv]; simp [hb2]
                        clear hpv
                        go_wp2
                        go_region
                        go_wp2
                        go_ret
                        rw [FX.out]
                        exact ⟨rfl, U2.out⟩
                      | true =>
                        have FX : Hid (fOk none l = fOk (prevF l (j + 1 + 1)) (l.drop (j + 1 + 1))) := by show _ = _; rw [FO.out, FEh.out, hpv]; simp [hb2]
                        clear hpv
                        go_wp2
                        go_region
                        go_wp2
                        go_roundw
                        case rel => exact ⟨rfl, j + 1 + 1, by omega, by go_num, FX.out, U3.out⟩
                        case measure => simp [intOf]; omega
                  · have q2 : decide ((d2.size : Int) > 4096) = true := decide_eq_true (by omega)
                    have FX : Hid (fOk none l = false) := by show _ = _; rw [FO.out, FD.out]; simp [s2]
                    clear hd FD
                    go_wp2
                    go_region
                    go_wp2
                    go_ret
                    rw [FX.out]
                    exact ⟨rfl, U2.out⟩
                · have q1 : decide ((d1.size : Int) > 512) = true := decide_eq_true (by omega)
                  have FX : Hid (fOk none l = false) := by show _ = _; rw [FO.out, FD.out]; simp [s1]
                  clear hd FD
                  go_wp2
                  go_region
                  go_wp2
                  go_ret
                  rw [FX.out]
                  exact ⟨rfl, U2.out⟩
              · obtain rfl : k = l.length := by omega
                have FX : Hid (fOk none l = true) := by show _ = _; rw [FO.out, List.drop_length]; rfl
                go_wp2
                go_ret
                rw [FX.out]
                exact ⟨rfl, UW.out⟩
          · have t3 : decide ((l.length : Int) > 256) = true := decide_eq_true (by omega)
            have RX : rightI ⟨2, text, l⟩ = false := by rw [HP.out]; simp [g3]
            rw [RX]
            clear RX HP g1 g2 g3 e1 hv
            go_enter Tryz.func59, Tryz.ntmps59
            go_wp2
            go_ret
            exact ⟨rfl, U0.out⟩
        · have t2 : ((l.length : Int) == 0) = true := by
            have : l.length = 0 := by omega
            rw [this]; rfl
          have RX : rightI ⟨2, text, l⟩ = false := by rw [HP.out]; simp [g2]
          rw [RX]
          clear RX HP g1 g2 e1 hv
          go_enter Tryz.func59, Tryz.ntmps59
          go_wp2
          go_ret
          exact ⟨rfl, U0.out⟩
      · have t1 : ¬ text.toList = [] := fun e => g1 (by
          rw [ByteArray.toList_eq] at e
          have := congrArg List.length e
          simpa using this)
        have RX : rightI ⟨2, text, l⟩ = false := by rw [HP.out]; simp [g1]
        rw [RX]
        clear RX HP g1 hv
        go_enter Tryz.func59, Tryz.ntmps59
        go_wp2
        go_ret
        exact ⟨rfl, U0.out⟩
    · have k2 : (kind == 2) = false := beq_false_of_ne h2
      have k3 : (kind != 2) = true := by simp [h2]
      have R : rightI ⟨kind, text, l⟩ = false := by unfold rightI; simp [h1, h2]
      rw [R]
      clear R hv
      go_enter Tryz.func59, Tryz.ntmps59
      go_wp2
      go_ret
      exact ⟨rfl, U0.out⟩
end Go.Proofs.YtgdenmddbgcacaaGreatDoor
