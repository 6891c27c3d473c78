/- The document's items: Right. -/
import Derived.Test.YtcdihffcncaibaaGreatDoorK18
import Derived.RegionTactic
import Derived.Test.YtcdihffcncaibaaGreatDoorK21
import Derived.Test.YtcdihffcncaibaaGreatDoorK19
import Derived.Deep.DeepCutAuto
import Derived.Test.YtcdihffcncaibaaGreatDoorRows
import Derived.Test.YtcdihffcncaibaaGreatDoorK14
import Derived.ProofKit
import Derived.LaidMore
import Derived.OpenShut
import Derived.Stop.Joined
import Derived.Stop.LaidErr
import Derived.Lib.LaidTab
import Derived.Test.YtcdihffcncaibaaGreatDoorK13
import Derived.Deep.Slices
import Derived.Deep.Fields
import Derived.ChangeSame
set_option linter.unusedVariables false
set_option linter.unusedSimpArgs false
namespace Go.Proofs.YtcdihffcncaibaaGreatDoor
open Go.RowKit

set_option maxHeartbeats 8000000 in
set_option maxRecDepth 100000 in
theorem rright_any (i : It) (v : Value) (w : World) (hv : RowOf fdc 2 w v i.flds) :
    Calls Tryz.prog 10 #[itV i v] w fun e w' => e = .returned (.bool (rightI i)) ∧ Upd (fun _ => False) w w' := by
  obtain ⟨kind, text, l⟩ := i
  obtain ⟨p, c, ev, hm⟩ := hv.len
  simp only at ev hm hv
  subst ev
  show Calls _ _ #[.agg #[.int .i64 kind, .string text, .slice p l.length c]] _ _
  have hml := hm
  unfold maxLen at hml
  have U0 : Hid (Upd (fun _ => False) w (w.alloc (.cells #[.int .i64 kind, .string text, .slice p l.length c] 24))) := (Upd.refl _ _).alloc _
  by_cases h1 : kind = 1
  · subst h1
    by_cases h2 : text.size ≤ 4096
    · have t2 : decide ((text.size : Int) ≤ 4096) = true := decide_eq_true (by omega)
      by_cases h3 : l = []
      · have R : rightI ⟨1, text, l⟩ = true := by unfold rightI; simp [h2, h3]
        have t3 : ((l.length : Int) == 0) = true := by rw [h3]; rfl
        rw [R]
        clear R h2 h3 hv
        go_enter Tryz.func10, Tryz.ntmps10
        go_wp2
        go_ret
        exact ⟨rfl, U0.out⟩
      · have R : rightI ⟨1, text, l⟩ = false := by unfold rightI; simp [h3]
        have t3 : ((l.length : Int) == 0) = false := by
          have := List.length_pos_iff.2 h3
          exact beq_false_of_ne (by omega)
        rw [R]
        clear R h2 h3 hv
        go_enter Tryz.func10, Tryz.ntmps10
        go_wp2
        go_ret
        exact ⟨rfl, U0.out⟩
    · have t2 : decide ((text.size : Int) ≤ 4096) = false := decide_eq_false (by omega)
      have R : rightI ⟨1, text, l⟩ = false := by unfold rightI; simp [h2]
      rw [R]
      clear R h2 hv
      go_enter Tryz.func10, Tryz.ntmps10
      go_wp2
      go_ret
      exact ⟨rfl, U0.out⟩
  · have k1 : (kind == 1) = false := beq_false_of_ne h1
    by_cases h2 : kind = 2
    · subst h2
      have HP : Hid (rightI ⟨2, text, l⟩ = (decide (text.size = 0) && decide (1 ≤ l.length) && decide (l.length ≤ 256) && fOk none l)) := by show _ = _; unfold rightI; simp
      by_cases g1 : text.size = 0
      · have e1 : text = { data := #[] } := by
          apply ByteArray.ext
          have : text.data.size = 0 := g1
          exact Array.eq_empty_of_size_eq_zero this
        have t1 : text.toList = [] := by rw [e1, ByteArray.toList_eq]
        by_cases g2 : 1 ≤ l.length
        · have t2 : ((l.length : Int) == 0) = false := beq_false_of_ne (by omega)
          by_cases g3 : l.length ≤ 256
          · have t3 : decide ((l.length : Int) > 256) = false := decide_eq_false (by omega)
            have HV := Lib.hid hv
            have BX : Hid (Blk (w.alloc (.cells #[.int .i64 2, .string text, .slice p l.length c] 24)) w.heap.size [.int .i64 2, .string text, .slice p l.length c] 24) := Blk.made _ _ _
            have HQ : Hid (rightI ⟨2, text, l⟩ = fOk none l) := by show _ = _; rw [HP.out]; simp [g1, g2, g3]
            rw [HQ.out]
            clear hv HQ HP g1 g2 g3 e1
            go_enter Tryz.func10, Tryz.ntmps10
            go_wp2
            go_loopw [2, 41] (fun v2 x wr => v2 = .bool false ∧ ∃ (k : Nat), k ≤ l.length ∧ x = .int .i64 (k : Int) ∧ Hid (fOk none l = fOk (prevF l k) (l.drop k)) ∧ Hid (Upd (fun _ => False) (w.alloc (.cells #[.int .i64 2, .string text, .slice p l.length c] 24)) wr)) (fun _ x _ => l.length - (intOf x).toNat)
            case atStart => exact ⟨rfl, 0, by omega, rfl, rfl, Upd.refl _ _⟩
            case round =>
              obtain ⟨rfl, k, hkl, rfl, FO, U⟩ := hrel
              have UW := Lib.hid (U0.out.trans U.out (fun _ _ h => h))
              by_cases hlt : k < l.length
              · obtain ⟨d, hd⟩ : ∃ d, l[k]? = some d := ⟨_, List.getElem?_eq_getElem hlt⟩
                have FD := Lib.hid (fOk_drop hd)
                obtain ⟨b, off, cap, ev, hb, c0, c1⟩ := fd_cells HV.out hd
                injection ev with ev1 _ ev3
                subst ev1 ev3
                have c0 := (UW.out.cell (p := ⟨b, off + k * 2, none⟩) hb (fun h => h)).trans c0
                have c1 := (UW.out.cell (p := ⟨b, off + k * 2 + 1, none⟩) hb (fun h => h)).trans c1
                have hq : (k : Int) < (l.length : Int) := by omega
                have hbr : b < wr.heap.size := Nat.lt_of_lt_of_le hb UW.out.size
                obtain ⟨d1, d2⟩ := d
                simp only at c0 c1 FD
                have U2 : Hid (Upd (fun _ => False) w (wr.alloc (.cells #[.string d1, .string d2] 82)).drew) := (UW.out.alloc _).drew
                have U3 : Hid (Upd (fun _ => False) (w.alloc (.cells #[.int .i64 2, .string text, .slice (some ⟨b, off, none⟩) l.length c] 24)) (wr.alloc (.cells #[.string d1, .string d2] 82)).drew) := (U.out.alloc _).drew
                by_cases s1 : d1.size ≤ 512
                · have q1 : decide ((d1.size : Int) > 512) = false := decide_eq_false (by omega)
                  by_cases s2 : d2.size ≤ 4096
                  · have q2 : decide ((d2.size : Int) > 4096) = false := decide_eq_false (by omega)
                    have FE := FD.out
                    rw [decide_eq_true s1, decide_eq_true s2, Bool.true_and, Bool.true_and] at FE
                    have FEh := Lib.hid FE
                    clear FE FD
                    cases k with
                    | zero =>
                      simp only [Nat.zero_mul, Nat.add_zero] at c0 c1
                      have FX : Hid (fOk none l = fOk (prevF l 1) (l.drop 1)) := by
                        show _ = _
                        rw [FO.out, FEh.out]; simp [prevF]
                      clear hd
                      go_wp2
                      go_region
                      go_wp2
                      go_roundw
                      case rel => exact ⟨rfl, 1, by omega, rfl, FX.out, U3.out⟩
                      case measure => simp [intOf]; omega
                    | succ j =>
                      have hjl : j < l.length := by omega
                      obtain ⟨pd, hpd⟩ : ∃ d, l[j]? = some d := ⟨_, List.getElem?_eq_getElem hjl⟩
                      obtain ⟨b2, off2, cap2, ev2, hb2, p0, p1⟩ := fd_cells HV.out hpd
                      injection ev2 with ev21 _ ev23
                      injection ev21 with ev21
                      injection ev21 with e1 e2 e3
                      subst e1 e2
                      clear ev23
                      have p0 := (UW.out.cell (p := ⟨b, off + j * 2, none⟩) hb (fun h => h)).trans p0
                      have hpv : prevF l (j + 1) = some pd.1 := by unfold prevF; simp [hpd]
                      obtain ⟨n1, n2⟩ := pd
                      simp only at p0 hpv
                      have BX2 := U.out.blk BX.out (fun h => h)
                      have bx2 := BX2.cellAt (i := 2) rfl
                      have lbx := BX2.lt
                      have wj : IntKind.i64.wrap (j : Int) = (j : Int) := i64w (by omega) (by omega)
                      have hj1 : (j : Int) < (l.length : Int) := by omega
                      have hj0 : (0 : Int) ≤ (j : Int) := by omega
                      have qj : decide (((j + 1 : Nat) : Int) > 0) = true := decide_eq_true (by omega)
                      clear hpd hd BX2 p1
                      cases hb2 : Op.bytesLess n1.toList d1.toList with
                      | false =>
                        have FX : Hid (fOk none l = false) := by show _ = _; rw [FO.out, FEh.out, hpv]; simp [hb2]
                        clear hpv
                        go_wp2
                        go_region
                        go_wp2
                        go_ret
                        rw [FX.out]
                        exact ⟨rfl, U2.out⟩
                      | true =>
                        have FX : Hid (fOk none l = fOk (prevF l (j + 1 + 1)) (l.drop (j + 1 + 1))) := by show _ = _; rw [FO.out, FEh.out, hpv]; simp [hb2]
                        clear hpv
                        go_wp2
                        go_region
                        go_wp2
                        go_roundw
                        case rel => exact ⟨rfl, j + 1 + 1, by omega, by go_num, FX.out, U3.out⟩
                        case measure => simp [intOf]; omega
                  · have q2 : decide ((d2.size : Int) > 4096) = true := decide_eq_true (by omega)
                    have FX : Hid (fOk none l = false) := by show _ = _; rw [FO.out, FD.out]; simp [s2]
                    clear hd FD
                    go_wp2
                    go_region
                    go_wp2
                    go_ret
                    rw [FX.out]
                    exact ⟨rfl, U2.out⟩
                · have q1 : decide ((d1.size : Int) > 512) = true := decide_eq_true (by omega)
                  have FX : Hid (fOk none l = false) := by show _ = _; rw [FO.out, FD.out]; simp [s1]
                  clear hd FD
                  go_wp2
                  go_region
                  go_wp2
                  go_ret
                  rw [FX.out]
                  exact ⟨rfl, U2.out⟩
              · obtain rfl : k = l.length := by omega
                have FX : Hid (fOk none l = true) := by show _ = _; rw [FO.out, List.drop_length]; rfl
                go_wp2
                go_ret
                rw [FX.out]
                exact ⟨rfl, UW.out⟩
          · have t3 : decide ((l.length : Int) > 256) = true := decide_eq_true (by omega)
            have RX : rightI ⟨2, text, l⟩ = false := by rw [HP.out]; simp [g3]
            rw [RX]
            clear RX HP g1 g2 g3 e1 hv
            go_enter Tryz.func10, Tryz.ntmps10
            go_wp2
            go_ret
            exact ⟨rfl, U0.out⟩
        · have t2 : ((l.length : Int) == 0) = true := by
            have : l.length = 0 := by omega
            rw [this]; rfl
          have RX : rightI ⟨2, text, l⟩ = false := by rw [HP.out]; simp [g2]
          rw [RX]
          clear RX HP g1 g2 e1 hv
          go_enter Tryz.func10, Tryz.ntmps10
          go_wp2
          go_ret
          exact ⟨rfl, U0.out⟩
      · have t1 : ¬ text.toList = [] := fun e => g1 (by
          rw [ByteArray.toList_eq] at e
          have := congrArg List.length e
          simpa using this)
        have RX : rightI ⟨2, text, l⟩ = false := by rw [HP.out]; simp [g1]
        rw [RX]
        clear RX HP g1 hv
        go_enter Tryz.func10, Tryz.ntmps10
        go_wp2
        go_ret
        exact ⟨rfl, U0.out⟩
    · have k2 : (kind == 2) = false := beq_false_of_ne h2
      have k3 : (kind != 2) = true := by simp [h2]
      have R : rightI ⟨kind, text, l⟩ = false := by unfold rightI; simp [h1, h2]
      rw [R]
      clear R hv
      go_enter Tryz.func10, Tryz.ntmps10
      go_wp2
      go_ret
      exact ⟨rfl, U0.out⟩
end Go.Proofs.YtcdihffcncaibaaGreatDoor
/- StoreOne, plain. -/
set_option linter.unusedVariables false
set_option linter.unusedSimpArgs false
namespace Go.Proofs.YtcdihffcncaibaaGreatDoor
open Go.RowKit

def kO : ByteArray := { data := #[107] }
def oneS (i : It) (t : Int) (ev : List Ev) : PS := ⟨[⟨kO, i, t⟩], 100000000, ev⟩
theorem goodI_small {i : It} (h : GoodI i) : SmallI i := ⟨by have := h.1; omega, by have := h.2.1; omega, fun f hf => by have := h.2.2 f hf; omega⟩
theorem fcost_good (l : List Fd) (h : ∀ f ∈ l, f.1.size ≤ 600 ∧ f.2.size ≤ 5000) : fcost l ≤ 5616 * (l.length : Int) := by
  induction l with
  | nil => simp [fcost]
  | cons f r ih =>
    have h1 := h f (by simp)
    have h2 := ih (fun g hg => h g (by simp [hg]))
    simp only [fcost, List.length_cons]; omega
theorem one_cost {i : It} (h : GoodI i) : costI kO i ≤ 100000000 := by
  unfold costI bodyI
  have h1 := fcost_good i.flds h.2.2
  have h2 := h.2.1
  have h3 := h.1
  have : kO.size = 1 := rfl
  split
  · split <;> omega
  · omega
section
variable {i : It} {t now : Int} {ev : List Ev}
theorem one_look : lookC (oneS i t ev).cells kO = some ⟨kO, i, t⟩ := by
  show lookC [⟨kO, i, t⟩] kO = _
  unfold lookC; simp
theorem one_stay (h : ¬ (0 ≤ t ∧ t ≤ now)) : dueP (oneS i t ev) kO now = oneS i t ev := by
  unfold dueP isDue
  rw [one_look]
  simp only
  rw [if_neg (by simp only [Bool.and_eq_true, decide_eq_true_eq]; exact h)]
theorem one_gone (h0 : 0 ≤ t) (h1 : t ≤ now) : dueP (oneS i t ev) kO now = ⟨[], 100000000, ev ++ [(3, kO)]⟩ := by
  unfold dueP isDue
  rw [one_look]
  simp only
  rw [if_pos (by simp only [Bool.and_eq_true, decide_eq_true_eq]; exact ⟨h0, h1⟩)]
  unfold goneP
  rw [if_pos (by show kO ∈ keysC [_]; simp [keysC])]
  show (⟨delC [⟨kO, i, t⟩] kO, _, _⟩ : PS) = _
  have : delC [⟨kO, i, t⟩] kO = [] := by unfold delC; simp
  rw [this]; rfl
theorem one_has : wasP (oneS i t ev) kO = true ∧ gotI (oneS i t ev) kO = i := by
  refine ⟨decide_eq_true (by show kO ∈ keysC [_]; simp [keysC]), ?_⟩
  unfold gotI; rw [one_look]
theorem one_put (hr : rightI i = true) (hg : GoodI i) : putE (dueP ⟨[], 100000000, []⟩ kO now) kO i = 0 ∧ putP ⟨[], 100000000, []⟩ kO i false now = oneS i (-1) [(1, kO)] := by
  have hd : dueP ⟨[], 100000000, []⟩ kO now = ⟨[], 100000000, []⟩ := by unfold dueP isDue; simp [lookC]
  have he : putE ⟨[], 100000000, []⟩ kO i = 0 := by
    unfold putE
    have : kO.size = 1 := rfl
    rw [if_neg (by rw [not_or]; exact ⟨by omega, by rw [hr]; simp⟩), if_neg (by have := one_cost hg; simp only; omega)]
  refine ⟨by rw [hd]; exact he, ?_⟩
  unfold putP
  rw [hd, if_pos he]
  rfl
theorem one_ttl : ttlA (oneS i t ev) kO now = if 0 ≤ t then t - now else -1 := by unfold ttlA; rw [one_look]
theorem one_set {t2 : Int} : setC (oneS i t ev).cells kO t2 = [⟨kO, i, t2⟩] := by
  show setC [⟨kO, i, t⟩] kO t2 = _
  unfold setC; simp
theorem one_exp {e : Int} (h0 : 0 ≤ now) (h1 : now < e) (h2 : e ≤ 1000000) : expireP (oneS i (-1) ev) kO e now = oneS i e (ev ++ [(1, kO)]) := by
  unfold expireP
  rw [one_stay (by omega), one_has.1, if_pos rfl, if_neg (by omega), one_set]
  have : min e 4611686018427387904 = e := by omega
  rw [this]; rfl
theorem one_ends (h : 0 ≤ t) : endsP (oneS i t ev) kO = true := by unfold endsP; rw [one_look]; simp [h]
theorem one_per (h0 : 0 ≤ t) (h1 : now < t) : persistP (oneS i t ev) kO now = oneS i (-1) (ev ++ [(1, kO)]) := by
  unfold persistP
  rw [one_stay (by omega), one_ends h0, if_pos rfl, one_set]; rfl
theorem one_get (h : ¬ (0 ≤ t ∧ t ≤ now)) : getP (oneS i t ev) kO now = oneS i t ev := by
  unfold getP
  rw [one_stay h]
  unfold usedC
  rw [one_look]
  show (⟨delC [⟨kO, i, t⟩] kO ++ [⟨kO, i, t⟩], _, _⟩ : PS) = _
  have : delC [⟨kO, i, t⟩] kO = [] := by unfold delC; simp
  rw [this]; rfl
theorem one_get2 (h0 : 0 ≤ t) (h1 : t ≤ now) : getP (oneS i t ev) kO now = ⟨[], 100000000, ev ++ [(3, kO)]⟩ ∧ wasP (dueP (oneS i t ev) kO now) kO = false ∧ gotI (dueP (oneS i t ev) kO now) kO = zeroIt := by
  refine ⟨?_, ?_, ?_⟩
  · unfold getP
    rw [one_gone h0 h1]
    rfl
  · rw [one_gone h0 h1]; rfl
  · rw [one_gone h0 h1]; rfl
end
theorem same_self (i : It) : sameI i i = true := by unfold sameI; simp
end Go.Proofs.YtcdihffcncaibaaGreatDoor
/- Walk: StoreOne. -/
set_option linter.unusedVariables false
set_option linter.unusedSimpArgs false
namespace Go.Proofs.YtcdihffcncaibaaGreatDoor
open Go.RowKit

theorem row_fld {w : World} {v : Value} {l : List Fd} {base : Nat} {X : Nat → Prop} (h : RowOf fdc 2 w v l) (hb : w.heap.size ≤ base) : FldAt w (fun b => b < base ∨ X b) v l := by
  refine ⟨h, ?_⟩
  rcases h with ⟨_, _, _, e⟩ | ⟨b, off, c, rfl, hl, _⟩
  · exact Or.inl e
  · exact Or.inr fun q hq => Or.inl (by
      have e2 : b = q := Option.some.inj hq
      omega)
set_option maxHeartbeats 16000000 in
set_option maxRecDepth 100000 in
theorem lawSOne (i : It) (v : Value) (ta tb : Int) (pers : Bool) (w : World) (hs : Std w) (hv : RowOf fdc 2 w v i.flds) (ha : 0 ≤ ta ∧ ta < 65536) (hb : 0 ≤ tb ∧ tb < 65536) :
    Calls Tryz.prog 3 #[itV i v, .agg #[.int .u16 ta, .int .u16 tb], .bool pers] w fun e w' => e = .returned (.bool true) ∧ Upd (fun _ => False) w w' := by
  obtain ⟨p, c, ev, hm⟩ := hv.len
  subst ev
  unfold itV
  obtain ⟨z, hz⟩ : ∃ z, z = ((w.alloc (.cells #[.int .i64 i.kind, .string i.text, .slice p i.flds.length c] 24)).alloc (.cells #[.int .u16 ta, .int .u16 tb] 26)) := ⟨_, rfl⟩
  have uz : Upd (fun _ => False) w z := by rw [hz]; exact ((Upd.refl _ _).alloc _).alloc _
  have B0 : Blk z w.heap.size [.int .i64 i.kind, .string i.text, .slice p i.flds.length c] 24 := by rw [hz]; exact (Blk.made _ _ _).alloc _
  have B1 : Blk z (w.heap.size + 1) [.int .u16 ta, .int .u16 tb] 26 := by
    rw [hz]; have := Blk.made (w.alloc (.cells #[.int .i64 i.kind, .string i.text, .slice p i.flds.length c] 24)) [.int .u16 ta, .int .u16 tb] 26
    simpa using this
  have AL := Lib.hid (alive12_any z (hs.keep uz))
  have HS := Lib.hid (hs.keep uz)
  have UZ := Lib.hid uz
  have HB0 := Lib.hid B0
  have HB1 := Lib.hid B1
  have HV := Lib.hid (hv.keep uz (fun _ _ _ h => h))
  have RT := Lib.hid (And.intro ha hb)
  rw [hz] at AL
  clear uz B0 B1 hs hv ha hb
  go_enter Tryz.func3, Tryz.ntmps3
  go_wp2_with fail
  refine (AL.out).mono ?_
  rintro e w0 ⟨rfl, u0⟩
  rw [← hz] at u0
  have l0 := (u0.blk HB0.out (fun h => h)).lt
  have x0 := (u0.blk HB0.out (fun h => h)).cellAt (i := 0) rfl
  have x1 := (u0.blk HB0.out (fun h => h)).cellAt (i := 1) rfl
  have x2 := (u0.blk HB0.out (fun h => h)).cellAt (i := 2) rfl
  have U0 := Lib.hid u0
  clear u0 AL hz
  have uA : Upd (fun _ => False) w0 (w0.alloc (.cells #[.int .i64 0, .int .i64 0, .string { data := #[] }, .int .i64 i.kind, .string i.text, .slice p i.flds.length c, .bool false, .int .i64 0, .int .u16 0] 30)) := (Upd.refl _ _).alloc _
  have GR := Lib.hid (great12_any _ [⟨0, 0, { data := #[] }, i, .slice p i.flds.length c, false, 0, 0⟩] _ (RowOf.lit (f := a12c) (k := 9) w0 ⟨0, 0, { data := #[] }, i, .slice p i.flds.length c, false, 0, 0⟩ [.int .i64 0, .int .i64 0, .string { data := #[] }, .int .i64 i.kind, .string i.text, .slice p i.flds.length c, .bool false, .int .i64 0, .int .u16 0] 30 rfl rfl) (fun a ha => by
    obtain rfl := List.mem_singleton.1 ha
    exact (HV.out.keep U0.out (fun _ _ _ h => h)).keep uA (fun _ _ _ h => h)))
  go_wp2_with fail
  refine (GR.out).mono ?_
  rintro e w1 ⟨r, rfl, hgr, u1⟩
  have U1 := Lib.hid ((U0.out.trans uA (fun _ _ h => h)).trans u1 (fun _ _ h => h))
  clear uA u1 GR U0 x0 x1 x2 l0
  have l0 := (U1.out.blk HB0.out (fun h => h)).lt
  have x0 := (U1.out.blk HB0.out (fun h => h)).cellAt (i := 0) rfl
  have x1 := (U1.out.blk HB0.out (fun h => h)).cellAt (i := 1) rfl
  have x2 := (U1.out.blk HB0.out (fun h => h)).cellAt (i := 2) rfl
  cases r with
  | true =>
    go_wp2
    go_ret
    exact ⟨rfl, UZ.out.trans U1.out (fun _ _ h => h)⟩
  | false =>
    have HG : Hid (GoodI i) := ((hgr rfl).2 ⟨0, 0, { data := #[] }, i, .slice p i.flds.length c, false, 0, 0⟩ (by simp)).2
    have RR := Lib.hid (rright_any i _ w1 (HV.out.keep U1.out (fun _ _ _ h => h)))
    unfold itV at RR
    clear hgr
    cases hr : rightI i with
    | false =>
      rw [hr] at RR
      go_wp2_with fail
      refine (RR.out).mono ?_
      rintro e w2 ⟨rfl, u2⟩
      have U2 := Lib.hid ((UZ.out.trans U1.out (fun _ _ h => h)).trans u2 (fun _ _ h => h))
      clear u2 RR
      go_wp2
      go_ret
      exact ⟨rfl, U2.out⟩
    | true =>
      rw [hr] at RR
      have HRI := Lib.hid hr
      clear hr
      go_wp2_with fail
      refine (RR.out).mono ?_
      rintro e w2 ⟨rfl, u2⟩
      have U2 := Lib.hid (U1.out.trans u2 (fun _ _ h => h))
      have nw : newP 100000000 = ⟨[], 100000000, []⟩ := by kernel_rfl
      have NW := Lib.hid (snew_any 100000000 w2 (HS.out.keep U2.out))
      rw [nw] at NW
      clear u2 RR U1 nw x0 x1 x2 l0
      go_wp2_with fail
      refine (NW.out).mono ?_
      rintro e w3 ⟨sb, rfl, s3, u3⟩
      have S3 := Lib.hid s3
      have BS : Hid (z.heap.size ≤ w2.heap.size) := U2.out.size
      have ZS : Hid (w.heap.size + 1 < z.heap.size) := HB1.out.lt
      have U3 := Lib.hid (U2.out.trans u3 (fun _ _ h => h))
      have y0 := (U3.out.blk HB1.out (fun h => h)).cellAt (i := 0) rfl
      have y1 := (U3.out.blk HB1.out (fun h => h)).cellAt (i := 1) rfl
      have ly := (U3.out.blk HB1.out (fun h => h)).lt
      obtain ⟨⟨ra1, ra2⟩, rb1, rb2⟩ := RT.out
      generalize hbase : w2.heap.size = base at *
      clear s3 u3 NW U2
      go_upto_region 6 with (fail)
      go_cut [8, 9] (fun v8 v9 wx => v8 = .int .i64 ta ∧ v9 = .int .i64 (tb + 1) ∧ Hid (Upd (fun _ => False) w3 wx))
      case first =>
        go_region
        go_wp2_with fail
        go_meet
        exact ⟨rfl, by go_num, (Upd.refl _ _).drew⟩
      case rest =>
      obtain ⟨rfl, rfl, u4⟩ := hcut
      have U4 := Lib.hid (U3.out.trans u4.out (fun _ _ h => h))
      have S4 := Lib.hid (S3.out.keep0 u4.out)
      have HBZ : Hid (w.heap.size + 1 < base ∧ z.heap.size ≤ base) := ⟨by have := BS.out; have := ZS.out; omega, BS.out⟩
      have l0 := (U4.out.blk HB0.out (fun h => h)).lt
      have x0 := (U4.out.blk HB0.out (fun h => h)).cellAt (i := 0) rfl
      have x1 := (U4.out.blk HB0.out (fun h => h)).cellAt (i := 1) rfl
      have x2 := (U4.out.blk HB0.out (fun h => h)).cellAt (i := 2) rfl
      have FV : Hid (FldAt z (fun b => b < base ∨ False) (.slice p i.flds.length c) i.flds) := row_fld HV.out HBZ.out.2
      have PU := Lib.hid (sput_any S4.out kO i (.slice p i.flds.length c) false ta (FV.out.keep U4.out (fun _ _ h => h)) (by omega) (by decide) (by simp))
      obtain ⟨o1, o2⟩ := one_put (now := ta) HRI.out HG.out
      rw [o1, o2] at PU
      unfold kO itV at PU
      clear o1 o2 y0 y1 ly S3 U3 u4
      go_wp2_with fail
      refine (PU.out).mono ?_
      rintro e w5 ⟨rfl, s5, u5⟩
      have V5 : Hid (Upd (fun b => base ≤ b) z w5) := (U4.out.weaken (fun _ _ h => h.elim)).trans u5 (fun _ _ h => h.1)
      have T1 := Lib.hid (sttl_any s5 kO ta (by omega) (by decide) (by simp [oneS]) ra1 (by omega))
      rw [one_stay (by omega), one_ttl, if_neg (by omega)] at T1
      unfold kO at T1
      clear s5 u5 PU S4 U4 x0 x1 x2 l0
      go_wp2_with fail
      refine (T1.out).mono ?_
      rintro e w6 ⟨rfl, s6, u6⟩
      have V6 := Lib.hid (V5.out.trans u6 (fun _ _ h => h.1))
      have EX := Lib.hid (sexpire_any s6 kO (ta + (tb + 1)) ta (by omega) (by decide) (by simp [oneS]) ra1)
      rw [one_stay (by omega), one_has.1, one_exp ra1 (by omega) (by omega)] at EX
      unfold kO at EX
      clear s6 u6 T1 V5
      go_wp2_with fail
      refine (EX.out).mono ?_
      rintro e w7 ⟨rfl, s7, u7⟩
      have V7 := Lib.hid (V6.out.trans u7 (fun _ _ h => h.1))
      have T2 := Lib.hid (sttl_any s7 kO ta (by omega) (by decide) (by simp [oneS]) ra1 (by omega))
      have etl : ta + (tb + 1) - ta = tb + 1 := by omega
      rw [one_stay (by omega), one_ttl, if_pos (by omega), etl] at T2
      unfold kO at T2
      clear s7 u7 EX V6 etl
      go_wp2_with fail
      refine (T2.out).mono ?_
      rintro e w8 ⟨rfl, s8, u8⟩
      have V8 := Lib.hid (V7.out.trans u8 (fun _ _ h => h.1))
      have S8 := Lib.hid s8
      clear s8 u8 T2 V7
      cases pers with
      | true =>
        have PE := Lib.hid (spersist_any S8.out kO (ta + (tb + 1) - 1) (by omega) (by decide) (by simp [oneS]))
        rw [one_stay (by omega), one_ends (by omega), one_per (by omega) (by omega)] at PE
        unfold kO at PE
        clear S8
        go_wp2_with fail
        refine (PE.out).mono ?_
        rintro e w9 ⟨rfl, s9, u9⟩
        have V9 := Lib.hid (V8.out.trans u9 (fun _ _ h => h.1))
        have S9 := Lib.hid s9
        clear s9 u9 PE V8
        have G1 := Lib.hid (sget_any S9.out kO (ta + (tb + 1) - 1) (by omega) (by decide) (by simp [oneS]))
        rw [one_stay (by omega), one_has.2, one_has.1, one_get (by omega)] at G1
        clear S9
        unfold kO itV at G1
        go_wp2_with fail
        refine (G1.out).mono ?_
        rintro e w10 ⟨v1, rfl, r1, s10, u10, f10⟩
        obtain ⟨p1, c1, e1, _⟩ := r1.len
        subst e1
        have V10 := Lib.hid (V9.out.trans u10 (fun _ _ h => h.1))
        have ux : Upd (fun _ => False) w10 (w10.alloc (.cells #[.int .i64 i.kind, .string i.text, .slice p1 i.flds.length c1] 24)) := (Upd.refl _ _).alloc _
        have BX := Blk.made w10 [.int .i64 i.kind, .string i.text, .slice p1 i.flds.length c1] 24
        have S11 := Lib.hid (s10.also (Y := fun q => (False ∨ fX (.slice p1 i.flds.length c1) i.flds q) ∨ q = w10.heap.size) ux (fun q hq => hq.imp id (fun e => by subst e; simp)))
        have R1 := Lib.hid (r1.keep ux (fun _ _ _ h => h))
        have HBX := Lib.hid BX
        have V11 := Lib.hid (V10.out.trans ux (fun _ _ h => h.elim))
        have BW10 : Hid (base ≤ w10.heap.size) := by have := V10.out.size; have := HBZ.out; have := s10.bl; show _ ≤ _; omega
        clear s10 u10 f10 r1 ux BX G1 V9
        have G2 := Lib.hid (sget_any S11.out kO (ta + (tb + 1)) (by omega) (by decide) (by simp [oneS]))
        rw [one_stay (by omega), one_has.2, one_has.1, one_get (by omega)] at G2
        unfold kO itV at G2
        go_wp2_with fail
        refine (G2.out).mono ?_
        rintro e w12 ⟨v2, rfl, r2, s12, u12, f12⟩
        obtain ⟨p2, c2, e2, _⟩ := r2.len
        subst e2
        have V12 := Lib.hid (V11.out.trans u12 (fun _ _ h => h.1))
        have uy : Upd (fun _ => False) w12 (w12.alloc (.cells #[.int .i64 i.kind, .string i.text, .slice p2 i.flds.length c2] 24)) := (Upd.refl _ _).alloc _
        have V13 := Lib.hid (V12.out.trans uy (fun _ _ h => h.elim))
        have bx := (u12.blk HBX.out (fun g => g.2 (Or.inr rfl)))
        have lx := bx.lt
        have y0 := bx.cellAt (i := 0) rfl
        have y1 := bx.cellAt (i := 1) rfl
        have y2 := bx.cellAt (i := 2) rfl
        have bi := V12.out.blk HB0.out (fun h => by have := HBZ.out.1; omega)
        have li := bi.lt
        have x0 := bi.cellAt (i := 0) rfl
        have x1 := bi.cellAt (i := 1) rfl
        have x2 := bi.cellAt (i := 2) rfl
        have RX : RowOf fdc 2 (w12.alloc (.cells #[.int .i64 i.kind, .string i.text, .slice p2 i.flds.length c2] 24)) (.slice p1 i.flds.length c1) i.flds := by
          by_cases e : i.flds = []
          · have h := R1.out
            rw [e] at h ⊢
            exact h.nilTo
          · exact (R1.out.keep u12 (fun b _ hb g => g.2 (Or.inl (Or.inr ⟨hb, e⟩)))).keep uy (fun _ _ _ h => h)
        have RI : RowOf fdc 2 (w12.alloc (.cells #[.int .i64 i.kind, .string i.text, .slice p2 i.flds.length c2] 24)) (.slice p i.flds.length c) i.flds := by
          refine (FV.out.keep V13.out (fun b hb g => ?_)).1
          rcases hb with h | h
          · omega
          · exact h
        have SM := Lib.hid (sameIt_any i i _ _ _ RX RI)
        rw [same_self] at SM
        unfold itV at SM
        obtain ⟨tbl, q0, hsb, TL⟩ := s12.tlenAt (by omega)
        have RY := r2.keep uy (fun _ _ _ h => h)
        clear R1 S11 HBX G2 f12 V11 V10 bx bi
        go_wp2_with fail
        refine (SM.out).mono ?_
        rintro e w14 ⟨rfl, u14⟩
        have by_ := u14.blk (Blk.made w12 [.int .i64 i.kind, .string i.text, .slice p2 i.flds.length c2] 24) (fun h => h)
        have z0 := by_.cellAt (i := 0) rfl
        have z1 := by_.cellAt (i := 1) rfl
        have z2 := by_.cellAt (i := 2) rfl
        have lz := by_.lt
        have bj := u14.blk ((V13.out.blk HB0.out (fun h => by have := HBZ.out.1; omega))) (fun h => h)
        have lj := bj.lt
        have j0 := bj.cellAt (i := 0) rfl
        have j1 := bj.cellAt (i := 1) rfl
        have j2 := bj.cellAt (i := 2) rfl
        have SM2 := Lib.hid (sameIt_any i i _ _ w14 (RY.keep u14 (fun _ _ _ h => h)) (RI.keep u14 (fun _ _ _ h => h)))
        rw [same_self] at SM2
        unfold itV at SM2
        have u15 := uy.trans u14 (fun _ _ h => h)
        have V14 := Lib.hid (V13.out.trans u14 (fun _ _ h => h.elim))
        clear by_ bj u14 SM RY
        go_wp2_with fail
        refine (SM2.out).mono ?_
        rintro e w15 ⟨rfl, u16⟩
        have u17 := u15.trans u16 (fun _ _ h => h)
        have q1 := (u17.cell (p := ⟨sb, 0, none⟩) hsb (fun h => h)).trans q0
        have hsb2 : sb < w15.heap.size := Nat.lt_of_lt_of_le hsb u17.size
        have TLh := Lib.hid (TL w15 u17)
        have V15 := Lib.hid (V14.out.trans u16 (fun _ _ h => h.elim))
        clear TL SM2 u17 u16 u15
        go_wp2_with fail
        refine (TLh.out).mono ?_
        rintro e w16 ⟨rfl, u18⟩
        have VE := Lib.hid (V15.out.trans u18 (fun _ _ h => h.elim))
        clear u18 TLh
        go_wp2
        go_ret
        exact ⟨by simp [oneS], UZ.out.trans VE.out (fun i hi h => by have := HBZ.out.1; omega)⟩
      | false =>
        have V9 := V8
        have G1 := Lib.hid (sget_any S8.out kO (ta + (tb + 1) - 1) (by omega) (by decide) (by simp [oneS]))
        rw [one_stay (by omega), one_has.2, one_has.1, one_get (by omega)] at G1
        clear S8 V8
        unfold kO itV at G1
        go_wp2_with fail
        refine (G1.out).mono ?_
        rintro e w10 ⟨v1, rfl, r1, s10, u10, f10⟩
        obtain ⟨p1, c1, e1, _⟩ := r1.len
        subst e1
        have V10 := Lib.hid (V9.out.trans u10 (fun _ _ h => h.1))
        have ux : Upd (fun _ => False) w10 (w10.alloc (.cells #[.int .i64 i.kind, .string i.text, .slice p1 i.flds.length c1] 24)) := (Upd.refl _ _).alloc _
        have BX := Blk.made w10 [.int .i64 i.kind, .string i.text, .slice p1 i.flds.length c1] 24
        have S11 := Lib.hid (s10.also (Y := fun q => (False ∨ fX (.slice p1 i.flds.length c1) i.flds q) ∨ q = w10.heap.size) ux (fun q hq => hq.imp id (fun e => by subst e; simp)))
        have R1 := Lib.hid (r1.keep ux (fun _ _ _ h => h))
        have HBX := Lib.hid BX
        have V11 := Lib.hid (V10.out.trans ux (fun _ _ h => h.elim))
        have BW10 : Hid (base ≤ w10.heap.size) := by have := V10.out.size; have := HBZ.out; have := s10.bl; show _ ≤ _; omega
        clear s10 u10 f10 r1 ux BX G1 V9
        have G2 := Lib.hid (sget_any S11.out kO (ta + (tb + 1)) (by omega) (by decide) (by simp [oneS]))
        obtain ⟨k1, k2, k3⟩ := one_get2 (i := i) (t := ta + (tb + 1)) (now := ta + (tb + 1)) (ev := [(1, { data := #[107] })] ++ [(1, { data := #[107] })]) (by omega) (Int.le_refl _)
        rw [k3, k2, k1] at G2
        unfold kO itV zeroIt at G2
        clear k1 k2 k3
        go_wp2_with fail
        refine (G2.out).mono ?_
        rintro e w12 ⟨v2, rfl, r2, s12, u12, f12⟩
        obtain ⟨p2, c2, e2, _⟩ := r2.len
        subst e2
        have V12 := Lib.hid (V11.out.trans u12 (fun _ _ h => h.1))
        have uy : Upd (fun _ => False) w12 (w12.alloc (.cells #[.int .i64 0, .string ByteArray.empty, .slice p2 0 c2] 24)) := (Upd.refl _ _).alloc _
        have V13 := Lib.hid (V12.out.trans uy (fun _ _ h => h.elim))
        have bx := (u12.blk HBX.out (fun g => g.2 (Or.inr rfl)))
        have lx := bx.lt
        have y0 := bx.cellAt (i := 0) rfl
        have y1 := bx.cellAt (i := 1) rfl
        have y2 := bx.cellAt (i := 2) rfl
        have bi := V12.out.blk HB0.out (fun h => by have := HBZ.out.1; omega)
        have li := bi.lt
        have x0 := bi.cellAt (i := 0) rfl
        have x1 := bi.cellAt (i := 1) rfl
        have x2 := bi.cellAt (i := 2) rfl
        have RX : RowOf fdc 2 (w12.alloc (.cells #[.int .i64 0, .string ByteArray.empty, .slice p2 0 c2] 24)) (.slice p1 i.flds.length c1) i.flds := by
          by_cases e : i.flds = []
          · have h := R1.out
            rw [e] at h ⊢
            exact h.nilTo
          · exact (R1.out.keep u12 (fun b _ hb g => g.2 (Or.inl (Or.inr ⟨hb, e⟩)))).keep uy (fun _ _ _ h => h)
        have RI : RowOf fdc 2 (w12.alloc (.cells #[.int .i64 0, .string ByteArray.empty, .slice p2 0 c2] 24)) (.slice p i.flds.length c) i.flds := by
          refine (FV.out.keep V13.out (fun b hb g => ?_)).1
          rcases hb with h | h
          · omega
          · exact h
        have SM := Lib.hid (sameIt_any i i _ _ _ RX RI)
        rw [same_self] at SM
        unfold itV at SM
        obtain ⟨tbl, q0, hsb, TL⟩ := s12.tlenAt (by omega)
        clear R1 S11 HBX G2 f12 V11 V10 bx bi
        go_wp2_with fail
        refine (SM.out).mono ?_
        rintro e w14 ⟨rfl, u14⟩
        have u17 := uy.trans u14 (fun _ _ h => h)
        have q1 := (u17.cell (p := ⟨sb, 0, none⟩) hsb (fun h => h)).trans q0
        have hsb2 : sb < w14.heap.size := Nat.lt_of_lt_of_le hsb u17.size
        have TLh := Lib.hid (TL w14 u17)
        have V15 := Lib.hid (V13.out.trans u14 (fun _ _ h => h.elim))
        clear TL SM u17 u14
        go_wp2_with fail
        refine (TLh.out).mono ?_
        rintro e w16 ⟨rfl, u18⟩
        have VE := Lib.hid (V15.out.trans u18 (fun _ _ h => h.elim))
        clear u18 TLh
        go_wp2
        go_ret
        exact ⟨by simp, UZ.out.trans VE.out (fun i hi h => by have := HBZ.out.1; omega)⟩
end Go.Proofs.YtcdihffcncaibaaGreatDoor
/- What the listed variables give the walks, and the witness. -/
set_option linter.unusedVariables false
set_option linter.unusedSimpArgs false
namespace Go.Proofs.YtcdihffcncaibaaGreatDoor
open Go.ChangeShapes Go.WideShapes Go.ChangeAt Go.WideMaps Go.WideElems Go.RowKit Go.Stop Go.Extern

theorem int_bounds {n : Int} (h : (Lit.int .i64 n).wf = true) : -9223372036854775808 ≤ n ∧ n ≤ 9223372036854775807 := by
  have := bounds_i64 h
  omega

def laidAll : List (String × DataW Unit) := [("math/bits.deBruijn32tab", Rows.laid_math_bits_deBruijn32tab), ("math/bits.deBruijn64tab", Rows.laid_math_bits_deBruijn64tab), ("internal/strconv.uint64pow10", Lib.tabData .u64 Lib.pow10Tab), ("strconv.ErrRange", Rows.laid_strconv_ErrRange), ("strconv.ErrSyntax", Rows.laid_strconv_ErrSyntax)]

theorem star : "*" ++ "errors.errorString" = "*errors.errorString" := by decide
theorem rowErr (u : TypeId) (h : Tryz.prog.typeName? 3 u = some "*errors.errorString") : u = 219 :=
  typeName_ptr_named (nm := "errors.errorString") (by rw [star]; kernel_rfl) (by kernel_rfl) (by decide) u (by rw [star]; exact h)

theorem door_met (os : Os) (args : Array Value) : laidMetH Tryz.prog laidAll ((World.doorLaid Tryz.prog 400 os).forCall (fun _ _ => 0) ⟨#[], args, []⟩).memory :=
  laidMetH_of_parts3 (fuel := 8) (laidMet_of_run' 8 (by kernel_rfl) (by kernel_rfl)) (by kernel_rfl) (by kernel_rfl)

theorem std_of_laid {W : World} (h : laidMetH Tryz.prog laidAll W) : Std W := by
  rw [MakeChecks.laidMetH_plain _ _ _ (by kernel_rfl)] at h
  have h3 := laidMet.tail (laidMet.tail h)
  have h4 := laidMet.tail h3
  have h5 := laidMet.tail h4
  refine ⟨Lib.tabIs_of_head (g := 3) (by kernel_rfl) (by kernel_rfl) Tryz.underlying224 Tryz.underlying185 (by kernel_rfl) (by kernel_rfl) h3, ?_, ?_⟩
  · obtain ⟨a, s, h1, _⟩ := laid_sentinel (g := 1) h5 (by kernel_rfl) (by kernel_rfl) Tryz.underlying161 rowErr Tryz.underlying219 Tryz.underlying221 rfl rfl Tryz.underlying9 (by kernel_rfl) (by kernel_rfl)
    exact ⟨_, _, h1⟩
  · obtain ⟨a, s, h1, _⟩ := laid_sentinel (g := 2) h4 (by kernel_rfl) (by kernel_rfl) Tryz.underlying161 rowErr Tryz.underlying219 Tryz.underlying221 rfl rfl Tryz.underlying9 (by kernel_rfl) (by kernel_rfl)
    exact ⟨_, _, h1⟩
end Go.Proofs.YtcdihffcncaibaaGreatDoor
/- An argument that is a slice of structs of one-cell fields, opened to its cells. -/
set_option linter.unusedVariables false
set_option linter.unusedSimpArgs false
namespace Go.Proofs.YtcdihffcncaibaaGreatDoor
open Go.RowKit Go.ChangeShapes Go.WideShapes Go.Deep

/-- A slice of structs whose fields are one cell each: its length fits, and field j of element i lies in a cell of its own, and is read by that field's type. -/
theorem slice_cells {H : Type} {enc : TypeId × Value → H} {P : Program} {w : World} {base : Nat} {spare : Nat → Bool} {held : Bool} {T E : TypeId} {fs : Array Field} {fuel len cap : Nat} {a : Addr} {x : DataW H × List MemPlace}
    (hT : P.underlying T = some (.slice E)) (hE : P.underlying E = some (.struct fs)) (h1 : oneCellFields P fs = true) (hn : P.cellsOf E = fs.size)
    (h : DataW.trod enc P w base spare held fuel T [.slice (some a) len cap] = some x) :
    len ≤ maxLen ∧ ∀ i, i < len → ∀ j f, fs[j]? = some f → ∃ v y k, w.cell? (a.add (i * fs.size + j)) = some v ∧ DataW.trod enc P w base spare held k f.type [v] = some y := by
  rcases open_slice hT h with ⟨hnil, _⟩ | ⟨a', len', cap', m, n, D, Q, hv, _, hlc, hcm, hm, _, hall⟩
  · simp at hnil
  · simp only [List.cons.injEq, Value.slice.injEq, Option.some.injEq, and_true] at hv
    obtain ⟨rfl, rfl, rfl⟩ := hv
    have hlm : len ≤ m := by rw [hm]; split <;> omega
    refine ⟨Nat.le_trans hlc hcm, fun i hi j f hj => ?_⟩
    have hjs : j < fs.size := (Array.getElem?_eq_some_iff.1 hj).1
    obtain ⟨row, hrow, hread⟩ := hall i (Nat.lt_of_lt_of_le hi hlm)
    obtain ⟨_, hsize, hcells⟩ := World.cells?_some hrow
    obtain ⟨_, k, _, _, _, _, hfield⟩ := DataW.trod_struct hE hread
    obtain ⟨hoff, hone⟩ := hone_of h1 j f hj
    have hjr : j < row.length := by omega
    have hf := hfield j f hj
    rw [hoff, hone, List.drop_eq_getElem_cons hjr] at hf
    simp only [List.take_succ_cons, List.take_zero] at hf
    have hc := hcells j (by omega)
    rw [hn, Go.Deep.add_add, List.getElem?_eq_getElem hjr] at hc
    cases hy : DataW.trod enc P w base spare held k f.type [row[j]] with
    | none =>
      rw [hy] at hf
      have := (List.getElem?_eq_none_iff.1 hf.symm)
      omega
    | some y => exact ⟨row[j], y, k, hc, hy⟩

theorem slice_nil {H : Type} {enc : TypeId × Value → H} {P : Program} {w : World} {base : Nat} {spare : Nat → Bool} {held : Bool} {T E : TypeId} {fuel len cap : Nat} {x : DataW H × List MemPlace}
    (hT : P.underlying T = some (.slice E)) (h : DataW.trod enc P w base spare held fuel T (Value.slice none len cap).cells.toList = some x) : len = 0 ∧ cap = 0 := by
  rcases open_slice hT h with ⟨hnil, _⟩ | ⟨a', _, _, _, _, _, _, hv, _⟩
  · simpa [Value.cells] using hnil
  · simp [Value.cells] at hv

theorem rowOf_mk {α : Type} {f : α → List Value} {k : Nat} (hk : 0 < k) {w : World} {a : Addr} {len cap : Nat} (g : Nat → α) (hm : len ≤ maxLen)
    (hc : ∀ i, i < len → ∀ j, j < k → ∃ v, (f (g i))[j]? = some v ∧ w.cell? (a.add (i * k + j)) = some v) : RowOf f k w (.slice (some a) len cap) ((List.range len).map g) := by
  obtain ⟨b, off, spot⟩ := a
  by_cases h0 : len = 0
  · subst h0; exact Or.inl ⟨_, _, rfl, rfl⟩
  · obtain ⟨v, _, h1⟩ := hc 0 (by omega) 0 hk
    have hspot : spot = none := by simpa [Addr.add] using World.cell?_spot h1
    subst hspot
    have hb : b < w.heap.size := by
      by_cases hb : b < w.heap.size
      · exact hb
      · simp [World.cell?, Addr.add, Array.getElem?_eq_none (by omega : w.heap.size ≤ b)] at h1
    refine Or.inr ⟨b, off, cap, by simp, hb, by simpa using hm, fun i x hi j hj => ?_⟩
    have hil : i < len := by
      have := (List.getElem?_eq_some_iff.1 hi).1
      simpa using this
    have hx : x = g i := by
      have : ((List.range len).map g)[i]? = some (g i) := by simp [hil]
      rw [this] at hi; exact (Option.some.inj hi).symm
    subst hx
    obtain ⟨v, h1, h2⟩ := hc i hil j hj
    have e : (⟨b, off, none⟩ : Addr).add (i * k + j) = ⟨b, off + (i * k + j), none⟩ := by unfold Addr.add; split <;> simp_all
    rw [e] at h2
    rw [h2, h1]
end Go.Proofs.YtcdihffcncaibaaGreatDoor
