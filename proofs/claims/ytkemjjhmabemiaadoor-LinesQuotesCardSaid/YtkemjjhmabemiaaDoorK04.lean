/- Walks: digits, what stands behind a backslash. -/
import Derived.Test.YtkemjjhmabemiaaDoorK03
import Derived.Test.YtkemjjhmabemiaaDoorShelf
import Derived.Laws.BitsAllLaws
import Derived.Lib.DecodeN
import Derived.Deep.LoopGhost
import Derived.Laws.RangeString
import Derived.Laws.Strings3
import Derived.LoopTactic
import Derived.WalkMore
import Derived.ScopeJumps
import Derived.Test.YtkemjjhmabemiaaDoorK02
import Derived.Test.YtkemjjhmabemiaaDoorK01
set_option linter.unusedVariables false
set_option linter.unusedSimpArgs false
namespace Go.Proofs.YtkemjjhmabemiaaDoor
open Go.RowKit
open Lin (Txt)
open Go.Lib (indexByte)

def digits16 : List UInt8 := [48, 49, 50, 51, 52, 53, 54, 55, 56, 57, 97, 98, 99, 100, 101, 102]
theorem dig_all : ∀ n : Fin 256, indexByte digits16 (UInt8.ofNat (n.val ||| low (UInt8.ofNat n.val))) = dg (UInt8.ofNat n.val) := by decide +kernel
theorem dig_one (c : UInt8) : indexByte digits16 (UInt8.ofNat (c.toNat ||| low c)) = dg c := by
  have := dig_all ⟨c.toNat, c.toNat_lt⟩
  simpa using this
theorem low_le (c : UInt8) : low c < 256 := by unfold low; split <;> omega
theorem digit_any (c : UInt8) (w : World) : Calls Tryd.prog 61 #[.int .u8 (c.toNat : Int)] w fun e w' => e = .returned (.int .i64 (dg c)) ∧ w' = w := by
  have L := Lib.hid (lower_any c w)
  have hor := u8_or_nat c.toNat (low c) c.toNat_lt (low_le c)
  have IX := Tryd.strings_IndexByte { data := #[48, 49, 50, 51, 52, 53, 54, 55, 56, 57, 97, 98, 99, 100, 101, 102] } ((c.toNat ||| low c : Nat) : Int) w
  have e : (((c.toNat ||| low c : Nat) : Int)).toNat.toUInt8 = UInt8.ofNat (c.toNat ||| low c) := by simp
  rw [e] at IX
  have IX : Hid (Calls Tryd.prog 68 #[.string { data := #[48, 49, 50, 51, 52, 53, 54, 55, 56, 57, 97, 98, 99, 100, 101, 102] }, .int .u8 ((c.toNat ||| low c : Nat) : Int)] w fun e w' => e = .returned (.int .i64 (dg c)) ∧ w' = w) := by
    rw [← dig_one c]; exact Lib.hid IX
  generalize (c.toNat ||| low c : Nat) = d at *
  generalize (c.toNat : Int) = x at *
  generalize (low c : Int) = y at *
  generalize dg c = q at *
  go_enter Tryd.func61, Tryd.ntmps61
  go_wp2_with fail
  refine (L.out).mono ?_
  rintro e w1 ⟨rfl, rfl⟩
  go_wp2_with fail
  refine (IX.out).mono ?_
  rintro e w1 ⟨rfl, rfl⟩
  go_wp2
  go_ret
  exact ⟨rfl, rfl⟩
theorem dg_ok {c : UInt8} (h : Lin.hexv c < 16) : dg c = (Lin.hexv c : Int) := by unfold dg; rw [if_pos h]
theorem dg_no {c : UInt8} (h : ¬ Lin.hexv c < 16) : dg c = -1 := by unfold dg; rw [if_neg h]
/-- A byte and how many bytes it took. -/
def ERes (x : UInt8 × Nat) (e : Ending) : Prop := e = .returned (.tuple #[.int .u8 (x.1.toNat : Int), .int .i64 (x.2 : Int)])
theorem eres {x : UInt8 × Nat} {a b : Int} {d : UInt8} {n : Nat} (h : x = (d, n)) (ha : a = (d.toNat : Int)) (hb : b = (n : Int)) : ERes x (.returned (.tuple #[.int .u8 a, .int .i64 b])) := by subst h ha hb; rfl
set_option maxHeartbeats 4000000 in
set_option maxRecDepth 100000 in
theorem escaped_any (d : UInt8) (r : Txt) (hl : r.length ≤ 1000000) (w : World) :
    Calls Tryd.prog 49 #[.string (ofL (d :: r))] w fun e w' => ERes (Lin.esc d r) e ∧ Upd (fun _ => False) w w' := by
  have s1 := ofL_size (d :: r)
  rw [List.length_cons] at s1
  have rx0 : ∀ w, (Instr.index 9 (.string (ofL (d :: r))) (.int .i64 0)).run Tryd.prog w = .ok (.int .u8 (d.toNat : Int)) w := run_at (d :: r) 0 d rfl
  have RX := Lib.hid (fun (k : Nat) x h => run_at (d :: r) k x h)
  have EX := Lib.hid (show Lin.esc d r = _ from by unfold Lin.esc; rfl)
  generalize hs : ofL (d :: r) = s at *
  generalize hres : Lin.esc d r = res at *
  clear hs
  by_cases e110 : d = 110
  · have t1 : ((d.toNat : Int) == 110) = true := u8t 110 e110 (by omega)
    have EX : Hid (res = (10, 1)) := by have := EX.out; rw [if_pos e110] at this; exact Lib.hid this
    clear e110 hres
    go_enter Tryd.func49, Tryd.ntmps49
    go_wp2
    go_ret2
    exact ⟨eres EX.out rfl rfl, Upd.refl _ _⟩
  have t1 : ((d.toNat : Int) == 110) = false := u8f 110 e110 (by omega)
  by_cases e114 : d = 114
  · have t2 : ((d.toNat : Int) == 114) = true := u8t 114 e114 (by omega)
    have EX : Hid (res = (13, 1)) := by have := EX.out; rw [if_neg e110, if_pos e114] at this; exact Lib.hid this
    clear e110 e114 hres
    go_enter Tryd.func49, Tryd.ntmps49
    go_wp2
    go_ret2
    exact ⟨eres EX.out rfl rfl, Upd.refl _ _⟩
  have t2 : ((d.toNat : Int) == 114) = false := u8f 114 e114 (by omega)
  by_cases e116 : d = 116
  · have t3 : ((d.toNat : Int) == 116) = true := u8t 116 e116 (by omega)
    have EX : Hid (res = (9, 1)) := by have := EX.out; rw [if_neg e110, if_neg e114, if_pos e116] at this; exact Lib.hid this
    clear e110 e114 e116 hres
    go_enter Tryd.func49, Tryd.ntmps49
    go_wp2
    go_ret2
    exact ⟨eres EX.out rfl rfl, Upd.refl _ _⟩
  have t3 : ((d.toNat : Int) == 116) = false := u8f 116 e116 (by omega)
  have EX : Hid (res = if d = 120 ∧ 2 ≤ r.length ∧ Lin.hexv (r.getD 0 0) < 16 ∧ Lin.hexv (r.getD 1 0) < 16 then (UInt8.ofNat (16 * Lin.hexv (r.getD 0 0) + Lin.hexv (r.getD 1 0)), 3) else (d, 1)) := by
    have := EX.out; rw [if_neg e110, if_neg e114, if_neg e116] at this; exact Lib.hid this
  clear hres
  by_cases e120 : d = 120
  · have t4 : ((d.toNat : Int) == 120) = true := u8t 120 e120 (by omega)
    by_cases hlen : 2 ≤ r.length
    · have q4 : (2 : Int) < ((r.length + 1 : Nat) : Int) := by omega
      obtain ⟨a, ha⟩ : ∃ a, r[0]? = some a := ⟨_, List.getElem?_eq_getElem (by omega)⟩
      obtain ⟨b, hb⟩ : ∃ b, r[1]? = some b := ⟨_, List.getElem?_eq_getElem (by omega)⟩
      have rx1 : ∀ w, (Instr.index 9 (.string s) (.int .i64 1)).run Tryd.prog w = .ok (.int .u8 (a.toNat : Int)) w := RX.out 1 a ha
      have rx2 : ∀ w, (Instr.index 9 (.string s) (.int .i64 2)).run Tryd.prog w = .ok (.int .u8 (b.toNat : Int)) w := RX.out 2 b hb
      have g0 : r.getD 0 0 = a := by rw [List.getD_eq_getElem?_getD, ha]; rfl
      have g1 : r.getD 1 0 = b := by rw [List.getD_eq_getElem?_getD, hb]; rfl
      rw [g0, g1] at EX
      clear g0 g1 ha hb
      by_cases hav : Lin.hexv a < 16
      · have ea := dg_ok hav
        have qa : (0 : Int) ≤ dg a := by omega
        by_cases hbv : Lin.hexv b < 16
        · have eb := dg_ok hbv
          have qb : (0 : Int) ≤ dg b := by omega
          have EX : Hid (res = (UInt8.ofNat (16 * Lin.hexv a + Lin.hexv b), 3)) := Lib.hid (EX.out.trans (if_pos ⟨e120, hlen, hav, hbv⟩))
          have DV : Hid (16 * dg a + dg b = ((UInt8.ofNat (16 * Lin.hexv a + Lin.hexv b)).toNat : Int)) := by
            show (_ : Int) = _
            rw [UInt8.toNat_ofNat']; omega
          have ba : dg a ≤ 15 := by omega
          have bb : dg b ≤ 15 := by omega
          have ew1 : IntKind.i64.wrap (16 * dg a) = 16 * dg a := IntWalk.i64_in _ (by omega)
          have ew2 : IntKind.i64.wrap (16 * dg a + dg b) = 16 * dg a + dg b := IntWalk.i64_in _ (by omega)
          have ew3 : IntKind.u8.wrap (16 * dg a + dg b) = 16 * dg a + dg b := by unfold IntKind.wrap; simp [IntKind.bits, IntKind.signed]; omega
          generalize UInt8.ofNat (16 * Lin.hexv a + Lin.hexv b) = dd at *
          clear hav hbv ea eb e110 e114 e116 e120
          go_enter Tryd.func49, Tryd.ntmps49
          go_wp2_with (go_at_call 61; refine (digit_any _ _).mono ?_; rintro e w1 ⟨rfl, rfl⟩)
          go_quiet ((go_at_call 61; exact Calls.quiet_of_same (digit_any _ _)))
          go_wp2
          go_ret2
          exact ⟨eres EX.out DV.out rfl, (Upd.refl _ _).drewN _⟩
        · have eb := dg_no hbv
          have qb : ¬ (0 : Int) ≤ dg b := by omega
          have EX : Hid (res = (d, 1)) := Lib.hid (EX.out.trans (if_neg (fun h => hbv h.2.2.2)))
          clear hav hbv ea eb e110 e114 e116 e120
          go_enter Tryd.func49, Tryd.ntmps49
          go_wp2_with (go_at_call 61; refine (digit_any _ _).mono ?_; rintro e w1 ⟨rfl, rfl⟩)
          go_ret2
          exact ⟨eres EX.out rfl rfl, Upd.refl _ _⟩
      · have ea := dg_no hav
        have qa : ¬ (0 : Int) ≤ dg a := by omega
        have EX : Hid (res = (d, 1)) := Lib.hid (EX.out.trans (if_neg (fun h => hav h.2.2.1)))
        clear hav ea e110 e114 e116 e120
        go_enter Tryd.func49, Tryd.ntmps49
        go_wp2_with (go_at_call 61; refine (digit_any _ _).mono ?_; rintro e w1 ⟨rfl, rfl⟩)
        go_ret2
        exact ⟨eres EX.out rfl rfl, Upd.refl _ _⟩
    · have q4 : ¬ (2 : Int) < ((r.length + 1 : Nat) : Int) := by omega
      have EX : Hid (res = (d, 1)) := Lib.hid (EX.out.trans (if_neg (fun h => hlen h.2.1)))
      clear e110 e114 e116 e120
      go_enter Tryd.func49, Tryd.ntmps49
      go_wp2
      go_ret2
      exact ⟨eres EX.out rfl rfl, Upd.refl _ _⟩
  · have t4 : ((d.toNat : Int) == 120) = false := u8f 120 e120 (by omega)
    have EX : Hid (res = (d, 1)) := Lib.hid (EX.out.trans (if_neg (fun h => e120 h.1)))
    clear e110 e114 e116 e120
    go_enter Tryd.func49, Tryd.ntmps49
    go_wp2
    go_ret2
    exact ⟨eres EX.out rfl rfl, Upd.refl _ _⟩
end Go.Proofs.YtkemjjhmabemiaaDoor
/- Walk: a word between marks. -/
set_option linter.unusedVariables false
set_option linter.unusedSimpArgs false
namespace Go.Proofs.YtkemjjhmabemiaaDoor
open Go.RowKit
open Lin (Txt)

/-- What the reader of a word between marks hands back. -/
def QRes (o : Option (Txt × Txt)) (N : Nat) (e : Ending) : Prop := match o with
  | some (v, t) => e = .returned (.tuple #[.string (ofL v), .int .i64 ((N - t.length : Nat) : Int), .bool (decide (t = [] ∨ Lin.gap (t.headD 0) = true))])
  | none => e = .returned (.tuple #[.string { data := #[] }, .int .i64 0, .bool false])
theorem qres_none {o : Option (Txt × Txt)} {N : Nat} (h : o = none) : QRes o N (.returned (.tuple #[.string { data := #[] }, .int .i64 0, .bool false])) := by subst h; rfl
theorem qres_some {o : Option (Txt × Txt)} {N : Nat} {v t : Txt} {x : Int} {b : Bool} (h : o = some (v, t)) (hx : x = ((N - t.length : Nat) : Int)) (hb : b = decide (t = [] ∨ Lin.gap (t.headD 0) = true)) : QRes o N (.returned (.tuple #[.string (ofL v), .int .i64 x, .bool b])) := by subst h hx hb; rfl
theorem upd_ownB {w w1 w2 : World} {v : Value} {l : Txt} (ho : BytesO w1 w.heap.size v l) (u : Upd (fun _ => False) w w1) (h : Upd (fun k => v.ownBlock = some k) w1 w2) : Upd (fun _ => False) w w2 :=
  u.trans h (fun i hi e => by have := (ho.lt e).1; omega)
theorem quo_next {s : Txt} {k n : Nat} {c m d : UInt8} {acc : Txt} (h : s[k]? = some c) (hm : ¬ c = m) (hs : Lin.step m c (s.drop (k + 1)) = (d, n)) (hn : 1 ≤ n) :
    Lin.quo m 0 acc (s.drop k) = Lin.quo m 0 (acc ++ [d]) (s.drop (k + n)) := by
  rw [drop_cons h, Lin.quo, if_neg hm, hs, Lin.quo_skip, List.drop_drop]
  have : k + 1 + (n - 1) = k + n := by omega
  rw [this]
set_option maxHeartbeats 8000000 in
set_option maxRecDepth 100000 in
theorem quoted_any (m : UInt8) (r0 : Txt) (hm0 : m = 34 ∨ m = 39) (hl : r0.length ≤ 1000000) (w : World) :
    Calls Tryd.prog 28 #[.string (ofL (m :: r0))] w fun e w' => QRes (Lin.quo m 0 [] r0) (r0.length + 1) e ∧ Upd (fun _ => False) w w' := by
  have s1 := ofL_size (m :: r0)
  have rx0 : ∀ w, (Instr.index 9 (.string (ofL (m :: r0))) (.int .i64 0)).run Tryd.prog w = .ok (.int .u8 (m.toNat : Int)) w := run_at (m :: r0) 0 m rfl
  have Q0 := Lib.hid (show Lin.quo m 0 [] r0 = Lin.quo m 0 [] ((m :: r0).drop 1) from rfl)
  have hsl : (m :: r0).length = r0.length + 1 := by simp
  rw [← hsl]
  generalize Lin.quo m 0 [] r0 = res at *
  obtain ⟨s, hs⟩ : ∃ s, s = m :: r0 := ⟨_, rfl⟩
  rw [← hs] at Q0 s1 hsl rx0 ⊢
  have hlen1 : 1 ≤ s.length := by omega
  have hlen2 : s.length ≤ 1000001 := by omega
  clear hs hsl hl
  have HM0 := Lib.hid hm0
  clear hm0
  go_enter Tryd.func28, Tryd.ntmps28
  go_wp2
  go_loopw [2, 3, 4, 5, 7] (fun v2 v3 v4 v5 v7 wr => ∃ (k : Nat) (acc : Txt), v2 = .string { data := #[] } ∧ v3 = .int .i64 0 ∧ v4 = .bool false ∧ v7 = .int .i64 (k : Int) ∧ 1 ≤ k ∧ k ≤ s.length ∧ v5 = v5 ∧ Hid (res = Lin.quo m 0 acc (s.drop k)) ∧ Hid (BytesO wr w.heap.size v5 acc ∧ acc.length ≤ k) ∧ Hid (Upd (fun _ => False) w wr)) (fun _ _ _ _ v7 _ => s.length - (intOf v7).toNat)
  case atStart => exact ⟨1, [], rfl, rfl, rfl, rfl, by omega, hlen1, rfl, Q0, Lib.hid ⟨OwnN.none, by simp⟩, Lib.hid (Upd.refl _ _)⟩
  case round =>
    obtain ⟨k, acc, rfl, rfl, rfl, rfl, hk1, hk, _, QR, OA, U⟩ := hrel
    obtain ⟨p5, c5, e5, hb5, ho5⟩ := own_bytes OA.out.1
    subst e5
    by_cases hlt : k < s.length
    · obtain ⟨c, hc⟩ : ∃ c, s[k]? = some c := ⟨_, List.getElem?_eq_getElem hlt⟩
      have rx := run_at s k c hc
      have HX := Lib.hid hc
      have q1 : (k : Int) < (s.length : Int) := by omega
      clear hc
      by_cases hcm : c = m
      · have hbb : ((c.toNat : Int) == (m.toNat : Int)) = true := by rw [u8beq]; simp [hcm]
        have QR : Hid (res = some (acc, s.drop (k + 1))) := Lib.hid (QR.out.trans (by rw [drop_cons HX.out, Lin.quo, if_pos hcm]))
        have hs0 := hb5.str
        have hsn : ∀ n, (convert 27 9 (.slice p5 acc.length c5)).run Tryd.prog (wr.drewN n) = .ok (.string (ofL acc)) (wr.drewN n) := fun n => (hb5.keep0 ((Upd.refl _ _).drewN n)).str
        have hdl : (s.drop (k + 1)).length = s.length - (k + 1) := List.length_drop
        have ew1 : IntKind.i64.wrap ((k : Int) + 1) = (k : Int) + 1 := IntWalk.i64_in _ (by omega)
        clear hcm
        by_cases hlast : k + 1 = s.length
        · have hb1 : ((k : Int) + 1 == (s.length : Int)) = true := by rw [beq_iff_eq]; omega
          have ht : s.drop (k + 1) = [] := List.drop_eq_nil_of_le (by omega)
          have FB : Hid (true = decide (s.drop (k + 1) = [] ∨ Lin.gap ((s.drop (k + 1)).headD 0) = true)) := Lib.hid (by rw [ht]; rfl)
          have FN : Hid ((k : Int) + 1 = ((s.length - (s.drop (k + 1)).length : Nat) : Int)) := Lib.hid (by omega)
          generalize s.drop (k + 1) = t at *
          clear ht hdl hlast
          go_wp2
          go_quiet (fail)
          go_wp2
          go_ret3
          exact ⟨qres_some QR.out FN.out FB.out, U.out.drewN _⟩
        · have hb1 : ((k : Int) + 1 == (s.length : Int)) = false := by rw [beq_eq_false_iff_ne]; omega
          obtain ⟨d, hd⟩ : ∃ d, s[k + 1]? = some d := ⟨_, List.getElem?_eq_getElem (by omega)⟩
          have rx2 := run_atI s ((k : Int) + 1) (k + 1) d (by omega) hd
          have ht := drop_cons hd
          have FB : Hid (Lin.gap d = decide (s.drop (k + 1) = [] ∨ Lin.gap ((s.drop (k + 1)).headD 0) = true)) := Lib.hid (by rw [ht]; simp)
          have FN : Hid ((k : Int) + 1 = ((s.length - (s.drop (k + 1)).length : Nat) : Int)) := Lib.hid (by omega)
          have BL := blank_any d
          generalize s.drop (k + 1) = t at *
          generalize Lin.gap d = bl at *
          clear ht hdl hlast hd
          go_wp2
          go_quiet ((go_at_call 48; exact Calls.quiet_of_same (BL _)))
          go_wp2
          go_ret3
          exact ⟨qres_some QR.out FN.out FB.out, U.out.drewN _⟩
      · have HM := Lib.hid hcm
        have hbb : ((c.toNat : Int) == (m.toNat : Int)) = false := by rw [u8beq]; simp [hcm]
        by_cases h92 : c = 92
        · subst h92
          have rx : ∀ w, (Instr.index 9 (.string (ofL s)) (.int .i64 (k : Int))).run Tryd.prog w = .ok (.int .u8 92) w := rx
          have hbb : ((92 : Int) == (m.toNat : Int)) = false := hbb
          by_cases hlast : s.length ≤ k + 1
          · have q3 : ¬ (k : Int) + 1 < (s.length : Int) := by omega
            have ST := Lib.hid (show Lin.step m 92 (s.drop (k + 1)) = (92, 1) from by
              unfold Lin.step
              rw [if_neg]
              intro h
              have := h.2.1
              rw [List.length_drop] at this; omega)
            clear hcm
            have hlo := OA.out.2
            obtain ⟨p5, k5, w5, hr1, i5, u5, n5⟩ := bytes_app wr w.heap.size _ acc 92 (OA.out.1.keep0 (Upd.refl _ _)) (by omega) U.out.size
            have I5 := Lib.hid i5
            have U5 := Lib.hid (upd_ownB (OA.out.1.keep0 (Upd.refl _ _)) U.out u5)
            clear i5 u5 n5
            go_wp2_with (at_builtin; refine wpList_builtinN rfl _ _ 27 rfl _ _ rfl rfl hr1 ?_)
            go_roundw
            case rel => exact ⟨k + 1, acc ++ [92], rfl, rfl, rfl, by go_num, by omega, by omega, trivial, Lib.hid (QR.out.trans (quo_next HX.out HM.out ST.out (by omega))), Lib.hid ⟨I5.out, by have := OA.out.2; simp; omega⟩, U5⟩
            case measure => simp [intOf]; omega
          · have q3 : (k : Int) + 1 < (s.length : Int) := by omega
            obtain ⟨d, hd⟩ : ∃ d, s[k + 1]? = some d := ⟨_, List.getElem?_eq_getElem (by omega)⟩
            have rx2 := run_atI s ((k : Int) + 1) (k + 1) d (by omega) hd
            have hr := drop_cons hd
            clear hd
            rcases HM0.out with e34 | e39
            · have em : (m.toNat : Int) = 34 := by rw [e34]; rfl
              have EM := Lib.hid em
              have ES := Lib.hid (show Lin.step m 92 (s.drop (k + 1)) = ((Lin.esc d (s.drop (k + 2))).1, (Lin.esc d (s.drop (k + 2))).2 + 1) from by
                rw [hr]; unfold Lin.step
                rw [if_pos ⟨rfl, by simp, Or.inl e34⟩, if_pos e34]; rfl)
              have hel := Lin.esc_le d (s.drop (k + 2))
              have hep := Lin.esc_pos d (s.drop (k + 2))
              have hdl : (s.drop (k + 2)).length = s.length - (k + 2) := List.length_drop
              have rd := run_drop s ((k : Int) + 1) (by omega) (by omega)
              have ek : ((k : Int) + 1).toNat = k + 1 := by omega
              rw [ek, hr] at rd
              have EC := Lib.hid (fun w => escaped_any d (s.drop (k + 2)) (by omega) w)
              unfold ERes at EC
              rw [hdl] at hel
              obtain ⟨dd, n, he⟩ : ∃ dd n, Lin.esc d (s.drop (k + 2)) = (dd, n) := ⟨_, _, rfl⟩
              rw [he] at EC ES hel hep
              have ST : Hid (Lin.step m 92 (s.drop (k + 1)) = (dd, n + 1)) := ES
              have EC : Hid (∀ w, Calls Tryd.prog 49 #[.string (ofL (d :: s.drop (k + 2)))] w fun e w' => e = .returned (.tuple #[.int .u8 (dd.toNat : Int), .int .i64 (n : Int)]) ∧ Upd (fun _ => False) w w') := EC
              have hel : n ≤ s.length - (k + 2) + 1 := hel
              have hep : 1 ≤ n := hep
              generalize ofL (d :: s.drop (k + 2)) = sx at *
              rw [em] at hbb rx0 ⊢
              clear em e34 hcm hr he hdl ek ES
              go_wp2_with fail
              refine (EC.out _).mono ?_
              rintro e w3 ⟨rfl, u3⟩
              have hlo := OA.out.2
              obtain ⟨p5, k5, w5, hr1, i5, u5, n5⟩ := bytes_app w3 w.heap.size _ acc dd (OA.out.1.keep0 u3) (by omega) (Nat.le_trans U.out.size u3.size)
              have I5 := Lib.hid i5
              have U5 := Lib.hid (upd_ownB (OA.out.1.keep0 u3) (U.out.trans u3 (fun _ _ h => h)) u5)
              clear i5 u5 n5
              clear u3
              go_wp2_with (at_builtin; refine wpList_builtinN rfl _ _ 27 rfl _ _ rfl rfl hr1 ?_)
              go_roundw
              case rel => exact ⟨k + (n + 1), acc ++ [dd], rfl, rfl, rfl, by go_num, by omega, by omega, trivial, Lib.hid (QR.out.trans (quo_next HX.out HM.out ST.out (by omega))), Lib.hid ⟨I5.out, by have := OA.out.2; simp; omega⟩, U5⟩
              case measure => simp [intOf]; omega
            · have em : (m.toNat : Int) = 39 := by rw [e39]; rfl
              have EM := Lib.hid em
              by_cases h39 : d = 39
              · have hb39 : ((d.toNat : Int) == 39) = true := u8t 39 h39 (by omega)
                have ST := Lib.hid (show Lin.step m 92 (s.drop (k + 1)) = (d, 2) from by
                  rw [hr]; unfold Lin.step
                  rw [if_pos ⟨rfl, by simp, Or.inr (by rw [e39, h39]; rfl)⟩, if_neg (by rw [e39]; decide)]; rfl)
                rw [em] at hbb rx0 ⊢
                clear hcm em e39 hr h39
                have hlo := OA.out.2
                obtain ⟨p5, k5, w5, hr1, i5, u5, n5⟩ := bytes_app wr w.heap.size _ acc d (OA.out.1.keep0 (Upd.refl _ _)) (by omega) U.out.size
                have I5 := Lib.hid i5
                have U5 := Lib.hid (upd_ownB (OA.out.1.keep0 (Upd.refl _ _)) U.out u5)
                clear i5 u5 n5
                go_wp2_with (at_builtin; refine wpList_builtinN rfl _ _ 27 rfl _ _ rfl rfl hr1 ?_)
                go_roundw
                case rel => exact ⟨k + 2, acc ++ [d], rfl, rfl, rfl, by go_num, by omega, by omega, trivial, Lib.hid (QR.out.trans (quo_next HX.out HM.out ST.out (by omega))), Lib.hid ⟨I5.out, by have := OA.out.2; simp; omega⟩, U5⟩
                case measure => simp [intOf]; omega
              · have hb39 : ((d.toNat : Int) == 39) = false := u8f 39 h39 (by omega)
                have ST := Lib.hid (show Lin.step m 92 (s.drop (k + 1)) = (92, 1) from by
                  rw [hr]; unfold Lin.step
                  rw [if_neg]
                  rintro ⟨_, _, h | h⟩
                  · rw [e39] at h; cases h
                  · rw [e39] at h; exact h39 h)
                rw [em] at hbb rx0 ⊢
                clear hcm em e39 hr h39
                have hlo := OA.out.2
                obtain ⟨p5, k5, w5, hr1, i5, u5, n5⟩ := bytes_app wr w.heap.size _ acc 92 (OA.out.1.keep0 (Upd.refl _ _)) (by omega) U.out.size
                have I5 := Lib.hid i5
                have U5 := Lib.hid (upd_ownB (OA.out.1.keep0 (Upd.refl _ _)) U.out u5)
                clear i5 u5 n5
                go_wp2_with (at_builtin; refine wpList_builtinN rfl _ _ 27 rfl _ _ rfl rfl hr1 ?_)
                go_roundw
                case rel => exact ⟨k + 1, acc ++ [92], rfl, rfl, rfl, by go_num, by omega, by omega, trivial, Lib.hid (QR.out.trans (quo_next HX.out HM.out ST.out (by omega))), Lib.hid ⟨I5.out, by have := OA.out.2; simp; omega⟩, U5⟩
                case measure => simp [intOf]; omega
        · have hb92 : ((c.toNat : Int) == 92) = false := u8f 92 h92 (by omega)
          have ST := Lib.hid (show Lin.step m c (s.drop (k + 1)) = (c, 1) from by unfold Lin.step; rw [if_neg (fun h => h92 h.1)])
          clear h92 hcm
          have hlo := OA.out.2
          obtain ⟨p5, k5, w5, hr1, i5, u5, n5⟩ := bytes_app wr w.heap.size _ acc c (OA.out.1.keep0 (Upd.refl _ _)) (by omega) U.out.size
          have I5 := Lib.hid i5
          have U5 := Lib.hid (upd_ownB (OA.out.1.keep0 (Upd.refl _ _)) U.out u5)
          clear i5 u5 n5
          go_wp2_with (at_builtin; refine wpList_builtinN rfl _ _ 27 rfl _ _ rfl rfl hr1 ?_)
          go_roundw
          case rel => exact ⟨k + 1, acc ++ [c], rfl, rfl, rfl, by go_num, by omega, by omega, trivial, Lib.hid (QR.out.trans (quo_next HX.out HM.out ST.out (by omega))), Lib.hid ⟨I5.out, by have := OA.out.2; simp; omega⟩, U5⟩
          case measure => simp [intOf]; omega
    · have QR : Hid (res = none) := Lib.hid (QR.out.trans (by rw [List.drop_eq_nil_of_le (by omega)]; rfl))
      go_wp2
      go_ret3
      exact ⟨qres_none QR.out, U.out⟩
end Go.Proofs.YtkemjjhmabemiaaDoor
/- Walks: strings.IndexAny over any bytes, for a blank. -/
set_option linter.unusedVariables false
set_option linter.unusedSimpArgs false
namespace Go.Proofs.YtkemjjhmabemiaaDoor
open Go.RowKit Go.Lib
open Lin (Txt)

def tabs : ByteArray := { data := #[32, 9] }
theorem tabs_next0 (w : World) (ty : TypeId) : (Instr.next (.pointer (some ⟨w.heap.size, 0, none⟩)) true ty).run Tryd.prog (w.iter tabs 0) = .ok (.tuple #[.bool true, .int .i64 0, .int .i32 32]) (w.iter tabs 1) := run_next_ascii (P := Tryd.prog) w tabs 0 ty (by decide) (by decide)
theorem tabs_next1 (w : World) (ty : TypeId) : (Instr.next (.pointer (some ⟨w.heap.size, 0, none⟩)) true ty).run Tryd.prog (w.iter tabs 1) = .ok (.tuple #[.bool true, .int .i64 1, .int .i32 9]) (w.iter tabs 2) := run_next_ascii (P := Tryd.prog) w tabs 1 ty (by decide) (by decide)
theorem tabs_next2 (w : World) (ty : TypeId) : (Instr.next (.pointer (some ⟨w.heap.size, 0, none⟩)) true ty).run Tryd.prog (w.iter tabs 2) = .ok (.tuple #[.bool false]) (w.iter tabs 2) := run_next_end (P := Tryd.prog) w tabs 2 ty (by decide)
theorem Upd.iter {F : Nat → Prop} {a w : World} (h : Upd F a w) (s : ByteArray) (pos : Nat) : Upd F a (w.iter s pos) := h.alloc _
set_option maxHeartbeats 4000000 in
set_option maxRecDepth 1000000 in
theorem irune_err (w : World) :
    Calls Tryd.prog 59 #[.string tabs, .int .i32 65533] w fun e w' => e = .returned (.int .i64 (-1)) ∧ Upd (fun _ => False) w w' := by
  have r0 := tabs_next0 w
  have r1 := tabs_next1 w
  have r2 := tabs_next2 w
  generalize tabs = t at *
  go_enter Tryd.func59, Tryd.ntmps59
  go_wp2
  go_loopg [5, 6] 2 (fun g _ _ wx => ∃ i : Nat, i + g = 2 ∧ wx = w.iter t i)
  case atStart => exact ⟨0, by omega, rfl⟩
  case round =>
    obtain ⟨i, hig, rfl⟩ := hrel
    have hi : i = 0 ∨ i = 1 ∨ i = 2 := by omega
    rcases hi with rfl | rfl | rfl
    · obtain rfl : gk = 2 := by omega
      go_wp2
      go_roundg 1
      case measure => omega
      case rel => exact ⟨1, by omega, rfl⟩
    · obtain rfl : gk = 1 := by omega
      go_wp2
      go_roundg 0
      case measure => omega
      case rel => exact ⟨2, by omega, rfl⟩
    · go_wp2
      go_ret
      exact ⟨rfl, (Upd.refl _ _).iter _ _⟩
set_option maxHeartbeats 4000000 in
set_option maxRecDepth 1000000 in
theorem irune_far (c : Int) (h0 : 128 ≤ c) (h1 : c ≤ 1114111) (hv : Utf8.valid c = true) (w : World) :
    Calls Tryd.prog 59 #[.string tabs, .int .i32 c] w fun e w' => e = .returned (.int .i64 (-1)) ∧ Upd (fun _ => False) w w' := by
  by_cases he : c = 65533
  · subst he; exact irune_err w
  · have hb : (c == 65533) = false := by simpa using he
    obtain ⟨s2, s4, s5⟩ := encode_facts c hv h0
    have hcv : ∀ w, (convert 21 9 (.int .i32 c)).run Tryd.prog w = .ok (.string (Utf8.encode c)) w := fun w => run_convert_int_string w 21 9 .i32 c (by kernel_rfl) Tryd.underlying9
    have VR := Tryd.utf8_ValidRune c
    have hvr : Lib.validRune c = true := by
      unfold Utf8.valid at hv; unfold Lib.validRune
      simp only [Bool.or_eq_true, Bool.and_eq_true, decide_eq_true_eq] at hv ⊢
      omega
    rw [hvr] at VR
    have VR := Lib.hid VR
    have hts : tabs.size = 2 := rfl
    have tx1 : ∀ w, (Instr.index 9 (.string tabs) (.int .i64 1)).run Tryd.prog w = .ok (.int .u8 9) w := fun w => by
      rw [run_index_string w _ _ _ _ Tryd.underlying9, dif_pos (by decide)]; rfl
    have tl2 : ∀ w, (Instr.slice 9 (.string tabs) (some (.int .i64 2)) none none).run Tryd.prog w = .ok (.string { data := #[] }) w := fun w => by
      simp [Instr.slice, run_underlying Tryd.underlying9, Instr.sliceBounds, run_sliceBound, hts]
      rfl
    generalize Utf8.encode c = rs at *
    have IX := fun x : Int => Tryd.strings_IndexByte { data := #[] } x
    have IX : Hid (∀ (x : Int) (w : World), Calls Tryd.prog 68 #[.string { data := #[] }, .int .u8 x] w fun e w' => e = .returned (.int .i64 (-1)) ∧ w' = w) := Lib.hid IX
    generalize tabs = t at *
    by_cases hs2 : rs.size = 2
    · obtain ⟨y, hy⟩ : ∃ y : UInt8, rs[1]'(by omega) = y := ⟨_, rfl⟩
      have hy8 : 128 ≤ y.toNat := by
        rw [← hy]
        have := s5 (by omega)
        simpa [hs2] using this
      have ry : ∀ w, (Instr.index 9 (.string rs) (.int .i64 1)).run Tryd.prog w = .ok (.int .u8 (y.toNat : Int)) w := fun w => by
        rw [run_index_string w _ _ _ _ Tryd.underlying9, dif_pos (by omega)]
        subst hy; rfl
      have hb9 : ((9 : Int) != (y.toNat : Int)) = true := by rw [bne_iff_ne]; omega
      generalize (y.toNat : Int) = yi at *
      clear s5 hy hv he
      go_enter Tryd.func59, Tryd.ntmps59
      go_wp2_with (go_at_call 69; refine (VR.out _).mono ?_; rintro e w1 ⟨rfl, rfl⟩)
      go_step3
      go_wp2
      refine wp_loop_rounds 1 ?_
      rw [rounds_succ]
      go_wp2
      go_step3
      go_wp2
      go_quiet (fail)
      have ww2 : IntKind.i64.wrap 2 = 2 := by decide
      obtain ⟨w2, hw2⟩ : ∃ w2, w2 = w1.drewN nq := ⟨_, rfl⟩
      rw [← hw2]
      have U2 : Hid (Upd (fun _ => False) w1 w2) := by rw [hw2]; exact Lib.hid ((Upd.refl _ _).drewN _)
      clear hw2
      go_wp2
      go_quiet ((go_at_call 68; exact Calls.quiet_of_same (IX.out _ _)))
      go_wp2
      simp only [Exit.noGoto_ret, Exit.inBlock, Exit.then]
      go_ret
      exact ⟨rfl, U2.out.drewN _⟩
    · have hs3 : 3 ≤ rs.size := by omega
      clear s5 hv he
      go_enter Tryd.func59, Tryd.ntmps59
      go_wp2_with (go_at_call 69; refine (VR.out _).mono ?_; rintro e w1 ⟨rfl, rfl⟩)
      go_step3
      go_wp2
      refine wp_loop_rounds 1 ?_
      rw [rounds_succ]
      go_wp2
      rw [Exit.noGoto_ret]
      go_ret
      exact ⟨rfl, Upd.refl _ _⟩
/-- A byte that is no single one: what a text's next rune is. -/
theorem decode_far (s : Txt) (i : Nat) (x : UInt8) (hx : s[i]? = some x) (h : 128 ≤ x.toNat) :
    ∃ c n, Utf8.decode (ofL s) i = (c, n) ∧ 128 ≤ c ∧ c ≤ 1114111 ∧ Utf8.valid (c : Int) = true ∧ 1 ≤ n ∧ i + n ≤ s.length ∧ ∀ j, 1 ≤ j → j < n → ∃ y, s[i + j]? = some y ∧ 128 ≤ y.toNat := by
  have hi : i < s.length := (List.getElem?_eq_some_iff.1 hx).1
  have hg : ∀ j, (ofL s).get! j = s.getD j 0 := fun j => by
    unfold ofL
    show (s.toArray)[j]! = _
    simp [getElem!_def, List.getD_eq_getElem?_getD]
    cases s[j]? <;> rfl
  rw [Lib.decode_at, ofL_size, hg, hg, hg, hg]
  have e0 : s.getD i 0 = x := by rw [List.getD_eq_getElem?_getD, hx]; rfl
  rw [e0]
  have b1 := (s.getD (i + 1) 0).toNat_lt
  have b2 := (s.getD (i + 2) 0).toNat_lt
  have b3 := (s.getD (i + 3) 0).toNat_lt
  have b0 := x.toNat_lt
  have ge : ∀ j, i + j < s.length → ∃ y, s[i + j]? = some y ∧ s.getD (i + j) 0 = y := fun j hj => ⟨_, List.getElem?_eq_getElem hj, by rw [List.getD_eq_getElem?_getD, List.getElem?_eq_getElem hj]; rfl⟩
  have far : ∀ j, i + j < s.length → (s.getD (i + j) 0).toNat / 64 = 2 → ∃ y, s[i + j]? = some y ∧ 128 ≤ y.toNat := fun j hj hd => by
    obtain ⟨y, h1, h2⟩ := ge j hj
    rw [h2] at hd
    exact ⟨y, h1, by omega⟩
  have none1 : ∀ j, 1 ≤ j → j < 1 → ∃ y, s[i + j]? = some y ∧ 128 ≤ y.toNat := fun j a b => by omega
  have v3 : Utf8.valid (65533 : Int) = true := by decide
  generalize hb1 : (s.getD (i + 1) 0).toNat = y1 at *
  generalize hb2 : (s.getD (i + 2) 0).toNat = y2 at *
  generalize hb3 : (s.getD (i + 3) 0).toNat = y3 at *
  unfold decodeN
  rw [if_neg (by omega)]
  have valid_of : ∀ c : Nat, (c < 55296 ∨ (57344 ≤ c ∧ c ≤ 1114111)) → Utf8.valid (c : Int) = true := fun c hc => by
    unfold Utf8.valid
    simp only [Bool.or_eq_true, Bool.and_eq_true, decide_eq_true_eq]
    omega
  split
  · next h1 =>
    split
    · exact ⟨_, _, rfl, by omega, by omega, valid_of _ (by omega), by omega, by omega, fun j a b => by
        obtain rfl : j = 1 := by omega
        exact far 1 (by omega) (by rw [hb1]; exact h1.2.2)⟩
    · exact ⟨_, _, rfl, by omega, by omega, v3, by omega, by omega, none1⟩
  · split
    · next h1 =>
      split
      · next h2 =>
        exact ⟨_, _, rfl, by omega, by omega, valid_of _ h2.2, by omega, by omega, fun j a b => by
          have hj : j = 1 ∨ j = 2 := by omega
          rcases hj with rfl | rfl
          · exact far 1 (by omega) (by rw [hb1]; exact h1.2.1.2)
          · exact far 2 (by omega) (by rw [hb2]; exact h1.2.2.2)⟩
      · exact ⟨_, _, rfl, by omega, by omega, v3, by omega, by omega, none1⟩
    · split
      · next h1 =>
        split
        · next h2 =>
          exact ⟨_, _, rfl, by omega, by omega, valid_of _ h2.2, by omega, by omega, fun j a b => by
            have hj : j = 1 ∨ j = 2 ∨ j = 3 := by omega
            rcases hj with rfl | rfl | rfl
            · exact far 1 (by omega) (by rw [hb1]; exact h1.2.1.2)
            · exact far 2 (by omega) (by rw [hb2]; exact h1.2.2.1.2)
            · exact far 3 (by omega) (by rw [hb3]; exact h1.2.2.2.2)⟩
        · exact ⟨_, _, rfl, by omega, by omega, v3, by omega, by omega, none1⟩
      · exact ⟨_, _, rfl, by omega, by omega, v3, by omega, by omega, none1⟩
/-- A text's iterator goes on. -/
def World.atIter (W : World) (it : Nat) (s : ByteArray) (pos : Nat) : World := { W with heap := W.heap.setIfInBounds it (.stringIter s pos) }
theorem atIter_upd (W : World) (it : Nat) (s : ByteArray) (pos : Nat) : Upd (fun b => b = it) W (World.atIter W it s pos) :=
  ⟨rfl, rfl, rfl, by simp [World.atIter], fun k hk hF => by
    show (W.heap.setIfInBounds it _)[k]? = _
    rw [Array.getElem?_setIfInBounds_ne (fun e => hF e.symm)]⟩
theorem atIter_at (W : World) (it : Nat) (s : ByteArray) (pos : Nat) (h : it < W.heap.size) : (World.atIter W it s pos).heap[it]? = some (.stringIter s pos) := by
  show (W.heap.setIfInBounds it _)[it]? = _
  rw [Array.getElem?_setIfInBounds_self_of_lt h]
theorem run_next_on (W : World) (it : Nat) (s : ByteArray) (pos c n : Nat) (ty : TypeId) (hb : W.heap[it]? = some (.stringIter s pos)) (h : pos < s.size) (hd : Utf8.decode s pos = (c, n)) :
    (Instr.next (.pointer (some ⟨it, 0, none⟩)) true ty).run Tryd.prog W = .ok (.tuple #[.bool true, .int .i64 (pos : Int), .int .i32 (c : Int)]) (World.atIter W it s (pos + n)) := by
  simp only [Instr.next, getObj, setObj, Sem.run_bind, Sem.run, hb, Result.andThen, h, if_true, hd]
  simp [goInt, Sem.run, hb, World.atIter]
theorem run_next_off (W : World) (it : Nat) (s : ByteArray) (pos : Nat) (ty : TypeId) (hb : W.heap[it]? = some (.stringIter s pos)) (h : ¬ pos < s.size) :
    (Instr.next (.pointer (some ⟨it, 0, none⟩)) true ty).run Tryd.prog W = .ok (.tuple #[.bool false]) W := by
  simp [Instr.next, getObj, Sem.run, hb, h]
end Go.Proofs.YtkemjjhmabemiaaDoor
/- Walks: whole numbers as text, and the document's answer. -/
set_option linter.unusedVariables false
set_option linter.unusedSimpArgs false
namespace Go.Proofs.YtkemjjhmabemiaaDoor
open Go.RowKit Go.Sort Go.Proofs
open Whole (wparse refParse)

/-- What start-up code has laid, as far as it is read. -/
structure Std (w : World) : Prop where
  tab : Lib.TabIs Tryd.prog w "internal/strconv.uint64pow10" .u64 Lib.pow10Tab
  syn : ∃ te pe, w.var? Tryd.prog "strconv.ErrSyntax" = some #[.iface te pe]
  rng : ∃ te pe, w.var? Tryd.prog "strconv.ErrRange" = some #[.iface te pe]
theorem var_keep {w w' : World} (u : Upd (fun _ => False) w w') {n : String} {cs : Array Value} (h : w.var? Tryd.prog n = some cs) : w'.var? Tryd.prog n = some cs := by
  unfold World.var? at h ⊢
  cases hg : Tryd.prog.globalNamed n with
  | none => rw [hg] at h; cases h
  | some g =>
    rw [hg] at h
    simp only [Option.bind_some] at h ⊢
    have hl : g < w.heap.size := by
      by_cases hl : g < w.heap.size
      · exact hl
      · rw [Array.getElem?_eq_none (by omega : w.heap.size ≤ g)] at h; cases h
    rw [u.block g hl id]
    exact h
theorem Std.keep {w w' : World} (h : Std w) (u : Upd (fun _ => False) w w') : Std w' :=
  ⟨var_keep u h.tab, by obtain ⟨a, b, c⟩ := h.syn; exact ⟨a, b, var_keep u c⟩, by obtain ⟨a, b, c⟩ := h.rng; exact ⟨a, b, var_keep u c⟩⟩
theorem upd_grow (w : World) (k : Nat) (os : Array Obj) : Upd (fun _ => False) w (grow (w.drewN k) os) :=
  ⟨rfl, rfl, rfl, by unfold grow; simp, fun i hi _ => by unfold grow; simp only; rw [Array.getElem?_append_left (show i < (w.drewN k).heap.size from hi)]; rfl⟩
theorem upd_fresh {w w' : World} (h : Below w.heap.size w w') : Upd (fun _ => False) w w' := (Upd.of_below h).weaken fun i hi h2 => by omega
theorem upd_bytes (w : World) (e : TypeId) (s : ByteArray) : Upd (fun _ => False) w (Lib.bytesWorld w e s) :=
  ⟨rfl, rfl, rfl, by simp [Lib.bytesWorld, World.freeze, World.alloc, World.drew, -World.alloc_eq, -World.drew_eq], fun i hi _ => Lib.bytesWorld_at_old w e s i hi⟩

def txt (n : Int) : ByteArray := ⟨(Lib.itoa n).toArray⟩
theorem txt_list (n : Int) : (txt n).data.toList = Lib.itoa n := rfl
theorem text_any (n : Int) (h0 : -9223372036854775808 ≤ n) (h1 : n ≤ 9223372036854775807) (w : World) (hs : Std w) :
    Calls Tryd.prog 51 #[.int .i64 n] w fun e w' => e = .returned (.string (txt n)) ∧ Upd (fun _ => False) w w' := by
  have F := Lib.hid (Tryd.strconv_FormatInt_10 n h0 h1 w hs.tab)
  clear hs h0 h1
  go_enter Tryd.func51, Tryd.ntmps51
  go_wp2_with fail
  refine F.out.mono ?_
  rintro e w' ⟨rfl, k, os, rfl⟩
  go_wp2
  go_ret
  exact ⟨rfl, upd_grow _ _ _⟩

theorem bytes_eq {a b : ByteArray} : (a.toList == b.toList) = decide (a.data.toList = b.data.toList) := by
  rw [ByteArray.toList_eq, ByteArray.toList_eq]
  rw [Bool.eq_iff_iff, beq_iff_eq, decide_eq_true_eq]
def pnum (s : ByteArray) : Int := (wparse s.data.toList).getD 0
def perr (s : ByteArray) : Int := if (wparse s.data.toList).isSome then 0 else 11

set_option maxHeartbeats 1000000 in
theorem parse_any (s : ByteArray) (hz : s.size ≤ 100000) (w : World) (hs : Std w) :
    Calls Tryd.prog 54 #[.string s] w fun e w' => e = .returned (.tuple #[.int .i64 (pnum s), .int .i64 (perr s)]) ∧ Upd (fun _ => False) w w' := by
  rcases hp : Lib.parseIntB 64 s.data.toList with v | _ | _
  case ok =>
    obtain ⟨v0, v1⟩ := Whole.parse_range hp
    have F := Lib.hid (Tryd.strconv_ParseInt_10_at64_ok s (by omega) v hp w)
    have HS := Lib.hid hs
    have HP := Lib.hid hp
    have hr : Hid (wparse s.data.toList = if Lib.itoa v = s.data.toList then some v else none) := by show wparse _ = _; unfold wparse; rw [hp]
    clear hs hp
    go_enter Tryd.func54, Tryd.ntmps54
    go_wp2_with fail
    refine F.out.mono ?_
    rintro e w1 ⟨rfl, hw⟩
    have U : Upd (fun _ => False) w w1 := by
      rcases hw with rfl | ⟨t, rfl⟩
      · exact Upd.refl _ _
      · exact upd_bytes _ _ _
    have T := Lib.hid (text_any v v0 v1 w1 (HS.out.keep U))
    have UU := Lib.hid U
    clear U hw F
    go_wp2_with fail
    refine T.out.mono ?_
    rintro e w2 ⟨rfl, u2⟩
    have U2 := Lib.hid (UU.out.trans u2 (fun _ _ h => h))
    clear u2 T UU
    by_cases hh : Lib.itoa v = s.data.toList
    · have hb : ((txt v).toList == s.toList) = true := by rw [bytes_eq, txt_list]; simp [hh]
      rw [if_pos hh] at hr
      go_wp2
      go_ret2
      refine ⟨?_, U2.out⟩
      unfold pnum perr; rw [hr.out]; rfl
    · have hb : ((txt v).toList == s.toList) = false := by rw [bytes_eq, txt_list]; simp [hh]
      rw [if_neg hh] at hr
      go_wp2
      go_ret2
      refine ⟨?_, U2.out⟩
      unfold pnum perr; rw [hr.out]; rfl
  rotate_left
  case range =>
    obtain ⟨te, pe, hv⟩ := hs.rng
    have F := Lib.hid (Tryd.strconv_ParseInt_10_at64_range_var s (by omega) hp te pe w hv)
    have hr : Hid (wparse s.data.toList = none) := by show wparse _ = _; unfold wparse; rw [hp]
    clear hs hp hv
    go_enter Tryd.func54, Tryd.ntmps54
    go_wp2_with fail
    refine F.out.mono ?_
    rintro e w1 ⟨N, rfl, _, _, hb⟩
    have U := Lib.hid (upd_fresh hb)
    clear hb F
    go_wp2
    go_ret2
    refine ⟨?_, U.out⟩
    unfold pnum perr; rw [hr.out]; rfl
  · obtain ⟨te, pe, hv⟩ := hs.syn
    have F := Lib.hid (Tryd.strconv_ParseInt_10_at64_syntax_var s (by omega) hp te pe w hv)
    have hr : Hid (wparse s.data.toList = none) := by show wparse _ = _; unfold wparse; rw [hp]
    clear hs hp hv
    go_enter Tryd.func54, Tryd.ntmps54
    go_wp2_with fail
    refine F.out.mono ?_
    rintro e w1 ⟨N, rfl, _, _, hb⟩
    have U := Lib.hid (upd_fresh hb)
    clear hb F
    go_wp2
    go_ret2
    refine ⟨?_, U.out⟩
    unfold pnum perr; rw [hr.out]; rfl
end Go.Proofs.YtkemjjhmabemiaaDoor
