/- Walk: the document's command with which bytes begin. -/
import Derived.Test.YtkemjjhmabemiaaDoorK08
import Derived.Test.YtkemjjhmabemiaaDoorK09
import Derived.Test.YtkemjjhmabemiaaDoorK07
import Derived.Test.YtkemjjhmabemiaaDoorRows
import Derived.ProofKit
import Derived.LaidMore
import Derived.Lay
import Derived.OpenShut
import Derived.Stop.Joined
import Derived.Stop.LaidErr
import Derived.Lib.LaidTab
import Derived.Test.YtkemjjhmabemiaaDoorK03
import Derived.Deep.Slices
import Derived.Deep.Fields
import Derived.ChangeSame
set_option linter.unusedVariables false
set_option linter.unusedSimpArgs false
namespace Go.Proofs.YtkemjjhmabemiaaDoor
open Go.RowKit
open Lin (Txt)

/-- Where the reader of a line stands. -/
theorem feed_next {s : Txt} {k : Nat} {c : UInt8} {res : Lin.R Txt} (hk : k < 4200) (hc : s[k]? = some c) (h10 : ¬ c = 10) (h : res = Lin.feed (s.take k) (4200 - k) (s.drop k)) : res = Lin.feed (s.take (k + 1)) (4200 - (k + 1)) (s.drop (k + 1)) := by
  obtain ⟨n, hn⟩ : ∃ n, 4200 - k = n + 1 := ⟨4200 - k - 1, by omega⟩
  have hn2 : 4200 - (k + 1) = n := by omega
  have hl := (List.getElem?_eq_some_iff.1 hc).1
  have ht : s.take (k + 1) = s.take k ++ [c] := by
    obtain ⟨_, e⟩ := List.getElem?_eq_some_iff.1 hc
    rw [List.take_succ_eq_append_getElem hl, e]
  rw [hn, drop_cons hc, Lin.feed, if_neg h10] at h
  rw [hn2, ht]; exact h
theorem strip_last {s : Txt} {k : Nat} : (k = 0 → Lin.strip (s.take k) = []) ∧ (∀ y, 1 ≤ k → s[k - 1]? = some y → (y = 13 → Lin.strip (s.take k) = s.take (k - 1)) ∧ (¬ y = 13 → Lin.strip (s.take k) = s.take k)) := by
  refine ⟨fun h => by subst h; rfl, fun y h1 hy => ?_⟩
  have hl := (List.getElem?_eq_some_iff.1 hy).1
  have ht : s.take k = s.take (k - 1) ++ [y] := by
    obtain ⟨_, e⟩ := List.getElem?_eq_some_iff.1 hy
    have : k = k - 1 + 1 := by omega
    conv => lhs; rw [this]
    rw [List.take_succ_eq_append_getElem hl, e]
  have hlast : (s.take k).getLast? = some y := by rw [ht]; simp
  unfold Lin.strip
  rw [hlast]
  constructor
  · intro h; rw [if_pos (by rw [h]), ht]; simp
  · intro h; rw [if_neg (by simpa using h)]
set_option maxHeartbeats 4000000 in
set_option maxRecDepth 100000 in
theorem rparse2_any (s : Txt) (w : World) (hl : s.length ≤ 100000) :
    Calls Tryd.prog 12 #[.string (ofL s)] w fun e w' => PRes w.heap.size (Lin.parse s) e w' ∧ Upd (fun _ => False) w w' := by
  have s1 := ofL_size s
  have PX := Lib.hid (show Lin.parse s = if s.head? = some 42 then Lin.array s else match Lin.feed [] 4200 s with | .there x n => (match Lin.words (Lin.strip x) with | some o => .there o n | none => .bad) | .short => .short | .bad => .bad from rfl)
  by_cases h42 : s.head? = some 42
  · obtain ⟨r, hr⟩ : ∃ r, s = 42 :: r := by
      cases s with
      | nil => simp at h42
      | cons c r => simp at h42; subst h42; exact ⟨r, rfl⟩
    have AR := Lib.hid (rarray_any s w hl)
    have PX : Hid (Lin.parse s = Lin.array s) := Lib.hid (PX.out.trans (if_pos h42))
    have rx0 : ∀ w, (Instr.index 9 (.string (ofL s)) (.int .i64 0)).run Tryd.prog w = .ok (.int .u8 42) w := run_at s 0 42 (by rw [hr]; rfl)
    have hn0 : (0 : Int) < (s.length : Int) := by rw [hr]; simp
    clear h42 hr
    rw [PX.out]
    clear PX
    cases har : Lin.array s with
    | short =>
      rw [har] at AR
      have AR : Hid (Calls Tryd.prog 29 #[.string (ofL s)] w fun e w' => e = .returned (.tuple #[.slice none 0 0, .int .i64 0, .int .i64 1]) ∧ Upd (fun _ => False) w w') := AR
      clear har
      go_enter Tryd.func12, Tryd.ntmps12
      go_wp2_with fail
      refine (AR.out).mono ?_
      rintro e w1 ⟨rfl, u1⟩
      go_wp2
      go_ret3
      exact ⟨pres_short rfl, u1⟩
    | bad =>
      rw [har] at AR
      have AR : Hid (Calls Tryd.prog 29 #[.string (ofL s)] w fun e w' => e = .returned (.tuple #[.slice none 0 0, .int .i64 0, .int .i64 2]) ∧ Upd (fun _ => False) w w') := AR
      clear har
      go_enter Tryd.func12, Tryd.ntmps12
      go_wp2_with fail
      refine (AR.out).mono ?_
      rintro e w1 ⟨rfl, u1⟩
      go_wp2
      go_ret3
      exact ⟨pres_bad rfl, u1⟩
    | there out n =>
      rw [har] at AR
      have AR : Hid (Calls Tryd.prog 29 #[.string (ofL s)] w fun e w' => (∃ v, e = .returned (.tuple #[v, .int .i64 (n : Int), .int .i64 0]) ∧ TxtsO w' w.heap.size v out) ∧ Upd (fun _ => False) w w') := AR
      clear har
      go_enter Tryd.func12, Tryd.ntmps12
      go_wp2_with fail
      refine (AR.out).mono ?_
      rintro e w1 ⟨⟨v, rfl, ht⟩, u1⟩
      have HT := Lib.hid ht
      clear ht
      go_wp2
      go_ret3
      exact ⟨pres_there rfl rfl HT.out, u1⟩
  · have PX : Hid (Lin.parse s = match Lin.feed [] 4200 s with | .there x n => (match Lin.words (Lin.strip x) with | some o => .there o n | none => .bad) | .short => .short | .bad => .bad) := Lib.hid (PX.out.trans (if_neg h42))
    have hstar : (¬ (0 : Int) < (s.length : Int)) ∨ ∃ c : UInt8, (0 : Int) < (s.length : Int) ∧ (∀ w, (Instr.index 9 (.string (ofL s)) (.int .i64 0)).run Tryd.prog w = .ok (.int .u8 (c.toNat : Int)) w) ∧ ((c.toNat : Int) == 42) = false := by
      cases s with
      | nil => left; simp
      | cons c r =>
        right
        exact ⟨c, by simp, run_at (c :: r) 0 c rfl, u8f 42 (by simpa using h42) (by omega)⟩
    have F0 := Lib.hid (show Lin.feed [] 4200 s = Lin.feed (s.take 0) (4200 - 0) (s.drop 0) from rfl)
    generalize Lin.parse s = res at *
    generalize Lin.feed [] 4200 s = fres at *
    clear h42
    rcases hstar with hz | ⟨c0, hz, rx0, hb0⟩
    all_goals
      go_enter Tryd.func12, Tryd.ntmps12
      go_wp2
      go_loopw [2, 3, 4, 8] (fun v2 v3 v4 v8 wr => ∃ k : Nat, v2 = .slice none 0 0 ∧ v3 = .int .i64 0 ∧ v4 = .int .i64 0 ∧ v8 = .int .i64 (k : Int) ∧ k ≤ s.length ∧ k ≤ 4200 ∧ Hid (fres = Lin.feed (s.take k) (4200 - k) (s.drop k)) ∧ wr = w) (fun _ _ _ v8 _ => s.length - (intOf v8).toNat)
      case atStart => exact ⟨0, rfl, rfl, rfl, rfl, by omega, by omega, F0, rfl⟩
      case round =>
        obtain ⟨k, rfl, rfl, rfl, rfl, hk, hk2, FR, hwr⟩ := hrel
        subst hwr
        clear F0 hz
        by_cases hlt : k < s.length
        · try (exfalso; omega)
          all_goals
            have q1 : (k : Int) < (s.length : Int) := by omega
            by_cases h4 : k < 4200
            · have q2 : (k : Int) < 4200 := by omega
              obtain ⟨c, hc⟩ : ∃ c, s[k]? = some c := ⟨_, List.getElem?_eq_getElem hlt⟩
              have rx := run_at s k c hc
              have HC := Lib.hid hc
              by_cases h10 : c = 10
              · have b10 : ((c.toNat : Int) != 10) = false := u8m 10 h10 (by omega)
                have FT : Hid (fres = .there (s.take k) (k + 1)) := Lib.hid (by
                  obtain ⟨n, hn⟩ : ∃ n, 4200 - k = n + 1 := ⟨4200 - k - 1, by omega⟩
                  rw [FR.out, hn, drop_cons hc, Lin.feed, if_pos h10, List.length_take, Nat.min_eq_left hk])
                have PX : Hid (res = (match Lin.words (Lin.strip (s.take k)) with | some o => .there o (k + 1) | none => .bad)) := by have := PX.out; rw [FT.out] at this; exact Lib.hid this
                have rt1 := run_take s (k : Int) (by omega) (by omega)
                rw [Int.toNat_natCast] at rt1
                have stt := strip_last (s := s) (k := k)
                clear hc FR FT h10
                have hX : (k = 0 ∧ ¬ (0 : Int) < (k : Int) ∧ ofL (Lin.strip (s.take k)) = ofL (s.take k)) ∨ (∃ y : UInt8, (0 : Int) < (k : Int) ∧ (∀ w, (Instr.index 9 (.string (ofL s)) (.int .i64 ((k : Int) - 1))).run Tryd.prog w = .ok (.int .u8 (y.toNat : Int)) w) ∧ ((((y.toNat : Int) == 13) = true ∧ (∀ w, (Instr.slice 9 (.string (ofL s)) none (some (.int .i64 ((k : Int) - 1))) none).run Tryd.prog w = .ok (.string (ofL (Lin.strip (s.take k)))) w)) ∨ (((y.toNat : Int) == 13) = false ∧ ofL (Lin.strip (s.take k)) = ofL (s.take k)))) := by
                  by_cases hk0 : k = 0
                  · left; exact ⟨hk0, by omega, by rw [stt.1 hk0, hk0]; rfl⟩
                  · right
                    obtain ⟨y, hy⟩ : ∃ y, s[k - 1]? = some y := ⟨_, List.getElem?_eq_getElem (by omega)⟩
                    obtain ⟨z1, z2⟩ := stt.2 y (by omega) hy
                    refine ⟨y, by omega, run_atI s ((k : Int) - 1) (k - 1) y (by omega) hy, ?_⟩
                    by_cases hy13 : y = 13
                    · left
                      refine ⟨u8t 13 hy13 (by omega), fun w => ?_⟩
                      have := run_take s ((k : Int) - 1) (by omega) (by omega) w
                      have e : ((k : Int) - 1).toNat = k - 1 := by omega
                      rw [e, ← z1 hy13] at this; exact this
                    · right
                      exact ⟨u8f 13 hy13 (by omega), by rw [z2 hy13]⟩
                have hsl : (Lin.strip (s.take k)).length ≤ 1000000 := by
                  have h1 : (s.take k).length ≤ s.length := Nat.le_trans (List.length_take_le _ _) hk
                  unfold Lin.strip
                  split
                  · rw [List.length_dropLast]; omega
                  · omega
                have WW := Lib.hid (fun w => rwords_any (Lin.strip (s.take k)) w hsl)
                clear stt
                have EQ := Lib.hid (show Lin.strip (s.take k) = Lin.strip (s.take k) from rfl)
                generalize Lin.strip (s.take k) = Y at *
                clear EQ hsl
                cases hw : Lin.words Y with
                | none =>
                  rw [hw] at PX WW
                  have PX : Hid (res = .bad) := PX
                  have WW : Hid (∀ w, Calls Tryd.prog 13 #[.string (ofL Y)] w fun e w' => e = .returned (.tuple #[.slice none 0 0, .int .i64 61]) ∧ Upd (fun _ => False) w w') := WW
                  clear hw
                  rcases hX with ⟨hk0, q3, eY⟩ | ⟨y, q3, ry, ⟨by13, rt2⟩ | ⟨by13, eY⟩⟩
                  · rw [← eY] at rt1
                    clear eY hk0
                    generalize ofL Y = yy at *
                    go_wp2_with (go_at_call 13; refine (WW.out _).mono ?_; rintro e w3 ⟨rfl, u3⟩)
                    go_ret3
                    exact ⟨pres_bad PX.out, u3⟩
                  · generalize ofL Y = yy at *
                    go_wp2_with (go_at_call 13; refine (WW.out _).mono ?_; rintro e w3 ⟨rfl, u3⟩)
                    go_ret3
                    exact ⟨pres_bad PX.out, u3⟩
                  · rw [← eY] at rt1
                    clear eY
                    generalize ofL Y = yy at *
                    go_wp2_with (go_at_call 13; refine (WW.out _).mono ?_; rintro e w3 ⟨rfl, u3⟩)
                    go_ret3
                    exact ⟨pres_bad PX.out, u3⟩
                | some out =>
                  rw [hw] at PX WW
                  have PX : Hid (res = .there out (k + 1)) := PX
                  have WW : Hid (∀ w, Calls Tryd.prog 13 #[.string (ofL Y)] w fun e w' => (∃ v, e = .returned (.tuple #[v, .int .i64 0]) ∧ TxtsO w' w.heap.size v out) ∧ Upd (fun _ => False) w w') := WW
                  clear hw
                  rcases hX with ⟨hk0, q3, eY⟩ | ⟨y, q3, ry, ⟨by13, rt2⟩ | ⟨by13, eY⟩⟩
                  · rw [← eY] at rt1
                    clear eY hk0
                    generalize ofL Y = yy at *
                    go_wp2_with fail
                    refine (WW.out _).mono ?_
                    rintro e w3 ⟨⟨v, rfl, ht⟩, u3⟩
                    have HT := Lib.hid ht
                    clear ht
                    go_wp2
                    go_ret3
                    exact ⟨pres_there PX.out (by omega) HT.out, u3⟩
                  · generalize ofL Y = yy at *
                    go_wp2_with fail
                    refine (WW.out _).mono ?_
                    rintro e w3 ⟨⟨v, rfl, ht⟩, u3⟩
                    have HT := Lib.hid ht
                    clear ht
                    go_wp2
                    go_ret3
                    exact ⟨pres_there PX.out (by omega) HT.out, u3⟩
                  · rw [← eY] at rt1
                    clear eY
                    generalize ofL Y = yy at *
                    go_wp2_with fail
                    refine (WW.out _).mono ?_
                    rintro e w3 ⟨⟨v, rfl, ht⟩, u3⟩
                    have HT := Lib.hid ht
                    clear ht
                    go_wp2
                    go_ret3
                    exact ⟨pres_there PX.out (by omega) HT.out, u3⟩
              · have b10 : ((c.toNat : Int) != 10) = true := u8n 10 h10 (by omega)
                have FN := Lib.hid (feed_next h4 hc h10 FR.out)
                clear hc FR h10
                go_wp2
                go_roundw
                case rel => exact ⟨k + 1, rfl, rfl, rfl, by go_num, by omega, by omega, FN, by first | rfl | trivial⟩
                case measure => simp [intOf]; omega
            · have q2 : ¬ (k : Int) < 4200 := by omega
              have q4 : (4200 : Int) ≤ (s.length : Int) := by omega
              have PB : Hid (res = .bad) := Lib.hid (by
                have e : 4200 - k = 0 := by omega
                have := PX.out
                rw [FR.out, e, Lin.feed] at this; exact this)
              go_wp2
              go_ret3
              exact ⟨pres_bad PB.out, Upd.refl _ _⟩
        · have q1 : ¬ (k : Int) < (s.length : Int) := by omega
          by_cases h4 : k < 4200
          · have q4 : ¬ (4200 : Int) ≤ (s.length : Int) := by omega
            have PS : Hid (res = .short) := Lib.hid (by
              obtain ⟨n, hn⟩ : ∃ n, 4200 - k = n + 1 := ⟨4200 - k - 1, by omega⟩
              have hd : s.drop k = [] := List.drop_eq_nil_of_le (by omega)
              have := PX.out
              rw [FR.out, hn, hd, Lin.feed] at this; exact this)
            go_wp2
            go_ret3
            exact ⟨pres_short PS.out, Upd.refl _ _⟩
          · have q4 : (4200 : Int) ≤ (s.length : Int) := by omega
            have PB : Hid (res = .bad) := Lib.hid (by
              have e : 4200 - k = 0 := by omega
              have := PX.out
              rw [FR.out, e, Lin.feed] at this; exact this)
            go_wp2
            go_ret3
            exact ⟨pres_bad PB.out, Upd.refl _ _⟩
end Go.Proofs.YtkemjjhmabemiaaDoor
/- Walk: LinesParses. -/
set_option linter.unusedVariables false
set_option linter.unusedSimpArgs false
namespace Go.Proofs.YtkemjjhmabemiaaDoor
open Go.RowKit
open Lin (Txt)

def P3 (r : Lin.R (List Txt)) : List Txt × Nat × Nat := match r with | .there l n => (l, n, 0) | .short => ([], 0, 0) | .bad => ([], 0, 61)
theorem pres_row {base : Nat} {r : Lin.R (List Txt)} {e : Ending} {w' : World} (h : PRes base r e w') :
    ∃ p c, e = .returned (.tuple #[.slice p (P3 r).1.length c, .int .i64 ((P3 r).2.1 : Int), .int .i64 ((P3 r).2.2 : Int)]) ∧ TxtsO w' base (.slice p (P3 r).1.length c) (P3 r).1 := by
  cases r with
  | there l n =>
    obtain ⟨v, h1, h2⟩ := h
    obtain ⟨p, c, e, _⟩ := h2.slice
    subst e
    exact ⟨p, c, h1, h2⟩
  | short => exact ⟨none, 0, h, OwnN.none⟩
  | bad => exact ⟨none, 0, h, OwnN.none⟩
def W2 (o : Option (List Txt)) : List Txt × Nat := match o with | some l => (l, 0) | none => ([], 61)
theorem wres_row {base : Nat} {o : Option (List Txt)} {e : Ending} {w' : World} (h : WRes base o e w') :
    ∃ p c, e = .returned (.tuple #[.slice p (W2 o).1.length c, .int .i64 ((W2 o).2 : Int)]) ∧ TxtsO w' base (.slice p (W2 o).1.length c) (W2 o).1 := by
  cases o with
  | some l =>
    obtain ⟨v, h1, h2⟩ := h
    obtain ⟨p, c, e, _⟩ := h2.slice
    subst e
    exact ⟨p, c, h1, h2⟩
  | none => exact ⟨none, 0, h, OwnN.none⟩
theorem wres2_row {base : Nat} {o : Option (List Txt)} {e : Ending} {w' : World} (h : WRes2 base o e w') :
    ∃ p c, e = .returned (.tuple #[.slice p (W2 o).1.length c, .int .i64 ((W2 o).2 : Int)]) ∧ TxtsO w' base (.slice p (W2 o).1.length c) (W2 o).1 := by
  cases o with
  | some l =>
    obtain ⟨v, h1, h2⟩ := h
    obtain ⟨p, c, e, _⟩ := h2.slice
    subst e
    exact ⟨p, c, h1, h2⟩
  | none => exact ⟨none, 0, h, OwnN.none⟩
set_option maxHeartbeats 4000000 in
set_option maxRecDepth 100000 in
theorem lawParses (q : Option Addr) (c : Nat) (l s : Txt) (w : World) (hb : BAt w q c l) (hz : s.length ≤ maxLen) (hs : Std w) :
    Calls Tryd.prog 4 #[.slice q l.length c, .string (ofL s)] w fun e w' => e = .returned (.bool true) ∧ Upd (fun _ => False) w w' := by
  have AL := Lib.hid (alive_any w hs)
  have hle := hb.le
  unfold maxLen at hle hz
  have s1 := ofL_size s
  by_cases h1 : 20000 < l.length
  · have q1 : (20000 : Int) < (l.length : Int) := by omega
    clear hb hs
    go_enter Tryd.func4, Tryd.ntmps4
    go_wp2_with fail
    refine (AL.out).mono ?_
    rintro e w1 ⟨rfl, u1⟩
    go_wp2
    go_ret
    exact ⟨rfl, u1⟩
  · have q1 : ¬ (20000 : Int) < (l.length : Int) := by omega
    by_cases h2 : 5000 < s.length
    · have q2 : (5000 : Int) < (s.length : Int) := by omega
      clear hb hs
      go_enter Tryd.func4, Tryd.ntmps4
      go_wp2_with fail
      refine (AL.out).mono ?_
      rintro e w1 ⟨rfl, u1⟩
      go_wp2
      go_ret
      exact ⟨rfl, u1⟩
    · have q2 : ¬ (5000 : Int) < (s.length : Int) := by omega
      have HB := Lib.hid hb
      have HS := Lib.hid hs
      clear hb hs
      go_enter Tryd.func4, Tryd.ntmps4
      go_wp2_with fail
      refine (AL.out).mono ?_
      rintro e w1 ⟨rfl, u1⟩
      have b1 := HB.out.keep0 u1
      have PA := Lib.hid (parse2_any q c l w1 b1 (HS.out.keep u1) (by omega))
      have U1 := Lib.hid u1
      have hst1 := b1.str
      clear b1 u1 hst1
      go_wp2_with fail
      refine PA.out.mono ?_
      rintro e w2 ⟨hr, u2⟩
      obtain ⟨p5, c5, rfl, ht5⟩ := pres_row hr
      have U2 := Lib.hid (upd0 U1.out u2)
      have hst := (HB.out.keep0 U2.out).str
      have RP := Lib.hid (rparse2_any l w2 (by omega))
      have HT5 := Lib.hid ht5
      clear hr u2 ht5
      go_wp2_with fail
      refine RP.out.mono ?_
      rintro e w3 ⟨hr, u3⟩
      obtain ⟨p8, c8, rfl, ht8⟩ := pres_row hr
      have U3 := Lib.hid (upd0 U2.out u3)
      have HT5 := Lib.hid (HT5.out.keep0 u3)
      have HT8 := Lib.hid ht8
      have WP := Lib.hid (words_any s (by omega) w3)
      clear hr u3 ht8 hst
      go_wp2_with fail
      refine WP.out.mono ?_
      rintro e w4 ⟨hr, u4⟩
      obtain ⟨p11, c11, rfl, ht11⟩ := wres2_row hr
      have U4 := Lib.hid (upd0 U3.out u4)
      have HT5 := Lib.hid (HT5.out.keep0 u4)
      have HT8 := Lib.hid (HT8.out.keep0 u4)
      have HT11 := Lib.hid ht11
      have RW := Lib.hid (rwords_any s w4 (by omega))
      clear hr u4 ht11
      go_wp2_with fail
      refine RW.out.mono ?_
      rintro e w5 ⟨hr, u5⟩
      obtain ⟨p13, c13, rfl, ht13⟩ := wres_row hr
      have U5 := Lib.hid (upd0 U4.out u5)
      have S1 := same_any _ _ _ _ w5 ((HT5.out.keep0 u5).row tcs_len) ((HT8.out.keep0 u5).row tcs_len)
      have S2a := fun n => same_any _ _ _ _ (w5.drewN n) (((HT11.out.keep0 u5).keep0 ((Upd.refl _ _).drewN n)).row tcs_len) ((ht13.keep0 ((Upd.refl _ _).drewN n)).row tcs_len)
      rw [decide_eq_true rfl] at S1
      have S2 : ∀ n, Calls Tryd.prog 14 #[.slice p11 (W2 (Lin.words s)).1.length c11, .slice p13 (W2 (Lin.words s)).1.length c13] (w5.drewN n) fun e w' => e = .returned (.bool true) ∧ ∃ m, w' = (w5.drewN n).drewN m := fun n => by
        have := S2a n
        rw [decide_eq_true rfl] at this
        exact this
      have T1 := Lib.hid S1
      have T2 := Lib.hid S2
      clear S1 S2 S2a
      clear hr u5 ht13
      generalize W2 (Lin.words s) = ww at *
      generalize P3 (Lin.parse l) = pp at *
      go_wp2_with fail
      refine T1.out.mono ?_
      rintro e w6 ⟨rfl, n6, rfl⟩
      go_wp2_with fail
      refine (T2.out n6).mono ?_
      rintro e w7 ⟨rfl, n7, rfl⟩
      go_wp2
      go_ret
      exact ⟨ret_bool (by simp), U5.out.drewN _⟩
theorem lawParsesB (q : Option Addr) (c : Nat) (l : Txt) (a : ByteArray) (w : World) (hb : BAt w q c l) (hz : a.size ≤ maxLen) (hs : Std w) :
    Calls Tryd.prog 4 #[.slice q l.length c, .string a] w fun e w' => e = .returned (.bool true) ∧ Upd (fun _ => False) w w' := by
  have hl : a.toList.length ≤ maxLen := by have := ofL_size a.toList; rw [ofL_of] at this; omega
  have := lawParses q c l a.toList w hb hl hs
  rwa [ofL_of] at this
end Go.Proofs.YtkemjjhmabemiaaDoor
/- Walk: LinesNames. -/
set_option linter.unusedVariables false
set_option linter.unusedSimpArgs false
namespace Lin
theorem num_line {m c : UInt8} {x y : Int} {r l : Txt} {n : Nat} {v : Int} (hc : c = m) (hl : line r = .there l n) (hw : Whole.wparse l = some v) (hb : ¬ (v < x ∨ y < v)) : num m x y (c :: r) = .there v (n + 1) := by
  unfold num
  simp only [hc, if_true, hl, hw]
  rw [if_neg hb]
def exP : Txt := [13, 10, 80, 73, 78, 71, 10]
def exA : Txt := [42, 48, 13, 10]
def exD : Txt := [42, 49, 13, 10, 58, 49, 13, 10]
def exQ : Txt := [34, 97]
def exR : Txt := [39, 105, 116, 92, 39, 115, 39, 32, 34, 92, 120, 52, 49, 92, 110, 34]
theorem exP_is : parse exP = .there [] 2 := by kernel_rfl
theorem w48 : Whole.wparse [48] = some 0 := by rw [Whole.wparse_ref]; kernel_rfl
theorem w49 : Whole.wparse [49] = some 1 := by rw [Whole.wparse_ref]; kernel_rfl
theorem exA_is : parse exA = .there [] 4 := by
  have hn : num 42 (-1) 64 exA = .there 0 4 := num_line (l := [48]) (n := 3) rfl (by kernel_rfl) w48 (by omega)
  unfold parse
  rw [if_pos (by rfl)]
  unfold array
  rw [hn]
  rfl
theorem exD_is : parse exD = .bad := by
  have hn : num 42 (-1) 64 exD = .there 1 4 := num_line (l := [49]) (n := 3) rfl (by kernel_rfl) w49 (by omega)
  unfold parse
  rw [if_pos (by rfl)]
  unfold array
  rw [hn]
  rfl
theorem exQ_is : words exQ = none := by kernel_rfl
theorem exR_is : words exR = some [[105, 116, 39, 115], [65, 10]] := by kernel_rfl
end Lin
namespace Go.Proofs.YtkemjjhmabemiaaDoor
open Go.RowKit
open Lin (Txt)
set_option maxHeartbeats 4000000 in
set_option maxRecDepth 100000 in
theorem lawNames06 (w : World) (hs : Std w) :
    Calls Tryd.prog 3 #[] w fun e w' => e = .returned (.bool true) ∧ Upd (fun _ => False) w w' := by
  have AL := Lib.hid (alive_any w hs)
  have HS := Lib.hid hs
  clear hs
  go_enter Tryd.func3, Tryd.ntmps3
  go_wp2_with fail
  refine (AL.out).mono ?_
  rintro e w1 ⟨rfl, u1⟩
  have U1 := Lib.hid u1
  clear u1
  have b1 := BAt.litM w1 Lin.exP (by decide) _ rfl (7, 7 + 1)
  have v1 := (U1.out).alloc (.cells (Lin.exP.map byc).toArray 5 (7, 7 + 1))
  have P1 := parse2_any _ _ Lin.exP _ b1 (HS.out.keep v1) (by decide)
  rw [Lin.exP_is] at P1
  have hcv1 := fun C => Lib.run_convert_bytes_const (P := Tryd.prog) w1 27 5 C 7 7 Tryd.underlying27 Tryd.underlying5
  have V1 := Lib.hid v1
  have Q1 := Lib.hid P1
  clear b1 v1 P1
  go_wp2_with fail
  refine Q1.out.mono ?_
  rintro e w2 ⟨⟨va, rfl, ta⟩, u2⟩
  have U2 := Lib.hid (upd0 V1.out u2)
  clear u2 ta hcv1
  have b2 := BAt.litM w2 Lin.exA (by decide) _ rfl (4, 4 + 1)
  have v2 := (U2.out).alloc (.cells (Lin.exA.map byc).toArray 5 (4, 4 + 1))
  have P2 := parse2_any _ _ Lin.exA _ b2 (HS.out.keep v2) (by decide)
  rw [Lin.exA_is] at P2
  have hcv2 := fun C => Lib.run_convert_bytes_const (P := Tryd.prog) w2 27 5 C 4 4 Tryd.underlying27 Tryd.underlying5
  have V2 := Lib.hid v2
  have Q2 := Lib.hid P2
  clear b2 v2 P2
  go_wp2_with fail
  refine Q2.out.mono ?_
  rintro e w3 ⟨⟨vb, rfl, tb⟩, u3⟩
  have U3 := Lib.hid (upd0 V2.out u3)
  clear u3 tb hcv2
  have b3 := BAt.litM w3 Lin.exD (by decide) _ rfl (8, 8 + 1)
  have v3 := (U3.out).alloc (.cells (Lin.exD.map byc).toArray 5 (8, 8 + 1))
  have P3 := parse2_any _ _ Lin.exD _ b3 (HS.out.keep v3) (by decide)
  rw [Lin.exD_is] at P3
  have hcv3 := fun C => Lib.run_convert_bytes_const (P := Tryd.prog) w3 27 5 C 8 8 Tryd.underlying27 Tryd.underlying5
  have V3 := Lib.hid v3
  have Q3 := Lib.hid P3
  clear b3 v3 P3
  go_wp2_with fail
  refine Q3.out.mono ?_
  rintro e w4 ⟨hr, u4⟩
  have hr : e = .returned (.tuple #[.slice none 0 0, .int .i64 0, .int .i64 61]) := hr
  subst hr
  have U4 := Lib.hid (upd0 V3.out u4)
  clear u4 hcv3
  have WQ := words_any Lin.exQ (by decide) w4
  rw [Lin.exQ_is] at WQ
  have WQ : Hid (Calls Tryd.prog 11 #[.string { data := #[34, 97] }] w4 fun e w' => e = .returned (.tuple #[.slice none 0 0, .int .i64 61]) ∧ Upd (fun _ => False) w4 w') := Lib.hid WQ
  go_wp2_with fail
  refine WQ.out.mono ?_
  rintro e w5 ⟨rfl, u5⟩
  have U5 := Lib.hid (upd0 U4.out u5)
  clear u5
  have WR := words_any Lin.exR (by decide) w5
  rw [Lin.exR_is] at WR
  have WR : Hid (Calls Tryd.prog 11 #[.string { data := #[39, 105, 116, 92, 39, 115, 39, 32, 34, 92, 120, 52, 49, 92, 110, 34] }] w5 fun e w' => (∃ v, e = .returned (.tuple #[v, .int .i64 0]) ∧ TxtsO w' w5.heap.size v [[105, 116, 39, 115], [65, 10]]) ∧ Upd (fun _ => False) w5 w') := Lib.hid WR
  go_wp2_with fail
  refine WR.out.mono ?_
  rintro e w6 ⟨⟨v, rfl, ht⟩, u6⟩
  have U6 := Lib.hid (upd0 U5.out u6)
  obtain ⟨pv, cv, hv, _, _⟩ := ht.slice
  have hv : v = .slice pv 2 cv := hv
  subst hv
  obtain ⟨g, rfl, hg, hd0⟩ := TxtsO.get (l := [[105, 116, 39, 115], [65, 10]]) ht (k := 0) (t := [105, 116, 39, 115]) rfl
  obtain ⟨g', e', _, hd1⟩ := TxtsO.get (l := [[105, 116, 39, 115], [65, 10]]) ht (k := 1) (t := [65, 10]) rfl
  cases e'
  have hc0 : w6.cell? ⟨g, 0, none⟩ = some (.string { data := #[105, 116, 39, 115] }) := hd0
  have hc1 : w6.cell? ⟨g, 1, none⟩ = some (.string { data := #[65, 10] }) := hd1
  clear u6 ht hd0 hd1
  go_wp2
  go_ret
  exact ⟨rfl, U6.out⟩
end Go.Proofs.YtkemjjhmabemiaaDoor
/- What the listed variables give the walks, and the witness. -/
set_option linter.unusedVariables false
set_option linter.unusedSimpArgs false
namespace Go.Proofs.YtkemjjhmabemiaaDoor
open Go.ChangeShapes Go.WideShapes Go.ChangeAt Go.WideMaps Go.WideElems Go.RowKit Go.Stop Go.Extern

theorem int_bounds {n : Int} (h : (Lit.int .i64 n).wf = true) : -9223372036854775808 ≤ n ∧ n ≤ 9223372036854775807 := by
  have := bounds_i64 h
  omega

def laidAll : List (String × DataW Unit) := [("math/bits.deBruijn32tab", Rows.laid_math_bits_deBruijn32tab), ("math/bits.deBruijn64tab", Rows.laid_math_bits_deBruijn64tab), ("internal/strconv.uint64pow10", Lib.tabData .u64 Lib.pow10Tab), ("unicode/utf8.acceptRanges", Rows.laid_unicode_utf8_acceptRanges), ("strconv.ErrRange", Rows.laid_strconv_ErrRange), ("strconv.ErrSyntax", Rows.laid_strconv_ErrSyntax), ("unicode/utf8.first", Rows.laid_unicode_utf8_first)]

theorem star : "*" ++ "errors.errorString" = "*errors.errorString" := by decide
theorem rowErr (u : TypeId) (h : Tryd.prog.typeName? 3 u = some "*errors.errorString") : u = 143 :=
  typeName_ptr_named (nm := "errors.errorString") (by rw [star]; kernel_rfl) (by kernel_rfl) (by decide) u (by rw [star]; exact h)

theorem door_met (os : Os) (args : Array Value) : laidMetH Tryd.prog laidAll ((World.laidAll Tryd.prog os laidAll).forCall (fun _ _ => 0) ⟨#[], args, []⟩).memory := by
  rw [MakeChecks.laidMetH_plain _ _ _ (by kernel_rfl)]
  exact laidMet_laidAll _ (by kernel_rfl) (by kernel_rfl)
theorem door_shaped (os : Os) (args : Array Value) : ((World.laidAll Tryd.prog os laidAll).forCall (fun _ _ => 0) ⟨#[], args, []⟩).Shaped Tryd.prog := World.shaped_of_ZipB (by kernel_rfl) (by kernel_rfl)

theorem std_of_laid {W : World} (h : laidMetH Tryd.prog laidAll W) : Std W := by
  rw [MakeChecks.laidMetH_plain _ _ _ (by kernel_rfl)] at h
  have h3 := laidMet.tail (laidMet.tail h)
  have h4 := laidMet.tail (laidMet.tail h3)
  have h5 := laidMet.tail h4
  refine ⟨Lib.tabIs_of_head (g := 3) (by kernel_rfl) (by kernel_rfl) Tryd.underlying135 Tryd.underlying123 (by kernel_rfl) (by kernel_rfl) h3, ?_, ?_⟩
  · obtain ⟨a, s, h1, _⟩ := laid_sentinel (g := 4) h5 (by kernel_rfl) (by kernel_rfl) Tryd.underlying69 rowErr Tryd.underlying143 Tryd.underlying145 rfl rfl Tryd.underlying9 (by kernel_rfl) (by kernel_rfl)
    exact ⟨_, _, h1⟩
  · obtain ⟨a, s, h1, _⟩ := laid_sentinel (g := 5) h4 (by kernel_rfl) (by kernel_rfl) Tryd.underlying69 rowErr Tryd.underlying143 Tryd.underlying145 rfl rfl Tryd.underlying9 (by kernel_rfl) (by kernel_rfl)
    exact ⟨_, _, h1⟩
end Go.Proofs.YtkemjjhmabemiaaDoor
/- An argument that is a slice of structs of one-cell fields, opened to its cells. -/
set_option linter.unusedVariables false
set_option linter.unusedSimpArgs false
namespace Go.Proofs.YtkemjjhmabemiaaDoor
open Go.RowKit Go.ChangeShapes Go.WideShapes Go.Deep

/-- A slice of structs whose fields are one cell each: its length fits, and field j of element i lies in a cell of its own, and is read by that field's type. -/
theorem slice_cells {H : Type} {enc : TypeId × Value → H} {P : Program} {w : World} {base : Nat} {spare : Nat → Bool} {held : Bool} {T E : TypeId} {fs : Array Field} {fuel len cap : Nat} {a : Addr} {x : DataW H × List MemPlace}
    (hT : P.underlying T = some (.slice E)) (hE : P.underlying E = some (.struct fs)) (h1 : oneCellFields P fs = true) (hn : P.cellsOf E = fs.size)
    (h : DataW.trod enc P w base spare held fuel T [.slice (some a) len cap] = some x) :
    len ≤ maxLen ∧ ∀ i, i < len → ∀ j f, fs[j]? = some f → ∃ v y k, w.cell? (a.add (i * fs.size + j)) = some v ∧ DataW.trod enc P w base spare held k f.type [v] = some y := by
  rcases open_slice hT h with ⟨hnil, _⟩ | ⟨a', len', cap', m, n, D, Q, hv, _, hlc, hcm, hm, _, hall⟩
  · simp at hnil
  · simp only [List.cons.injEq, Value.slice.injEq, Option.some.injEq, and_true] at hv
    obtain ⟨rfl, rfl, rfl⟩ := hv
    have hlm : len ≤ m := by rw [hm]; split <;> omega
    refine ⟨Nat.le_trans hlc hcm, fun i hi j f hj => ?_⟩
    have hjs : j < fs.size := (Array.getElem?_eq_some_iff.1 hj).1
    obtain ⟨row, hrow, hread⟩ := hall i (Nat.lt_of_lt_of_le hi hlm)
    obtain ⟨_, hsize, hcells⟩ := World.cells?_some hrow
    obtain ⟨_, k, _, _, _, _, hfield⟩ := DataW.trod_struct hE hread
    obtain ⟨hoff, hone⟩ := hone_of h1 j f hj
    have hjr : j < row.length := by omega
    have hf := hfield j f hj
    rw [hoff, hone, List.drop_eq_getElem_cons hjr] at hf
    simp only [List.take_succ_cons, List.take_zero] at hf
    have hc := hcells j (by omega)
    rw [hn, Go.Deep.add_add, List.getElem?_eq_getElem hjr] at hc
    cases hy : DataW.trod enc P w base spare held k f.type [row[j]] with
    | none =>
      rw [hy] at hf
      have := (List.getElem?_eq_none_iff.1 hf.symm)
      omega
    | some y => exact ⟨row[j], y, k, hc, hy⟩

theorem slice_nil {H : Type} {enc : TypeId × Value → H} {P : Program} {w : World} {base : Nat} {spare : Nat → Bool} {held : Bool} {T E : TypeId} {fuel len cap : Nat} {x : DataW H × List MemPlace}
    (hT : P.underlying T = some (.slice E)) (h : DataW.trod enc P w base spare held fuel T (Value.slice none len cap).cells.toList = some x) : len = 0 ∧ cap = 0 := by
  rcases open_slice hT h with ⟨hnil, _⟩ | ⟨a', _, _, _, _, _, _, hv, _⟩
  · simpa [Value.cells] using hnil
  · simp [Value.cells] at hv

theorem rowOf_mk {α : Type} {f : α → List Value} {k : Nat} (hk : 0 < k) {w : World} {a : Addr} {len cap : Nat} (g : Nat → α) (hm : len ≤ maxLen)
    (hc : ∀ i, i < len → ∀ j, j < k → ∃ v, (f (g i))[j]? = some v ∧ w.cell? (a.add (i * k + j)) = some v) : RowOf f k w (.slice (some a) len cap) ((List.range len).map g) := by
  obtain ⟨b, off, spot⟩ := a
  by_cases h0 : len = 0
  · subst h0; exact Or.inl ⟨_, _, rfl, rfl⟩
  · obtain ⟨v, _, h1⟩ := hc 0 (by omega) 0 hk
    have hspot : spot = none := by simpa [Addr.add] using World.cell?_spot h1
    subst hspot
    have hb : b < w.heap.size := by
      by_cases hb : b < w.heap.size
      · exact hb
      · simp [World.cell?, Addr.add, Array.getElem?_eq_none (by omega : w.heap.size ≤ b)] at h1
    refine Or.inr ⟨b, off, cap, by simp, hb, by simpa using hm, fun i x hi j hj => ?_⟩
    have hil : i < len := by
      have := (List.getElem?_eq_some_iff.1 hi).1
      simpa using this
    have hx : x = g i := by
      have : ((List.range len).map g)[i]? = some (g i) := by simp [hil]
      rw [this] at hi; exact (Option.some.inj hi).symm
    subst hx
    obtain ⟨v, h1, h2⟩ := hc i hil j hj
    have e : (⟨b, off, none⟩ : Addr).add (i * k + j) = ⟨b, off + (i * k + j), none⟩ := by unfold Addr.add; split <;> simp_all
    rw [e] at h2
    rw [h2, h1]
end Go.Proofs.YtkemjjhmabemiaaDoor
/- Arguments: bytes, texts, numbers, opened. -/
set_option linter.unusedVariables false
set_option linter.unusedSimpArgs false
namespace Go.Proofs.YtkemjjhmabemiaaDoor
open Go.RowKit Go.ChangeShapes Go.WideShapes Go.Deep
open Lin (Txt)

section
variable {H : Type} {enc : TypeId × Value → H} {w : World} {base : Nat} {spare : Nat → Bool} {held : Bool}
set_option maxRecDepth 100000 in
theorem open_bytes {r : Reach} {b0 : Nat} {v : Value} {d : DataW H} {p : List MemPlace} (hv : Value.okWide Tryd.prog w r b0 27 v) (h : DataW.Trod enc Tryd.prog w base spare held 27 v d p) :
    ∃ (q : Option Addr) (c : Nat) (l : Txt), v = .slice q l.length c ∧ BAt w q c l := by
  obtain ⟨a, len, cap, rfl⟩ := okWide_slice Tryd.underlying27 hv
  obtain ⟨fuel, hf⟩ := h
  rcases open_ints Tryd.underlying27 Tryd.underlying5 (by kernel_rfl) hf with ⟨e, _⟩ | ⟨a', len', cap', zs, e, hb, hlc, hcm, hm, _, hall, hwf⟩
  · simp [Value.cells] at e
    obtain ⟨rfl, rfl, rfl⟩ := e
    exact ⟨none, 0, [], rfl, BAt.nil w⟩
  · simp [Value.cells] at e
    obtain ⟨rfl, rfl, rfl⟩ := e
    have hlm : len ≤ zs.length := by rw [hm]; split <;> omega
    have hz : ∀ i, i < len → 0 ≤ zs.getD i 0 ∧ zs.getD i 0 < 256 := fun i hi => by
      have hmem : zs.getD i 0 ∈ zs := by
        rw [List.getD_eq_getElem?_getD, List.getElem?_eq_getElem (by omega)]
        exact List.getElem_mem _
      have := hwf _ hmem
      have h2 : IntKind.u8.min ≤ zs.getD i 0 ∧ zs.getD i 0 ≤ IntKind.u8.max := by simpa [Lit.wf] using this
      have e1 : IntKind.u8.min = 0 := by decide
      have e2 : IntKind.u8.max = 255 := by decide
      omega
    have hl : ((zs.take len).map fun z => UInt8.ofNat z.toNat).length = len := by simp; omega
    refine ⟨some a', cap, (zs.take len).map fun z => UInt8.ofNat z.toNat, by rw [hl], ⟨by rw [hl]; exact hlc, fun e => by cases e⟩, hcm, ?_⟩
    by_cases h0 : len = 0
    · left; subst h0; simp
    · right
      obtain ⟨b, o, sp⟩ := a'
      have h00 := hall 0 (by omega)
      have hspot : sp = none := by simpa [Addr.add] using World.cell?_spot h00
      subst hspot
      refine ⟨b, o, rfl, ?_, fun i c hi => ?_⟩
      · rcases Nat.lt_or_ge b w.heap.size with h | h
        · exact h
        · simp [World.cell?, Addr.add, Array.getElem?_eq_none h] at h00
      · have hil : i < len := by have := (List.getElem?_eq_some_iff.1 hi).1; omega
        have hc := hall i (by omega)
        rw [Addr.add_lit] at hc
        rw [hc]
        rw [List.getElem?_map, List.getElem?_take, if_pos hil] at hi
        obtain ⟨z, hz1, rfl⟩ := Option.map_eq_some_iff.1 hi
        have hzz := hz i hil
        rw [List.getD_eq_getElem?_getD, hz1] at hzz ⊢
        simp only [Option.getD_some] at hzz ⊢
        unfold byc
        rw [UInt8.toNat_ofNat']
        congr 2
        omega
set_option maxRecDepth 100000 in
theorem open_strs {r : Reach} {b0 : Nat} {v : Value} {d : DataW H} {p : List MemPlace} (hv : Value.okWide Tryd.prog w r b0 23 v) (h : DataW.Trod enc Tryd.prog w base spare held 23 v d p) :
    ∃ l : List Txt, RowOf tcs 1 w v l ∧ ∀ t ∈ l, t.length ≤ maxLen := by
  obtain ⟨a, len, cap, rfl⟩ := okWide_slice Tryd.underlying23 hv
  obtain ⟨fuel, hf⟩ := h
  rcases open_slice1 Tryd.underlying23 (by kernel_rfl) hf with ⟨e, _⟩ | ⟨a', len', cap', m, n, V, D, Pl, e, hb, hlc, hcm, hm, _, hall⟩
  · simp [Value.cells] at e
    obtain ⟨rfl, rfl, rfl⟩ := e
    exact ⟨[], Or.inl ⟨_, _, rfl, rfl⟩, fun a ha => by simp at ha⟩
  · simp [Value.cells] at e
    obtain ⟨rfl, rfl, rfl⟩ := e
    have hlm : len ≤ m := by rw [hm]; split <;> omega
    have key : ∀ i, ∃ x : Txt, i < len → w.cell? (a'.add (i * 1 + 0)) = some (.string (ofL x)) ∧ x.length ≤ maxLen := by
      intro i
      by_cases hil : i < len
      · obtain ⟨c1, t1⟩ := hall i (Nat.lt_of_lt_of_le hil hlm)
        obtain ⟨x1, e1, _, z2⟩ := DataW.trod_string Tryd.underlying9 t1
        simp at e1
        refine ⟨x1.toList, fun _ => ⟨?_, ?_⟩⟩
        · rw [Nat.mul_one, Nat.add_zero, c1, e1, ofL_of]
        · have := ofL_size x1.toList; rw [ofL_of] at this; omega
      · exact ⟨[], fun h => absurd h hil⟩
    obtain ⟨g, hg⟩ := Classical.axiomOfChoice key
    refine ⟨(List.range len).map g, rowOf_mk (by omega) g (Nat.le_trans hlc hcm) (fun i hil j hj => ?_), fun x hx => ?_⟩
    · obtain rfl : j = 0 := by omega
      exact ⟨_, rfl, (hg i hil).1⟩
    · obtain ⟨i, hi, rfl⟩ := List.mem_map.1 hx
      exact (hg i (by simpa using hi)).2
end
end Go.Proofs.YtkemjjhmabemiaaDoor
