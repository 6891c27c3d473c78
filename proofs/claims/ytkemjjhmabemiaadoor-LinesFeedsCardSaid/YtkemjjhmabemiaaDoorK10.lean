/- Walk: the document's command with which bytes begin. -/
import Derived.Test.YtkemjjhmabemiaaDoorK08
import Derived.Test.YtkemjjhmabemiaaDoorK09
import Derived.Test.YtkemjjhmabemiaaDoorK07
set_option linter.unusedVariables false
set_option linter.unusedSimpArgs false
namespace Go.Proofs.YtkemjjhmabemiaaDoor
open Go.RowKit
open Lin (Txt)

/-- Where the reader of a line stands. -/
theorem feed_next {s : Txt} {k : Nat} {c : UInt8} {res : Lin.R Txt} (hk : k < 4200) (hc : s[k]? = some c) (h10 : ¬ c = 10) (h : res = Lin.feed (s.take k) (4200 - k) (s.drop k)) : res = Lin.feed (s.take (k + 1)) (4200 - (k + 1)) (s.drop (k + 1)) := by
  obtain ⟨n, hn⟩ : ∃ n, 4200 - k = n + 1 := ⟨4200 - k - 1, by omega⟩
  have hn2 : 4200 - (k + 1) = n := by omega
  have hl := (List.getElem?_eq_some_iff.1 hc).1
  have ht : s.take (k + 1) = s.take k ++ [c] := by
    obtain ⟨_, e⟩ := List.getElem?_eq_some_iff.1 hc
    rw [List.take_succ_eq_append_getElem hl, e]
  rw [hn, drop_cons hc, Lin.feed, if_neg h10] at h
  rw [hn2, ht]; exact h
theorem strip_last {s : Txt} {k : Nat} : (k = 0 → Lin.strip (s.take k) = []) ∧ (∀ y, 1 ≤ k → s[k - 1]? = some y → (y = 13 → Lin.strip (s.take k) = s.take (k - 1)) ∧ (¬ y = 13 → Lin.strip (s.take k) = s.take k)) := by
  refine ⟨fun h => by subst h; rfl, fun y h1 hy => ?_⟩
  have hl := (List.getElem?_eq_some_iff.1 hy).1
  have ht : s.take k = s.take (k - 1) ++ [y] := by
    obtain ⟨_, e⟩ := List.getElem?_eq_some_iff.1 hy
    have : k = k - 1 + 1 := by omega
    conv => lhs; rw [this]
    rw [List.take_succ_eq_append_getElem hl, e]
  have hlast : (s.take k).getLast? = some y := by rw [ht]; simp
  unfold Lin.strip
  rw [hlast]
  constructor
  · intro h; rw [if_pos (by rw [h]), ht]; simp
  · intro h; rw [if_neg (by simpa using h)]
set_option maxHeartbeats 4000000 in
set_option maxRecDepth 100000 in
theorem rparse2_any (s : Txt) (w : World) (hl : s.length ≤ 100000) :
    Calls Tryd.prog 12 #[.string (ofL s)] w fun e w' => PRes w.heap.size (Lin.parse s) e w' ∧ Upd (fun _ => False) w w' := by
  have s1 := ofL_size s
  have PX := Lib.hid (show Lin.parse s = if s.head? = some 42 then Lin.array s else match Lin.feed [] 4200 s with | .there x n => (match Lin.words (Lin.strip x) with | some o => .there o n | none => .bad) | .short => .short | .bad => .bad from rfl)
  by_cases h42 : s.head? = some 42
  · obtain ⟨r, hr⟩ : ∃ r, s = 42 :: r := by
      cases s with
      | nil => simp at h42
      | cons c r => simp at h42; subst h42; exact ⟨r, rfl⟩
    have AR := Lib.hid (rarray_any s w hl)
    have PX : Hid (Lin.parse s = Lin.array s) := Lib.hid (PX.out.trans (if_pos h42))
    have rx0 : ∀ w, (Instr.index 9 (.string (ofL s)) (.int .i64 0)).run Tryd.prog w = .ok (.int .u8 42) w := run_at s 0 42 (by rw [hr]; rfl)
    have hn0 : (0 : Int) < (s.length : Int) := by rw [hr]; simp
    clear h42 hr
    rw [PX.out]
    clear PX
    cases har : Lin.array s with
    | short =>
      rw [har] at AR
      have AR : Hid (Calls Tryd.prog 29 #[.string (ofL s)] w fun e w' => e = .returned (.tuple #[.slice none 0 0, .int .i64 0, .int .i64 1]) ∧ Upd (fun _ => False) w w') := AR
      clear har
      go_enter Tryd.func12, Tryd.ntmps12
      go_wp2_with fail
      refine (AR.out).mono ?_
      rintro e w1 ⟨rfl, u1⟩
      go_wp2
      go_ret3
      exact ⟨pres_short rfl, u1⟩
    | bad =>
      rw [har] at AR
      have AR : Hid (Calls Tryd.prog 29 #[.string (ofL s)] w fun e w' => e = .returned (.tuple #[.slice none 0 0, .int .i64 0, .int .i64 2]) ∧ Upd (fun _ => False) w w') := AR
      clear har
      go_enter Tryd.func12, Tryd.ntmps12
      go_wp2_with fail
      refine (AR.out).mono ?_
      rintro e w1 ⟨rfl, u1⟩
      go_wp2
      go_ret3
      exact ⟨pres_bad rfl, u1⟩
    | there out n =>
      rw [har] at AR
      have AR : Hid (Calls Tryd.prog 29 #[.string (ofL s)] w fun e w' => (∃ v, e = .returned (.tuple #[v, .int .i64 (n : Int), .int .i64 0]) ∧ TxtsO w' w.heap.size v out) ∧ Upd (fun _ => False) w w') := AR
      clear har
      go_enter Tryd.func12, Tryd.ntmps12
      go_wp2_with fail
      refine (AR.out).mono ?_
      rintro e w1 ⟨⟨v, rfl, ht⟩, u1⟩
      have HT := Lib.hid ht
      clear ht
      go_wp2
      go_ret3
      exact ⟨pres_there rfl rfl HT.out, u1⟩
  · have PX : Hid (Lin.parse s = match Lin.feed [] 4200 s with | .there x n => (match Lin.words (Lin.strip x) with | some o => .there o n | none => .bad) | .short => .short | .bad => .bad) := Lib.hid (PX.out.trans (if_neg h42))
    have hstar : (¬ (0 : Int) < (s.length : Int)) ∨ ∃ c : UInt8, (0 : Int) < (s.length : Int) ∧ (∀ w, (Instr.index 9 (.string (ofL s)) (.int .i64 0)).run Tryd.prog w = .ok (.int .u8 (c.toNat : Int)) w) ∧ ((c.toNat : Int) == 42) = false := by
      cases s with
      | nil => left; simp
      | cons c r =>
        right
        exact ⟨c, by simp, run_at (c :: r) 0 c rfl, u8f 42 (by simpa using h42) (by omega)⟩
    have F0 := Lib.hid (show Lin.feed [] 4200 s = Lin.feed (s.take 0) (4200 - 0) (s.drop 0) from rfl)
    generalize Lin.parse s = res at *
    generalize Lin.feed [] 4200 s = fres at *
    clear h42
    rcases hstar with hz | ⟨c0, hz, rx0, hb0⟩
    all_goals
      go_enter Tryd.func12, Tryd.ntmps12
      go_wp2
      go_loopw [2, 3, 4, 8] (fun v2 v3 v4 v8 wr => ∃ k : Nat, v2 = .slice none 0 0 ∧ v3 = .int .i64 0 ∧ v4 = .int .i64 0 ∧ v8 = .int .i64 (k : Int) ∧ k ≤ s.length ∧ k ≤ 4200 ∧ Hid (fres = Lin.feed (s.take k) (4200 - k) (s.drop k)) ∧ wr = w) (fun _ _ _ v8 _ => s.length - (intOf v8).toNat)
      case atStart => exact ⟨0, rfl, rfl, rfl, rfl, by omega, by omega, F0, rfl⟩
      case round =>
        obtain ⟨k, rfl, rfl, rfl, rfl, hk, hk2, FR, hwr⟩ := hrel
        subst hwr
        clear F0 hz
        by_cases hlt : k < s.length
        · try (exfalso; omega)
          all_goals
            have q1 : (k : Int) < (s.length : Int) := by omega
            by_cases h4 : k < 4200
            · have q2 : (k : Int) < 4200 := by omega
              obtain ⟨c, hc⟩ : ∃ c, s[k]? = some c := ⟨_, List.getElem?_eq_getElem hlt⟩
              have rx := run_at s k c hc
              have HC := Lib.hid hc
              by_cases h10 : c = 10
              · have b10 : ((c.toNat : Int) != 10) = false := u8m 10 h10 (by omega)
                have FT : Hid (fres = .there (s.take k) (k + 1)) := Lib.hid (by
                  obtain ⟨n, hn⟩ : ∃ n, 4200 - k = n + 1 := ⟨4200 - k - 1, by omega⟩
                  rw [FR.out, hn, drop_cons hc, Lin.feed, if_pos h10, List.length_take, Nat.min_eq_left hk])
                have PX : Hid (res = (match Lin.words (Lin.strip (s.take k)) with | some o => .there o (k + 1) | none => .bad)) := by have := PX.out; rw [FT.out] at this; exact Lib.hid this
                have rt1 := run_take s (k : Int) (by omega) (by omega)
                rw [Int.toNat_natCast] at rt1
                have stt := strip_last (s := s) (k := k)
                clear hc FR FT h10
                have hX : (k = 0 ∧ ¬ (0 : Int) < (k : Int) ∧ ofL (Lin.strip (s.take k)) = ofL (s.take k)) ∨ (∃ y : UInt8, (0 : Int) < (k : Int) ∧ (∀ w, (Instr.index 9 (.string (ofL s)) (.int .i64 ((k : Int) - 1))).run Tryd.prog w = .ok (.int .u8 (y.toNat : Int)) w) ∧ ((((y.toNat : Int) == 13) = true ∧ (∀ w, (Instr.slice 9 (.string (ofL s)) none (some (.int .i64 ((k : Int) - 1))) none).run Tryd.prog w = .ok (.string (ofL (Lin.strip (s.take k)))) w)) ∨ (((y.toNat : Int) == 13) = false ∧ ofL (Lin.strip (s.take k)) = ofL (s.take k)))) := by
                  by_cases hk0 : k = 0
                  · left; exact ⟨hk0, by omega, by rw [stt.1 hk0, hk0]; rfl⟩
                  · right
                    obtain ⟨y, hy⟩ : ∃ y, s[k - 1]? = some y := ⟨_, List.getElem?_eq_getElem (by omega)⟩
                    obtain ⟨z1, z2⟩ := stt.2 y (by omega) hy
                    refine ⟨y, by omega, run_atI s ((k : Int) - 1) (k - 1) y (by omega) hy, ?_⟩
                    by_cases hy13 : y = 13
                    · left
                      refine ⟨u8t 13 hy13 (by omega), fun w => ?_⟩
                      have := run_take s ((k : Int) - 1) (by omega) (by omega) w
                      have e : ((k : Int) - 1).toNat = k - 1 := by omega
                      rw [e, ← z1 hy13] at this; exact this
                    · right
                      exact ⟨u8f 13 hy13 (by omega), by rw [z2 hy13]⟩
                have hsl : (Lin.strip (s.take k)).length ≤ 1000000 := by
                  have h1 : (s.take k).length ≤ s.length := Nat.le_trans (List.length_take_le _ _) hk
                  unfold Lin.strip
                  split
                  · rw [List.length_dropLast]; omega
                  · omega
                have WW := Lib.hid (fun w => rwords_any (Lin.strip (s.take k)) w hsl)
                clear stt
                have EQ := Lib.hid (show Lin.strip (s.take k) = Lin.strip (s.take k) from rfl)
                generalize Lin.strip (s.take k) = Y at *
                clear EQ hsl
                cases hw : Lin.words Y with
                | none =>
                  rw [hw] at PX WW
                  have PX : Hid (res = .bad) := PX
                  have WW : Hid (∀ w, Calls Tryd.prog 13 #[.string (ofL Y)] w fun e w' => e = .returned (.tuple #[.slice none 0 0, .int .i64 61]) ∧ Upd (fun _ => False) w w') := WW
                  clear hw
                  rcases hX with ⟨hk0, q3, eY⟩ | ⟨y, q3, ry, ⟨by13, rt2⟩ | ⟨by13, eY⟩⟩
                  · rw [← eY] at rt1
                    clear eY hk0
                    generalize ofL Y = yy at *
                    go_wp2_with (go_at_call 13; refine (WW.out _).mono ?_; rintro e w3 ⟨rfl, u3⟩)
                    go_ret3
                    exact ⟨pres_bad PX.out, u3⟩
                  · generalize ofL Y = yy at *
                    go_wp2_with (go_at_call 13; refine (WW.out _).mono ?_; rintro e w3 ⟨rfl, u3⟩)
                    go_ret3
                    exact ⟨pres_bad PX.out, u3⟩
                  · rw [← eY] at rt1
                    clear eY
                    generalize ofL Y = yy at *
                    go_wp2_with (go_at_call 13; refine (WW.out _).mono ?_; rintro e w3 ⟨rfl, u3⟩)
                    go_ret3
                    exact ⟨pres_bad PX.out, u3⟩
                | some out =>
                  rw [hw] at PX WW
                  have PX : Hid (res = .there out (k + 1)) := PX
                  have WW : Hid (∀ w, Calls Tryd.prog 13 #[.string (ofL Y)] w fun e w' => (∃ v, e = .returned (.tuple #[v, .int .i64 0]) ∧ TxtsO w' w.heap.size v out) ∧ Upd (fun _ => False) w w') := WW
                  clear hw
                  rcases hX with ⟨hk0, q3, eY⟩ | ⟨y, q3, ry, ⟨by13, rt2⟩ | ⟨by13, eY⟩⟩
                  · rw [← eY] at rt1
                    clear eY hk0
                    generalize ofL Y = yy at *
                    go_wp2_with fail
                    refine (WW.out _).mono ?_
                    rintro e w3 ⟨⟨v, rfl, ht⟩, u3⟩
                    have HT := Lib.hid ht
                    clear ht
                    go_wp2
                    go_ret3
                    exact ⟨pres_there PX.out (by omega) HT.out, u3⟩
                  · generalize ofL Y = yy at *
                    go_wp2_with fail
                    refine (WW.out _).mono ?_
                    rintro e w3 ⟨⟨v, rfl, ht⟩, u3⟩
                    have HT := Lib.hid ht
                    clear ht
                    go_wp2
                    go_ret3
                    exact ⟨pres_there PX.out (by omega) HT.out, u3⟩
                  · rw [← eY] at rt1
                    clear eY
                    generalize ofL Y = yy at *
                    go_wp2_with fail
                    refine (WW.out _).mono ?_
                    rintro e w3 ⟨⟨v, rfl, ht⟩, u3⟩
                    have HT := Lib.hid ht
                    clear ht
                    go_wp2
                    go_ret3
                    exact ⟨pres_there PX.out (by omega) HT.out, u3⟩
              · have b10 : ((c.toNat : Int) != 10) = true := u8n 10 h10 (by omega)
                have FN := Lib.hid (feed_next h4 hc h10 FR.out)
                clear hc FR h10
                go_wp2
                go_roundw
                case rel => exact ⟨k + 1, rfl, rfl, rfl, by go_num, by omega, by omega, FN, by first | rfl | trivial⟩
                case measure => simp [intOf]; omega
            · have q2 : ¬ (k : Int) < 4200 := by omega
              have q4 : (4200 : Int) ≤ (s.length : Int) := by omega
              have PB : Hid (res = .bad) := Lib.hid (by
                have e : 4200 - k = 0 := by omega
                have := PX.out
                rw [FR.out, e, Lin.feed] at this; exact this)
              go_wp2
              go_ret3
              exact ⟨pres_bad PB.out, Upd.refl _ _⟩
        · have q1 : ¬ (k : Int) < (s.length : Int) := by omega
          by_cases h4 : k < 4200
          · have q4 : ¬ (4200 : Int) ≤ (s.length : Int) := by omega
            have PS : Hid (res = .short) := Lib.hid (by
              obtain ⟨n, hn⟩ : ∃ n, 4200 - k = n + 1 := ⟨4200 - k - 1, by omega⟩
              have hd : s.drop k = [] := List.drop_eq_nil_of_le (by omega)
              have := PX.out
              rw [FR.out, hn, hd, Lin.feed] at this; exact this)
            go_wp2
            go_ret3
            exact ⟨pres_short PS.out, Upd.refl _ _⟩
          · have q4 : (4200 : Int) ≤ (s.length : Int) := by omega
            have PB : Hid (res = .bad) := Lib.hid (by
              have e : 4200 - k = 0 := by omega
              have := PX.out
              rw [FR.out, e, Lin.feed] at this; exact this)
            go_wp2
            go_ret3
            exact ⟨pres_bad PB.out, Upd.refl _ _⟩
end Go.Proofs.YtkemjjhmabemiaaDoor
/- Walk: LinesParses. -/
set_option linter.unusedVariables false
set_option linter.unusedSimpArgs false
namespace Go.Proofs.YtkemjjhmabemiaaDoor
open Go.RowKit
open Lin (Txt)

def P3 (r : Lin.R (List Txt)) : List Txt × Nat × Nat := match r with | .there l n => (l, n, 0) | .short => ([], 0, 0) | .bad => ([], 0, 61)
theorem pres_row {base : Nat} {r : Lin.R (List Txt)} {e : Ending} {w' : World} (h : PRes base r e w') :
    ∃ p c, e = .returned (.tuple #[.slice p (P3 r).1.length c, .int .i64 ((P3 r).2.1 : Int), .int .i64 ((P3 r).2.2 : Int)]) ∧ TxtsO w' base (.slice p (P3 r).1.length c) (P3 r).1 := by
  cases r with
  | there l n =>
    obtain ⟨v, h1, h2⟩ := h
    obtain ⟨p, c, e, _⟩ := h2.slice
    subst e
    exact ⟨p, c, h1, h2⟩
  | short => exact ⟨none, 0, h, OwnN.none⟩
  | bad => exact ⟨none, 0, h, OwnN.none⟩
def W2 (o : Option (List Txt)) : List Txt × Nat := match o with | some l => (l, 0) | none => ([], 61)
theorem wres_row {base : Nat} {o : Option (List Txt)} {e : Ending} {w' : World} (h : WRes base o e w') :
    ∃ p c, e = .returned (.tuple #[.slice p (W2 o).1.length c, .int .i64 ((W2 o).2 : Int)]) ∧ TxtsO w' base (.slice p (W2 o).1.length c) (W2 o).1 := by
  cases o with
  | some l =>
    obtain ⟨v, h1, h2⟩ := h
    obtain ⟨p, c, e, _⟩ := h2.slice
    subst e
    exact ⟨p, c, h1, h2⟩
  | none => exact ⟨none, 0, h, OwnN.none⟩
theorem wres2_row {base : Nat} {o : Option (List Txt)} {e : Ending} {w' : World} (h : WRes2 base o e w') :
    ∃ p c, e = .returned (.tuple #[.slice p (W2 o).1.length c, .int .i64 ((W2 o).2 : Int)]) ∧ TxtsO w' base (.slice p (W2 o).1.length c) (W2 o).1 := by
  cases o with
  | some l =>
    obtain ⟨v, h1, h2⟩ := h
    obtain ⟨p, c, e, _⟩ := h2.slice
    subst e
    exact ⟨p, c, h1, h2⟩
  | none => exact ⟨none, 0, h, OwnN.none⟩
set_option maxHeartbeats 4000000 in
set_option maxRecDepth 100000 in
theorem lawParses (q : Option Addr) (c : Nat) (l s : Txt) (w : World) (hb : BAt w q c l) (hz : s.length ≤ maxLen) (hs : Std w) :
    Calls Tryd.prog 4 #[.slice q l.length c, .string (ofL s)] w fun e w' => e = .returned (.bool true) ∧ Upd (fun _ => False) w w' := by
  have AL := Lib.hid (alive_any w hs)
  have hle := hb.le
  unfold maxLen at hle hz
  have s1 := ofL_size s
  by_cases h1 : 20000 < l.length
  · have q1 : (20000 : Int) < (l.length : Int) := by omega
    clear hb hs
    go_enter Tryd.func4, Tryd.ntmps4
    go_wp2_with fail
    refine (AL.out).mono ?_
    rintro e w1 ⟨rfl, u1⟩
    go_wp2
    go_ret
    exact ⟨rfl, u1⟩
  · have q1 : ¬ (20000 : Int) < (l.length : Int) := by omega
    by_cases h2 : 5000 < s.length
    · have q2 : (5000 : Int) < (s.length : Int) := by omega
      clear hb hs
      go_enter Tryd.func4, Tryd.ntmps4
      go_wp2_with fail
      refine (AL.out).mono ?_
      rintro e w1 ⟨rfl, u1⟩
      go_wp2
      go_ret
      exact ⟨rfl, u1⟩
    · have q2 : ¬ (5000 : Int) < (s.length : Int) := by omega
      have HB := Lib.hid hb
      have HS := Lib.hid hs
      clear hb hs
      go_enter Tryd.func4, Tryd.ntmps4
      go_wp2_with fail
      refine (AL.out).mono ?_
      rintro e w1 ⟨rfl, u1⟩
      have b1 := HB.out.keep0 u1
      have PA := Lib.hid (parse2_any q c l w1 b1 (HS.out.keep u1) (by omega))
      have U1 := Lib.hid u1
      have hst1 := b1.str
      clear b1 u1 hst1
      go_wp2_with fail
      refine PA.out.mono ?_
      rintro e w2 ⟨hr, u2⟩
      obtain ⟨p5, c5, rfl, ht5⟩ := pres_row hr
      have U2 := Lib.hid (upd0 U1.out u2)
      have hst := (HB.out.keep0 U2.out).str
      have RP := Lib.hid (rparse2_any l w2 (by omega))
      have HT5 := Lib.hid ht5
      clear hr u2 ht5
      go_wp2_with fail
      refine RP.out.mono ?_
      rintro e w3 ⟨hr, u3⟩
      obtain ⟨p8, c8, rfl, ht8⟩ := pres_row hr
      have U3 := Lib.hid (upd0 U2.out u3)
      have HT5 := Lib.hid (HT5.out.keep0 u3)
      have HT8 := Lib.hid ht8
      have WP := Lib.hid (words_any s (by omega) w3)
      clear hr u3 ht8 hst
      go_wp2_with fail
      refine WP.out.mono ?_
      rintro e w4 ⟨hr, u4⟩
      obtain ⟨p11, c11, rfl, ht11⟩ := wres2_row hr
      have U4 := Lib.hid (upd0 U3.out u4)
      have HT5 := Lib.hid (HT5.out.keep0 u4)
      have HT8 := Lib.hid (HT8.out.keep0 u4)
      have HT11 := Lib.hid ht11
      have RW := Lib.hid (rwords_any s w4 (by omega))
      clear hr u4 ht11
      go_wp2_with fail
      refine RW.out.mono ?_
      rintro e w5 ⟨hr, u5⟩
      obtain ⟨p13, c13, rfl, ht13⟩ := wres_row hr
      have U5 := Lib.hid (upd0 U4.out u5)
      have S1 := same_any _ _ _ _ w5 ((HT5.out.keep0 u5).row tcs_len) ((HT8.out.keep0 u5).row tcs_len)
      have S2a := fun n => same_any _ _ _ _ (w5.drewN n) (((HT11.out.keep0 u5).keep0 ((Upd.refl _ _).drewN n)).row tcs_len) ((ht13.keep0 ((Upd.refl _ _).drewN n)).row tcs_len)
      rw [decide_eq_true rfl] at S1
      have S2 : ∀ n, Calls Tryd.prog 14 #[.slice p11 (W2 (Lin.words s)).1.length c11, .slice p13 (W2 (Lin.words s)).1.length c13] (w5.drewN n) fun e w' => e = .returned (.bool true) ∧ ∃ m, w' = (w5.drewN n).drewN m := fun n => by
        have := S2a n
        rw [decide_eq_true rfl] at this
        exact this
      have T1 := Lib.hid S1
      have T2 := Lib.hid S2
      clear S1 S2 S2a
      clear hr u5 ht13
      generalize W2 (Lin.words s) = ww at *
      generalize P3 (Lin.parse l) = pp at *
      go_wp2_with fail
      refine T1.out.mono ?_
      rintro e w6 ⟨rfl, n6, rfl⟩
      go_wp2_with fail
      refine (T2.out n6).mono ?_
      rintro e w7 ⟨rfl, n7, rfl⟩
      go_wp2
      go_ret
      exact ⟨ret_bool (by simp), U5.out.drewN _⟩
theorem lawParsesB (q : Option Addr) (c : Nat) (l : Txt) (a : ByteArray) (w : World) (hb : BAt w q c l) (hz : a.size ≤ maxLen) (hs : Std w) :
    Calls Tryd.prog 4 #[.slice q l.length c, .string a] w fun e w' => e = .returned (.bool true) ∧ Upd (fun _ => False) w w' := by
  have hl : a.toList.length ≤ maxLen := by have := ofL_size a.toList; rw [ofL_of] at this; omega
  have := lawParses q c l a.toList w hb hl hs
  rwa [ofL_of] at this
end Go.Proofs.YtkemjjhmabemiaaDoor
/- Rows of rows of texts; walk: all commands, by the document. -/
set_option linter.unusedVariables false
set_option linter.unusedSimpArgs false
namespace Go.Proofs.YtkemjjhmabemiaaDoor
open Go.RowKit
open Lin (Txt)

def slc (v : Value) : List Value := [v]
theorem slc_len (v : Value) : (slc v).length = 1 := rfl
/-- A row of rows of texts, all of the call's own. -/
def RowsO (w : World) (base : Nat) (v : Value) (L : List (List Txt)) : Prop :=
  ∃ vs, OwnN slc 1 23 w base v vs ∧ vs.length = L.length ∧ ∀ (i : Nat) (vi : Value) (li : List Txt), vs[i]? = some vi → L[i]? = some li → TxtsO w base vi li
theorem RowsO.slice {w : World} {base : Nat} {v : Value} {L : List (List Txt)} (h : RowsO w base v L) : ∃ p c, v = .slice p L.length c := by
  obtain ⟨vs, h1, h2, _⟩ := h
  obtain ⟨p, c, e, _⟩ := h1.slice
  exact ⟨p, c, by rw [e, h2]⟩
theorem RowsO.lt {w : World} {base : Nat} {v : Value} {L : List (List Txt)} (h : RowsO w base v L) {b : Nat} (hb : v.ownBlock = some b) : base ≤ b ∧ b < w.heap.size := by
  obtain ⟨vs, h1, _⟩ := h
  exact ⟨(h1.lt hb).1, (h1.lt hb).2.1⟩
theorem RowsO.keep {w w' : World} {base : Nat} {v : Value} {L : List (List Txt)} (h : RowsO w base v L) {F : Nat → Prop} (u : Upd F w w') (hd : ∀ b, base ≤ b → b < w.heap.size → (∃ cs, Blk w b cs 23 ∨ Blk w b cs 9) → ¬ F b) : RowsO w' base v L := by
  obtain ⟨vs, h1, h2, h3⟩ := h
  refine ⟨vs, h1.keep u (fun b hb => ?_), h2, fun i vi li hi hl => (h3 i vi li hi hl).keep u (fun b hb => ?_)⟩
  · obtain ⟨a, c, cs, d⟩ := h1.lt hb
    exact hd b a c ⟨cs, Or.inl d⟩
  · obtain ⟨a, c, cs, d⟩ := (h3 i vi li hi hl).lt hb
    exact hd b a c ⟨cs, Or.inr d⟩
theorem RowsO.keep0 {w w' : World} {base : Nat} {v : Value} {L : List (List Txt)} (h : RowsO w base v L) (u : Upd (fun _ => False) w w') : RowsO w' base v L := h.keep u (fun _ _ _ _ => id)
theorem RowsO.mono {w : World} {base b2 : Nat} {v : Value} {L : List (List Txt)} (h : RowsO w base v L) (hb : b2 ≤ base) : RowsO w b2 v L := by
  obtain ⟨vs, h1, h2, h3⟩ := h
  exact ⟨vs, h1.mono hb, h2, fun i vi li hi hl => (h3 i vi li hi hl).mono hb⟩
theorem RowsO.none (w : World) (base : Nat) : RowsO w base (.slice Option.none 0 0) [] := ⟨[], OwnN.none, rfl, fun i vi li h => by simp at h⟩
theorem RowsO.made (w : World) : RowsO (w.alloc (.cells #[] 23)) w.heap.size (.slice (some ⟨w.heap.size, 0, Option.none⟩) 0 0) [] := ⟨[], OwnN.made w _, rfl, fun i vi li h => by simp at h⟩
theorem strs_info : (Tryd.prog.info? 23).map (fun i => (i.zero, i.size, i.bytes)) = some (some (.slice Option.none 0 0), 1, 24) := by kernel_rfl
theorem blk_ty {w : World} {b : Nat} {cs cs' : List Value} {T T' : TypeId} (h : Blk w b cs T) (h' : Blk w b cs' T') : T = T' := by
  unfold Blk at *; rw [h] at h'; simp at h'; exact h'.2
/-- A row more. -/
theorem rows_app (w : World) (base : Nat) (v : Value) (L : List (List Txt)) (vi : Value) (li : List Txt) (h : RowsO w base v L) (hv : TxtsO w base vi li) (hl : L.length ≤ 1000000000) (hb : base ≤ w.heap.size) :
    ∃ p k w', (Builtin.append_ #[37, 37] 37 #[v, .slice (some ⟨w.heap.size, 0, Option.none⟩) 1 1]).run Tryd.prog (w.alloc (.cells #[vi] 23)) = .ok (.slice p (L.length + 1) k) w' ∧ RowsO w' base (.slice p (L.length + 1) k) (L ++ [li]) ∧ Upd (fun k => v.ownBlock = some k) w w' ∧ NewOr v (.slice p (L.length + 1) k) w := by
  obtain ⟨vs, h1, h2, h3⟩ := h
  obtain ⟨i0, hi0, hz0, hz1, hz2⟩ := info_parts strs_info
  have u0 : Upd (fun _ => False) w (w.alloc (.cells #[vi] 23)) := (Upd.refl _ _).alloc _
  obtain ⟨pi, ci, ei, _, _⟩ := hv.slice
  have hone : ∀ a ∈ [vi], ∀ u ∈ slc a, u.oneCell' = true := by
    intro a ha u hu
    simp at ha; subst ha
    simp [slc] at hu; subst hu
    rw [ei]; rfl
  obtain ⟨v', w', a, b, d, e1⟩ := OwnN.append (P := Tryd.prog) 37 37 i0 (.slice Option.none 0 0) 24 Tryd.underlying37 hi0 hz0 hz1 hz2 rfl (by decide) slc_len hone (h1.keep0 u0) (RowOf.lit (f := slc) w vi [vi] _ rfl rfl) (by unfold maxLen; simp; omega) (by simp; omega) (Nat.le_trans hb u0.size)
  obtain ⟨p, k, e, _⟩ := b.slice
  rw [List.length_append, List.length_singleton, h2] at e
  subst e
  have hud : Upd (fun k => v.ownBlock = some k) w w' := (u0.weaken (F := fun k => v.ownBlock = some k) (fun _ _ h => h.elim)).trans d (fun _ _ h => h)
  have sep : ∀ (x : Value) (lx : List Txt), TxtsO w base x lx → TxtsO w' base x lx := fun x lx hx => hx.keep hud (fun k hk he => by
    obtain ⟨_, _, cs, B1⟩ := hx.lt hk
    obtain ⟨_, _, cs2, B2⟩ := h1.lt he
    exact absurd (blk_ty B1 B2) (by decide))
  refine ⟨p, k, w', a, ⟨vs ++ [vi], b, by simp [h2], fun i x lx hi hl => ?_⟩, hud, fun k hk => (e1 k hk).imp id (fun g => Nat.le_trans u0.size g)⟩
  by_cases hil : i < vs.length
  · rw [List.getElem?_append_left hil] at hi
    rw [List.getElem?_append_left (by omega)] at hl
    exact sep x lx (h3 i x lx hi hl)
  · rw [List.getElem?_append_right (by omega)] at hi
    rw [List.getElem?_append_right (by omega)] at hl
    have e0 : i - vs.length = 0 := by
      have := (List.getElem?_eq_some_iff.1 hi).1; simp at this; omega
    have e2 : i - L.length = 0 := by omega
    rw [e0] at hi; rw [e2] at hl
    simp at hi hl
    subst hi hl
    exact sep _ _ hv
theorem RowsO.get {w : World} {base : Nat} {p : Option Addr} {c : Nat} {L : List (List Txt)} (h : RowsO w base (.slice p L.length c) L) {k : Nat} {li : List Txt} (hk : L[k]? = some li) :
    ∃ g vi, p = some ⟨g, 0, Option.none⟩ ∧ g < w.heap.size ∧ w.cell? ⟨g, k, Option.none⟩ = some vi ∧ TxtsO w base vi li := by
  obtain ⟨vs, h1, h2, h3⟩ := h
  have hkl := (List.getElem?_eq_some_iff.1 hk).1
  obtain ⟨vi, hvi⟩ : ∃ vi, vs[k]? = some vi := ⟨_, List.getElem?_eq_getElem (by omega)⟩
  rcases h1.blk with ⟨e, rfl⟩ | ⟨g, cap, cs, e, hg, hB, hc, hm, hl⟩
  · simp at hvi
  · injection e with e1 e2 e3
    refine ⟨g, vi, e1, hB.lt, ?_, h3 k vi li hvi hk⟩
    rw [hB.cell, List.getElem?_append_left (by rw [flat_length slc 1 slc_len]; omega)]
    have := flat_get slc 1 slc_len vs k 0 (by omega)
    rw [Nat.mul_one, Nat.add_zero] at this
    rw [this, hvi]; rfl
/-- What all commands are told by. -/
def AllRes (base : Nat) (x : List (List Txt) × Txt × Bool) (e : Ending) (w' : World) : Prop := ∃ v, e = .returned (.tuple #[v, .string (ofL x.2.1), .int .i64 (errOf x.2.2)]) ∧ RowsO w' base v x.1
theorem upd_rows {w w1 w2 : World} {v : Value} {L : List (List Txt)} (ho : RowsO w1 w.heap.size v L) (u : Upd (fun _ => False) w w1) (h : Upd (fun k => v.ownBlock = some k) w1 w2) : Upd (fun _ => False) w w2 :=
  u.trans h (fun i hi e => by have := (ho.lt e).1; omega)
set_option maxHeartbeats 4000000 in
set_option maxRecDepth 100000 in
theorem rall_any (s0 : Txt) (hl : s0.length ≤ 100000) (w : World) :
    Calls Tryd.prog 15 #[.string (ofL s0)] w fun e w' => AllRes w.heap.size (Lin.all s0) e w' ∧ Upd (fun _ => False) w w' := by
  have T0 := Lib.hid (show Lin.all s0 = ([] ++ (Lin.all s0).1, (Lin.all s0).2) from rfl)
  obtain ⟨target, ht⟩ : ∃ t, t = Lin.all s0 := ⟨_, rfl⟩
  rw [← ht]
  have T0 : Hid (target = ([] ++ (Lin.all s0).1, (Lin.all s0).2)) := by rw [ht]; exact T0
  clear ht
  go_enter Tryd.func15, Tryd.ntmps15
  go_wp2
  go_loopw [0, 2, 3, 4, 5] (fun v0 v2 v3 v4 v5 wr => ∃ (r : Txt) (L : List (List Txt)), v0 = .string (ofL r) ∧ v2 = .slice Option.none 0 0 ∧ v3 = .string { data := #[] } ∧ v4 = .int .i64 0 ∧ r.length ≤ 100000 ∧ L.length + r.length ≤ 100000 ∧ Hid (target = (L ++ (Lin.all r).1, (Lin.all r).2)) ∧ Hid (RowsO wr w.heap.size v5 L) ∧ Hid (Upd (fun _ => False) w wr)) (fun v0 _ _ _ _ _ => szOf v0)
  case atStart => exact ⟨s0, [], rfl, rfl, rfl, rfl, hl, by simpa using hl, T0, Lib.hid (RowsO.made w), Lib.hid ((Upd.refl _ _).alloc _)⟩
  case round =>
    obtain ⟨r, L, rfl, rfl, rfl, rfl, hr, hLr, TG, RO, U⟩ := hrel
    obtain ⟨p5, c5, e5⟩ := RO.out.slice
    subst e5
    have PA := rparse2_any r wr hr
    cases hp : Lin.parse r with
    | bad =>
      rw [hp] at PA
      have PA : Hid (Calls Tryd.prog 12 #[.string (ofL r)] wr fun e w' => e = .returned (.tuple #[.slice Option.none 0 0, .int .i64 0, .int .i64 61]) ∧ Upd (fun _ => False) wr w') := Lib.hid PA
      have TX := Lib.hid (show target = (L, [], true) by rw [TG.out, Lin.all_bad hp]; simp)
      clear hp
      go_wp2_with fail
      refine PA.out.mono ?_
      rintro e w2 ⟨rfl, u2⟩
      have U2 := Lib.hid (upd0 U.out u2)
      have R2 := Lib.hid (RO.out.keep0 u2)
      clear u2
      go_wp2
      go_ret3
      rw [TX.out]
      exact ⟨⟨_, rfl, R2.out⟩, U2.out⟩
    | short =>
      rw [hp] at PA
      have PA : Hid (Calls Tryd.prog 12 #[.string (ofL r)] wr fun e w' => e = .returned (.tuple #[.slice Option.none 0 0, .int .i64 0, .int .i64 0]) ∧ Upd (fun _ => False) wr w') := Lib.hid PA
      have TX := Lib.hid (show target = (L, r, false) by rw [TG.out, Lin.all_short hp]; simp)
      clear hp
      go_wp2_with fail
      refine PA.out.mono ?_
      rintro e w2 ⟨rfl, u2⟩
      have U2 := Lib.hid (upd0 U.out u2)
      have R2 := Lib.hid (RO.out.keep0 u2)
      clear u2
      go_wp2
      go_ret3
      rw [TX.out]
      exact ⟨⟨_, rfl, R2.out⟩, U2.out⟩
    | there l n =>
      rw [hp] at PA
      obtain ⟨n1, n2, n3⟩ := Lin.parse_there hp
      have PA : Hid (Calls Tryd.prog 12 #[.string (ofL r)] wr fun e w' => (∃ v, e = .returned (.tuple #[v, .int .i64 (n : Int), .int .i64 0]) ∧ TxtsO w' wr.heap.size v l) ∧ Upd (fun _ => False) wr w') := Lib.hid PA
      have TX := Lib.hid (show target = (if l = [] then L ++ (Lin.all (r.drop n)).1 else (L ++ [l]) ++ (Lin.all (r.drop n)).1, (Lin.all (r.drop n)).2) by
        rw [TG.out, Lin.all_there hp]
        by_cases h : l = []
        · simp [h]
        · simp [h])
      have rd := run_drop r (n : Int) (by omega) (by omega)
      rw [Int.toNat_natCast] at rd
      have hn0 : ((n : Int) == 0) = false := by rw [beq_eq_false_iff_ne]; omega
      have hdl : (r.drop n).length = r.length - n := List.length_drop
      have hr0 : 1 ≤ r.length := by omega
      have SZ : Hid ((ofL (r.drop n)).size < (ofL r).size) := Lib.hid (by rw [ofL_size, ofL_size]; omega)
      clear hp
      generalize r.drop n = r2 at *
      have hr2 : r2.length ≤ 100000 := by omega
      have hr3 : L.length + 1 + r2.length ≤ 100000 := by omega
      clear hdl
      go_wp2_with fail
      refine PA.out.mono ?_
      rintro e w2 ⟨⟨v, rfl, ht⟩, u2⟩
      have U2 := Lib.hid (upd0 U.out u2)
      have R2 := RO.out.keep0 u2
      have ht2 : TxtsO w2 w.heap.size v l := ht.mono U.out.size
      obtain ⟨pv, cv, rfl, _, _⟩ := ht2.slice
      by_cases hle : l = []
      · have q0 : ¬ (0 : Int) < (l.length : Int) := by rw [hle]; simp
        have TX := Lib.hid (show target = (L ++ (Lin.all r2).1, (Lin.all r2).2) by rw [TX.out, if_pos hle])
        have R2 := Lib.hid R2
        clear hle ht ht2 u2
        go_wp2
        go_roundw
        case rel => exact ⟨r2, L, rfl, rfl, rfl, rfl, hr2, by omega, TX, R2, U2⟩
        case measure => exact SZ.out
      · have q0 : (0 : Int) < (l.length : Int) := by have := List.length_pos_iff.2 hle; omega
        have TX := Lib.hid (show target = ((L ++ [l]) ++ (Lin.all r2).1, (Lin.all r2).2) by rw [TX.out, if_neg hle])
        obtain ⟨p6, k6, w6, hr1, i6, u6, n6⟩ := rows_app w2 w.heap.size _ L _ l R2 ht2 (by omega) U2.out.size
        have I6 := Lib.hid i6
        have U6 := Lib.hid (upd_rows R2 U2.out u6)
        clear hle ht ht2 u2 R2 i6 u6 n6
        go_wp2_with (at_builtin; refine wpList_builtinN rfl _ _ 37 rfl _ _ rfl rfl hr1 ?_)
        go_wp2
        go_roundw
        case rel => exact ⟨r2, L ++ [l], rfl, rfl, rfl, rfl, hr2, by simp; omega, TX, I6, U6⟩
        case measure => exact SZ.out
end Go.Proofs.YtkemjjhmabemiaaDoor
