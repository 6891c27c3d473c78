/- Walk: the document's command with which bytes begin. -/
import Derived.Test.YtkemjjhmabemiaaDoorK08
import Derived.Test.YtkemjjhmabemiaaDoorK09
import Derived.Test.YtkemjjhmabemiaaDoorK07
set_option linter.unusedVariables false
set_option linter.unusedSimpArgs false
namespace Go.Proofs.YtkemjjhmabemiaaDoor
open Go.RowKit
open Lin (Txt)

/-- Where the reader of a line stands. -/
theorem feed_next {s : Txt} {k : Nat} {c : UInt8} {res : Lin.R Txt} (hk : k < 4200) (hc : s[k]? = some c) (h10 : ¬ c = 10) (h : res = Lin.feed (s.take k) (4200 - k) (s.drop k)) : res = Lin.feed (s.take (k + 1)) (4200 - (k + 1)) (s.drop (k + 1)) := by
  obtain ⟨n, hn⟩ : ∃ n, 4200 - k = n + 1 := ⟨4200 - k - 1, by omega⟩
  have hn2 : 4200 - (k + 1) = n := by omega
  have hl := (List.getElem?_eq_some_iff.1 hc).1
  have ht : s.take (k + 1) = s.take k ++ [c] := by
    obtain ⟨_, e⟩ := List.getElem?_eq_some_iff.1 hc
    rw [List.take_succ_eq_append_getElem hl, e]
  rw [hn, drop_cons hc, Lin.feed, if_neg h10] at h
  rw [hn2, ht]; exact h
theorem strip_last {s : Txt} {k : Nat} : (k = 0 → Lin.strip (s.take k) = []) ∧ (∀ y, 1 ≤ k → s[k - 1]? = some y → (y = 13 → Lin.strip (s.take k) = s.take (k - 1)) ∧ (¬ y = 13 → Lin.strip (s.take k) = s.take k)) := by
  refine ⟨fun h => by subst h; rfl, fun y h1 hy => ?_⟩
  have hl := (List.getElem?_eq_some_iff.1 hy).1
  have ht : s.take k = s.take (k - 1) ++ [y] := by
    obtain ⟨_, e⟩ := List.getElem?_eq_some_iff.1 hy
    have : k = k - 1 + 1 := by omega
    conv => lhs; rw [this]
    rw [List.take_succ_eq_append_getElem hl, e]
  have hlast : (s.take k).getLast? = some y := by rw [ht]; simp
  unfold Lin.strip
  rw [hlast]
  constructor
  · intro h; rw [if_pos (by rw [h]), ht]; simp
  · intro h; rw [if_neg (by simpa using h)]
set_option maxHeartbeats 4000000 in
set_option maxRecDepth 100000 in
theorem rparse2_any (s : Txt) (w : World) (hl : s.length ≤ 100000) :
    Calls Tryd.prog 12 #[.string (ofL s)] w fun e w' => PRes w.heap.size (Lin.parse s) e w' ∧ Upd (fun _ => False) w w' := by
  have s1 := ofL_size s
  have PX := Lib.hid (show Lin.parse s = if s.head? = some 42 then Lin.array s else match Lin.feed [] 4200 s with | .there x n => (match Lin.words (Lin.strip x) with | some o => .there o n | none => .bad) | .short => .short | .bad => .bad from rfl)
  by_cases h42 : s.head? = some 42
  · obtain ⟨r, hr⟩ : ∃ r, s = 42 :: r := by
      cases s with
      | nil => simp at h42
      | cons c r => simp at h42; subst h42; exact ⟨r, rfl⟩
    have AR := Lib.hid (rarray_any s w hl)
    have PX : Hid (Lin.parse s = Lin.array s) := Lib.hid (PX.out.trans (if_pos h42))
    have rx0 : ∀ w, (Instr.index 9 (.string (ofL s)) (.int .i64 0)).run Tryd.prog w = .ok (.int .u8 42) w := run_at s 0 42 (by rw [hr]; rfl)
    have hn0 : (0 : Int) < (s.length : Int) := by rw [hr]; simp
    clear h42 hr
    rw [PX.out]
    clear PX
    cases har : Lin.array s with
    | short =>
      rw [har] at AR
      have AR : Hid (Calls Tryd.prog 29 #[.string (ofL s)] w fun e w' => e = .returned (.tuple #[.slice none 0 0, .int .i64 0, .int .i64 1]) ∧ Upd (fun _ => False) w w') := AR
      clear har
      go_enter Tryd.func12, Tryd.ntmps12
      go_wp2_with fail
      refine (AR.out).mono ?_
      rintro e w1 ⟨rfl, u1⟩
      go_wp2
      go_ret3
      exact ⟨pres_short rfl, u1⟩
    | bad =>
      rw [har] at AR
      have AR : Hid (Calls Tryd.prog 29 #[.string (ofL s)] w fun e w' => e = .returned (.tuple #[.slice none 0 0, .int .i64 0, .int .i64 2]) ∧ Upd (fun _ => False) w w') := AR
      clear har
      go_enter Tryd.func12, Tryd.ntmps12
      go_wp2_with fail
      refine (AR.out).mono ?_
      rintro e w1 ⟨rfl, u1⟩
      go_wp2
      go_ret3
      exact ⟨pres_bad rfl, u1⟩
    | there out n =>
      rw [har] at AR
      have AR : Hid (Calls Tryd.prog 29 #[.string (ofL s)] w fun e w' => (∃ v, e = .returned (.tuple #[v, .int .i64 (n : Int), .int .i64 0]) ∧ TxtsO w' w.heap.size v out) ∧ Upd (fun _ => False) w w') := AR
      clear har
      go_enter Tryd.func12, Tryd.ntmps12
      go_wp2_with fail
      refine (AR.out).mono ?_
      rintro e w1 ⟨⟨v, rfl, ht⟩, u1⟩
      have HT := Lib.hid ht
      clear ht
      go_wp2
      go_ret3
      exact ⟨pres_there rfl rfl HT.out, u1⟩
  · have PX : Hid (Lin.parse s = match Lin.feed [] 4200 s with | .there x n => (match Lin.words (Lin.strip x) with | some o => .there o n | none => .bad) | .short => .short | .bad => .bad) := Lib.hid (PX.out.trans (if_neg h42))
    have hstar : (¬ (0 : Int) < (s.length : Int)) ∨ ∃ c : UInt8, (0 : Int) < (s.length : Int) ∧ (∀ w, (Instr.index 9 (.string (ofL s)) (.int .i64 0)).run Tryd.prog w = .ok (.int .u8 (c.toNat : Int)) w) ∧ ((c.toNat : Int) == 42) = false := by
      cases s with
      | nil => left; simp
      | cons c r =>
        right
        exact ⟨c, by simp, run_at (c :: r) 0 c rfl, u8f 42 (by simpa using h42) (by omega)⟩
    have F0 := Lib.hid (show Lin.feed [] 4200 s = Lin.feed (s.take 0) (4200 - 0) (s.drop 0) from rfl)
    generalize Lin.parse s = res at *
    generalize Lin.feed [] 4200 s = fres at *
    clear h42
    rcases hstar with hz | ⟨c0, hz, rx0, hb0⟩
    all_goals
      go_enter Tryd.func12, Tryd.ntmps12
      go_wp2
      go_loopw [2, 3, 4, 8] (fun v2 v3 v4 v8 wr => ∃ k : Nat, v2 = .slice none 0 0 ∧ v3 = .int .i64 0 ∧ v4 = .int .i64 0 ∧ v8 = .int .i64 (k : Int) ∧ k ≤ s.length ∧ k ≤ 4200 ∧ Hid (fres = Lin.feed (s.take k) (4200 - k) (s.drop k)) ∧ wr = w) (fun _ _ _ v8 _ => s.length - (intOf v8).toNat)
      case atStart => exact ⟨0, rfl, rfl, rfl, rfl, by omega, by omega, F0, rfl⟩
      case round =>
        obtain ⟨k, rfl, rfl, rfl, rfl, hk, hk2, FR, hwr⟩ := hrel
        subst hwr
        clear F0 hz
        by_cases hlt : k < s.length
        · try (exfalso; omega)
          all_goals
            have q1 : (k : Int) < (s.length : Int) := by omega
            by_cases h4 : k < 4200
            · have q2 : (k : Int) < 4200 := by omega
              obtain ⟨c, hc⟩ : ∃ c, s[k]? = some c := ⟨_, List.getElem?_eq_getElem hlt⟩
              have rx := run_at s k c hc
              have HC := Lib.hid hc
              by_cases h10 : c = 10
              · have b10 : ((c.toNat : Int) != 10) = false := u8m 10 h10 (by omega)
                have FT : Hid (fres = .there (s.take k) (k + 1)) := Lib.hid (by
                  obtain ⟨n, hn⟩ : ∃ n, 4200 - k = n + 1 := ⟨4200 - k - 1, by omega⟩
                  rw [FR.out, hn, drop_cons hc, Lin.feed, if_pos h10, List.length_take, Nat.min_eq_left hk])
                have PX : Hid (res = (match Lin.words (Lin.strip (s.take k)) with | some o => .there o (k + 1) | none => .bad)) := by have := PX.out; rw [FT.out] at this; exact Lib.hid this
                have rt1 := run_take s (k : Int) (by omega) (by omega)
                rw [Int.toNat_natCast] at rt1
                have stt := strip_last (s := s) (k := k)
                clear hc FR FT h10
                have hX : (k = 0 ∧ ¬ (0 : Int) < (k : Int) ∧ ofL (Lin.strip (s.take k)) = ofL (s.take k)) ∨ (∃ y : UInt8, (0 : Int) < (k : Int) ∧ (∀ w, (Instr.index 9 (.string (ofL s)) (.int .i64 ((k : Int) - 1))).run Tryd.prog w = .ok (.int .u8 (y.toNat : Int)) w) ∧ ((((y.toNat : Int) == 13) = true ∧ (∀ w, (Instr.slice 9 (.string (ofL s)) none (some (.int .i64 ((k : Int) - 1))) none).run Tryd.prog w = .ok (.string (ofL (Lin.strip (s.take k)))) w)) ∨ (((y.toNat : Int) == 13) = false ∧ ofL (Lin.strip (s.take k)) = ofL (s.take k)))) := by
                  by_cases hk0 : k = 0
                  · left; exact ⟨hk0, by omega, by rw [stt.1 hk0, hk0]; rfl⟩
                  · right
                    obtain ⟨y, hy⟩ : ∃ y, s[k - 1]? = some y := ⟨_, List.getElem?_eq_getElem (by omega)⟩
                    obtain ⟨z1, z2⟩ := stt.2 y (by omega) hy
                    refine ⟨y, by omega, run_atI s ((k : Int) - 1) (k - 1) y (by omega) hy, ?_⟩
                    by_cases hy13 : y = 13
                    · left
                      refine ⟨u8t 13 hy13 (by omega), fun w => ?_⟩
                      have := run_take s ((k : Int) - 1) (by omega) (by omega) w
                      have e : ((k : Int) - 1).toNat = k - 1 := by omega
                      rw [e, ← z1 hy13] at this; exact this
                    · right
                      exact ⟨u8f 13 hy13 (by omega), by rw [z2 hy13]⟩
                have hsl : (Lin.strip (s.take k)).length ≤ 1000000 := by
                  have h1 : (s.take k).length ≤ s.length := Nat.le_trans (List.length_take_le _ _) hk
                  unfold Lin.strip
                  split
                  · rw [List.length_dropLast]; omega
                  · omega
                have WW := Lib.hid (fun w => rwords_any (Lin.strip (s.take k)) w hsl)
                clear stt
                have EQ := Lib.hid (show Lin.strip (s.take k) = Lin.strip (s.take k) from rfl)
                generalize Lin.strip (s.take k) = Y at *
                clear EQ hsl
                cases hw : Lin.words Y with
                | none =>
                  rw [hw] at PX WW
                  have PX : Hid (res = .bad) := PX
                  have WW : Hid (∀ w, Calls Tryd.prog 13 #[.string (ofL Y)] w fun e w' => e = .returned (.tuple #[.slice none 0 0, .int .i64 61]) ∧ Upd (fun _ => False) w w') := WW
                  clear hw
                  rcases hX with ⟨hk0, q3, eY⟩ | ⟨y, q3, ry, ⟨by13, rt2⟩ | ⟨by13, eY⟩⟩
                  · rw [← eY] at rt1
                    clear eY hk0
                    generalize ofL Y = yy at *
                    go_wp2_with (go_at_call 13; refine (WW.out _).mono ?_; rintro e w3 ⟨rfl, u3⟩)
                    go_ret3
                    exact ⟨pres_bad PX.out, u3⟩
                  · generalize ofL Y = yy at *
                    go_wp2_with (go_at_call 13; refine (WW.out _).mono ?_; rintro e w3 ⟨rfl, u3⟩)
                    go_ret3
                    exact ⟨pres_bad PX.out, u3⟩
                  · rw [← eY] at rt1
                    clear eY
                    generalize ofL Y = yy at *
                    go_wp2_with (go_at_call 13; refine (WW.out _).mono ?_; rintro e w3 ⟨rfl, u3⟩)
                    go_ret3
                    exact ⟨pres_bad PX.out, u3⟩
                | some out =>
                  rw [hw] at PX WW
                  have PX : Hid (res = .there out (k + 1)) := PX
                  have WW : Hid (∀ w, Calls Tryd.prog 13 #[.string (ofL Y)] w fun e w' => (∃ v, e = .returned (.tuple #[v, .int .i64 0]) ∧ TxtsO w' w.heap.size v out) ∧ Upd (fun _ => False) w w') := WW
                  clear hw
                  rcases hX with ⟨hk0, q3, eY⟩ | ⟨y, q3, ry, ⟨by13, rt2⟩ | ⟨by13, eY⟩⟩
                  · rw [← eY] at rt1
                    clear eY hk0
                    generalize ofL Y = yy at *
                    go_wp2_with fail
                    refine (WW.out _).mono ?_
                    rintro e w3 ⟨⟨v, rfl, ht⟩, u3⟩
                    have HT := Lib.hid ht
                    clear ht
                    go_wp2
                    go_ret3
                    exact ⟨pres_there PX.out (by omega) HT.out, u3⟩
                  · generalize ofL Y = yy at *
                    go_wp2_with fail
                    refine (WW.out _).mono ?_
                    rintro e w3 ⟨⟨v, rfl, ht⟩, u3⟩
                    have HT := Lib.hid ht
                    clear ht
                    go_wp2
                    go_ret3
                    exact ⟨pres_there PX.out (by omega) HT.out, u3⟩
                  · rw [← eY] at rt1
                    clear eY
                    generalize ofL Y = yy at *
                    go_wp2_with fail
                    refine (WW.out _).mono ?_
                    rintro e w3 ⟨⟨v, rfl, ht⟩, u3⟩
                    have HT := Lib.hid ht
                    clear ht
                    go_wp2
                    go_ret3
                    exact ⟨pres_there PX.out (by omega) HT.out, u3⟩
              · have b10 : ((c.toNat : Int) != 10) = true := u8n 10 h10 (by omega)
                have FN := Lib.hid (feed_next h4 hc h10 FR.out)
                clear hc FR h10
                go_wp2
                go_roundw
                case rel => exact ⟨k + 1, rfl, rfl, rfl, by go_num, by omega, by omega, FN, by first | rfl | trivial⟩
                case measure => simp [intOf]; omega
            · have q2 : ¬ (k : Int) < 4200 := by omega
              have q4 : (4200 : Int) ≤ (s.length : Int) := by omega
              have PB : Hid (res = .bad) := Lib.hid (by
                have e : 4200 - k = 0 := by omega
                have := PX.out
                rw [FR.out, e, Lin.feed] at this; exact this)
              go_wp2
              go_ret3
              exact ⟨pres_bad PB.out, Upd.refl _ _⟩
        · have q1 : ¬ (k : Int) < (s.length : Int) := by omega
          by_cases h4 : k < 4200
          · have q4 : ¬ (4200 : Int) ≤ (s.length : Int) := by omega
            have PS : Hid (res = .short) := Lib.hid (by
              obtain ⟨n, hn⟩ : ∃ n, 4200 - k = n + 1 := ⟨4200 - k - 1, by omega⟩
              have hd : s.drop k = [] := List.drop_eq_nil_of_le (by omega)
              have := PX.out
              rw [FR.out, hn, hd, Lin.feed] at this; exact this)
            go_wp2
            go_ret3
            exact ⟨pres_short PS.out, Upd.refl _ _⟩
          · have q4 : (4200 : Int) ≤ (s.length : Int) := by omega
            have PB : Hid (res = .bad) := Lib.hid (by
              have e : 4200 - k = 0 := by omega
              have := PX.out
              rw [FR.out, e, Lin.feed] at this; exact this)
            go_wp2
            go_ret3
            exact ⟨pres_bad PB.out, Upd.refl _ _⟩
end Go.Proofs.YtkemjjhmabemiaaDoor
/- Walk: LinesParses. -/
set_option linter.unusedVariables false
set_option linter.unusedSimpArgs false
namespace Go.Proofs.YtkemjjhmabemiaaDoor
open Go.RowKit
open Lin (Txt)

def P3 (r : Lin.R (List Txt)) : List Txt × Nat × Nat := match r with | .there l n => (l, n, 0) | .short => ([], 0, 0) | .bad => ([], 0, 61)
theorem pres_row {base : Nat} {r : Lin.R (List Txt)} {e : Ending} {w' : World} (h : PRes base r e w') :
    ∃ p c, e = .returned (.tuple #[.slice p (P3 r).1.length c, .int .i64 ((P3 r).2.1 : Int), .int .i64 ((P3 r).2.2 : Int)]) ∧ TxtsO w' base (.slice p (P3 r).1.length c) (P3 r).1 := by
  cases r with
  | there l n =>
    obtain ⟨v, h1, h2⟩ := h
    obtain ⟨p, c, e, _⟩ := h2.slice
    subst e
    exact ⟨p, c, h1, h2⟩
  | short => exact ⟨none, 0, h, OwnN.none⟩
  | bad => exact ⟨none, 0, h, OwnN.none⟩
def W2 (o : Option (List Txt)) : List Txt × Nat := match o with | some l => (l, 0) | none => ([], 61)
theorem wres_row {base : Nat} {o : Option (List Txt)} {e : Ending} {w' : World} (h : WRes base o e w') :
    ∃ p c, e = .returned (.tuple #[.slice p (W2 o).1.length c, .int .i64 ((W2 o).2 : Int)]) ∧ TxtsO w' base (.slice p (W2 o).1.length c) (W2 o).1 := by
  cases o with
  | some l =>
    obtain ⟨v, h1, h2⟩ := h
    obtain ⟨p, c, e, _⟩ := h2.slice
    subst e
    exact ⟨p, c, h1, h2⟩
  | none => exact ⟨none, 0, h, OwnN.none⟩
theorem wres2_row {base : Nat} {o : Option (List Txt)} {e : Ending} {w' : World} (h : WRes2 base o e w') :
    ∃ p c, e = .returned (.tuple #[.slice p (W2 o).1.length c, .int .i64 ((W2 o).2 : Int)]) ∧ TxtsO w' base (.slice p (W2 o).1.length c) (W2 o).1 := by
  cases o with
  | some l =>
    obtain ⟨v, h1, h2⟩ := h
    obtain ⟨p, c, e, _⟩ := h2.slice
    subst e
    exact ⟨p, c, h1, h2⟩
  | none => exact ⟨none, 0, h, OwnN.none⟩
set_option maxHeartbeats 4000000 in
set_option maxRecDepth 100000 in
theorem lawParses (q : Option Addr) (c : Nat) (l s : Txt) (w : World) (hb : BAt w q c l) (hz : s.length ≤ maxLen) (hs : Std w) :
    Calls Tryd.prog 4 #[.slice q l.length c, .string (ofL s)] w fun e w' => e = .returned (.bool true) ∧ Upd (fun _ => False) w w' := by
  have AL := Lib.hid (alive_any w hs)
  have hle := hb.le
  unfold maxLen at hle hz
  have s1 := ofL_size s
  by_cases h1 : 20000 < l.length
  · have q1 : (20000 : Int) < (l.length : Int) := by omega
    clear hb hs
    go_enter Tryd.func4, Tryd.ntmps4
    go_wp2_with fail
    refine (AL.out).mono ?_
    rintro e w1 ⟨rfl, u1⟩
    go_wp2
    go_ret
    exact ⟨rfl, u1⟩
  · have q1 : ¬ (20000 : Int) < (l.length : Int) := by omega
    by_cases h2 : 5000 < s.length
    · have q2 : (5000 : Int) < (s.length : Int) := by omega
      clear hb hs
      go_enter Tryd.func4, Tryd.ntmps4
      go_wp2_with fail
      refine (AL.out).mono ?_
      rintro e w1 ⟨rfl, u1⟩
      go_wp2
      go_ret
      exact ⟨rfl, u1⟩
    · have q2 : ¬ (5000 : Int) < (s.length : Int) := by omega
      have HB := Lib.hid hb
      have HS := Lib.hid hs
      clear hb hs
      go_enter Tryd.func4, Tryd.ntmps4
      go_wp2_with fail
      refine (AL.out).mono ?_
      rintro e w1 ⟨rfl, u1⟩
      have b1 := HB.out.keep0 u1
      have PA := Lib.hid (parse2_any q c l w1 b1 (HS.out.keep u1) (by omega))
      have U1 := Lib.hid u1
      have hst1 := b1.str
      clear b1 u1 hst1
      go_wp2_with fail
      refine PA.out.mono ?_
      rintro e w2 ⟨hr, u2⟩
      obtain ⟨p5, c5, rfl, ht5⟩ := pres_row hr
      have U2 := Lib.hid (upd0 U1.out u2)
      have hst := (HB.out.keep0 U2.out).str
      have RP := Lib.hid (rparse2_any l w2 (by omega))
      have HT5 := Lib.hid ht5
      clear hr u2 ht5
      go_wp2_with fail
      refine RP.out.mono ?_
      rintro e w3 ⟨hr, u3⟩
      obtain ⟨p8, c8, rfl, ht8⟩ := pres_row hr
      have U3 := Lib.hid (upd0 U2.out u3)
      have HT5 := Lib.hid (HT5.out.keep0 u3)
      have HT8 := Lib.hid ht8
      have WP := Lib.hid (words_any s (by omega) w3)
      clear hr u3 ht8 hst
      go_wp2_with fail
      refine WP.out.mono ?_
      rintro e w4 ⟨hr, u4⟩
      obtain ⟨p11, c11, rfl, ht11⟩ := wres2_row hr
      have U4 := Lib.hid (upd0 U3.out u4)
      have HT5 := Lib.hid (HT5.out.keep0 u4)
      have HT8 := Lib.hid (HT8.out.keep0 u4)
      have HT11 := Lib.hid ht11
      have RW := Lib.hid (rwords_any s w4 (by omega))
      clear hr u4 ht11
      go_wp2_with fail
      refine RW.out.mono ?_
      rintro e w5 ⟨hr, u5⟩
      obtain ⟨p13, c13, rfl, ht13⟩ := wres_row hr
      have U5 := Lib.hid (upd0 U4.out u5)
      have S1 := same_any _ _ _ _ w5 ((HT5.out.keep0 u5).row tcs_len) ((HT8.out.keep0 u5).row tcs_len)
      have S2a := fun n => same_any _ _ _ _ (w5.drewN n) (((HT11.out.keep0 u5).keep0 ((Upd.refl _ _).drewN n)).row tcs_len) ((ht13.keep0 ((Upd.refl _ _).drewN n)).row tcs_len)
      rw [decide_eq_true rfl] at S1
      have S2 : ∀ n, Calls Tryd.prog 14 #[.slice p11 (W2 (Lin.words s)).1.length c11, .slice p13 (W2 (Lin.words s)).1.length c13] (w5.drewN n) fun e w' => e = .returned (.bool true) ∧ ∃ m, w' = (w5.drewN n).drewN m := fun n => by
        have := S2a n
        rw [decide_eq_true rfl] at this
        exact this
      have T1 := Lib.hid S1
      have T2 := Lib.hid S2
      clear S1 S2 S2a
      clear hr u5 ht13
      generalize W2 (Lin.words s) = ww at *
      generalize P3 (Lin.parse l) = pp at *
      go_wp2_with fail
      refine T1.out.mono ?_
      rintro e w6 ⟨rfl, n6, rfl⟩
      go_wp2_with fail
      refine (T2.out n6).mono ?_
      rintro e w7 ⟨rfl, n7, rfl⟩
      go_wp2
      go_ret
      exact ⟨ret_bool (by simp), U5.out.drewN _⟩
theorem lawParsesB (q : Option Addr) (c : Nat) (l : Txt) (a : ByteArray) (w : World) (hb : BAt w q c l) (hz : a.size ≤ maxLen) (hs : Std w) :
    Calls Tryd.prog 4 #[.slice q l.length c, .string a] w fun e w' => e = .returned (.bool true) ∧ Upd (fun _ => False) w w' := by
  have hl : a.toList.length ≤ maxLen := by have := ofL_size a.toList; rw [ofL_of] at this; omega
  have := lawParses q c l a.toList w hb hl hs
  rwa [ofL_of] at this
end Go.Proofs.YtkemjjhmabemiaaDoor
/- Walks: words with their lengths. -/
set_option linter.unusedVariables false
set_option linter.unusedSimpArgs false
namespace Go.Proofs.YtkemjjhmabemiaaDoor
open Go.RowKit
open Lin (Txt)

theorem wpList_builtinX {P : Program} {ops : Array Oper} {rest : List Oper} {o : Oper} {a : Act} {w w' : World} {Q : Exit → Act → World → Prop} {v' : Value} (hg : o.guard = none) (s x : Operand) (t tx : TypeId)
    (ho : o.op = .call { callee := .builtin .append, args := #[s, x], argTypes := #[t, tx] }) (u y : Value) (hs : a.eval s = u) (hx : a.eval x = y)
    (hr : (Builtin.append_ #[t, tx] o.type #[u, y]).run P w = .ok v' w') (hK : wpList P ops Q rest (a.put o.dst v') w') : wpList P ops Q (o :: rest) a w :=
  wpList_plain hg fun K hK' => by
    unfold Oper.wp execOp
    subst hs hx
    simp only [ho, resolve, invoke, builtin, Sem.run_bind, Sem.run_pure, Result.andThen_ok, List.map_toArray, List.map_cons, List.map_nil, hr]
    exact hK' _ _ hK
/-- A window that grew from p0 in w0. -/
def Wn (w0 : World) (p0 : Option Addr) (w : World) (base : Nat) (p : Option Addr) (c : Nat) (l : Txt) : Prop :=
  WinB w base p c l ∧ Upd (fun k => ∃ o, p0 = some ⟨k, o, none⟩) w0 w ∧ ∀ k o, p = some ⟨k, o, none⟩ → (∃ o, p0 = some ⟨k, o, none⟩) ∨ w0.heap.size ≤ k
theorem Wn.start {w : World} {base : Nat} {p : Option Addr} {c : Nat} {l : Txt} (h : WinB w base p c l) : Wn w p w base p c l := ⟨h, Upd.refl _ _, fun k o e => Or.inl ⟨o, e⟩⟩
theorem Wn.keep0 {w0 w w' : World} {p0 : Option Addr} {base : Nat} {p : Option Addr} {c : Nat} {l : Txt} (h : Wn w0 p0 w base p c l) (u : Upd (fun _ => False) w w') : Wn w0 p0 w' base p c l :=
  ⟨h.1.keep0 u, h.2.1.trans u (fun _ _ h => h.elim), h.2.2⟩
theorem Wn.trans {w0 w1 w : World} {p0 p1 : Option Addr} {base : Nat} {p : Option Addr} {c c1 : Nat} {l l1 : Txt} (h : Wn w0 p0 w1 base p1 c1 l1) (k : Wn w1 p1 w base p c l) : Wn w0 p0 w base p c l :=
  ⟨k.1, h.2.1.trans k.2.1 (fun i hi ⟨o, e⟩ => by
    rcases h.2.2 i o e with h | h
    · exact h
    · omega), fun i o e => by
    rcases k.2.2 i o e with ⟨o', e'⟩ | h2
    · exact h.2.2 i o' e'
    · exact Or.inr (Nat.le_trans h.2.1.size h2)⟩
theorem Wn.app {w0 w : World} {p0 : Option Addr} {base : Nat} {p : Option Addr} {c : Nat} {l : Txt} (h : Wn w0 p0 w base p c l) (tx : TypeId) (x : Value) (b : Txt) (hs : Src Tryd.prog 1 tx x b.length (b.map byc) w) (hl : l.length + b.length ≤ 1000000000000) (hb : base ≤ w.heap.size) :
    ∃ p' c' w', (Builtin.append_ #[27, tx] 27 #[.slice p l.length c, x]).run Tryd.prog w = .ok (.slice p' (l.length + b.length) c') w' ∧ Wn w0 p0 w' base p' c' (l ++ b) := by
  obtain ⟨p', c', w', hr, h1, h2, h3⟩ := win_app w base p c l h.1 tx x b hs hl hb
  exact ⟨p', c', w', hr, h.trans ⟨h1, h2, h3⟩⟩
theorem txt_ofL (n : Int) : txt n = ofL (Lib.itoa n) := rfl
set_option maxHeartbeats 4000000 in
set_option maxRecDepth 100000 in
theorem wnum_any (w : World) (base : Nat) (p : Option Addr) (c : Nat) (l : Txt) (m : UInt8) (mi : Int) (hmi : mi = (m.toNat : Int)) (n : Nat) (hn : n ≤ 1000000) (h : WinB w base p c l) (hl : l.length ≤ 1000000000) (hb : base ≤ w.heap.size) (hs : Std w) (h6 : 6 ≤ base) :
    Calls Tryd.prog 32 #[.slice p l.length c, .int .u8 mi, .int .i64 (n : Int)] w fun e w' => ∃ p' c', e = .returned (.slice p' (l ++ m :: (Lib.itoa n ++ [13, 10])).length c') ∧ Wn w p w' base p' c' (l ++ m :: (Lib.itoa n ++ [13, 10])) := by
  subst hmi
  have u0 : Upd (fun _ => False) w (w.alloc (.cells #[.int .u8 (m.toNat : Int)] 5)) := (Upd.refl _ _).alloc _
  have k0 := (Wn.start h).keep0 u0
  have s0 := src_bat (BAt.made w m)
  have hit : (Lib.itoa (n : Int)).length ≤ 20 := Whole.itoa_len (by omega) (by omega)
  have s0 : Src Tryd.prog 1 27 (.slice (some ⟨w.heap.size, 0, none⟩) 1 1) ([m] : Txt).length (([m] : Txt).map byc) (w.alloc (.cells #[.int .u8 (m.toNat : Int)] 5)) := s0
  obtain ⟨p1, c1, w1, hr1, k1⟩ := k0.app _ _ [m] s0 (by simp; omega) (Nat.le_trans hb u0.size)
  have hr1 : (Builtin.append_ #[27, 27] 27 #[.slice p l.length c, .slice (some ⟨w.heap.size, 0, none⟩) 1 1]).run Tryd.prog (w.alloc (.cells #[.int .u8 (m.toNat : Int)] 5)) = .ok (.slice p1 (l.length + 1) c1) w1 := hr1
  have std1 : Std w1 := hs.keepB k1.2.1 (fun i ⟨o, e⟩ => by have := (h.lt e).1; omega)
  have TX := Lib.hid (text_any (n : Int) (by omega) (by omega) w1 std1)
  rw [txt_ofL] at TX
  have hw1 := k1.2.1.size
  have K1 := Lib.hid k1
  clear h u0 k0 s0 k1 std1 hs
  obtain ⟨res, hres⟩ : ∃ res, res = l ++ m :: (Lib.itoa (n : Int) ++ [13, 10]) := ⟨_, rfl⟩
  rw [← hres]
  have HRS := Lib.hid hres
  clear hres
  go_enter Tryd.func32, Tryd.ntmps32
  go_wp2_with (at_builtin; refine wpList_builtinX rfl _ _ 27 27 rfl _ _ rfl rfl hr1 ?_)
  refine TX.out.mono ?_
  rintro e w2 ⟨rfl, u2⟩
  have k2 := K1.out.keep0 u2
  obtain ⟨p3, c3, w3, hr3, k3⟩ := k2.app _ _ (Lib.itoa (n : Int)) (src_str w2 _) (by simp; omega) (Nat.le_trans hb k2.2.1.size)
  obtain ⟨p4, c4, w4, hr4, k4⟩ := k3.app 9 (.string { data := #[13, 10] }) [13, 10] (src_str w3 [13, 10]) (by simp; omega) (Nat.le_trans hb k3.2.1.size)
  have e1 : (l ++ [m]).length = l.length + 1 := by simp
  have e2 : (l ++ [m] ++ Lib.itoa (n : Int)).length = l.length + 1 + (Lib.itoa (n : Int)).length := by simp; omega
  have e3 : l ++ [m] ++ Lib.itoa (n : Int) ++ [13, 10] = res := by rw [HRS.out]; simp
  have e4 := Lib.hid (show res.length = l.length + 1 + (Lib.itoa (n : Int)).length + 2 by rw [HRS.out]; simp; omega)
  rw [e1] at hr3
  rw [e2] at hr4
  rw [e3] at k4
  have hr4 : (Builtin.append_ #[27, 9] 27 #[.slice p3 (l.length + 1 + (Lib.itoa (n : Int)).length) c3, .string { data := #[13, 10] }]).run Tryd.prog w3 = .ok (.slice p4 (l.length + 1 + (Lib.itoa (n : Int)).length + 2) c4) w4 := hr4
  have K4 := Lib.hid k4
  generalize (Lib.itoa (n : Int)).length = q at *
  generalize ofL (Lib.itoa (n : Int)) = itx at *
  clear k2 k3 k4 e1 e2 e3 u2
  go_wp2_with (first | (at_builtin; refine wpList_builtinX rfl _ _ 27 9 rfl _ _ rfl rfl hr3 ?_) | (at_builtin; refine wpList_builtinX rfl _ _ 27 9 rfl _ _ rfl rfl hr4 ?_))
  go_ret
  refine ⟨p4, c4, ?_, K4.out⟩
  show Ending.returned (.slice p4 (l.length + 1 + q + 2) c4) = _
  rw [e4.out]
set_option maxHeartbeats 4000000 in
set_option maxRecDepth 100000 in
theorem wlong_any (w : World) (base : Nat) (p : Option Addr) (c : Nat) (l s : Txt) (h : WinB w base p c l) (hl : l.length ≤ 1000000000) (hz : s.length ≤ 1000000) (hb : base ≤ w.heap.size) (hs : Std w) (h6 : 6 ≤ base) :
    Calls Tryd.prog 33 #[.slice p l.length c, .int .u8 36, .string (ofL s)] w fun e w' => ∃ p' c', e = .returned (.slice p' (l ++ Lin.long s).length c') ∧ Wn w p w' base p' c' (l ++ Lin.long s) := by
  have s1 := ofL_size s
  have NU := Lib.hid (wnum_any w base p c l 36 36 rfl s.length hz h hl hb hs h6)
  have hit : (Lib.itoa (s.length : Int)).length ≤ 20 := Whole.itoa_len (by omega) (by omega)
  obtain ⟨mid, hmid⟩ : ∃ mid, mid = l ++ 36 :: (Lib.itoa (s.length : Int) ++ [13, 10]) := ⟨_, rfl⟩
  rw [← hmid] at NU
  have hm1 : mid.length ≤ 1000000100 := by rw [hmid]; simp; omega
  obtain ⟨res, hres⟩ : ∃ res, res = l ++ Lin.long s := ⟨_, rfl⟩
  have HRM := Lib.hid (show mid ++ s ++ [13, 10] = res by rw [hres, hmid]; unfold Lin.long; simp)
  rw [← hres]
  clear h hs hmid hres hit
  go_enter Tryd.func33, Tryd.ntmps33
  go_wp2_with fail
  refine NU.out.mono ?_
  rintro e w1 ⟨p1, c1, rfl, k1⟩
  obtain ⟨p3, c3, w3, hr3, k3⟩ := k1.app _ _ s (src_str w1 _) (by omega) (Nat.le_trans hb k1.2.1.size)
  obtain ⟨p4, c4, w4, hr4, k4⟩ := k3.app 9 (.string { data := #[13, 10] }) [13, 10] (src_str w3 [13, 10]) (by simp; omega) (Nat.le_trans hb k3.2.1.size)
  have e2 : (mid ++ s).length = mid.length + s.length := by simp
  rw [e2] at hr4
  rw [HRM.out] at k4
  have hr4 : (Builtin.append_ #[27, 9] 27 #[.slice p3 (mid.length + s.length) c3, .string { data := #[13, 10] }]).run Tryd.prog w3 = .ok (.slice p4 (mid.length + s.length + 2) c4) w4 := hr4
  have K4 := Lib.hid k4
  have E4 := Lib.hid (show res.length = mid.length + s.length + 2 by rw [← HRM.out]; simp; omega)
  clear k1 k3 k4 e2
  go_wp2_with (first | (at_builtin; refine wpList_builtinX rfl _ _ 27 9 rfl _ _ rfl rfl hr3 ?_) | (at_builtin; refine wpList_builtinX rfl _ _ 27 9 rfl _ _ rfl rfl hr4 ?_))
  go_ret
  refine ⟨p4, c4, ?_, K4.out⟩
  show Ending.returned (.slice p4 (mid.length + s.length + 2) c4) = _
  rw [E4.out]
set_option maxHeartbeats 4000000 in
set_option maxRecDepth 100000 in
theorem command_any (w : World) (v : Value) (l : List Txt) (hr : RowOf tcs 1 w v l) (h64 : l.length ≤ 64) (h500 : ∀ t ∈ l, t.length ≤ 4096) (hs : Std w) :
    Calls Tryd.prog 20 #[v] w fun e w' => ∃ p c, e = .returned (.slice p (Lin.command l).length c) ∧ WinB w' w.heap.size p c (Lin.command l) ∧ Upd (fun _ => False) w w' := by
  obtain ⟨pv, cv, rfl, hlv⟩ := hr.len
  have h6 := hs.six
  have HR := Lib.hid hr
  have HS := Lib.hid hs
  have NU := Lib.hid (wnum_any w w.heap.size none 0 [] 42 42 rfl l.length (by omega) (WinB.nil _ _) (by simp) (Nat.le_refl _) hs h6)
  have H500 := Lib.hid h500
  obtain ⟨hd, hhd⟩ : ∃ hd, hd = ([] ++ 42 :: (Lib.itoa (l.length : Int) ++ [13, 10]) : Txt) := ⟨_, rfl⟩
  rw [← hhd] at NU
  have hit : (Lib.itoa (l.length : Int)).length ≤ 20 := Whole.itoa_len (by omega) (by omega)
  have hh1 : hd.length ≤ 30 := by rw [hhd]; simp; omega
  obtain ⟨res, hres⟩ : ∃ res, res = Lin.command l := ⟨_, rfl⟩
  have HRM := Lib.hid (show res = hd ++ l.flatMap Lin.long by rw [hres, hhd]; unfold Lin.command; simp)
  rw [← hres]
  clear hr hs h500 hhd hres hit
  go_enter Tryd.func20, Tryd.ntmps20
  go_wp2_with fail
  refine NU.out.mono ?_
  rintro e w1 ⟨p1, c1, rfl, k1⟩
  have K1 := Lib.hid k1
  have hsz : Hid (Upd (fun _ => False) w w1) := Lib.hid (k1.2.1.weaken (fun k _ ⟨o, e⟩ => by cases e))
  clear k1
  go_wp2
  go_loopw [3, 11] (fun v3 v11 wr => ∃ (j : Nat) (p : Option Addr) (c : Nat) (L : Txt), v11 = .int .i64 (j : Int) ∧ j ≤ l.length ∧ v3 = .slice p L.length c ∧ L.length ≤ 30 + j * 5000 ∧ Hid (L = hd ++ (l.take j).flatMap Lin.long) ∧ Hid (WinB wr w.heap.size p c L) ∧ Hid (Upd (fun _ => False) w wr)) (fun _ v11 _ => l.length - (intOf v11).toNat)
  case atStart => exact ⟨0, p1, c1, hd, rfl, by omega, rfl, by omega, Lib.hid (by simp), Lib.hid K1.out.1, hsz⟩
  case round =>
    obtain ⟨j, p, c, L, rfl, hj, rfl, hLl, HL, WB, U⟩ := hrel
    clear K1 hsz
    by_cases hjl : j < l.length
    · have q5 : (j : Int) < (l.length : Int) := by omega
      obtain ⟨t, ht⟩ : ∃ t, l[j]? = some t := ⟨_, List.getElem?_eq_getElem hjl⟩
      obtain ⟨b7, o7, c7, e7, hb7, _, hc7⟩ : ∃ b off cap, Value.slice pv l.length cv = .slice (some ⟨b, off, none⟩) l.length cap ∧ b < w.heap.size ∧ l.length ≤ maxLen ∧ ∀ i a, l[i]? = some a → ∀ j, j < 1 → w.cell? ⟨b, off + (i * 1 + j), none⟩ = (tcs a)[j]? := by
        rcases HR.out with ⟨_, _, _, e⟩ | h
        · rw [e] at hjl; simp at hjl
        · exact h
      have hcell0 : w.cell? ⟨b7, o7 + j, none⟩ = some (.string (ofL t)) := by have := hc7 j t ht 0 (by omega); simpa [tcs] using this
      have hcell : wr.cell? ⟨b7, o7 + j, none⟩ = some (.string (ofL t)) := (U.out.cell (p := ⟨b7, o7 + j, none⟩) hb7 id).trans hcell0
      simp only [Value.slice.injEq] at e7
      obtain ⟨rfl, _, rfl⟩ := e7
      have ht5 := H500.out t (List.mem_of_getElem? ht)
      have LG := Lib.hid (wlong_any wr w.heap.size p c L t WB.out (by omega) (by omega) U.out.size (HS.out.keep U.out) h6)
      have HT : Hid ((l.take (j + 1)).flatMap Lin.long = (l.take j).flatMap Lin.long ++ Lin.long t) := Lib.hid (by
        obtain ⟨_, e⟩ := List.getElem?_eq_some_iff.1 ht
        rw [List.take_succ_eq_append_getElem hjl, e]; simp)
      have hlong : (Lin.long t).length ≤ 5000 := by
        have hi : (Lib.itoa (t.length : Int)).length ≤ 20 := Whole.itoa_len (by omega) (by omega)
        unfold Lin.long; simp; omega
      obtain ⟨L2, hL2⟩ : ∃ L2, L2 = L ++ Lin.long t := ⟨_, rfl⟩
      rw [← hL2] at LG
      have hL2l : L2.length ≤ 30 + (j + 1) * 5000 := by rw [hL2, List.length_append]; omega
      have HL2 := Lib.hid hL2
      clear hc7 hcell0 ht hL2 hlong
      go_wp2_with fail
      refine LG.out.mono ?_
      rintro e w2 ⟨p2, c2, rfl, k2⟩
      have U2 : Hid (Upd (fun _ => False) w w2) := Lib.hid (U.out.trans k2.2.1 (fun i hi ⟨o, e⟩ => by have := (WB.out.lt e).1; omega))
      have K2 := Lib.hid k2.1
      clear k2
      go_wp2
      go_roundw
      case rel => exact ⟨j + 1, p2, c2, L2, by go_num, by omega, rfl, hL2l, Lib.hid (by rw [HL2.out, HL.out, HT.out]; simp), K2, U2⟩
      case measure => simp [intOf]; omega
    · have q5 : ¬ (j : Int) < (l.length : Int) := by omega
      have HE : Hid (L = res) := Lib.hid (by rw [HL.out, HRM.out, List.take_of_length_le (by omega)])
      go_wp2
      go_ret
      rw [← HE.out]
      exact ⟨p, c, rfl, WB.out, U.out⟩
end Go.Proofs.YtkemjjhmabemiaaDoor
