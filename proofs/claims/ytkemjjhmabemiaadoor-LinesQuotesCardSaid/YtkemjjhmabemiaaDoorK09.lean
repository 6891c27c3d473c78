/- Walk: the document's words of a line. -/
import Derived.Test.YtkemjjhmabemiaaDoorK05
import Derived.Test.YtkemjjhmabemiaaDoorK03
set_option linter.unusedVariables false
set_option linter.unusedSimpArgs false
namespace Go.Proofs.YtkemjjhmabemiaaDoor
open Go.RowKit
open Lin (Txt)

theorem gap_cases (c : UInt8) : (Lin.gap c = true ∧ ((((c.toNat : Int) == 32) = true) ∨ (((c.toNat : Int) == 32) = false ∧ ((c.toNat : Int) == 9) = true))) ∨ (Lin.gap c = false ∧ ((c.toNat : Int) == 32) = false ∧ ((c.toNat : Int) == 9) = false) := by
  unfold Lin.gap
  by_cases h1 : c = 32
  · exact Or.inl ⟨by simp [h1], Or.inl (u8t 32 h1 (by omega))⟩
  · by_cases h2 : c = 9
    · exact Or.inl ⟨by simp [h2], Or.inr ⟨u8f 32 h1 (by omega), u8t 9 h2 (by omega)⟩⟩
    · exact Or.inr ⟨by simp [h1, h2], u8f 32 h1 (by omega), u8f 9 h2 (by omega)⟩
/-- What comes of reading words. -/
def WRes (base : Nat) (o : Option (List Txt)) (e : Ending) (w' : World) : Prop := match o with
  | some l => ∃ v, e = .returned (.tuple #[v, .int .i64 0]) ∧ TxtsO w' base v l
  | none => e = .returned (.tuple #[.slice none 0 0, .int .i64 61])
theorem wres_none {base : Nat} {o : Option (List Txt)} {w' : World} (h : o = none) : WRes base o (.returned (.tuple #[.slice none 0 0, .int .i64 61])) w' := by subst h; rfl
theorem wres_some {base : Nat} {o : Option (List Txt)} {w' : World} {v : Value} {l : List Txt} (h : o = some l) (ht : TxtsO w' base v l) : WRes base o (.returned (.tuple #[v, .int .i64 0])) w' := by subst h; exact ⟨v, rfl, ht⟩
def stOf (q : Nat) (m : UInt8) (x : Txt) : Lin.St := if q = 0 then .sp else if q = 1 then .pl x else if q = 2 then .qu m 0 x else .be
theorem qu_next {s : Txt} {k n : Nat} {c m d : UInt8} {x : Txt} {out : List Txt} (h : s[k]? = some c) (hm : ¬ c = m) (hs : Lin.step m c (s.drop (k + 1)) = (d, n)) (hn : 1 ≤ n) :
    Lin.scan (.qu m 0 x) out (s.drop k) = Lin.scan (.qu m 0 (x ++ [d])) out (s.drop (k + n)) := by
  rw [drop_cons h, Lin.scan, if_neg hm, hs, Lin.scan_skip, List.drop_drop]
  have : k + 1 + (n - 1) = k + n := by omega
  rw [this]
theorem last_take {l : List Txt} {k : Nat} (h : ∀ w ∈ l.take k, w.length ≤ 4096) {x : Txt} (hx : l[k]? = some x) (h2 : x.length ≤ 4096) : ∀ w ∈ l.take (k + 1), w.length ≤ 4096 := by
  obtain ⟨hk, e⟩ := List.getElem?_eq_some_iff.1 hx
  intro w hw
  rw [List.take_succ_eq_append_getElem hk, List.mem_append] at hw
  rcases hw with hw | hw
  · exact h w hw
  · simp at hw; rw [hw, e]; exact h2
set_option maxHeartbeats 8000000 in
set_option maxRecDepth 100000 in
theorem rwords_any (s : Txt) (w : World) (hz : s.length ≤ 1000000) :
    Calls Tryd.prog 13 #[.string (ofL s)] w fun e w' => WRes w.heap.size (Lin.words s) e w' ∧ Upd (fun _ => False) w w' := by
  have s1 := ofL_size s
  go_enter Tryd.func13, Tryd.ntmps13
  go_wp2
  go_loopw [2, 3, 4, 5, 6, 7, 8] (fun v2 v3 v4 v5 v6 v7 v8 wr => ∃ (k q : Nat) (out : List Txt) (x : Txt) (m : UInt8), v2 = .slice none 0 0 ∧ v3 = .int .i64 0 ∧ v8 = .int .i64 (k : Int) ∧ k ≤ s.length ∧ v5 = .int .i64 (q : Int) ∧ q ≤ 3 ∧ v6 = .string (ofL x) ∧ v7 = .int .u8 (m.toNat : Int) ∧ Hid (q = 2 → m = 34 ∨ m = 39) ∧ Hid (Lin.scan .sp [] s = Lin.scan (stOf q m x) out (s.drop k)) ∧ Hid (TxtsO wr w.heap.size v4 out ∧ out.length ≤ k ∧ x.length ≤ k) ∧ Hid (Upd (fun _ => False) w wr)) (fun _ _ _ _ _ _ v8 _ => s.length - (intOf v8).toNat)
  case atStart => exact ⟨0, 0, [], [], 0, rfl, rfl, rfl, by omega, rfl, by omega, rfl, rfl, Lib.hid (fun h => by omega), Lib.hid (by simp [stOf]), Lib.hid ⟨OwnN.made w _, by simp, by simp⟩, Lib.hid ((Upd.refl _ _).alloc _)⟩
  case round =>
    obtain ⟨k, q, out, x, m, rfl, rfl, rfl, hk, rfl, hq, rfl, rfl, M, T, OT, U⟩ := hrel
    by_cases hlt : k < s.length
    · obtain ⟨c, hc⟩ : ∃ c, s[k]? = some c := ⟨_, List.getElem?_eq_getElem hlt⟩
      have rx := run_at s k c hc
      have HX := Lib.hid hc
      have O1 := Lib.hid (fun w => one_any c w)
      unfold byc at O1
      have GC := gap_cases c
      have q1 : (k : Int) < (s.length : Int) := by omega
      clear hc
      obtain ⟨p4, c4, e4, hl4, hc4⟩ := OT.out.1.slice
      subst e4
      have hq4 : q = 0 ∨ q = 1 ∨ q = 2 ∨ q = 3 := by omega
      rcases hq4 with rfl | rfl | rfl | rfl
      · as_aux_lemma =>
          -- between words
          have T0 := Lib.hid (show Lin.scan .sp [] s = Lin.scan .sp out (c :: s.drop (k + 1)) from by have := T.out; rw [drop_cons HX.out] at this; exact this)
          clear T
          rcases GC with ⟨hg, hb⟩ | ⟨hg, hb1, hb2⟩
          · have hg := Lib.hid hg
            rcases hb with hb1 | ⟨hb1, hb2⟩
            all_goals
              go_wp2
              go_roundw
              case rel => exact ⟨k + 1, 0, out, x, m, rfl, rfl, by go_num, by omega, rfl, by omega, rfl, rfl, M, Lib.hid (T0.out.trans (Lin.scan_gap hg.out _ _)), Lib.hid ⟨OT.out.1, by have := OT.out.2.1; omega, by have := OT.out.2.2; omega⟩, U⟩
              case measure => simp [intOf]; omega
          · have hg := Lib.hid hg
            by_cases h34 : c = 34 ∨ c = 39
            · have TQ := Lib.hid (show Lin.scan .sp [] s = Lin.scan (.qu c 0 []) out (s.drop (k + 1)) from by rw [T0.out, Lin.scan, if_neg (by simp [hg.out]), if_pos h34])
              have H34 := Lib.hid h34
              clear T0 hg hb1 hb2
              rcases h34 with rfl | rfl
              · have rx : ∀ w, (Instr.index 9 (.string (ofL s)) (.int .i64 (k : Int))).run Tryd.prog w = .ok (.int .u8 34) w := rx
                have O1 : Hid (∀ w, Calls Tryd.prog 30 #[.int .u8 34] w fun e w' => e = .returned (.string (ofL [34])) ∧ Upd (fun _ => False) w w') := O1
                go_wp2_with (go_at_call 30; refine (O1.out _).mono ?_; rintro e w1 ⟨rfl, u1⟩)
                go_roundw
                case rel => exact ⟨k + 1, 2, out, [], 34, rfl, rfl, by go_num, by omega, rfl, by omega, rfl, rfl, Lib.hid (fun _ => Or.inl rfl), TQ, Lib.hid ⟨OT.out.1.keep0 u1, by have := OT.out.2.1; omega, by simp⟩, Lib.hid (U.out.trans u1 (fun _ _ h => h))⟩
                case measure => simp [intOf]; omega
              · have rx : ∀ w, (Instr.index 9 (.string (ofL s)) (.int .i64 (k : Int))).run Tryd.prog w = .ok (.int .u8 39) w := rx
                have O1 : Hid (∀ w, Calls Tryd.prog 30 #[.int .u8 39] w fun e w' => e = .returned (.string (ofL [39])) ∧ Upd (fun _ => False) w w') := O1
                go_wp2_with (go_at_call 30; refine (O1.out _).mono ?_; rintro e w1 ⟨rfl, u1⟩)
                go_roundw
                case rel => exact ⟨k + 1, 2, out, [], 39, rfl, rfl, by go_num, by omega, rfl, by omega, rfl, rfl, Lib.hid (fun _ => Or.inr rfl), TQ, Lib.hid ⟨OT.out.1.keep0 u1, by have := OT.out.2.1; omega, by simp⟩, Lib.hid (U.out.trans u1 (fun _ _ h => h))⟩
                case measure => simp [intOf]; omega
            · have TQ := Lib.hid (show Lin.scan .sp [] s = Lin.scan (.pl [c]) out (s.drop (k + 1)) from by rw [T0.out, Lin.scan, if_neg (by simp [hg.out]), if_neg h34])
              rw [not_or] at h34
              have hb3 : ((c.toNat : Int) == 34) = false := u8f 34 h34.1 (by omega)
              have hb4 : ((c.toNat : Int) == 39) = false := u8f 39 h34.2 (by omega)
              clear h34
              go_wp2_with (go_at_call 30; refine (O1.out _).mono ?_; rintro e w1 ⟨rfl, u1⟩)
              go_roundw
              case rel => exact ⟨k + 1, 1, out, [c], m, rfl, rfl, by go_num, by omega, rfl, by omega, rfl, rfl, Lib.hid (fun h => by omega), TQ, Lib.hid ⟨OT.out.1.keep0 u1, by have := OT.out.2.1; omega, by simp⟩, Lib.hid (U.out.trans u1 (fun _ _ h => h))⟩
              case measure => simp [intOf]; omega
      · as_aux_lemma =>
          -- in a plain one
          have T0 := Lib.hid (show Lin.scan .sp [] s = Lin.scan (.pl x) out (c :: s.drop (k + 1)) from by have := T.out; rw [drop_cons HX.out] at this; exact this)
          clear T
          rcases GC with ⟨hg, hb⟩ | ⟨hg, hb1, hb2⟩
          · have TQ := Lib.hid (show Lin.scan .sp [] s = Lin.scan .sp (out ++ [x]) (s.drop (k + 1)) from by rw [T0.out, Lin.scan, if_pos hg])
            have hlo := OT.out.2.1
            obtain ⟨p5, k5, w5, hr1, i5, u5, n5⟩ := txts_app wr w.heap.size _ out x OT.out.1 (by omega) U.out.size
            have I5 := Lib.hid i5
            have U5 := Lib.hid (upd_own OT.out.1 U.out u5)
            clear hg i5 u5 n5
            rcases hb with hb1 | ⟨hb1, hb2⟩
            all_goals
              go_wp2_with (at_builtin; refine wpList_builtinN rfl _ _ 23 rfl _ _ rfl rfl hr1 ?_)
              go_wp2
              go_roundw
              case rel => exact ⟨k + 1, 0, out ++ [x], x, m, rfl, rfl, by go_num, by omega, rfl, by omega, rfl, rfl, Lib.hid (fun h => by omega), TQ, Lib.hid ⟨I5.out, by simp; omega, by have := OT.out.2.2; omega⟩, U5⟩
              case measure => simp [intOf]; omega
          · have TQ := Lib.hid (show Lin.scan .sp [] s = Lin.scan (.pl (x ++ [c])) out (s.drop (k + 1)) from by rw [T0.out, Lin.scan, if_neg (by simp [hg])])
            clear hg
            have hbd : ¬ (9223372036854775807 < (ofL x).size + (ofL [c]).size) := by rw [ofL_size, ofL_size]; have := OT.out.2.2; simp; omega
            go_wp2_with (go_at_call 30; refine (O1.out _).mono ?_; rintro e w1 ⟨rfl, u1⟩)
            go_roundw
            case rel => exact ⟨k + 1, 1, out, x ++ [c], m, rfl, rfl, by go_num, by omega, rfl, by omega, congrArg Value.string (ofL_app _ _).symm, rfl, Lib.hid (fun h => by omega), TQ, Lib.hid ⟨OT.out.1.keep0 u1, by have := OT.out.2.1; omega, by have := OT.out.2.2; simp; omega⟩, Lib.hid (U.out.trans u1 (fun _ _ h => h))⟩
            case measure => simp [intOf]; omega
      · -- between marks
        have T0 := Lib.hid (show Lin.scan .sp [] s = Lin.scan (.qu m 0 x) out (s.drop k) from T.out)
        have hm39 := M.out rfl
        have HQ := Lib.hid hm39
        have hbd : ∀ d : UInt8, ¬ (9223372036854775807 < (ofL x).size + (ofL [d]).size) := fun d => by rw [ofL_size, ofL_size]; have := OT.out.2.2; simp; omega
        clear T GC
        by_cases hcm : c = m
        · as_aux_lemma =>
            have TQ := Lib.hid (show Lin.scan .sp [] s = Lin.scan .be (out ++ [x]) (s.drop (k + 1)) from by rw [T0.out, drop_cons HX.out, Lin.scan, if_pos hcm])
            have hlo := OT.out.2.1
            obtain ⟨p5, k5, w5, hr1, i5, u5, n5⟩ := txts_app wr w.heap.size _ out x OT.out.1 (by omega) U.out.size
            have I5 := Lib.hid i5
            have U5 := Lib.hid (upd_own OT.out.1 U.out u5)
            have G := Lib.hid (gap_cases c)
            clear i5 u5 n5 hbd O1
            have hbb : ((c.toNat : Int) == (m.toNat : Int)) = true := by rw [u8beq]; simp [hcm]
            clear hcm hm39
            rcases G.out with ⟨_, hb1 | ⟨hb1, hb2⟩⟩ | ⟨_, hb1, hb2⟩
            all_goals
              go_wp2_with (at_builtin; refine wpList_builtinN rfl _ _ 23 rfl _ _ rfl rfl hr1 ?_)
              go_wp2
              go_roundw
              case rel => exact ⟨k + 1, 3, out ++ [x], x, m, rfl, rfl, by go_num, by omega, rfl, by omega, rfl, rfl, Lib.hid (fun h => by omega), TQ, Lib.hid ⟨I5.out, by simp; omega, by have := OT.out.2.2; omega⟩, U5⟩
              case measure => simp [intOf]; omega
        · have HM := Lib.hid hcm
          have hbb : ((c.toNat : Int) == (m.toNat : Int)) = false := by rw [u8beq]; simp [hcm]
          have hgb : (((c.toNat : Int) == 32) = true) ∨ (((c.toNat : Int) == 32) = false ∧ ((c.toNat : Int) == 9) = true) ∨ (((c.toNat : Int) == 32) = false ∧ ((c.toNat : Int) == 9) = false) := by
            rcases gap_cases c with ⟨_, h | h⟩ | ⟨_, h⟩
            · exact Or.inl h
            · exact Or.inr (Or.inl h)
            · exact Or.inr (Or.inr h)
          by_cases h92 : c = 92
          · subst h92
            have rx : ∀ w, (Instr.index 9 (.string (ofL s)) (.int .i64 (k : Int))).run Tryd.prog w = .ok (.int .u8 92) w := rx
            have O1 : Hid (∀ w, Calls Tryd.prog 30 #[.int .u8 92] w fun e w' => e = .returned (.string (ofL [92])) ∧ Upd (fun _ => False) w w') := O1
            have hbb : ((92 : Int) == (m.toNat : Int)) = false := hbb
            clear hgb
            by_cases hlast : s.length ≤ k + 1
            · have q3 : (s.length : Int) ≤ (k : Int) + 1 := by omega
              have hb1 := hbd 92
              have ST := Lib.hid (show Lin.step m 92 (s.drop (k + 1)) = (92, 1) from by
                unfold Lin.step
                rw [if_neg]
                intro h
                have := h.2.1
                rw [List.length_drop] at this; omega)
              clear hbd hcm hm39
              go_wp2_with (go_at_call 30; refine (O1.out _).mono ?_; rintro e w1 ⟨rfl, u1⟩)
              go_roundw
              case rel => exact ⟨k + 1, 2, out, x ++ [92], m, rfl, rfl, by go_num, by omega, rfl, by omega, congrArg Value.string (ofL_app _ _).symm, rfl, Lib.hid (fun _ => HQ.out), Lib.hid (T0.out.trans (qu_next HX.out HM.out ST.out (by omega))), Lib.hid ⟨OT.out.1.keep0 u1, by have := OT.out.2.1; omega, by have := OT.out.2.2; simp; omega⟩, Lib.hid (U.out.trans u1 (fun _ _ h => h))⟩
              case measure => simp [intOf]; omega
            · have q3 : ¬ (s.length : Int) ≤ (k : Int) + 1 := by omega
              obtain ⟨d, hd⟩ : ∃ d, s[k + 1]? = some d := ⟨_, List.getElem?_eq_getElem (by omega)⟩
              have rx2 := run_atI s ((k : Int) + 1) (k + 1) d (by omega) hd
              have hr := drop_cons hd
              have OD0 : Hid (∀ w, Calls Tryd.prog 30 #[.int .u8 (d.toNat : Int)] w fun e w' => e = .returned (.string (ofL [d])) ∧ Upd (fun _ => False) w w') := Lib.hid (fun w => one_any d w)
              clear hd
              rcases hm39 with e34 | e39
              · as_aux_lemma =>
                  -- between double marks
                  have em : (m.toNat : Int) = 34 := by rw [e34]; rfl
                  have EM := Lib.hid em
                  have ES := Lib.hid (show Lin.step m 92 (s.drop (k + 1)) = ((Lin.esc d (s.drop (k + 2))).1, (Lin.esc d (s.drop (k + 2))).2 + 1) from by
                    rw [hr]; unfold Lin.step
                    rw [if_pos ⟨rfl, by simp, Or.inl e34⟩, if_pos e34]; rfl)
                  rw [em] at hbb ⊢
                  have h92m : ((92 : Int) == 34) = false := by decide
                  clear em e34 hr hcm
                  by_cases e110 : d = 110
                  · have t1 : ((d.toNat : Int) == 110) = true := u8t 110 e110 (by omega)
                    have ST := Lib.hid (show Lin.step m 92 (s.drop (k + 1)) = (10, 2) from by rw [ES.out, e110]; rfl)
                    have OD : Hid (∀ w, Calls Tryd.prog 30 #[.int .u8 10] w fun e w' => e = .returned (.string (ofL [10])) ∧ Upd (fun _ => False) w w') := Lib.hid (fun w => one_any 10 w)
                    have hb1 := hbd 10
                    clear hbd e110 ES
                    go_wp2_with (go_at_call 30; refine (OD.out _).mono ?_; rintro e w1 ⟨rfl, u1⟩)
                    go_roundw
                    case rel => exact ⟨k + 2, 2, out, x ++ [10], m, rfl, rfl, by go_num, by omega, rfl, by omega, congrArg Value.string (ofL_app _ _).symm, by rw [EM.out], Lib.hid (fun _ => HQ.out), Lib.hid (T0.out.trans (qu_next HX.out HM.out ST.out (by omega))), Lib.hid ⟨OT.out.1.keep0 u1, by have := OT.out.2.1; omega, by have := OT.out.2.2; simp; omega⟩, Lib.hid (U.out.trans u1 (fun _ _ h => h))⟩
                    case measure => simp [intOf]; omega
                  as_aux_lemma =>
                    have t1 : ((d.toNat : Int) == 110) = false := u8f 110 e110 (by omega)
                    by_cases e114 : d = 114
                    · have t2 : ((d.toNat : Int) == 114) = true := u8t 114 e114 (by omega)
                      have ST := Lib.hid (show Lin.step m 92 (s.drop (k + 1)) = (13, 2) from by rw [ES.out, e114]; rfl)
                      have OD : Hid (∀ w, Calls Tryd.prog 30 #[.int .u8 13] w fun e w' => e = .returned (.string (ofL [13])) ∧ Upd (fun _ => False) w w') := Lib.hid (fun w => one_any 13 w)
                      have hb1 := hbd 13
                      clear hbd e110 e114 ES
                      go_wp2_with (go_at_call 30; refine (OD.out _).mono ?_; rintro e w1 ⟨rfl, u1⟩)
                      go_roundw
                      case rel => exact ⟨k + 2, 2, out, x ++ [13], m, rfl, rfl, by go_num, by omega, rfl, by omega, congrArg Value.string (ofL_app _ _).symm, by rw [EM.out], Lib.hid (fun _ => HQ.out), Lib.hid (T0.out.trans (qu_next HX.out HM.out ST.out (by omega))), Lib.hid ⟨OT.out.1.keep0 u1, by have := OT.out.2.1; omega, by have := OT.out.2.2; simp; omega⟩, Lib.hid (U.out.trans u1 (fun _ _ h => h))⟩
                      case measure => simp [intOf]; omega
                    have t2 : ((d.toNat : Int) == 114) = false := u8f 114 e114 (by omega)
                    by_cases e116 : d = 116
                    · have t3 : ((d.toNat : Int) == 116) = true := u8t 116 e116 (by omega)
                      have ST := Lib.hid (show Lin.step m 92 (s.drop (k + 1)) = (9, 2) from by rw [ES.out, e116]; rfl)
                      have OD : Hid (∀ w, Calls Tryd.prog 30 #[.int .u8 9] w fun e w' => e = .returned (.string (ofL [9])) ∧ Upd (fun _ => False) w w') := Lib.hid (fun w => one_any 9 w)
                      have hb1 := hbd 9
                      clear hbd e110 e114 e116 ES
                      go_wp2_with (go_at_call 30; refine (OD.out _).mono ?_; rintro e w1 ⟨rfl, u1⟩)
                      go_roundw
                      case rel => exact ⟨k + 2, 2, out, x ++ [9], m, rfl, rfl, by go_num, by omega, rfl, by omega, congrArg Value.string (ofL_app _ _).symm, by rw [EM.out], Lib.hid (fun _ => HQ.out), Lib.hid (T0.out.trans (qu_next HX.out HM.out ST.out (by omega))), Lib.hid ⟨OT.out.1.keep0 u1, by have := OT.out.2.1; omega, by have := OT.out.2.2; simp; omega⟩, Lib.hid (U.out.trans u1 (fun _ _ h => h))⟩
                      case measure => simp [intOf]; omega
                    as_aux_lemma =>
                      have t3 : ((d.toNat : Int) == 116) = false := u8f 116 e116 (by omega)
                      have ESX := Lib.hid (show Lin.esc d (s.drop (k + 2)) = if d = 120 ∧ 2 ≤ (s.drop (k + 2)).length ∧ Lin.hexv ((s.drop (k + 2)).getD 0 0) < 16 ∧ Lin.hexv ((s.drop (k + 2)).getD 1 0) < 16 then (UInt8.ofNat (16 * Lin.hexv ((s.drop (k + 2)).getD 0 0) + Lin.hexv ((s.drop (k + 2)).getD 1 0)), 3) else (d, 1) from by
                        unfold Lin.esc
                        rw [if_neg e110, if_neg e114, if_neg e116])
                      by_cases e120 : d = 120
                      · have t4 : ((d.toNat : Int) == 120) = true := u8t 120 e120 (by omega)
                        by_cases hlen : k + 4 ≤ s.length
                        · have q4 : (k : Int) + 1 + 2 < (s.length : Int) := by omega
                          obtain ⟨a, ha⟩ : ∃ a, s[k + 2]? = some a := ⟨_, List.getElem?_eq_getElem (by omega)⟩
                          obtain ⟨b, hb⟩ : ∃ b, s[k + 3]? = some b := ⟨_, List.getElem?_eq_getElem (by omega)⟩
                          have rx3 := run_atI s ((k : Int) + 1 + 1) (k + 2) a (by omega) ha
                          have rx4 := run_atI s ((k : Int) + 1 + 2) (k + 3) b (by omega) hb
                          have hr2 := drop_cons ha
                          rw [drop_cons hb] at hr2
                          have g0 : (s.drop (k + 2)).getD 0 0 = a := by rw [hr2]; rfl
                          have g1 : (s.drop (k + 2)).getD 1 0 = b := by rw [hr2]; rfl
                          rw [g0, g1] at ESX
                          clear g0 g1 ha hb
                          by_cases hav : Lin.hexv a < 16
                          · have qa : (Lin.hexv a : Int) < 16 := by omega
                            by_cases hbv : Lin.hexv b < 16
                            · have qb : (Lin.hexv b : Int) < 16 := by omega
                              have DV : Hid (((UInt8.ofNat (16 * Lin.hexv a + Lin.hexv b)).toNat : Int) = 16 * (Lin.hexv a : Int) + (Lin.hexv b : Int)) := by
                                show (_ : Int) = _
                                rw [UInt8.toNat_ofNat']; omega
                              have ST := Lib.hid (show Lin.step m 92 (s.drop (k + 1)) = (UInt8.ofNat (16 * Lin.hexv a + Lin.hexv b), 4) from by rw [ES.out, ESX.out, if_pos ⟨e120, by rw [hr2]; simp, hav, hbv⟩])
                              have OD := fun w => one_any (UInt8.ofNat (16 * Lin.hexv a + Lin.hexv b)) w
                              unfold byc at OD
                              rw [DV.out] at OD
                              have OD := Lib.hid OD
                              have hb1 := hbd (UInt8.ofNat (16 * Lin.hexv a + Lin.hexv b))
                              generalize UInt8.ofNat (16 * Lin.hexv a + Lin.hexv b) = dd at *
                              have e0a : (0 : Int) ≤ (Lin.hexv a : Int) := by omega
                              have e0b : (0 : Int) ≤ (Lin.hexv b : Int) := by omega
                              clear hbd e110 e114 e116 e120 ES ESX hr2 hav hbv DV
                              have ew1 : IntKind.u8.wrap (16 * (Lin.hexv a : Int)) = 16 * (Lin.hexv a : Int) := by unfold IntKind.wrap; simp [IntKind.bits, IntKind.signed]; omega
                              have ew2 : IntKind.u8.wrap (16 * (Lin.hexv a : Int) + (Lin.hexv b : Int)) = 16 * (Lin.hexv a : Int) + (Lin.hexv b : Int) := by unfold IntKind.wrap; simp [IntKind.bits, IntKind.signed]; omega
                              go_wp2_with (go_at_call 31; refine (hex_any _ _).mono ?_; rintro e w1 ⟨rfl, rfl⟩)
                              go_quiet ((go_at_call 31; exact Calls.quiet_of_same (hex_any _ _)))
                              go_wp2_with (go_at_call 30; refine (OD.out _).mono ?_; rintro e w1 ⟨rfl, u0⟩)
                              have u1 := ((Upd.refl (fun _ => False) _).drewN nq).trans u0 (fun _ _ h => h)
                              clear u0
                              go_roundw
                              case rel => exact ⟨k + 4, 2, out, x ++ [dd], m, rfl, rfl, by go_num, by omega, rfl, by omega, congrArg Value.string (ofL_app _ _).symm, by rw [EM.out], Lib.hid (fun _ => HQ.out), Lib.hid (T0.out.trans (qu_next HX.out HM.out ST.out (by omega))), Lib.hid ⟨OT.out.1.keep0 u1, by have := OT.out.2.1; omega, by have := OT.out.2.2; simp; omega⟩, Lib.hid (U.out.trans u1 (fun _ _ h => h))⟩
                              case measure => simp [intOf]; omega
                            · have qb : ¬ (Lin.hexv b : Int) < 16 := by omega
                              have ST := Lib.hid (show Lin.step m 92 (s.drop (k + 1)) = (d, 2) from by rw [ES.out, ESX.out, if_neg (fun h => hbv h.2.2.2)])
                              have hb1 := hbd d
                              clear hbd e110 e114 e116 e120 ES ESX hr2 hav hbv
                              go_wp2_with (go_at_call 31; refine (hex_any _ _).mono ?_; rintro e w1 ⟨rfl, rfl⟩)
                              go_wp2_with (go_at_call 30; refine (OD0.out _).mono ?_; rintro e w1 ⟨rfl, u1⟩)
                              go_roundw
                              case rel => exact ⟨k + 2, 2, out, x ++ [d], m, rfl, rfl, by go_num, by omega, rfl, by omega, congrArg Value.string (ofL_app _ _).symm, by rw [EM.out], Lib.hid (fun _ => HQ.out), Lib.hid (T0.out.trans (qu_next HX.out HM.out ST.out (by omega))), Lib.hid ⟨OT.out.1.keep0 u1, by have := OT.out.2.1; omega, by have := OT.out.2.2; simp; omega⟩, Lib.hid (U.out.trans u1 (fun _ _ h => h))⟩
                              case measure => simp [intOf]; omega
                          · have qa : ¬ (Lin.hexv a : Int) < 16 := by omega
                            have ST := Lib.hid (show Lin.step m 92 (s.drop (k + 1)) = (d, 2) from by rw [ES.out, ESX.out, if_neg (fun h => hav h.2.2.1)])
                            have hb1 := hbd d
                            clear hbd e110 e114 e116 e120 ES ESX hr2 hav
                            go_wp2_with (first | (go_at_call 31; refine (hex_any _ _).mono ?_; rintro e w1 ⟨rfl, rfl⟩) | (go_at_call 30; refine (OD0.out _).mono ?_; rintro e w1 ⟨rfl, u1⟩))
                            go_roundw
                            case rel => exact ⟨k + 2, 2, out, x ++ [d], m, rfl, rfl, by go_num, by omega, rfl, by omega, congrArg Value.string (ofL_app _ _).symm, by rw [EM.out], Lib.hid (fun _ => HQ.out), Lib.hid (T0.out.trans (qu_next HX.out HM.out ST.out (by omega))), Lib.hid ⟨OT.out.1.keep0 u1, by have := OT.out.2.1; omega, by have := OT.out.2.2; simp; omega⟩, Lib.hid (U.out.trans u1 (fun _ _ h => h))⟩
                            case measure => simp [intOf]; omega
                        · have q4 : ¬ (k : Int) + 1 + 2 < (s.length : Int) := by omega
                          have ST := Lib.hid (show Lin.step m 92 (s.drop (k + 1)) = (d, 2) from by rw [ES.out, ESX.out, if_neg (fun h => by have := h.2.1; rw [List.length_drop] at this; omega)])
                          have hb1 := hbd d
                          clear hbd e110 e114 e116 e120 ES ESX
                          go_wp2_with (go_at_call 30; refine (OD0.out _).mono ?_; rintro e w1 ⟨rfl, u1⟩)
                          go_roundw
                          case rel => exact ⟨k + 2, 2, out, x ++ [d], m, rfl, rfl, by go_num, by omega, rfl, by omega, congrArg Value.string (ofL_app _ _).symm, by rw [EM.out], Lib.hid (fun _ => HQ.out), Lib.hid (T0.out.trans (qu_next HX.out HM.out ST.out (by omega))), Lib.hid ⟨OT.out.1.keep0 u1, by have := OT.out.2.1; omega, by have := OT.out.2.2; simp; omega⟩, Lib.hid (U.out.trans u1 (fun _ _ h => h))⟩
                          case measure => simp [intOf]; omega
                      · have t4 : ((d.toNat : Int) == 120) = false := u8f 120 e120 (by omega)
                        have ST := Lib.hid (show Lin.step m 92 (s.drop (k + 1)) = (d, 2) from by rw [ES.out, ESX.out, if_neg (fun h => e120 h.1)])
                        have hb1 := hbd d
                        clear hbd e110 e114 e116 e120 ES ESX
                        go_wp2_with (go_at_call 30; refine (OD0.out _).mono ?_; rintro e w1 ⟨rfl, u1⟩)
                        go_roundw
                        case rel => exact ⟨k + 2, 2, out, x ++ [d], m, rfl, rfl, by go_num, by omega, rfl, by omega, congrArg Value.string (ofL_app _ _).symm, by rw [EM.out], Lib.hid (fun _ => HQ.out), Lib.hid (T0.out.trans (qu_next HX.out HM.out ST.out (by omega))), Lib.hid ⟨OT.out.1.keep0 u1, by have := OT.out.2.1; omega, by have := OT.out.2.2; simp; omega⟩, Lib.hid (U.out.trans u1 (fun _ _ h => h))⟩
                        case measure => simp [intOf]; omega
              · as_aux_lemma =>
                  have em : (m.toNat : Int) = 39 := by rw [e39]; rfl
                  have EM := Lib.hid em
                  rw [em] at hbb ⊢
                  by_cases h39 : d = 39
                  · have hb39 : ((d.toNat : Int) != 39) = false := u8m 39 h39 (by omega)
                    have ST := Lib.hid (show Lin.step m 92 (s.drop (k + 1)) = (d, 2) from by
                      rw [hr]; unfold Lin.step
                      rw [if_pos ⟨rfl, by simp, Or.inr (by rw [e39, h39]; rfl)⟩, if_neg (by rw [e39]; decide)]; rfl)
                    have hb1 := hbd d
                    clear hbd hcm em e39 hr h39
                    go_wp2_with (go_at_call 30; refine (OD0.out _).mono ?_; rintro e w1 ⟨rfl, u1⟩)
                    go_roundw
                    case rel => exact ⟨k + 2, 2, out, x ++ [d], m, rfl, rfl, by go_num, by omega, rfl, by omega, congrArg Value.string (ofL_app _ _).symm, by rw [EM.out], Lib.hid (fun _ => HQ.out), Lib.hid (T0.out.trans (qu_next HX.out HM.out ST.out (by omega))), Lib.hid ⟨OT.out.1.keep0 u1, by have := OT.out.2.1; omega, by have := OT.out.2.2; simp; omega⟩, Lib.hid (U.out.trans u1 (fun _ _ h => h))⟩
                    case measure => simp [intOf]; omega
                  · have hb39 : ((d.toNat : Int) != 39) = true := u8n 39 h39 (by omega)
                    have ST := Lib.hid (show Lin.step m 92 (s.drop (k + 1)) = (92, 1) from by
                      rw [hr]; unfold Lin.step
                      rw [if_neg]
                      rintro ⟨_, _, h | h⟩
                      · rw [e39] at h; cases h
                      · rw [e39] at h; exact h39 h)
                    have hb1 := hbd 92
                    clear hbd hcm em e39 hr h39
                    go_wp2_with (go_at_call 30; refine (O1.out _).mono ?_; rintro e w1 ⟨rfl, u1⟩)
                    go_roundw
                    case rel => exact ⟨k + 1, 2, out, x ++ [92], m, rfl, rfl, by go_num, by omega, rfl, by omega, congrArg Value.string (ofL_app _ _).symm, by rw [EM.out], Lib.hid (fun _ => HQ.out), Lib.hid (T0.out.trans (qu_next HX.out HM.out ST.out (by omega))), Lib.hid ⟨OT.out.1.keep0 u1, by have := OT.out.2.1; omega, by have := OT.out.2.2; simp; omega⟩, Lib.hid (U.out.trans u1 (fun _ _ h => h))⟩
                    case measure => simp [intOf]; omega
          · as_aux_lemma =>
              have hb92 : ((c.toNat : Int) != 92) = true := u8n 92 h92 (by omega)
              have ST := Lib.hid (show Lin.step m c (s.drop (k + 1)) = (c, 1) from by unfold Lin.step; rw [if_neg (fun h => h92 h.1)])
              have hb1 := hbd c
              clear h92 hcm hbd hm39
              by_cases hlast : s.length ≤ k + 1
              all_goals
                first | have q3 : (s.length : Int) ≤ (k : Int) + 1 := by omega | have q3 : ¬ (s.length : Int) ≤ (k : Int) + 1 := by omega
                rcases hgb with hgb | ⟨hgb, hgc⟩ | ⟨hgb, hgc⟩
              all_goals
                go_wp2_with (go_at_call 30; refine (O1.out _).mono ?_; rintro e w1 ⟨rfl, u1⟩)
                go_roundw
                case rel => exact ⟨k + 1, 2, out, x ++ [c], m, rfl, rfl, by go_num, by omega, rfl, by omega, congrArg Value.string (ofL_app _ _).symm, rfl, Lib.hid (fun _ => HQ.out), Lib.hid (T0.out.trans (qu_next HX.out HM.out ST.out (by omega))), Lib.hid ⟨OT.out.1.keep0 u1, by have := OT.out.2.1; omega, by have := OT.out.2.2; simp; omega⟩, Lib.hid (U.out.trans u1 (fun _ _ h => h))⟩
                case measure => simp [intOf]; omega
      · as_aux_lemma =>
          -- behind them
          have T0 := Lib.hid (show Lin.scan .sp [] s = Lin.scan .be out (c :: s.drop (k + 1)) from by have := T.out; rw [drop_cons HX.out] at this; exact this)
          clear T
          rcases GC with ⟨hg, hb⟩ | ⟨hg, hb1, hb2⟩
          · have TQ := Lib.hid (show Lin.scan .sp [] s = Lin.scan .sp out (s.drop (k + 1)) from by rw [T0.out, Lin.scan, if_pos hg])
            clear hg
            rcases hb with hb1 | ⟨hb1, hb2⟩
            all_goals
              go_wp2
              go_roundw
              case rel => exact ⟨k + 1, 0, out, x, m, rfl, rfl, by go_num, by omega, rfl, by omega, rfl, rfl, Lib.hid (fun h => by omega), TQ, Lib.hid ⟨OT.out.1, by have := OT.out.2.1; omega, by have := OT.out.2.2; omega⟩, U⟩
              case measure => simp [intOf]; omega
          · have TQ := Lib.hid (show Lin.words s = none from by unfold Lin.words; rw [T0.out, Lin.scan, if_neg (by simp [hg])]; rfl)
            clear hg
            go_wp2
            go_ret2
            exact ⟨wres_none TQ.out, U.out⟩
    · have hk2 : s.drop k = [] := List.drop_eq_nil_of_le (by omega)
      have T1 := T.out
      rw [hk2] at T1
      have T1 := Lib.hid T1
      clear T hk2
      have hq4 : q = 0 ∨ q = 1 ∨ q = 2 ∨ q = 3 := by omega
      rcases hq4 with rfl | rfl | rfl | rfl
      · as_aux_lemma =>
          have TX := Lib.hid (show Lin.scan .sp [] s = some out from T1.out.trans (by simp [stOf, Lin.scan]))
          clear T1
          have hlo := OT.out.2.1
          obtain ⟨p9, c9, ev9, hl9, hc9⟩ := OT.out.1.slice
          subst ev9
          have TF := Lib.hid (show Lin.words s = Lin.lim out from by
            unfold Lin.words
            rw [TX.out]; rfl)
          by_cases h64 : out.length ≤ 64
          · have b64 : ¬ ((64 : Int) < (out.length : Int)) := by omega
            have RW := Lib.hid (OT.out.1.row tcs_len)
            go_wp2
            go_loopw [176] (fun y wx => ∃ j : Nat, y = .int .i64 (j : Int) ∧ j ≤ out.length ∧ Hid (∀ t ∈ out.take j, t.length ≤ 4096) ∧ wx = wr) (fun y _ => out.length - (intOf y).toNat)
            case atStart => exact ⟨0, rfl, by omega, Lib.hid (by simp), rfl⟩
            case round =>
              obtain ⟨j, rfl, hj, LT, rfl⟩ := hrel
              by_cases hjl : j < out.length
              · obtain ⟨t, ht⟩ : ∃ t, out[j]? = some t := ⟨_, List.getElem?_eq_getElem hjl⟩
                obtain ⟨b7, o7, c7, e7, hb7, _, hc7⟩ : ∃ b off cap, Value.slice p9 out.length c9 = .slice (some ⟨b, off, none⟩) out.length cap ∧ b < wr.heap.size ∧ out.length ≤ maxLen ∧ ∀ i a, out[i]? = some a → ∀ j, j < 1 → wr.cell? ⟨b, off + (i * 1 + j), none⟩ = (tcs a)[j]? := by
                  rcases RW.out with ⟨_, _, _, e⟩ | h
                  · rw [e] at hjl; simp at hjl
                  · exact h
                have hcell : wr.cell? ⟨b7, o7 + j, none⟩ = some (.string (ofL t)) := by have := hc7 j t ht 0 (by omega); simpa [tcs] using this
                have hts := ofL_size t
                simp only [Value.slice.injEq] at e7
                obtain ⟨rfl, _, rfl⟩ := e7
                clear hc7
                have HT := Lib.hid ht
                clear ht
                by_cases ht4 : t.length ≤ 4096
                · have bt : ¬ ((4096 : Int) < (t.length : Int)) := by omega
                  go_wp2
                  go_roundw
                  case rel => exact ⟨j + 1, by go_num, by omega, Lib.hid (last_take LT.out HT.out ht4), by first | rfl | trivial⟩
                  case measure => simp [intOf]; omega
                · have bt : ((4096 : Int) < (t.length : Int)) := by omega
                  go_wp2
                  go_ret2
                  refine ⟨wres_none ?_, U.out⟩
                  rw [TF.out]
                  unfold Lin.lim
                  rw [if_neg]
                  exact fun h => ht4 (h.2 t (List.mem_of_getElem? HT.out))
              · have hjl2 : j = out.length := by omega
                subst hjl2
                go_wp2
                go_ret2
                refine ⟨wres_some ?_ OT.out.1, U.out⟩
                rw [TF.out]
                have := LT.out
                rw [List.take_length] at this
                exact Lin.lim_ok h64 this
          · have b64 : ((64 : Int) < (out.length : Int)) := by omega
            go_wp2
            go_ret2
            refine ⟨wres_none ?_, U.out⟩
            rw [TF.out]
            unfold Lin.lim
            rw [if_neg]
            exact fun h => h64 h.1
      · as_aux_lemma =>
          have TX := Lib.hid (show Lin.scan .sp [] s = some (out ++ [x]) from T1.out.trans (by simp [stOf, Lin.scan]))
          have hlo0 := OT.out.2.1
          obtain ⟨p4, c4, e4, hl4, hc4⟩ := OT.out.1.slice
          obtain ⟨p5, k5, w5, hr1, i5, u5, n5⟩ := txts_app wr w.heap.size _ out x OT.out.1 (by omega) U.out.size
          have U5 := Lib.hid (upd_own OT.out.1 U.out u5)
          have OT5 := Lib.hid (show TxtsO w5 w.heap.size (.slice p5 (out.length + 1) k5) (out ++ [x]) ∧ (out ++ [x]).length ≤ k + 1 ∧ x.length ≤ k from ⟨i5, by simp; omega, OT.out.2.2⟩)
          clear T1 i5 u5 n5 U OT
          subst e4
          have e5 : out.length + 1 = (out ++ [x]).length := by simp
          rw [e5] at OT5 hr1
          clear e5
          obtain ⟨out2, ho2⟩ : ∃ o, out ++ [x] = o := ⟨_, rfl⟩
          rw [ho2] at OT5 hr1 TX
          obtain ⟨n0, hn0⟩ : ∃ n0, out.length = n0 := ⟨_, rfl⟩
          rw [hn0] at hr1 ⊢
          clear ho2 hn0 hlo0
          have hl9 : True := trivial
          have OT := OT5
          have U := U5
          clear OT5 U5
          have hk : k + 1 ≤ s.length + 1 := by omega
          have hlo := OT.out.2.1
          generalize p5 = p9 at *
          generalize k5 = c9 at *
          have TF := Lib.hid (show Lin.words s = Lin.lim out2 from by
            unfold Lin.words
            rw [TX.out]; rfl)
          by_cases h64 : out2.length ≤ 64
          · have b64 : ¬ ((64 : Int) < (out2.length : Int)) := by omega
            have RW := Lib.hid (OT.out.1.row tcs_len)
            go_wp2_with (at_builtin; refine wpList_builtinN rfl _ _ 23 rfl _ _ rfl rfl hr1 ?_)
            go_loopw [176] (fun y wx => ∃ j : Nat, y = .int .i64 (j : Int) ∧ j ≤ out2.length ∧ Hid (∀ t ∈ out2.take j, t.length ≤ 4096) ∧ wx = w5) (fun y _ => out2.length - (intOf y).toNat)
            case atStart => exact ⟨0, rfl, by omega, Lib.hid (by simp), rfl⟩
            case round =>
              obtain ⟨j, rfl, hj, LT, rfl⟩ := hrel
              by_cases hjl : j < out2.length
              · obtain ⟨t, ht⟩ : ∃ t, out2[j]? = some t := ⟨_, List.getElem?_eq_getElem hjl⟩
                obtain ⟨b7, o7, c7, e7, hb7, _, hc7⟩ : ∃ b off cap, Value.slice p9 out2.length c9 = .slice (some ⟨b, off, none⟩) out2.length cap ∧ b < wr.heap.size ∧ out2.length ≤ maxLen ∧ ∀ i a, out2[i]? = some a → ∀ j, j < 1 → wr.cell? ⟨b, off + (i * 1 + j), none⟩ = (tcs a)[j]? := by
                  rcases RW.out with ⟨_, _, _, e⟩ | h
                  · rw [e] at hjl; simp at hjl
                  · exact h
                have hcell : wr.cell? ⟨b7, o7 + j, none⟩ = some (.string (ofL t)) := by have := hc7 j t ht 0 (by omega); simpa [tcs] using this
                have hts := ofL_size t
                simp only [Value.slice.injEq] at e7
                obtain ⟨rfl, _, rfl⟩ := e7
                clear hc7
                have HT := Lib.hid ht
                clear ht
                by_cases ht4 : t.length ≤ 4096
                · have bt : ¬ ((4096 : Int) < (t.length : Int)) := by omega
                  go_wp2
                  go_roundw
                  case rel => exact ⟨j + 1, by go_num, by omega, Lib.hid (last_take LT.out HT.out ht4), by first | rfl | trivial⟩
                  case measure => simp [intOf]; omega
                · have bt : ((4096 : Int) < (t.length : Int)) := by omega
                  go_wp2
                  go_ret2
                  refine ⟨wres_none ?_, U.out⟩
                  rw [TF.out]
                  unfold Lin.lim
                  rw [if_neg]
                  exact fun h => ht4 (h.2 t (List.mem_of_getElem? HT.out))
              · have hjl2 : j = out2.length := by omega
                subst hjl2
                go_wp2
                go_ret2
                refine ⟨wres_some ?_ OT.out.1, U.out⟩
                rw [TF.out]
                have := LT.out
                rw [List.take_length] at this
                exact Lin.lim_ok h64 this
          · have b64 : ((64 : Int) < (out2.length : Int)) := by omega
            go_wp2_with (at_builtin; refine wpList_builtinN rfl _ _ 23 rfl _ _ rfl rfl hr1 ?_)
            go_ret2
            refine ⟨wres_none ?_, U.out⟩
            rw [TF.out]
            unfold Lin.lim
            rw [if_neg]
            exact fun h => h64 h.1
      · have TX := Lib.hid (show Lin.words s = none from by unfold Lin.words; rw [T1.out]; simp [stOf, Lin.scan])
        go_wp2
        go_ret2
        exact ⟨wres_none TX.out, U.out⟩
      · as_aux_lemma =>
          have TX := Lib.hid (show Lin.scan .sp [] s = some out from T1.out.trans (by simp [stOf, Lin.scan]))
          clear T1
          have hlo := OT.out.2.1
          obtain ⟨p9, c9, ev9, hl9, hc9⟩ := OT.out.1.slice
          subst ev9
          have TF := Lib.hid (show Lin.words s = Lin.lim out from by
            unfold Lin.words
            rw [TX.out]; rfl)
          by_cases h64 : out.length ≤ 64
          · have b64 : ¬ ((64 : Int) < (out.length : Int)) := by omega
            have RW := Lib.hid (OT.out.1.row tcs_len)
            go_wp2
            go_loopw [176] (fun y wx => ∃ j : Nat, y = .int .i64 (j : Int) ∧ j ≤ out.length ∧ Hid (∀ t ∈ out.take j, t.length ≤ 4096) ∧ wx = wr) (fun y _ => out.length - (intOf y).toNat)
            case atStart => exact ⟨0, rfl, by omega, Lib.hid (by simp), rfl⟩
            case round =>
              obtain ⟨j, rfl, hj, LT, rfl⟩ := hrel
              by_cases hjl : j < out.length
              · obtain ⟨t, ht⟩ : ∃ t, out[j]? = some t := ⟨_, List.getElem?_eq_getElem hjl⟩
                obtain ⟨b7, o7, c7, e7, hb7, _, hc7⟩ : ∃ b off cap, Value.slice p9 out.length c9 = .slice (some ⟨b, off, none⟩) out.length cap ∧ b < wr.heap.size ∧ out.length ≤ maxLen ∧ ∀ i a, out[i]? = some a → ∀ j, j < 1 → wr.cell? ⟨b, off + (i * 1 + j), none⟩ = (tcs a)[j]? := by
                  rcases RW.out with ⟨_, _, _, e⟩ | h
                  · rw [e] at hjl; simp at hjl
                  · exact h
                have hcell : wr.cell? ⟨b7, o7 + j, none⟩ = some (.string (ofL t)) := by have := hc7 j t ht 0 (by omega); simpa [tcs] using this
                have hts := ofL_size t
                simp only [Value.slice.injEq] at e7
                obtain ⟨rfl, _, rfl⟩ := e7
                clear hc7
                have HT := Lib.hid ht
                clear ht
                by_cases ht4 : t.length ≤ 4096
                · have bt : ¬ ((4096 : Int) < (t.length : Int)) := by omega
                  go_wp2
                  go_roundw
                  case rel => exact ⟨j + 1, by go_num, by omega, Lib.hid (last_take LT.out HT.out ht4), by first | rfl | trivial⟩
                  case measure => simp [intOf]; omega
                · have bt : ((4096 : Int) < (t.length : Int)) := by omega
                  go_wp2
                  go_ret2
                  refine ⟨wres_none ?_, U.out⟩
                  rw [TF.out]
                  unfold Lin.lim
                  rw [if_neg]
                  exact fun h => ht4 (h.2 t (List.mem_of_getElem? HT.out))
              · have hjl2 : j = out.length := by omega
                subst hjl2
                go_wp2
                go_ret2
                refine ⟨wres_some ?_ OT.out.1, U.out⟩
                rw [TF.out]
                have := LT.out
                rw [List.take_length] at this
                exact Lin.lim_ok h64 this
          · have b64 : ((64 : Int) < (out.length : Int)) := by omega
            go_wp2
            go_ret2
            refine ⟨wres_none ?_, U.out⟩
            rw [TF.out]
            unfold Lin.lim
            rw [if_neg]
            exact fun h => h64 h.1
end Go.Proofs.YtkemjjhmabemiaaDoor
