/- Walk: the words of a line. -/
import Derived.Test.YtkemjjhmabemiaaDoorK04
import Derived.Test.YtkemjjhmabemiaaDoorK05
import Derived.Lib.SlBytesRowKit2
import Derived.Test.YtkemjjhmabemiaaDoorK03
set_option linter.unusedVariables false
set_option linter.unusedSimpArgs false
namespace Go.Proofs.YtkemjjhmabemiaaDoor
open Go.RowKit
open Lin (Txt)

theorem take_drop (l : Txt) : l.drop (l.takeWhile fun c => !Lin.gap c).length = l.dropWhile fun c => !Lin.gap c := by
  have := List.takeWhile_append_dropWhile (p := fun c => !Lin.gap c) (l := l)
  conv => lhs; rw [← this]
  rw [List.takeWhile_append_dropWhile]
  conv => lhs; arg 2; rw [← this]
  rw [List.drop_left]
theorem scan_plain {c : UInt8} {t : Txt} (hg : Lin.gap c = false) (h : ¬ (c = 34 ∨ c = 39)) (out : List Txt) :
    Lin.scan .sp out (c :: t) = Lin.scan .sp (out ++ [(c :: t).takeWhile fun c => !Lin.gap c]) ((c :: t).drop ((c :: t).takeWhile fun c => !Lin.gap c).length) := by
  rw [take_drop, Lin.scan, if_neg (by simp [hg]), if_neg h, Lin.scan_pl, List.takeWhile_cons, List.dropWhile_cons]
  simp [hg]
theorem scan_quoted {c : UInt8} {t : Txt} (hg : Lin.gap c = false) (h : c = 34 ∨ c = 39) (out : List Txt) :
    Lin.scan .sp out (c :: t) = match Lin.quo c 0 [] t with | none => none | some (v, u) => if u = [] ∨ Lin.gap (u.headD 0) = true then Lin.scan .sp (out ++ [v]) u else none := by
  rw [Lin.scan, if_neg (by simp [hg]), if_pos h, Lin.scan_quo]
  cases Lin.quo c 0 [] t with
  | none => rfl
  | some x => simp only; rw [Lin.scan_be]
theorem quo_tail (m : UInt8) : ∀ (l : Txt) (k : Nat) (acc v u : Txt), Lin.quo m k acc l = some (v, u) → u.length < l.length ∧ u = l.drop (l.length - u.length)
  | [], k, acc, v, u, h => by cases k <;> simp [Lin.quo] at h
  | c :: r, k + 1, acc, v, u, h => by
    rw [Lin.quo] at h
    obtain ⟨h1, h2⟩ := quo_tail m r k acc v u h
    refine ⟨by simp; omega, ?_⟩
    have e : (c :: r).length - u.length = r.length - u.length + 1 := by simp; omega
    rw [e, List.drop_succ_cons]; exact h2
  | c :: r, 0, acc, v, u, h => by
    rw [Lin.quo] at h
    split at h
    · cases h
      refine ⟨by simp, ?_⟩
      have e : (c :: r).length - r.length = 1 := by simp
      rw [e]; rfl
    · obtain ⟨h1, h2⟩ := quo_tail m r _ _ v u h
      refine ⟨by simp; omega, ?_⟩
      have e : (c :: r).length - u.length = r.length - u.length + 1 := by simp; omega
      rw [e, List.drop_succ_cons]; exact h2
/-- What comes of reading words. -/
def WRes2 (base : Nat) (o : Option (List Txt)) (e : Ending) (w' : World) : Prop := match o with
  | some l => ∃ v, e = .returned (.tuple #[v, .int .i64 0]) ∧ TxtsO w' base v l
  | none => e = .returned (.tuple #[.slice none 0 0, .int .i64 61])
theorem w2_none {base : Nat} {o : Option (List Txt)} {w' : World} (h : o = none) : WRes2 base o (.returned (.tuple #[.slice none 0 0, .int .i64 61])) w' := by subst h; rfl
theorem w2_some {base : Nat} {o : Option (List Txt)} {w' : World} {v : Value} {l : List Txt} (h : o = some l) (ht : TxtsO w' base v l) : WRes2 base o (.returned (.tuple #[v, .int .i64 0])) w' := by subst h; exact ⟨v, rfl, ht⟩
def szOf : Value → Nat | .string b => b.size | _ => 0
set_option maxHeartbeats 8000000 in
set_option maxRecDepth 100000 in
theorem words_any (s0 : Txt) (hl : s0.length ≤ 1000000) (w : World) :
    Calls Tryd.prog 11 #[.string (ofL s0)] w fun e w' => WRes2 w.heap.size (Lin.words s0) e w' ∧ Upd (fun _ => False) w w' := by
  have T0 := Lib.hid (show Lin.words s0 = (Lin.scan .sp [] s0).bind Lin.lim from rfl)
  generalize Lin.words s0 = target at *
  go_enter Tryd.func11, Tryd.ntmps11
  go_wp2
  go_loopw [0, 2, 3, 4] (fun v0 v2 v3 v4 wr => ∃ (r : Txt) (out : List Txt), v0 = .string (ofL r) ∧ v2 = .slice none 0 0 ∧ v3 = .int .i64 0 ∧ r.length ≤ 1000000 ∧ Hid (target = (Lin.scan .sp out r).bind Lin.lim) ∧ Hid (TxtsO wr w.heap.size v4 out ∧ out.length ≤ 64 ∧ ∀ t ∈ out, t.length ≤ 4096) ∧ Hid (Upd (fun _ => False) w wr)) (fun v0 _ _ _ _ => szOf v0)
  case atStart => exact ⟨s0, [], rfl, rfl, rfl, hl, T0, Lib.hid ⟨OwnN.none, by simp, by simp⟩, Lib.hid (Upd.refl _ _)⟩
  case round =>
    obtain ⟨r, out, rfl, rfl, rfl, hrl, RT, OT, U⟩ := hrel
    obtain ⟨p4, c4, e4, hl4, hc4⟩ := OT.out.1.slice
    subst e4
    have TR := Lib.hid (trim_any r wr)
    have RT : Hid (target = (Lin.scan .sp out (r.dropWhile Lin.gap)).bind Lin.lim) := by rw [Lin.scan_drop]; exact RT
    have HL1 : Hid ((r.dropWhile Lin.gap).length ≤ r.length) := Lib.hid (List.dropWhile_suffix _).length_le
    obtain ⟨r1, hr1⟩ : ∃ r1, r.dropWhile Lin.gap = r1 := ⟨_, rfl⟩
    have hng := fun c t (h : r1 = c :: t) => show Lin.gap c = false from by
      have := List.head?_dropWhile_not Lin.gap r
      rw [hr1, h] at this
      simpa using this
    have R1 := Lib.hid hr1
    rw [hr1] at TR RT HL1
    clear hr1
    have hl1 : r1.length ≤ 1000000 := by have := HL1.out; omega
    by_cases h0 : r1 = []
    · subst h0
      have TR : Hid (Calls Tryd.prog 26 #[.string (ofL r), .string { data := #[32, 9] }] wr fun e w' => e = .returned (.string { data := #[] }) ∧ Upd (fun _ => False) wr w') := TR
      have TN : Hid (target = some out) := Lib.hid (RT.out.trans (by rw [Lin.scan]; exact Lin.lim_ok OT.out.2.1 OT.out.2.2))
      go_wp2_with fail
      refine TR.out.mono ?_
      rintro e w1 ⟨rfl, u1⟩
      have ux := Lib.hid (upd0 U.out u1)
      have I1 := Lib.hid (OT.out.1.keep0 u1)
      clear u1
      go_wp2
      go_ret2
      exact ⟨w2_some TN.out I1.out, ux.out⟩
    · obtain ⟨c, t, hct⟩ : ∃ c t, r1 = c :: t := by
        cases r1 with
        | nil => exact absurd rfl h0
        | cons c t => exact ⟨c, t, rfl⟩
      have hg := hng c t hct
      have hne : (ofL r1).toList.isEmpty = false := by rw [ofL_toList, hct]; rfl
      have hne2 : ¬ (ofL r1).toList = [] := by rw [ofL_toList, hct]; simp
      have rx0 : ∀ w, (Instr.index 9 (.string (ofL r1)) (.int .i64 0)).run Tryd.prog w = .ok (.int .u8 (c.toNat : Int)) w := run_at r1 0 c (by rw [hct]; rfl)
      have PL := Lib.hid (fun w => plain_any r1 hl1 w)
      clear hng h0
      by_cases hq : c = 34 ∨ c = 39
      · have hb : ((c.toNat : Int) == 34) = true ∨ (((c.toNat : Int) == 34) = false ∧ ((c.toNat : Int) == 39) = true) := by
          by_cases e : c = 34
          · exact Or.inl (u8t 34 e (by omega))
          · exact Or.inr ⟨u8f 34 e (by omega), u8t 39 (hq.resolve_left e) (by omega)⟩
        have htl : t.length + 1 = r1.length := by rw [hct]; simp
        have QU := fun w => quoted_any c t hq (by omega) w
        have SQ := scan_quoted (t := t) hg hq out
        rw [← hct] at QU SQ
        have HCT := Lib.hid hct
        cases hqo : Lin.quo c 0 [] t with
        | none =>
          rw [hqo] at QU SQ
          have QU : Hid (∀ w, Calls Tryd.prog 28 #[.string (ofL r1)] w fun e w' => e = .returned (.tuple #[.string { data := #[] }, .int .i64 0, .bool false]) ∧ Upd (fun _ => False) w w') := Lib.hid QU
          have TN : Hid (target = none) := Lib.hid (RT.out.trans (by rw [SQ]; rfl))
          clear hqo SQ hct hg hq htl
          rcases hb with hb | ⟨hb, hb2⟩
          all_goals
            go_wp2_with fail
            refine TR.out.mono ?_
            rintro e w1 ⟨rfl, u1⟩
            go_wp2_with fail
            refine (PL.out w1).mono ?_
            rintro e w2 ⟨rfl, u2⟩
            go_wp2_with fail
            refine (QU.out w2).mono ?_
            rintro e w3 ⟨rfl, u3⟩
            have ux := Lib.hid (upd0 (upd0 (upd0 U.out u1) u2) u3)
            clear u1 u2 u3
            go_wp2
            go_ret2
            exact ⟨w2_none TN.out, ux.out⟩
        | some vu =>
          obtain ⟨x, r2⟩ := vu
          rw [hqo] at QU SQ
          obtain ⟨t1, t2⟩ := quo_tail c t 0 [] x r2 hqo
          by_cases hok : r2 = [] ∨ Lin.gap (r2.headD 0) = true
          · have QU : Hid (∀ w, Calls Tryd.prog 28 #[.string (ofL r1)] w fun e w' => e = .returned (.tuple #[.string (ofL x), .int .i64 ((t.length + 1 - r2.length : Nat) : Int), .bool true]) ∧ Upd (fun _ => False) w w') := by
              have this : ∀ w, Calls Tryd.prog 28 #[.string (ofL r1)] w fun e w' => e = .returned (.tuple #[.string (ofL x), .int .i64 ((t.length + 1 - r2.length : Nat) : Int), .bool (decide (r2 = [] ∨ Lin.gap (r2.headD 0) = true))]) ∧ Upd (fun _ => False) w w' := QU
              rw [decide_eq_true hok] at this
              exact Lib.hid this
            have RN : Hid (target = (Lin.scan .sp (out ++ [x]) r2).bind Lin.lim) := Lib.hid (RT.out.trans (by rw [SQ]; show ((if _ then _ else _ : Option (List Txt))).bind Lin.lim = _; rw [if_pos hok]))
            have RD := fun w => run_drop r1 ((t.length + 1 - r2.length : Nat) : Int) (by omega) (by omega) w
            have ed : r1.drop ((t.length + 1 - r2.length : Nat) : Int).toNat = r2 := by
              rw [Int.toNat_natCast, hct]
              have e : t.length + 1 - r2.length = t.length - r2.length + 1 := by omega
              rw [e, List.drop_succ_cons]; exact t2.symm
            rw [ed] at RD
            have HLT : Hid (r2.length < r1.length) := Lib.hid (by omega)
            have hr2 : r2.length ≤ 1000000 := by omega
            generalize ((t.length + 1 - r2.length : Nat) : Int) = used at *
            clear hqo SQ hct hg hq htl t1 t2 hok ed
            rcases hb with hb | ⟨hb, hb2⟩
            all_goals
              -- a word x, then r2: facts RN : target = (scan .sp (out ++ [x]) r2).bind lim; walk as far as the calls by !use CALL3
              have hlo := OT.out.2.1
              by_cases h64 : out.length = 64
              · have hb64 : ((out.length : Int) == 64) = true := by simp [h64]
                have TN : Hid (target = none) := Lib.hid (RN.out.trans (Lin.lim_over (by intro h; have := h.1; simp at this; omega)))
                clear h64
                go_wp2_with fail
                refine TR.out.mono ?_
                rintro e w1 ⟨rfl, u1⟩
                go_wp2_with fail
                refine (PL.out w1).mono ?_
                rintro e w2 ⟨rfl, u2⟩
                go_wp2_with fail
                refine (QU.out w2).mono ?_
                rintro e w3 ⟨rfl, u3⟩
                go_wp2
                go_ret2
                exact ⟨w2_none TN.out, upd0 (upd0 (upd0 U.out u1) u2) u3⟩
              · have hb64 : ((out.length : Int) == 64) = false := by rw [beq_eq_false_iff_ne]; omega
                have hxs := ofL_size x
                by_cases h4096 : 4096 < (x).length
                · have q4 : (4096 : Int) < ((x).length : Int) := by omega
                  have TN : Hid (target = none) := Lib.hid (RN.out.trans (Lin.lim_over (by intro h; have := h.2 (x) (by simp); omega)))
                  clear h64
                  go_wp2_with fail
                  refine TR.out.mono ?_
                  rintro e w1 ⟨rfl, u1⟩
                  go_wp2_with fail
                  refine (PL.out w1).mono ?_
                  rintro e w2 ⟨rfl, u2⟩
                  go_wp2_with fail
                  refine (QU.out w2).mono ?_
                  rintro e w3 ⟨rfl, u3⟩
                  go_wp2
                  go_ret2
                  exact ⟨w2_none TN.out, upd0 (upd0 (upd0 U.out u1) u2) u3⟩
                · have q4 : ¬ (4096 : Int) < ((x).length : Int) := by omega
                  have OB : Hid ((out ++ [x]).length ≤ 64 ∧ ∀ t ∈ out ++ [x], t.length ≤ 4096) := Lib.hid ⟨by simp; omega, fun t ht => by
                    rw [List.mem_append] at ht
                    rcases ht with h | h
                    · exact OT.out.2.2 t h
                    · simp at h; subst h; omega⟩
                  clear h64
                  go_wp2_with fail
                  refine TR.out.mono ?_
                  rintro e w1 ⟨rfl, u1⟩
                  go_wp2_with fail
                  refine (PL.out w1).mono ?_
                  rintro e w2 ⟨rfl, u2⟩
                  go_wp2_with fail
                  refine (QU.out w2).mono ?_
                  rintro e w3 ⟨rfl, u3⟩
                  have ux := Lib.hid (upd0 (upd0 (upd0 U.out u1) u2) u3)
                  obtain ⟨p5, k5, w5, hr1, i5, u5, n5⟩ := txts_app w3 w.heap.size _ out (x) (OT.out.1.keep0 (upd0 (upd0 u1 u2) u3)) (by omega) ux.out.size
                  have I5 := Lib.hid i5
                  have U5 := Lib.hid (upd_own (OT.out.1.keep0 (upd0 (upd0 u1 u2) u3)) ux.out u5)
                  clear i5 u5 n5
                  go_wp2_with (at_builtin; refine wpList_builtinN rfl _ _ 23 rfl _ _ rfl rfl hr1 ?_)
                  go_roundw
                  case rel => exact ⟨r2, out ++ [x], rfl, rfl, rfl, hr2, RN, Lib.hid ⟨I5.out, OB.out⟩, U5⟩
                  case measure => have g1 := ofL_size r; have g2 := ofL_size r2; have g3 := HL1.out; simp only [szOf]; rw [g1, g2]; have := HLT.out; omega
          · have QU : Hid (∀ w, Calls Tryd.prog 28 #[.string (ofL r1)] w fun e w' => e = .returned (.tuple #[.string (ofL x), .int .i64 ((t.length + 1 - r2.length : Nat) : Int), .bool false]) ∧ Upd (fun _ => False) w w') := by
              have this : ∀ w, Calls Tryd.prog 28 #[.string (ofL r1)] w fun e w' => e = .returned (.tuple #[.string (ofL x), .int .i64 ((t.length + 1 - r2.length : Nat) : Int), .bool (decide (r2 = [] ∨ Lin.gap (r2.headD 0) = true))]) ∧ Upd (fun _ => False) w w' := QU
              rw [decide_eq_false hok] at this
              exact Lib.hid this
            have TN : Hid (target = none) := Lib.hid (RT.out.trans (by rw [SQ]; show ((if _ then _ else _ : Option (List Txt))).bind Lin.lim = _; rw [if_neg hok]; rfl))
            generalize ((t.length + 1 - r2.length : Nat) : Int) = used at *
            clear hqo SQ hct hg hq htl t1 t2 hok
            rcases hb with hb | ⟨hb, hb2⟩
            all_goals
              go_wp2_with fail
              refine TR.out.mono ?_
              rintro e w1 ⟨rfl, u1⟩
              go_wp2_with fail
              refine (PL.out w1).mono ?_
              rintro e w2 ⟨rfl, u2⟩
              go_wp2_with fail
              refine (QU.out w2).mono ?_
              rintro e w3 ⟨rfl, u3⟩
              have ux := Lib.hid (upd0 (upd0 (upd0 U.out u1) u2) u3)
              clear u1 u2 u3
              go_wp2
              go_ret2
              exact ⟨w2_none TN.out, ux.out⟩
      · have SP := scan_plain (t := t) hg hq out
        rw [← hct] at SP
        have hb1 : ((c.toNat : Int) == 34) = false := u8f 34 (fun e => hq (Or.inl e)) (by omega)
        have hb2 : ((c.toNat : Int) == 39) = false := u8f 39 (fun e => hq (Or.inr e)) (by omega)
        have hx1 : (r1.takeWhile fun c => !Lin.gap c).length ≤ r1.length := (List.takeWhile_prefix _).length_le
        have hx2 : 1 ≤ (r1.takeWhile fun c => !Lin.gap c).length := by rw [hct, List.takeWhile_cons]; simp [hg]
        have hr11 : 1 ≤ r1.length := by rw [hct]; simp
        generalize (r1.takeWhile fun c => !Lin.gap c) = x at *
        have RN : Hid (target = (Lin.scan .sp (out ++ [x]) (r1.drop x.length)).bind Lin.lim) := Lib.hid (RT.out.trans (by rw [SP]))
        have RD := fun w => run_drop r1 (x.length : Int) (by omega) (by omega) w
        have HLT : Hid ((r1.drop x.length).length < r1.length) := Lib.hid (by rw [List.length_drop]; omega)
        have hr2 : (r1.drop x.length).length ≤ 1000000 := by rw [List.length_drop]; omega
        rw [Int.toNat_natCast] at RD
        generalize r1.drop x.length = r2 at *
        clear SP hct hg hq hx1 hx2 hr11
        -- a word x, then r2: facts RN : target = (scan .sp (out ++ [x]) r2).bind lim; walk as far as the calls by !use CALL2
        have hlo := OT.out.2.1
        by_cases h64 : out.length = 64
        · have hb64 : ((out.length : Int) == 64) = true := by simp [h64]
          have TN : Hid (target = none) := Lib.hid (RN.out.trans (Lin.lim_over (by intro h; have := h.1; simp at this; omega)))
          clear h64
          go_wp2_with fail
          refine TR.out.mono ?_
          rintro e w1 ⟨rfl, u1⟩
          go_wp2_with fail
          refine (PL.out w1).mono ?_
          rintro e w2 ⟨rfl, u2⟩
          go_wp2
          go_ret2
          exact ⟨w2_none TN.out, upd0 (upd0 U.out u1) u2⟩
        · have hb64 : ((out.length : Int) == 64) = false := by rw [beq_eq_false_iff_ne]; omega
          have hxs := ofL_size x
          by_cases h4096 : 4096 < (x).length
          · have q4 : (4096 : Int) < ((x).length : Int) := by omega
            have TN : Hid (target = none) := Lib.hid (RN.out.trans (Lin.lim_over (by intro h; have := h.2 (x) (by simp); omega)))
            clear h64
            go_wp2_with fail
            refine TR.out.mono ?_
            rintro e w1 ⟨rfl, u1⟩
            go_wp2_with fail
            refine (PL.out w1).mono ?_
            rintro e w2 ⟨rfl, u2⟩
            go_wp2
            go_ret2
            exact ⟨w2_none TN.out, upd0 (upd0 U.out u1) u2⟩
          · have q4 : ¬ (4096 : Int) < ((x).length : Int) := by omega
            have OB : Hid ((out ++ [x]).length ≤ 64 ∧ ∀ t ∈ out ++ [x], t.length ≤ 4096) := Lib.hid ⟨by simp; omega, fun t ht => by
              rw [List.mem_append] at ht
              rcases ht with h | h
              · exact OT.out.2.2 t h
              · simp at h; subst h; omega⟩
            clear h64
            go_wp2_with fail
            refine TR.out.mono ?_
            rintro e w1 ⟨rfl, u1⟩
            go_wp2_with fail
            refine (PL.out w1).mono ?_
            rintro e w2 ⟨rfl, u2⟩
            have ux := Lib.hid (upd0 (upd0 U.out u1) u2)
            obtain ⟨p5, k5, w5, hr1, i5, u5, n5⟩ := txts_app w2 w.heap.size _ out (x) (OT.out.1.keep0 (upd0 u1 u2)) (by omega) ux.out.size
            have I5 := Lib.hid i5
            have U5 := Lib.hid (upd_own (OT.out.1.keep0 (upd0 u1 u2)) ux.out u5)
            clear i5 u5 n5
            go_wp2_with (at_builtin; refine wpList_builtinN rfl _ _ 23 rfl _ _ rfl rfl hr1 ?_)
            go_roundw
            case rel => exact ⟨r2, out ++ [x], rfl, rfl, rfl, hr2, RN, Lib.hid ⟨I5.out, OB.out⟩, U5⟩
            case measure => have g1 := ofL_size r; have g2 := ofL_size r2; have g3 := HL1.out; simp only [szOf]; rw [g1, g2]; have := HLT.out; omega
end Go.Proofs.YtkemjjhmabemiaaDoor
/- Walk: the command with which bytes begin. -/
set_option linter.unusedVariables false
set_option linter.unusedSimpArgs false
namespace Go.Proofs.YtkemjjhmabemiaaDoor
open Go.RowKit
open Lin (Txt)
open Go.Lib (indexByte)

theorem BAt.inb {w : World} {p : Option Addr} {cap : Nat} {l : Txt} (h : BAt w p cap l) : Lib.BytesIn w p l.length (nums l) := fun hn => by
  obtain ⟨g, o, e, _, hc⟩ := h.at (by rintro rfl; simp at hn)
  exact ⟨g, o, e, BAt.cells (cap := cap) hc⟩
theorem strip_take (l : Txt) : Lin.strip l = if Lib.hasSuffix l [13] then l.take (l.length - 1) else l := by
  unfold Lin.strip Lib.hasSuffix
  have e : (([13] : Txt).isSuffixOf l = true) ↔ l.getLast? = some 13 := by
    rw [List.isSuffixOf_iff_suffix]
    constructor
    · rintro ⟨q, rfl⟩; simp
    · intro h
      exact ⟨l.dropLast, by
        have hne : l ≠ [] := by rintro rfl; simp at h
        have h2 := List.dropLast_concat_getLast hne
        rw [List.getLast?_eq_some_getLast hne] at h
        injection h with h
        rw [h] at h2; exact h2⟩
  by_cases h : l.getLast? = some 13
  · rw [if_pos h, if_pos (e.2 h), List.dropLast_eq_take]
  · rw [if_neg h, if_neg (fun hh => h (e.1 hh))]
theorem trimx_any (p q : Option Addr) (cap cap2 : Nat) (l : Txt) (w : World) (h : BAt w p cap l) (h2 : BAt w q cap2 [13]) :
    Calls Tryd.prog 25 #[.slice p l.length cap, .slice q 1 cap2] w fun e w' => e = .returned (.slice p (Lin.strip l).length cap) ∧ w' = w := by
  have hle := h.le
  unfold maxLen at hle
  refine (Tryd.bytes_TrimSuffix_all p q l.length cap 1 cap2 (nums l) (nums [13]) w (nums_length l) (nums_length _) hle.1 (by omega) h.inb h2.inb).mono ?_
  rintro e w' ⟨rfl, rfl⟩
  refine ⟨?_, rfl⟩
  rw [Go.RowKit.trimSuffixV_eq (nums_length l) h.inb, nums_bytes, nums_bytes, nums_length, strip_take]
  by_cases hs : Lib.hasSuffix l [13] = true
  · rw [if_pos hs, if_pos hs, List.length_take]
    simp
  · rw [if_neg hs, if_neg hs]
theorem strip_bat {w : World} {p : Option Addr} {cap : Nat} {l : Txt} (h : BAt w p cap l) : BAt w p cap (Lin.strip l) := by
  rw [strip_take]; split
  · exact h.take _
  · exact h
theorem strip_le (l : Txt) : (Lin.strip l).length ≤ l.length := by
  rw [strip_take]; split
  · rw [List.length_take]; omega
  · omega
def PRes2 (base : Nat) (r : Lin.R (List Txt)) (e : Ending) (w' : World) : Prop := PRes base r e w'
set_option maxHeartbeats 4000000 in
set_option maxRecDepth 100000 in
theorem parse2_any (p : Option Addr) (cap : Nat) (l : Txt) (w : World) (h : BAt w p cap l) (hs : Std w) (hl : l.length ≤ 100000) :
    Calls Tryd.prog 10 #[.slice p l.length cap] w fun e w' => PRes2 w.heap.size (Lin.parse l) e w' ∧ Upd (fun _ => False) w w' := by
  have hle := h.le
  unfold maxLen at hle
  have PX := Lib.hid (show Lin.parse l = if l.head? = some 42 then Lin.array l else match Lin.feed [] 4200 l with | .there x n => (match Lin.words (Lin.strip x) with | some o => .there o n | none => .bad) | .short => .short | .bad => .bad from rfl)
  by_cases h42 : l.head? = some 42
  · obtain ⟨r, hr⟩ : ∃ r, l = 42 :: r := by
      cases l with
      | nil => simp at h42
      | cons c r => simp at h42; subst h42; exact ⟨r, rfl⟩
    have AR := Lib.hid (array_any p cap l w h hs hl)
    have PX : Hid (Lin.parse l = Lin.array l) := Lib.hid (PX.out.trans (if_pos h42))
    have hh := h
    rw [hr] at hh
    obtain ⟨g, o, rfl, hg, hcell⟩ := hh.head
    have hcell : w.cell? ⟨g, o, none⟩ = some (.int .u8 42) := hcell
    have hn0 : (0 : Int) < (l.length : Int) := by rw [hr]; simp
    have HH := Lib.hid h
    have HS := Lib.hid hs
    clear h hs hh h42 hr
    rw [PX.out]
    clear PX
    cases har : Lin.array l with
    | short =>
      rw [har] at AR
      have AR : Hid (Calls Tryd.prog 23 #[.slice (some ⟨g, o, none⟩) l.length cap] w fun e w' => e = .returned (.tuple #[.slice none 0 0, .int .i64 0, .int .i64 0]) ∧ Upd (fun _ => False) w w') := AR
      clear har
      go_enter Tryd.func10, Tryd.ntmps10
      go_wp2_with fail
      refine (AR.out).mono ?_
      rintro e w1 ⟨rfl, u1⟩
      go_wp2
      go_ret3
      exact ⟨pres_short rfl, u1⟩
    | bad =>
      rw [har] at AR
      have AR : Hid (Calls Tryd.prog 23 #[.slice (some ⟨g, o, none⟩) l.length cap] w fun e w' => e = .returned (.tuple #[.slice none 0 0, .int .i64 0, .int .i64 61]) ∧ Upd (fun _ => False) w w') := AR
      clear har
      go_enter Tryd.func10, Tryd.ntmps10
      go_wp2_with fail
      refine (AR.out).mono ?_
      rintro e w1 ⟨rfl, u1⟩
      go_wp2
      go_ret3
      exact ⟨pres_bad rfl, u1⟩
    | there out n =>
      rw [har] at AR
      have AR : Hid (Calls Tryd.prog 23 #[.slice (some ⟨g, o, none⟩) l.length cap] w fun e w' => (∃ v, e = .returned (.tuple #[v, .int .i64 (n : Int), .int .i64 0]) ∧ TxtsO w' w.heap.size v out) ∧ Upd (fun _ => False) w w') := AR
      clear har
      go_enter Tryd.func10, Tryd.ntmps10
      go_wp2_with fail
      refine (AR.out).mono ?_
      rintro e w1 ⟨⟨v, rfl, ht⟩, u1⟩
      have HT := Lib.hid ht
      clear ht
      go_wp2
      go_ret3
      exact ⟨pres_there rfl rfl HT.out, u1⟩
  · have FX := Lin.feed_ix 4200 [] l
    rw [List.nil_append, List.length_nil, Nat.zero_add] at FX
    have PX : Hid (Lin.parse l = match Lin.feed [] 4200 l with | .there x n => (match Lin.words (Lin.strip x) with | some o => .there o n | none => .bad) | .short => .short | .bad => .bad) := Lib.hid (PX.out.trans (if_neg h42))
    rw [FX] at PX
    clear FX
    have h1 := h.take 4200
    have hm : min (l.length : Int) 4200 = ((l.take 4200).length : Int) := by rw [List.length_take]; omega
    have hlc := h1.le.1
    have IX := Lib.hid (bix_any p cap (l.take 4200) 10 10 rfl w h1)
    have g1 := Lib.indexByte_ge (l.take 4200) 10
    have g3 := Lin.ix_le (l.take 4200) 10
    have g5 : (l.take 4200).length ≤ 4200 := List.length_take_le _ _
    have g6 : (l.take 4200).length ≤ l.length := by rw [List.length_take]; omega
    have g7 : 4200 ≤ l.length ↔ (l.take 4200).length = 4200 := by rw [List.length_take]; omega
    have TK := Lib.hid (fun n (hn : n ≤ 4200) => show (l.take 4200).take n = l.take n by rw [List.take_take, Nat.min_eq_left hn])
    have hstar : (l = [] ∧ p = p) ∨ ∃ c r g o, l = c :: r ∧ p = some ⟨g, o, none⟩ ∧ w.cell? ⟨g, o, none⟩ = some (.int .u8 (c.toNat : Int)) ∧ ((c.toNat : Int) == 42) = false := by
      cases hlc : l with
      | nil => exact Or.inl ⟨rfl, rfl⟩
      | cons c r =>
        right
        rw [hlc] at h h42
        obtain ⟨g, o, e, hg, hcell⟩ := h.head
        exact ⟨c, r, g, o, rfl, e, hcell, u8f 42 (by simpa using h42) (by omega)⟩
    have H := Lib.hid h
    have HS := Lib.hid hs
    generalize hn : indexByte (l.take 4200) 10 = n at *
    generalize ht : l.take 4200 = t at *
    clear h hs h1 h42 hn ht
    by_cases c1 : n < 0
    · by_cases c2 : t.length = 4200
      · have PX : Hid (Lin.parse l = .bad) := Lib.hid (PX.out.trans (by rw [if_pos c1, if_pos c2]))
        have q2 : (4200 : Int) ≤ (l.length : Int) := by omega
        generalize Lin.parse l = res at *
        rcases hstar with ⟨rfl, _⟩ | ⟨c, r, g, o, hl2, rfl, hcell, hb⟩
        · exact absurd q2 (by simp)
        · have q0 : (0 : Int) < (l.length : Int) := by omega
          clear hl2 c2 g7
          go_enter Tryd.func10, Tryd.ntmps10
          go_wp2_with fail
          refine (IX.out).mono ?_
          rintro e w1 ⟨rfl, rfl⟩
          go_wp2
          go_ret3
          exact ⟨pres_bad PX.out, Upd.refl _ _⟩
      · have PX : Hid (Lin.parse l = .short) := Lib.hid (PX.out.trans (by rw [if_pos c1, if_neg c2]))
        have q2 : ¬ (4200 : Int) ≤ (l.length : Int) := by omega
        generalize Lin.parse l = res at *
        rcases hstar with ⟨hl2, _⟩ | ⟨c, r, g, o, hl2, rfl, hcell, hb⟩
        · have q0 : ¬ (0 : Int) < (l.length : Int) := by rw [hl2]; simp
          clear hl2 c2 g7
          go_enter Tryd.func10, Tryd.ntmps10
          go_wp2_with fail
          refine (IX.out).mono ?_
          rintro e w1 ⟨rfl, rfl⟩
          go_wp2
          go_ret3
          exact ⟨pres_short PX.out, Upd.refl _ _⟩
        · have q0 : (0 : Int) < (l.length : Int) := by rw [hl2]; simp
          clear hl2 c2 g7
          go_enter Tryd.func10, Tryd.ntmps10
          go_wp2_with fail
          refine (IX.out).mono ?_
          rintro e w1 ⟨rfl, rfl⟩
          go_wp2
          go_ret3
          exact ⟨pres_short PX.out, Upd.refl _ _⟩
    · obtain ⟨k, rfl⟩ : ∃ k : Nat, n = (k : Int) := ⟨n.toNat, by omega⟩
      have PX : Hid (Lin.parse l = match Lin.words (Lin.strip (l.take k)) with | some o => .there o (k + 1) | none => .bad) := Lib.hid (PX.out.trans (by rw [if_neg c1, Int.toNat_natCast, TK.out k (by omega)]))
      generalize Lin.parse l = res at *
      rcases hstar with ⟨rfl, _⟩ | ⟨c, r, g, o, hl2, rfl, hcell, hb⟩
      · have g60 : t.length ≤ 0 := g6
        omega
      · have q0 : (0 : Int) < (l.length : Int) := by rw [hl2]; simp
        have hX := H.out.take k
        have ek : (l.take k).length = k := by rw [List.length_take]; omega
        have hkc : k ≤ cap := by omega
        have hsl := strip_le (l.take k)
        generalize l.take k = X at *
        have hlX : X.length ≤ 4200 := by rw [ek]; omega
        have hX1 := hX.keep0 ((Upd.refl (fun _ => False) w).alloc (.cells #[byc 13] 5))
        have TM := trimx_any (some ⟨g, o, none⟩) (some ⟨w.heap.size, 0, none⟩) cap 1 X _ hX1 (BAt.made w 13)
        rw [ek] at TM
        have TM := Lib.hid TM
        have SB := strip_bat hX1
        have hst := SB.str
        have hY : (Lin.strip X).length ≤ 1000000 := Nat.le_trans hsl (Nat.le_trans hlX (by omega))
        have WW := Lib.hid (fun w => words_any (Lin.strip X) hY w)
        generalize Lin.strip X = Y at *
        have hsz : w.heap.size ≤ (w.alloc (.cells #[byc 13] 5)).heap.size := by simp
        have U1 : Hid (Upd (fun _ => False) w (w.alloc (.cells #[byc 13] 5))) := Lib.hid ((Upd.refl _ _).alloc _)
        have ealloc : byc 13 = .int .u8 13 := rfl
        rw [ealloc] at TM hst hsz U1
        clear hl2 g7 hX hX1 SB ek ealloc
        cases hw : Lin.words Y with
        | none =>
          rw [hw] at PX WW
          have PX : Hid (res = .bad) := PX
          have WW : Hid (∀ w, Calls Tryd.prog 11 #[.string (ofL Y)] w fun e w' => e = .returned (.tuple #[.slice none 0 0, .int .i64 61]) ∧ Upd (fun _ => False) w w') := WW
          clear hw
          go_enter Tryd.func10, Tryd.ntmps10
          go_wp2_with fail
          refine (IX.out).mono ?_
          rintro e w1 ⟨rfl, rfl⟩
          go_wp2_with fail
          refine (TM.out).mono ?_
          rintro e w2 ⟨rfl, rfl⟩
          go_wp2_with fail
          refine ((WW.out _)).mono ?_
          rintro e w3 ⟨rfl, u3⟩
          have U3 := Lib.hid (upd0 U1.out u3)
          clear u3
          go_wp2
          go_ret3
          exact ⟨pres_bad PX.out, U3.out⟩
        | some out =>
          rw [hw] at PX WW
          have PX : Hid (res = .there out (k + 1)) := PX
          have WW : Hid (∀ w, Calls Tryd.prog 11 #[.string (ofL Y)] w fun e w' => (∃ v, e = .returned (.tuple #[v, .int .i64 0]) ∧ TxtsO w' w.heap.size v out) ∧ Upd (fun _ => False) w w') := WW
          clear hw
          go_enter Tryd.func10, Tryd.ntmps10
          go_wp2_with fail
          refine (IX.out).mono ?_
          rintro e w1 ⟨rfl, rfl⟩
          go_wp2_with fail
          refine (TM.out).mono ?_
          rintro e w2 ⟨rfl, rfl⟩
          go_wp2_with fail
          refine ((WW.out _)).mono ?_
          rintro e w3 ⟨⟨v, rfl, ht⟩, u3⟩
          have U3 := Lib.hid (upd0 U1.out u3)
          have HT := Lib.hid (ht.mono hsz)
          clear u3 ht
          go_wp2
          go_ret3
          exact ⟨pres_there PX.out (by omega) HT.out, U3.out⟩
end Go.Proofs.YtkemjjhmabemiaaDoor
/- A window of bytes into a block of the call's own: append of anything. -/
set_option linter.unusedVariables false
set_option linter.unusedSimpArgs false
namespace Go.Proofs.YtkemjjhmabemiaaDoor
open Go.RowKit
open Lin (Txt)

/-- Bytes in a block of the call's own, from some place on. -/
def WinB (w : World) (base : Nat) (p : Option Addr) (cap : Nat) (l : Txt) : Prop :=
  BAt w p cap l ∧ (p = none ∨ ∃ g o cs, p = some ⟨g, o, none⟩ ∧ base ≤ g ∧ Blk w g cs 5 ∧ o + cap ≤ cs.length)
theorem WinB.nil (w : World) (base : Nat) : WinB w base none 0 [] := ⟨BAt.nil w, Or.inl rfl⟩
theorem WinB.keep {w w' : World} {base : Nat} {p : Option Addr} {cap : Nat} {l : Txt} (h : WinB w base p cap l) {F : Nat → Prop} (u : Upd F w w') (hd : ∀ g o, p = some ⟨g, o, none⟩ → ¬ F g) : WinB w' base p cap l := by
  refine ⟨h.1.keep u hd, ?_⟩
  rcases h.2 with h | ⟨g, o, cs, e, hg, hB, hc⟩
  · exact Or.inl h
  · exact Or.inr ⟨g, o, cs, e, hg, u.blk hB (hd g o e), hc⟩
theorem WinB.keep0 {w w' : World} {base : Nat} {p : Option Addr} {cap : Nat} {l : Txt} (h : WinB w base p cap l) (u : Upd (fun _ => False) w w') : WinB w' base p cap l := h.keep u (fun _ _ _ => id)
theorem WinB.lt {w : World} {base : Nat} {p : Option Addr} {cap : Nat} {l : Txt} (h : WinB w base p cap l) {g o : Nat} (e : p = some ⟨g, o, none⟩) : base ≤ g ∧ g < w.heap.size := by
  rcases h.2 with h | ⟨g', o', cs, e', hg, hB, hc⟩
  · rw [h] at e; cases e
  · rw [e'] at e; cases e; exact ⟨hg, hB.lt⟩
theorem WinB.mono {w : World} {base b2 : Nat} {p : Option Addr} {cap : Nat} {l : Txt} (h : WinB w base p cap l) (hb : b2 ≤ base) : WinB w b2 p cap l := by
  refine ⟨h.1, ?_⟩
  rcases h.2 with h | ⟨g, o, cs, e, hg, hB, hc⟩
  · exact Or.inl h
  · exact Or.inr ⟨g, o, cs, e, by omega, hB, hc⟩
/-- What is left behind the first k. -/
theorem WinB.drop {w : World} {base : Nat} {p : Option Addr} {cap : Nat} {l : Txt} (h : WinB w base p cap l) (k : Nat) (hk : k ≤ l.length) :
    ∃ p' c', (∀ w', (Instr.slice 27 (.slice p l.length cap) (some (.int .i64 (k : Int))) none none).run Tryd.prog w' = .ok (.slice p' (l.drop k).length c') w') ∧ WinB w base p' c' (l.drop k) ∧ ∀ g o, p' = some ⟨g, o, none⟩ → ∃ o', p = some ⟨g, o', none⟩ := by
  have h1 := h.1.1.1
  have h2 := h.1.2.1
  rcases h.2 with rfl | ⟨g, o, cs, rfl, hg, hB, hc⟩
  · obtain ⟨p', c', a, b, d⟩ := h.1.drop k hk
    have hp : p' = none := by
      cases p' with
      | none => rfl
      | some x =>
        exfalso
        obtain ⟨bb, q, f⟩ := x
        have h0 : cap = 0 := h.1.1.2 rfl
        have hl : l = [] := List.length_eq_zero_iff.1 (by omega)
        subst hl
        have hk0 : k = 0 := by simpa using hk
        subst hk0
        have := a w
        rw [run_slice_l (P := Tryd.prog) w 27 none ([] : Txt).length cap (by rw [bytes_elem]; exact Tryd.underlying27) .i64 ((0 : Nat) : Int) (by omega) (by simp), bytes_elem, sizeU8] at this
        simp [Result.andThen, sliced] at this
    subst hp
    exact ⟨none, c', a, ⟨b, Or.inl rfl⟩, fun g o e => by cases e⟩
  · by_cases hck : cap = k
    · refine ⟨some ⟨g, o, none⟩, 0, fun w' => ?_, ⟨⟨⟨by rw [List.length_drop]; omega, fun e => by cases e⟩, by unfold maxLen; omega, Or.inl (List.drop_eq_nil_of_le (by omega))⟩, Or.inr ⟨g, o, cs, rfl, hg, hB, by omega⟩⟩, fun g' o' e => by cases e; exact ⟨_, rfl⟩⟩
      rw [run_slice_l (P := Tryd.prog) w' 27 _ l.length cap (by rw [bytes_elem]; exact Tryd.underlying27) .i64 (k : Int) (by omega) (by omega), bytes_elem, sizeU8]
      simp only [Result.andThen, sliced, Int.toNat_natCast, List.length_drop]
      rw [if_pos hck, show cap - k = 0 by omega]
    · refine ⟨some ⟨g, o + k, none⟩, cap - k, fun w' => ?_, ⟨⟨⟨by rw [List.length_drop]; omega, fun e => by cases e⟩, by omega, ?_⟩, Or.inr ⟨g, o + k, cs, rfl, hg, hB, by omega⟩⟩, fun g' o' e => by cases e; exact ⟨_, rfl⟩⟩
      · rw [run_slice_l (P := Tryd.prog) w' 27 _ l.length cap (by rw [bytes_elem]; exact Tryd.underlying27) .i64 (k : Int) (by omega) (by omega), bytes_elem, sizeU8]
        simp only [Result.andThen, sliced, Int.toNat_natCast, List.length_drop]
        rw [if_neg hck]
        simp [Addr.add]
      · by_cases he : l.drop k = []
        · exact Or.inl he
        · right
          obtain ⟨g', o', e, hg', hcl⟩ := h.1.at (by rintro rfl; simp at he)
          cases e
          refine ⟨g, o + k, rfl, hg', fun i c hi => ?_⟩
          rw [List.getElem?_drop] at hi
          rw [Nat.add_assoc]; exact hcl _ _ hi
theorem byc1 {l : Txt} : ∀ u ∈ l.map byc, u.oneCell' = true := by intro u hu; obtain ⟨_, _, rfl⟩ := List.mem_map.1 hu; rfl
theorem upd_setCells (g : Nat) : ∀ (vs : List Value) (o : Nat) (w : World), Upd (fun k => k = g) w (w.setCells g o vs)
  | [], o, w => Upd.refl _ _
  | v :: r, o, w => ((Upd.refl (fun k => k = g) w).set (b := g) (o := o) (v := v) (fun _ => rfl)).trans (upd_setCells g r (o + 1) _) (fun _ _ h => h)
theorem blk_setCells {g : Nat} {T : TypeId} : ∀ (vs : List Value) (o : Nat) (w : World) (cs : List Value), Blk w g cs T → ∃ cs', cs'.length = cs.length ∧ Blk (w.setCells g o vs) g cs' T
  | [], o, w, cs, h => ⟨cs, rfl, h⟩
  | v :: r, o, w, cs, h => by
    obtain ⟨cs', h1, h2⟩ := blk_setCells r (o + 1) _ _ (h.set o v)
    exact ⟨cs', by rw [h1, List.length_set], h2⟩
/-- More behind them. -/
theorem win_app (w : World) (base : Nat) (p : Option Addr) (cap : Nat) (l : Txt) (h : WinB w base p cap l) (tx : TypeId) (x : Value) (b : Txt) (hs : Src Tryd.prog 1 tx x b.length (b.map byc) w)
    (hl : l.length + b.length ≤ 1000000000000) (hb : base ≤ w.heap.size) :
    ∃ p' c' w', (Builtin.append_ #[27, tx] 27 #[.slice p l.length cap, x]).run Tryd.prog w = .ok (.slice p' (l.length + b.length) c') w' ∧ WinB w' base p' c' (l ++ b) ∧ Upd (fun k => ∃ o, p = some ⟨k, o, none⟩) w w' ∧ (∀ k o, p' = some ⟨k, o, none⟩ → (∃ o, p = some ⟨k, o, none⟩) ∨ w.heap.size ≤ k) := by
  obtain ⟨i, hi, hz0, hz1, hz2⟩ := info_parts u8_info
  have hz1 : i.size = 1 := hz1
  have hz2 : i.bytes = 1 := hz2
  have h1 := h.1.1.1
  have h2 := h.1.2.1
  have hs' : Src Tryd.prog i.size tx x b.length (b.map byc) w := by rw [hz1]; exact hs
  by_cases hb0 : b = []
  · subst hb0
    exact ⟨p, cap, w, run_append_nothing (P := Tryd.prog) w 27 tx 27 5 i Tryd.underlying27 hi p l.length cap h1 x hs', by simpa using h, Upd.refl _ _, fun k o e => Or.inl ⟨o, e⟩⟩
  · have hbl : 0 < b.length := List.length_pos_iff.2 hb0
    by_cases hroom : l.length + b.length ≤ cap
    · rcases h.2 with rfl | ⟨g, o, cs, rfl, hg, hB, hc⟩
      · have := h.1.1.2 rfl; omega
      have hbm : (b.map byc).length = b.length := by simp
      have hin : ∀ j, j < (b.map byc).length → (w.cell? ⟨g, o + l.length * i.size + j, none⟩).isSome = true := fun j hj => by
        rw [hB.cell, hz1, List.getElem?_eq_getElem (by omega)]; rfl
      have hr := run_append_room_src (P := Tryd.prog) w 27 tx 27 5 i Tryd.underlying27 hi g o l.length cap x b.length (b.map byc) hs' hroom hin (fun j hj => hB.free _)
      rw [hz1, Nat.mul_one] at hr
      rw [hz1, Nat.mul_one] at hin
      refine ⟨_, cap, _, hr, ⟨⟨⟨by simp; omega, fun e => by cases e⟩, h2, Or.inr ⟨g, o, rfl, ?_, fun k c hk => ?_⟩⟩, Or.inr ⟨g, o, ?_⟩⟩, (upd_setCells g _ _ w).weaken (fun k _ e => ⟨o, by rw [e]⟩), fun k o' e => Or.inl ⟨o', e⟩⟩
      · exact Nat.lt_of_lt_of_le hB.lt (upd_setCells g _ _ w).size
      · by_cases hkl : k < l.length
        · rw [World.cell?_setCells_out g _ _ _ _ (fun _ _ => Or.inl (by show o + k < o + l.length; omega))]
          rw [List.getElem?_append_left hkl] at hk
          obtain ⟨g', o', e, _, hcl⟩ := h.1.at (by rintro rfl; simp at hkl)
          cases e
          exact hcl k c hk
        · rw [List.getElem?_append_right (by omega)] at hk
          have hkb := (List.getElem?_eq_some_iff.1 hk).1
          have := World.cell?_setCells_in g (b.map byc) (o + l.length) w hin (k - l.length) (by omega)
          have e : o + l.length + (k - l.length) = o + k := by omega
          rw [e] at this
          rw [this, List.getElem_map]
          obtain ⟨_, e2⟩ := List.getElem?_eq_some_iff.1 hk
          rw [e2]
      · obtain ⟨cs', q1, q2⟩ := blk_setCells (b.map byc) (o + l.length) w cs hB
        exact ⟨cs', rfl, hg, q2, by omega⟩
    · have hold : (Builtin.firstCells i.size l.length (.slice p l.length cap)).run Tryd.prog w.drew = .ok (l.map byc).toArray w.drew := by
        rw [hz1]
        cases p with
        | none =>
          have h0 : cap = 0 := h.1.1.2 rfl
          have hl0 : l = [] := List.length_eq_zero_iff.1 (by omega)
          subst hl0
          exact (Src.ofNil (P := Tryd.prog) (size := 1) w (tx := 27) Tryd.underlying27 cap).cellsD
        | some a =>
          refine (Src.ofSlice (P := Tryd.prog) (size := 1) w (tx := 27) Tryd.underlying27 a l.length cap (l.map byc) (by simp) (fun j u hj => ?_) byc1).cellsD
          rw [List.getElem?_map] at hj
          obtain ⟨c, hc, rfl⟩ := Option.map_eq_some_iff.1 hj
          obtain ⟨g, o, e, _, hcl⟩ := h.1.at (by rintro rfl; simp at hc)
          cases e
          rw [Addr.add_lit]
          exact hcl j c hc
      have hr := run_append_grow_src (P := Tryd.prog) w 27 tx 27 5 i (.int .u8 0) Tryd.underlying27 hi hz0 p l.length cap (l.map byc) hold x b.length (b.map byc) hs' (by omega) (by omega) (by rw [hz2]; exact growslice_fits (by omega) (by omega))
      have hge := grownCap_ge w (l.length + b.length) cap 5
      have hcm := grownCap_le_maxLen w (l.length + b.length) cap 5 (by unfold maxLen; omega)
      generalize grownCap w (l.length + b.length) cap 5 = nc at *
      have hblk : Blk (w.drew.alloc (.cells ((l.map byc ++ b.map byc).toArray ++ Builtin.zeroCells (Value.int .u8 0).cells (nc - (l.length + b.length))) 5)) w.heap.size ((l ++ b).map byc ++ (Builtin.zeroCells (Value.int .u8 0).cells (nc - (l.length + b.length))).toList) 5 := by
        have := Blk.made w.drew ((l ++ b).map byc ++ (Builtin.zeroCells (Value.int .u8 0).cells (nc - (l.length + b.length))).toList) 5
        have e : ((l ++ b).map byc ++ (Builtin.zeroCells (Value.int .u8 0).cells (nc - (l.length + b.length))).toList).toArray = (l.map byc ++ b.map byc).toArray ++ Builtin.zeroCells (Value.int .u8 0).cells (nc - (l.length + b.length)) := by
          apply Array.ext'; simp
        rw [e] at this; exact this
      refine ⟨_, nc, _, hr, ⟨⟨⟨by simp; omega, fun e => by cases e⟩, hcm, Or.inr ⟨w.heap.size, 0, rfl, hblk.lt, fun k c hk => ?_⟩⟩, Or.inr ⟨w.heap.size, 0, _, rfl, hb, hblk, ?_⟩⟩, ((Upd.refl _ _).drew).alloc _, fun k o e => by cases e; exact Or.inr (Nat.le_refl _)⟩
      · have hkl := (List.getElem?_eq_some_iff.1 hk).1
        rw [Nat.zero_add, hblk.cell, List.getElem?_append_left (by simpa using hkl), List.getElem?_map, hk]; rfl
      · have hz : (Value.int .u8 0).cells.size = 1 := rfl
        rw [List.length_append, List.length_map, List.length_append]
        have : (Builtin.zeroCells (Value.int .u8 0).cells (nc - (l.length + b.length))).toList.length = nc - (l.length + b.length) := by
          rw [Array.length_toList, size_zeroCells, hz, Nat.mul_one]
        omega
theorem src_bat {w : World} {q : Option Addr} {c : Nat} {b : Txt} (h : BAt w q c b) : Src Tryd.prog 1 27 (.slice q b.length c) b.length (b.map byc) w := by
  cases q with
  | none =>
    have h0 : c = 0 := h.1.2 rfl
    have := h.1.1
    have hl0 : b = [] := List.length_eq_zero_iff.1 (by omega)
    subst hl0
    exact Src.ofNil (P := Tryd.prog) (size := 1) w (tx := 27) Tryd.underlying27 c
  | some a =>
    refine Src.ofSlice (P := Tryd.prog) (size := 1) w (tx := 27) Tryd.underlying27 a b.length c (b.map byc) (by simp) (fun j u hj => ?_) byc1
    rw [List.getElem?_map] at hj
    obtain ⟨x, hc, rfl⟩ := Option.map_eq_some_iff.1 hj
    obtain ⟨g, o, e, _, hcl⟩ := h.at (by rintro rfl; simp at hc)
    cases e
    rw [Addr.add_lit]
    exact hcl j x hc
theorem src_str (w : World) (b : Txt) : Src Tryd.prog 1 9 (.string (ofL b)) b.length (b.map byc) w := by
  have := Src.ofString (P := Tryd.prog) w (tx := 9) Tryd.underlying9 (ofL b)
  have e : byteCells (ofL b) = b.map byc := rfl
  rw [ofL_size, e] at this
  exact this
end Go.Proofs.YtkemjjhmabemiaaDoor
