/- The document's marks: Same, begins, Get, Drop, Above, Walk. -/
import Derived.Test.YtnlbmplbaalgmaaLawParts
import Derived.Test.YtnlbmplbaalgmaaRadY
set_option linter.unusedVariables false
set_option linter.unusedSimpArgs false
namespace Go.Proofs.Ytnlbmplbaalgmaa
open Go.RowKit

theorem MarksAt.row {w : World} {base : Nat} {v : Value} {l : List MarkP} (h : MarksAt w base v l) : RowOf mkc 2 w v l := by
  obtain ⟨_, ⟨rfl, hn⟩ | ⟨g, cap, cs, rfl, hg, hB, hc, hm, hle⟩⟩ := own2_blk h
  · exact Or.inl ⟨none, 0, rfl, List.length_eq_zero_iff.1 hn⟩
  · refine Or.inr ⟨g, 0, cap, rfl, hB.lt, by omega, fun i a hi j hj => ?_⟩
    have hil : i < l.length := (List.getElem?_eq_some_iff.1 hi).1
    rw [Nat.zero_add, hB.cell, List.getElem?_append_left (by rw [flat_length mkc 2 (fun _ => rfl)]; omega), flat_get mkc 2 (fun _ => rfl) l i j hj, hi]; rfl
/-- The cells of a mark in a row that is only read. -/
theorem mark_rcells {w : World} {p : Option Addr} {c : Nat} {l : List MarkP} (h : RowOf mkc 2 w (.slice p l.length c) l) {k : Nat} (hk : k < l.length) :
    ∃ b off m, p = some ⟨b, off, none⟩ ∧ b < w.heap.size ∧ l[k]? = some m ∧ w.cell? ⟨b, off + k * 2, none⟩ = some (.string (ofL m.1)) ∧ w.cell? ⟨b, off + k * 2 + 1, none⟩ = some (.int .i64 m.2) := by
  rcases h with ⟨_, _, _, e⟩ | ⟨b, off, c, e, hb, _, hc⟩
  · rw [e] at hk; simp at hk
  · simp only [Value.slice.injEq] at e
    have hx : l[k]? = some l[k] := List.getElem?_eq_getElem hk
    refine ⟨b, off, l[k], e.1, hb, hx, ?_, ?_⟩
    · have := hc k _ hx 0 (by omega); rw [Nat.add_zero] at this; simpa [mkc] using this
    · have := hc k _ hx 1 (by omega); rw [← Nat.add_assoc] at this; simpa [mkc] using this
theorem take_snocM {l : List MarkP} {k : Nat} {d : MarkP} (h : l[k]? = some d) : l.take (k + 1) = l.take k ++ [d] := by
  obtain ⟨h1, e⟩ := List.getElem?_eq_some_iff.1 h
  rw [List.take_succ_eq_append_getElem h1, e]
theorem flat_snocM (l : List MarkP) (d : MarkP) : flat mkc (l ++ [d]) = flat mkc l ++ [.string (ofL d.1), .int .i64 d.2] := by simp [flat, mkc]
/-- One mark more, at a row of the call's own: the run of append behind the element's block. -/
theorem marks_append (w : World) (base : Nat) (ty : TypeId) (v : Value) (l : List MarkP) (h : MarksAt w base v l) (hl : l.length ≤ 100000) (hb : base ≤ w.heap.size) (t : Txt) (n : Int) :
    ∃ v' w', (Builtin.append_ #[27, 27] ty #[v, .slice (some ⟨w.heap.size, 0, none⟩) 1 1]).run Try.prog (w.alloc (.cells #[.string (ofL t), .int .i64 n] 30)) = .ok v' w' ∧ MarksAt w' base v' (l ++ [(t, n)]) ∧ Upd (fun k => v.ownBlock = some k) w w' ∧ NewOr v v' w := by
  obtain ⟨i0, hi0, hz0, hz1, hz2⟩ := rinfo_parts mark_info
  have u0 : Upd (fun _ => False) w (w.alloc (.cells #[.string (ofL t), .int .i64 n] 30)) := (Upd.refl _ _).alloc _
  have hN : Blk (w.alloc (.cells #[.string (ofL t), .int .i64 n] 30)) w.heap.size [.string (ofL t), .int .i64 n] 30 := Blk.made w [.string (ofL t), .int .i64 n] _
  have hown2 := own_keep h u0 (fun _ _ h => h)
  have hn : ∀ j u, [Value.string (ofL t), .int .i64 n][j]? = some u → (w.alloc (.cells #[.string (ofL t), .int .i64 n] 30)).cell? ((⟨w.heap.size, 0, none⟩ : Addr).add j) = some u := World.news_of_block (cs := #[.string (ofL t), .int .i64 n]) (t := 30) (fr := (0, 0)) hN
  have ho : ∀ u ∈ [Value.string (ofL t), .int .i64 n], u.oneCell' = true := by intro u hu; simp at hu; rcases hu with rfl | rfl <;> rfl
  obtain ⟨v', w', hr, q2, q3, _⟩ := run_append_own (P := Try.prog) _ base 27 ty 30 i0 (.agg #[.string ByteArray.empty, .int .i64 0]) 2 24 Try.underlying27 hi0 hz0 hz1 hz2 rfl (by decide) v l.length _ hown2 ⟨w.heap.size, 0, none⟩ 1 1 _ rfl hn ho (by unfold maxLen; omega) (by omega) (Nat.le_trans hb u0.size)
  have hw := run_append_where (P := Try.prog) _ base 27 ty 30 i0 (.agg #[.string ByteArray.empty, .int .i64 0]) 2 24 Try.underlying27 hi0 hz0 hz1 hz2 v l.length _ hown2 ⟨w.heap.size, 0, none⟩ 1 1 _ rfl hn ho (by decide) (by unfold maxLen; omega) (by omega) v' w' hr
  refine ⟨v', w', hr, ?_, (u0.weaken (F := fun k => v.ownBlock = some k) (fun _ _ h => h.elim)).trans (Upd.of_grown q3) (fun k _ hk => hk.symm), fun k hk => (hw k hk).elim Or.inl (fun g => Or.inr (Nat.le_trans u0.size g))⟩
  unfold MarksAt
  rw [flat_snocM, List.length_append]; exact q2
set_option maxHeartbeats 4000000 in
set_option maxRecDepth 100000 in
theorem rbegins_any (s p : Txt) (w : World) : Calls Try.prog 50 #[.string (ofL s), .string (ofL p)] w fun e w' => e = .returned (.bool (decide (p <+: s))) ∧ w' = w := by
  have s1 := ofL_size s
  have s2 := ofL_size p
  by_cases hl : p.length ≤ s.length
  · have q1 : (p.length : Int) ≤ (s.length : Int) := by omega
    have rt := run_take s (p.length : Int) (by omega) q1
    rw [Int.toNat_natCast] at rt
    have BQ := beq_txt (s.take p.length) p
    have R : Hid (decide (s.take p.length = p) = decide (p <+: s)) := decide_eq_decide.2 take_pre
    rw [R.out] at BQ
    generalize decide (p <+: s) = res at *
    generalize ofL (s.take p.length) = st at *
    generalize ofL s = sa at *
    generalize ofL p = sp at *
    generalize s.length = la at *
    generalize p.length = lp at *
    clear hl R
    go_enter Try.func50, Try.ntmps50
    go_wp2
    go_ret
    exact ⟨rfl, rfl⟩
  · have q1 : ¬ (p.length : Int) ≤ (s.length : Int) := by omega
    have hr : decide (p <+: s) = false := decide_eq_false fun h => hl h.length_le
    rw [hr]
    generalize ofL s = sa at *
    generalize ofL p = sp at *
    generalize s.length = la at *
    generalize p.length = lp at *
    clear hl hr
    go_enter Try.func50, Try.ntmps50
    go_wp2
    go_ret
    exact ⟨rfl, rfl⟩
theorem getL_snoc (l : List MarkP) (d : MarkP) (key : Txt) : getL (l ++ [d]) key = if (getL l key).2 then getL l key else if d.1 = key then (d.2, true) else (0, false) := by
  unfold getL
  rw [List.find?_append]
  cases hf : l.find? fun m => decide (m.1 = key) with
  | some m => simp
  | none =>
    by_cases e : d.1 = key
    · simp [e]
    · simp [e]
set_option maxHeartbeats 4000000 in
set_option maxRecDepth 100000 in
theorem rget_any (v : Value) (l : List MarkP) (key : Txt) (w : World) (h : RowOf mkc 2 w v l) (hl : l.length ≤ 100000) :
    Calls Try.prog 25 #[v, .string (ofL key)] w fun e w' => e = .returned (.tuple #[.int .i64 (getL l key).1, .bool (getL l key).2]) ∧ Upd (fun _ => False) w w' := by
  obtain ⟨p, c, ev, hm⟩ := h.len
  subst ev
  have H := Lib.hid h
  obtain ⟨sk, hsk⟩ : ∃ sk, sk = ofL key := ⟨_, rfl⟩
  rw [← hsk]
  have SK := Lib.hid hsk
  clear h hsk
  go_enter Try.func25, Try.ntmps25
  go_wp2
  go_loopw [10] (fun x10 wr => ∃ (k : Nat), k ≤ l.length ∧ x10 = .int .i64 (k : Int) ∧ Hid (getL (l.take k) key = (0, false)) ∧ Hid (Upd (fun _ => False) w wr)) (fun x10 _ => l.length - (intOf x10).toNat)
  case atStart => exact ⟨0, by omega, rfl, Lib.hid rfl, Lib.hid (Upd.refl _ _)⟩
  case round =>
    obtain ⟨k, hk, rfl, GK, U⟩ := hrel
    by_cases hlt : k < l.length
    · have q1 : (k : Int) < (l.length : Int) := by omega
      obtain ⟨b, off, m, ep, hb, hmk, c0, c1⟩ := mark_rcells (H.out.keep U.out (fun _ _ _ h => h)) hlt
      subst ep
      have BQ := beq_txt m.1 key
      rw [← SK.out] at BQ
      have GN := getL_snoc (l.take k) m key
      rw [← take_snocM hmk, GK.out] at GN
      simp only [Bool.false_eq_true, if_false] at GN
      by_cases e : m.1 = key
      · rw [decide_eq_true e] at BQ
        rw [if_pos e] at GN
        have GA : Hid (getL l key = (m.2, true)) := by
          show _ = _
          unfold getL at GN ⊢
          cases hf : (l.take (k + 1)).find? fun m => decide (m.1 = key) with
          | none => rw [hf] at GN; exact absurd (congrArg Prod.snd GN) (by simp)
          | some q =>
            rw [hf] at GN
            have : l.find? (fun m => decide (m.1 = key)) = some q := by
              have := List.take_append_drop (k + 1) l
              rw [← this, List.find?_append, hf]; rfl
            rw [this]; exact GN
        generalize ofL m.1 = sm at *
        clear hmk GN e
        generalize l.length = nl at *
        go_wp2
        go_ret2
        exact ⟨by rw [GA.out]; rfl, U.out.alloc _⟩
      · rw [decide_eq_false e] at BQ
        rw [if_neg e] at GN
        have GN := Lib.hid GN
        generalize ofL m.1 = sm at *
        clear hmk e
        generalize hnl : l.length = nl at *
        go_wp2
        go_roundw
        case rel => exact ⟨k + 1, by omega, by simp, GN, Lib.hid (U.out.alloc _)⟩
        case measure => simp [intOf]; omega
    · have q1 : ¬ (k : Int) < (l.length : Int) := by omega
      have GA : Hid (getL l key = (0, false)) := by
        have := GK.out
        rw [List.take_of_length_le (by omega)] at this; exact this
      generalize l.length = nl at *
      go_wp2
      go_ret2
      exact ⟨by rw [GA.out]; rfl, U.out⟩
set_option maxHeartbeats 8000000 in
set_option maxRecDepth 100000 in
theorem rdrop_any (v : Value) (l : List MarkP) (key : Txt) (w : World) (h : RowOf mkc 2 w v l) (hl : l.length ≤ 10000) :
    Calls Try.prog 23 #[v, .string (ofL key)] w fun e w' => ∃ v', e = .returned (.tuple #[v', .bool (decide ((cutM key l).length < l.length))]) ∧ MarksAt w' w.heap.size v' (cutM key l) ∧ Upd (fun _ => False) w w' := by
  obtain ⟨p, c, ev, hm⟩ := h.len
  subst ev
  have H := Lib.hid h
  obtain ⟨sk, hsk⟩ : ∃ sk, sk = ofL key := ⟨_, rfl⟩
  rw [← hsk]
  have SK := Lib.hid hsk
  have MO : Hid (MarksAt (w.alloc (.cells #[] 30)) w.heap.size (.slice (some ⟨w.heap.size, 0, none⟩) 0 0) []) := World.ownsRow_made (e := 30) (size := 2) w #[] 0 (Nat.le_refl _) (by unfold maxLen; omega) rfl
  have UO : Hid (Upd (fun _ => False) w (w.alloc (.cells #[] 30))) := (Upd.refl _ _).alloc _
  clear h hsk
  go_enter Try.func23, Try.ntmps23
  go_wp2
  go_loopw [6, 12] (fun out xi wr => ∃ (k : Nat), k ≤ l.length ∧ xi = .int .i64 (k : Int) ∧ Hid (MarksAt wr w.heap.size out (cutM key (l.take k))) ∧ Hid (Upd (fun _ => False) w wr)) (fun _ xi _ => l.length - (intOf xi).toNat)
  case atStart => exact ⟨0, by omega, rfl, MO, UO⟩
  case round =>
    clear MO UO
    obtain ⟨k, hk, rfl, OW, U⟩ := hrel
    have hwl := U.out.size
    obtain ⟨acc, hacc⟩ : ∃ acc, cutM key (l.take k) = acc := ⟨_, rfl⟩
    have hal : acc.length ≤ 10000 := by rw [← hacc]; exact Nat.le_trans (List.length_filter_le _ _) (by rw [List.length_take]; omega)
    rw [hacc] at OW
    have ACC := Lib.hid hacc
    clear hacc
    obtain ⟨po, co, eo, _⟩ := own_slice OW.out
    subst eo
    by_cases hlt : k < l.length
    · have q1 : (k : Int) < (l.length : Int) := by omega
      obtain ⟨b, off, m, ep, hb, hmk, c0, c1⟩ := mark_rcells (H.out.keep U.out (fun _ _ _ h => h)) hlt
      subst ep
      have TK : Hid (cutM key (l.take (k + 1)) = acc ++ cutM key [m]) := by
        show _ = _
        rw [take_snocM hmk, ← ACC.out]; exact List.filter_append ..
      have AP := marks_append (wr.alloc (.cells #[.string (ofL m.1), .int .i64 m.2] 30)) w.heap.size 27 _ acc (own_keep OW.out ((Upd.refl (fun _ => False) wr).alloc _) (fun _ _ h => h)) (by omega) (by simp; omega) m.1 m.2
      rw [World.size_alloc] at AP
      obtain ⟨v', w', hr, AM, AU, _⟩ := AP
      obtain ⟨p3, c3, e3, _⟩ := own_slice AM
      subst e3
      have UF : Hid (Upd (fun _ => False) w w') := (U.out.alloc _).trans AU (fun q hq e => by have := (own2_lt OW.out e).2.1; omega)
      have AM := Lib.hid AM
      (have BQ := beq_txt m.1 key; rw [← SK.out] at BQ)
      by_cases e : m.1 ≠ key
      · rw [decide_eq_false e] at BQ
        have FN : Hid (cutM key [m] = [m]) := List.filter_eq_self.2 (by intro x hx; simp at hx; subst hx; simpa using e)
        have AM2 : Hid (MarksAt w' w.heap.size (.slice p3 (acc ++ [(m.1, m.2)]).length c3) (cutM key (l.take (k + 1)))) := by show MarksAt _ _ _ _; rw [TK.out, FN.out]; exact AM.out
        generalize (acc ++ [(m.1, m.2)]).length = na at *
        generalize hsm : ofL m.1 = sm at *
        clear hmk e AM TK
        generalize hnl : l.length = nl at *
        skip
        go_wp2_with (at_builtin; refine wpList_builtin rfl _ _ 27 rfl _ _ rfl rfl hr ?_)
        go_roundw
        case rel => exact ⟨k + 1, by omega, by simp, AM2, UF⟩
        case measure => simp [intOf]; omega
      · rw [decide_eq_true (Decidable.not_not.1 e)] at BQ
        have FN : Hid (cutM key [m] = []) := List.filter_eq_nil_iff.2 (by intro x hx; simp at hx; subst hx; simpa using e)
        have OW2 : Hid (MarksAt (wr.alloc (.cells #[.string (ofL m.1), .int .i64 m.2] 30)) w.heap.size (.slice po acc.length co) (cutM key (l.take (k + 1)))) := by
          show MarksAt _ _ _ _
          rw [TK.out, FN.out, List.append_nil]; exact own_keep OW.out ((Upd.refl (fun _ => False) wr).alloc _) (fun _ _ h => h)
        clear AM UF hr
        generalize hsm : ofL m.1 = sm at *
        clear hmk e TK
        generalize hnl : l.length = nl at *
        skip
        go_wp2
        go_roundw
        case rel => exact ⟨k + 1, by omega, by simp, OW2, Lib.hid (U.out.alloc _)⟩
        case measure => simp [intOf]; omega
    · have q1 : ¬ (k : Int) < (l.length : Int) := by omega
      have EA : Hid (acc = cutM key l) := by show _ = _; rw [← ACC.out, List.take_of_length_le (by omega)]
      (go_wp2; go_ret2; rw [← EA.out]; exact ⟨_, rfl, OW.out, U.out⟩)
def aboveK (key : Txt) (l : List MarkP) : List MarkP := aboveL l key
def walkK (key : Txt) (l : List MarkP) : List MarkP := walkL l key
set_option maxHeartbeats 8000000 in
set_option maxRecDepth 100000 in
theorem rabove_any (v : Value) (l : List MarkP) (key : Txt) (w : World) (h : RowOf mkc 2 w v l) (hl : l.length ≤ 10000) :
    Calls Try.prog 26 #[v, .string (ofL key)] w fun e w' => ∃ v', e = .returned v' ∧ MarksAt w' w.heap.size v' (aboveK key l) ∧ Upd (fun _ => False) w w' := by
  obtain ⟨p, c, ev, hm⟩ := h.len
  subst ev
  have H := Lib.hid h
  obtain ⟨sk, hsk⟩ : ∃ sk, sk = ofL key := ⟨_, rfl⟩
  rw [← hsk]
  have SK := Lib.hid hsk
  have MO : Hid (MarksAt (w.alloc (.cells #[] 30)) w.heap.size (.slice (some ⟨w.heap.size, 0, none⟩) 0 0) []) := World.ownsRow_made (e := 30) (size := 2) w #[] 0 (Nat.le_refl _) (by unfold maxLen; omega) rfl
  have UO : Hid (Upd (fun _ => False) w (w.alloc (.cells #[] 30))) := (Upd.refl _ _).alloc _
  clear h hsk
  go_enter Try.func26, Try.ntmps26
  go_wp2
  go_loopw [5, 11] (fun out xi wr => ∃ (k : Nat), k ≤ l.length ∧ xi = .int .i64 (k : Int) ∧ Hid (MarksAt wr w.heap.size out (aboveK key (l.take k))) ∧ Hid (Upd (fun _ => False) w wr)) (fun _ xi _ => l.length - (intOf xi).toNat)
  case atStart => exact ⟨0, by omega, rfl, MO, UO⟩
  case round =>
    clear MO UO
    obtain ⟨k, hk, rfl, OW, U⟩ := hrel
    have hwl := U.out.size
    obtain ⟨acc, hacc⟩ : ∃ acc, aboveK key (l.take k) = acc := ⟨_, rfl⟩
    have hal : acc.length ≤ 10000 := by rw [← hacc]; exact Nat.le_trans (List.length_filter_le _ _) (by rw [List.length_take]; omega)
    rw [hacc] at OW
    have ACC := Lib.hid hacc
    clear hacc
    obtain ⟨po, co, eo, _⟩ := own_slice OW.out
    subst eo
    by_cases hlt : k < l.length
    · have q1 : (k : Int) < (l.length : Int) := by omega
      obtain ⟨b, off, m, ep, hb, hmk, c0, c1⟩ := mark_rcells (H.out.keep U.out (fun _ _ _ h => h)) hlt
      subst ep
      have TK : Hid (aboveK key (l.take (k + 1)) = acc ++ aboveK key [m]) := by
        show _ = _
        rw [take_snocM hmk, ← ACC.out]; exact List.filter_append ..
      have AP := marks_append (wr.alloc (.cells #[.string (ofL m.1), .int .i64 m.2] 30)) w.heap.size 27 _ acc (own_keep OW.out ((Upd.refl (fun _ => False) wr).alloc _) (fun _ _ h => h)) (by omega) (by simp; omega) m.1 m.2
      rw [World.size_alloc] at AP
      obtain ⟨v', w', hr, AM, AU, _⟩ := AP
      obtain ⟨p3, c3, e3, _⟩ := own_slice AM
      subst e3
      have UF : Hid (Upd (fun _ => False) w w') := (U.out.alloc _).trans AU (fun q hq e => by have := (own2_lt OW.out e).2.1; omega)
      have AM := Lib.hid AM
      (have BQ := Lib.hid (rbegins_any key m.1); rw [← SK.out] at BQ)
      by_cases e : m.1 <+: key
      · rw [decide_eq_true e] at BQ
        have FN : Hid (aboveK key [m] = [m]) := List.filter_eq_self.2 (by intro x hx; simp at hx; subst hx; simpa using e)
        have AM2 : Hid (MarksAt w' w.heap.size (.slice p3 (acc ++ [(m.1, m.2)]).length c3) (aboveK key (l.take (k + 1)))) := by show MarksAt _ _ _ _; rw [TK.out, FN.out]; exact AM.out
        generalize (acc ++ [(m.1, m.2)]).length = na at *
        generalize hsm : ofL m.1 = sm at *
        clear hmk e AM TK
        generalize hnl : l.length = nl at *
        go_wp2_with fail
        refine (BQ.out _).mono ?_
        rintro e w9 ⟨rfl, rfl⟩
        go_wp2_with (at_builtin; refine wpList_builtin rfl _ _ 27 rfl _ _ rfl rfl hr ?_)
        go_roundw
        case rel => exact ⟨k + 1, by omega, by simp, AM2, UF⟩
        case measure => simp [intOf]; omega
      · rw [decide_eq_false e] at BQ
        have FN : Hid (aboveK key [m] = []) := List.filter_eq_nil_iff.2 (by intro x hx; simp at hx; subst hx; simpa using e)
        have OW2 : Hid (MarksAt (wr.alloc (.cells #[.string (ofL m.1), .int .i64 m.2] 30)) w.heap.size (.slice po acc.length co) (aboveK key (l.take (k + 1)))) := by
          show MarksAt _ _ _ _
          rw [TK.out, FN.out, List.append_nil]; exact own_keep OW.out ((Upd.refl (fun _ => False) wr).alloc _) (fun _ _ h => h)
        clear AM UF hr
        generalize hsm : ofL m.1 = sm at *
        clear hmk e TK
        generalize hnl : l.length = nl at *
        go_wp2_with fail
        refine (BQ.out _).mono ?_
        rintro e w9 ⟨rfl, rfl⟩
        go_wp2
        go_roundw
        case rel => exact ⟨k + 1, by omega, by simp, OW2, Lib.hid (U.out.alloc _)⟩
        case measure => simp [intOf]; omega
    · have q1 : ¬ (k : Int) < (l.length : Int) := by omega
      have EA : Hid (acc = aboveK key l) := by show _ = _; rw [← ACC.out, List.take_of_length_le (by omega)]
      (go_wp2; go_ret; rw [← EA.out]; exact ⟨_, rfl, OW.out, U.out⟩)
set_option maxHeartbeats 8000000 in
set_option maxRecDepth 100000 in
theorem rwalk_any (v : Value) (l : List MarkP) (key : Txt) (w : World) (h : RowOf mkc 2 w v l) (hl : l.length ≤ 10000) :
    Calls Try.prog 27 #[v, .string (ofL key)] w fun e w' => ∃ v', e = .returned v' ∧ MarksAt w' w.heap.size v' (walkK key l) ∧ Upd (fun _ => False) w w' := by
  obtain ⟨p, c, ev, hm⟩ := h.len
  subst ev
  have H := Lib.hid h
  obtain ⟨sk, hsk⟩ : ∃ sk, sk = ofL key := ⟨_, rfl⟩
  rw [← hsk]
  have SK := Lib.hid hsk
  have MO : Hid (MarksAt (w.alloc (.cells #[] 30)) w.heap.size (.slice (some ⟨w.heap.size, 0, none⟩) 0 0) []) := World.ownsRow_made (e := 30) (size := 2) w #[] 0 (Nat.le_refl _) (by unfold maxLen; omega) rfl
  have UO : Hid (Upd (fun _ => False) w (w.alloc (.cells #[] 30))) := (Upd.refl _ _).alloc _
  clear h hsk
  go_enter Try.func27, Try.ntmps27
  go_wp2
  go_loopw [5, 11] (fun out xi wr => ∃ (k : Nat), k ≤ l.length ∧ xi = .int .i64 (k : Int) ∧ Hid (MarksAt wr w.heap.size out (walkK key (l.take k))) ∧ Hid (Upd (fun _ => False) w wr)) (fun _ xi _ => l.length - (intOf xi).toNat)
  case atStart => exact ⟨0, by omega, rfl, MO, UO⟩
  case round =>
    clear MO UO
    obtain ⟨k, hk, rfl, OW, U⟩ := hrel
    have hwl := U.out.size
    obtain ⟨acc, hacc⟩ : ∃ acc, walkK key (l.take k) = acc := ⟨_, rfl⟩
    have hal : acc.length ≤ 10000 := by rw [← hacc]; exact Nat.le_trans (List.length_filter_le _ _) (by rw [List.length_take]; omega)
    rw [hacc] at OW
    have ACC := Lib.hid hacc
    clear hacc
    obtain ⟨po, co, eo, _⟩ := own_slice OW.out
    subst eo
    by_cases hlt : k < l.length
    · have q1 : (k : Int) < (l.length : Int) := by omega
      obtain ⟨b, off, m, ep, hb, hmk, c0, c1⟩ := mark_rcells (H.out.keep U.out (fun _ _ _ h => h)) hlt
      subst ep
      have TK : Hid (walkK key (l.take (k + 1)) = acc ++ walkK key [m]) := by
        show _ = _
        rw [take_snocM hmk, ← ACC.out]; exact List.filter_append ..
      have AP := marks_append (wr.alloc (.cells #[.string (ofL m.1), .int .i64 m.2] 30)) w.heap.size 27 _ acc (own_keep OW.out ((Upd.refl (fun _ => False) wr).alloc _) (fun _ _ h => h)) (by omega) (by simp; omega) m.1 m.2
      rw [World.size_alloc] at AP
      obtain ⟨v', w', hr, AM, AU, _⟩ := AP
      obtain ⟨p3, c3, e3, _⟩ := own_slice AM
      subst e3
      have UF : Hid (Upd (fun _ => False) w w') := (U.out.alloc _).trans AU (fun q hq e => by have := (own2_lt OW.out e).2.1; omega)
      have AM := Lib.hid AM
      (have BQ := Lib.hid (rbegins_any m.1 key); rw [← SK.out] at BQ)
      by_cases e : key <+: m.1
      · rw [decide_eq_true e] at BQ
        have FN : Hid (walkK key [m] = [m]) := List.filter_eq_self.2 (by intro x hx; simp at hx; subst hx; simpa using e)
        have AM2 : Hid (MarksAt w' w.heap.size (.slice p3 (acc ++ [(m.1, m.2)]).length c3) (walkK key (l.take (k + 1)))) := by show MarksAt _ _ _ _; rw [TK.out, FN.out]; exact AM.out
        generalize (acc ++ [(m.1, m.2)]).length = na at *
        generalize hsm : ofL m.1 = sm at *
        clear hmk e AM TK
        generalize hnl : l.length = nl at *
        go_wp2_with fail
        refine (BQ.out _).mono ?_
        rintro e w9 ⟨rfl, rfl⟩
        go_wp2_with (at_builtin; refine wpList_builtin rfl _ _ 27 rfl _ _ rfl rfl hr ?_)
        go_roundw
        case rel => exact ⟨k + 1, by omega, by simp, AM2, UF⟩
        case measure => simp [intOf]; omega
      · rw [decide_eq_false e] at BQ
        have FN : Hid (walkK key [m] = []) := List.filter_eq_nil_iff.2 (by intro x hx; simp at hx; subst hx; simpa using e)
        have OW2 : Hid (MarksAt (wr.alloc (.cells #[.string (ofL m.1), .int .i64 m.2] 30)) w.heap.size (.slice po acc.length co) (walkK key (l.take (k + 1)))) := by
          show MarksAt _ _ _ _
          rw [TK.out, FN.out, List.append_nil]; exact own_keep OW.out ((Upd.refl (fun _ => False) wr).alloc _) (fun _ _ h => h)
        clear AM UF hr
        generalize hsm : ofL m.1 = sm at *
        clear hmk e TK
        generalize hnl : l.length = nl at *
        go_wp2_with fail
        refine (BQ.out _).mono ?_
        rintro e w9 ⟨rfl, rfl⟩
        go_wp2
        go_roundw
        case rel => exact ⟨k + 1, by omega, by simp, OW2, Lib.hid (U.out.alloc _)⟩
        case measure => simp [intOf]; omega
    · have q1 : ¬ (k : Int) < (l.length : Int) := by omega
      have EA : Hid (acc = walkK key l) := by show _ = _; rw [← ACC.out, List.take_of_length_le (by omega)]
      (go_wp2; go_ret; rw [← EA.out]; exact ⟨_, rfl, OW.out, U.out⟩)
set_option maxHeartbeats 4000000 in
set_option maxRecDepth 100000 in
theorem same07_any (v1 v2 : Value) (l1 l2 : List MarkP) (w : World) (h1 : RowOf mkc 2 w v1 l1) (h2 : RowOf mkc 2 w v2 l2) :
    Calls Try.prog 20 #[v1, v2] w fun e w' => e = .returned (.bool (decide (l1 = l2))) ∧ Upd (fun _ => False) w w' := by
  obtain ⟨p1, k1, e1, b1⟩ := h1.len
  obtain ⟨p2, k2, e2, b2⟩ := h2.len
  subst e1 e2
  unfold maxLen at b1 b2
  have H1 := Lib.hid h1
  have H2 := Lib.hid h2
  clear h1 h2
  by_cases hl : l1.length = l2.length
  · have hne : ((l1.length : Int) != (l2.length : Int)) = false := by simp [hl]
    have HL := Lib.hid hl
    clear hl
    go_enter Try.func20, Try.ntmps20
    go_wp2
    go_loopw [13] (fun c wr => ∃ k : Nat, k ≤ l1.length ∧ c = .int .i64 (k : Int) ∧ Hid (l1.take k = l2.take k) ∧ Hid (Upd (fun _ => False) w wr)) (fun c _ => l1.length - (intOf c).toNat)
    case atStart => exact ⟨0, by omega, rfl, Lib.hid rfl, Lib.hid (Upd.refl _ _)⟩
    case round =>
      obtain ⟨k, hk, rfl, T, U⟩ := hrel
      by_cases hlt : k < l1.length
      · have hl := HL.out
        have hlt2 : k < l2.length := by omega
        obtain ⟨g1, o1, m1, ep1, hb1, hm1, c0, c1⟩ := mark_rcells (H1.out.keep U.out (fun _ _ _ h => h)) hlt
        obtain ⟨g2, o2, m2, ep2, hb2, hm2, d0, d1⟩ := mark_rcells (H2.out.keep U.out (fun _ _ _ h => h)) hlt2
        subst ep1 ep2
        have T1 := Lib.hid (take_snocM hm1)
        have T2 := Lib.hid (take_snocM hm2)
        have M1 := Lib.hid hm1
        have M2 := Lib.hid hm2
        have BQ := beq_txt m1.1 m2.1
        have q1 : (k : Int) < (l1.length : Int) := by omega
        have q2 : (k : Int) < (l2.length : Int) := by omega
        clear hm1 hm2 hl
        by_cases es : m1.1 = m2.1
        · rw [decide_eq_true es] at BQ
          by_cases ei : m1.2 = m2.2
          · have em : m1 = m2 := Prod.ext es ei
            subst em
            generalize ofL m1.1 = s1 at *
            generalize hnl : l1.length = nl at *
            go_wp2
            go_quiet (fail)
            go_wp2
            go_roundw
            case rel => exact ⟨k + 1, by omega, by simp, Lib.hid (by rw [T1.out, T2.out, T.out]), Lib.hid (U.out.drewN nq)⟩
            case measure => simp [intOf]; omega
          · have NE : Hid (l1 ≠ l2) := fun e => by
              have h1 := M1.out
              rw [e, M2.out] at h1
              exact ei (by rw [Option.some.inj h1])
            have ei2 : (m1.2 == m2.2) = false := beq_eq_false_iff_ne.2 ei
            generalize ofL m1.1 = s1 at *
            generalize ofL m2.1 = s2 at *
            generalize m1.2 = n1 at *
            generalize m2.2 = n2 at *
            generalize hnl : l1.length = nl at *
            go_wp2
            go_quiet (fail)
            go_wp2
            go_ret
            exact ⟨by rw [decide_eq_false NE.out]; rfl, U.out.drewN nq⟩
        · have NE : Hid (l1 ≠ l2) := fun e => by
            have h1 := M1.out
            rw [e, M2.out] at h1
            exact es (by rw [Option.some.inj h1])
          rw [decide_eq_false es] at BQ
          generalize ofL m1.1 = s1 at *
          generalize ofL m2.1 = s2 at *
          generalize hnl : l1.length = nl at *
          go_wp2
          go_quiet (fail)
          go_wp2
          go_ret
          exact ⟨by rw [decide_eq_false NE.out]; rfl, U.out.drewN nq⟩
      · have hk2 : k = l1.length := by omega
        have EQ : Hid (l1 = l2) := by
          show _ = _
          have := T.out
          rw [hk2, List.take_length, HL.out, List.take_length] at this; exact this
        have q1 : ¬ (k : Int) < (l1.length : Int) := by omega
        generalize l1.length = nl at *
        go_wp2
        go_ret
        exact ⟨by rw [decide_eq_true EQ.out]; rfl, U.out⟩
  · have hne : ((l1.length : Int) != (l2.length : Int)) = true := by rw [bne_iff_ne]; omega
    have NE : Hid (l1 ≠ l2) := fun e => hl (by rw [e])
    generalize l1.length = n1 at *
    generalize l2.length = n2 at *
    clear hl
    go_enter Try.func20, Try.ntmps20
    go_wp2
    go_ret
    exact ⟨by rw [decide_eq_false NE.out]; rfl, Upd.refl _ _⟩
end Go.Proofs.Ytnlbmplbaalgmaa
