/- Walks: the document's dues: Drop, Get, Due. -/
import Derived.Test.YtokkhddbdjflhaaExpM
import Derived.Test.YtokkhddbdjflhaaRowOf
set_option linter.unusedVariables false
set_option linter.unusedSimpArgs false
namespace Go.Proofs.Ytokkhddbdjflhaa
open Go.RowKit

theorem DuesAt.row {w : World} {base : Nat} {v : Value} {l : List DueP} (h : DuesAt w base v l) : RowOf duec 2 w v l := by
  obtain ⟨h0, ⟨rfl, hn⟩ | ⟨g, cap, cur, rfl, hg, hb, h1, h2, h3, h4⟩⟩ := h
  · exact Or.inl ⟨none, 0, rfl, List.length_eq_zero_iff.1 hn⟩
  · refine Or.inr ⟨g, 0, cap, rfl, (Array.getElem?_eq_some_iff.1 hb).1, by omega, fun i a hi j hj => ?_⟩
    have hil : i < l.length := (List.getElem?_eq_some_iff.1 hi).1
    have e : (flat duec l)[i * 2 + j]? = (duec a)[j]? := by rw [flat_get duec 2 (fun _ => rfl) l i j hj, hi, Option.bind_some]
    rw [← e, ← h4, List.getElem?_take_of_lt (by omega), Array.getElem?_toList]
    have : j < (duec a).length := hj
    simp [World.cell?, hb]
theorem DuesAt.keep {F : Nat → Prop} {w w' : World} {base : Nat} {v : Value} {l : List DueP} (h : DuesAt w base v l) (u : Upd F w w') (hd : ∀ k, v.ownBlock = some k → ¬ F k) : DuesAt w' base v l := own_keep h u hd
/-- The cells of a due in a row. -/
theorem due_cells {w : World} {v : Value} {l : List DueP} (h : RowOf duec 2 w v l) {k : Nat} {d : DueP} (hk : l[k]? = some d) : ∃ b off cap, v = .slice (some ⟨b, off, none⟩) l.length cap ∧ b < w.heap.size ∧ w.cell? ⟨b, off + k * 2, none⟩ = some (.int .i64 d.1) ∧ w.cell? ⟨b, off + k * 2 + 1, none⟩ = some (.string d.2) := by
  rcases h with ⟨_, _, _, e⟩ | ⟨b, off, c, e, hb, _, hc⟩
  · rw [e] at hk; simp at hk
  · refine ⟨b, off, c, e, hb, ?_, ?_⟩
    · have := hc k d hk 0 (by omega); rw [Nat.add_zero] at this; simpa [duec] using this
    · have := hc k d hk 1 (by omega); rw [← Nat.add_assoc] at this; simpa [duec] using this
theorem dropD_snoc (key : ByteArray) (l : List DueP) (d : DueP) : dropD key (l ++ [d]) = dropD key l ++ if d.2 = key then [] else [d] := by
  unfold dropD; rw [List.filter_append]; congr 1
  by_cases h : d.2 = key <;> simp [h]
theorem take_snocD {l : List DueP} {k : Nat} {d : DueP} (h : l[k]? = some d) : l.take (k + 1) = l.take k ++ [d] := by
  obtain ⟨h1, e⟩ := List.getElem?_eq_some_iff.1 h
  rw [List.take_succ_eq_append_getElem h1, e]
theorem flat_snoc (l : List DueP) (d : DueP) : flat duec (l ++ [d]) = flat duec l ++ [.int .i64 d.1, .string d.2] := by simp [flat, duec]
theorem beq_of {a b : ByteArray} (h : a = b) : (a.toList == b.toList) = true := by subst h; simp
theorem nbeq_of {a b : ByteArray} (h : ¬ a = b) : (a.toList == b.toList) = false := by
  cases e : a.toList == b.toList with
  | false => rfl
  | true => exact absurd (toList_eq e) h

set_option maxHeartbeats 4000000 in
set_option maxRecDepth 100000 in
theorem rdrop_any (v : Value) (l : List DueP) (key : ByteArray) (w : World) (h : RowOf duec 2 w v l) (hl : l.length ≤ 10000) :
    Calls Try.prog 19 #[v, .string key] w fun e w' => ∃ v', e = .returned (.tuple #[v', .bool (decide ((dropD key l).length < l.length))]) ∧ DuesAt w' w.heap.size v' (dropD key l) ∧ Upd (fun _ => False) w w' := by
  obtain ⟨p, c, ev, hm⟩ := h.len
  subst ev
  have H := Lib.hid h
  clear h
  obtain ⟨i0, hi0, hz0, hz1, hz2⟩ := info_parts due_info
  have MO : Hid (DuesAt (w.alloc (.cells #[] 26)) w.heap.size (.slice (some ⟨w.heap.size, 0, none⟩) 0 0) []) := World.ownsRow_made (e := 26) (size := 2) w #[] 0 (Nat.le_refl _) (by unfold maxLen; omega) rfl
  have UO : Hid (Upd (fun _ => False) w (w.alloc (.cells #[] 26))) := (Upd.refl _ _).alloc _
  go_enter Try.func19, Try.ntmps19
  go_wp2
  go_loopw [6, 12] (fun out x12 wr => ∃ (k : Nat), k ≤ l.length ∧ x12 = .int .i64 (k : Int) ∧ Hid (DuesAt wr w.heap.size out (dropD key (l.take k))) ∧ Hid (Upd (fun _ => False) w wr)) (fun _ x12 _ => l.length - (intOf x12).toNat)
  case atStart => exact ⟨0, by omega, rfl, MO, UO⟩
  case round =>
    clear MO UO
    obtain ⟨k, hk, rfl, OW, U⟩ := hrel
    have hwl := U.out.size
    obtain ⟨acc, hacc⟩ : ∃ acc, dropD key (l.take k) = acc := ⟨_, rfl⟩
    have hal : acc.length ≤ 10000 := by rw [← hacc]; unfold dropD; exact Nat.le_trans (List.length_filter_le _ _) (by rw [List.length_take]; omega)
    rw [hacc] at OW
    obtain ⟨po, co, eo, _⟩ := own_slice OW.out
    subst eo
    by_cases hlt : k < l.length
    · obtain ⟨d, hd⟩ : ∃ d, l[k]? = some d := ⟨_, List.getElem?_eq_getElem hlt⟩
      obtain ⟨b, off, cap, ev, hb, c0, c1⟩ := due_cells H.out hd
      injection ev with ev1 _ ev3
      subst ev1 ev3
      have c0 := (U.out.cell (p := ⟨b, off + k * 2, none⟩) hb (fun h => h)).trans c0
      have c1 := (U.out.cell (p := ⟨b, off + k * 2 + 1, none⟩) hb (fun h => h)).trans c1
      have hq : (k : Int) < (l.length : Int) := by omega
      have S1 : Hid (dropD key (l.take (k + 1)) = acc ++ if d.2 = key then [] else [d]) := by
        show _ = _
        rw [take_snocD hd, dropD_snoc, hacc]
      clear hacc
      by_cases hkey : d.2 = key
      · have t1 := beq_of hkey
        have t2 : (!(d.2.toList == key.toList)) = false := by rw [t1]; rfl
        have OW2 := S1.out
        rw [if_pos hkey, List.append_nil] at OW2
        have S2 := Lib.hid OW2
        obtain ⟨dw, dk⟩ := d
        simp only at c0 c1 t1 t2
        clear OW2 hd hkey S1
        go_wp2
        go_roundw
        case rel => exact ⟨k + 1, by omega, by go_num, by rw [S2.out]; exact OW.out.keep ((Upd.refl (fun _ => False) _).alloc _) (fun _ _ h => h), U.out.alloc _⟩
        case measure => simp [intOf]; omega
      · have t1 := nbeq_of hkey
        have t2 : (!(d.2.toList == key.toList)) = true := by rw [t1]; rfl
        have OW2 := S1.out
        rw [if_neg hkey] at OW2
        have S2 := Lib.hid OW2
        obtain ⟨dw, dk⟩ := d
        simp only at c0 c1 t1 t2
        clear OW2 hd hkey S1
        have OWN : Hid (wr.ownsRow w.heap.size 26 2 (.slice po acc.length co) acc.length (flat duec acc)) := OW.out
        have U1 : Hid (Upd (fun _ => False) w ((wr.alloc (.cells #[.int .i64 dw, .string dk] 26)).alloc (.cells #[.int .i64 dw, .string dk] 26))) := (U.out.alloc _).alloc _
        go_wp2_with (at_builtin; refine wpList_append_where _ rfl _ _ 31 rfl (w.heap.size) 26 i0 (.agg #[.int .i64 0, .string ByteArray.empty]) 2 24 Try.underlying31 hi0 hz0 hz1 hz2 rfl (by decide) _ _ _ rfl ((OWN.out.alloc _).alloc _) ⟨wr.heap.size + 1, 0, none⟩ 1 1 [.int .i64 dw, .string dk] rfl rfl ?c1 ?c2 ?c3 ?c4 ?c5 (by decide) ?_)
        try (case c1 =>
          intro x u hx
          match x with
          | 0 => simp at hx; subst hx; simp [Addr.add, World.cell?_alloc_at]
          | 1 => simp at hx <;> (subst hx; simp [Addr.add, World.cell?_alloc_at])
          | 2 => simp at hx <;> (subst hx; simp [Addr.add, World.cell?_alloc_at])
          | x + 3 => simp at hx)
        try (case c2 => first | rfl | exact ⟨rfl, rfl⟩ | exact ⟨rfl, rfl, rfl⟩ | (intro u hu; simp at hu; subst hu; rfl) | (intro u hu; simp at hu; rcases hu with rfl | rfl <;> rfl))
        case c3 => unfold maxLen; omega
        case c4 => first | omega | (simp; omega)
        case c5 => first | (simp; omega) | omega
        intro v2 w2 hown hupd hnew
        have OW2 : Hid (DuesAt w2 w.heap.size v2 (dropD key (l.take (k + 1)))) := by
          rw [S2.out]
          show World.ownsRow _ _ _ _ _ _ _
          rw [List.length_append, flat_snoc]; exact hown
        have U2 : Hid (Upd (fun _ => False) w w2) := U1.out.trans hupd (fun i hi e => by have := (World.ownsRow.lt OWN.out i e).1; omega)
        clear hown hupd hnew U1 OWN
        obtain ⟨p3, c3, e3, _⟩ := own_slice OW2.out
        subst e3
        go_wp2
        go_roundw
        case rel => exact ⟨k + 1, by omega, by go_num, OW2, U2⟩
        case measure => simp [intOf]; omega
    · obtain rfl : k = l.length := by omega
      have hacc2 := hacc
      rw [List.take_length] at hacc2
      have S := Lib.hid hacc2
      clear hacc hacc2
      go_wp2
      go_ret2
      rw [S.out]
      exact ⟨_, rfl, OW.out, U.out⟩
theorem find_take {l : List DueP} {k : Nat} {d : DueP} {key : ByteArray} (hn : ∀ x ∈ l.take k, x.2 ≠ key) (hd : l[k]? = some d) (hk : d.2 = key) : getV l key = (d.1, true) := by
  have e : l = l.take k ++ d :: l.drop (k + 1) := by
    obtain ⟨h1, e⟩ := List.getElem?_eq_some_iff.1 hd
    conv => lhs; rw [← List.take_append_drop k l, List.drop_eq_getElem_cons h1, e]
  unfold getV
  rw [e, List.find?_append, List.find?_eq_none.2 (fun x hx => by simpa using hn x hx)]
  simp [hk]
theorem find_nil {l : List DueP} {key : ByteArray} (hn : ∀ x ∈ l, x.2 ≠ key) : getV l key = (0, false) := by
  unfold getV
  rw [List.find?_eq_none.2 (fun x hx => by simpa using hn x hx)]
set_option maxHeartbeats 4000000 in
set_option maxRecDepth 100000 in
theorem rget_any (v : Value) (l : List DueP) (key : ByteArray) (w : World) (h : RowOf duec 2 w v l) (hl : l.length ≤ 10000) :
    Calls Try.prog 20 #[v, .string key] w fun e w' => e = .returned (.tuple #[.int .i64 (getV l key).1, .bool (getV l key).2]) ∧ Upd (fun _ => False) w w' := by
  obtain ⟨p, c, ev, hm⟩ := h.len
  subst ev
  have H := Lib.hid h
  clear h
  go_enter Try.func20, Try.ntmps20
  go_wp2
  go_loopw [4, 5, 10] (fun x4 x5 x10 wr => ∃ (k : Nat), k ≤ l.length ∧ x10 = .int .i64 (k : Int) ∧ Hid (∀ x ∈ l.take k, x.2 ≠ key) ∧ Hid (Upd (fun _ => False) w wr)) (fun _ _ x10 _ => l.length - (intOf x10).toNat)
  case atStart => exact ⟨0, by omega, rfl, Lib.hid (fun x hx => by simp at hx), Lib.hid (Upd.refl _ _)⟩
  case round =>
    obtain ⟨k, hk, rfl, HN, U⟩ := hrel
    by_cases hlt : k < l.length
    · obtain ⟨d, hd⟩ : ∃ d, l[k]? = some d := ⟨_, List.getElem?_eq_getElem hlt⟩
      obtain ⟨b, off, cap, ev, hb, c0, c1⟩ := due_cells H.out hd
      injection ev with ev1 _ ev3
      subst ev1 ev3
      have c0 := (U.out.cell (p := ⟨b, off + k * 2, none⟩) hb (fun h => h)).trans c0
      have c1 := (U.out.cell (p := ⟨b, off + k * 2 + 1, none⟩) hb (fun h => h)).trans c1
      have hq : (k : Int) < (l.length : Int) := by omega
      by_cases hkey : d.2 = key
      · have t1 := beq_of hkey
        have F := Lib.hid (find_take HN.out hd hkey)
        obtain ⟨dw, dk⟩ := d
        simp only at c0 c1 t1 F
        clear hd hkey
        go_wp2
        go_ret2
        rw [F.out]
        exact ⟨rfl, U.out.alloc _⟩
      · have t1 := nbeq_of hkey
        have N2 : Hid (∀ x ∈ l.take (k + 1), x.2 ≠ key) := by
          intro x hx
          rw [take_snocD hd] at hx
          rcases List.mem_append.1 hx with hx | hx
          · exact HN.out x hx
          · simp at hx; rw [hx]; exact hkey
        obtain ⟨dw, dk⟩ := d
        simp only at c0 c1 t1
        clear hd hkey
        go_wp2
        go_roundw
        case rel => exact ⟨k + 1, by omega, by go_num, N2, U.out.alloc _⟩
        case measure => simp [intOf]; omega
    · obtain rfl : k = l.length := by omega
      have F := Lib.hid (find_nil (l := l) (key := key) (by have := HN.out; rw [List.take_length] at this; exact this))
      go_wp2
      go_ret2
      rw [F.out]
      exact ⟨rfl, U.out⟩
/-- Those that have ended, one by one. -/
def dueL (now most : Int) (l : List DueP) : List ByteArray := ((l.filter fun d => decide (d.1 ≤ now)).take most.toNat).map (·.2)
theorem dueL_snoc (now most : Int) (l : List DueP) (d : DueP) : dueL now most (l ++ [d]) = dueL now most l ++ if d.1 ≤ now ∧ ((dueL now most l).length : Int) < most then [d.2] else [] := by
  unfold dueL
  rw [List.filter_append]
  generalize l.filter (fun d => decide (d.1 ≤ now)) = f
  by_cases h : d.1 ≤ now
  · simp only [List.filter_cons, h, decide_true, if_true, List.filter_nil, true_and, List.take_append]
    simp only [List.length_map, List.length_take]
    by_cases g : f.length < most.toNat
    · rw [if_pos (by omega), List.take_of_length_le (by simp; omega : [d].length ≤ most.toNat - f.length)]; simp
    · rw [if_neg (by omega), show most.toNat - f.length = 0 by omega]; simp
  · simp [h]
theorem dueL_rise {l : List DueP} (h : Rise l) (now most : Int) : dueL now most l = ((dueD now l).take most.toNat).map (·.2) := by unfold dueL; rw [dueD_filter h]
set_option maxHeartbeats 4000000 in
set_option maxRecDepth 100000 in
theorem rdue_any (v : Value) (l : List DueP) (now most : Int) (w : World) (h : RowOf duec 2 w v l) (hl : l.length ≤ 10000) :
    Calls Try.prog 22 #[v, .int .i64 now, .int .i64 most] w fun e w' => ∃ v', e = .returned v' ∧ StrsAt w' w.heap.size v' (dueL now most l) ∧ Upd (fun _ => False) w w' := by
  obtain ⟨p, c, ev, hm⟩ := h.len
  subst ev
  have H := Lib.hid h
  clear h
  obtain ⟨i0, hi0, hz0, hz1, hz2⟩ := info_parts string_info
  have MO : Hid (StrsAt (w.alloc (.cells #[] 9)) w.heap.size (.slice (some ⟨w.heap.size, 0, none⟩) 0 0) []) := World.ownsRow_made (e := 9) (size := 1) w #[] 0 (Nat.le_refl _) (by unfold maxLen; omega) rfl
  have UO : Hid (Upd (fun _ => False) w (w.alloc (.cells #[] 9))) := (Upd.refl _ _).alloc _
  have D0 : Hid (dueL now most [] = []) := by show _ = _; simp [dueL]
  go_enter Try.func22, Try.ntmps22
  go_wp2
  go_loopw [7, 13] (fun out x13 wr => ∃ (k : Nat), k ≤ l.length ∧ x13 = .int .i64 (k : Int) ∧ Hid (StrsAt wr w.heap.size out (dueL now most (l.take k))) ∧ Hid (Upd (fun _ => False) w wr)) (fun _ x13 _ => l.length - (intOf x13).toNat)
  case atStart => exact ⟨0, by omega, rfl, by rw [List.take_zero, D0.out]; exact MO, UO⟩
  case round =>
    clear MO UO D0
    obtain ⟨k, hk, rfl, OW, U⟩ := hrel
    have hwl := U.out.size
    obtain ⟨acc, hacc⟩ : ∃ acc, dueL now most (l.take k) = acc := ⟨_, rfl⟩
    have hal : acc.length ≤ 10000 := by
      rw [← hacc]; unfold dueL
      have := List.length_filter_le (fun d : DueP => decide (d.1 ≤ now)) (l.take k)
      simp only [List.length_map, List.length_take] at this ⊢; omega
    rw [hacc] at OW
    obtain ⟨po, co, eo, _⟩ := own_slice OW.out
    subst eo
    by_cases hlt : k < l.length
    · obtain ⟨d, hd⟩ : ∃ d, l[k]? = some d := ⟨_, List.getElem?_eq_getElem hlt⟩
      obtain ⟨b, off, cap, ev, hb, c0, c1⟩ := due_cells H.out hd
      injection ev with ev1 _ ev3
      subst ev1 ev3
      have c0 := (U.out.cell (p := ⟨b, off + k * 2, none⟩) hb (fun h => h)).trans c0
      have c1 := (U.out.cell (p := ⟨b, off + k * 2 + 1, none⟩) hb (fun h => h)).trans c1
      have hq : (k : Int) < (l.length : Int) := by omega
      have S1 : Hid (dueL now most (l.take (k + 1)) = acc ++ if d.1 ≤ now ∧ (acc.length : Int) < most then [d.2] else []) := by
        show _ = _
        rw [take_snocD hd, dueL_snoc, hacc]
      clear hacc hd
      obtain ⟨dw, dk⟩ := d
      simp only at c0 c1 S1
      by_cases h1 : dw ≤ now
      · have t1 : decide (dw ≤ now) = true := decide_eq_true h1
        by_cases h2 : (acc.length : Int) < most
        · have t2 : decide ((acc.length : Int) < most) = true := decide_eq_true h2
          have OW2 := S1.out
          rw [if_pos ⟨h1, h2⟩] at OW2
          have S2 := Lib.hid OW2
          clear OW2 S1
          have OWN : Hid (wr.ownsRow w.heap.size 9 1 (.slice po acc.length co) acc.length (acc.map Value.string)) := OW.out
          have U1 : Hid (Upd (fun _ => False) w ((wr.alloc (.cells #[.int .i64 dw, .string dk] 26)).alloc (.cells #[.string dk] 9))) := (U.out.alloc _).alloc _
          go_wp2_with (at_builtin; refine wpList_append_where _ rfl _ _ 35 rfl (w.heap.size) 9 i0 (.string ByteArray.empty) 1 16 Try.underlying35 hi0 hz0 hz1 hz2 rfl (by decide) _ _ _ rfl ((OWN.out.alloc _).alloc _) ⟨wr.heap.size + 1, 0, none⟩ 1 1 [.string dk] rfl rfl ?c1 ?c2 ?c3 ?c4 ?c5 (by decide) ?_)
          try (case c1 =>
            intro x u hx
            match x with
            | 0 => simp at hx; subst hx; simp [Addr.add, World.cell?_alloc_at]
            | 1 => simp at hx <;> (subst hx; simp [Addr.add, World.cell?_alloc_at])
            | 2 => simp at hx <;> (subst hx; simp [Addr.add, World.cell?_alloc_at])
            | x + 3 => simp at hx)
          try (case c2 => first | rfl | exact ⟨rfl, rfl⟩ | exact ⟨rfl, rfl, rfl⟩ | (intro u hu; simp at hu; subst hu; rfl) | (intro u hu; simp at hu; rcases hu with rfl | rfl <;> rfl))
          case c3 => unfold maxLen; omega
          case c4 => first | omega | (simp; omega)
          case c5 => first | (simp; omega) | omega
          intro v2 w2 hown hupd hnew
          have OW2 : Hid (StrsAt w2 w.heap.size v2 (dueL now most (l.take (k + 1)))) := by
            rw [S2.out]
            show World.ownsRow _ _ _ _ _ _ _
            rw [List.length_append, List.map_append]; exact hown
          have U2 : Hid (Upd (fun _ => False) w w2) := U1.out.trans hupd (fun i hi e => by have := (World.ownsRow.lt OWN.out i e).1; omega)
          clear hown hupd hnew U1 OWN
          obtain ⟨p3, c3, e3, _⟩ := own_slice OW2.out
          subst e3
          go_wp2
          go_roundw
          case rel => exact ⟨k + 1, by omega, by go_num, OW2, U2⟩
          case measure => simp [intOf]; omega
        · have t2 : decide ((acc.length : Int) < most) = false := decide_eq_false h2
          have OW2 := S1.out
          rw [if_neg (fun h => h2 h.2), List.append_nil] at OW2
          have S2 := Lib.hid OW2
          clear OW2 S1
          go_wp2
          go_roundw
          case rel => exact ⟨k + 1, by omega, by go_num, by rw [S2.out]; exact StrsAt.keep OW.out ((Upd.refl (fun _ => False) _).alloc _) (fun _ _ h => h), U.out.alloc _⟩
          case measure => simp [intOf]; omega
      · have t1 : decide (dw ≤ now) = false := decide_eq_false h1
        have OW2 := S1.out
        rw [if_neg (fun h => h1 h.1), List.append_nil] at OW2
        have S2 := Lib.hid OW2
        clear OW2 S1
        go_wp2
        go_roundw
        case rel => exact ⟨k + 1, by omega, by go_num, by rw [S2.out]; exact StrsAt.keep OW.out ((Upd.refl (fun _ => False) _).alloc _) (fun _ _ h => h), U.out.alloc _⟩
        case measure => simp [intOf]; omega
    · obtain rfl : k = l.length := by omega
      have hacc2 := hacc
      rw [List.take_length] at hacc2
      have S := Lib.hid hacc2
      clear hacc hacc2
      go_wp2
      go_ret
      rw [S.out]
      exact ⟨_, rfl, OW.out, U.out⟩
end Go.Proofs.Ytokkhddbdjflhaa
