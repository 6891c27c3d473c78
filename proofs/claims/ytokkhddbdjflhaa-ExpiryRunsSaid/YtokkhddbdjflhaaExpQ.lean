/- Walk: the document's Put of dues. -/
import Derived.Test.YtokkhddbdjflhaaExpU
set_option linter.unusedVariables false
set_option linter.unusedSimpArgs false
namespace Go.Proofs.Ytokkhddbdjflhaa
open Go.RowKit

theorem insD_yes {x : DueP} {l m : List DueP} (h : ∃ d ∈ l, ltD x d) : insD x (l ++ m) = insD x l ++ m := by
  induction l with
  | nil => obtain ⟨d, hd, _⟩ := h; simp at hd
  | cons a r ih =>
    rw [List.cons_append, insD, insD]
    by_cases g : ltD x a
    · rw [if_pos g, if_pos g]; rfl
    · rw [if_neg g, if_neg g, ih (by
        obtain ⟨d, hd, k⟩ := h
        rcases List.mem_cons.1 hd with rfl | hd
        · exact absurd k g
        · exact ⟨d, hd, k⟩)]; rfl
theorem insD_no {x : DueP} {l m : List DueP} (h : ∀ d ∈ l, ¬ ltD x d) : insD x (l ++ m) = l ++ insD x m := by
  induction l with
  | nil => rfl
  | cons a r ih =>
    rw [List.cons_append, insD, if_neg (h a (by simp)), ih (fun d hd => h d (by simp [hd]))]; rfl
theorem rput_bad (v : Value) (key : ByteArray) (t : Int) (w : World) (h : t < 0 ∨ 4611686018427387904 < t) :
    Calls Try.prog 17 #[v, .string key, .int .i64 t] w fun e w' => e = .returned (.tuple #[v, .int .i64 111]) ∧ w' = w := by
  by_cases h0 : t < 0
  · have h1 : decide (t < 0) = true := decide_eq_true h0
    go_enter Try.func17, Try.ntmps17
    go_wp2
    go_ret2
    exact ⟨rfl, rfl⟩
  · have h1 : decide (t < 0) = false := decide_eq_false h0
    have h2 : decide (4611686018427387904 < t) = true := decide_eq_true (by omega)
    go_enter Try.func17, Try.ntmps17
    go_wp2
    go_ret2
    exact ⟨rfl, rfl⟩
/-- Where the walk stands: was it placed already? -/
def Plc (t : Int) (key : ByteArray) (l : List DueP) (pl : Bool) (out : List DueP) : Prop := (pl = true ∧ out = insD (t, key) l ∧ ∃ d ∈ l, ltD (t, key) d) ∨ (pl = false ∧ out = l ∧ ∀ d ∈ l, ¬ ltD (t, key) d)
theorem Plc.len {t : Int} {key : ByteArray} {l out : List DueP} {pl : Bool} (h : Plc t key l pl out) : out.length ≤ l.length + 1 := by
  rcases h with ⟨_, rfl, _⟩ | ⟨_, rfl, _⟩
  · have := (insD_perm (t, key) l).length_eq; simp at this; omega
  · omega
set_option maxHeartbeats 8000000 in
set_option maxRecDepth 100000 in
theorem rput_any (v : Value) (l : List DueP) (key : ByteArray) (t : Int) (w : World) (h : RowOf duec 2 w v l) (hl : l.length ≤ 9000) (ht0 : 0 ≤ t) (ht1 : t ≤ 4611686018427387904) :
    Calls Try.prog 17 #[v, .string key, .int .i64 t] w fun e w' => ∃ v', e = .returned (.tuple #[v', .int .i64 0]) ∧ DuesAt w' w.heap.size v' (putD key t l) ∧ Upd (fun _ => False) w w' := by
  have h1 : decide (t < 0) = false := decide_eq_false (by omega)
  have h2 : decide (4611686018427387904 < t) = false := decide_eq_false (by omega)
  have DR := Lib.hid (rdrop_any v l key w h (by omega))
  have hdl : (dropD key l).length ≤ 9000 := by unfold dropD; exact Nat.le_trans (List.length_filter_le _ _) hl
  have PD := Lib.hid (show putD key t l = insD (t, key) (dropD key l) from rfl)
  generalize dropD key l = rest at *
  obtain ⟨i0, hi0, hz0, hz1, hz2⟩ := info_parts due_info
  clear h
  go_enter Try.func17, Try.ntmps17
  go_wp2_with fail
  refine (DR.out).mono ?_
  rintro e w1 ⟨v1, rfl, d1, u1⟩
  have D1 := Lib.hid d1.row
  have U1 := Lib.hid u1
  obtain ⟨rp, rc, ev1, _⟩ := own_slice d1
  subst ev1
  have MO : Hid (DuesAt (w1.alloc (.cells #[] 26)) w1.heap.size (.slice (some ⟨w1.heap.size, 0, none⟩) 0 0) []) := World.ownsRow_made (e := 26) (size := 2) w1 #[] 0 (Nat.le_refl _) (by unfold maxLen; omega) rfl
  have UO : Hid (Upd (fun _ => False) w1 (w1.alloc (.cells #[] 26))) := (Upd.refl _ _).alloc _
  clear d1 u1
  go_wp2
  go_loopw [10, 11, 30] (fun out x11 x30 wr => ∃ (k : Nat) (pl : Bool) (acc : List DueP), k ≤ rest.length ∧ x30 = .int .i64 (k : Int) ∧ x11 = .bool pl ∧ Hid (Plc t key (rest.take k) pl acc) ∧ Hid (DuesAt wr w1.heap.size out acc) ∧ Hid (Upd (fun _ => False) w1 wr)) (fun _ _ x30 _ => rest.length - (intOf x30).toNat)
  case atStart => exact ⟨0, false, [], by omega, rfl, rfl, Lib.hid (Or.inr ⟨rfl, rfl, fun d hd => by simp at hd⟩), MO, UO⟩
  case round =>
    clear MO UO
    obtain ⟨k, pl, acc, hk, rfl, rfl, PL, OW, U⟩ := hrel
    have hwl : w1.heap.size ≤ wr.heap.size := U.out.size
    have hal : acc.length ≤ 9001 := by have := PL.out.len; rw [List.length_take] at this; omega
    obtain ⟨po, co, eo, _⟩ := own_slice OW.out
    subst eo
    by_cases hlt : k < rest.length
    · obtain ⟨d, hd⟩ : ∃ d, rest[k]? = some d := ⟨_, List.getElem?_eq_getElem hlt⟩
      obtain ⟨b, off, cap, ev, hb, c0, c1⟩ := due_cells D1.out hd
      injection ev with ev1 _ ev3
      subst ev1 ev3
      have c0 := (U.out.cell (p := ⟨b, off + k * 2, none⟩) hb (fun h => h)).trans c0
      have c1 := (U.out.cell (p := ⟨b, off + k * 2 + 1, none⟩) hb (fun h => h)).trans c1
      have hq : (k : Int) < (rest.length : Int) := by omega
      have TK := Lib.hid (take_snocD hd)
      obtain ⟨dw, dk⟩ := d
      simp only at c0 c1
      have hlD : ltD (t, key) (dw, dk) ↔ (decide (t < dw) = true ∨ (t == dw) = true ∧ Op.bytesLess key.toList dk.toList = true) := by
        unfold ltD; rw [bytesLess_lt]; simp
      have HLD := Lib.hid hlD
      clear hd hlD
      have OWN : Hid (wr.ownsRow w1.heap.size 26 2 (.slice po acc.length co) acc.length (flat duec acc)) := OW.out
      cases pl with
      | true =>
        have NP : Hid (Plc t key (rest.take (k + 1)) true (acc ++ [(dw, dk)])) := by
          rcases PL.out with ⟨_, e, hd⟩ | ⟨e, _⟩
          · exact Or.inl ⟨rfl, by rw [TK.out, insD_yes hd, ← e], by obtain ⟨d, h1, h2⟩ := hd; exact ⟨d, by rw [TK.out]; simp [h1], h2⟩⟩
          · cases e
        have U2 : Hid (Upd (fun _ => False) w1 ((wr.alloc (.cells #[.int .i64 dw, .string dk] 26)).alloc (.cells #[.int .i64 dw, .string dk] 26))) := (U.out.alloc _).alloc _
        go_wp2_with (at_builtin; refine wpList_append_where _ rfl _ _ 31 rfl (w1.heap.size) 26 i0 (.agg #[.int .i64 0, .string ByteArray.empty]) 2 24 Try.underlying31 hi0 hz0 hz1 hz2 rfl (by decide) _ _ _ rfl ((OWN.out.alloc _).alloc _) ⟨wr.heap.size + 1, 0, none⟩ 1 1 [.int .i64 dw, .string dk] rfl rfl ?c1 ?c2 ?c3 ?c4 ?c5 (by decide) ?_)
        try (case c1 =>
          intro x u hx
          match x with
          | 0 => simp at hx; subst hx; simp [Addr.add, World.cell?_alloc_at]
          | 1 => simp at hx <;> (subst hx; simp [Addr.add, World.cell?_alloc_at])
          | 2 => simp at hx <;> (subst hx; simp [Addr.add, World.cell?_alloc_at])
          | x + 3 => simp at hx)
        try (case c2 => first | rfl | exact ⟨rfl, rfl⟩ | exact ⟨rfl, rfl, rfl⟩ | (intro u hu; simp at hu; subst hu; rfl) | (intro u hu; simp at hu; rcases hu with rfl | rfl <;> rfl))
        case c3 => unfold maxLen; omega
        case c4 => first | omega | (simp; omega)
        case c5 => first | (simp; omega) | omega
        intro v2 w2 hown hupd hnew
        have OW2 : Hid (DuesAt w2 w1.heap.size v2 (acc ++ [(dw, dk)])) := by
          show World.ownsRow _ _ _ _ _ _ _
          rw [List.length_append, flat_snoc]; exact hown
        have U3 : Hid (Upd (fun _ => False) w1 w2) := U2.out.trans hupd (fun i hi e => by have := (World.ownsRow.lt OWN.out i e).1; omega)
        clear hown hupd hnew U2 OWN
        obtain ⟨p3, c3, e3, _⟩ := own_slice OW2.out
        subst e3
        go_wp2
        go_roundw
        case rel => exact ⟨k + 1, true, _, by omega, by go_num, rfl, NP, OW2, U3⟩
        case measure => simp [intOf]; omega
      | false =>
        cases s1 : decide (t < dw) with
        | true =>
          have HL : ltD (t, key) (dw, dk) := HLD.out.2 (Or.inl s1)
          have NP : Hid (Plc t key (rest.take (k + 1)) true (acc ++ [(t, key), (dw, dk)])) := by
            rcases PL.out with ⟨e, _⟩ | ⟨_, e, hd⟩
            · cases e
            · refine Or.inl ⟨rfl, ?_, ⟨_, by rw [TK.out]; simp, HL⟩⟩
              rw [TK.out, insD_no hd, e, insD, if_pos HL]
          have U2 : Hid (Upd (fun _ => False) w1 ((wr.alloc (.cells #[.int .i64 dw, .string dk] 26)).alloc (.cells #[.int .i64 t, .string key] 26))) := (U.out.alloc _).alloc _
          have BD : Hid (Blk ((wr.alloc (.cells #[.int .i64 dw, .string dk] 26)).alloc (.cells #[.int .i64 t, .string key] 26)) wr.heap.size [.int .i64 dw, .string dk] 26) := (Blk.made wr [.int .i64 dw, .string dk] 26).alloc _
          clear HL
          go_wp2_with (at_builtin; refine wpList_append_where _ rfl _ _ 31 rfl (w1.heap.size) 26 i0 (.agg #[.int .i64 0, .string ByteArray.empty]) 2 24 Try.underlying31 hi0 hz0 hz1 hz2 rfl (by decide) _ _ _ rfl ((OWN.out.alloc _).alloc _) ⟨wr.heap.size + 1, 0, none⟩ 1 1 [.int .i64 t, .string key] rfl rfl ?c1q2 ?c2q2 ?c3q2 ?c4q2 ?c5q2 (by decide) ?_)
          try (case c1q2 =>
            intro x u hx
            match x with
            | 0 => simp at hx; subst hx; simp [Addr.add, World.cell?_alloc_at]
            | 1 => simp at hx <;> (subst hx; simp [Addr.add, World.cell?_alloc_at])
            | 2 => simp at hx <;> (subst hx; simp [Addr.add, World.cell?_alloc_at])
            | x + 3 => simp at hx)
          try (case c2q2 => first | rfl | exact ⟨rfl, rfl⟩ | exact ⟨rfl, rfl, rfl⟩ | (intro u hu; simp at hu; subst hu; rfl) | (intro u hu; simp at hu; rcases hu with rfl | rfl <;> rfl))
          case c3q2 => unfold maxLen; omega
          case c4q2 => first | omega | (simp; omega)
          case c5q2 => first | (simp; omega) | omega
          intro v2 w2 hown hupd hnew
          have OW2 : Hid (DuesAt w2 w1.heap.size v2 (acc ++ [(t, key)])) := by
            show World.ownsRow _ _ _ _ _ _ _
            rw [List.length_append, flat_snoc]; exact hown
          have U3 : Hid (Upd (fun _ => False) w1 w2) := U2.out.trans hupd (fun i hi e => by have := (World.ownsRow.lt OWN.out i e).1; omega)
          have BD2 : Hid (Blk w2 wr.heap.size [.int .i64 dw, .string dk] 26) := hupd.blk BD.out (fun e => by have := (World.ownsRow.lt OWN.out _ e).2; omega)
          have e0 := BD2.out.cellAt (i := 0) rfl
          have e1 := BD2.out.cellAt (i := 1) rfl
          have hbl := BD2.out.lt
          clear hown hupd hnew U2 OWN BD
          obtain ⟨p3, c3, e3, _⟩ := own_slice OW2.out
          subst e3
          have OWM : Hid (w2.ownsRow w1.heap.size 26 2 (.slice p3 (acc ++ [(t, key)]).length c3) (acc ++ [(t, key)]).length (flat duec (acc ++ [(t, key)]))) := OW2.out
          have hwl2 := U3.out.size
          have U4 : Hid (Upd (fun _ => False) w1 (w2.alloc (.cells #[.int .i64 dw, .string dk] 26))) := U3.out.alloc _
          obtain ⟨acc2, hacc2⟩ : ∃ acc2, acc ++ [(t, key)] = acc2 := ⟨_, rfl⟩
          have hal2 : acc2.length ≤ 9002 := by rw [← hacc2]; simp; omega
          rw [hacc2] at OW2 OWM ⊢
          have NP2 : Hid (Plc t key (rest.take (k + 1)) true (acc2 ++ [(dw, dk)])) := by rw [← hacc2, List.append_assoc]; exact NP.out
          clear hacc2 NP
          go_wp2_with (at_builtin; refine wpList_append_where _ rfl _ _ 31 rfl (w1.heap.size) 26 i0 (.agg #[.int .i64 0, .string ByteArray.empty]) 2 24 Try.underlying31 hi0 hz0 hz1 hz2 rfl (by decide) _ _ _ rfl (OWM.out.alloc _) ⟨w2.heap.size, 0, none⟩ 1 1 [.int .i64 dw, .string dk] rfl rfl ?c1q3 ?c2q3 ?c3q3 ?c4q3 ?c5q3 (by decide) ?_)
          try (case c1q3 =>
            intro x u hx
            match x with
            | 0 => simp at hx; subst hx; simp [Addr.add, World.cell?_alloc_at]
            | 1 => simp at hx <;> (subst hx; simp [Addr.add, World.cell?_alloc_at])
            | 2 => simp at hx <;> (subst hx; simp [Addr.add, World.cell?_alloc_at])
            | x + 3 => simp at hx)
          try (case c2q3 => first | rfl | exact ⟨rfl, rfl⟩ | exact ⟨rfl, rfl, rfl⟩ | (intro u hu; simp at hu; subst hu; rfl) | (intro u hu; simp at hu; rcases hu with rfl | rfl <;> rfl))
          case c3q3 => unfold maxLen; omega
          case c4q3 => first | omega | (simp; omega)
          case c5q3 => first | (simp; omega) | omega
          intro v5 w5 hown hupd hnew
          have OW5 : Hid (DuesAt w5 w1.heap.size v5 (acc2 ++ [(dw, dk)])) := by
            show World.ownsRow _ _ _ _ _ _ _
            rw [List.length_append, flat_snoc]; exact hown
          have U5 : Hid (Upd (fun _ => False) w1 w5) := U4.out.trans hupd (fun i hi e => by have := (World.ownsRow.lt OWM.out i e).1; omega)
          clear hown hupd hnew U4 OWM
          obtain ⟨p6, c6, e6, _⟩ := own_slice OW5.out
          subst e6
          go_wp2
          go_roundw
          case rel => exact ⟨k + 1, true, _, by omega, by go_num, rfl, NP2, OW5, U5⟩
          case measure => simp [intOf]; omega
        | false =>
          cases s2 : (t == dw) with
          | true =>
            cases s3 : Op.bytesLess key.toList dk.toList with
            | true =>
              have HL : ltD (t, key) (dw, dk) := HLD.out.2 (Or.inr ⟨s2, s3⟩)
              have NP : Hid (Plc t key (rest.take (k + 1)) true (acc ++ [(t, key), (dw, dk)])) := by
                rcases PL.out with ⟨e, _⟩ | ⟨_, e, hd⟩
                · cases e
                · refine Or.inl ⟨rfl, ?_, ⟨_, by rw [TK.out]; simp, HL⟩⟩
                  rw [TK.out, insD_no hd, e, insD, if_pos HL]
              have U2 : Hid (Upd (fun _ => False) w1 ((wr.alloc (.cells #[.int .i64 dw, .string dk] 26)).alloc (.cells #[.int .i64 t, .string key] 26))) := (U.out.alloc _).alloc _
              have BD : Hid (Blk ((wr.alloc (.cells #[.int .i64 dw, .string dk] 26)).alloc (.cells #[.int .i64 t, .string key] 26)) wr.heap.size [.int .i64 dw, .string dk] 26) := (Blk.made wr [.int .i64 dw, .string dk] 26).alloc _
              clear HL
              go_wp2_with (at_builtin; refine wpList_append_where _ rfl _ _ 31 rfl (w1.heap.size) 26 i0 (.agg #[.int .i64 0, .string ByteArray.empty]) 2 24 Try.underlying31 hi0 hz0 hz1 hz2 rfl (by decide) _ _ _ rfl ((OWN.out.alloc _).alloc _) ⟨wr.heap.size + 1, 0, none⟩ 1 1 [.int .i64 t, .string key] rfl rfl ?c1q4 ?c2q4 ?c3q4 ?c4q4 ?c5q4 (by decide) ?_)
              try (case c1q4 =>
                intro x u hx
                match x with
                | 0 => simp at hx; subst hx; simp [Addr.add, World.cell?_alloc_at]
                | 1 => simp at hx <;> (subst hx; simp [Addr.add, World.cell?_alloc_at])
                | 2 => simp at hx <;> (subst hx; simp [Addr.add, World.cell?_alloc_at])
                | x + 3 => simp at hx)
              try (case c2q4 => first | rfl | exact ⟨rfl, rfl⟩ | exact ⟨rfl, rfl, rfl⟩ | (intro u hu; simp at hu; subst hu; rfl) | (intro u hu; simp at hu; rcases hu with rfl | rfl <;> rfl))
              case c3q4 => unfold maxLen; omega
              case c4q4 => first | omega | (simp; omega)
              case c5q4 => first | (simp; omega) | omega
              intro v2 w2 hown hupd hnew
              have OW2 : Hid (DuesAt w2 w1.heap.size v2 (acc ++ [(t, key)])) := by
                show World.ownsRow _ _ _ _ _ _ _
                rw [List.length_append, flat_snoc]; exact hown
              have U3 : Hid (Upd (fun _ => False) w1 w2) := U2.out.trans hupd (fun i hi e => by have := (World.ownsRow.lt OWN.out i e).1; omega)
              have BD2 : Hid (Blk w2 wr.heap.size [.int .i64 dw, .string dk] 26) := hupd.blk BD.out (fun e => by have := (World.ownsRow.lt OWN.out _ e).2; omega)
              have e0 := BD2.out.cellAt (i := 0) rfl
              have e1 := BD2.out.cellAt (i := 1) rfl
              have hbl := BD2.out.lt
              clear hown hupd hnew U2 OWN BD
              obtain ⟨p3, c3, e3, _⟩ := own_slice OW2.out
              subst e3
              have OWM : Hid (w2.ownsRow w1.heap.size 26 2 (.slice p3 (acc ++ [(t, key)]).length c3) (acc ++ [(t, key)]).length (flat duec (acc ++ [(t, key)]))) := OW2.out
              have hwl2 := U3.out.size
              have U4 : Hid (Upd (fun _ => False) w1 (w2.alloc (.cells #[.int .i64 dw, .string dk] 26))) := U3.out.alloc _
              obtain ⟨acc2, hacc2⟩ : ∃ acc2, acc ++ [(t, key)] = acc2 := ⟨_, rfl⟩
              have hal2 : acc2.length ≤ 9002 := by rw [← hacc2]; simp; omega
              rw [hacc2] at OW2 OWM ⊢
              have NP2 : Hid (Plc t key (rest.take (k + 1)) true (acc2 ++ [(dw, dk)])) := by rw [← hacc2, List.append_assoc]; exact NP.out
              clear hacc2 NP
              go_wp2_with (at_builtin; refine wpList_append_where _ rfl _ _ 31 rfl (w1.heap.size) 26 i0 (.agg #[.int .i64 0, .string ByteArray.empty]) 2 24 Try.underlying31 hi0 hz0 hz1 hz2 rfl (by decide) _ _ _ rfl (OWM.out.alloc _) ⟨w2.heap.size, 0, none⟩ 1 1 [.int .i64 dw, .string dk] rfl rfl ?c1q5 ?c2q5 ?c3q5 ?c4q5 ?c5q5 (by decide) ?_)
              try (case c1q5 =>
                intro x u hx
                match x with
                | 0 => simp at hx; subst hx; simp [Addr.add, World.cell?_alloc_at]
                | 1 => simp at hx <;> (subst hx; simp [Addr.add, World.cell?_alloc_at])
                | 2 => simp at hx <;> (subst hx; simp [Addr.add, World.cell?_alloc_at])
                | x + 3 => simp at hx)
              try (case c2q5 => first | rfl | exact ⟨rfl, rfl⟩ | exact ⟨rfl, rfl, rfl⟩ | (intro u hu; simp at hu; subst hu; rfl) | (intro u hu; simp at hu; rcases hu with rfl | rfl <;> rfl))
              case c3q5 => unfold maxLen; omega
              case c4q5 => first | omega | (simp; omega)
              case c5q5 => first | (simp; omega) | omega
              intro v5 w5 hown hupd hnew
              have OW5 : Hid (DuesAt w5 w1.heap.size v5 (acc2 ++ [(dw, dk)])) := by
                show World.ownsRow _ _ _ _ _ _ _
                rw [List.length_append, flat_snoc]; exact hown
              have U5 : Hid (Upd (fun _ => False) w1 w5) := U4.out.trans hupd (fun i hi e => by have := (World.ownsRow.lt OWM.out i e).1; omega)
              clear hown hupd hnew U4 OWM
              obtain ⟨p6, c6, e6, _⟩ := own_slice OW5.out
              subst e6
              go_wp2
              go_roundw
              case rel => exact ⟨k + 1, true, _, by omega, by go_num, rfl, NP2, OW5, U5⟩
              case measure => simp [intOf]; omega
            | false =>
              have HL : ¬ ltD (t, key) (dw, dk) := fun e => by have := HLD.out.1 e; simp [s1, s2, s3] at this
              have NP : Hid (Plc t key (rest.take (k + 1)) false (acc ++ [(dw, dk)])) := by
                rcases PL.out with ⟨e, _⟩ | ⟨_, e, hd⟩
                · cases e
                · refine Or.inr ⟨rfl, by rw [TK.out, e], fun d hm => ?_⟩
                  rw [TK.out] at hm
                  rcases List.mem_append.1 hm with hm | hm
                  · exact hd d hm
                  · simp at hm; rw [hm]; exact HL
              clear HL
              have U2 : Hid (Upd (fun _ => False) w1 ((wr.alloc (.cells #[.int .i64 dw, .string dk] 26)).alloc (.cells #[.int .i64 dw, .string dk] 26))) := (U.out.alloc _).alloc _
              go_wp2_with (at_builtin; refine wpList_append_where _ rfl _ _ 31 rfl (w1.heap.size) 26 i0 (.agg #[.int .i64 0, .string ByteArray.empty]) 2 24 Try.underlying31 hi0 hz0 hz1 hz2 rfl (by decide) _ _ _ rfl ((OWN.out.alloc _).alloc _) ⟨wr.heap.size + 1, 0, none⟩ 1 1 [.int .i64 dw, .string dk] rfl rfl ?c1q6 ?c2q6 ?c3q6 ?c4q6 ?c5q6 (by decide) ?_)
              try (case c1q6 =>
                intro x u hx
                match x with
                | 0 => simp at hx; subst hx; simp [Addr.add, World.cell?_alloc_at]
                | 1 => simp at hx <;> (subst hx; simp [Addr.add, World.cell?_alloc_at])
                | 2 => simp at hx <;> (subst hx; simp [Addr.add, World.cell?_alloc_at])
                | x + 3 => simp at hx)
              try (case c2q6 => first | rfl | exact ⟨rfl, rfl⟩ | exact ⟨rfl, rfl, rfl⟩ | (intro u hu; simp at hu; subst hu; rfl) | (intro u hu; simp at hu; rcases hu with rfl | rfl <;> rfl))
              case c3q6 => unfold maxLen; omega
              case c4q6 => first | omega | (simp; omega)
              case c5q6 => first | (simp; omega) | omega
              intro v2 w2 hown hupd hnew
              have OW2 : Hid (DuesAt w2 w1.heap.size v2 (acc ++ [(dw, dk)])) := by
                show World.ownsRow _ _ _ _ _ _ _
                rw [List.length_append, flat_snoc]; exact hown
              have U3 : Hid (Upd (fun _ => False) w1 w2) := U2.out.trans hupd (fun i hi e => by have := (World.ownsRow.lt OWN.out i e).1; omega)
              clear hown hupd hnew U2 OWN
              obtain ⟨p3, c3, e3, _⟩ := own_slice OW2.out
              subst e3
              go_wp2
              go_roundw
              case rel => exact ⟨k + 1, false, _, by omega, by go_num, rfl, NP, OW2, U3⟩
              case measure => simp [intOf]; omega
          | false =>
            have HL : ¬ ltD (t, key) (dw, dk) := fun e => by have := HLD.out.1 e; simp [s1, s2, s2] at this
            have NP : Hid (Plc t key (rest.take (k + 1)) false (acc ++ [(dw, dk)])) := by
              rcases PL.out with ⟨e, _⟩ | ⟨_, e, hd⟩
              · cases e
              · refine Or.inr ⟨rfl, by rw [TK.out, e], fun d hm => ?_⟩
                rw [TK.out] at hm
                rcases List.mem_append.1 hm with hm | hm
                · exact hd d hm
                · simp at hm; rw [hm]; exact HL
            clear HL
            have U2 : Hid (Upd (fun _ => False) w1 ((wr.alloc (.cells #[.int .i64 dw, .string dk] 26)).alloc (.cells #[.int .i64 dw, .string dk] 26))) := (U.out.alloc _).alloc _
            go_wp2_with (at_builtin; refine wpList_append_where _ rfl _ _ 31 rfl (w1.heap.size) 26 i0 (.agg #[.int .i64 0, .string ByteArray.empty]) 2 24 Try.underlying31 hi0 hz0 hz1 hz2 rfl (by decide) _ _ _ rfl ((OWN.out.alloc _).alloc _) ⟨wr.heap.size + 1, 0, none⟩ 1 1 [.int .i64 dw, .string dk] rfl rfl ?c1q7 ?c2q7 ?c3q7 ?c4q7 ?c5q7 (by decide) ?_)
            try (case c1q7 =>
              intro x u hx
              match x with
              | 0 => simp at hx; subst hx; simp [Addr.add, World.cell?_alloc_at]
              | 1 => simp at hx <;> (subst hx; simp [Addr.add, World.cell?_alloc_at])
              | 2 => simp at hx <;> (subst hx; simp [Addr.add, World.cell?_alloc_at])
              | x + 3 => simp at hx)
            try (case c2q7 => first | rfl | exact ⟨rfl, rfl⟩ | exact ⟨rfl, rfl, rfl⟩ | (intro u hu; simp at hu; subst hu; rfl) | (intro u hu; simp at hu; rcases hu with rfl | rfl <;> rfl))
            case c3q7 => unfold maxLen; omega
            case c4q7 => first | omega | (simp; omega)
            case c5q7 => first | (simp; omega) | omega
            intro v2 w2 hown hupd hnew
            have OW2 : Hid (DuesAt w2 w1.heap.size v2 (acc ++ [(dw, dk)])) := by
              show World.ownsRow _ _ _ _ _ _ _
              rw [List.length_append, flat_snoc]; exact hown
            have U3 : Hid (Upd (fun _ => False) w1 w2) := U2.out.trans hupd (fun i hi e => by have := (World.ownsRow.lt OWN.out i e).1; omega)
            clear hown hupd hnew U2 OWN
            obtain ⟨p3, c3, e3, _⟩ := own_slice OW2.out
            subst e3
            go_wp2
            go_roundw
            case rel => exact ⟨k + 1, false, _, by omega, by go_num, rfl, NP, OW2, U3⟩
            case measure => simp [intOf]; omega
    · obtain rfl : k = rest.length := by omega
      have OWN : Hid (wr.ownsRow w1.heap.size 26 2 (.slice po acc.length co) acc.length (flat duec acc)) := OW.out
      cases pl with
      | true =>
        go_wp2
        go_ret2
        have e : acc = putD key t l := by
          rw [PD.out]
          rcases PL.out with ⟨_, e, _⟩ | ⟨e, _⟩
          · rw [List.take_length] at e; exact e
          · cases e
        rw [← e]
        exact ⟨_, rfl, own_mono OW.out U1.out.size, U1.out.trans U.out (fun _ _ h => h)⟩
      | false =>
        have U2 : Hid (Upd (fun _ => False) w1 (wr.alloc (.cells #[.int .i64 t, .string key] 26))) := U.out.alloc _
        go_wp2_with (at_builtin; refine wpList_append_where _ rfl _ _ 31 rfl (w1.heap.size) 26 i0 (.agg #[.int .i64 0, .string ByteArray.empty]) 2 24 Try.underlying31 hi0 hz0 hz1 hz2 rfl (by decide) _ _ _ rfl (OWN.out.alloc _) ⟨wr.heap.size, 0, none⟩ 1 1 [.int .i64 t, .string key] rfl rfl ?c1q8 ?c2q8 ?c3q8 ?c4q8 ?c5q8 (by decide) ?_)
        try (case c1q8 =>
          intro x u hx
          match x with
          | 0 => simp at hx; subst hx; simp [Addr.add, World.cell?_alloc_at]
          | 1 => simp at hx <;> (subst hx; simp [Addr.add, World.cell?_alloc_at])
          | 2 => simp at hx <;> (subst hx; simp [Addr.add, World.cell?_alloc_at])
          | x + 3 => simp at hx)
        try (case c2q8 => first | rfl | exact ⟨rfl, rfl⟩ | exact ⟨rfl, rfl, rfl⟩ | (intro u hu; simp at hu; subst hu; rfl) | (intro u hu; simp at hu; rcases hu with rfl | rfl <;> rfl))
        case c3q8 => unfold maxLen; omega
        case c4q8 => first | omega | (simp; omega)
        case c5q8 => first | (simp; omega) | omega
        intro v2 w2 hown hupd hnew
        have OW2 : Hid (DuesAt w2 w1.heap.size v2 (acc ++ [(t, key)])) := by
          show World.ownsRow _ _ _ _ _ _ _
          rw [List.length_append, flat_snoc]; exact hown
        have U3 : Hid (Upd (fun _ => False) w1 w2) := U2.out.trans hupd (fun i hi e => by have := (World.ownsRow.lt OWN.out i e).1; omega)
        clear hown hupd hnew U2 OWN
        obtain ⟨p3, c3, e3, _⟩ := own_slice OW2.out
        subst e3
        go_wp2
        go_ret2
        have e : acc ++ [(t, key)] = putD key t l := by
          rw [PD.out]
          rcases PL.out with ⟨e, _⟩ | ⟨_, e, hd⟩
          · cases e
          · rw [List.take_length] at e hd
            have := insD_no (m := []) hd
            rw [List.append_nil] at this
            rw [this, e]; rfl
        rw [← e]
        exact ⟨_, rfl, own_mono OW2.out U1.out.size, U1.out.trans U3.out (fun _ _ h => h)⟩
end Go.Proofs.Ytokkhddbdjflhaa
