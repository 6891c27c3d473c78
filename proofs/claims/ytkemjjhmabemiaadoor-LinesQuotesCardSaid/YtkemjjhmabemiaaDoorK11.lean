/- Walks: a strings.Builder of the call's own; a text's bytes. -/
import Derived.Test.YtkemjjhmabemiaaDoorK10
import Derived.Shelf.Strings.Builder1
import Derived.Deep.RegionHeld3
import Derived.Laws.BitsAllLaws
set_option linter.unusedVariables false
set_option linter.unusedSimpArgs false
namespace Go.Proofs.YtkemjjhmabemiaaDoor
open Go.RowKit
open Lin (Txt)

/-- A text's bytes, in a block of their own. -/
theorem bytes_of (s : Txt) (w : World) (hz : s.length ≤ maxLen) : ∃ c w', (convert 9 27 (.string (ofL s))).run Tryd.prog w = .ok (.slice (some ⟨w.heap.size, 0, none⟩) s.length c) w' ∧ BAt w' (some ⟨w.heap.size, 0, none⟩) c s ∧ Upd (fun _ => False) w w' := by
  have hr := Lib.run_convert_string_bytes (P := Tryd.prog) w 9 27 5 (ofL s) Tryd.underlying9 Tryd.underlying27 Tryd.underlying5
  have hge := grownCap_ge w s.length 0 5
  have hcm := grownCap_le_maxLen w s.length 0 5 hz
  rw [ofL_size] at hr
  refine ⟨_, _, hr, ⟨⟨hge, fun e => by cases e⟩, hcm, Or.inr ⟨_, _, rfl, by rw [Lib.bytesWorld_size]; omega, fun i c hi => ?_⟩⟩, ?_⟩
  · have hil := (List.getElem?_eq_some_iff.1 hi).1
    rw [Nat.zero_add, Lib.bytesWorld_cell _ _ _ _ (by rw [ofL_size]; exact hil)]
    have : (ofL s).data.toList.getD i 0 = c := by rw [ofL_data, List.getD_eq_getElem?_getD, hi]; rfl
    rw [this]; rfl
  · exact ⟨rfl, rfl, rfl, by rw [Lib.bytesWorld_size]; omega, fun k hk _ => Lib.bytesWorld_at_old _ _ _ _ hk⟩
/-- A builder in block b, whose bytes l stand in the slice v. -/
def Bld (w : World) (base b : Nat) (v : Value) (l : Txt) : Prop :=
  base ≤ b ∧ (∃ p, (p = .pointer none ∨ p = .pointer (some ⟨b, 0, none⟩)) ∧ Blk w b [p, v] 67) ∧ BytesO w base v l ∧ v.ownBlock ≠ some b
theorem Bld.keep {w w' : World} {base b : Nat} {v : Value} {l : Txt} (h : Bld w base b v l) {F : Nat → Prop} (u : Upd F w w') (hb : ¬ F b) (hv : ∀ k, v.ownBlock = some k → ¬ F k) : Bld w' base b v l := by
  obtain ⟨h1, ⟨p, hp, h2⟩, h3, h4⟩ := h
  exact ⟨h1, ⟨p, hp, u.blk h2 hb⟩, h3.keep u hv, h4⟩
theorem Bld.keep0 {w w' : World} {base b : Nat} {v : Value} {l : Txt} (h : Bld w base b v l) (u : Upd (fun _ => False) w w') : Bld w' base b v l := h.keep u id (fun _ _ => id)
theorem Bld.lt {w : World} {base b : Nat} {v : Value} {l : Txt} (h : Bld w base b v l) : b < w.heap.size := by
  obtain ⟨h1, ⟨p, hp, h2⟩, h3, h4⟩ := h
  exact h2.lt
theorem Bld.made (w : World) (base : Nat) (hb : base ≤ w.heap.size) : Bld (w.alloc (.cells #[.pointer none, .slice none 0 0] 67)) base w.heap.size (.slice none 0 0) [] :=
  ⟨hb, ⟨_, Or.inl rfl, Blk.made w [.pointer none, .slice none 0 0] _⟩, OwnN.none, by simp [Value.ownBlock]⟩
theorem flat_bcs (l : Txt) : flat bcs l = Lib.byteCells l := by
  unfold flat Lib.byteCells
  induction l with
  | nil => rfl
  | cons c r ih => rw [List.flatMap_cons, ih]; rfl
theorem Bld.is {w : World} {base b : Nat} {v : Value} {l : Txt} (h : Bld w base b v l) : Lib.IsBuilder 67 5 base b (Lib.byteCells l) w := by
  obtain ⟨h1, ⟨p, hp, h2⟩, h3, h4⟩ := h
  have h3 : w.ownsRow base 5 1 v l.length (flat bcs l) := h3
  rw [flat_bcs, ← Lib.byteCells_length l] at h3
  rcases hp with rfl | rfl
  · exact Or.inl ⟨h1, v, h2, h3, h4⟩
  · exact Or.inr ⟨h1, v, h2, h3, h4⟩
/-- What a builder's writing does. -/
def Wrote (w : World) (base b : Nat) (v : Value) (l : Txt) (w' : World) : Prop :=
  ∃ v', Bld w' base b v' l ∧ Upd (fun k => k = b ∨ v.ownBlock = some k) w w' ∧ NewOr v v' w
theorem bld_info : (Tryd.prog.info? 67).map (fun i => i.size) = some 2 := by kernel_rfl
theorem bld_lies : liesAt Tryd.prog Tryd.prog.depth 67 (2 / Tryd.prog.cellsOf 67) 0 67 1 = true := by kernel_rfl
set_option maxRecDepth 100000 in
theorem copyCheck_any (w : World) (base b : Nat) (v : Value) (l : Txt) (h : Bld w base b v l) :
    Calls Tryd.prog 52 #[.pointer (some ⟨b, 0, none⟩)] w fun e w' => e = .returned (.tuple #[]) ∧ Blk w' b [.pointer (some ⟨b, 0, none⟩), v] 67 ∧ Upd (fun k => k = b) w w' := by
  obtain ⟨h1, ⟨p, hp, h2⟩, h3, h4⟩ := h
  obtain ⟨j, hj, hjs⟩ := Option.map_eq_some_iff.1 bld_info
  have hsh := h2.shape
  have hfz := h2.free 0
  have hb := h2.lt
  have H2 := Lib.hid h2
  rcases hp with rfl | rfl
  · have h0 : w.cell? ⟨b, 0, none⟩ = some (.pointer none) := h2.cellAt rfl
    clear h1 h2 h3 h4
    go_enter Tryd.func52, Tryd.ntmps52
    go_wp2
    rw [Lib.run_to_unsafe w ⟨b, 0, none⟩ Tryd.underlying65 Tryd.underlying109 hj (by rw [hjs]; decide) hsh (Nat.zero_lt_succ 1)]
    simp only [Result.andThen]
    rw [Oper.upon_value]
    go_wp2
    rw [run_callFunc_extern Tryd.func65 (by kernel_rfl) (by kernel_rfl) (by kernel_rfl) (e := Extern.AbiNoEscape.same) (by kernel_rfl)]
    rw [Lib.run_noEscape]
    simp only [Result.andThen]
    rw [Oper.upon_value]
    go_wp2
    rw [Lib.run_from_unsafe w ⟨b, 0, none⟩ Tryd.underlying109 Tryd.underlying65 hj hsh bld_lies]
    simp only [Result.andThen]
    rw [Oper.upon_value]
    go_wp2
    go_end0
    exact ⟨rfl, H2.out.set 0 _, (Upd.refl _ _).set (fun _ => rfl)⟩
  · have h0 : w.cell? ⟨b, 0, none⟩ = some (.pointer (some ⟨b, 0, none⟩)) := h2.cellAt rfl
    clear h1 h2 h3 h4
    go_enter Tryd.func52, Tryd.ntmps52
    go_wp2
    rw [Lib.run_neq_ptr_same w _ Tryd.underlying65 hj]
    go_wp2
    go_end0
    exact ⟨rfl, H2.out, Upd.refl _ _⟩
theorem wrote_end {w w1 w2 : World} {base b : Nat} {v v' : Value} {l l' : Txt} (h : Bld w base b v l) (u1 : Upd (fun k => k = b) w w1) (hB : Blk w1 b [.pointer (some ⟨b, 0, none⟩), v] 67) (i2 : BytesO w2 base v' l') (u2 : Upd (fun k => v.ownBlock = some k) w1 w2) (n2 : NewOr v v' w1) :
    Blk w2 b [.pointer (some ⟨b, 0, none⟩), v] 67 ∧ Wrote w base b v l' (w2.setCell ⟨b, 1, none⟩ v') := by
  obtain ⟨h1, ⟨p, hp, h2⟩, h3, h4⟩ := h
  have hB2 := u2.blk hB h4
  have hne : v'.ownBlock ≠ some b := fun e => by
    rcases n2 b e with g | g
    · exact h4 g
    · have := hB.lt; omega
  have us : Upd (fun k => k = b) w2 (w2.setCell ⟨b, 1, none⟩ v') := (Upd.refl _ _).set (fun _ => rfl)
  refine ⟨hB2, v', ⟨h1, ⟨_, Or.inr rfl, hB2.set 1 v'⟩, i2.keep us (fun k hk e => hne (e ▸ hk)), hne⟩, ?_, fun k hk => (n2 k hk).imp id (fun g => Nat.le_trans u1.size g)⟩
  exact ((u1.weaken (F := fun k => k = b ∨ v.ownBlock = some k) (fun _ _ => Or.inl)).trans u2 (fun _ _ => Or.inr)).trans us (fun _ _ => Or.inl)
set_option maxRecDepth 100000 in
theorem wbyte_any (w : World) (base b : Nat) (v : Value) (l : Txt) (c : UInt8) (x : Int) (hx : x = (c.toNat : Int)) (h : Bld w base b v l) (hl : l.length ≤ 1000000000) (hb : base ≤ w.heap.size) :
    Calls Tryd.prog 34 #[.pointer (some ⟨b, 0, none⟩), .int .u8 x] w fun e w' => e = .returned .nilIface ∧ Wrote w base b v (l ++ [c]) w' := by
  subst hx
  have CC := Lib.hid (copyCheck_any w base b v l h)
  obtain ⟨p0, c0, rfl, _, _⟩ := h.2.2.1.slice
  have H := Lib.hid h
  have h4 := Lib.hid h.2.2.2
  clear h
  go_enter Tryd.func34, Tryd.ntmps34
  go_wp2_with fail
  refine (CC.out).mono ?_
  rintro e w1 ⟨rfl, hB, u1⟩
  obtain ⟨p, k, w2, hr, i2, u2, n2⟩ := bytes_app w1 base _ l c (H.out.2.2.1.keep u1 (fun k hk e => h4.out (e ▸ hk))) (by omega) (Nat.le_trans hb u1.size)
  have hc1 : w1.cell? ⟨b, 1, none⟩ = some (.slice p0 l.length c0) := hB.cellAt rfl
  have hb1 := hB.lt
  have WE := wrote_end H.out u1 hB i2 u2 n2
  have hd1 : w2.cell? ⟨b, 1, none⟩ = some (.slice p0 l.length c0) := WE.1.cellAt rfl
  have hf1 : w2.frozen? ⟨b, 1, none⟩ = false := WE.1.free 1
  have hb2 := WE.1.lt
  have WE := Lib.hid WE.2
  clear i2 u2 n2 u1 hB
  go_wp2_with (at_builtin; refine wpList_builtinN rfl _ _ 27 rfl _ _ rfl rfl hr ?_)
  go_wp2
  go_ret
  exact ⟨rfl, WE.out⟩
theorem win_of_own {w : World} {base : Nat} {v : Value} {l : Txt} (h : BytesO w base v l) : ∃ p c, v = .slice p l.length c ∧ WinB w base p c l ∧ ∀ k o, p = some ⟨k, o, none⟩ → v.ownBlock = some k := by
  obtain ⟨p, c, e, hB, _⟩ := own_bytes h
  refine ⟨p, c, e, ⟨hB, ?_⟩, fun k o hk => by rw [e, hk]; rfl⟩
  rcases h.blk with ⟨e2, rfl⟩ | ⟨g, cap, cs, e2, hg, hBk, h1, h2, h3⟩
  · rw [e] at e2
    simp only [Value.slice.injEq] at e2
    exact Or.inl e2.1
  · rw [e] at e2
    simp only [Value.slice.injEq] at e2
    obtain ⟨rfl, _, rfl⟩ := e2
    refine Or.inr ⟨g, 0, _, rfl, hg, hBk, ?_⟩
    rw [List.length_append, flat_length bcs 1 (fun _ => rfl)]; omega
theorem bytes_str (w : World) (base : Nat) (v : Value) (l s : Txt) (h : BytesO w base v l) (hl : l.length + s.length ≤ 1000000000) (hb : base ≤ w.heap.size) :
    ∃ p k w', (Builtin.append_ #[27, 9] 27 #[v, .string (ofL s)]).run Tryd.prog w = .ok (.slice p (l.length + s.length) k) w' ∧ BytesO w' base (.slice p (l.length + s.length) k) (l ++ s) ∧ Upd (fun k => v.ownBlock = some k) w w' ∧ NewOr v (.slice p (l.length + s.length) k) w := by
  obtain ⟨i0, hi0, hz0, hz1, hz2⟩ := info_parts u8_info
  obtain ⟨v', w', hr, h2, h3, _⟩ := Lib.run_append_own_string (P := Tryd.prog) w base 27 9 27 5 i0 Tryd.underlying27 Tryd.underlying9 hi0 hz0 hz1 hz2 v l.length (flat bcs l) h (ofL s) (by rw [ofL_size]; unfold maxLen; omega) (by rw [ofL_size]; omega) hb
  obtain ⟨p, c, e, hW, hk⟩ := win_of_own h
  obtain ⟨p', c', w2, hr2, hW2, u2, n2⟩ := win_app w base p c l hW 9 (.string (ofL s)) s (src_str w s) (by omega) hb
  rw [← e, hr] at hr2
  injection hr2 with e1 e2
  subst e1 e2
  refine ⟨p', c', _, hr, ?_, ⟨h3.os, h3.tape, h3.output, h3.size, fun k hk1 hF => h3.block k hk1 (fun e => hF e.symm)⟩, fun k hk2 => ?_⟩
  · have e3 : flat bcs l ++ Lib.strCells (ofL s) = flat bcs (l ++ s) := by
      rw [flat_bcs, flat_bcs]; unfold Lib.strCells Lib.byteCells; rw [ofL_data, List.map_append]
    rw [e3, ofL_size] at h2
    show World.ownsRow _ _ _ _ _ (l ++ s).length _
    rw [List.length_append]; exact h2
  · rcases hW2.2 with rfl | ⟨g, o, cs, rfl, _⟩
    · cases hk2
    · have hk2 : some g = some k := hk2
      cases hk2
      rcases n2 k o rfl with ⟨o', e4⟩ | g4
      · exact Or.inl (hk k o' e4)
      · exact Or.inr g4
theorem row_bat {w : World} {q : Option Addr} {c : Nat} {s : Txt} (h : BAt w q c s) : RowOf bcs 1 w (.slice q s.length c) s := by
  rcases h.2.2 with rfl | ⟨g, o, rfl, hg, hc⟩
  · exact Or.inl ⟨_, _, rfl, rfl⟩
  · refine Or.inr ⟨g, o, c, rfl, hg, Nat.le_trans h.1.1 h.2.1, fun i a hi j hj => ?_⟩
    obtain rfl : j = 0 := by omega
    rw [Nat.mul_one, Nat.add_zero, hc i a hi]; rfl
theorem bytes_bat (w : World) (base : Nat) (v : Value) (l s : Txt) (q : Option Addr) (c : Nat) (h : BytesO w base v l) (hq : BAt w q c s) (hl : l.length + s.length ≤ 1000000000) (hb : base ≤ w.heap.size) :
    ∃ p k w', (Builtin.append_ #[27, 27] 27 #[v, .slice q s.length c]).run Tryd.prog w = .ok (.slice p (l.length + s.length) k) w' ∧ BytesO w' base (.slice p (l.length + s.length) k) (l ++ s) ∧ Upd (fun k => v.ownBlock = some k) w w' ∧ NewOr v (.slice p (l.length + s.length) k) w := by
  obtain ⟨i0, hi0, hz0, hz1, hz2⟩ := info_parts u8_info
  obtain ⟨v', w', a, b, d, e1⟩ := OwnN.append (P := Tryd.prog) 27 27 i0 (.int .u8 0) 1 Tryd.underlying27 hi0 hz0 hz1 hz2 rfl (by decide) (fun _ => rfl) (fun a _ u hu => by simp [bcs] at hu; subst hu; rfl) h (row_bat hq) (by unfold maxLen; omega) (by omega) hb
  obtain ⟨p, k, e, _⟩ := b.slice
  rw [List.length_append] at e
  subst e
  exact ⟨p, k, w', a, b, d, e1⟩
set_option maxRecDepth 100000 in
theorem wstr_any (w : World) (base b : Nat) (v : Value) (l s : Txt) (h : Bld w base b v l) (hl : l.length + s.length ≤ 1000000000) (hb : base ≤ w.heap.size) :
    Calls Tryd.prog 36 #[.pointer (some ⟨b, 0, none⟩), .string (ofL s)] w fun e w' => e = .returned (.tuple #[.int .i64 (s.length : Int), .nilIface]) ∧ Wrote w base b v (l ++ s) w' := by
  have CC := Lib.hid (copyCheck_any w base b v l h)
  obtain ⟨p0, c0, rfl, _, _⟩ := h.2.2.1.slice
  have H := Lib.hid h
  have h4 := Lib.hid h.2.2.2
  have hsz := ofL_size s
  clear h
  go_enter Tryd.func36, Tryd.ntmps36
  go_wp2_with fail
  refine (CC.out).mono ?_
  rintro e w1 ⟨rfl, hB, u1⟩
  obtain ⟨p, k, w2, hr, i2, u2, n2⟩ := bytes_str w1 base _ l s (H.out.2.2.1.keep u1 (fun k hk e => h4.out (e ▸ hk))) (by omega) (Nat.le_trans hb u1.size)
  have hc1 : w1.cell? ⟨b, 1, none⟩ = some (.slice p0 l.length c0) := hB.cellAt rfl
  have hb1 := hB.lt
  have WE := wrote_end H.out u1 hB i2 u2 n2
  have hd1 : w2.cell? ⟨b, 1, none⟩ = some (.slice p0 l.length c0) := WE.1.cellAt rfl
  have hf1 : w2.frozen? ⟨b, 1, none⟩ = false := WE.1.free 1
  have hb2 := WE.1.lt
  have WE := Lib.hid WE.2
  clear i2 u2 n2 u1 hB
  generalize ofL s = st at *
  go_wp2_with (at_builtin; refine wpList_builtinX rfl _ _ 27 9 rfl _ _ rfl rfl hr ?_)
  go_wp2
  go_ret2
  exact ⟨rfl, WE.out⟩
set_option maxRecDepth 100000 in
theorem write_any (w : World) (base b : Nat) (v : Value) (l s : Txt) (q : Option Addr) (c : Nat) (h : Bld w base b v l) (hq : BAt w q c s) (hqb : ∀ g o, q = some ⟨g, o, none⟩ → g ≠ b) (hl : l.length + s.length ≤ 1000000000) (hb : base ≤ w.heap.size) :
    Calls Tryd.prog 37 #[.pointer (some ⟨b, 0, none⟩), .slice q s.length c] w fun e w' => e = .returned (.tuple #[.int .i64 (s.length : Int), .nilIface]) ∧ Wrote w base b v (l ++ s) w' := by
  have CC := Lib.hid (copyCheck_any w base b v l h)
  obtain ⟨p0, c0, rfl, _, _⟩ := h.2.2.1.slice
  have H := Lib.hid h
  have h4 := Lib.hid h.2.2.2
  have hle := hq.le
  unfold maxLen at hle
  have HQ := Lib.hid hq
  clear h hq
  go_enter Tryd.func37, Tryd.ntmps37
  go_wp2_with fail
  refine (CC.out).mono ?_
  rintro e w1 ⟨rfl, hB, u1⟩
  obtain ⟨p, k, w2, hr, i2, u2, n2⟩ := bytes_bat w1 base _ l s q c (H.out.2.2.1.keep u1 (fun k hk e => h4.out (e ▸ hk))) (HQ.out.keep u1 (fun g o e => hqb g o e)) (by omega) (Nat.le_trans hb u1.size)
  have hc1 : w1.cell? ⟨b, 1, none⟩ = some (.slice p0 l.length c0) := hB.cellAt rfl
  have hb1 := hB.lt
  have WE := wrote_end H.out u1 hB i2 u2 n2
  have hd1 : w2.cell? ⟨b, 1, none⟩ = some (.slice p0 l.length c0) := WE.1.cellAt rfl
  have hf1 : w2.frozen? ⟨b, 1, none⟩ = false := WE.1.free 1
  have hb2 := WE.1.lt
  have WE := Lib.hid WE.2
  clear i2 u2 n2 u1 hB
  go_wp2_with (at_builtin; refine wpList_builtinN rfl _ _ 27 rfl _ _ rfl rfl hr ?_)
  go_wp2
  go_ret2
  exact ⟨rfl, WE.out⟩
theorem bstr_any (w : World) (base b : Nat) (v : Value) (l : Txt) (h : Bld w base b v l) (hb : base ≤ w.heap.size) :
    Calls Tryd.prog 38 #[.pointer (some ⟨b, 0, none⟩)] w fun e w' => e = .returned (.string (ofL l)) ∧ Below base w w' :=
  Tryd.Builder_String_any base b l w h.is hb
end Go.Proofs.YtkemjjhmabemiaaDoor
/- Walks: words as a line. -/
set_option linter.unusedVariables false
set_option linter.unusedSimpArgs false
namespace Lin
theorem quoteF_snoc (s : Txt) : ∀ (l : List Txt) (i : Nat), quoteF i (l ++ [s]) = quoteF i l ++ ((if 0 < i + l.length then [32] else []) ++ qw (i + l.length) s)
  | [], i => by simp [quoteF]
  | x :: r, i => by
    rw [List.cons_append, quoteF, quoteF, quoteF_snoc s r (i + 1)]
    have e : i + 1 + r.length = i + (x :: r).length := by simp; omega
    rw [e]; simp
theorem quote_take {l : List Txt} {j : Nat} {t : Txt} (h : l[j]? = some t) : quote (l.take (j + 1)) = quote (l.take j) ++ ((if 0 < j then [32] else []) ++ qw j t) := by
  obtain ⟨hj, e⟩ := List.getElem?_eq_some_iff.1 h
  unfold quote
  rw [List.take_succ_eq_append_getElem hj, e, quoteF_snoc]
  have : 0 + (l.take j).length = j := by rw [List.length_take]; omega
  rw [this]
theorem qb_len (c : UInt8) : (qb c).length ≤ 4 := by
  unfold qb
  split
  · simp
  · split <;> simp
theorem qbs_len : ∀ s : Txt, (s.flatMap qb).length ≤ 4 * s.length
  | [] => by simp
  | c :: r => by
    have := qbs_len r
    have := qb_len c
    rw [List.flatMap_cons, List.length_append, List.length_cons]; omega
theorem qw_len (i : Nat) (s : Txt) : (qw i s).length ≤ 4 * s.length + 2 := by
  unfold qw
  split
  · omega
  · have := qbs_len s
    rw [List.length_cons, List.length_append]; simp only [List.length_cons, List.length_nil]; omega
theorem qbs_take {s : Txt} {k : Nat} {c : UInt8} (h : s[k]? = some c) : (s.take (k + 1)).flatMap qb = (s.take k).flatMap qb ++ qb c := by
  obtain ⟨hj, e⟩ := List.getElem?_eq_some_iff.1 h
  rw [List.take_succ_eq_append_getElem hj, e]; simp
theorem all_take {s : Txt} {k : Nat} {c : UInt8} (h : s[k]? = some c) (h1 : (s.take k).all bareB = true) (h2 : bareB c = true) : (s.take (k + 1)).all bareB = true := by
  obtain ⟨hj, e⟩ := List.getElem?_eq_some_iff.1 h
  rw [List.take_succ_eq_append_getElem hj, e]; simp [h2]; simpa using h1
theorem not_bare {s : Txt} {k : Nat} {c : UInt8} (h : s[k]? = some c) (h2 : bareB c = false) : bare s = false := by
  unfold bare
  have : s.all bareB = false := by
    rw [List.all_eq_false]
    exact ⟨c, List.mem_of_getElem? h, by simp [h2]⟩
  rw [this]; rfl
end Lin
namespace Go.Proofs.YtkemjjhmabemiaaDoor
open Go.RowKit
open Lin (Txt)

theorem bare_cases (c : UInt8) : (Lin.bareB c = true ∧ ¬ (c.toNat : Int) < 33 ∧ ¬ 126 < (c.toNat : Int) ∧ ((c.toNat : Int) == 34) = false ∧ ((c.toNat : Int) == 39) = false ∧ ((c.toNat : Int) == 92) = false) ∨
    (Lin.bareB c = false ∧ ((c.toNat : Int) < 33 ∨ (¬ (c.toNat : Int) < 33 ∧ 126 < (c.toNat : Int)) ∨ (¬ (c.toNat : Int) < 33 ∧ ¬ 126 < (c.toNat : Int) ∧ ((c.toNat : Int) == 34) = true) ∨ (¬ (c.toNat : Int) < 33 ∧ ¬ 126 < (c.toNat : Int) ∧ ((c.toNat : Int) == 34) = false ∧ ((c.toNat : Int) == 39) = true)
      ∨ (¬ (c.toNat : Int) < 33 ∧ ¬ 126 < (c.toNat : Int) ∧ ((c.toNat : Int) == 34) = false ∧ ((c.toNat : Int) == 39) = false ∧ ((c.toNat : Int) == 92) = true))) := by
  unfold Lin.bareB
  by_cases h1 : (c.toNat : Int) < 33
  · exact Or.inr ⟨by have : ¬ 33 ≤ c.toNat := by omega
                     simp [this], Or.inl h1⟩
  · have h1' : 33 ≤ c.toNat := by omega
    by_cases h2 : 126 < (c.toNat : Int)
    · exact Or.inr ⟨by have : ¬ c.toNat ≤ 126 := by omega
                       simp [this], Or.inr (Or.inl ⟨h1, h2⟩)⟩
    · have h2' : c.toNat ≤ 126 := by omega
      by_cases h3 : c = 34
      · exact Or.inr ⟨by simp [h3], Or.inr (Or.inr (Or.inl ⟨h1, h2, u8t 34 h3 (by omega)⟩))⟩
      · by_cases h4 : c = 39
        · exact Or.inr ⟨by simp [h4], Or.inr (Or.inr (Or.inr (Or.inl ⟨h1, h2, u8f 34 h3 (by omega), u8t 39 h4 (by omega)⟩)))⟩
        · by_cases h5 : c = 92
          · exact Or.inr ⟨by simp [h5], Or.inr (Or.inr (Or.inr (Or.inr ⟨h1, h2, u8f 34 h3 (by omega), u8f 39 h4 (by omega), u8t 92 h5 (by omega)⟩)))⟩
          · exact Or.inl ⟨by simp [h1', h2', h3, h4, h5], h1, h2, u8f 34 h3 (by omega), u8f 39 h4 (by omega), u8f 92 h5 (by omega)⟩
set_option maxRecDepth 100000 in
theorem bare_any (s : Txt) (w : World) (hz : s.length ≤ 100000) :
    Calls Tryd.prog 35 #[.string (ofL s)] w fun e w' => e = .returned (.bool (Lin.bare s)) ∧ Upd (fun _ => False) w w' := by
  obtain ⟨cp, w1, hr, hB, u1⟩ := bytes_of s w (by unfold maxLen; omega)
  obtain ⟨g, hg⟩ : ∃ g, g = w.heap.size := ⟨_, rfl⟩
  rw [← hg] at hr hB
  have HB := Lib.hid hB
  have U1 := Lib.hid u1
  have HE := Lib.hid (show (ofL s).toList.isEmpty = s.isEmpty by rw [ofL_toList])
  have hle := hB.le
  unfold maxLen at hle
  clear hB u1 hg
  obtain ⟨st, hst⟩ : ∃ st, st = ofL s := ⟨_, rfl⟩
  rw [← hst] at hr HE ⊢
  obtain ⟨rb, hrb⟩ : ∃ rb, rb = Lin.bare s := ⟨_, rfl⟩
  rw [← hrb]
  have HRB := Lib.hid hrb
  clear hst hrb
  go_enter Tryd.func35, Tryd.ntmps35
  go_wp2
  go_loopw [2, 8] (fun v2 v8 wr => ∃ k : Nat, v2 = .bool false ∧ v8 = .int .i64 (k : Int) ∧ k ≤ s.length ∧ Hid ((s.take k).all Lin.bareB = true) ∧ wr = w1) (fun _ v8 _ => s.length - (intOf v8).toNat)
  case atStart => exact ⟨0, rfl, rfl, by omega, Lib.hid (by simp), rfl⟩
  case round =>
    obtain ⟨k, rfl, rfl, hk, AL, rfl⟩ := hrel
    by_cases hlt : k < s.length
    · obtain ⟨c, hc⟩ : ∃ c, s[k]? = some c := ⟨_, List.getElem?_eq_getElem hlt⟩
      obtain ⟨g', o', e, hgl, hcl⟩ := HB.out.at (by rintro rfl; simp at hlt)
      simp only [Option.some.injEq, Addr.mk.injEq] at e
      obtain ⟨rfl, rfl, _⟩ := e
      have hcell := hcl k c hc
      rw [Nat.zero_add] at hcell
      unfold byc at hcell
      have HC := Lib.hid hc
      clear hcl hc
      rcases bare_cases c with ⟨hbb, q1, q2, q3, q4, q5⟩ | ⟨hbb, q⟩
      · have HBB := Lib.hid hbb
        clear hbb
        generalize (c.toNat : Int) = x at *
        go_wp2
        go_roundw
        case rel => exact ⟨k + 1, rfl, by go_num, by omega, Lib.hid (Lin.all_take HC.out AL.out HBB.out), by first | rfl | trivial⟩
        case measure => simp [intOf]; omega
      · have HBB := Lib.hid hbb
        clear hbb
        generalize (c.toNat : Int) = x at *
        rcases q with q1 | ⟨q1, q2⟩ | ⟨q1, q2, q3⟩ | ⟨q1, q2, q3, q4⟩ | ⟨q1, q2, q3, q4, q5⟩
        all_goals
          go_wp2
          go_ret
          exact ⟨ret_bool (by rw [HRB.out]; exact (Lin.not_bare HC.out HBB.out).symm), U1.out⟩
    · have hkl : k = s.length := by omega
      subst hkl
      have AL : Hid (s.all Lin.bareB = true) := Lib.hid (by have := AL.out; rwa [List.take_length] at this)
      go_wp2
      go_ret
      refine ⟨ret_bool ?_, U1.out⟩
      rw [HRB.out, HE.out]; unfold Lin.bare
      rw [AL.out]; rfl
theorem and15 (c : UInt8) : bits .and .u8 (c.toNat : Int) 15 = ((c.toNat % 16 : Nat) : Int) := by
  have h : ∀ n : Nat, n < 256 → bits .and .u8 (n : Int) 15 = ((n % 16 : Nat) : Int) := by decide +kernel
  exact h _ c.toNat_lt
theorem dig_at (k : Nat) (hk : k < 16) (w : World) : (Instr.index 9 (.string { data := #[48, 49, 50, 51, 52, 53, 54, 55, 56, 57, 97, 98, 99, 100, 101, 102] }) (.int .u8 (k : Int))).run Tryd.prog w = .ok (.int .u8 ((Lin.digit k).toNat : Int)) w := by
  have : k = 0 ∨ k = 1 ∨ k = 2 ∨ k = 3 ∨ k = 4 ∨ k = 5 ∨ k = 6 ∨ k = 7 ∨ k = 8 ∨ k = 9 ∨ k = 10 ∨ k = 11 ∨ k = 12 ∨ k = 13 ∨ k = 14 ∨ k = 15 := by omega
  rcases this with rfl | rfl | rfl | rfl | rfl | rfl | rfl | rfl | rfl | rfl | rfl | rfl | rfl | rfl | rfl | rfl <;>
  · rw [run_index_string w _ _ _ _ Tryd.underlying9, dif_pos ⟨by decide, by decide⟩]; rfl
end Go.Proofs.YtkemjjhmabemiaaDoor
