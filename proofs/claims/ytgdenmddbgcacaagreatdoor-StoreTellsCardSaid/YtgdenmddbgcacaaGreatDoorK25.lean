/- Rows of texts: cut, put together (as the document's store does); texts in order. -/
import Derived.Test.YtgdenmddbgcacaaGreatDoorK20
import Derived.Test.YtgdenmddbgcacaaGreatDoorK24
import Derived.Test.YtgdenmddbgcacaaGreatDoorK08
import Derived.Laws.StructEq
import Derived.Deep.AppendLies
import Derived.BigQuiet
import Derived.Test.YtgdenmddbgcacaaGreatDoorK18
import Derived.Deep.DeepCutAuto
set_option linter.unusedVariables false
set_option linter.unusedSimpArgs false
namespace Go.Proofs.YtgdenmddbgcacaaGreatDoor
open Go.RowKit

theorem strs_own_lt {w : World} {base n : Nat} {e : TypeId} {v : Value} {xs : List Value} (h : w.ownsRow base e 1 v n xs) {k : Nat} (hk : v.ownBlock = some k) : k < w.heap.size ∧ base ≤ k ∧ ∃ cs, Blk w k cs e := by
  obtain ⟨_, ⟨rfl, _⟩ | ⟨b, cap, cs, rfl, hb, hB, _⟩⟩ := own_blk h
  · cases hk
  · cases hk; exact ⟨hB.lt, hb, _, hB⟩
theorem strs_one {l : List ByteArray} : ∀ u ∈ l.map Value.string, u.oneCell' = true := by intro u hu; obtain ⟨_, _, rfl⟩ := List.mem_map.1 hu; rfl
theorem addr_addT (g o j : Nat) : (⟨g, o, none⟩ : Addr).add j = ⟨g, o + j, none⟩ := Addr.add_lit ..
theorem strs_append (w : World) (base base2 : Nat) (ty : TypeId) (v v2 : Value) (xs ys : List ByteArray) (h : StrsAt w base v xs) (h2 : StrsAt w base2 v2 ys) (hl : xs.length + ys.length ≤ 1000000) (hb : base ≤ w.heap.size) :
    ∃ v' w', (Builtin.append_ #[54, 54] ty #[v, v2]).run Tryz.prog w = .ok v' w' ∧ StrsAt w' base v' (xs ++ ys) ∧ Upd (fun k => v.ownBlock = some k) w w' ∧ NewOr v v' w := by
  obtain ⟨i0, hi0, hz0, hz1, hz2⟩ := info_parts string_info
  obtain ⟨v', w', a, b, c, d⟩ := append_row w base base2 54 ty 9 i0 (.string ByteArray.empty) 16 Tryz.underlying54 hi0 hz0 hz1 hz2 rfl v v2 xs.length ys.length _ _ h h2 strs_one (by unfold maxLen; omega) (by omega) hb
  refine ⟨v', w', a, ?_, c, d⟩
  unfold StrsAt
  rw [List.length_append, List.map_append]; exact b
theorem strs_lit (w : World) (t : ByteArray) : StrsAt (w.alloc (.cells #[.string t] 9)) 0 (.slice (some ⟨w.heap.size, 0, none⟩) 1 1) [t] := own_of (cs := []) (Nat.zero_le _) (Blk.made w _ _) rfl rfl (by unfold maxLen; omega)
theorem strs_none (w : World) : StrsAt (w.alloc (.cells #[] 9)) w.heap.size (.slice (some ⟨w.heap.size, 0, none⟩) 0 0) [] :=
  World.ownsRow_made (e := 9) (size := 1) w #[] 0 (Nat.le_refl _) (by unfold maxLen; omega) rfl

theorem str_row {w : World} {base g n c a : Nat} {l : List ByteArray} (h : StrsAt w base (.slice (some ⟨g, 0, none⟩) n c) l) (hn : n = l.length) (ha : a ≤ l.length) : RowOf strc 1 w (.slice (some ⟨g, a, none⟩) (l.length - a) (c - a)) (l.drop a) := by
  subst hn
  obtain ⟨_, ⟨e, _⟩ | ⟨g', cap, cs, ev, hg, hB, hc, hm⟩⟩ := own_blk h
  · cases e
  · simp only [Value.slice.injEq, Option.some.injEq, Addr.mk.injEq] at ev
    obtain ⟨⟨rfl, _⟩, _, rfl⟩ := ev
    refine Or.inr ⟨g, a, c - a, by rw [List.length_drop], hB.lt, by rw [List.length_drop]; omega, fun i t hi j hj => ?_⟩
    have : j = 0 := by omega
    subst this
    have hil := (List.getElem?_eq_some_iff.1 hi).1
    rw [List.length_drop] at hil
    rw [List.getElem?_drop] at hi
    rw [hB.cell, Nat.mul_one, Nat.add_zero, List.getElem?_append_left (by simp; omega), List.getElem?_map, hi]; rfl
/-- The rest of a row, at a row of its own. -/
theorem strs_rest (w : World) (base : Nat) (v2 : Value) (l : List ByteArray) (h : RowOf strc 1 w v2 l) (hl : l.length ≤ 1000000) (hb : base ≤ w.heap.size) :
    ∃ v' w', (Builtin.append_ #[54, 54] 54 #[.slice (some ⟨w.heap.size, 0, none⟩) 0 0, v2]).run Tryz.prog (w.alloc (.cells #[] 9)) = .ok v' w' ∧ StrsAt w' base v' l ∧ Upd (fun _ => False) w w' := by
  obtain ⟨i0, hi0, hz0, hz1, hz2⟩ := info_parts string_info
  have u0 : Upd (fun _ => False) w (w.alloc (.cells #[] 9)) := (Upd.refl _ _).alloc _
  have h2 := h.keep u0 (fun _ _ _ h => h)
  have hN : StrsAt (w.alloc (.cells #[] 9)) base (.slice (some ⟨w.heap.size, 0, none⟩) 0 0) [] := World.ownsRow_made (e := 9) (size := 1) w #[] 0 hb (by unfold maxLen; omega) rfl
  by_cases h0 : l = []
  · subst h0
    obtain ⟨p, c, rfl⟩ : ∃ a c, v2 = .slice a 0 c := by
      rcases h2 with ⟨a, c, e, _⟩ | ⟨b, off, cap, e, _⟩
      · exact ⟨_, _, e⟩
      · exact ⟨_, _, e⟩
    have hs : Src Tryz.prog i0.size 54 (.slice p 0 c) 0 [] (w.alloc (.cells #[] 9)) := by
      cases p with
      | none => exact Src.ofNil _ Tryz.underlying54 c
      | some a => exact Src.ofSlice _ Tryz.underlying54 a 0 c [] (by simp) (fun j u h => by simp at h) (fun u h => by cases h)
    exact ⟨_, _, run_append_nothing (P := Tryz.prog) _ 54 54 54 9 i0 Tryz.underlying54 hi0 _ 0 0 (Nat.le_refl _) _ hs, hN, u0⟩
  · obtain ⟨b, off, c, rfl, hb2, _, hc⟩ : ∃ b off cap, v2 = .slice (some ⟨b, off, none⟩) l.length cap ∧ b < (w.alloc (.cells #[] 9)).heap.size ∧ l.length ≤ maxLen ∧ ∀ i a, l[i]? = some a → ∀ j, j < 1 → (w.alloc (.cells #[] 9)).cell? ⟨b, off + (i * 1 + j), none⟩ = (strc a)[j]? := by
      rcases h2 with ⟨_, _, _, e⟩ | h2
      · exact absurd e h0
      · exact h2
    have hn : ∀ j u, (l.map Value.string)[j]? = some u → (w.alloc (.cells #[] 9)).cell? ((⟨b, off, none⟩ : Addr).add j) = some u := by
      intro j u hj
      rw [List.getElem?_map] at hj
      obtain ⟨t, ht, rfl⟩ := Option.map_eq_some_iff.1 hj
      have h1 := hc j t ht 0 (by omega)
      have e : (⟨b, off, none⟩ : Addr).add j = ⟨b, off + (j * 1 + 0), none⟩ := by simp [Addr.add]
      rw [e, h1]; rfl
    obtain ⟨v', w', hr, q2, q3, _⟩ := run_append_own (P := Tryz.prog) _ base 54 54 9 i0 (.string ByteArray.empty) 1 16 Tryz.underlying54 hi0 hz0 hz1 hz2 rfl (by decide) _ 0 [] hN ⟨b, off, none⟩ l.length c _ (by simp) hn strs_one (by unfold maxLen; omega) (by omega) (Nat.le_trans hb u0.size)
    refine ⟨v', w', hr, ?_, u0.trans (Upd.of_grown q3) (fun k hk e => ?_)⟩
    · unfold StrsAt
      rw [Nat.zero_add, List.nil_append] at q2; exact q2
    · have e2 : w.heap.size = k := Option.some.inj (e.symm ▸ rfl : (some w.heap.size) = some k)
      omega
theorem sslice_rest (g na cc a : Nat) (h1 : a ≤ na) : ∃ V, (∀ w, (Instr.slice 54 (.slice (some ⟨g, 0, none⟩) na cc) (some (.int .i64 (a : Int))) none none).run Tryz.prog w = .ok V w) ∧
    ∀ (w : World) (base : Nat) (l : List ByteArray), StrsAt w base (.slice (some ⟨g, 0, none⟩) na cc) l → RowOf strc 1 w V (l.drop a) := by
  have hE : Tryz.prog.elem 54 = 9 := by simp [Program.elem, Tryz.underlying54]
  refine ⟨_, fun w => by rw [run_slice_l (P := Tryz.prog) w 54 _ na cc (by rw [hE]; exact Tryz.underlying54) .i64 (a : Int) (by omega) (by omega), hE, Tryz.sizeOf9]; rfl, fun w base l h => ?_⟩
  obtain ⟨_, ⟨e, _⟩ | ⟨g', cap, cs, ev, hg, hB, hc, hm⟩⟩ := own_blk h
  · cases e
  simp only [Value.slice.injEq] at ev
  have hnl : na = l.length := ev.2.1
  unfold sliced
  rw [Int.toNat_natCast]
  split
  · rename_i hcc
    have h0 : l.drop a = [] := List.drop_eq_nil_of_le (by omega)
    rw [h0]
    exact Or.inl ⟨_, _, by rw [show na - a = 0 by omega], rfl⟩
  · have e2 : (some (⟨g, 0, none⟩ : Addr)).map (fun x => x.add (a * 1)) = some ⟨g, a, none⟩ := by simp [Addr.add_lit]
    have := str_row (a := a) h hnl (by omega)
    rw [← hnl] at this
    simpa [addr_addT] using this
theorem sslice_head (g na cc a : Nat) (h1 : a ≤ cc) (w : World) : (Instr.slice 54 (.slice (some ⟨g, 0, none⟩) na cc) none (some (.int .i64 (a : Int))) (some (.int .i64 (a : Int)))).run Tryz.prog w = .ok (.slice (some ⟨g, 0, none⟩) a a) w := by
  have hE : Tryz.prog.elem 54 = 9 := by simp [Program.elem, Tryz.underlying54]
  rw [run_slice_hm (P := Tryz.prog) w 54 _ na cc (by rw [hE]; exact Tryz.underlying54) .i64 .i64 (a : Int) (a : Int) (by omega) (by omega) (by omega), hE, Tryz.sizeOf9]
  simp [Result.andThen, sliced, addr_addT]
/-- A text more behind the beginning of a row: at a row of its own. -/
theorem strs_cut (w : World) (base g n c a : Nat) (l : List ByteArray) (t : ByteArray) (h : StrsAt w base (.slice (some ⟨g, 0, none⟩) n c) l) (ha : a ≤ l.length) (hl : l.length ≤ 1000000) (hb : base ≤ w.heap.size) :
    ∃ p c' w', (Builtin.append_ #[54, 54] 54 #[.slice (some ⟨g, 0, none⟩) a a, .slice (some ⟨w.heap.size, 0, none⟩) 1 1]).run Tryz.prog (w.alloc (.cells #[.string t] 9)) = .ok (.slice p (a + 1) c') w' ∧ StrsAt w' base (.slice p (a + 1) c') (l.take a ++ [t]) ∧ Upd (fun _ => False) w w' := by
  obtain ⟨i0, hi0, hz0, hz1, hz2⟩ := info_parts string_info
  have u0 : Upd (fun _ => False) w (w.alloc (.cells #[.string t] 9)) := (Upd.refl _ _).alloc _
  obtain ⟨_, ⟨e, _⟩ | ⟨g', cap, cs, ev, hg, hB0, hc, hm⟩⟩ := own_blk h
  · cases e
  simp only [Value.slice.injEq, Option.some.injEq, Addr.mk.injEq] at ev
  obtain ⟨⟨rfl, _⟩, _, rfl⟩ := ev
  have hB := u0.blk hB0 id
  have hxl : ((l.take a).map Value.string).length = a := by simp; omega
  have holds : ∀ j u, ((l.take a).map Value.string)[j]? = some u → (w.alloc (.cells #[.string t] 9)).cell? ((⟨g, 0, none⟩ : Addr).add j) = some u := by
    intro j u hj
    have hjl := (List.getElem?_eq_some_iff.1 hj).1
    rw [hxl] at hjl
    have e : (⟨g, 0, none⟩ : Addr).add j = ⟨g, j, none⟩ := by have := addr_addT g 0 j; rw [Nat.zero_add] at this; exact this
    rw [e, hB.cell, List.getElem?_append_left (by simp; omega), ← hj, List.getElem?_map, List.getElem?_map, List.getElem?_take_of_lt hjl]
  have hN : Blk (w.alloc (.cells #[.string t] 9)) w.heap.size [.string t] 9 := Blk.made w _ _
  have hn : ∀ j u, [Value.string t][j]? = some u → (w.alloc (.cells #[.string t] 9)).cell? ((⟨w.heap.size, 0, none⟩ : Addr).add j) = some u := World.news_of_block (cs := #[.string t]) (t := 9) (fr := (0, 0)) hN
  generalize hwA : w.alloc (.cells #[.string t] 9) = wA at *
  have hr := run_append_grow (P := Tryz.prog) wA 54 54 9 i0 (.string ByteArray.empty) Tryz.underlying54 hi0 hz0 ⟨g, 0, none⟩ a a _ (by rw [hz1, hxl]; simp) holds ⟨w.heap.size, 0, none⟩ 1 1 [.string t] (by rw [hz1]; rfl) hn (by omega) (by omega) (growslice_fits (by omega) (by rw [hz2]; show (a + 1) * 16 ≤ _; omega))
  have hge := grownCap_ge wA (a + 1) a 9
  have hcm := grownCap_le_maxLen wA (a + 1) a 9 (by unfold maxLen; omega)
  refine ⟨_, _, _, hr, ⟨by simp, .inr ⟨_, _, _, by simp [Nat.min_eq_left ha], Nat.le_trans hb u0.size, heap_alloc_new wA.drew _, by simp [Nat.min_eq_left ha]; exact hge, hcm, ?_, ?_⟩⟩, ?_⟩
  · simp only [Array.size_append, List.size_toArray, size_zeroCells, hxl, List.length_singleton]
    have : (Value.string ByteArray.empty).cells.size = 1 := rfl
    rw [this]; omega
  · rw [show (l.take a ++ [t]).length * 1 = a + 1 by simp; omega]
    simp only [Array.toList_append, List.append_assoc]
    rw [← List.append_assoc, List.map_append]
    exact List.take_left' (by rw [List.length_append, hxl]; rfl)
  · exact u0.trans ((Upd.refl _ _).drew.alloc _) (fun _ _ h => h)
theorem str_at {w : World} {base : Nat} {p : Option Addr} {c : Nat} {l : List ByteArray} (h : StrsAt w base (.slice p l.length c) l) {k : Nat} (hk : k < l.length) :
    ∃ g, p = some ⟨g, 0, none⟩ ∧ g < w.heap.size ∧ w.cell? ⟨g, k, none⟩ = some (.string l[k]) := by
  obtain ⟨_, ⟨e, h0⟩ | ⟨g, cap, cs, ev, hg, hB, hc, hm⟩⟩ := own_blk h
  · omega
  · simp only [Value.slice.injEq] at ev
    refine ⟨g, ev.1, hB.lt, ?_⟩
    rw [hB.cell, List.getElem?_append_left (by simpa using hk), List.getElem?_map, List.getElem?_eq_getElem hk]; rfl
/-- Texts in order. -/
def leB (a b : ByteArray) : Prop := ¬ b.toList < a.toList
abbrev OrdB (l : List ByteArray) : Prop := l.Pairwise leB
theorem leB_trans {a b c : ByteArray} (h : leB a b) (k : leB b c) : leB a c := by
  unfold leB at *
  rw [List.not_lt] at *
  exact List.le_trans h k
theorem ordB_put {acc : List ByteArray} {s : ByteArray} {a : Nat} (hr : OrdB acc) (h1 : ∀ t ∈ acc.take a, leB t s) (h2 : ∀ t ∈ acc.drop a, leB s t) : OrdB (acc.take a ++ [s] ++ acc.drop a) ∧ (acc.take a ++ [s] ++ acc.drop a).Perm (acc ++ [s]) := by
  have hp : (acc.take a ++ acc.drop a).Pairwise leB := by rw [List.take_append_drop]; exact hr
  obtain ⟨p1, p2, p3⟩ := List.pairwise_append.1 hp
  refine ⟨List.pairwise_append.2 ⟨List.pairwise_append.2 ⟨p1, by simp, fun x hx y hy => by rw [List.mem_singleton.1 hy]; exact h1 x hx⟩, p2, fun x hx y hy => ?_⟩, ?_⟩
  · rcases List.mem_append.1 hx with g | g
    · exact p3 x g y hy
    · rw [List.mem_singleton.1 g]; exact h2 y hy
  · have : (acc ++ [s]).Perm (acc.take a ++ (acc.drop a ++ [s])) := by rw [← List.append_assoc, List.take_append_drop]
    rw [List.append_assoc]
    exact (List.Perm.append_left _ List.perm_append_comm).trans this.symm
theorem sort_ord {l : List ByteArray} (h : OrdB l) : sortStr l = l := by
  unfold sortStr
  have hp : (bytesOf l).Pairwise (fun x y => decide (x ≤ y) = true) := by
    unfold bytesOf
    rw [List.pairwise_map]
    refine h.imp fun {a b} g => decide_eq_true ?_
    unfold leB at g
    rw [List.not_lt, ByteArray.toList_eq, ByteArray.toList_eq] at g
    exact g
  rw [List.mergeSort_of_pairwise hp]
  unfold ofBytes bytesOf
  rw [List.map_map]
  have : ((fun s => (⟨s.toArray⟩ : ByteArray)) ∘ fun x => x.data.toList) = id := by funext x; simp [Function.comp]
  rw [this]; simp
theorem ord_sort {l m : List ByteArray} (h : OrdB l) (p : l.Perm m) : l = sortStr m := by rw [← sortStr_congr p, sort_ord h]
end Go.Proofs.YtgdenmddbgcacaaGreatDoor
/- The document's store: walk of Keys. -/
set_option linter.unusedVariables false
set_option linter.unusedSimpArgs false
set_option linter.unusedSectionVars false
namespace Go.Proofs.YtgdenmddbgcacaaGreatDoor
open Go.RowKit

theorem keys_snoc {l : List Ce} {k : Nat} {c : Ce} (h : l[k]? = some c) : keysC (l.take (k + 1)) = keysC (l.take k) ++ [c.key] := by
  obtain ⟨h1, e⟩ := List.getElem?_eq_some_iff.1 h
  unfold keysC
  rw [List.take_succ_eq_append_getElem h1, e, List.map_append]; rfl
set_option maxHeartbeats 8000000 in
set_option maxRecDepth 100000 in
theorem qkeys_any {w : World} {base wb : Nat} {vs ve : Value} {C : List RCe} {S : PS} (h : RMem w base wb vs ve C S) (hl : S.cells.length ≤ 10000) :
    Calls Tryz.prog 18 #[.pointer (some ⟨wb, 0, none⟩)] w fun e w' => ∃ v', e = .returned v' ∧ StrsAt w' w.heap.size v' (sortStr (keysC S.cells)) ∧ Upd (fun _ => False) w w' := by
  obtain ⟨p, c, ev, hm, hle⟩ := h.cells.slice
  subst ev
  unfold maxLen at hm
  have H := Lib.hid h
  obtain ⟨nl, hnl⟩ : ∃ nl, nl = C.length := ⟨_, rfl⟩
  have NL := Lib.hid hnl
  have SL : Hid (S.cells.length = nl) := by show _ = _; rw [hnl, h.len]
  have U0 : Hid (Upd (fun _ => False) w (w.alloc (.cells #[] 9))) := (Upd.refl _ _).alloc _
  have x0 := (h.keep0 U0.out).blk.cellAt (i := 0) (v := .slice p C.length c) rfl
  have hwb := (h.keep0 U0.out).blk.lt
  have MO := Lib.hid (strs_none w)
  rw [← hnl] at hm hle x0
  have hl : nl ≤ 10000 := by rw [← SL.out]; exact hl
  clear h hnl
  go_enter Tryz.func18, Tryz.ntmps18
  go_wp2
  go_loopw [3, 14] (fun out xi wr => ∃ (k g cc na : Nat) (acc : List ByteArray), k ≤ nl ∧ na ≤ k ∧ out = .slice (some ⟨g, 0, none⟩) na cc ∧ xi = .int .i64 (k : Int) ∧ Hid (na = acc.length) ∧ na ≤ cc ∧ cc ≤ maxLen ∧ Hid (OrdB acc ∧ acc.Perm (keysC (S.cells.take k))) ∧ Hid (StrsAt wr w.heap.size (.slice (some ⟨g, 0, none⟩) na cc) acc) ∧ Hid (Upd (fun _ => False) w wr)) (fun _ xi _ => nl - (intOf xi).toNat)
  case atStart => exact ⟨0, w.heap.size, 0, 0, [], by omega, by omega, rfl, rfl, Lib.hid rfl, by omega, by unfold maxLen; omega, Lib.hid ⟨List.Pairwise.nil, by simp [keysC]⟩, MO, U0⟩
  case round =>
    clear MO U0 x0 hwb
    obtain ⟨k, g, cc, na, acc, hk, hna, rfl, rfl, NA, hcc, hcm, RM, OW, U⟩ := hrel
    have hwl := U.out.size
    unfold maxLen at hcm
    by_cases hlt : k < nl
    · have q1 : (k : Int) < (nl : Int) := by omega
      have hkl : k < C.length := by rw [← NL.out]; exact hlt
      obtain ⟨b, t, ep, hb, hbl, htk, hcs, _⟩ := cel_cells (H.out.keep0 U.out).cells hkl
      subst ep
      have c0 := hcs 0 (by omega)
      have c1 := hcs 1 (by omega)
      have c2 := hcs 2 (by omega)
      have c3 := hcs 3 (by omega)
      have c4 := hcs 4 (by omega)
      have hs : S.cells[k]? = some t.c := by rw [← H.out.eq, List.getElem?_map, htk]; rfl
      have FD := (H.out.keep0 U.out).flds t (List.mem_of_getElem? htk)
      obtain ⟨pv, cv, evv, _⟩ := FD.1.len
      have TK := Lib.hid (keys_snoc hs)
      clear hcs hkl htk FD hs
      obtain ⟨⟨s, ⟨kd, tx, fl⟩, wn⟩, v⟩ := t
      simp only at evv TK
      subst evv
      simp only [rcs, List.getElem?_cons_zero, List.getElem?_cons_succ, Nat.add_zero] at c0 c1 c2 c3 c4
      generalize fl.length = nf at *
      have UQ : Hid (Upd (fun _ => False) wr (wr.alloc (.cells #[.string s, .int .i64 kd, .string tx, .slice pv nf cv, .int .i64 wn] 90))) := (Upd.refl _ _).alloc _
      have BQ := Lib.hid (Blk.made wr [.string s, .int .i64 kd, .string tx, .slice pv nf cv, .int .i64 wn] 90)
      go_upto_region 5 with (fail)
      generalize hq : wr.heap.size = q at *
      generalize hw6 : wr.alloc (.cells #[.string s, .int .i64 kd, .string tx, .slice pv nf cv, .int .i64 wn] 90) = w6 at *
      have BQ : Hid (Blk w6 q [.string s, .int .i64 kd, .string tx, .slice pv nf cv, .int .i64 wn] 90) := BQ
      have U6 : Hid (Upd (fun _ => False) w w6) := U.out.trans UQ.out (fun _ _ h => h)
      have OW6 : Hid (StrsAt w6 w.heap.size (.slice (some ⟨g, 0, none⟩) na cc) acc) := own_keep OW.out UQ.out (fun _ _ h => h)
      have hwl : w.heap.size ≤ w6.heap.size := U6.out.size
      clear hw6 hq c0 c1 c2 c3 c4 hb hbl UQ OW U
      go_wp2
      go_loopw [6] (fun x6 wq => ∃ (a : Nat), x6 = .int .i64 (a : Int) ∧ a ≤ na ∧ Hid (Upd (fun _ => False) w6 wq) ∧ Hid (∀ t ∈ acc.take a, leB t s)) (fun x6 _ => na - (intOf x6).toNat)
      case atStart => exact ⟨0, rfl, by omega, Lib.hid (Upd.refl _ _), Lib.hid (fun t ht => by simp at ht)⟩
      case round =>
        obtain ⟨a, rfl, ha, WQ, LT⟩ := hrel
        have BR : Hid (Blk wr q [.string s, .int .i64 kd, .string tx, .slice pv nf cv, .int .i64 wn] 90) := WQ.out.blk BQ.out (fun h => h)
        have OWR : Hid (StrsAt wr w.heap.size (.slice (some ⟨g, 0, none⟩) na cc) acc) := own_keep OW6.out WQ.out (fun _ _ h => h)
        have UWR : Hid (Upd (fun _ => False) w wr) := U6.out.trans WQ.out (fun _ _ h => h)
        have z0 := BR.out.cellAt (i := 0) rfl
        have zl := BR.out.lt
        by_cases hal : a < na
        · have hal2 : a < acc.length := by rw [← NA.out]; exact hal
          obtain ⟨g', ep', gl, c1⟩ := str_at (NA.out ▸ OWR.out) hal2
          have eg : g = g' := by injection ep' with e; injection e
          subst eg
          have q2 : (a : Int) < (na : Int) := by omega
          have q3 : decide ((a : Int) < (na : Int)) = true := decide_eq_true q2
          have LQ := bytesLess_lt acc[a].toList s.toList
          by_cases hls : acc[a].toList < s.toList
          · rw [decide_eq_true hls] at LQ
            have LT2 : Hid (∀ t ∈ acc.take (a + 1), leB t s) := fun t ht => by
              rw [List.take_succ_eq_append_getElem hal2] at ht
              rcases List.mem_append.1 ht with h | h
              · exact LT.out t h
              · rw [List.mem_singleton.1 h]; exact fun g => List.lt_irrefl _ (List.lt_trans hls g)
            clear hls
            generalize acc[a] = sa at *
            clear hal2 ep'
            go_upto_region 6 with (fail)
            go_quiet (fail)
            go_wp2
            go_roundw
            case rel => exact ⟨a + 1, by simp, by omega, Lib.hid (WQ.out.trans ((Upd.refl _ _).drewN nq) (fun _ _ h => h)), LT2⟩
            case measure => simp [intOf]; omega
          · rw [decide_eq_false hls] at LQ
            have GT : ∀ t ∈ acc.drop a, leB s t := fun t ht => by
              rw [List.drop_eq_getElem_cons hal2] at ht
              rcases List.mem_cons.1 ht with h | h
              · rw [h]; exact hls
              · have hp := RM.out.1
                rw [← List.take_append_drop a acc, List.drop_eq_getElem_cons hal2] at hp
                have h3 := (List.pairwise_cons.1 (List.pairwise_append.1 hp).2.1).1 t h
                exact leB_trans hls h3
            clear hls
            generalize acc[a] = sa at *
            clear hal2 ep'
            go_upto_region 6 with (fail)
            go_quiet (fail)
            generalize hwz : wr.drewN nq = wz
            have UZ : Upd (fun _ => False) wr wz := by rw [← hwz]; exact (Upd.refl _ _).drewN nq
            have BZ : Hid (Blk wz q [.string s, .int .i64 kd, .string tx, .slice pv nf cv, .int .i64 wn] 90) := UZ.blk BR.out (fun h => h)
            have OWZ : Hid (StrsAt wz w.heap.size (.slice (some ⟨g, 0, none⟩) na cc) acc) := own_keep OWR.out UZ (fun _ _ h => h)
            have UWZ : Hid (Upd (fun _ => False) w wz) := UWR.out.trans UZ (fun _ _ h => h)
            have hwl : w.heap.size ≤ wz.heap.size := UWZ.out.size
            obtain ⟨V2, RS1, RS2⟩ := sslice_rest g na cc a ha
            have RS3 := sslice_head g na cc a (by omega)
            obtain ⟨v2, w2, hr1, R1, U1⟩ := strs_rest wz w.heap.size _ (acc.drop a) (RS2 _ _ _ OWZ.out) (by rw [List.length_drop, ← NA.out]; omega) hwl
            have ud : Upd (fun _ => False) w2 w2.drew := (Upd.refl _ _).drew
            have U1d := U1.trans ud (fun _ _ h => h)
            have OW2 := own_keep OWZ.out U1d (fun _ _ h => h)
            obtain ⟨p3, c3, w3, hr2, R2, U2⟩ := strs_cut w2.drew w.heap.size g na cc a acc s OW2 (by rw [← NA.out]; exact ha) (by rw [← NA.out]; omega) (Nat.le_trans hwl U1d.size)
            obtain ⟨v4, w4, hr3, R3, U3, NO⟩ := strs_append w3 w.heap.size w.heap.size 54 _ v2 _ _ R2 (own_keep (own_keep R1 ud (fun _ _ h => h)) U2 (fun _ _ h => h)) (by simp; rw [← NA.out]; omega) (Nat.le_trans hwl (Nat.le_trans U1d.size U2.size))
            have hr2 : (Builtin.append_ #[54, 54] 54 #[.slice (some ⟨g, 0, none⟩) a a, .slice (some ⟨w2.heap.size, 0, none⟩) 1 1]).run Tryz.prog (w2.alloc (.cells #[.string s] 9)).drew = .ok (.slice p3 (a + 1) c3) w3 := hr2
            obtain ⟨SP1, SP2⟩ := ordB_put RM.out.1 LT.out GT
            have LN : (acc.take a ++ [s] ++ acc.drop a).length = na + 1 := by
              rw [List.length_append, List.length_append, List.length_take, List.length_drop, ← NA.out]; simp; omega
            have R3B := own_blk R3
            rw [LN] at R3B
            obtain ⟨_, ⟨_, e0⟩ | ⟨g4, c4, cs4, ev4, _, _, hc4, hm4⟩⟩ := R3B
            · omega
            subst ev4
            have SP2 : Hid ((acc.take a ++ [s] ++ acc.drop a).Perm (keysC (S.cells.take (k + 1)))) := by
              show _
              rw [TK.out]; exact SP2.trans (RM.out.2.append_right [s])
            have SP1 := Lib.hid SP1
            have LN := Lib.hid LN.symm
            have R3 := Lib.hid R3
            have U4 : Hid (Upd (fun _ => False) w w4) := ((UWZ.out.trans U1d (fun _ _ h => h)).trans U2 (fun _ _ h => h)).trans U3 (fun q hq e => by have := (strs_own_lt R2 e).2.1; omega)
            have z2 := (U1.blk BZ.out (fun h => h)).cellAt (i := 0) rfl
            have zl2 := (U1.blk BZ.out (fun h => h)).lt
            clear R1 R2 U1 U1d ud U2 U3 OW2 NO GT RS2 z0 zl UZ
            generalize acc.take a ++ [s] ++ acc.drop a = acc2 at *
            go_upto_region 9 with (first | (at_builtin; refine wpList_builtinN rfl _ _ 54 rfl _ _ rfl rfl hr1 ?_) | (at_builtin; refine wpList_builtin rfl _ _ 54 rfl _ _ rfl rfl hr1 ?_))
            clear hr1 RS1
            go_region_law (first | (refine step_builtinN rfl (.tmp 41) (.tmp 44) 54 rfl _ _ rfl rfl hr2 ?_) | (refine step_builtinN rfl (.tmp 45) (.tmp 46) 54 rfl _ _ rfl rfl hr3 ?_))
            all_goals go_wp2
            all_goals go_roundw
            case rel => exact ⟨k + 1, g4, c4, na + 1, acc2, by omega, by omega, rfl, by simp, LN, by omega, hm4, Lib.hid ⟨SP1.out, SP2.out⟩, R3, U4⟩
            case measure => simp [intOf]; omega
        · have q2 : ¬ (a : Int) < (na : Int) := by omega
          have q3 : decide ((a : Int) < (na : Int)) = false := decide_eq_false q2
          have GT : ∀ t ∈ acc.drop a, leB s t := fun t ht => by
            rw [List.drop_eq_nil_of_le (by rw [← NA.out]; omega)] at ht; cases ht
          go_upto_region 6 with (fail)
          go_quiet (fail)
          generalize hwz : wr.drewN nq = wz
          have UZ : Upd (fun _ => False) wr wz := by rw [← hwz]; exact (Upd.refl _ _).drewN nq
          have BZ : Hid (Blk wz q [.string s, .int .i64 kd, .string tx, .slice pv nf cv, .int .i64 wn] 90) := UZ.blk BR.out (fun h => h)
          have OWZ : Hid (StrsAt wz w.heap.size (.slice (some ⟨g, 0, none⟩) na cc) acc) := own_keep OWR.out UZ (fun _ _ h => h)
          have UWZ : Hid (Upd (fun _ => False) w wz) := UWR.out.trans UZ (fun _ _ h => h)
          have hwl : w.heap.size ≤ wz.heap.size := UWZ.out.size
          obtain ⟨V2, RS1, RS2⟩ := sslice_rest g na cc a ha
          have RS3 := sslice_head g na cc a (by omega)
          obtain ⟨v2, w2, hr1, R1, U1⟩ := strs_rest wz w.heap.size _ (acc.drop a) (RS2 _ _ _ OWZ.out) (by rw [List.length_drop, ← NA.out]; omega) hwl
          have ud : Upd (fun _ => False) w2 w2.drew := (Upd.refl _ _).drew
          have U1d := U1.trans ud (fun _ _ h => h)
          have OW2 := own_keep OWZ.out U1d (fun _ _ h => h)
          obtain ⟨p3, c3, w3, hr2, R2, U2⟩ := strs_cut w2.drew w.heap.size g na cc a acc s OW2 (by rw [← NA.out]; exact ha) (by rw [← NA.out]; omega) (Nat.le_trans hwl U1d.size)
          obtain ⟨v4, w4, hr3, R3, U3, NO⟩ := strs_append w3 w.heap.size w.heap.size 54 _ v2 _ _ R2 (own_keep (own_keep R1 ud (fun _ _ h => h)) U2 (fun _ _ h => h)) (by simp; rw [← NA.out]; omega) (Nat.le_trans hwl (Nat.le_trans U1d.size U2.size))
          have hr2 : (Builtin.append_ #[54, 54] 54 #[.slice (some ⟨g, 0, none⟩) a a, .slice (some ⟨w2.heap.size, 0, none⟩) 1 1]).run Tryz.prog (w2.alloc (.cells #[.string s] 9)).drew = .ok (.slice p3 (a + 1) c3) w3 := hr2
          obtain ⟨SP1, SP2⟩ := ordB_put RM.out.1 LT.out GT
          have LN : (acc.take a ++ [s] ++ acc.drop a).length = na + 1 := by
            rw [List.length_append, List.length_append, List.length_take, List.length_drop, ← NA.out]; simp; omega
          have R3B := own_blk R3
          rw [LN] at R3B
          obtain ⟨_, ⟨_, e0⟩ | ⟨g4, c4, cs4, ev4, _, _, hc4, hm4⟩⟩ := R3B
          · omega
          subst ev4
          have SP2 : Hid ((acc.take a ++ [s] ++ acc.drop a).Perm (keysC (S.cells.take (k + 1)))) := by
            show _
            rw [TK.out]; exact SP2.trans (RM.out.2.append_right [s])
          have SP1 := Lib.hid SP1
          have LN := Lib.hid LN.symm
          have R3 := Lib.hid R3
          have U4 : Hid (Upd (fun _ => False) w w4) := ((UWZ.out.trans U1d (fun _ _ h => h)).trans U2 (fun _ _ h => h)).trans U3 (fun q hq e => by have := (strs_own_lt R2 e).2.1; omega)
          have z2 := (U1.blk BZ.out (fun h => h)).cellAt (i := 0) rfl
          have zl2 := (U1.blk BZ.out (fun h => h)).lt
          clear R1 R2 U1 U1d ud U2 U3 OW2 NO GT RS2 z0 zl UZ
          generalize acc.take a ++ [s] ++ acc.drop a = acc2 at *
          go_upto_region 9 with (first | (at_builtin; refine wpList_builtinN rfl _ _ 54 rfl _ _ rfl rfl hr1 ?_) | (at_builtin; refine wpList_builtin rfl _ _ 54 rfl _ _ rfl rfl hr1 ?_))
          clear hr1 RS1
          go_region_law (first | (refine step_builtinN rfl (.tmp 41) (.tmp 44) 54 rfl _ _ rfl rfl hr2 ?_) | (refine step_builtinN rfl (.tmp 45) (.tmp 46) 54 rfl _ _ rfl rfl hr3 ?_))
          all_goals go_wp2
          all_goals go_roundw
          case rel => exact ⟨k + 1, g4, c4, na + 1, acc2, by omega, by omega, rfl, by simp, LN, by omega, hm4, Lib.hid ⟨SP1.out, SP2.out⟩, R3, U4⟩
          case measure => simp [intOf]; omega
    · have q1 : ¬ (k : Int) < (nl : Int) := by omega
      have EA : Hid (sortStr (keysC S.cells) = acc) := by
        have := RM.out.2
        rw [List.take_of_length_le (by rw [SL.out]; omega)] at this
        exact (ord_sort RM.out.1 this).symm
      go_wp2
      go_ret
      rw [EA.out]
      exact ⟨_, rfl, NA.out ▸ OW.out, U.out⟩
end Go.Proofs.YtgdenmddbgcacaaGreatDoor
/- Walk: a place for a key. -/
set_option linter.unusedVariables false
set_option linter.unusedSimpArgs false
namespace Go.Proofs.YtgdenmddbgcacaaGreatDoor
open Go.RowKit

/-- What a store holds when a place is laid for a key, whose old item counts no more. -/
structure Placed (w : World) (Z : Nat → Prop) (s : SV) (S : PS) (key : ByteArray) (at' : Nat) : Prop where
  ok : POk S
  km : ∀ k, k ≠ key → (aget s.m k).isSome = decide (k ∈ keysC S.cells)
  nd : (akeys s.m).Nodup
  at_ : ∀ c ∈ delC S.cells key, ∃ (i : Nat) (v : Value), i ≠ at' ∧ aget s.m c.key = some (i : Int) ∧ s.sl[i]? = some (c.item.kind, c.item.text, v) ∧ FldAt w Z v c.item.flds
  inj : ∀ k k' i, aget s.m k = some i → aget s.m k' = some i → k = k'
  lt : at' < s.sl.length
  other : ∀ k, k ≠ key → aget s.m k ≠ some (at' : Int)
  mine : ∀ i, aget s.m key = some i → i = (at' : Int)
  frOk : ∀ i ∈ s.fr, ∃ j : Nat, i = (j : Int) ∧ j < s.sl.length ∧ j ≠ at' ∧ ∀ k, aget s.m k ≠ some i
  frnd : s.fr.Nodup
  ks : s.ks = keysC S.cells
  l : s.l = duesC S.cells
  byt : s.byt = bytesC (delC S.cells key)
  bud : s.bud = S.budget
  ev : s.ev = S.events
  sln : s.sl.length ≤ s.n + 1
  cln : (delC S.cells key).length ≤ s.n
section
variable {w w' : World} {base sb : Nat} {s : SV} {X Z : Nat → Prop} {S : PS} {key : ByteArray} {at' : Nat}
theorem Placed.keep {G : Nat → Prop} (h : Placed w Z s S key at') (u : Upd G w w') (hd : ∀ b, Z b → ¬ G b) : Placed w' Z s S key at' :=
  { h with at_ := fun c hc => let ⟨i, v, a, b, d, f⟩ := h.at_ c hc; ⟨i, v, a, b, d, f.keep u hd⟩ }
theorem OwnN.pop {α : Type} {f : α → List Value} {k : Nat} {w : World} {base : Nat} {e : TypeId} {v : Value} {l : List α} {x : α} (h : OwnN f k e w base v (l ++ [x])) (hf : ∀ a, (f a).length = k) : ∃ b c, v = .slice (some ⟨b, 0, Option.none⟩) (l.length + 1) c ∧ l.length + 1 ≤ c ∧ c ≤ maxLen ∧ b < w.heap.size ∧ (∀ j, j < k → w.cell? ⟨b, l.length * k + j, Option.none⟩ = (f x)[j]?) ∧ OwnN f k e w base (.slice (some ⟨b, 0, Option.none⟩) l.length c) l := by
  rcases h.blk with ⟨_, e1⟩ | ⟨b, cap, cs, e1, hb, hB, h1, h2, h3⟩
  · simp at e1
  · have hl : (l ++ [x]).length = l.length + 1 := by simp
    rw [hl] at e1 h1 h3
    refine ⟨b, cap, e1, h3, h2, hB.lt, fun j hj => ?_, ?_⟩
    · have h4 := h
      rw [e1] at h4
      exact h4.cell hf hj (by simp)
    · have hB2 := hB
      have ef : flat f (l ++ [x]) = flat f l ++ f x := by simp [flat]
      rw [ef, List.append_assoc] at hB2
      refine OwnN.ofBlk hb hf hB2 ?_ h2 (by omega)
      rw [List.length_append, hf]
      rw [Nat.add_mul] at h1; omega
theorem SMem.slots_app (h : SMem w base sb X s) (hl : s.sl.length ≤ 1000000) :
    ∃ p c w1, (Builtin.append_ #[38, 38] 38 #[s.slv, .slice (some ⟨w.heap.size, 0, none⟩) 1 1]).run Tryz.prog (w.alloc (.cells #[.int .i64 0, .string { data := #[] }, .slice none 0 0] 31)) = .ok (.slice p (s.sl.length + 1) c) w1 ∧ Blk w1 sb (storeC s) 44 ∧
      PartTo w base sb X (w1.setCell ⟨sb, 1, none⟩ (.slice p (s.sl.length + 1) c)) { s with slv := .slice p (s.sl.length + 1) c, sl := s.sl ++ [(0, { data := #[] }, .slice none 0 0)] } := by
  obtain ⟨i0, hi0, hz0, hz1, hz2⟩ := info_parts it_info
  have u0 : Upd (fun _ => False) w (w.alloc (.cells #[.int .i64 0, .string { data := #[] }, .slice none 0 0] 31)) := (Upd.refl _ _).alloc _
  have m0 := h.keep0 u0
  obtain ⟨v', w1, a, b, c, d⟩ := OwnN.append (P := Tryz.prog) 38 38 i0 (.agg #[.int .i64 0, .string ByteArray.empty, .slice none 0 0]) 48 Tryz.underlying38 hi0 hz0 hz1 hz2 rfl (by decide) (fun _ => rfl) (fun x hx => fun u hu => by
    obtain rfl := List.mem_singleton.1 hx
    simp [slc] at hu; rcases hu with rfl | rfl | rfl <;> rfl) m0.slots (RowOf.lit (f := slc) (k := 3) w (0, { data := #[] }, .slice none 0 0) [.int .i64 0, .string { data := #[] }, .slice none 0 0] 31 rfl rfl) (by unfold maxLen; simp; omega) (by simp; omega) m0.bl
  obtain ⟨p, k, e, _⟩ := b.slice
  rw [List.length_append, List.length_singleton] at e
  subst e
  have hB1 : Blk w1 sb (storeC s) 44 := c.blk m0.blk fun g => (m0.nsb).1 g rfl
  have hs := hB1.set 1 (.slice p (s.sl.length + 1) k)
  have P := m0.slotsTo b c d ((Upd.refl (fun b => b = sb) w1).set (b := sb) (o := 1) (v := .slice p (s.sl.length + 1) k) (fun _ => rfl)) hs
  exact ⟨p, k, w1, a, hB1, P.1, Fr.trans (Fr.of0 u0) P.2⟩
/-- Where the key stands already. -/
theorem SRel.placed1 (r : SRel w Z s S) {c : Ce} (hc : c ∈ S.cells) {i : Nat} (hi : aget s.m c.key = some (i : Int)) (hil : i < s.sl.length) {co : Int} (hco : costI c.key c.item = co) : Placed w Z { s with byt := s.byt - co } S c.key i :=
  ⟨r.ok, fun k _ => r.km k, r.nd, fun d hd => by
    obtain ⟨h1, h2⟩ := delC_mem.1 hd
    obtain ⟨j, v, a, b, f⟩ := r.at_ d h1
    refine ⟨j, v, ?_, a, b, f⟩
    rintro rfl
    exact h2 (r.inj _ _ _ a hi), r.inj, hil, fun k hk h => hk (r.inj _ _ _ h hi), fun j hj => by rw [hi] at hj; exact (Option.some.inj hj).symm, fun j hj => by
    obtain ⟨n, e, h1, h2⟩ := r.frOk j hj
    refine ⟨n, e, h1, ?_, h2⟩
    rintro rfl
    exact h2 _ (by rw [e]; exact hi), r.frnd, r.ks, r.l, by show s.byt - co = _; rw [bytesC_del r.ok.nd hc, hco, r.byt], r.bud, r.ev, Nat.le_succ_of_le r.sln, Nat.le_trans (delC_len _ _) r.cln⟩
/-- A place that is free. -/
theorem SRel.placed2 (r : SRel w Z s S) (hk : key ∉ keysC S.cells) {fr : List Int} {j : Nat} (hfr : s.fr = fr ++ [(j : Int)]) {v : Value} : Placed w Z { s with frv := v, fr := fr } S key j := by
  have hd := delC_none hk
  have hn := r.frnd
  rw [hfr, List.nodup_append] at hn
  obtain ⟨n, e, h1, h2⟩ := r.frOk (j : Int) (by rw [hfr]; simp)
  have ej : n = j := by omega
  subst ej
  refine ⟨r.ok, fun k _ => r.km k, r.nd, fun c hc => ?_, r.inj, h1, fun k _ => h2 k, fun i hi => absurd hi (by rw [r.get_none hk]; simp), fun i hi => ?_, hn.1, r.ks, r.l, by rw [hd]; exact r.byt, r.bud, r.ev, Nat.le_succ_of_le r.sln, by rw [hd]; exact r.cln⟩
  · rw [hd] at hc
    obtain ⟨i, v, a, b, f⟩ := r.at_ c hc
    refine ⟨i, v, ?_, a, b, f⟩
    rintro rfl
    exact h2 _ a
  · obtain ⟨p, ep, g1, g2⟩ := r.frOk i (by rw [hfr]; exact List.mem_append_left _ hi)
    refine ⟨p, ep, g1, ?_, g2⟩
    intro en
    exact hn.2.2 i hi (n : Int) (by simp) (by rw [ep, en])
/-- One place more. -/
theorem SRel.placed3 (r : SRel w Z s S) (hk : key ∉ keysC S.cells) (hfr : s.fr = []) {v : Value} {z : SlV} : Placed w Z { s with slv := v, sl := s.sl ++ [z] } S key s.sl.length := by
  have hd := delC_none hk
  refine ⟨r.ok, fun k _ => r.km k, r.nd, fun c hc => ?_, r.inj, by simp, fun k hk2 h => ?_, fun i hi => absurd hi (by rw [r.get_none hk]; simp), fun i hi => ?_, r.frnd, r.ks, r.l, by rw [hd]; exact r.byt, r.bud, r.ev, by have := r.sln; simp only [List.length_append, List.length_singleton]; omega, by rw [hd]; exact r.cln⟩
  · rw [hd] at hc
    obtain ⟨i, v, a, b, f⟩ := r.at_ c hc
    have hil := (List.getElem?_eq_some_iff.1 b).1
    exact ⟨i, v, by omega, a, by rw [List.getElem?_append_left hil]; exact b, f⟩
  · have hk3 : k ∈ keysC S.cells := by
      have := r.km k
      rw [h] at this
      simpa using this.symm
    obtain ⟨c, _, hc, rfl, i, v, a, b, f⟩ := r.get_some hk3
    have hil := (List.getElem?_eq_some_iff.1 b).1
    rw [a] at h
    have := Option.some.inj h
    omega
  · have hi2 : i ∈ s.fr := hi
    rw [hfr] at hi2
    simp at hi2
end
set_option maxHeartbeats 8000000 in
set_option maxRecDepth 100000 in
theorem place_any {w : World} {base sb : Nat} {s : SV} {X Z : Nat → Prop} {S : PS} (m : SMem w base sb (Or2 X Z) s) (r : SRel w Z s S) (key : ByteArray) (hn : s.n ≤ 10000) (hk : key.size ≤ 100000) :
    Calls Tryz.prog 49 #[.pointer (some ⟨sb, 0, none⟩), .string key] w fun e w' => ∃ (i : Nat) (s' : SV), e = .returned (.int .i64 (i : Int)) ∧ SMem w' base sb (Or2 X Z) s' ∧ Placed w' Z s' S key i ∧ s'.n = s.n ∧ Upd (Fr base (Or2 X Z)) w w' := by
  have hsb := m.blk.lt
  have a0 := m.blk.cellAt (i := 0) rfl
  have D := Lib.hid (m.tget key hn hk)
  by_cases hw : key ∈ keysC S.cells
  · obtain ⟨c, hlc, hc, rfl, i, v, hg, hsl, hf⟩ := r.get_some hw
    rw [hg] at D
    have R := Lib.hid r
    have HG := Lib.hid hg
    have HSL := Lib.hid hsl
    have HF := Lib.hid hf
    have HC := Lib.hid hc
    have HSZ := Lib.hid (small_of_right (r.ok.small c hc).1)
    clear r hw hg hsl hf hlc hc m
    go_enter Tryz.func49, Tryz.ntmps49
    go_wp2_with fail
    refine (D.out).mono ?_
    rintro e w1 ⟨rfl, P1⟩
    simp only [Option.getD_some, Option.isSome_some]
    have m1 := P1.1
    have U1 := Lib.hid P1.2
    obtain ⟨b, cp, e, hb, hne, c0, c1, c2, fr, hm⟩ := m1.slot HSL.out
    have f1 := HF.out.keep U1.out (fun b hb g => g.2 (Or.inr hb))
    have CO := Lib.hid (fun W (u : Upd (fun _ => False) w1 W) => cost_any c.key c.item v W (m1.std.keep u) (f1.1.keep u (fun _ _ _ h => h)) HSZ.out hk)
    have x1 : w1.cell? ⟨sb, 1, none⟩ = some (.slice (some ⟨b, 0, none⟩) s.sl.length cp) := by rw [m1.blk.cellAt (i := 1) rfl]; exact congrArg some e
    have x5 : w1.cell? ⟨sb, 5, none⟩ = some (.int .i64 s.byt) := m1.blk.cellAt (i := 5) rfl
    have l1 := m1.blk.lt
    have fx := m1.blk.free 5
    have HB := Lib.hid m1.blk
    have M1 := Lib.hid m1
    have hil := (List.getElem?_eq_some_iff.1 HSL.out).1
    have q0 := costI_pos c.key c.item
    have q1 := costI_le HSZ.out hk
    have q2 := R.out.byt_range hn
    simp only at c0 c1 c2
    clear P1 m1 D e
    generalize hco : costI c.key c.item = co at *
    have HCO := Lib.hid hco
    have HWR : Hid (IntKind.i64.wrap (s.byt - co) = s.byt - co) := i64w (by omega) (by omega)
    clear hco
    go_upto_region 3 with (fail)
    go_cut [5] (fun v5 wx => v5 = .int .i64 (i : Int) ∧ Hid (PartTo w1 base sb (Or2 X Z) wx { s with byt := s.byt - co }))
    case first =>
      go_region_with (go_at_call 48; refine (CO.out _ (by first | exact Upd.refl _ _ | exact (Upd.refl _ _).drew)).mono ?_; rintro e2 w2 ⟨rfl, u2⟩; have B2 := u2.blk HB.out (fun h => h); have y5 : w2.cell? ⟨sb, 5, none⟩ = some (.int .i64 s.byt) := B2.cellAt (i := 5) rfl; have y1 : w2.cell? ⟨sb, 1, none⟩ = some (.slice (some ⟨b, 0, none⟩) s.sl.length cp) := (u2.cell (p := ⟨sb, 1, none⟩) l1 (fun h => h)).trans x1; have l2 := B2.lt; have g5 := B2.free 5; have UU : Hid (Upd (fun _ => False) w1 w2) := (by first | exact u2 | exact ((Upd.refl _ _).drew).trans u2 (fun _ _ h => h)))
      all_goals (go_wp2_with fail; go_meet; rw [HWR.out]; exact ⟨rfl, (PartTo.of0 M1.out UU.out).trans ((M1.out.keep0 UU.out).bytSet _)⟩)
    case rest =>
    obtain ⟨rfl, P2⟩ := hcut
    clear x1 x5 l1 fx c0 c1 c2 fr hb
    go_wp2
    go_ret
    refine ⟨i, rfl, _, P2.out.1, ?_, rfl, Fr.trans U1.out P2.out.2⟩
    exact ((R.out.keepF U1.out).keepF P2.out.2).placed1 HC.out HG.out hil HCO.out
  · have hg := r.get_none hw
    rw [hg] at D
    have R := Lib.hid r
    have HW := Lib.hid hw
    clear r hw hg m
    rcases List.eq_nil_or_concat s.fr with hfr | ⟨fr, x, hfr⟩
    · have HFR := Lib.hid hfr
      clear hfr
      go_enter Tryz.func49, Tryz.ntmps49
      go_wp2_with fail
      refine (D.out).mono ?_
      rintro e w1 ⟨rfl, P1⟩
      simp only [Option.getD_none, Option.isSome_none]
      have m1 := P1.1
      have U1 := Lib.hid P1.2
      obtain ⟨pf, cf, ef, _⟩ := (IntsAt.ownS.1 m1.free).slice
      rw [HFR.out] at ef
      have x2 : w1.cell? ⟨sb, 2, none⟩ = some (.slice pf 0 cf) := by rw [m1.blk.cellAt (i := 2) rfl]; exact congrArg some ef
      obtain ⟨p0, c0, e0, _⟩ := m1.slots.slice
      have x1 : w1.cell? ⟨sb, 1, none⟩ = some (.slice p0 s.sl.length c0) := by rw [m1.blk.cellAt (i := 1) rfl]; exact congrArg some e0
      obtain ⟨p, cq, w3, hr1, hB1, P5⟩ := m1.slots_app (by have := R.out.sln; omega)
      have k1 : w3.cell? ⟨sb, 1, none⟩ = some (.slice p0 s.sl.length c0) := by rw [hB1.cellAt (i := 1) rfl]; exact congrArg some e0
      have l1 := m1.blk.lt
      have l3 := hB1.lt
      have f1 := hB1.free 1
      have hsl : s.sl.length ≤ 10000 := by have := R.out.sln; omega
      rw [e0] at hr1
      have PP := Lib.hid P5
      have N0 := Lib.hid (R.out.placed3 HW.out HFR.out (v := .slice p (s.sl.length + 1) cq) (z := (0, { data := #[] }, .slice none 0 0)))
      have R1 := Lib.hid (R.out.keepF U1.out)
      clear P1 P5 m1 hB1 D e0 ef
      generalize hq : s.sl.length = q at *
      go_wp2_with (at_builtin; refine wpList_builtinN rfl _ _ 38 rfl _ _ rfl rfl hr1 ?_)
      go_wp2
      go_ret
      refine ⟨q, _, ret_int (by omega), PP.out.1, ?_, rfl, Fr.trans U1.out PP.out.2⟩
      exact ((N0.out.keep U1.out (fun b hb g => g.2 (Or.inr hb))).keep PP.out.2 (fun b hb g => g.2 (Or.inr hb)))
    · rw [List.concat_eq_append] at hfr
      obtain ⟨j, ej, hj, _⟩ := R.out.frOk x (by rw [hfr]; simp)
      subst ej
      have HFR := Lib.hid hfr
      have hfl : fr.length ≤ 10000 := by have h1 := R.out.fr_len; have h2 := R.out.sln; rw [hfr] at h1; simp at h1; omega
      clear hfr hj
      go_enter Tryz.func49, Tryz.ntmps49
      go_wp2_with fail
      refine (D.out).mono ?_
      rintro e w1 ⟨rfl, P1⟩
      simp only [Option.getD_none, Option.isSome_none]
      have m1 := P1.1
      have U1 := Lib.hid P1.2
      have ow := IntsAt.ownS.1 m1.free
      rw [HFR.out] at ow
      obtain ⟨b, cf, ef, hc1, hc2, hb, hcell, ow2⟩ := ow.pop (fun _ => rfl)
      have x2 : w1.cell? ⟨sb, 2, none⟩ = some (.slice (some ⟨b, 0, none⟩) (fr.length + 1) cf) := by rw [m1.blk.cellAt (i := 2) rfl]; exact congrArg some ef
      have xc : w1.cell? ⟨b, fr.length, none⟩ = some (.int .i64 (j : Int)) := by have := hcell 0 (by omega); simpa [intcS] using this
      have hcap : (fr.length : Int) ≤ (cf : Int) := by omega
      have hcap2 : fr.length ≤ cf := by omega
      have l1 := m1.blk.lt
      have f2 := m1.blk.free 2
      have M1 := Lib.hid m1
      have OW := Lib.hid ow2
      have EF := Lib.hid ef
      have R1 := Lib.hid (R.out.keepF U1.out)
      clear P1 m1 D ef ow ow2 hcell hc1 hc2
      go_wp2
      go_ret
      have hs := M1.out.blk.set 2 (.slice (some ⟨b, 0, none⟩) fr.length cf)
      have P := M1.out.freeTo (IntsAt.ownS.2 OW.out) (Upd.refl _ _) (fun k hk => Or.inl (by rw [EF.out]; exact hk)) ((Upd.refl (fun b => b = sb) w1).set (b := sb) (o := 2) (v := .slice (some ⟨b, 0, none⟩) fr.length cf) (fun _ => rfl)) hs
      exact ⟨j, _, rfl, P.1, (R1.out.keepF P.2).placed2 HW.out HFR.out, rfl, Fr.trans U1.out P.2⟩
end Go.Proofs.YtgdenmddbgcacaaGreatDoor
