/- Append of a whole row to a row of the call's own. -/
import Derived.Test.YtgdenmddbgcacaaGreatDoorK10
import Derived.Deep.Upon
import Derived.Test.YtgdenmddbgcacaaGreatDoorK05
import Derived.Deep.QuietTactic
import Derived.BigQuiet
import Derived.Test.YtgdenmddbgcacaaGreatDoorK13
import Derived.Test.YtgdenmddbgcacaaGreatDoorK20
import Derived.Test.YtgdenmddbgcacaaGreatDoorK08
import Derived.Laws.StructEq
import Derived.Deep.AppendLies
set_option linter.unusedVariables false
set_option linter.unusedSimpArgs false
namespace Go.Proofs.YtgdenmddbgcacaaGreatDoor
open Go.RowKit

theorem append_row {P : Program} (w : World) (base base2 : Nat) (t ty e : TypeId) (i : TypeInfo) (z : Value) (bytes : Nat) (ht : P.underlying t = some (.slice e)) (hi : P.info? e = some i) (hz : i.zero = some z)
    (hsize : i.size = 1) (hby : i.bytes = bytes) (hzs : z.cells.size = 1) (v v2 : Value) (n m : Nat) (xs ys : List Value) (hown : w.ownsRow base e 1 v n xs) (h2 : w.ownsRow base2 e 1 v2 m ys) (h1 : ∀ u ∈ ys, u.oneCell' = true)
    (h63 : n + m ≤ maxLen) (hbytes : (n + m) * bytes ≤ 140737488355328) (hbase : base ≤ w.heap.size) :
    ∃ v' w', (Builtin.append_ #[t, t] ty #[v, v2]).run P w = .ok v' w' ∧ w'.ownsRow base e 1 v' (n + m) (xs ++ ys) ∧ Upd (fun k => v.ownBlock = some k) w w' ∧ NewOr v v' w := by
  obtain ⟨hlen, hv2⟩ := h2
  have hsh : ∃ a c, v2 = .slice a m c ∧ (m = 0 ∨ ∃ g, a = some ⟨g, 0, none⟩) ∧ (∀ g, a = some ⟨g, 0, none⟩ → ∀ j u, ys[j]? = some u → w.cell? ((⟨g, 0, none⟩ : Addr).add j) = some u) := by
    rcases hv2 with ⟨rfl, rfl⟩ | ⟨g, cap, cur, rfl, _, hh, q1, q2, q3, q4⟩
    · exact ⟨none, 0, rfl, Or.inl rfl, fun g h => by cases h⟩
    · refine ⟨some ⟨g, 0, none⟩, cap, rfl, Or.inr ⟨g, rfl⟩, fun g' hg' j u hj => ?_⟩
      cases hg'
      have : (⟨g, 0, none⟩ : Addr).add j = ⟨g, j, none⟩ := by unfold Addr.add; split <;> simp_all
      rw [this, cell_of_row w g j cur e (0, 0) hh]
      rw [← q4, List.getElem?_take] at hj
      split at hj
      · simpa using hj
      · cases hj
  obtain ⟨a, c, rfl, hm, hc⟩ := hsh
  by_cases h0 : m = 0
  · subst h0
    have hys : ys = [] := List.length_eq_zero_iff.1 (by omega)
    subst hys
    have hv : ∃ p cp, v = .slice p n cp ∧ n ≤ cp := by
      rcases hown.2 with ⟨rfl, rfl⟩ | ⟨g, cap, cur, rfl, _, _, q1, _⟩
      · exact ⟨_, _, rfl, Nat.le_refl _⟩
      · exact ⟨_, _, rfl, q1⟩
    obtain ⟨p, cp, rfl, hle⟩ := hv
    have hs : Src P i.size t (.slice a 0 c) 0 [] w := by
      cases a with
      | none => exact Src.ofNil w ht c
      | some a => exact Src.ofSlice w ht a 0 c [] (by simp) (fun j u h => by simp at h) (fun u h => by cases h)
    refine ⟨_, _, run_append_nothing (P := P) w t t ty e i ht hi p n cp hle _ hs, by simpa using hown, Upd.refl _ _, fun k hk => Or.inl hk⟩
  · obtain ⟨g, rfl⟩ : ∃ g, a = some ⟨g, 0, none⟩ := hm.elim (fun e => absurd e h0) id
    obtain ⟨v', w', hr, q2, q3, _⟩ := run_append_own (P := P) w base t ty e i z 1 bytes ht hi hz hsize hby hzs (by decide) v n xs hown ⟨g, 0, none⟩ m c ys hlen (hc g rfl) h1 h63 hbytes hbase
    exact ⟨v', w', hr, q2, (Upd.of_grown q3).weaken (fun k _ hk => hk.symm), run_append_where (P := P) w base t ty e i z 1 bytes ht hi hz hsize hby v n xs hown ⟨g, 0, none⟩ m c ys hlen (hc g rfl) h1 (Nat.pos_of_ne_zero h0) h63 hbytes v' w' hr⟩
/-- A step of a region that draws its order: append. -/
theorem step_builtin {P : Program} {ops : Array Oper} {o : Oper} {a : Act} {w w' : World} {K : Act → World → Prop} {Q : Exit → Act → World → Prop} {E : Prop} {v' : Value} (hg : o.guard = none) (s x : Operand) (t : TypeId)
    (ho : o.op = .call { callee := .builtin .append, args := #[s, x], argTypes := #[t, t] }) (u y : Value) (hs : a.eval s = u) (hx : a.eval x = y)
    (hr : (Builtin.append_ #[t, t] o.type #[u, y]).run P w = .ok v' w') (hK : K (a.put o.dst v') w') :
    if Region.wanted o (yielded ops a.tmps) = true then Oper.wp P o a w K Q else E := by
  have hw : Region.wanted o (yielded ops a.tmps) = true := by simp [Region.wanted, hg]
  rw [if_pos hw]
  unfold Oper.wp execOp
  subst hs hx
  simp only [ho, resolve, invoke, builtin, Sem.run_bind, Sem.run_pure, Result.andThen_ok, List.map_toArray, List.map_cons, List.map_nil, hr]
  exact hK
theorem wpList_builtin {P : Program} {ops : Array Oper} {rest : List Oper} {o : Oper} {a : Act} {w w' : World} {Q : Exit → Act → World → Prop} {v' : Value} (hg : o.guard = none) (s x : Operand) (t : TypeId)
    (ho : o.op = .call { callee := .builtin .append, args := #[s, x], argTypes := #[t, t] }) (u y : Value) (hs : a.eval s = u) (hx : a.eval x = y)
    (hr : (Builtin.append_ #[t, t] o.type #[u, y]).run P w = .ok v' w') (hK : wpList P ops Q rest (a.put o.dst v') w') : wpList P ops Q (o :: rest) a w :=
  wpList_plain hg fun K hK' => by
    unfold Oper.wp execOp
    subst hs hx
    simp only [ho, resolve, invoke, builtin, Sem.run_bind, Sem.run_pure, Result.andThen_ok, List.map_toArray, List.map_cons, List.map_nil, hr]
    exact hK' _ _ hK
/-- A row of the call's own, without its last ones. -/
theorem own_cut {w : World} {base n m : Nat} {e : TypeId} {p : Option Addr} {c : Nat} {xs ys : List Value} (h : w.ownsRow base e 1 (.slice p n c) n (xs ++ ys)) (hm : xs.length = m) : w.ownsRow base e 1 (.slice p m c) m xs := by
  obtain ⟨hl, hv⟩ := h
  rw [List.length_append] at hl
  rcases hv with ⟨e1, rfl⟩ | ⟨g, cap, cur, e1, hg, hh, q1, q2, q3, q4⟩
  · cases e1
    have : m = 0 := by omega
    subst this
    exact ⟨by omega, Or.inl ⟨rfl, rfl⟩⟩
  · cases e1
    refine ⟨by omega, Or.inr ⟨g, _, cur, rfl, hg, hh, by omega, q2, q3, ?_⟩⟩
    rw [Nat.mul_one] at *
    have : cur.toList.take m = (cur.toList.take n).take m := by rw [List.take_take, Nat.min_eq_left (by omega)]
    rw [this, q4, ← hm, List.take_left]
end Go.Proofs.YtgdenmddbgcacaaGreatDoor
/- Walk: nearhandref06.Same. -/
set_option linter.unusedVariables false
set_option linter.unusedSimpArgs false
namespace Go.Proofs.YtgdenmddbgcacaaGreatDoor
open Go.RowKit

theorem StrsAt.row {w : World} {base : Nat} {v : Value} {l : List ByteArray} (h : StrsAt w base v l) : RowOf strc 1 w v l := by
  rcases h.2 with ⟨rfl, hn⟩ | ⟨g, cap, cur, rfl, hg, hb, h1, h2, h3, h4⟩
  · exact Or.inl ⟨none, 0, rfl, by cases l <;> simp_all⟩
  · refine Or.inr ⟨g, 0, cap, rfl, (Array.getElem?_eq_some_iff.1 hb).1, by omega, fun i a hi j hj => ?_⟩
    obtain rfl : j = 0 := by omega
    have hil : i < l.length := (List.getElem?_eq_some_iff.1 hi).1
    have := World.ownsRow.cellAt (w := w) (g := g) (cap := cap) (base := base) (e := 9) (size := 1) (n := l.length) (xs := l.map Value.string) ⟨h.1, Or.inr ⟨g, cap, cur, rfl, hg, hb, h1, h2, h3, h4⟩⟩ i (by omega)
    have e : (0 + (i * 1 + 0)) = i := by omega
    rw [e, this]
    simp [strc, hi]

set_option maxHeartbeats 1000000 in
theorem same06_any (v1 v2 : Value) (l1 l2 : List ByteArray) (w : World) (h1 : RowOf strc 1 w v1 l1) (h2 : RowOf strc 1 w v2 l2) :
    Calls Tryz.prog 16 #[v1, v2] w fun e w' => e = .returned (.bool (decide (l1 = l2))) ∧ ∃ n, w' = w.drewN n := by
  obtain ⟨p1, k1, rfl, b1⟩ := h1.len
  obtain ⟨p2, k2, rfl, b2⟩ := h2.len
  unfold maxLen at b1 b2
  have H1 := Lib.hid h1
  have H2 := Lib.hid h2
  clear h1 h2
  by_cases hl : l1.length = l2.length
  · have hne : ((l1.length : Int) != (l2.length : Int)) = false := by simp [hl]
    have HL := Lib.hid hl
    clear hl
    go_enter Tryz.func16, Tryz.ntmps16
    go_wp2
    go_loopw [13] (fun c wr => ∃ k : Nat, k ≤ l1.length ∧ c = .int .i64 (k : Int) ∧ Hid (l1.take k = l2.take k) ∧ Hid (∃ n, wr = w.drewN n)) (fun c _ => l1.length - (intOf c).toNat)
    case atStart => exact ⟨0, by omega, rfl, by show l1.take 0 = l2.take 0; simp, 0, rfl⟩
    case round =>
      obtain ⟨k, hk, rfl, T, W⟩ := hrel
      by_cases hlt : k < l1.length
      · have hl := HL.out
        obtain ⟨x, hx⟩ : ∃ x, l1[k]? = some x := ⟨_, List.getElem?_eq_getElem hlt⟩
        obtain ⟨y, hy⟩ : ∃ y, l2[k]? = some y := ⟨_, List.getElem?_eq_getElem (by omega : k < l2.length)⟩
        have hlt2 : k < l2.length := by omega
        obtain ⟨g1, o1, q1, e1, _, _, c1⟩ : ∃ b off cap, Value.slice p1 l1.length k1 = .slice (some ⟨b, off, none⟩) l1.length cap ∧ b < w.heap.size ∧ l1.length ≤ maxLen ∧ ∀ i a, l1[i]? = some a → ∀ j, j < 1 → w.cell? ⟨b, off + (i * 1 + j), none⟩ = (strc a)[j]? := by
          rcases H1.out with ⟨_, _, _, e⟩ | h
          · rw [e] at hlt; simp at hlt
          · exact h
        obtain ⟨g2, o2, q2, e2, _, _, c2⟩ : ∃ b off cap, Value.slice p2 l2.length k2 = .slice (some ⟨b, off, none⟩) l2.length cap ∧ b < w.heap.size ∧ l2.length ≤ maxLen ∧ ∀ i a, l2[i]? = some a → ∀ j, j < 1 → w.cell? ⟨b, off + (i * 1 + j), none⟩ = (strc a)[j]? := by
          rcases H2.out with ⟨_, _, _, e⟩ | h
          · rw [e] at hlt2; simp at hlt2
          · exact h
        have d1 : w.cell? ⟨g1, o1 + k, none⟩ = some (.string x) := by have := c1 k x hx 0 (by omega); simpa [strc] using this
        have d2 : w.cell? ⟨g2, o2 + k, none⟩ = some (.string y) := by have := c2 k y hy 0 (by omega); simpa [strc] using this
        simp only [Value.slice.injEq] at e1 e2
        obtain ⟨rfl, _, rfl⟩ := e1
        obtain ⟨rfl, _, rfl⟩ := e2
        obtain ⟨n0, rfl⟩ := W.out
        have HX : Hid (l1.take (k + 1) = l1.take k ++ [x] ∧ l2.take (k + 1) = l2.take k ++ [y]) := by
          obtain ⟨_, r1⟩ := List.getElem?_eq_some_iff.1 hx
          obtain ⟨_, r2⟩ := List.getElem?_eq_some_iff.1 hy
          exact ⟨by rw [List.take_succ_eq_append_getElem hlt, r1], by rw [List.take_succ_eq_append_getElem hlt2, r2]⟩
        clear c1 c2 hx hy hl
        go_wp2
        go_quiet (fail)
        go_wp2
        · have t : (x.toList != y.toList) = true := by assumption
          have hxy : x ≠ y := by rintro rfl; simp at t
          go_ret
          refine ⟨ret_bool ?_, n0 + nq, World.drewN_drewN _ _ _⟩
          have : l1 ≠ l2 := by
            rintro rfl
            have := HX.out.1.symm.trans HX.out.2
            simp at this
            exact hxy this
          simp [this]
        · have t : (x.toList != y.toList) = false := by assumption
          have hxy : x = y := toList_eq (by simpa using t)
          go_roundw
          case rel =>
            refine ⟨k + 1, by omega, rfl, ?_, n0 + nq, rfl⟩
            show l1.take (k + 1) = l2.take (k + 1)
            rw [HX.out.1, HX.out.2, T.out, hxy]
          case measure => simp [intOf]; omega
      · have hk2 : k = l1.length := by omega
        subst hk2
        go_wp2
        go_ret
        refine ⟨ret_bool ?_, W.out⟩
        have := T.out
        rw [List.take_length, HL.out, List.take_length] at this
        simp [this]
  · have hne : ((l1.length : Int) != (l2.length : Int)) = true := by rw [bne_iff_ne]; omega
    have HL := Lib.hid hl
    clear hl
    go_enter Tryz.func16, Tryz.ntmps16
    go_wp2
    go_ret
    refine ⟨ret_bool ?_, 0, rfl⟩
    have : l1 ≠ l2 := fun e => HL.out (by rw [e])
    simp [this]
end Go.Proofs.YtgdenmddbgcacaaGreatDoor
/- Rows of texts: cut, put together (as the document's store does); texts in order. -/
set_option linter.unusedVariables false
set_option linter.unusedSimpArgs false
namespace Go.Proofs.YtgdenmddbgcacaaGreatDoor
open Go.RowKit

theorem strs_own_lt {w : World} {base n : Nat} {e : TypeId} {v : Value} {xs : List Value} (h : w.ownsRow base e 1 v n xs) {k : Nat} (hk : v.ownBlock = some k) : k < w.heap.size ∧ base ≤ k ∧ ∃ cs, Blk w k cs e := by
  obtain ⟨_, ⟨rfl, _⟩ | ⟨b, cap, cs, rfl, hb, hB, _⟩⟩ := own_blk h
  · cases hk
  · cases hk; exact ⟨hB.lt, hb, _, hB⟩
theorem strs_one {l : List ByteArray} : ∀ u ∈ l.map Value.string, u.oneCell' = true := by intro u hu; obtain ⟨_, _, rfl⟩ := List.mem_map.1 hu; rfl
theorem addr_addT (g o j : Nat) : (⟨g, o, none⟩ : Addr).add j = ⟨g, o + j, none⟩ := Addr.add_lit ..
theorem strs_append (w : World) (base base2 : Nat) (ty : TypeId) (v v2 : Value) (xs ys : List ByteArray) (h : StrsAt w base v xs) (h2 : StrsAt w base2 v2 ys) (hl : xs.length + ys.length ≤ 1000000) (hb : base ≤ w.heap.size) :
    ∃ v' w', (Builtin.append_ #[54, 54] ty #[v, v2]).run Tryz.prog w = .ok v' w' ∧ StrsAt w' base v' (xs ++ ys) ∧ Upd (fun k => v.ownBlock = some k) w w' ∧ NewOr v v' w := by
  obtain ⟨i0, hi0, hz0, hz1, hz2⟩ := info_parts string_info
  obtain ⟨v', w', a, b, c, d⟩ := append_row w base base2 54 ty 9 i0 (.string ByteArray.empty) 16 Tryz.underlying54 hi0 hz0 hz1 hz2 rfl v v2 xs.length ys.length _ _ h h2 strs_one (by unfold maxLen; omega) (by omega) hb
  refine ⟨v', w', a, ?_, c, d⟩
  unfold StrsAt
  rw [List.length_append, List.map_append]; exact b
theorem strs_lit (w : World) (t : ByteArray) : StrsAt (w.alloc (.cells #[.string t] 9)) 0 (.slice (some ⟨w.heap.size, 0, none⟩) 1 1) [t] := own_of (cs := []) (Nat.zero_le _) (Blk.made w _ _) rfl rfl (by unfold maxLen; omega)
theorem strs_none (w : World) : StrsAt (w.alloc (.cells #[] 9)) w.heap.size (.slice (some ⟨w.heap.size, 0, none⟩) 0 0) [] :=
  World.ownsRow_made (e := 9) (size := 1) w #[] 0 (Nat.le_refl _) (by unfold maxLen; omega) rfl

theorem str_row {w : World} {base g n c a : Nat} {l : List ByteArray} (h : StrsAt w base (.slice (some ⟨g, 0, none⟩) n c) l) (hn : n = l.length) (ha : a ≤ l.length) : RowOf strc 1 w (.slice (some ⟨g, a, none⟩) (l.length - a) (c - a)) (l.drop a) := by
  subst hn
  obtain ⟨_, ⟨e, _⟩ | ⟨g', cap, cs, ev, hg, hB, hc, hm⟩⟩ := own_blk h
  · cases e
  · simp only [Value.slice.injEq, Option.some.injEq, Addr.mk.injEq] at ev
    obtain ⟨⟨rfl, _⟩, _, rfl⟩ := ev
    refine Or.inr ⟨g, a, c - a, by rw [List.length_drop], hB.lt, by rw [List.length_drop]; omega, fun i t hi j hj => ?_⟩
    have : j = 0 := by omega
    subst this
    have hil := (List.getElem?_eq_some_iff.1 hi).1
    rw [List.length_drop] at hil
    rw [List.getElem?_drop] at hi
    rw [hB.cell, Nat.mul_one, Nat.add_zero, List.getElem?_append_left (by simp; omega), List.getElem?_map, hi]; rfl
/-- The rest of a row, at a row of its own. -/
theorem strs_rest (w : World) (base : Nat) (v2 : Value) (l : List ByteArray) (h : RowOf strc 1 w v2 l) (hl : l.length ≤ 1000000) (hb : base ≤ w.heap.size) :
    ∃ v' w', (Builtin.append_ #[54, 54] 54 #[.slice (some ⟨w.heap.size, 0, none⟩) 0 0, v2]).run Tryz.prog (w.alloc (.cells #[] 9)) = .ok v' w' ∧ StrsAt w' base v' l ∧ Upd (fun _ => False) w w' := by
  obtain ⟨i0, hi0, hz0, hz1, hz2⟩ := info_parts string_info
  have u0 : Upd (fun _ => False) w (w.alloc (.cells #[] 9)) := (Upd.refl _ _).alloc _
  have h2 := h.keep u0 (fun _ _ _ h => h)
  have hN : StrsAt (w.alloc (.cells #[] 9)) base (.slice (some ⟨w.heap.size, 0, none⟩) 0 0) [] := World.ownsRow_made (e := 9) (size := 1) w #[] 0 hb (by unfold maxLen; omega) rfl
  by_cases h0 : l = []
  · subst h0
    obtain ⟨p, c, rfl⟩ : ∃ a c, v2 = .slice a 0 c := by
      rcases h2 with ⟨a, c, e, _⟩ | ⟨b, off, cap, e, _⟩
      · exact ⟨_, _, e⟩
      · exact ⟨_, _, e⟩
    have hs : Src Tryz.prog i0.size 54 (.slice p 0 c) 0 [] (w.alloc (.cells #[] 9)) := by
      cases p with
      | none => exact Src.ofNil _ Tryz.underlying54 c
      | some a => exact Src.ofSlice _ Tryz.underlying54 a 0 c [] (by simp) (fun j u h => by simp at h) (fun u h => by cases h)
    exact ⟨_, _, run_append_nothing (P := Tryz.prog) _ 54 54 54 9 i0 Tryz.underlying54 hi0 _ 0 0 (Nat.le_refl _) _ hs, hN, u0⟩
  · obtain ⟨b, off, c, rfl, hb2, _, hc⟩ : ∃ b off cap, v2 = .slice (some ⟨b, off, none⟩) l.length cap ∧ b < (w.alloc (.cells #[] 9)).heap.size ∧ l.length ≤ maxLen ∧ ∀ i a, l[i]? = some a → ∀ j, j < 1 → (w.alloc (.cells #[] 9)).cell? ⟨b, off + (i * 1 + j), none⟩ = (strc a)[j]? := by
      rcases h2 with ⟨_, _, _, e⟩ | h2
      · exact absurd e h0
      · exact h2
    have hn : ∀ j u, (l.map Value.string)[j]? = some u → (w.alloc (.cells #[] 9)).cell? ((⟨b, off, none⟩ : Addr).add j) = some u := by
      intro j u hj
      rw [List.getElem?_map] at hj
      obtain ⟨t, ht, rfl⟩ := Option.map_eq_some_iff.1 hj
      have h1 := hc j t ht 0 (by omega)
      have e : (⟨b, off, none⟩ : Addr).add j = ⟨b, off + (j * 1 + 0), none⟩ := by simp [Addr.add]
      rw [e, h1]; rfl
    obtain ⟨v', w', hr, q2, q3, _⟩ := run_append_own (P := Tryz.prog) _ base 54 54 9 i0 (.string ByteArray.empty) 1 16 Tryz.underlying54 hi0 hz0 hz1 hz2 rfl (by decide) _ 0 [] hN ⟨b, off, none⟩ l.length c _ (by simp) hn strs_one (by unfold maxLen; omega) (by omega) (Nat.le_trans hb u0.size)
    refine ⟨v', w', hr, ?_, u0.trans (Upd.of_grown q3) (fun k hk e => ?_)⟩
    · unfold StrsAt
      rw [Nat.zero_add, List.nil_append] at q2; exact q2
    · have e2 : w.heap.size = k := Option.some.inj (e.symm ▸ rfl : (some w.heap.size) = some k)
      omega
theorem sslice_rest (g na cc a : Nat) (h1 : a ≤ na) : ∃ V, (∀ w, (Instr.slice 54 (.slice (some ⟨g, 0, none⟩) na cc) (some (.int .i64 (a : Int))) none none).run Tryz.prog w = .ok V w) ∧
    ∀ (w : World) (base : Nat) (l : List ByteArray), StrsAt w base (.slice (some ⟨g, 0, none⟩) na cc) l → RowOf strc 1 w V (l.drop a) := by
  have hE : Tryz.prog.elem 54 = 9 := by simp [Program.elem, Tryz.underlying54]
  refine ⟨_, fun w => by rw [run_slice_l (P := Tryz.prog) w 54 _ na cc (by rw [hE]; exact Tryz.underlying54) .i64 (a : Int) (by omega) (by omega), hE, Tryz.sizeOf9]; rfl, fun w base l h => ?_⟩
  obtain ⟨_, ⟨e, _⟩ | ⟨g', cap, cs, ev, hg, hB, hc, hm⟩⟩ := own_blk h
  · cases e
  simp only [Value.slice.injEq] at ev
  have hnl : na = l.length := ev.2.1
  unfold sliced
  rw [Int.toNat_natCast]
  split
  · rename_i hcc
    have h0 : l.drop a = [] := List.drop_eq_nil_of_le (by omega)
    rw [h0]
    exact Or.inl ⟨_, _, by rw [show na - a = 0 by omega], rfl⟩
  · have e2 : (some (⟨g, 0, none⟩ : Addr)).map (fun x => x.add (a * 1)) = some ⟨g, a, none⟩ := by simp [Addr.add_lit]
    have := str_row (a := a) h hnl (by omega)
    rw [← hnl] at this
    simpa [addr_addT] using this
theorem sslice_head (g na cc a : Nat) (h1 : a ≤ cc) (w : World) : (Instr.slice 54 (.slice (some ⟨g, 0, none⟩) na cc) none (some (.int .i64 (a : Int))) (some (.int .i64 (a : Int)))).run Tryz.prog w = .ok (.slice (some ⟨g, 0, none⟩) a a) w := by
  have hE : Tryz.prog.elem 54 = 9 := by simp [Program.elem, Tryz.underlying54]
  rw [run_slice_hm (P := Tryz.prog) w 54 _ na cc (by rw [hE]; exact Tryz.underlying54) .i64 .i64 (a : Int) (a : Int) (by omega) (by omega) (by omega), hE, Tryz.sizeOf9]
  simp [Result.andThen, sliced, addr_addT]
/-- A text more behind the beginning of a row: at a row of its own. -/
theorem strs_cut (w : World) (base g n c a : Nat) (l : List ByteArray) (t : ByteArray) (h : StrsAt w base (.slice (some ⟨g, 0, none⟩) n c) l) (ha : a ≤ l.length) (hl : l.length ≤ 1000000) (hb : base ≤ w.heap.size) :
    ∃ p c' w', (Builtin.append_ #[54, 54] 54 #[.slice (some ⟨g, 0, none⟩) a a, .slice (some ⟨w.heap.size, 0, none⟩) 1 1]).run Tryz.prog (w.alloc (.cells #[.string t] 9)) = .ok (.slice p (a + 1) c') w' ∧ StrsAt w' base (.slice p (a + 1) c') (l.take a ++ [t]) ∧ Upd (fun _ => False) w w' := by
  obtain ⟨i0, hi0, hz0, hz1, hz2⟩ := info_parts string_info
  have u0 : Upd (fun _ => False) w (w.alloc (.cells #[.string t] 9)) := (Upd.refl _ _).alloc _
  obtain ⟨_, ⟨e, _⟩ | ⟨g', cap, cs, ev, hg, hB0, hc, hm⟩⟩ := own_blk h
  · cases e
  simp only [Value.slice.injEq, Option.some.injEq, Addr.mk.injEq] at ev
  obtain ⟨⟨rfl, _⟩, _, rfl⟩ := ev
  have hB := u0.blk hB0 id
  have hxl : ((l.take a).map Value.string).length = a := by simp; omega
  have holds : ∀ j u, ((l.take a).map Value.string)[j]? = some u → (w.alloc (.cells #[.string t] 9)).cell? ((⟨g, 0, none⟩ : Addr).add j) = some u := by
    intro j u hj
    have hjl := (List.getElem?_eq_some_iff.1 hj).1
    rw [hxl] at hjl
    have e : (⟨g, 0, none⟩ : Addr).add j = ⟨g, j, none⟩ := by have := addr_addT g 0 j; rw [Nat.zero_add] at this; exact this
    rw [e, hB.cell, List.getElem?_append_left (by simp; omega), ← hj, List.getElem?_map, List.getElem?_map, List.getElem?_take_of_lt hjl]
  have hN : Blk (w.alloc (.cells #[.string t] 9)) w.heap.size [.string t] 9 := Blk.made w _ _
  have hn : ∀ j u, [Value.string t][j]? = some u → (w.alloc (.cells #[.string t] 9)).cell? ((⟨w.heap.size, 0, none⟩ : Addr).add j) = some u := World.news_of_block (cs := #[.string t]) (t := 9) (fr := (0, 0)) hN
  generalize hwA : w.alloc (.cells #[.string t] 9) = wA at *
  have hr := run_append_grow (P := Tryz.prog) wA 54 54 9 i0 (.string ByteArray.empty) Tryz.underlying54 hi0 hz0 ⟨g, 0, none⟩ a a _ (by rw [hz1, hxl]; simp) holds ⟨w.heap.size, 0, none⟩ 1 1 [.string t] (by rw [hz1]; rfl) hn (by omega) (by omega) (growslice_fits (by omega) (by rw [hz2]; show (a + 1) * 16 ≤ _; omega))
  have hge := grownCap_ge wA (a + 1) a 9
  have hcm := grownCap_le_maxLen wA (a + 1) a 9 (by unfold maxLen; omega)
  refine ⟨_, _, _, hr, ⟨by simp, .inr ⟨_, _, _, by simp [Nat.min_eq_left ha], Nat.le_trans hb u0.size, heap_alloc_new wA.drew _, by simp [Nat.min_eq_left ha]; exact hge, hcm, ?_, ?_⟩⟩, ?_⟩
  · simp only [Array.size_append, List.size_toArray, size_zeroCells, hxl, List.length_singleton]
    have : (Value.string ByteArray.empty).cells.size = 1 := rfl
    rw [this]; omega
  · rw [show (l.take a ++ [t]).length * 1 = a + 1 by simp; omega]
    simp only [Array.toList_append, List.append_assoc]
    rw [← List.append_assoc, List.map_append]
    exact List.take_left' (by rw [List.length_append, hxl]; rfl)
  · exact u0.trans ((Upd.refl _ _).drew.alloc _) (fun _ _ h => h)
theorem str_at {w : World} {base : Nat} {p : Option Addr} {c : Nat} {l : List ByteArray} (h : StrsAt w base (.slice p l.length c) l) {k : Nat} (hk : k < l.length) :
    ∃ g, p = some ⟨g, 0, none⟩ ∧ g < w.heap.size ∧ w.cell? ⟨g, k, none⟩ = some (.string l[k]) := by
  obtain ⟨_, ⟨e, h0⟩ | ⟨g, cap, cs, ev, hg, hB, hc, hm⟩⟩ := own_blk h
  · omega
  · simp only [Value.slice.injEq] at ev
    refine ⟨g, ev.1, hB.lt, ?_⟩
    rw [hB.cell, List.getElem?_append_left (by simpa using hk), List.getElem?_map, List.getElem?_eq_getElem hk]; rfl
/-- Texts in order. -/
def leB (a b : ByteArray) : Prop := ¬ b.toList < a.toList
abbrev OrdB (l : List ByteArray) : Prop := l.Pairwise leB
theorem leB_trans {a b c : ByteArray} (h : leB a b) (k : leB b c) : leB a c := by
  unfold leB at *
  rw [List.not_lt] at *
  exact List.le_trans h k
theorem ordB_put {acc : List ByteArray} {s : ByteArray} {a : Nat} (hr : OrdB acc) (h1 : ∀ t ∈ acc.take a, leB t s) (h2 : ∀ t ∈ acc.drop a, leB s t) : OrdB (acc.take a ++ [s] ++ acc.drop a) ∧ (acc.take a ++ [s] ++ acc.drop a).Perm (acc ++ [s]) := by
  have hp : (acc.take a ++ acc.drop a).Pairwise leB := by rw [List.take_append_drop]; exact hr
  obtain ⟨p1, p2, p3⟩ := List.pairwise_append.1 hp
  refine ⟨List.pairwise_append.2 ⟨List.pairwise_append.2 ⟨p1, by simp, fun x hx y hy => by rw [List.mem_singleton.1 hy]; exact h1 x hx⟩, p2, fun x hx y hy => ?_⟩, ?_⟩
  · rcases List.mem_append.1 hx with g | g
    · exact p3 x g y hy
    · rw [List.mem_singleton.1 g]; exact h2 y hy
  · have : (acc ++ [s]).Perm (acc.take a ++ (acc.drop a ++ [s])) := by rw [← List.append_assoc, List.take_append_drop]
    rw [List.append_assoc]
    exact (List.Perm.append_left _ List.perm_append_comm).trans this.symm
theorem sort_ord {l : List ByteArray} (h : OrdB l) : sortStr l = l := by
  unfold sortStr
  have hp : (bytesOf l).Pairwise (fun x y => decide (x ≤ y) = true) := by
    unfold bytesOf
    rw [List.pairwise_map]
    refine h.imp fun {a b} g => decide_eq_true ?_
    unfold leB at g
    rw [List.not_lt, ByteArray.toList_eq, ByteArray.toList_eq] at g
    exact g
  rw [List.mergeSort_of_pairwise hp]
  unfold ofBytes bytesOf
  rw [List.map_map]
  have : ((fun s => (⟨s.toArray⟩ : ByteArray)) ∘ fun x => x.data.toList) = id := by funext x; simp [Function.comp]
  rw [this]; simp
theorem ord_sort {l m : List ByteArray} (h : OrdB l) (p : l.Perm m) : l = sortStr m := by rw [← sortStr_congr p, sort_ord h]
end Go.Proofs.YtgdenmddbgcacaaGreatDoor
/- The document's store: walk of Keys. -/
set_option linter.unusedVariables false
set_option linter.unusedSimpArgs false
set_option linter.unusedSectionVars false
namespace Go.Proofs.YtgdenmddbgcacaaGreatDoor
open Go.RowKit

theorem keys_snoc {l : List Ce} {k : Nat} {c : Ce} (h : l[k]? = some c) : keysC (l.take (k + 1)) = keysC (l.take k) ++ [c.key] := by
  obtain ⟨h1, e⟩ := List.getElem?_eq_some_iff.1 h
  unfold keysC
  rw [List.take_succ_eq_append_getElem h1, e, List.map_append]; rfl
set_option maxHeartbeats 8000000 in
set_option maxRecDepth 100000 in
theorem qkeys_any {w : World} {base wb : Nat} {vs ve : Value} {C : List RCe} {S : PS} (h : RMem w base wb vs ve C S) (hl : S.cells.length ≤ 10000) :
    Calls Tryz.prog 18 #[.pointer (some ⟨wb, 0, none⟩)] w fun e w' => ∃ v', e = .returned v' ∧ StrsAt w' w.heap.size v' (sortStr (keysC S.cells)) ∧ Upd (fun _ => False) w w' := by
  obtain ⟨p, c, ev, hm, hle⟩ := h.cells.slice
  subst ev
  unfold maxLen at hm
  have H := Lib.hid h
  obtain ⟨nl, hnl⟩ : ∃ nl, nl = C.length := ⟨_, rfl⟩
  have NL := Lib.hid hnl
  have SL : Hid (S.cells.length = nl) := by show _ = _; rw [hnl, h.len]
  have U0 : Hid (Upd (fun _ => False) w (w.alloc (.cells #[] 9))) := (Upd.refl _ _).alloc _
  have x0 := (h.keep0 U0.out).blk.cellAt (i := 0) (v := .slice p C.length c) rfl
  have hwb := (h.keep0 U0.out).blk.lt
  have MO := Lib.hid (strs_none w)
  rw [← hnl] at hm hle x0
  have hl : nl ≤ 10000 := by rw [← SL.out]; exact hl
  clear h hnl
  go_enter Tryz.func18, Tryz.ntmps18
  go_wp2
  go_loopw [3, 14] (fun out xi wr => ∃ (k g cc na : Nat) (acc : List ByteArray), k ≤ nl ∧ na ≤ k ∧ out = .slice (some ⟨g, 0, none⟩) na cc ∧ xi = .int .i64 (k : Int) ∧ Hid (na = acc.length) ∧ na ≤ cc ∧ cc ≤ maxLen ∧ Hid (OrdB acc ∧ acc.Perm (keysC (S.cells.take k))) ∧ Hid (StrsAt wr w.heap.size (.slice (some ⟨g, 0, none⟩) na cc) acc) ∧ Hid (Upd (fun _ => False) w wr)) (fun _ xi _ => nl - (intOf xi).toNat)
  case atStart => exact ⟨0, w.heap.size, 0, 0, [], by omega, by omega, rfl, rfl, Lib.hid rfl, by omega, by unfold maxLen; omega, Lib.hid ⟨List.Pairwise.nil, by simp [keysC]⟩, MO, U0⟩
  case round =>
    clear MO U0 x0 hwb
    obtain ⟨k, g, cc, na, acc, hk, hna, rfl, rfl, NA, hcc, hcm, RM, OW, U⟩ := hrel
    have hwl := U.out.size
    unfold maxLen at hcm
    by_cases hlt : k < nl
    · have q1 : (k : Int) < (nl : Int) := by omega
      have hkl : k < C.length := by rw [← NL.out]; exact hlt
      obtain ⟨b, t, ep, hb, hbl, htk, hcs, _⟩ := cel_cells (H.out.keep0 U.out).cells hkl
      subst ep
      have c0 := hcs 0 (by omega)
      have c1 := hcs 1 (by omega)
      have c2 := hcs 2 (by omega)
      have c3 := hcs 3 (by omega)
      have c4 := hcs 4 (by omega)
      have hs : S.cells[k]? = some t.c := by rw [← H.out.eq, List.getElem?_map, htk]; rfl
      have FD := (H.out.keep0 U.out).flds t (List.mem_of_getElem? htk)
      obtain ⟨pv, cv, evv, _⟩ := FD.1.len
      have TK := Lib.hid (keys_snoc hs)
      clear hcs hkl htk FD hs
      obtain ⟨⟨s, ⟨kd, tx, fl⟩, wn⟩, v⟩ := t
      simp only at evv TK
      subst evv
      simp only [rcs, List.getElem?_cons_zero, List.getElem?_cons_succ, Nat.add_zero] at c0 c1 c2 c3 c4
      generalize fl.length = nf at *
      have UQ : Hid (Upd (fun _ => False) wr (wr.alloc (.cells #[.string s, .int .i64 kd, .string tx, .slice pv nf cv, .int .i64 wn] 90))) := (Upd.refl _ _).alloc _
      have BQ := Lib.hid (Blk.made wr [.string s, .int .i64 kd, .string tx, .slice pv nf cv, .int .i64 wn] 90)
      go_upto_region 5 with (fail)
      generalize hq : wr.heap.size = q at *
      generalize hw6 : wr.alloc (.cells #[.string s, .int .i64 kd, .string tx, .slice pv nf cv, .int .i64 wn] 90) = w6 at *
      have BQ : Hid (Blk w6 q [.string s, .int .i64 kd, .string tx, .slice pv nf cv, .int .i64 wn] 90) := BQ
      have U6 : Hid (Upd (fun _ => False) w w6) := U.out.trans UQ.out (fun _ _ h => h)
      have OW6 : Hid (StrsAt w6 w.heap.size (.slice (some ⟨g, 0, none⟩) na cc) acc) := own_keep OW.out UQ.out (fun _ _ h => h)
      have hwl : w.heap.size ≤ w6.heap.size := U6.out.size
      clear hw6 hq c0 c1 c2 c3 c4 hb hbl UQ OW U
      go_wp2
      go_loopw [6] (fun x6 wq => ∃ (a : Nat), x6 = .int .i64 (a : Int) ∧ a ≤ na ∧ Hid (Upd (fun _ => False) w6 wq) ∧ Hid (∀ t ∈ acc.take a, leB t s)) (fun x6 _ => na - (intOf x6).toNat)
      case atStart => exact ⟨0, rfl, by omega, Lib.hid (Upd.refl _ _), Lib.hid (fun t ht => by simp at ht)⟩
      case round =>
        obtain ⟨a, rfl, ha, WQ, LT⟩ := hrel
        have BR : Hid (Blk wr q [.string s, .int .i64 kd, .string tx, .slice pv nf cv, .int .i64 wn] 90) := WQ.out.blk BQ.out (fun h => h)
        have OWR : Hid (StrsAt wr w.heap.size (.slice (some ⟨g, 0, none⟩) na cc) acc) := own_keep OW6.out WQ.out (fun _ _ h => h)
        have UWR : Hid (Upd (fun _ => False) w wr) := U6.out.trans WQ.out (fun _ _ h => h)
        have z0 := BR.out.cellAt (i := 0) rfl
        have zl := BR.out.lt
        by_cases hal : a < na
        · have hal2 : a < acc.length := by rw [← NA.out]; exact hal
          obtain ⟨g', ep', gl, c1⟩ := str_at (NA.out ▸ OWR.out) hal2
          have eg : g = g' := by injection ep' with e; injection e
          subst eg
          have q2 : (a : Int) < (na : Int) := by omega
          have q3 : decide ((a : Int) < (na : Int)) = true := decide_eq_true q2
          have LQ := bytesLess_lt acc[a].toList s.toList
          by_cases hls : acc[a].toList < s.toList
          · rw [decide_eq_true hls] at LQ
            have LT2 : Hid (∀ t ∈ acc.take (a + 1), leB t s) := fun t ht => by
              rw [List.take_succ_eq_append_getElem hal2] at ht
              rcases List.mem_append.1 ht with h | h
              · exact LT.out t h
              · rw [List.mem_singleton.1 h]; exact fun g => List.lt_irrefl _ (List.lt_trans hls g)
            clear hls
            generalize acc[a] = sa at *
            clear hal2 ep'
            go_upto_region 6 with (fail)
            go_quiet (fail)
            go_wp2
            go_roundw
            case rel => exact ⟨a + 1, by simp, by omega, Lib.hid (WQ.out.trans ((Upd.refl _ _).drewN nq) (fun _ _ h => h)), LT2⟩
            case measure => simp [intOf]; omega
          · rw [decide_eq_false hls] at LQ
            have GT : ∀ t ∈ acc.drop a, leB s t := fun t ht => by
              rw [List.drop_eq_getElem_cons hal2] at ht
              rcases List.mem_cons.1 ht with h | h
              · rw [h]; exact hls
              · have hp := RM.out.1
                rw [← List.take_append_drop a acc, List.drop_eq_getElem_cons hal2] at hp
                have h3 := (List.pairwise_cons.1 (List.pairwise_append.1 hp).2.1).1 t h
                exact leB_trans hls h3
            clear hls
            generalize acc[a] = sa at *
            clear hal2 ep'
            go_upto_region 6 with (fail)
            go_quiet (fail)
            generalize hwz : wr.drewN nq = wz
            have UZ : Upd (fun _ => False) wr wz := by rw [← hwz]; exact (Upd.refl _ _).drewN nq
            have BZ : Hid (Blk wz q [.string s, .int .i64 kd, .string tx, .slice pv nf cv, .int .i64 wn] 90) := UZ.blk BR.out (fun h => h)
            have OWZ : Hid (StrsAt wz w.heap.size (.slice (some ⟨g, 0, none⟩) na cc) acc) := own_keep OWR.out UZ (fun _ _ h => h)
            have UWZ : Hid (Upd (fun _ => False) w wz) := UWR.out.trans UZ (fun _ _ h => h)
            have hwl : w.heap.size ≤ wz.heap.size := UWZ.out.size
            obtain ⟨V2, RS1, RS2⟩ := sslice_rest g na cc a ha
            have RS3 := sslice_head g na cc a (by omega)
            obtain ⟨v2, w2, hr1, R1, U1⟩ := strs_rest wz w.heap.size _ (acc.drop a) (RS2 _ _ _ OWZ.out) (by rw [List.length_drop, ← NA.out]; omega) hwl
            have ud : Upd (fun _ => False) w2 w2.drew := (Upd.refl _ _).drew
            have U1d := U1.trans ud (fun _ _ h => h)
            have OW2 := own_keep OWZ.out U1d (fun _ _ h => h)
            obtain ⟨p3, c3, w3, hr2, R2, U2⟩ := strs_cut w2.drew w.heap.size g na cc a acc s OW2 (by rw [← NA.out]; exact ha) (by rw [← NA.out]; omega) (Nat.le_trans hwl U1d.size)
            obtain ⟨v4, w4, hr3, R3, U3, NO⟩ := strs_append w3 w.heap.size w.heap.size 54 _ v2 _ _ R2 (own_keep (own_keep R1 ud (fun _ _ h => h)) U2 (fun _ _ h => h)) (by simp; rw [← NA.out]; omega) (Nat.le_trans hwl (Nat.le_trans U1d.size U2.size))
            have hr2 : (Builtin.append_ #[54, 54] 54 #[.slice (some ⟨g, 0, none⟩) a a, .slice (some ⟨w2.heap.size, 0, none⟩) 1 1]).run Tryz.prog (w2.alloc (.cells #[.string s] 9)).drew = .ok (.slice p3 (a + 1) c3) w3 := hr2
            obtain ⟨SP1, SP2⟩ := ordB_put RM.out.1 LT.out GT
            have LN : (acc.take a ++ [s] ++ acc.drop a).length = na + 1 := by
              rw [List.length_append, List.length_append, List.length_take, List.length_drop, ← NA.out]; simp; omega
            have R3B := own_blk R3
            rw [LN] at R3B
            obtain ⟨_, ⟨_, e0⟩ | ⟨g4, c4, cs4, ev4, _, _, hc4, hm4⟩⟩ := R3B
            · omega
            subst ev4
            have SP2 : Hid ((acc.take a ++ [s] ++ acc.drop a).Perm (keysC (S.cells.take (k + 1)))) := by
              show _
              rw [TK.out]; exact SP2.trans (RM.out.2.append_right [s])
            have SP1 := Lib.hid SP1
            have LN := Lib.hid LN.symm
            have R3 := Lib.hid R3
            have U4 : Hid (Upd (fun _ => False) w w4) := ((UWZ.out.trans U1d (fun _ _ h => h)).trans U2 (fun _ _ h => h)).trans U3 (fun q hq e => by have := (strs_own_lt R2 e).2.1; omega)
            have z2 := (U1.blk BZ.out (fun h => h)).cellAt (i := 0) rfl
            have zl2 := (U1.blk BZ.out (fun h => h)).lt
            clear R1 R2 U1 U1d ud U2 U3 OW2 NO GT RS2 z0 zl UZ
            generalize acc.take a ++ [s] ++ acc.drop a = acc2 at *
            go_upto_region 9 with (first | (at_builtin; refine wpList_builtinN rfl _ _ 54 rfl _ _ rfl rfl hr1 ?_) | (at_builtin; refine wpList_builtin rfl _ _ 54 rfl _ _ rfl rfl hr1 ?_))
            clear hr1 RS1
            go_region_law (first | (refine step_builtinN rfl (.tmp 41) (.tmp 44) 54 rfl _ _ rfl rfl hr2 ?_) | (refine step_builtinN rfl (.tmp 45) (.tmp 46) 54 rfl _ _ rfl rfl hr3 ?_))
            all_goals go_wp2
            all_goals go_roundw
            case rel => exact ⟨k + 1, g4, c4, na + 1, acc2, by omega, by omega, rfl, by simp, LN, by omega, hm4, Lib.hid ⟨SP1.out, SP2.out⟩, R3, U4⟩
            case measure => simp [intOf]; omega
        · have q2 : ¬ (a : Int) < (na : Int) := by omega
          have q3 : decide ((a : Int) < (na : Int)) = false := decide_eq_false q2
          have GT : ∀ t ∈ acc.drop a, leB s t := fun t ht => by
            rw [List.drop_eq_nil_of_le (by rw [← NA.out]; omega)] at ht; cases ht
          go_upto_region 6 with (fail)
          go_quiet (fail)
          generalize hwz : wr.drewN nq = wz
          have UZ : Upd (fun _ => False) wr wz := by rw [← hwz]; exact (Upd.refl _ _).drewN nq
          have BZ : Hid (Blk wz q [.string s, .int .i64 kd, .string tx, .slice pv nf cv, .int .i64 wn] 90) := UZ.blk BR.out (fun h => h)
          have OWZ : Hid (StrsAt wz w.heap.size (.slice (some ⟨g, 0, none⟩) na cc) acc) := own_keep OWR.out UZ (fun _ _ h => h)
          have UWZ : Hid (Upd (fun _ => False) w wz) := UWR.out.trans UZ (fun _ _ h => h)
          have hwl : w.heap.size ≤ wz.heap.size := UWZ.out.size
          obtain ⟨V2, RS1, RS2⟩ := sslice_rest g na cc a ha
          have RS3 := sslice_head g na cc a (by omega)
          obtain ⟨v2, w2, hr1, R1, U1⟩ := strs_rest wz w.heap.size _ (acc.drop a) (RS2 _ _ _ OWZ.out) (by rw [List.length_drop, ← NA.out]; omega) hwl
          have ud : Upd (fun _ => False) w2 w2.drew := (Upd.refl _ _).drew
          have U1d := U1.trans ud (fun _ _ h => h)
          have OW2 := own_keep OWZ.out U1d (fun _ _ h => h)
          obtain ⟨p3, c3, w3, hr2, R2, U2⟩ := strs_cut w2.drew w.heap.size g na cc a acc s OW2 (by rw [← NA.out]; exact ha) (by rw [← NA.out]; omega) (Nat.le_trans hwl U1d.size)
          obtain ⟨v4, w4, hr3, R3, U3, NO⟩ := strs_append w3 w.heap.size w.heap.size 54 _ v2 _ _ R2 (own_keep (own_keep R1 ud (fun _ _ h => h)) U2 (fun _ _ h => h)) (by simp; rw [← NA.out]; omega) (Nat.le_trans hwl (Nat.le_trans U1d.size U2.size))
          have hr2 : (Builtin.append_ #[54, 54] 54 #[.slice (some ⟨g, 0, none⟩) a a, .slice (some ⟨w2.heap.size, 0, none⟩) 1 1]).run Tryz.prog (w2.alloc (.cells #[.string s] 9)).drew = .ok (.slice p3 (a + 1) c3) w3 := hr2
          obtain ⟨SP1, SP2⟩ := ordB_put RM.out.1 LT.out GT
          have LN : (acc.take a ++ [s] ++ acc.drop a).length = na + 1 := by
            rw [List.length_append, List.length_append, List.length_take, List.length_drop, ← NA.out]; simp; omega
          have R3B := own_blk R3
          rw [LN] at R3B
          obtain ⟨_, ⟨_, e0⟩ | ⟨g4, c4, cs4, ev4, _, _, hc4, hm4⟩⟩ := R3B
          · omega
          subst ev4
          have SP2 : Hid ((acc.take a ++ [s] ++ acc.drop a).Perm (keysC (S.cells.take (k + 1)))) := by
            show _
            rw [TK.out]; exact SP2.trans (RM.out.2.append_right [s])
          have SP1 := Lib.hid SP1
          have LN := Lib.hid LN.symm
          have R3 := Lib.hid R3
          have U4 : Hid (Upd (fun _ => False) w w4) := ((UWZ.out.trans U1d (fun _ _ h => h)).trans U2 (fun _ _ h => h)).trans U3 (fun q hq e => by have := (strs_own_lt R2 e).2.1; omega)
          have z2 := (U1.blk BZ.out (fun h => h)).cellAt (i := 0) rfl
          have zl2 := (U1.blk BZ.out (fun h => h)).lt
          clear R1 R2 U1 U1d ud U2 U3 OW2 NO GT RS2 z0 zl UZ
          generalize acc.take a ++ [s] ++ acc.drop a = acc2 at *
          go_upto_region 9 with (first | (at_builtin; refine wpList_builtinN rfl _ _ 54 rfl _ _ rfl rfl hr1 ?_) | (at_builtin; refine wpList_builtin rfl _ _ 54 rfl _ _ rfl rfl hr1 ?_))
          clear hr1 RS1
          go_region_law (first | (refine step_builtinN rfl (.tmp 41) (.tmp 44) 54 rfl _ _ rfl rfl hr2 ?_) | (refine step_builtinN rfl (.tmp 45) (.tmp 46) 54 rfl _ _ rfl rfl hr3 ?_))
          all_goals go_wp2
          all_goals go_roundw
          case rel => exact ⟨k + 1, g4, c4, na + 1, acc2, by omega, by omega, rfl, by simp, LN, by omega, hm4, Lib.hid ⟨SP1.out, SP2.out⟩, R3, U4⟩
          case measure => simp [intOf]; omega
    · have q1 : ¬ (k : Int) < (nl : Int) := by omega
      have EA : Hid (sortStr (keysC S.cells) = acc) := by
        have := RM.out.2
        rw [List.take_of_length_le (by rw [SL.out]; omega)] at this
        exact (ord_sort RM.out.1 this).symm
      go_wp2
      go_ret
      rw [EA.out]
      exact ⟨_, rfl, NA.out ▸ OW.out, U.out⟩
end Go.Proofs.YtgdenmddbgcacaaGreatDoor
