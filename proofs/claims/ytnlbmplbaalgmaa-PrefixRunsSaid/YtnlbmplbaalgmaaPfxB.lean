/- The library's functions at rows of numbers and of texts: search, insert, strike, sort, copy. -/
import Derived.Test.YtnlbmplbaalgmaaPfxA
import Derived.Lib.OwnBridge
set_option linter.unusedVariables false
set_option linter.unusedSimpArgs false
set_option linter.unusedSectionVars false
namespace Go.Proofs.Ytnlbmplbaalgmaa
open Go.RowKit Go.Shelf Go.Sort

theorem bsi_any (base : Nat) (v : Value) (xs : List Int) (x : Int) (w : World) (h : IntsAt w base v xs) (hs : Rising xs) (hl : xs.length ≤ 1000000) :
    Calls Try.prog 51 #[v, .int .i64 x] w fun e w' => e = .returned (.tuple #[.int .i64 (xs.countP (· < x) : Nat), .bool (xs.contains x)]) ∧ ∃ q, w' = w.drewN q := by
  have hle : xs.Pairwise (· ≤ ·) := List.Pairwise.imp (fun h => by omega) hs
  rcases ints_blk h with ⟨rfl, rfl⟩ | ⟨b, cap, cs, rfl, _, hB, hc, hm⟩
  · exact (Try.slices_BinarySearch_int_empty none 0 x w).mono fun e w' ⟨h1, h2⟩ => ⟨h1, 0, by rw [h2]; rfl⟩
  · have := Try.slices_BinarySearch_int b 0 xs.length cap xs x w (Nat.le_refl _) (by omega) (fun j hj => by
      rw [Nat.zero_add]
      refine hB.cellAt ?_
      rw [List.getElem?_append_left (by simpa using hj)]
      simp [hj]) (by simpa using hle)
    rw [List.take_length] at this
    exact this
theorem bss_any (base : Nat) (v : Value) (xs : List Txt) (x : Txt) (w : World) (h : TxtsAt w base v xs) (hs : Rising xs) (hl : xs.length ≤ 1000000) :
    Calls Try.prog 53 #[v, .string (ofL x)] w fun e w' => ∃ b, e = .returned (.tuple #[.int .i64 (xs.countP (· < x) : Nat), .bool b]) ∧ ∃ q, w' = w.drewN q := by
  rcases strs_blk (TxtsAt.strs.1 h) with ⟨rfl, e0⟩ | ⟨b, cap, cs, rfl, _, hB, hc, hm⟩
  · have : xs = [] := by cases xs <;> simp_all
    subst this
    exact (Any2.slices_BinarySearch_string_empty bssLay none 0 (ofL x) w).mono fun e w' ⟨h1, h2⟩ => ⟨_, h1, 0, by rw [h2]; rfl⟩
  · rw [List.length_map]
    rw [List.length_map] at hc
    refine (Any2.slices_BinarySearch_string bssLay b 0 xs.length cap (fun t => ofL (xs.getD t x)) (ofL x) w (by omega) (fun j hj => ?_)).mono ?_
    · rw [Nat.zero_add]
      refine hB.cellAt ?_
      rw [List.getElem?_append_left (by simpa using hj)]
      simp [hj]
    · rintro e w' ⟨rfl, q, rfl⟩
      rw [bsGo_rising hs x x (LinO.irr x) _ (fun t => less_txt _ _)]
      exact ⟨_, rfl, q, rfl⟩
theorem insertT_any (base i vb : Nat) (v : Value) (xs : List Txt) (x : Txt) (w : World) (h : TxtsAt w base v xs) (hi : i ≤ xs.length) (hvb : Blk w vb [.string (ofL x)] 9) (hb : base ≤ w.heap.size) (hne : v.ownBlock ≠ some vb) (hl : xs.length ≤ 1000000) :
    Calls Try.prog 54 #[v, .int .i64 (i : Int), .slice (some ⟨vb, 0, none⟩) 1 1] w fun e w' => ∃ v', e = .returned v' ∧ TxtsAt w' base v' (xs.take i ++ x :: xs.drop i) ∧ Upd (fun k => v.ownBlock = some k) w w' ∧
      (∀ k, v'.ownBlock = some k → v.ownBlock = some k ∨ w.heap.size ≤ k) := by
  refine (insertS_any base i vb v (xs.map ofL) (ofL x) w (TxtsAt.strs.1 h) (by simpa using hi) hvb hb hne (by simpa using hl)).mono ?_
  rintro e w' ⟨v', rfl, h1, h2, h3⟩
  refine ⟨v', rfl, TxtsAt.strs.2 ?_, h2, h3⟩
  rw [List.map_append, List.map_cons, List.map_take, List.map_drop]; exact h1
theorem cloneT_any (base : Nat) (v : Value) (xs : List Txt) (w : World) (h : TxtsAt w base v xs) (hl : xs.length ≤ 1000000) :
    Calls Try.prog 60 #[v] w fun e w' => ∃ v', e = .returned v' ∧ TxtsAt w' w.heap.size v' xs ∧ Upd (fun _ => False) w w' := by
  rcases strs_blk (TxtsAt.strs.1 h) with ⟨rfl, e0⟩ | ⟨b, cap, cs, rfl, _, hB, hc, hm⟩
  · have : xs = [] := by cases xs <;> simp_all
    subst this
    exact (Try.slices_Clone_string_nil 0 0 w).mono fun e w' ⟨h1, h2⟩ => ⟨_, h1, World.ownsRow_nil _ _ _ _, by rw [h2]; exact Upd.refl _ _⟩
  · have hll : (xs.map ofL).length = xs.length := List.length_map ..
    refine (Try.slices_Clone_string b 0 (xs.map ofL).length cap (xs.map ofL) w (Nat.le_refl _) (by omega) (fun j hj => ?_)).mono ?_
    · rw [Nat.zero_add]
      refine hB.cellAt ?_
      rw [List.getElem?_append_left (by simpa using hj), List.getElem?_map, List.getElem?_eq_getElem hj, List.getD_eq_getElem?_getD, List.getElem?_eq_getElem hj]; rfl
    · rintro e w' ⟨v', rfl, h2, _, hb⟩
      rw [List.take_length] at h2
      exact ⟨v', rfl, TxtsAt.strs.2 h2, (Upd.of_below hb).weaken fun i hi h2 => by omega⟩
set_option maxRecDepth 100000 in
/-- The closure of Drop. -/
theorem isidP_any (id x : Int) (B : Nat) (W : World) (hc : W.cell? ⟨B, 0, none⟩ = some (.int .i64 id)) :
    FnGives Try.prog 58 #[.pointer (some ⟨B, 0, none⟩)] #[.int .i64 x] (.bool (decide (x = id))) W := by
  show Calls Try.prog 58 #[.int .i64 x, .pointer (some ⟨B, 0, none⟩)] W _
  go_enter Try.func58, Try.ntmps58
  go_wp2
  all_goals (go_ret; exact ⟨ret_bool (by rfl), 0, rfl⟩)
/-- slices.DeleteFunc of a row of the call's own, without one number. -/
theorem delfP_any (base B : Nat) (v : Value) (xs : List Int) (id : Int) (w : World) (h : IntsAt w base v xs) (hv : v ≠ .slice none 0 0) (hl : xs.length ≤ 1000000) (hB : B < w.heap.size) (hc : w.cell? ⟨B, 0, none⟩ = some (.int .i64 id)) (hne : v.ownBlock ≠ some B) :
    Calls Try.prog 57 #[v, .func (.func 58) #[] #[.pointer (some ⟨B, 0, none⟩)]] w fun e w' => ∃ v', e = .returned v' ∧ IntsAt w' base v' (xs.filter (· ≠ id)) ∧ v'.ownBlock = v.ownBlock ∧ Upd (fun k => v.ownBlock = some k) w w' := by
  have eg : ∀ args w, (callFunc 58 args).run Try.prog w = .ok (.enter 58 args) w := enters_of Try.func58 (by kernel_rfl) rfl
  obtain ⟨g, cap, rfl, hbg, hg, hnc, hcm, _, hH⟩ := Lib.holds_of_ownsRow h hv
  have hgB : B ≠ g := fun e => hne (by rw [e]; rfl)
  have hx : (xs.toArray).toList = xs := rfl
  have hle : (xs.filter fun x => !decide (x = id)).length ≤ xs.length := List.length_filter_le _ _
  refine (Try.slices_DeleteFunc (Value.int .i64) (fun _ => rfl) (fun x => decide (x = id)) 58 #[.pointer (some ⟨B, 0, none⟩)] eg 0 Try.zeroValue3 g 0 cap xs.toArray w
    (fun W x hb => isidP_any id x B W ((hb.cell (p := ⟨B, 0, none⟩) hB).trans hc))
    (fun n os dk x _ => isidP_any id x B _ (by
      unfold sortWorld
      rw [cell?_grow _ _ _ (by show B < (putRow _ _ _ _ _).heap.size; rw [size_putRow]; exact hB), cell?_putRow_other _ _ g 0 _ _ (Or.inl hgB)]
      exact hc)) hH (by simp; omega) (by simpa using hnc)).mono ?_
  rintro e w' ⟨rfl, q, rfl⟩
  have er : (xs.filter fun x => !decide (x = id)) = xs.filter (· ≠ id) := by congr 1; funext x; simp
  have := Lib.ownsRow_putRow (q := q) (k := (xs.filter fun x => !decide (x = id)).length) (ys := (xs.filter fun x => !decide (x = id)) ++ List.replicate (xs.length - (xs.filter fun x => !decide (x = id)).length) 0) h (by simp; omega) hle
  refine ⟨_, rfl, ?_, rfl, ?_⟩
  · rw [List.take_left'] at this
    · rw [er] at this
      show World.ownsRow _ _ _ _ _ _ _
      rw [er]
      simpa [er] using this
    · rfl
  · have ub : ∀ k, k ≠ g → (putRow (Value.int .i64) (Sort.ahead w q) g 0 ((xs.filter fun x => !decide (x = id)) ++ List.replicate (xs.length - (xs.filter fun x => !decide (x = id)).length) 0).toArray).heap[k]? = w.heap[k]? := fun k hk => by
      simp [putRow, mapBlock, Sort.ahead, Array.getElem?_modify, Ne.symm hk]
    exact ⟨rfl, rfl, rfl, by simp [putRow, mapBlock, Sort.ahead], fun k _ hF => ub k (fun e => hF (by rw [e]; rfl))⟩
theorem Upd.grow {F : Nat → Prop} {a w : World} (h : Upd F a w) (os : Array Obj) : Upd F a (grow w os) :=
  ⟨h.os, h.tape, h.output, by have := h.size; simp [Sort.grow]; omega, fun k hk hF => by
    have := h.size
    simp only [Sort.grow]
    rw [Array.getElem?_append_left (by omega)]; exact h.block k hk hF⟩
theorem sorti_any (base : Nat) (v : Value) (xs : List Int) (w : World) (h : IntsAt w base v xs) (hl : xs.length ≤ 1000000) :
    Calls Try.prog 55 #[v] w fun e w' => e = .returned (.tuple #[]) ∧ IntsAt w' base v (xs.mergeSort fun x y => decide (x ≤ y)) ∧ Upd (fun k => v.ownBlock = some k) w w' := by
  by_cases hv : v = .slice none 0 0
  · subst hv
    have : xs = [] := by
      rcases ints_blk h with ⟨_, e⟩ | ⟨b, cap, cs, e, _⟩
      · exact e
      · cases e
    subst this
    refine (Try.slices_Sort_int_none none 0 w).mono ?_
    rintro e w' ⟨rfl, rfl⟩
    exact ⟨rfl, by simpa using h, Upd.refl _ _⟩
  · obtain ⟨g, cap, rfl, hbg, hg, hnc, hcm, _, hH⟩ := Lib.holds_of_ownsRow h hv
    refine (Try.slices_Sort_int g 0 cap xs w hH hg (by omega)).mono ?_
    rintro e w' ⟨rfl, q, os, rfl⟩
    have hys : (xs.mergeSort fun x y => decide (x ≤ y)).length = xs.length := List.length_mergeSort _
    have := Lib.ownsRow_putRow (q := q) (k := xs.length) (ys := xs.mergeSort fun x y => decide (x ≤ y)) h hys (Nat.le_refl _)
    rw [List.take_of_length_le (by omega)] at this
    have uP : Upd (fun k => (Value.slice (some ⟨g, 0, none⟩) xs.length cap).ownBlock = some k) w (putRow (Value.int .i64) (Sort.ahead w q) g 0 (xs.mergeSort fun x y => decide (x ≤ y)).toArray) :=
      ⟨rfl, rfl, rfl, by simp [putRow, mapBlock, Sort.ahead], fun k _ hF => by
        have hk : g ≠ k := fun e => hF (by rw [← e]; rfl)
        simp [putRow, mapBlock, Sort.ahead, Array.getElem?_modify, hk]⟩
    refine ⟨rfl, ?_, uP.grow os⟩
    refine own_keep (F := fun _ => False) ?_ ((Upd.refl _ _).grow os) (fun _ _ h => h)
    show World.ownsRow _ _ _ _ _ _ _
    rw [hys]; exact this
theorem compact_upTo {zs : List Int} (hs : zs.Pairwise (· ≤ ·)) : ∀ m, m ≤ zs.length → Rising (Lib.compactUpTo zs.toArray m) ∧ ∀ x, x ∈ Lib.compactUpTo zs.toArray m ↔ x ∈ zs.take m
  | 0, _ => ⟨List.Pairwise.nil, fun x => by simp [Lib.compactUpTo]⟩
  | m + 1, hm => by
    obtain ⟨h1, h2⟩ := compact_upTo hs m (by omega)
    have hml : m < zs.length := by omega
    have e0 : zs.toArray[m]! = zs[m] := by simp [hml]
    rw [Lib.compactUpTo_succ, List.take_succ_eq_append_getElem hml]
    have hle : ∀ j, (hj : j < m) → zs[j] ≤ zs[m] := fun j hj => List.pairwise_iff_getElem.1 hs j m (by omega) hml hj
    by_cases hk : Lib.keeps zs.toArray m = true
    · rw [if_pos hk, e0]
      refine ⟨List.pairwise_append.2 ⟨h1, List.pairwise_singleton _ _, fun a ha b hb => ?_⟩, fun x => by rw [List.mem_append, List.mem_append, h2]⟩
      rw [List.mem_singleton] at hb
      subst hb
      obtain ⟨j, hj, rfl⟩ := List.mem_iff_getElem.1 ((h2 a).1 ha)
      rw [List.length_take] at hj
      rw [List.getElem_take]
      simp only [Lib.keeps, decide_eq_true_eq] at hk
      rcases hk with hk | hk
      · omega
      · have e1 : zs.toArray[m - 1]! = zs[m - 1] := by simp [show m - 1 < zs.length by omega]
        rw [e0, e1] at hk
        have g1 := hle (m - 1) (by omega)
        have g2 : zs[j] ≤ zs[m - 1] := by
          rcases Nat.lt_or_ge j (m - 1) with g | g
          · exact List.pairwise_iff_getElem.1 hs j (m - 1) (by omega) (by omega) g
          · have : j = m - 1 := by omega
            subst this; exact Int.le_refl _
        omega
    · rw [if_neg hk, List.append_nil]
      refine ⟨h1, fun x => ?_⟩
      rw [h2, List.mem_append, List.mem_singleton]
      refine ⟨Or.inl, fun g => g.elim (fun g => g) (fun g => ?_)⟩
      simp only [Lib.keeps, decide_eq_true_eq, not_or, Decidable.not_not] at hk
      have e1 : zs.toArray[m - 1]! = zs[m - 1] := by simp [show m - 1 < zs.length by omega]
      rw [e0, e1] at hk
      rw [g, hk.2]
      exact List.mem_iff_getElem.2 ⟨m - 1, by rw [List.length_take]; omega, by rw [List.getElem_take]⟩
theorem compact_rising {zs : List Int} (hs : zs.Pairwise (· ≤ ·)) : Rising (Lib.compact zs) ∧ ∀ x, x ∈ Lib.compact zs ↔ x ∈ zs := by
  have := compact_upTo hs zs.length (Nat.le_refl _)
  rw [List.take_length] at this; exact this
/-- slices.Sort, then slices.Compact: the numbers, rising, each once. -/
theorem compacti_any (base : Nat) (v : Value) (xs : List Int) (w : World) (h : IntsAt w base v xs) (hl : xs.length ≤ 1000000) :
    Calls Try.prog 56 #[v] w fun e w' => ∃ v', e = .returned v' ∧ IntsAt w' base v' (Lib.compact xs) ∧ Upd (fun k => v.ownBlock = some k) w w' := by
  rcases ints_blk h with ⟨rfl, rfl⟩ | ⟨b, cap, cs, rfl, hbb, hB, hc, hm⟩
  · exact (Try.slices_Compact_int_empty none 0 w).mono fun e w' ⟨h1, h2⟩ => ⟨_, h1, by rw [h2]; exact h, by rw [h2]; exact Upd.refl _ _⟩
  · have hcl : (Lib.compact xs).length ≤ xs.length := Lib.compact_length_le xs
    refine (Try.slices_Compact_int_cells b 0 xs.length cap xs w (Nat.le_refl _) (by omega) (by omega) (fun j hj => ?_) (fun j _ => hB.free _)).mono ?_
    · rw [Nat.zero_add]
      refine hB.cellAt ?_
      rw [List.getElem?_append_left (by simpa using hj)]
      simp [hj]
    · rintro e w' ⟨rfl, q, rfl⟩
      rw [List.take_length]
      refine ⟨_, rfl, ?_, Upd.setCellsL _ _ ((Upd.refl _ w).drewN q) (fun _ => rfl)⟩
      have hb2 := (hB.drewN q).setCellsL ((Lib.compact xs ++ List.replicate (xs.length - (Lib.compact xs).length) 0).map (Value.int .i64)) 0
      rw [setL_eq _ _ _ (by simp; omega), List.take_zero, List.nil_append, Nat.zero_add, List.map_append, List.append_assoc] at hb2
      rw [List.map_append]
      refine ints_of (cs := (List.replicate (xs.length - (Lib.compact xs).length) 0).map (Value.int .i64) ++ ((xs.map (Value.int .i64)) ++ cs).drop ((Lib.compact xs).map (Value.int .i64) ++ (List.replicate (xs.length - (Lib.compact xs).length) 0).map (Value.int .i64)).length) hbb hb2 ?_ hm
      simp; omega
end Go.Proofs.Ytnlbmplbaalgmaa
