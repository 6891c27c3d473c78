/- slices.Insert of one text into a row of the call's own; slices.BinarySearch among texts. -/
import Derived.Test.YtnlbmplbaalgmaaIns
import Derived.Shelf.Spec.SearchS
set_option linter.unusedVariables false
set_option linter.unusedSimpArgs false
namespace Go.Proofs.Ytnlbmplbaalgmaa
open Go.RowKit

def insRenS : Go.Shelf.Ren := ⟨fun | 22 => 54 | 29 => 76 | 30 => 77 | 36 => 86 | 17 => 99 | n => n, fun | 24 => 22 | 9 => 9 | 3 => 3 | 4 => 4 | 0 => 0 | n => n, fun | n => n⟩
theorem insLayS : Lays2.n22 Try.prog insRenS := {
  mixed := by kernel_rfl
  f22 := Try.func54.trans (congrArg some (by kernel_rfl))
  f29 := Try.func76.trans (congrArg some (by kernel_rfl))
  f30 := Try.func77.trans (congrArg some (by kernel_rfl))
  f36 := Try.func86.trans (congrArg some (by kernel_rfl))
  f17 := Try.func99.trans (congrArg some (by kernel_rfl))
  t0 := Try.underlying0
  a0 := Try.isAgg0
  z0 := Try.sizeOf0
  v0 := Try.zeroValue0
  t3 := Try.underlying3
  a3 := Try.isAgg3
  z3 := Try.sizeOf3
  v3 := Try.zeroValue3
  t4 := Try.underlying4
  a4 := Try.isAgg4
  z4 := Try.sizeOf4
  v4 := Try.zeroValue4
  t9 := Try.underlying9
  a9 := Try.isAgg9
  z9 := Try.sizeOf9
  v9 := Try.zeroValue9
  t24 := Try.underlying22
  a24 := Try.isAgg22
  z24 := Try.sizeOf22
  v24 := Try.zeroValue22
  i9 := by kernel_rfl }
def bssRen : Go.Shelf.Ren := ⟨fun | 26 => 53 | 33 => 74 | 34 => 75 | 38 => 85 | n => n, fun | 24 => 22 | 9 => 9 | 3 => 3 | 4 => 4 | 40 => 116 | 0 => 0 | n => n, fun | n => n⟩
theorem bssLay : Lays2.n26 Try.prog bssRen := {
  mixed := by kernel_rfl
  f26 := Try.func53.trans (congrArg some (by kernel_rfl))
  f33 := Try.func74.trans (congrArg some (by kernel_rfl))
  f34 := Try.func75.trans (congrArg some (by kernel_rfl))
  f38 := Try.func85.trans (congrArg some (by kernel_rfl))
  t0 := Try.underlying0
  a0 := Try.isAgg0
  z0 := Try.sizeOf0
  v0 := Try.zeroValue0
  t3 := Try.underlying3
  a3 := Try.isAgg3
  z3 := Try.sizeOf3
  v3 := Try.zeroValue3
  t4 := Try.underlying4
  a4 := Try.isAgg4
  z4 := Try.sizeOf4
  v4 := Try.zeroValue4
  t9 := Try.underlying9
  a9 := Try.isAgg9
  z9 := Try.sizeOf9
  v9 := Try.zeroValue9
  t24 := Try.underlying22
  a24 := Try.isAgg22
  z24 := Try.sizeOf22
  v24 := Try.zeroValue22
  t40 := Try.underlying116
  a40 := Try.isAgg116
  z40 := Try.sizeOf116
  v40 := Try.zeroValue116 }

/-- A row of texts, said by its block. -/
theorem strs_blk {w : World} {base : Nat} {v : Value} {xs : List ByteArray} (h : StrsAt w base v xs) : (v = .slice none 0 0 ∧ xs = []) ∨ ∃ b cap cs, v = .slice (some ⟨b, 0, none⟩) xs.length cap ∧ base ≤ b ∧ Blk w b (xs.map (Value.string) ++ cs) 9 ∧ xs.length + cs.length = cap ∧ cap ≤ maxLen := by
  obtain ⟨_, ⟨rfl, e⟩ | ⟨g, cap, cur, rfl, hg, hh, h1, h2, h3, h4⟩⟩ := h
  · exact Or.inl ⟨rfl, List.length_eq_zero_iff.1 e⟩
  · refine Or.inr ⟨g, cap, cur.toList.drop xs.length, rfl, hg, ?_, ?_, h2⟩
    · unfold Blk
      rw [Nat.mul_one] at h4
      rw [← h4, List.take_append_drop]; exact hh
    · simp; omega
theorem strs_of {w : World} {base b cap : Nat} {xs : List ByteArray} {cs : List Value} (hb : base ≤ b) (h : Blk w b (xs.map (Value.string) ++ cs) 9) (hc : xs.length + cs.length = cap) (hm : cap ≤ maxLen) : StrsAt w base (.slice (some ⟨b, 0, none⟩) xs.length cap) xs :=
  ⟨by simp, Or.inr ⟨b, cap, _, rfl, hb, h, by omega, hm, by simp; omega, by simp⟩⟩

theorem ins_mapS (xs : List ByteArray) (x : ByteArray) (i : Nat) : (xs.take i ++ x :: xs.drop i).map (Value.string) = (xs.map (Value.string)).take i ++ Value.string x :: (xs.map (Value.string)).drop i := by
  simp [List.map_take, List.map_drop]
theorem ins_lenS (xs : List ByteArray) (x : ByteArray) {i : Nat} (h : i ≤ xs.length) : (xs.take i ++ x :: xs.drop i).length = xs.length + 1 := by simp; omega
theorem one_cellsS (xs : List ByteArray) : ∀ v ∈ xs.map (Value.string), v.oneCell' = true := fun v hv => by
  obtain ⟨x, _, rfl⟩ := List.mem_map.1 hv; rfl

theorem insT9 : insRenS.t 9 = 9 := rfl
theorem zcsS : (Value.string ⟨#[]⟩).cells.size = 1 := rfl
/-- slices.Insert of one text. -/
theorem insertS_any (base i vb : Nat) (v : Value) (xs : List ByteArray) (x : ByteArray) (w : World) (h : StrsAt w base v xs) (hi : i ≤ xs.length) (hvb : Blk w vb [.string x] 9) (hb : base ≤ w.heap.size) (hne : v.ownBlock ≠ some vb) (hl : xs.length ≤ 1000000) :
    Calls Try.prog 54 #[v, .int .i64 (i : Int), .slice (some ⟨vb, 0, none⟩) 1 1] w fun e w' => ∃ v', e = .returned v' ∧ StrsAt w' base v' (xs.take i ++ x :: xs.drop i) ∧ Upd (fun k => v.ownBlock = some k) w w' ∧
      (∀ k, v'.ownBlock = some k → v.ownBlock = some k ∨ w.heap.size ≤ k) := by
  have hvs : ∀ (W : World), Blk W vb [.string x] 9 → ∀ j u, ([Value.string x] : List Value)[j]? = some u → W.cell? ⟨vb, 0 + j, none⟩ = some u := fun W hW j u hj => by rw [Nat.zero_add]; exact hW.cellAt hj
  have h1v : ∀ u ∈ ([Value.string x] : List Value), u.oneCell' = true := fun u hu => by simp at hu; subst hu; rfl
  have hml : xs.length + 1 ≤ maxLen := by unfold maxLen; omega
  rcases strs_blk h with ⟨rfl, rfl⟩ | ⟨b, cap, cs, rfl, hbb, hB, hcap, hcm⟩
  · obtain rfl : i = 0 := by simpa using hi
    refine (Any2.slices_Insert_string_end_grow insLayS none 0 0 vb 0 1 1 [] [.string x] w (by omega) (by omega) (by omega) (by omega) rfl rfl (fun _ => rfl) (fun a ha => by cases ha) (hvs w hvb) h1v).mono ?_
    rintro e w' ⟨rfl, rfl⟩
    simp only [insT9]
    refine ⟨_, rfl, strs_of (xs := [x]) (cs := (Builtin.zeroCells (Value.string ⟨#[]⟩).cells (grownCap w 1 0 9 - 1)).toList) hb ?_ ?_ (grownCap_le_maxLen w 1 0 _ (by unfold maxLen; omega)), ((Upd.refl _ w).drew).alloc _, fun k hk => ?_⟩
    · exact Blk.made_eq (w := w.drew) (by simp)
    · have := grownCap_ge w 1 0 9
      simp [Builtin.zeroCells, zcsS]; omega
    · right; cases hk; exact Nat.le_refl _
  · have hbne : vb ≠ b := fun e => hne (by rw [e]; rfl)
    have hc63 : cap ≤ 9223372036854775807 := by unfold maxLen at hcm; omega
    have hcl : (xs.map (Value.string)).length = xs.length := by simp
    have hcs : ∀ j u, (xs.map (Value.string))[j]? = some u → w.cell? ⟨b, 0 + j, none⟩ = some u := fun j u hj => by
      rw [Nat.zero_add]
      refine hB.cellAt ?_
      rw [List.getElem?_append_left (by have := (List.getElem?_eq_some_iff.1 hj).1; exact this)]; exact hj
    by_cases hroom : xs.length + 1 ≤ cap
    · have hsome : ∀ j, j < cap → (w.cell? ⟨b, j, none⟩).isSome = true := fun j hj => by
        rw [hB.cell, List.getElem?_eq_getElem (by simp; omega)]; rfl
      have ht : 1 ≤ cs.length := by omega
      have hfin : (xs.take i ++ x :: xs.drop i).length + (cs.drop 1).length = cap := by rw [ins_lenS xs x hi]; simp; omega
      have hres : ∀ w', Blk w' b (((xs.map (Value.string)).take i ++ Value.string x :: (xs.map (Value.string)).drop i) ++ cs.drop 1) 9 → StrsAt w' base (.slice (some ⟨b, 0, none⟩) (xs.length + 1) cap) (xs.take i ++ x :: xs.drop i) := fun w' hw => by
        rw [← ins_mapS] at hw
        have := strs_of hbb hw hfin hcm
        rw [ins_lenS xs x hi] at this; exact this
      by_cases he : i = xs.length
      · subst he
        refine (Any2.slices_Insert_string_end_room insLayS b 0 xs.length cap vb 0 1 1 [.string x] w (by omega) hroom hc63 rfl (fun j hj => by rw [show 0 + xs.length + j = xs.length + j by omega]; exact hsome _ (by omega)) (fun j hj => hB.free _) (hvs w hvb) h1v).mono ?_
        rintro e w' ⟨rfl, rfl⟩
        refine ⟨_, rfl, hres _ ?_, Upd.setCellsL _ _ (Upd.refl _ w) (fun _ => rfl), fun k hk => Or.inl hk⟩
        have := hB.setCellsL [.string x] (0 + xs.length)
        rw [Nat.zero_add] at this
        have e2 := ins_end (xs.map (Value.string)) cs (.string x) ht
        rw [hcl] at e2
        rw [e2] at this
        rw [Nat.zero_add]; exact this
      · refine (Any2.slices_Insert_string_shift insLayS b 0 xs.length cap i vb 0 1 1 (xs.map (Value.string)) [.string x] w (by omega) (by omega) hroom hc63 hbne hcl rfl hcs (fun j hj => by rw [Nat.zero_add]; exact hsome _ (by omega)) (fun j hj => hB.free _) (hvs w hvb) (one_cellsS xs) h1v 9 9 1 (xs.map (Value.string) ++ cs).length hvb.shape hB.shape (by rw [List.length_append]; omega) (hvb.free _) (hvb.free _)).mono ?_
        rintro e w' ⟨rfl, rfl⟩
        refine ⟨_, rfl, hres _ ?_, Upd.setCellsL _ _ (Upd.setCellsL _ _ (Upd.refl _ w).drew (fun _ => rfl)) (fun _ => rfl), fun k hk => Or.inl hk⟩
        have := (hB.drew.setCellsL ((xs.map (Value.string)).drop i) (0 + (i + 1))).setCellsL [.string x] (0 + i)
        rw [Nat.zero_add, Nat.zero_add, ins_shift _ _ _ _ (by simpa using hi) ht] at this
        rw [Nat.zero_add, Nat.zero_add]; exact this
    · have hbig : (xs.length + 1) * 16 ≤ 140737488355328 := by omega
      have hge := grownCap_ge w (xs.length + 1) cap 9
      have hgm := grownCap_le_maxLen w (xs.length + 1) cap 9 hml
      have hres : ∀ (w' : World) (B : List Value), B.length = grownCap w (xs.length + 1) cap 9 → Blk w' w.heap.size (((xs.map (Value.string)).take i ++ Value.string x :: (xs.map (Value.string)).drop i) ++ B.drop (xs.length + 1)) 9 →
          StrsAt w' base (.slice (some ⟨w.heap.size, 0, none⟩) (xs.length + 1) (grownCap w (xs.length + 1) cap 9)) (xs.take i ++ x :: xs.drop i) := fun w' B hBl hw => by
        rw [← ins_mapS] at hw
        have := strs_of hb hw (by rw [ins_lenS xs x hi]; simp; omega) hgm
        rw [ins_lenS xs x hi] at this; exact this
      by_cases he : i = xs.length
      · subst he
        refine (Any2.slices_Insert_string_end_grow insLayS (some ⟨b, 0, none⟩) xs.length cap vb 0 1 1 (xs.map (Value.string)) [.string x] w (by omega) (by omega) (by omega) hbig hcl rfl (fun e => by cases e) (fun a ha j u hj => by cases ha; have := hcs j u hj; rw [Nat.zero_add] at this; rw [Addr.add_lit, Nat.zero_add]; exact this) (hvs w hvb) h1v).mono ?_
        rintro e w' ⟨rfl, rfl⟩
        simp only [insT9]
        refine ⟨_, rfl, hres _ ((xs.map (Value.string) ++ [Value.string x]) ++ (Builtin.zeroCells (Value.string ⟨#[]⟩).cells (grownCap w (xs.length + 1) cap 9 - (xs.length + 1))).toList) (by simp [Builtin.zeroCells, zcsS]; omega) ?_, ((Upd.refl _ w).drew).alloc _, fun k hk => by right; cases hk; exact Nat.le_refl _⟩
        have e1 : (xs.map (Value.string)).take xs.length = xs.map (Value.string) := List.take_of_length_le (by simp)
        have e2 : (xs.map (Value.string)).drop xs.length = [] := List.drop_eq_nil_of_le (by simp)
        rw [e1, e2, List.drop_append_of_le_length (by simp), List.drop_eq_nil_of_le (by simp), List.nil_append]
        exact Blk.made_eq (w := w.drew) (by simp)
      · refine (Any2.slices_Insert_string_grow insLayS b 0 xs.length cap i vb 0 1 1 (xs.map (Value.string)) [.string x] w (by omega) (by omega) (by omega) (by omega) hbig hcl rfl hcs (hvs w hvb) (one_cellsS xs) h1v).mono ?_
        rintro e w' ⟨rfl, rfl⟩
        simp only [insT9]
        have hu : Upd (fun k => (Value.slice (some ⟨b, 0, none⟩) xs.length cap).ownBlock = some k) w (w.alloc (.cells (((xs.map (Value.string)).take i).toArray ++ Builtin.zeroCells (Value.string ⟨#[]⟩).cells (xs.length + 1 - i) ++ Builtin.zeroCells (Value.string ⟨#[]⟩).cells (grownCap w (xs.length + 1) cap 9 - (xs.length + 1))) 9)) := (Upd.refl _ w).alloc _
        refine ⟨_, rfl, hres _ ((((xs.map (Value.string)).take i).toArray ++ Builtin.zeroCells (Value.string ⟨#[]⟩).cells (xs.length + 1 - i) ++ Builtin.zeroCells (Value.string ⟨#[]⟩).cells (grownCap w (xs.length + 1) cap 9 - (xs.length + 1))).toList) (by simp [Builtin.zeroCells, zcsS]; omega) ?_, ?_, fun k hk => by right; cases hk; exact Nat.le_refl _⟩
        · have hm := Blk.made_eq (w := w) (T := 9) (A := ((xs.map (Value.string)).take i).toArray ++ Builtin.zeroCells (Value.string ⟨#[]⟩).cells (xs.length + 1 - i) ++ Builtin.zeroCells (Value.string ⟨#[]⟩).cells (grownCap w (xs.length + 1) cap 9 - (xs.length + 1))) rfl
          have := ((hm.drew.setCellsL [.string x] i).drew).setCellsL ((xs.map (Value.string)).drop i) (i + 1)
          rw [ins_grow (xs.map (Value.string)) _ _ i (by simpa using hi) (by simp [Builtin.zeroCells, zcsS]; omega) (by simp [List.take_append, List.take_take]; omega)] at this
          rw [hcl] at this
          exact this
        · exact Upd.setCellsL _ _ ((Upd.setCellsL _ _ hu.drew (fun hh => by omega)).drew) (fun hh => by omega)
end Go.Proofs.Ytnlbmplbaalgmaa
