/- slices.Insert of one whole number into a row of the call's own. -/
import Derived.Test.YtmlojbfcmebboaaGreatShelf
import Derived.Test.YtmlojbfcmebboaaGreatK01
import Derived.Shelf.Spec.SlicesInsertGrow
import Derived.Shelf.Spec.SearchS
import Derived.Test.YtmlojbfcmebboaaGreatK02
set_option linter.unusedVariables false
set_option linter.unusedSimpArgs false
namespace Go.Proofs.YtmlojbfcmebboaaGreat
open Go.RowKit

def insRen : Go.Shelf.Ren := ⟨fun | 21 => 95 | 27 => 128 | 28 => 129 | 35 => 165 | 39 => 178 | n => n, fun | 22 => 85 | 3 => 3 | 4 => 4 | 0 => 0 | n => n, fun | n => n⟩
theorem insLay : Lays2.n21 Tryz.prog insRen := {
  mixed := by kernel_rfl
  f21 := Tryz.func95.trans (congrArg some (by kernel_rfl))
  f27 := Tryz.func128.trans (congrArg some (by kernel_rfl))
  f28 := Tryz.func129.trans (congrArg some (by kernel_rfl))
  f35 := Tryz.func165.trans (congrArg some (by kernel_rfl))
  f39 := Tryz.func178.trans (congrArg some (by kernel_rfl))
  t0 := Tryz.underlying0
  a0 := Tryz.isAgg0
  z0 := Tryz.sizeOf0
  v0 := Tryz.zeroValue0
  t3 := Tryz.underlying3
  a3 := Tryz.isAgg3
  z3 := Tryz.sizeOf3
  v3 := Tryz.zeroValue3
  t4 := Tryz.underlying4
  a4 := Tryz.isAgg4
  z4 := Tryz.sizeOf4
  v4 := Tryz.zeroValue4
  t22 := Tryz.underlying85
  a22 := Tryz.isAgg85
  z22 := Tryz.sizeOf85
  v22 := Tryz.zeroValue85
  i3 := by kernel_rfl }

/-- a list with vs from o on -/
def setL (cs : List Value) (o : Nat) : List Value → List Value
  | [] => cs
  | v :: r => setL (cs.set o v) (o + 1) r
theorem setL_eq (vs : List Value) : ∀ (cs : List Value) (o : Nat), o + vs.length ≤ cs.length → setL cs o vs = cs.take o ++ vs ++ cs.drop (o + vs.length) := by
  induction vs with
  | nil => intro cs o h; simp [setL]
  | cons v r ih =>
    intro cs o h
    simp only [List.length_cons] at h
    rw [setL, ih _ _ (by simp; omega)]
    apply List.ext_getElem?
    intro j
    simp only [List.getElem?_append, List.length_append, List.length_take, List.length_set, List.getElem?_take, List.getElem?_drop, List.getElem?_set, List.length_cons, List.getElem?_cons]
    grind
theorem Blk.setCellsL {b : Nat} {T : TypeId} (vs : List Value) : ∀ {cs : List Value} (o : Nat) {w : World}, Blk w b cs T → Blk (w.setCells b o vs) b (setL cs o vs) T := by
  induction vs with
  | nil => intro cs o w h; exact h
  | cons v r ih => intro cs o w h; rw [World.setCells, setL]; exact ih (o + 1) (h.set o v)
theorem Upd.setCellsL {F : Nat → Prop} {a : World} {b : Nat} (vs : List Value) : ∀ (o : Nat) {w : World}, Upd F a w → (b < a.heap.size → F b) → Upd F a (w.setCells b o vs) := by
  induction vs with
  | nil => intro o w h _; exact h
  | cons v r ih => intro o w h hp; rw [World.setCells]; exact ih (o + 1) (h.set hp) hp
theorem Blk.made_eq {w : World} {A : Array Value} {T : TypeId} {l : List Value} (h : l = A.toList) : Blk (w.alloc (.cells A T)) w.heap.size l T := by
  subst h; have := Blk.made w A.toList T; simpa using this
/-- A row of whole numbers, said by its block. -/
theorem ints_blk {w : World} {base : Nat} {v : Value} {xs : List Int} (h : IntsAt w base v xs) : (v = .slice none 0 0 ∧ xs = []) ∨ ∃ b cap cs, v = .slice (some ⟨b, 0, none⟩) xs.length cap ∧ base ≤ b ∧ Blk w b (xs.map (Value.int .i64) ++ cs) 3 ∧ xs.length + cs.length = cap ∧ cap ≤ maxLen := by
  obtain ⟨_, ⟨rfl, e⟩ | ⟨g, cap, cur, rfl, hg, hh, h1, h2, h3, h4⟩⟩ := h
  · exact Or.inl ⟨rfl, List.length_eq_zero_iff.1 e⟩
  · refine Or.inr ⟨g, cap, cur.toList.drop xs.length, rfl, hg, ?_, ?_, h2⟩
    · unfold Blk
      rw [Nat.mul_one] at h4
      rw [← h4, List.take_append_drop]; exact hh
    · simp; omega
theorem ints_of {w : World} {base b cap : Nat} {xs : List Int} {cs : List Value} (hb : base ≤ b) (h : Blk w b (xs.map (Value.int .i64) ++ cs) 3) (hc : xs.length + cs.length = cap) (hm : cap ≤ maxLen) : IntsAt w base (.slice (some ⟨b, 0, none⟩) xs.length cap) xs :=
  ⟨by simp, Or.inr ⟨b, cap, _, rfl, hb, h, by omega, hm, by simp; omega, by simp⟩⟩

theorem ins_shift (A t : List Value) (x : Value) (i : Nat) (hi : i ≤ A.length) (ht : 1 ≤ t.length) : setL (setL (A ++ t) (i + 1) (A.drop i)) i [x] = (A.take i ++ x :: A.drop i) ++ t.drop 1 := by
  rw [setL_eq _ (A ++ t) (i + 1) (by simp; omega), setL_eq _ _ i (by simp; omega)]
  apply List.ext_getElem?
  intro j
  simp only [List.getElem?_append, List.length_append, List.length_take, List.getElem?_take, List.getElem?_drop, List.length_cons, List.getElem?_cons, List.length_drop, List.length_nil]
  grind
theorem ins_end (A t : List Value) (x : Value) (ht : 1 ≤ t.length) : setL (A ++ t) A.length [x] = (A.take A.length ++ x :: A.drop A.length) ++ t.drop 1 := by
  rw [setL_eq _ (A ++ t) _ (by simp; omega)]
  apply List.ext_getElem?
  intro j
  simp only [List.getElem?_append, List.length_append, List.length_take, List.getElem?_take, List.getElem?_drop, List.length_cons, List.getElem?_cons, List.length_drop, List.length_nil]
  grind
theorem ins_grow (A B : List Value) (x : Value) (i : Nat) (hi : i ≤ A.length) (hB : A.length + 1 ≤ B.length) (ht : B.take i = A.take i) : setL (setL B i [x]) (i + 1) (A.drop i) = (A.take i ++ x :: A.drop i) ++ B.drop (A.length + 1) := by
  rw [setL_eq [x] B i (by simp; omega), setL_eq _ _ (i + 1) (by simp; omega), ht]
  apply List.ext_getElem?
  intro j
  simp only [List.getElem?_append, List.length_append, List.length_take, List.getElem?_take, List.getElem?_drop, List.length_cons, List.getElem?_cons, List.length_drop, List.length_nil]
  grind
theorem ins_map (xs : List Int) (x : Int) (i : Nat) : (xs.take i ++ x :: xs.drop i).map (Value.int .i64) = (xs.map (Value.int .i64)).take i ++ Value.int .i64 x :: (xs.map (Value.int .i64)).drop i := by
  simp [List.map_take, List.map_drop]
theorem ins_len (xs : List Int) (x : Int) {i : Nat} (h : i ≤ xs.length) : (xs.take i ++ x :: xs.drop i).length = xs.length + 1 := by simp; omega
theorem one_cells (xs : List Int) : ∀ v ∈ xs.map (Value.int .i64), v.oneCell' = true := fun v hv => by
  obtain ⟨x, _, rfl⟩ := List.mem_map.1 hv; rfl

theorem insT3 : insRen.t 3 = 3 := rfl
theorem zcs : (Value.int .i64 0).cells.size = 1 := rfl
/-- slices.Insert of one number. -/
theorem insert_any (base i vb : Nat) (v : Value) (xs : List Int) (x : Int) (w : World) (h : IntsAt w base v xs) (hi : i ≤ xs.length) (hvb : Blk w vb [.int .i64 x] 3) (hb : base ≤ w.heap.size) (hne : v.ownBlock ≠ some vb) (hl : xs.length ≤ 1000000) :
    Calls Tryz.prog 95 #[v, .int .i64 (i : Int), .slice (some ⟨vb, 0, none⟩) 1 1] w fun e w' => ∃ v', e = .returned v' ∧ IntsAt w' base v' (xs.take i ++ x :: xs.drop i) ∧ Upd (fun k => v.ownBlock = some k) w w' ∧
      (∀ k, v'.ownBlock = some k → v.ownBlock = some k ∨ w.heap.size ≤ k) := by
  have hvs : ∀ (W : World), Blk W vb [.int .i64 x] 3 → ∀ j u, ([Value.int .i64 x] : List Value)[j]? = some u → W.cell? ⟨vb, 0 + j, none⟩ = some u := fun W hW j u hj => by rw [Nat.zero_add]; exact hW.cellAt hj
  have h1v : ∀ u ∈ ([Value.int .i64 x] : List Value), u.oneCell' = true := fun u hu => by simp at hu; subst hu; rfl
  have hml : xs.length + 1 ≤ maxLen := by unfold maxLen; omega
  rcases ints_blk h with ⟨rfl, rfl⟩ | ⟨b, cap, cs, rfl, hbb, hB, hcap, hcm⟩
  · obtain rfl : i = 0 := by simpa using hi
    refine (Any2.slices_Insert_int_end_grow insLay none 0 0 vb 0 1 1 [] [.int .i64 x] w (by omega) (by omega) (by omega) (by omega) rfl rfl (fun _ => rfl) (fun a ha => by cases ha) (hvs w hvb) h1v).mono ?_
    rintro e w' ⟨rfl, rfl⟩
    simp only [insT3]
    refine ⟨_, rfl, ints_of (xs := [x]) (cs := (Builtin.zeroCells (Value.int .i64 0).cells (grownCap w 1 0 3 - 1)).toList) hb ?_ ?_ (grownCap_le_maxLen w 1 0 _ (by unfold maxLen; omega)), ((Upd.refl _ w).drew).alloc _, fun k hk => ?_⟩
    · exact Blk.made_eq (w := w.drew) (by simp)
    · have := grownCap_ge w 1 0 3
      simp [Builtin.zeroCells, zcs]; omega
    · right; cases hk; exact Nat.le_refl _
  · have hbne : vb ≠ b := fun e => hne (by rw [e]; rfl)
    have hc63 : cap ≤ 9223372036854775807 := by unfold maxLen at hcm; omega
    have hcl : (xs.map (Value.int .i64)).length = xs.length := by simp
    have hcs : ∀ j u, (xs.map (Value.int .i64))[j]? = some u → w.cell? ⟨b, 0 + j, none⟩ = some u := fun j u hj => by
      rw [Nat.zero_add]
      refine hB.cellAt ?_
      rw [List.getElem?_append_left (by have := (List.getElem?_eq_some_iff.1 hj).1; exact this)]; exact hj
    by_cases hroom : xs.length + 1 ≤ cap
    · have hsome : ∀ j, j < cap → (w.cell? ⟨b, j, none⟩).isSome = true := fun j hj => by
        rw [hB.cell, List.getElem?_eq_getElem (by simp; omega)]; rfl
      have ht : 1 ≤ cs.length := by omega
      have hfin : (xs.take i ++ x :: xs.drop i).length + (cs.drop 1).length = cap := by rw [ins_len xs x hi]; simp; omega
      have hres : ∀ w', Blk w' b (((xs.map (Value.int .i64)).take i ++ Value.int .i64 x :: (xs.map (Value.int .i64)).drop i) ++ cs.drop 1) 3 → IntsAt w' base (.slice (some ⟨b, 0, none⟩) (xs.length + 1) cap) (xs.take i ++ x :: xs.drop i) := fun w' hw => by
        rw [← ins_map] at hw
        have := ints_of hbb hw hfin hcm
        rw [ins_len xs x hi] at this; exact this
      by_cases he : i = xs.length
      · subst he
        refine (Any2.slices_Insert_int_end_room insLay b 0 xs.length cap vb 0 1 1 [.int .i64 x] w (by omega) hroom hc63 rfl (fun j hj => by rw [show 0 + xs.length + j = xs.length + j by omega]; exact hsome _ (by omega)) (fun j hj => hB.free _) (hvs w hvb) h1v).mono ?_
        rintro e w' ⟨rfl, rfl⟩
        refine ⟨_, rfl, hres _ ?_, Upd.setCellsL _ _ (Upd.refl _ w) (fun _ => rfl), fun k hk => Or.inl hk⟩
        have := hB.setCellsL [.int .i64 x] (0 + xs.length)
        rw [Nat.zero_add] at this
        have e2 := ins_end (xs.map (Value.int .i64)) cs (.int .i64 x) ht
        rw [hcl] at e2
        rw [e2] at this
        rw [Nat.zero_add]; exact this
      · refine (Any2.slices_Insert_int_shift insLay b 0 xs.length cap i vb 0 1 1 (xs.map (Value.int .i64)) [.int .i64 x] w (by omega) (by omega) hroom hc63 hbne hcl rfl hcs (fun j hj => by rw [Nat.zero_add]; exact hsome _ (by omega)) (fun j hj => hB.free _) (hvs w hvb) (one_cells xs) h1v 3 3 1 (xs.map (Value.int .i64) ++ cs).length hvb.shape hB.shape (by rw [List.length_append]; omega) (hvb.free _) (hvb.free _)).mono ?_
        rintro e w' ⟨rfl, rfl⟩
        refine ⟨_, rfl, hres _ ?_, Upd.setCellsL _ _ (Upd.setCellsL _ _ (Upd.refl _ w).drew (fun _ => rfl)) (fun _ => rfl), fun k hk => Or.inl hk⟩
        have := (hB.drew.setCellsL ((xs.map (Value.int .i64)).drop i) (0 + (i + 1))).setCellsL [.int .i64 x] (0 + i)
        rw [Nat.zero_add, Nat.zero_add, ins_shift _ _ _ _ (by simpa using hi) ht] at this
        rw [Nat.zero_add, Nat.zero_add]; exact this
    · have hbig : (xs.length + 1) * 8 ≤ 140737488355328 := by omega
      have hge := grownCap_ge w (xs.length + 1) cap 3
      have hgm := grownCap_le_maxLen w (xs.length + 1) cap 3 hml
      have hres : ∀ (w' : World) (B : List Value), B.length = grownCap w (xs.length + 1) cap 3 → Blk w' w.heap.size (((xs.map (Value.int .i64)).take i ++ Value.int .i64 x :: (xs.map (Value.int .i64)).drop i) ++ B.drop (xs.length + 1)) 3 →
          IntsAt w' base (.slice (some ⟨w.heap.size, 0, none⟩) (xs.length + 1) (grownCap w (xs.length + 1) cap 3)) (xs.take i ++ x :: xs.drop i) := fun w' B hBl hw => by
        rw [← ins_map] at hw
        have := ints_of hb hw (by rw [ins_len xs x hi]; simp; omega) hgm
        rw [ins_len xs x hi] at this; exact this
      by_cases he : i = xs.length
      · subst he
        refine (Any2.slices_Insert_int_end_grow insLay (some ⟨b, 0, none⟩) xs.length cap vb 0 1 1 (xs.map (Value.int .i64)) [.int .i64 x] w (by omega) (by omega) (by omega) hbig hcl rfl (fun e => by cases e) (fun a ha j u hj => by cases ha; have := hcs j u hj; rw [Nat.zero_add] at this; rw [Addr.add_lit, Nat.zero_add]; exact this) (hvs w hvb) h1v).mono ?_
        rintro e w' ⟨rfl, rfl⟩
        simp only [insT3]
        refine ⟨_, rfl, hres _ ((xs.map (Value.int .i64) ++ [Value.int .i64 x]) ++ (Builtin.zeroCells (Value.int .i64 0).cells (grownCap w (xs.length + 1) cap 3 - (xs.length + 1))).toList) (by simp [Builtin.zeroCells, zcs]; omega) ?_, ((Upd.refl _ w).drew).alloc _, fun k hk => by right; cases hk; exact Nat.le_refl _⟩
        have e1 : (xs.map (Value.int .i64)).take xs.length = xs.map (Value.int .i64) := List.take_of_length_le (by simp)
        have e2 : (xs.map (Value.int .i64)).drop xs.length = [] := List.drop_eq_nil_of_le (by simp)
        rw [e1, e2, List.drop_append_of_le_length (by simp), List.drop_eq_nil_of_le (by simp), List.nil_append]
        exact Blk.made_eq (w := w.drew) (by simp)
      · refine (Any2.slices_Insert_int_grow insLay b 0 xs.length cap i vb 0 1 1 (xs.map (Value.int .i64)) [.int .i64 x] w (by omega) (by omega) (by omega) (by omega) hbig hcl rfl hcs (hvs w hvb) (one_cells xs) h1v).mono ?_
        rintro e w' ⟨rfl, rfl⟩
        simp only [insT3]
        have hu : Upd (fun k => (Value.slice (some ⟨b, 0, none⟩) xs.length cap).ownBlock = some k) w (w.alloc (.cells (((xs.map (Value.int .i64)).take i).toArray ++ Builtin.zeroCells (Value.int .i64 0).cells (xs.length + 1 - i) ++ Builtin.zeroCells (Value.int .i64 0).cells (grownCap w (xs.length + 1) cap 3 - (xs.length + 1))) 3)) := (Upd.refl _ w).alloc _
        refine ⟨_, rfl, hres _ ((((xs.map (Value.int .i64)).take i).toArray ++ Builtin.zeroCells (Value.int .i64 0).cells (xs.length + 1 - i) ++ Builtin.zeroCells (Value.int .i64 0).cells (grownCap w (xs.length + 1) cap 3 - (xs.length + 1))).toList) (by simp [Builtin.zeroCells, zcs]; omega) ?_, ?_, fun k hk => by right; cases hk; exact Nat.le_refl _⟩
        · have hm := Blk.made_eq (w := w) (T := 3) (A := ((xs.map (Value.int .i64)).take i).toArray ++ Builtin.zeroCells (Value.int .i64 0).cells (xs.length + 1 - i) ++ Builtin.zeroCells (Value.int .i64 0).cells (grownCap w (xs.length + 1) cap 3 - (xs.length + 1))) rfl
          have := ((hm.drew.setCellsL [.int .i64 x] i).drew).setCellsL ((xs.map (Value.int .i64)).drop i) (i + 1)
          rw [ins_grow (xs.map (Value.int .i64)) _ _ i (by simpa using hi) (by simp [Builtin.zeroCells, zcs]; omega) (by simp [List.take_append, List.take_take]; omega)] at this
          rw [hcl] at this
          exact this
        · exact Upd.setCellsL _ _ ((Upd.setCellsL _ _ hu.drew (fun hh => by omega)).drew) (fun hh => by omega)
end Go.Proofs.YtmlojbfcmebboaaGreat
/- slices.Insert of one text into a row of the call's own; slices.BinarySearch among texts. -/
set_option linter.unusedVariables false
set_option linter.unusedSimpArgs false
namespace Go.Proofs.YtmlojbfcmebboaaGreat
open Go.RowKit

def insRenS : Go.Shelf.Ren := ⟨fun | 22 => 97 | 29 => 132 | 30 => 133 | 36 => 167 | 17 => 179 | n => n, fun | 24 => 30 | 9 => 9 | 3 => 3 | 4 => 4 | 0 => 0 | n => n, fun | n => n⟩
theorem insLayS : Lays2.n22 Tryz.prog insRenS := {
  mixed := by kernel_rfl
  f22 := Tryz.func97.trans (congrArg some (by kernel_rfl))
  f29 := Tryz.func132.trans (congrArg some (by kernel_rfl))
  f30 := Tryz.func133.trans (congrArg some (by kernel_rfl))
  f36 := Tryz.func167.trans (congrArg some (by kernel_rfl))
  f17 := Tryz.func179.trans (congrArg some (by kernel_rfl))
  t0 := Tryz.underlying0
  a0 := Tryz.isAgg0
  z0 := Tryz.sizeOf0
  v0 := Tryz.zeroValue0
  t3 := Tryz.underlying3
  a3 := Tryz.isAgg3
  z3 := Tryz.sizeOf3
  v3 := Tryz.zeroValue3
  t4 := Tryz.underlying4
  a4 := Tryz.isAgg4
  z4 := Tryz.sizeOf4
  v4 := Tryz.zeroValue4
  t9 := Tryz.underlying9
  a9 := Tryz.isAgg9
  z9 := Tryz.sizeOf9
  v9 := Tryz.zeroValue9
  t24 := Tryz.underlying30
  a24 := Tryz.isAgg30
  z24 := Tryz.sizeOf30
  v24 := Tryz.zeroValue30
  i9 := by kernel_rfl }
def bssRen : Go.Shelf.Ren := ⟨fun | 26 => 96 | 33 => 130 | 34 => 131 | 38 => 166 | n => n, fun | 24 => 30 | 9 => 9 | 3 => 3 | 4 => 4 | 40 => 175 | 0 => 0 | n => n, fun | n => n⟩
theorem bssLay : Lays2.n26 Tryz.prog bssRen := {
  mixed := by kernel_rfl
  f26 := Tryz.func96.trans (congrArg some (by kernel_rfl))
  f33 := Tryz.func130.trans (congrArg some (by kernel_rfl))
  f34 := Tryz.func131.trans (congrArg some (by kernel_rfl))
  f38 := Tryz.func166.trans (congrArg some (by kernel_rfl))
  t0 := Tryz.underlying0
  a0 := Tryz.isAgg0
  z0 := Tryz.sizeOf0
  v0 := Tryz.zeroValue0
  t3 := Tryz.underlying3
  a3 := Tryz.isAgg3
  z3 := Tryz.sizeOf3
  v3 := Tryz.zeroValue3
  t4 := Tryz.underlying4
  a4 := Tryz.isAgg4
  z4 := Tryz.sizeOf4
  v4 := Tryz.zeroValue4
  t9 := Tryz.underlying9
  a9 := Tryz.isAgg9
  z9 := Tryz.sizeOf9
  v9 := Tryz.zeroValue9
  t24 := Tryz.underlying30
  a24 := Tryz.isAgg30
  z24 := Tryz.sizeOf30
  v24 := Tryz.zeroValue30
  t40 := Tryz.underlying175
  a40 := Tryz.isAgg175
  z40 := Tryz.sizeOf175
  v40 := Tryz.zeroValue175 }

/-- A row of texts, said by its block. -/
theorem strs_blk {w : World} {base : Nat} {v : Value} {xs : List ByteArray} (h : StrsAt w base v xs) : (v = .slice none 0 0 ∧ xs = []) ∨ ∃ b cap cs, v = .slice (some ⟨b, 0, none⟩) xs.length cap ∧ base ≤ b ∧ Blk w b (xs.map (Value.string) ++ cs) 9 ∧ xs.length + cs.length = cap ∧ cap ≤ maxLen := by
  obtain ⟨_, ⟨rfl, e⟩ | ⟨g, cap, cur, rfl, hg, hh, h1, h2, h3, h4⟩⟩ := h
  · exact Or.inl ⟨rfl, List.length_eq_zero_iff.1 e⟩
  · refine Or.inr ⟨g, cap, cur.toList.drop xs.length, rfl, hg, ?_, ?_, h2⟩
    · unfold Blk
      rw [Nat.mul_one] at h4
      rw [← h4, List.take_append_drop]; exact hh
    · simp; omega
theorem strs_of {w : World} {base b cap : Nat} {xs : List ByteArray} {cs : List Value} (hb : base ≤ b) (h : Blk w b (xs.map (Value.string) ++ cs) 9) (hc : xs.length + cs.length = cap) (hm : cap ≤ maxLen) : StrsAt w base (.slice (some ⟨b, 0, none⟩) xs.length cap) xs :=
  ⟨by simp, Or.inr ⟨b, cap, _, rfl, hb, h, by omega, hm, by simp; omega, by simp⟩⟩

theorem ins_mapS (xs : List ByteArray) (x : ByteArray) (i : Nat) : (xs.take i ++ x :: xs.drop i).map (Value.string) = (xs.map (Value.string)).take i ++ Value.string x :: (xs.map (Value.string)).drop i := by
  simp [List.map_take, List.map_drop]
theorem ins_lenS (xs : List ByteArray) (x : ByteArray) {i : Nat} (h : i ≤ xs.length) : (xs.take i ++ x :: xs.drop i).length = xs.length + 1 := by simp; omega
theorem one_cellsS (xs : List ByteArray) : ∀ v ∈ xs.map (Value.string), v.oneCell' = true := fun v hv => by
  obtain ⟨x, _, rfl⟩ := List.mem_map.1 hv; rfl

theorem insT9 : insRenS.t 9 = 9 := rfl
theorem zcsS : (Value.string ⟨#[]⟩).cells.size = 1 := rfl
/-- slices.Insert of one text. -/
theorem insertS_any (base i vb : Nat) (v : Value) (xs : List ByteArray) (x : ByteArray) (w : World) (h : StrsAt w base v xs) (hi : i ≤ xs.length) (hvb : Blk w vb [.string x] 9) (hb : base ≤ w.heap.size) (hne : v.ownBlock ≠ some vb) (hl : xs.length ≤ 1000000) :
    Calls Tryz.prog 97 #[v, .int .i64 (i : Int), .slice (some ⟨vb, 0, none⟩) 1 1] w fun e w' => ∃ v', e = .returned v' ∧ StrsAt w' base v' (xs.take i ++ x :: xs.drop i) ∧ Upd (fun k => v.ownBlock = some k) w w' ∧
      (∀ k, v'.ownBlock = some k → v.ownBlock = some k ∨ w.heap.size ≤ k) := by
  have hvs : ∀ (W : World), Blk W vb [.string x] 9 → ∀ j u, ([Value.string x] : List Value)[j]? = some u → W.cell? ⟨vb, 0 + j, none⟩ = some u := fun W hW j u hj => by rw [Nat.zero_add]; exact hW.cellAt hj
  have h1v : ∀ u ∈ ([Value.string x] : List Value), u.oneCell' = true := fun u hu => by simp at hu; subst hu; rfl
  have hml : xs.length + 1 ≤ maxLen := by unfold maxLen; omega
  rcases strs_blk h with ⟨rfl, rfl⟩ | ⟨b, cap, cs, rfl, hbb, hB, hcap, hcm⟩
  · obtain rfl : i = 0 := by simpa using hi
    refine (Any2.slices_Insert_string_end_grow insLayS none 0 0 vb 0 1 1 [] [.string x] w (by omega) (by omega) (by omega) (by omega) rfl rfl (fun _ => rfl) (fun a ha => by cases ha) (hvs w hvb) h1v).mono ?_
    rintro e w' ⟨rfl, rfl⟩
    simp only [insT9]
    refine ⟨_, rfl, strs_of (xs := [x]) (cs := (Builtin.zeroCells (Value.string ⟨#[]⟩).cells (grownCap w 1 0 9 - 1)).toList) hb ?_ ?_ (grownCap_le_maxLen w 1 0 _ (by unfold maxLen; omega)), ((Upd.refl _ w).drew).alloc _, fun k hk => ?_⟩
    · exact Blk.made_eq (w := w.drew) (by simp)
    · have := grownCap_ge w 1 0 9
      simp [Builtin.zeroCells, zcsS]; omega
    · right; cases hk; exact Nat.le_refl _
  · have hbne : vb ≠ b := fun e => hne (by rw [e]; rfl)
    have hc63 : cap ≤ 9223372036854775807 := by unfold maxLen at hcm; omega
    have hcl : (xs.map (Value.string)).length = xs.length := by simp
    have hcs : ∀ j u, (xs.map (Value.string))[j]? = some u → w.cell? ⟨b, 0 + j, none⟩ = some u := fun j u hj => by
      rw [Nat.zero_add]
      refine hB.cellAt ?_
      rw [List.getElem?_append_left (by have := (List.getElem?_eq_some_iff.1 hj).1; exact this)]; exact hj
    by_cases hroom : xs.length + 1 ≤ cap
    · have hsome : ∀ j, j < cap → (w.cell? ⟨b, j, none⟩).isSome = true := fun j hj => by
        rw [hB.cell, List.getElem?_eq_getElem (by simp; omega)]; rfl
      have ht : 1 ≤ cs.length := by omega
      have hfin : (xs.take i ++ x :: xs.drop i).length + (cs.drop 1).length = cap := by rw [ins_lenS xs x hi]; simp; omega
      have hres : ∀ w', Blk w' b (((xs.map (Value.string)).take i ++ Value.string x :: (xs.map (Value.string)).drop i) ++ cs.drop 1) 9 → StrsAt w' base (.slice (some ⟨b, 0, none⟩) (xs.length + 1) cap) (xs.take i ++ x :: xs.drop i) := fun w' hw => by
        rw [← ins_mapS] at hw
        have := strs_of hbb hw hfin hcm
        rw [ins_lenS xs x hi] at this; exact this
      by_cases he : i = xs.length
      · subst he
        refine (Any2.slices_Insert_string_end_room insLayS b 0 xs.length cap vb 0 1 1 [.string x] w (by omega) hroom hc63 rfl (fun j hj => by rw [show 0 + xs.length + j = xs.length + j by omega]; exact hsome _ (by omega)) (fun j hj => hB.free _) (hvs w hvb) h1v).mono ?_
        rintro e w' ⟨rfl, rfl⟩
        refine ⟨_, rfl, hres _ ?_, Upd.setCellsL _ _ (Upd.refl _ w) (fun _ => rfl), fun k hk => Or.inl hk⟩
        have := hB.setCellsL [.string x] (0 + xs.length)
        rw [Nat.zero_add] at this
        have e2 := ins_end (xs.map (Value.string)) cs (.string x) ht
        rw [hcl] at e2
        rw [e2] at this
        rw [Nat.zero_add]; exact this
      · refine (Any2.slices_Insert_string_shift insLayS b 0 xs.length cap i vb 0 1 1 (xs.map (Value.string)) [.string x] w (by omega) (by omega) hroom hc63 hbne hcl rfl hcs (fun j hj => by rw [Nat.zero_add]; exact hsome _ (by omega)) (fun j hj => hB.free _) (hvs w hvb) (one_cellsS xs) h1v 9 9 1 (xs.map (Value.string) ++ cs).length hvb.shape hB.shape (by rw [List.length_append]; omega) (hvb.free _) (hvb.free _)).mono ?_
        rintro e w' ⟨rfl, rfl⟩
        refine ⟨_, rfl, hres _ ?_, Upd.setCellsL _ _ (Upd.setCellsL _ _ (Upd.refl _ w).drew (fun _ => rfl)) (fun _ => rfl), fun k hk => Or.inl hk⟩
        have := (hB.drew.setCellsL ((xs.map (Value.string)).drop i) (0 + (i + 1))).setCellsL [.string x] (0 + i)
        rw [Nat.zero_add, Nat.zero_add, ins_shift _ _ _ _ (by simpa using hi) ht] at this
        rw [Nat.zero_add, Nat.zero_add]; exact this
    · have hbig : (xs.length + 1) * 16 ≤ 140737488355328 := by omega
      have hge := grownCap_ge w (xs.length + 1) cap 9
      have hgm := grownCap_le_maxLen w (xs.length + 1) cap 9 hml
      have hres : ∀ (w' : World) (B : List Value), B.length = grownCap w (xs.length + 1) cap 9 → Blk w' w.heap.size (((xs.map (Value.string)).take i ++ Value.string x :: (xs.map (Value.string)).drop i) ++ B.drop (xs.length + 1)) 9 →
          StrsAt w' base (.slice (some ⟨w.heap.size, 0, none⟩) (xs.length + 1) (grownCap w (xs.length + 1) cap 9)) (xs.take i ++ x :: xs.drop i) := fun w' B hBl hw => by
        rw [← ins_mapS] at hw
        have := strs_of hb hw (by rw [ins_lenS xs x hi]; simp; omega) hgm
        rw [ins_lenS xs x hi] at this; exact this
      by_cases he : i = xs.length
      · subst he
        refine (Any2.slices_Insert_string_end_grow insLayS (some ⟨b, 0, none⟩) xs.length cap vb 0 1 1 (xs.map (Value.string)) [.string x] w (by omega) (by omega) (by omega) hbig hcl rfl (fun e => by cases e) (fun a ha j u hj => by cases ha; have := hcs j u hj; rw [Nat.zero_add] at this; rw [Addr.add_lit, Nat.zero_add]; exact this) (hvs w hvb) h1v).mono ?_
        rintro e w' ⟨rfl, rfl⟩
        simp only [insT9]
        refine ⟨_, rfl, hres _ ((xs.map (Value.string) ++ [Value.string x]) ++ (Builtin.zeroCells (Value.string ⟨#[]⟩).cells (grownCap w (xs.length + 1) cap 9 - (xs.length + 1))).toList) (by simp [Builtin.zeroCells, zcsS]; omega) ?_, ((Upd.refl _ w).drew).alloc _, fun k hk => by right; cases hk; exact Nat.le_refl _⟩
        have e1 : (xs.map (Value.string)).take xs.length = xs.map (Value.string) := List.take_of_length_le (by simp)
        have e2 : (xs.map (Value.string)).drop xs.length = [] := List.drop_eq_nil_of_le (by simp)
        rw [e1, e2, List.drop_append_of_le_length (by simp), List.drop_eq_nil_of_le (by simp), List.nil_append]
        exact Blk.made_eq (w := w.drew) (by simp)
      · refine (Any2.slices_Insert_string_grow insLayS b 0 xs.length cap i vb 0 1 1 (xs.map (Value.string)) [.string x] w (by omega) (by omega) (by omega) (by omega) hbig hcl rfl hcs (hvs w hvb) (one_cellsS xs) h1v).mono ?_
        rintro e w' ⟨rfl, rfl⟩
        simp only [insT9]
        have hu : Upd (fun k => (Value.slice (some ⟨b, 0, none⟩) xs.length cap).ownBlock = some k) w (w.alloc (.cells (((xs.map (Value.string)).take i).toArray ++ Builtin.zeroCells (Value.string ⟨#[]⟩).cells (xs.length + 1 - i) ++ Builtin.zeroCells (Value.string ⟨#[]⟩).cells (grownCap w (xs.length + 1) cap 9 - (xs.length + 1))) 9)) := (Upd.refl _ w).alloc _
        refine ⟨_, rfl, hres _ ((((xs.map (Value.string)).take i).toArray ++ Builtin.zeroCells (Value.string ⟨#[]⟩).cells (xs.length + 1 - i) ++ Builtin.zeroCells (Value.string ⟨#[]⟩).cells (grownCap w (xs.length + 1) cap 9 - (xs.length + 1))).toList) (by simp [Builtin.zeroCells, zcsS]; omega) ?_, ?_, fun k hk => by right; cases hk; exact Nat.le_refl _⟩
        · have hm := Blk.made_eq (w := w) (T := 9) (A := ((xs.map (Value.string)).take i).toArray ++ Builtin.zeroCells (Value.string ⟨#[]⟩).cells (xs.length + 1 - i) ++ Builtin.zeroCells (Value.string ⟨#[]⟩).cells (grownCap w (xs.length + 1) cap 9 - (xs.length + 1))) rfl
          have := ((hm.drew.setCellsL [.string x] i).drew).setCellsL ((xs.map (Value.string)).drop i) (i + 1)
          rw [ins_grow (xs.map (Value.string)) _ _ i (by simpa using hi) (by simp [Builtin.zeroCells, zcsS]; omega) (by simp [List.take_append, List.take_take]; omega)] at this
          rw [hcl] at this
          exact this
        · exact Upd.setCellsL _ _ ((Upd.setCellsL _ _ hu.drew (fun hh => by omega)).drew) (fun hh => by omega)
end Go.Proofs.YtmlojbfcmebboaaGreat
/- Maps keyed by whole numbers; the block of a row of whole numbers. -/
set_option linter.unusedVariables false
set_option linter.unusedSimpArgs false
namespace Go.Proofs.YtmlojbfcmebboaaGreat
open Go.RowKit

theorem keyI : KeyOk Tryz.prog 3 intEnc := intKey Tryz.underlying3
theorem ints_block {w : World} {base b : Nat} {v : Value} {xs : List Int} (h : IntsAt w base v xs) (hv : v.ownBlock = some b) : base ≤ b ∧ b < w.heap.size ∧ ∃ cs, w.heap[b]? = some (.cells cs 3 (0, 0)) := by
  obtain ⟨_, ⟨rfl, e⟩ | ⟨g, cap, cur, rfl, hg, hh, _⟩⟩ := h
  · cases hv
  · cases hv; exact ⟨hg, (Array.getElem?_eq_some_iff.1 hh).1, _, hh⟩
end Go.Proofs.YtmlojbfcmebboaaGreat
