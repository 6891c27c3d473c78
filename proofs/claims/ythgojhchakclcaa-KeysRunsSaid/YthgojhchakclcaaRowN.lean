/- Rows of structs of k cells each, of the call's own: read, append, store. -/
import Derived.Test.YthgojhchakclcaaAppW
import Derived.Test.YthgojhchakclcaaRowOf
import Derived.Deep.Upon
set_option linter.unusedVariables false
set_option linter.unusedSimpArgs false
namespace Go.Proofs.Ythgojhchakclcaa
open Go.RowKit

section
variable {α : Type} {f : α → List Value} {k : Nat} {w w' : World} {base : Nat} {e : TypeId} {v : Value} {l : List α}
/-- v is a slice of the call's own, from block base on, that holds l, each thing by its k cells. -/
def OwnN (f : α → List Value) (k : Nat) (e : TypeId) (w : World) (base : Nat) (v : Value) (l : List α) : Prop := w.ownsRow base e k v l.length (flat f l)
theorem OwnN.keep {F : Nat → Prop} (h : OwnN f k e w base v l) (u : Upd F w w') (hd : ∀ b, v.ownBlock = some b → ¬ F b) : OwnN f k e w' base v l := own_keep h u hd
theorem OwnN.keep0 (h : OwnN f k e w base v l) (u : Upd (fun _ => False) w w') : OwnN f k e w' base v l := own_keep h u (fun _ _ h => h)
theorem OwnN.mono {b2 : Nat} (h : OwnN f k e w base v l) (hb : b2 ≤ base) : OwnN f k e w b2 v l := by
  refine ⟨h.1, h.2.imp id ?_⟩
  rintro ⟨g, cap, cur, a, b, c⟩
  exact ⟨g, cap, cur, a, Nat.le_trans hb b, c⟩
theorem OwnN.blk (h : OwnN f k e w base v l) : (v = .slice none 0 0 ∧ l = []) ∨ ∃ b cap cs, v = .slice (some ⟨b, 0, none⟩) l.length cap ∧ base ≤ b ∧ Blk w b (flat f l ++ cs) e ∧ l.length * k + cs.length = cap * k ∧ cap ≤ maxLen ∧ l.length ≤ cap := by
  obtain ⟨h0, ⟨rfl, e0⟩ | ⟨g, cap, cur, rfl, hg, hh, h1, h2, h3, h4⟩⟩ := h
  · exact Or.inl ⟨rfl, List.length_eq_zero_iff.1 e0⟩
  · refine Or.inr ⟨g, cap, cur.toList.drop (l.length * k), rfl, hg, ?_, ?_, h2, h1⟩
    · unfold Blk
      rw [← h4, List.take_append_drop]; exact hh
    · have : l.length * k ≤ cap * k := Nat.mul_le_mul_right _ h1
      simp; omega
theorem OwnN.lt (h : OwnN f k e w base v l) {b : Nat} (hb : v.ownBlock = some b) : base ≤ b ∧ b < w.heap.size ∧ ∃ cs, Blk w b cs e := by
  rcases h.blk with ⟨rfl, _⟩ | ⟨g, cap, cs, rfl, hg, hB, _⟩
  · cases hb
  · cases hb; exact ⟨hg, hB.lt, _, hB⟩
theorem OwnN.slice (h : OwnN f k e w base v l) : ∃ p c, v = .slice p l.length c ∧ l.length ≤ maxLen ∧ l.length ≤ c := by
  rcases h.blk with ⟨rfl, rfl⟩ | ⟨g, cap, cs, rfl, hg, hB, _, h1, h2⟩
  · exact ⟨_, _, rfl, by unfold maxLen; simp, by simp⟩
  · exact ⟨_, _, rfl, by omega, h2⟩
theorem OwnN.row (h : OwnN f k e w base v l) (hf : ∀ a, (f a).length = k) : RowOf f k w v l := by
  rcases h.blk with ⟨rfl, rfl⟩ | ⟨g, cap, cs, rfl, hg, hB, _, h1, h2⟩
  · exact Or.inl ⟨none, 0, rfl, rfl⟩
  · refine Or.inr ⟨g, 0, cap, rfl, hB.lt, by omega, fun i a hi j hj => ?_⟩
    have hil : i < l.length := (List.getElem?_eq_some_iff.1 hi).1
    have hlt : i * k + j < l.length * k := by
      have : (i + 1) * k ≤ l.length * k := Nat.mul_le_mul_right _ hil
      rw [Nat.add_mul] at this; omega
    rw [Nat.zero_add, hB.cell, List.getElem?_append_left (by rw [flat_length f k hf]; exact hlt), flat_get f k hf l i j hj, hi]; rfl
theorem OwnN.none : OwnN f k e w base (.slice none 0 0) ([] : List α) := ⟨by simp [flat], Or.inl ⟨rfl, rfl⟩⟩
theorem OwnN.ofBlk {b cap : Nat} {cs : List Value} (hb : base ≤ b) (hf : ∀ a, (f a).length = k) (h : Blk w b (flat f l ++ cs) e) (hc : l.length * k + cs.length = cap * k) (hm : cap ≤ maxLen) (hle : l.length ≤ cap) : OwnN f k e w base (.slice (some ⟨b, 0, Option.none⟩) l.length cap) l := by
  have hl := flat_length f k hf l
  exact ⟨hl, Or.inr ⟨b, cap, _, rfl, hb, h, hle, hm, by simp; omega, by rw [← hl]; simp⟩⟩
/-- An empty row, made. -/
theorem OwnN.made (w : World) (e : TypeId) : OwnN f k e (w.alloc (.cells #[] e)) w.heap.size (.slice (some ⟨w.heap.size, 0, Option.none⟩) 0 0) ([] : List α) :=
  ⟨by simp [flat], Or.inr ⟨w.heap.size, 0, _, rfl, Nat.le_refl _, by
    have := Blk.made w [] e; exact this, Nat.le_refl _, by unfold maxLen; omega, by simp, by simp [flat]⟩⟩
/-- A thing's cells in a block of their own: a row of one. -/
theorem RowOf.lit (w : World) (a : α) (cs : List Value) (e : TypeId) (hcs : f a = cs) (hk : cs.length = k) : RowOf f k (w.alloc (.cells cs.toArray e)) (.slice (some ⟨w.heap.size, 0, Option.none⟩) 1 1) [a] := by
  refine Or.inr ⟨w.heap.size, 0, 1, rfl, by simp, by unfold maxLen; simp, fun i x hi j hj => ?_⟩
  cases i with
  | zero =>
    simp at hi; subst hi
    rw [Nat.zero_mul, Nat.zero_add, Nat.zero_add, (Blk.made w cs e).cell, hcs]
  | succ i => simp at hi
/-- A cell of a thing is written. -/
theorem OwnN.set {g n c i j : Nat} {a b : α} {x : Value} (h : OwnN f k e w base (.slice (some ⟨g, 0, Option.none⟩) n c) l) (hf : ∀ a, (f a).length = k) (hj : j < k) (ha : l[i]? = some a) (hb : f b = (f a).set j x) :
    OwnN f k e (w.setCell ⟨g, i * k + j, Option.none⟩ x) base (.slice (some ⟨g, 0, Option.none⟩) n c) (l.set i b) := by
  rcases h.blk with ⟨e1, _⟩ | ⟨g', cap, cs, e1, hg, hB, h1, h2, h3⟩
  · cases e1
  · injection e1 with e1 e2 e3
    injection e1 with e1; injection e1 with e1
    subst e1 e3
    have hil : i < l.length := (List.getElem?_eq_some_iff.1 ha).1
    have hlt : i * k + j < l.length * k := by
      have : (i + 1) * k ≤ l.length * k := Nat.mul_le_mul_right _ hil
      rw [Nat.add_mul] at this; omega
    have hs := hB.set (i * k + j) x
    rw [List.set_append_left _ _ (by rw [flat_length f k hf]; exact hlt), flat_set f k hf l i j hj a b x ha hb] at hs
    have := OwnN.ofBlk (base := base) (cap := c) (l := l.set i b) hg hf hs (by rw [List.length_set]; exact h1) h2 (by rw [List.length_set]; exact h3)
    rw [List.length_set] at this
    rw [e2]; exact this
theorem OwnN.cell {g n c : Nat} (h : OwnN f k e w base (.slice (some ⟨g, 0, Option.none⟩) n c) l) (hf : ∀ a, (f a).length = k) {i j : Nat} {a : α} (hj : j < k) (ha : l[i]? = some a) : w.cell? ⟨g, i * k + j, Option.none⟩ = (f a)[j]? := by
  rcases h.row hf with ⟨_, _, _, e1⟩ | ⟨b, off, cap, e1, _, _, hc⟩
  · subst e1; simp at ha
  · have h0 := h.blk
    rcases h0 with ⟨e2, _⟩ | ⟨g', cap', cs, e2, hg, hB, h1, h2, h3⟩
    · cases e2
    · injection e2 with e2 e3 e4
      injection e2 with e2; injection e2 with e2
      subst e2
      have hil : i < l.length := (List.getElem?_eq_some_iff.1 ha).1
      have hlt : i * k + j < l.length * k := by
        have : (i + 1) * k ≤ l.length * k := Nat.mul_le_mul_right _ hil
        rw [Nat.add_mul] at this; omega
      rw [hB.cell, List.getElem?_append_left (by rw [flat_length f k hf]; exact hlt), flat_get f k hf l i j hj, ha]; rfl
/-- append(v, v2...): v of the call's own, v2 any row. -/
theorem OwnN.append {P : Program} {v2 : Value} {l2 : List α} (t ty : TypeId) (i : TypeInfo) (z : Value) (bytes : Nat) (ht : P.underlying t = some (.slice e)) (hi : P.info? e = some i) (hz : i.zero = some z)
    (hsize : i.size = k) (hby : i.bytes = bytes) (hzs : z.cells.size = k) (hk : 0 < k) (hf : ∀ a, (f a).length = k) (h1 : ∀ a ∈ l2, ∀ u ∈ f a, u.oneCell' = true)
    (h : OwnN f k e w base v l) (h2 : RowOf f k w v2 l2) (h63 : l.length + l2.length ≤ maxLen) (hbytes : (l.length + l2.length) * bytes ≤ 140737488355328) (hb : base ≤ w.heap.size) :
    ∃ v' w', (Builtin.append_ #[t, t] ty #[v, v2]).run P w = .ok v' w' ∧ OwnN f k e w' base v' (l ++ l2) ∧ Upd (fun b => v.ownBlock = some b) w w' ∧ NewOr v v' w := by
  have hfl := flat_length f k hf l2
  have e2 : flat f (l ++ l2) = flat f l ++ flat f l2 := by simp [flat]
  have ho : ∀ u ∈ flat f l2, u.oneCell' = true := by
    intro u hu
    unfold flat at hu
    obtain ⟨m, hml, hm⟩ := List.mem_flatMap.1 hu
    exact h1 m hml u hm
  by_cases h0 : l2 = []
  · subst h0
    obtain ⟨p, cp, rfl, _, hle⟩ := h.slice
    obtain ⟨a, c, rfl⟩ : ∃ a c, v2 = .slice a 0 c := by
      rcases h2 with ⟨a, c, e, _⟩ | ⟨b, off, cap, e, _⟩
      · exact ⟨_, _, e⟩
      · exact ⟨_, _, e⟩
    have hs : Src P i.size t (.slice a 0 c) 0 [] w := by
      cases a with
      | none => exact Src.ofNil w ht c
      | some a => exact Src.ofSlice w ht a 0 c [] (by simp) (fun j u h => by simp at h) (fun u h => by cases h)
    refine ⟨_, _, run_append_nothing (P := P) w t t ty e i ht hi p l.length cp hle _ hs, by simpa using h, Upd.refl _ _, fun k hk => Or.inl hk⟩
  · obtain ⟨b, off, c, rfl, hb2, _, hc⟩ : ∃ b off cap, v2 = .slice (some ⟨b, off, Option.none⟩) l2.length cap ∧ b < w.heap.size ∧ l2.length ≤ maxLen ∧ ∀ i a, l2[i]? = some a → ∀ j, j < k → w.cell? ⟨b, off + (i * k + j), Option.none⟩ = (f a)[j]? := by
      rcases h2 with ⟨_, _, _, e⟩ | h2
      · exact absurd e h0
      · exact h2
    have hn : ∀ j u, (flat f l2)[j]? = some u → w.cell? ((⟨b, off, Option.none⟩ : Addr).add j) = some u := by
      intro j u hj
      have hjl := (List.getElem?_eq_some_iff.1 hj).1
      rw [hfl] at hjl
      have hi : j / k < l2.length := (Nat.div_lt_iff_lt_mul hk).2 hjl
      have hmod := Nat.mod_lt j hk
      have h1 := hc (j / k) l2[j / k] (List.getElem?_eq_getElem hi) (j % k) hmod
      have h3 := flat_get f k hf l2 (j / k) (j % k) hmod
      have ej : j / k * k + j % k = j := Nat.div_add_mod' j k
      rw [ej] at h1 h3
      rw [hj, List.getElem?_eq_getElem hi] at h3
      have e : (⟨b, off, Option.none⟩ : Addr).add j = ⟨b, off + j, Option.none⟩ := by simp [Addr.add]
      rw [e, h1]; exact h3.symm
    have hpos := List.length_pos_iff.2 h0
    obtain ⟨v', w', hr, q2, q3, _⟩ := run_append_own (P := P) w base t ty e i z k bytes ht hi hz hsize hby hzs hk v l.length _ h ⟨b, off, Option.none⟩ l2.length c _ hfl hn ho h63 hbytes hb
    have hw := run_append_where (P := P) w base t ty e i z k bytes ht hi hz hsize hby v l.length _ h ⟨b, off, Option.none⟩ l2.length c _ hfl hn ho hpos h63 hbytes v' w' hr
    refine ⟨v', w', hr, ?_, (Upd.of_grown q3).weaken (fun k _ hk => hk.symm), hw⟩
    unfold OwnN
    rw [e2, List.length_append]; exact q2
end
/-- A step of a region that draws its order: append. -/
theorem step_builtinN {P : Program} {ops : Array Oper} {o : Oper} {a : Act} {w w' : World} {K : Act → World → Prop} {Q : Exit → Act → World → Prop} {E : Prop} {v' : Value} (hg : o.guard = none) (s x : Operand) (t : TypeId)
    (ho : o.op = .call { callee := .builtin .append, args := #[s, x], argTypes := #[t, t] }) (u y : Value) (hs : a.eval s = u) (hx : a.eval x = y)
    (hr : (Builtin.append_ #[t, t] o.type #[u, y]).run P w = .ok v' w') (hK : K (a.put o.dst v') w') :
    if Region.wanted o (yielded ops a.tmps) = true then Oper.wp P o a w K Q else E := by
  have hw : Region.wanted o (yielded ops a.tmps) = true := by simp [Region.wanted, hg]
  rw [if_pos hw]
  unfold Oper.wp execOp
  subst hs hx
  simp only [ho, resolve, invoke, builtin, Sem.run_bind, Sem.run_pure, Result.andThen_ok, List.map_toArray, List.map_cons, List.map_nil, hr]
  exact hK
theorem wpList_builtinN {P : Program} {ops : Array Oper} {rest : List Oper} {o : Oper} {a : Act} {w w' : World} {Q : Exit → Act → World → Prop} {v' : Value} (hg : o.guard = none) (s x : Operand) (t : TypeId)
    (ho : o.op = .call { callee := .builtin .append, args := #[s, x], argTypes := #[t, t] }) (u y : Value) (hs : a.eval s = u) (hx : a.eval x = y)
    (hr : (Builtin.append_ #[t, t] o.type #[u, y]).run P w = .ok v' w') (hK : wpList P ops Q rest (a.put o.dst v') w') : wpList P ops Q (o :: rest) a w :=
  wpList_plain hg fun K hK' => by
    unfold Oper.wp execOp
    subst hs hx
    simp only [ho, resolve, invoke, builtin, Sem.run_bind, Sem.run_pure, Result.andThen_ok, List.map_toArray, List.map_cons, List.map_nil, hr]
    exact hK' _ _ hK
theorem info_parts {o : Option TypeInfo} {x : Option Value × Nat × Nat} (h : o.map (fun i => (i.zero, i.size, i.bytes)) = some x) : ∃ i, o = some i ∧ i.zero = x.1 ∧ i.size = x.2.1 ∧ i.bytes = x.2.2 := by
  cases o with
  | none => cases h
  | some i => simp only [Option.map_some, Option.some.injEq] at h; subst h; exact ⟨i, rfl, rfl, rfl, rfl⟩
end Go.Proofs.Ythgojhchakclcaa
