/- Rows of the call's own: texts, numbers. -/
import Derived.Test.YtkemjjhmabemiaaDoorChecked
import Derived.Test.YtkemjjhmabemiaaDoorK02
import Derived.Laws.AppendOwn
import Derived.Deep.Upon
import Derived.IntWalk
import Derived.Deep.RegionHeld3
import Derived.Deep.QuietTactic
import Derived.BigQuiet
import Derived.Laws.BytesArg
import Derived.Lib.ConvBytes
import Derived.Lib.BufferRead
import Derived.Lib.Bytes
set_option linter.unusedVariables false
set_option linter.unusedSimpArgs false
namespace Go.Proofs.YtkemjjhmabemiaaDoor
open Go.RowKit

/-- v is a slice of texts of the call's own, from block base on. -/
def StrsAt (w : World) (base : Nat) (v : Value) (l : List ByteArray) : Prop := w.ownsRow base 9 1 v l.length (l.map Value.string)
/-- v is a slice of whole numbers of the call's own, from block base on. -/
def IntsAt (w : World) (base : Nat) (v : Value) (l : List Int) : Prop := w.ownsRow base 3 1 v l.length (l.map (Value.int .i64))
theorem string_info : (Tryd.prog.info? 9).map (fun i => (i.zero, i.size, i.bytes)) = some (some (.string ByteArray.empty), 1, 16) := by kernel_rfl
theorem int_info : (Tryd.prog.info? 3).map (fun i => (i.zero, i.size, i.bytes)) = some (some (.int .i64 0), 1, 8) := by kernel_rfl

theorem own_mono {w : World} {base base' : Nat} {e : TypeId} {size n : Nat} {v : Value} {xs : List Value} (h : w.ownsRow base e size v n xs) (hb : base' ≤ base) : w.ownsRow base' e size v n xs := by
  obtain ⟨h1, h2⟩ := h
  refine ⟨h1, ?_⟩
  rcases h2 with h2 | ⟨g, cap, cur, hv, hg, r⟩
  · exact Or.inl h2
  · exact Or.inr ⟨g, cap, cur, hv, Nat.le_trans hb hg, r⟩
theorem own_slice {w : World} {base n : Nat} {e : TypeId} {size : Nat} {v : Value} {xs : List Value} (h : w.ownsRow base e size v n xs) : ∃ p c, v = .slice p n c ∧ n ≤ maxLen := by
  obtain ⟨_, ⟨rfl, rfl⟩ | ⟨g, cap, cur, rfl, _, _, h1, h2, _⟩⟩ := h
  · exact ⟨_, _, rfl, by unfold maxLen; omega⟩
  · exact ⟨_, _, rfl, by omega⟩
section
variable {F : Nat → Prop} {w w' : World} {base : Nat} {v : Value}
theorem StrsAt.keep {l : List ByteArray} (h : StrsAt w base v l) (u : Upd F w w') (hd : ∀ k, v.ownBlock = some k → ¬ F k) : StrsAt w' base v l := own_keep h u hd
theorem IntsAt.keep {l : List Int} (h : IntsAt w base v l) (u : Upd F w w') (hd : ∀ k, v.ownBlock = some k → ¬ F k) : IntsAt w' base v l := own_keep h u hd
end
end Go.Proofs.YtkemjjhmabemiaaDoor
/- Append to a row of the call's own: where the longer row lies. -/
set_option linter.unusedVariables false
set_option linter.unusedSimpArgs false
namespace Go.Proofs.YtkemjjhmabemiaaDoor
open Go.RowKit

/-- Rows that lie where the old one lay, or in a new block. -/
def NewOr (v v' : Value) (w : World) : Prop := ∀ k, v'.ownBlock = some k → v.ownBlock = some k ∨ w.heap.size ≤ k
theorem run_append_where {P : Program} (w : World) (base : Nat) (t ty e : TypeId) (i : TypeInfo) (z : Value) (size bytes : Nat) (ht : P.underlying t = some (.slice e)) (hi : P.info? e = some i) (hz : i.zero = some z)
    (hsize : i.size = size) (hby : i.bytes = bytes) (v : Value) (n : Nat) (xs : List Value) (hown : w.ownsRow base e size v n xs)
    (a : Addr) (m c : Nat) (news : List Value) (hl : news.length = m * size) (hnews : ∀ j u, news[j]? = some u → w.cell? (a.add j) = some u) (h1 : ∀ u ∈ news, u.oneCell' = true) (hm : 0 < m)
    (h63 : n + m ≤ maxLen) (hbytes : (n + m) * bytes ≤ 140737488355328) :
    ∀ v' w', (Builtin.append_ #[t, t] ty #[v, .slice (some a) m c]).run P w = .ok v' w' → NewOr v v' w := by
  intro v' w' hr k hk
  subst hsize hby
  have h64 : n + m ≤ 9223372036854775807 := by simp only [maxLen] at h63; omega
  have hn := hown.1
  rcases hown.2 with ⟨rfl, rfl⟩ | ⟨g, cap, cur, rfl, _, hg, hnc, hcm, hcs, _⟩
  · have := run_append_nil (P := P) (ty := ty) w t e i z ht hi hz a m c news hl hnews hm (by omega) (by simp only [Nat.zero_add] at hbytes; omega)
    rw [this] at hr
    injection hr with e1 e2
    subst e1; cases hk; exact Or.inr (Nat.le_refl _)
  · by_cases hroom : n + m ≤ cap
    · have := run_append_room (P := P) (ty := ty) w t e i ht hi g n cap cur hg a m c news hl hnews h1 hroom (by rw [hl, hcs, ← Nat.add_mul]; exact Nat.mul_le_mul_right _ hroom)
      rw [this] at hr
      injection hr with e1 e2
      subst e1; exact Or.inl hk
    · have := run_append_grow (P := P) (ty := ty) w t e i z ht hi hz ⟨g, 0, none⟩ n cap xs hn (hown.cells (g := g) rfl) a m c news hl hnews (by omega) (by omega) (growslice_fits (by omega) hbytes)
      rw [this] at hr
      injection hr with e1 e2
      subst e1; cases hk; exact Or.inr (Nat.le_refl _)
theorem wpList_append_where {P : Program} {ops : Array Oper} {rest : List Oper} {o : Oper} {a : Act} {Q : Exit → Act → World → Prop} (w : World) (hgd : o.guard = none) (s x : Operand) (t : TypeId)
    (ho : o.op = .call { callee := .builtin .append, args := #[s, x], argTypes := #[t, t] })
    (base : Nat) (e : TypeId) (i : TypeInfo) (z : Value) (size bytes : Nat) (ht : P.underlying t = some (.slice e)) (hi : P.info? e = some i) (hz : i.zero = some z)
    (hsize : i.size = size) (hby : i.bytes = bytes) (hzs : z.cells.size = size) (hsz : 0 < size)
    (v : Value) (n : Nat) (xs : List Value) (hs : a.eval s = v) (hown : w.ownsRow base e size v n xs)
    (ad : Addr) (m c : Nat) (news : List Value) (hx : a.eval x = .slice (some ad) m c) (hl : news.length = m * size) (hnews : ∀ j u, news[j]? = some u → w.cell? (ad.add j) = some u) (h1 : ∀ u ∈ news, u.oneCell' = true)
    (h63 : n + m ≤ maxLen) (hbytes : (n + m) * bytes ≤ 140737488355328) (hbase : base ≤ w.heap.size) (hm : 0 < m)
    (h : ∀ v' w', w'.ownsRow base e size v' (n + m) (xs ++ news) → Upd (fun k => v.ownBlock = some k) w w' → NewOr v v' w → wpList P ops Q rest (a.put o.dst v') w') : wpList P ops Q (o :: rest) a w :=
  wpList_plain hgd fun K hK => by
    obtain ⟨v', w', hr, h2, h3, _⟩ := run_append_own (P := P) w base t o.type e i z size bytes ht hi hz hsize hby hzs hsz v n xs hown ad m c news hl hnews h1 h63 hbytes hbase
    have hw := run_append_where (P := P) w base t o.type e i z size bytes ht hi hz hsize hby v n xs hown ad m c news hl hnews h1 hm h63 hbytes v' w' hr
    unfold Oper.wp execOp
    simp only [ho, resolve, invoke, builtin, Sem.run_bind, Sem.run_pure, Result.andThen_ok, List.map_toArray, List.map_cons, List.map_nil, hs, hx, hr]
    exact hK _ _ (h v' w' h2 ((Upd.of_grown h3).weaken (fun k _ hk => hk.symm)) hw)
end Go.Proofs.YtkemjjhmabemiaaDoor
/- A slice of things of k cells each, that is only read. -/
set_option linter.unusedVariables false
set_option linter.unusedSimpArgs false
namespace Go.Proofs.YtkemjjhmabemiaaDoor
open Go.RowKit

/-- v is a slice that reads as l, each thing by its k cells. -/
def RowOf {α : Type} (f : α → List Value) (k : Nat) (w : World) (v : Value) (l : List α) : Prop :=
  (∃ p cap, v = .slice p 0 cap ∧ l = []) ∨
  ∃ b off cap, v = .slice (some ⟨b, off, none⟩) l.length cap ∧ b < w.heap.size ∧ l.length ≤ maxLen ∧ ∀ i a, l[i]? = some a → ∀ j, j < k → w.cell? ⟨b, off + (i * k + j), none⟩ = (f a)[j]?

theorem RowOf.keep {α : Type} {f : α → List Value} {k : Nat} {w w' : World} {v : Value} {l : List α} (h : RowOf f k w v l) {F : Nat → Prop} (u : Upd F w w') (hd : ∀ b, b < w.heap.size → v.ownBlock = some b → ¬ F b) : RowOf f k w' v l := by
  rcases h with h | ⟨b, off, cap, rfl, hb, hl, hc⟩
  · exact Or.inl h
  · refine Or.inr ⟨b, off, cap, rfl, Nat.lt_of_lt_of_le hb u.size, hl, fun i a hi j hj => ?_⟩
    rw [u.cell (p := ⟨b, off + (i * k + j), none⟩) hb (hd b hb rfl)]
    exact hc i a hi j hj
theorem RowOf.len {α : Type} {f : α → List Value} {k : Nat} {w : World} {v : Value} {l : List α} (h : RowOf f k w v l) : ∃ p cap, v = .slice p l.length cap ∧ l.length ≤ maxLen := by
  rcases h with ⟨p, cap, rfl, rfl⟩ | ⟨b, off, cap, rfl, _, hl, _⟩
  · exact ⟨p, cap, rfl, by unfold maxLen; simp⟩
  · exact ⟨_, cap, rfl, hl⟩

def strc (s : ByteArray) : List Value := [.string s]
end Go.Proofs.YtkemjjhmabemiaaDoor
/- Rows of structs of k cells each, of the call's own: read, append, store. -/
set_option linter.unusedVariables false
set_option linter.unusedSimpArgs false
namespace Go.Proofs.YtkemjjhmabemiaaDoor
open Go.RowKit

section
variable {α : Type} {f : α → List Value} {k : Nat} {w w' : World} {base : Nat} {e : TypeId} {v : Value} {l : List α}
/-- v is a slice of the call's own, from block base on, that holds l, each thing by its k cells. -/
def OwnN (f : α → List Value) (k : Nat) (e : TypeId) (w : World) (base : Nat) (v : Value) (l : List α) : Prop := w.ownsRow base e k v l.length (flat f l)
theorem OwnN.keep {F : Nat → Prop} (h : OwnN f k e w base v l) (u : Upd F w w') (hd : ∀ b, v.ownBlock = some b → ¬ F b) : OwnN f k e w' base v l := own_keep h u hd
theorem OwnN.keep0 (h : OwnN f k e w base v l) (u : Upd (fun _ => False) w w') : OwnN f k e w' base v l := own_keep h u (fun _ _ h => h)
theorem OwnN.mono {b2 : Nat} (h : OwnN f k e w base v l) (hb : b2 ≤ base) : OwnN f k e w b2 v l := by
  refine ⟨h.1, h.2.imp id ?_⟩
  rintro ⟨g, cap, cur, a, b, c⟩
  exact ⟨g, cap, cur, a, Nat.le_trans hb b, c⟩
theorem OwnN.blk (h : OwnN f k e w base v l) : (v = .slice none 0 0 ∧ l = []) ∨ ∃ b cap cs, v = .slice (some ⟨b, 0, none⟩) l.length cap ∧ base ≤ b ∧ Blk w b (flat f l ++ cs) e ∧ l.length * k + cs.length = cap * k ∧ cap ≤ maxLen ∧ l.length ≤ cap := by
  obtain ⟨h0, ⟨rfl, e0⟩ | ⟨g, cap, cur, rfl, hg, hh, h1, h2, h3, h4⟩⟩ := h
  · exact Or.inl ⟨rfl, List.length_eq_zero_iff.1 e0⟩
  · refine Or.inr ⟨g, cap, cur.toList.drop (l.length * k), rfl, hg, ?_, ?_, h2, h1⟩
    · unfold Blk
      rw [← h4, List.take_append_drop]; exact hh
    · have : l.length * k ≤ cap * k := Nat.mul_le_mul_right _ h1
      simp; omega
theorem OwnN.lt (h : OwnN f k e w base v l) {b : Nat} (hb : v.ownBlock = some b) : base ≤ b ∧ b < w.heap.size ∧ ∃ cs, Blk w b cs e := by
  rcases h.blk with ⟨rfl, _⟩ | ⟨g, cap, cs, rfl, hg, hB, _⟩
  · cases hb
  · cases hb; exact ⟨hg, hB.lt, _, hB⟩
theorem OwnN.slice (h : OwnN f k e w base v l) : ∃ p c, v = .slice p l.length c ∧ l.length ≤ maxLen ∧ l.length ≤ c := by
  rcases h.blk with ⟨rfl, rfl⟩ | ⟨g, cap, cs, rfl, hg, hB, _, h1, h2⟩
  · exact ⟨_, _, rfl, by unfold maxLen; simp, by simp⟩
  · exact ⟨_, _, rfl, by omega, h2⟩
theorem OwnN.row (h : OwnN f k e w base v l) (hf : ∀ a, (f a).length = k) : RowOf f k w v l := by
  rcases h.blk with ⟨rfl, rfl⟩ | ⟨g, cap, cs, rfl, hg, hB, _, h1, h2⟩
  · exact Or.inl ⟨none, 0, rfl, rfl⟩
  · refine Or.inr ⟨g, 0, cap, rfl, hB.lt, by omega, fun i a hi j hj => ?_⟩
    have hil : i < l.length := (List.getElem?_eq_some_iff.1 hi).1
    have hlt : i * k + j < l.length * k := by
      have : (i + 1) * k ≤ l.length * k := Nat.mul_le_mul_right _ hil
      rw [Nat.add_mul] at this; omega
    rw [Nat.zero_add, hB.cell, List.getElem?_append_left (by rw [flat_length f k hf]; exact hlt), flat_get f k hf l i j hj, hi]; rfl
theorem OwnN.none : OwnN f k e w base (.slice none 0 0) ([] : List α) := ⟨by simp [flat], Or.inl ⟨rfl, rfl⟩⟩
theorem OwnN.ofBlk {b cap : Nat} {cs : List Value} (hb : base ≤ b) (hf : ∀ a, (f a).length = k) (h : Blk w b (flat f l ++ cs) e) (hc : l.length * k + cs.length = cap * k) (hm : cap ≤ maxLen) (hle : l.length ≤ cap) : OwnN f k e w base (.slice (some ⟨b, 0, Option.none⟩) l.length cap) l := by
  have hl := flat_length f k hf l
  exact ⟨hl, Or.inr ⟨b, cap, _, rfl, hb, h, hle, hm, by simp; omega, by rw [← hl]; simp⟩⟩
/-- An empty row, made. -/
theorem OwnN.made (w : World) (e : TypeId) : OwnN f k e (w.alloc (.cells #[] e)) w.heap.size (.slice (some ⟨w.heap.size, 0, Option.none⟩) 0 0) ([] : List α) :=
  ⟨by simp [flat], Or.inr ⟨w.heap.size, 0, _, rfl, Nat.le_refl _, by
    have := Blk.made w [] e; exact this, Nat.le_refl _, by unfold maxLen; omega, by simp, by simp [flat]⟩⟩
/-- A thing's cells in a block of their own: a row of one. -/
theorem RowOf.lit (w : World) (a : α) (cs : List Value) (e : TypeId) (hcs : f a = cs) (hk : cs.length = k) : RowOf f k (w.alloc (.cells cs.toArray e)) (.slice (some ⟨w.heap.size, 0, Option.none⟩) 1 1) [a] := by
  refine Or.inr ⟨w.heap.size, 0, 1, rfl, by simp, by unfold maxLen; simp, fun i x hi j hj => ?_⟩
  cases i with
  | zero =>
    simp at hi; subst hi
    rw [Nat.zero_mul, Nat.zero_add, Nat.zero_add, (Blk.made w cs e).cell, hcs]
  | succ i => simp at hi
/-- A cell of a thing is written. -/
theorem OwnN.set {g n c i j : Nat} {a b : α} {x : Value} (h : OwnN f k e w base (.slice (some ⟨g, 0, Option.none⟩) n c) l) (hf : ∀ a, (f a).length = k) (hj : j < k) (ha : l[i]? = some a) (hb : f b = (f a).set j x) :
    OwnN f k e (w.setCell ⟨g, i * k + j, Option.none⟩ x) base (.slice (some ⟨g, 0, Option.none⟩) n c) (l.set i b) := by
  rcases h.blk with ⟨e1, _⟩ | ⟨g', cap, cs, e1, hg, hB, h1, h2, h3⟩
  · cases e1
  · injection e1 with e1 e2 e3
    injection e1 with e1; injection e1 with e1
    subst e1 e3
    have hil : i < l.length := (List.getElem?_eq_some_iff.1 ha).1
    have hlt : i * k + j < l.length * k := by
      have : (i + 1) * k ≤ l.length * k := Nat.mul_le_mul_right _ hil
      rw [Nat.add_mul] at this; omega
    have hs := hB.set (i * k + j) x
    rw [List.set_append_left _ _ (by rw [flat_length f k hf]; exact hlt), flat_set f k hf l i j hj a b x ha hb] at hs
    have := OwnN.ofBlk (base := base) (cap := c) (l := l.set i b) hg hf hs (by rw [List.length_set]; exact h1) h2 (by rw [List.length_set]; exact h3)
    rw [List.length_set] at this
    rw [e2]; exact this
theorem OwnN.cell {g n c : Nat} (h : OwnN f k e w base (.slice (some ⟨g, 0, Option.none⟩) n c) l) (hf : ∀ a, (f a).length = k) {i j : Nat} {a : α} (hj : j < k) (ha : l[i]? = some a) : w.cell? ⟨g, i * k + j, Option.none⟩ = (f a)[j]? := by
  rcases h.row hf with ⟨_, _, _, e1⟩ | ⟨b, off, cap, e1, _, _, hc⟩
  · subst e1; simp at ha
  · have h0 := h.blk
    rcases h0 with ⟨e2, _⟩ | ⟨g', cap', cs, e2, hg, hB, h1, h2, h3⟩
    · cases e2
    · injection e2 with e2 e3 e4
      injection e2 with e2; injection e2 with e2
      subst e2
      have hil : i < l.length := (List.getElem?_eq_some_iff.1 ha).1
      have hlt : i * k + j < l.length * k := by
        have : (i + 1) * k ≤ l.length * k := Nat.mul_le_mul_right _ hil
        rw [Nat.add_mul] at this; omega
      rw [hB.cell, List.getElem?_append_left (by rw [flat_length f k hf]; exact hlt), flat_get f k hf l i j hj, ha]; rfl
/-- append(v, v2...): v of the call's own, v2 any row. -/
theorem OwnN.append {P : Program} {v2 : Value} {l2 : List α} (t ty : TypeId) (i : TypeInfo) (z : Value) (bytes : Nat) (ht : P.underlying t = some (.slice e)) (hi : P.info? e = some i) (hz : i.zero = some z)
    (hsize : i.size = k) (hby : i.bytes = bytes) (hzs : z.cells.size = k) (hk : 0 < k) (hf : ∀ a, (f a).length = k) (h1 : ∀ a ∈ l2, ∀ u ∈ f a, u.oneCell' = true)
    (h : OwnN f k e w base v l) (h2 : RowOf f k w v2 l2) (h63 : l.length + l2.length ≤ maxLen) (hbytes : (l.length + l2.length) * bytes ≤ 140737488355328) (hb : base ≤ w.heap.size) :
    ∃ v' w', (Builtin.append_ #[t, t] ty #[v, v2]).run P w = .ok v' w' ∧ OwnN f k e w' base v' (l ++ l2) ∧ Upd (fun b => v.ownBlock = some b) w w' ∧ NewOr v v' w := by
  have hfl := flat_length f k hf l2
  have e2 : flat f (l ++ l2) = flat f l ++ flat f l2 := by simp [flat]
  have ho : ∀ u ∈ flat f l2, u.oneCell' = true := by
    intro u hu
    unfold flat at hu
    obtain ⟨m, hml, hm⟩ := List.mem_flatMap.1 hu
    exact h1 m hml u hm
  by_cases h0 : l2 = []
  · subst h0
    obtain ⟨p, cp, rfl, _, hle⟩ := h.slice
    obtain ⟨a, c, rfl⟩ : ∃ a c, v2 = .slice a 0 c := by
      rcases h2 with ⟨a, c, e, _⟩ | ⟨b, off, cap, e, _⟩
      · exact ⟨_, _, e⟩
      · exact ⟨_, _, e⟩
    have hs : Src P i.size t (.slice a 0 c) 0 [] w := by
      cases a with
      | none => exact Src.ofNil w ht c
      | some a => exact Src.ofSlice w ht a 0 c [] (by simp) (fun j u h => by simp at h) (fun u h => by cases h)
    refine ⟨_, _, run_append_nothing (P := P) w t t ty e i ht hi p l.length cp hle _ hs, by simpa using h, Upd.refl _ _, fun k hk => Or.inl hk⟩
  · obtain ⟨b, off, c, rfl, hb2, _, hc⟩ : ∃ b off cap, v2 = .slice (some ⟨b, off, Option.none⟩) l2.length cap ∧ b < w.heap.size ∧ l2.length ≤ maxLen ∧ ∀ i a, l2[i]? = some a → ∀ j, j < k → w.cell? ⟨b, off + (i * k + j), Option.none⟩ = (f a)[j]? := by
      rcases h2 with ⟨_, _, _, e⟩ | h2
      · exact absurd e h0
      · exact h2
    have hn : ∀ j u, (flat f l2)[j]? = some u → w.cell? ((⟨b, off, Option.none⟩ : Addr).add j) = some u := by
      intro j u hj
      have hjl := (List.getElem?_eq_some_iff.1 hj).1
      rw [hfl] at hjl
      have hi : j / k < l2.length := (Nat.div_lt_iff_lt_mul hk).2 hjl
      have hmod := Nat.mod_lt j hk
      have h1 := hc (j / k) l2[j / k] (List.getElem?_eq_getElem hi) (j % k) hmod
      have h3 := flat_get f k hf l2 (j / k) (j % k) hmod
      have ej : j / k * k + j % k = j := Nat.div_add_mod' j k
      rw [ej] at h1 h3
      rw [hj, List.getElem?_eq_getElem hi] at h3
      have e : (⟨b, off, Option.none⟩ : Addr).add j = ⟨b, off + j, Option.none⟩ := by simp [Addr.add]
      rw [e, h1]; exact h3.symm
    have hpos := List.length_pos_iff.2 h0
    obtain ⟨v', w', hr, q2, q3, _⟩ := run_append_own (P := P) w base t ty e i z k bytes ht hi hz hsize hby hzs hk v l.length _ h ⟨b, off, Option.none⟩ l2.length c _ hfl hn ho h63 hbytes hb
    have hw := run_append_where (P := P) w base t ty e i z k bytes ht hi hz hsize hby v l.length _ h ⟨b, off, Option.none⟩ l2.length c _ hfl hn ho hpos h63 hbytes v' w' hr
    refine ⟨v', w', hr, ?_, (Upd.of_grown q3).weaken (fun k _ hk => hk.symm), hw⟩
    unfold OwnN
    rw [e2, List.length_append]; exact q2
end
/-- A step of a region that draws its order: append. -/
theorem step_builtinN {P : Program} {ops : Array Oper} {o : Oper} {a : Act} {w w' : World} {K : Act → World → Prop} {Q : Exit → Act → World → Prop} {E : Prop} {v' : Value} (hg : o.guard = none) (s x : Operand) (t : TypeId)
    (ho : o.op = .call { callee := .builtin .append, args := #[s, x], argTypes := #[t, t] }) (u y : Value) (hs : a.eval s = u) (hx : a.eval x = y)
    (hr : (Builtin.append_ #[t, t] o.type #[u, y]).run P w = .ok v' w') (hK : K (a.put o.dst v') w') :
    if Region.wanted o (yielded ops a.tmps) = true then Oper.wp P o a w K Q else E := by
  have hw : Region.wanted o (yielded ops a.tmps) = true := by simp [Region.wanted, hg]
  rw [if_pos hw]
  unfold Oper.wp execOp
  subst hs hx
  simp only [ho, resolve, invoke, builtin, Sem.run_bind, Sem.run_pure, Result.andThen_ok, List.map_toArray, List.map_cons, List.map_nil, hr]
  exact hK
theorem wpList_builtinN {P : Program} {ops : Array Oper} {rest : List Oper} {o : Oper} {a : Act} {w w' : World} {Q : Exit → Act → World → Prop} {v' : Value} (hg : o.guard = none) (s x : Operand) (t : TypeId)
    (ho : o.op = .call { callee := .builtin .append, args := #[s, x], argTypes := #[t, t] }) (u y : Value) (hs : a.eval s = u) (hx : a.eval x = y)
    (hr : (Builtin.append_ #[t, t] o.type #[u, y]).run P w = .ok v' w') (hK : wpList P ops Q rest (a.put o.dst v') w') : wpList P ops Q (o :: rest) a w :=
  wpList_plain hg fun K hK' => by
    unfold Oper.wp execOp
    subst hs hx
    simp only [ho, resolve, invoke, builtin, Sem.run_bind, Sem.run_pure, Result.andThen_ok, List.map_toArray, List.map_cons, List.map_nil, hr]
    exact hK' _ _ hK
theorem info_parts {o : Option TypeInfo} {x : Option Value × Nat × Nat} (h : o.map (fun i => (i.zero, i.size, i.bytes)) = some x) : ∃ i, o = some i ∧ i.zero = x.1 ∧ i.size = x.2.1 ∧ i.bytes = x.2.2 := by
  cases o with
  | none => cases h
  | some i => simp only [Option.map_some, Option.some.injEq] at h; subst h; exact ⟨i, rfl, rfl, rfl, rfl⟩
end Go.Proofs.YtkemjjhmabemiaaDoor
/- Bytes in memory, and texts: what every walk of this chapter needs. -/
set_option linter.unusedVariables false
set_option linter.unusedSimpArgs false
namespace Go.Proofs.YtkemjjhmabemiaaDoor
open Go.RowKit
open Lin (Txt)

def ofL (l : Txt) : ByteArray := ⟨l.toArray⟩
theorem ofL_toList (l : Txt) : (ofL l).toList = l := by rw [ByteArray.toList_eq]; unfold ofL; simp
theorem ofL_data (l : Txt) : (ofL l).data.toList = l := rfl
theorem ofL_of (b : ByteArray) : ofL b.toList = b := by rw [ByteArray.toList_eq]; unfold ofL; cases b; simp
theorem ofL_size (l : Txt) : (ofL l).size = l.length := by unfold ofL; simp [ByteArray.size]
theorem ofL_inj {a b : Txt} (h : ofL a = ofL b) : a = b := by rw [← ofL_toList a, ← ofL_toList b, h]
theorem ofL_app (a b : Txt) : ofL (a ++ b) = ofL a ++ ofL b := by
  unfold ofL
  rw [ByteArray.ext_iff]; simp
theorem beq_txt (a b : Txt) : ((ofL a).toList == (ofL b).toList) = decide (a = b) := by
  rw [ofL_toList, ofL_toList]
  by_cases h : a = b
  · rw [h]; simp
  · rw [decide_eq_false h, beq_eq_false_iff_ne]; exact h
theorem ofL_extract (a : Txt) (i j : Nat) : (ofL a).extract i j = ofL ((a.take j).drop i) := by
  rw [← ofL_of ((ofL a).extract i j)]
  congr 1
  rw [ByteArray.toList_eq]
  show ((ofL a).extract i j).data.toList = _
  rw [ByteArray.data_extract]
  unfold ofL
  simp [Array.toList_extract, List.drop_take]
theorem u8eq (c : UInt8) (k : Nat) (hk : k < 256) : ((c.toNat : Int) == (k : Int)) = decide (c = UInt8.ofNat k) := by
  by_cases h : c = UInt8.ofNat k
  · subst h; simp; omega
  · rw [decide_eq_false h, beq_eq_false_iff_ne]
    intro e
    apply h
    have : c.toNat = k := by omega
    rw [← this]; simp
theorem u8beq (c d : UInt8) : ((c.toNat : Int) == (d.toNat : Int)) = decide (c = d) := by
  by_cases h : c = d
  · subst h; simp
  · rw [decide_eq_false h, beq_eq_false_iff_ne]
    intro e
    exact h (UInt8.toNat_inj.1 (by omega))
theorem run_at (a : Txt) (k : Nat) (x : UInt8) (h : a[k]? = some x) (w : World) : (Instr.index 9 (.string (ofL a)) (.int .i64 (k : Int))).run Tryd.prog w = .ok (.int .u8 (x.toNat : Int)) w := by
  obtain ⟨hk, e⟩ := List.getElem?_eq_some_iff.1 h
  have hs : (0 : Int) ≤ (k : Int) ∧ (k : Int) < ((ofL a).size : Int) := ⟨by omega, by rw [ofL_size]; omega⟩
  rw [run_index_string w _ _ _ _ Tryd.underlying9, dif_pos hs]
  subst e
  rfl
theorem run_atI (a : Txt) (i : Int) (k : Nat) (x : UInt8) (e : i = (k : Int)) (h : a[k]? = some x) (w : World) : (Instr.index 9 (.string (ofL a)) (.int .i64 i)).run Tryd.prog w = .ok (.int .u8 (x.toNat : Int)) w := by
  subst e; exact run_at a k x h w
theorem run_take (a : Txt) (k : Int) (h0 : 0 ≤ k) (h1 : k ≤ (a.length : Int)) (w : World) : (Instr.slice 9 (.string (ofL a)) none (some (.int .i64 k)) none).run Tryd.prog w = .ok (.string (ofL (a.take k.toNat))) w := by
  have h2 : k ≤ ((ofL a).size : Int) := by rw [ofL_size]; exact h1
  simp [Instr.slice, run_underlying Tryd.underlying9, Instr.sliceBounds, run_sliceBound, h0, h2, ofL_extract]
theorem run_drop (a : Txt) (k : Int) (h0 : 0 ≤ k) (h1 : k ≤ (a.length : Int)) (w : World) : (Instr.slice 9 (.string (ofL a)) (some (.int .i64 k)) none none).run Tryd.prog w = .ok (.string (ofL (a.drop k.toNat))) w := by
  have hs := ofL_size a
  have h2 : k ≤ ((ofL a).size : Int) := by rw [hs]; exact h1
  simp [Instr.slice, run_underlying Tryd.underlying9, Instr.sliceBounds, run_sliceBound, h0, h1, h2, ofL_extract, hs]

/-- A byte's cell. -/
def byc (c : UInt8) : Value := .int .u8 (c.toNat : Int)
/-- The slice p, l.length, cap reads as the bytes l. -/
def BAt (w : World) (p : Option Addr) (cap : Nat) (l : Txt) : Prop :=
  (l.length ≤ cap ∧ (p = none → cap = 0)) ∧ cap ≤ maxLen ∧ (l = [] ∨ ∃ g o, p = some ⟨g, o, none⟩ ∧ g < w.heap.size ∧ ∀ (i : Nat) (c : UInt8), l[i]? = some c → w.cell? ⟨g, o + i, none⟩ = some (byc c))
theorem BAt.le {w : World} {p : Option Addr} {cap : Nat} {l : Txt} (h : BAt w p cap l) : l.length ≤ cap ∧ cap ≤ maxLen := ⟨h.1.1, h.2.1⟩
theorem BAt.at {w : World} {p : Option Addr} {cap : Nat} {l : Txt} (h : BAt w p cap l) (h0 : l ≠ []) : ∃ g o, p = some ⟨g, o, none⟩ ∧ g < w.heap.size ∧ ∀ (i : Nat) (c : UInt8), l[i]? = some c → w.cell? ⟨g, o + i, none⟩ = some (byc c) := by
  rcases h.2.2 with h | h
  · exact absurd h h0
  · exact h
theorem BAt.keep {w w' : World} {p : Option Addr} {cap : Nat} {l : Txt} (h : BAt w p cap l) {F : Nat → Prop} (u : Upd F w w') (hd : ∀ g o, p = some ⟨g, o, none⟩ → ¬ F g) : BAt w' p cap l := by
  refine ⟨h.1, h.2.1, ?_⟩
  rcases h.2.2 with h | ⟨g, o, rfl, hg, hc⟩
  · exact Or.inl h
  · exact Or.inr ⟨g, o, rfl, Nat.lt_of_lt_of_le hg u.size, fun i c hi => by rw [u.cell (p := ⟨g, o + i, none⟩) hg (hd g o rfl)]; exact hc i c hi⟩
theorem BAt.keep0 {w w' : World} {p : Option Addr} {cap : Nat} {l : Txt} (h : BAt w p cap l) (u : Upd (fun _ => False) w w') : BAt w' p cap l := h.keep u (fun _ _ _ => id)
theorem BAt.nil (w : World) : BAt w none 0 [] := ⟨⟨by simp, fun _ => rfl⟩, by unfold maxLen; simp, Or.inl rfl⟩
/-- As the shelf's contracts have it. -/
def nums (l : Txt) : List Int := l.map fun c => (c.toNat : Int)
theorem nums_length (l : Txt) : (nums l).length = l.length := by unfold nums; simp
theorem nums_bytes (l : Txt) : Lib.bytesOf (nums l) = l := by
  unfold Lib.bytesOf nums
  rw [List.map_map]
  conv => rhs; rw [← List.map_id l]
  apply List.map_congr_left
  intro c _
  simp
theorem nums_at (l : Txt) (i : Nat) (h : i < l.length) : (nums l).getD i 0 = ((l[i]).toNat : Int) := by
  unfold nums
  rw [List.getD_eq_getElem?_getD, List.getElem?_map, List.getElem?_eq_getElem h]; rfl
theorem nums_str (l : Txt) : strOfNums (nums l) = ofL l := by
  unfold strOfNums ofL
  have := nums_bytes l
  unfold Lib.bytesOf at this
  rw [this]
theorem BAt.cells {w : World} {g o cap : Nat} {l : Txt} (h : ∀ (i : Nat) (c : UInt8), l[i]? = some c → w.cell? ⟨g, o + i, none⟩ = some (byc c)) : ∀ i, i < l.length → w.cell? ⟨g, o + i, none⟩ = some (.int .u8 ((nums l).getD i 0)) := fun i hi => by
  rw [nums_at l i hi]; exact h i _ (List.getElem?_eq_getElem hi)
/-- Such a slice as a text. -/
theorem BAt.str {w : World} {p : Option Addr} {cap : Nat} {l : Txt} (h : BAt w p cap l) : (convert 27 9 (.slice p l.length cap)).run Tryd.prog w = .ok (.string (ofL l)) w := by
  rcases h.2.2 with rfl | ⟨g, o, rfl, hg, hc⟩
  · rw [run_convert_bytes_string w _ _ _ _ _ _ Tryd.underlying27 Tryd.underlying5 Tryd.underlying9]
    cases p with
    | none => simp [Conv.bytesToString]; rfl
    | some a =>
      have := run_bytesToString (P := Tryd.prog) w a 0 cap [] (by
        have := run_loadCells_list (P := Tryd.prog) w a [] (fun j v hj => by simp at hj)
        simpa using this)
      rw [List.length_nil, this]; rfl
  · have := run_convert_bytes_arg (P := Tryd.prog) w 27 5 Tryd.underlying27 Tryd.underlying5 g o l.length cap (nums l) (nums_length l) (BAt.cells (cap := cap) hc) 9 Tryd.underlying9
    rw [this, nums_str]
theorem bytes_elem : Tryd.prog.elem 27 = 5 := by kernel_rfl
theorem sizeU8 (w : World) : (Go.sizeOf 5).run Tryd.prog w = .ok 1 w := Tryd.sizeOf5 w
/-- A slice from k on. -/
theorem BAt.drop {w : World} {p : Option Addr} {cap : Nat} {l : Txt} (h : BAt w p cap l) (k : Nat) (hk : k ≤ l.length) :
    ∃ p' c', (∀ w', (Instr.slice 27 (.slice p l.length cap) (some (.int .i64 (k : Int))) none none).run Tryd.prog w' = .ok (.slice p' (l.drop k).length c') w') ∧ BAt w p' c' (l.drop k) ∧ ∀ g o, p' = some ⟨g, o, none⟩ → ∃ a, p = some a ∧ a.block = g := by
  have h1 := h.1.1
  have h2 := h.2.1
  refine ⟨if cap = k then p else p.map (·.add (k * 1)), cap - k, fun w' => ?_, ⟨⟨by rw [List.length_drop]; omega, fun e => by
    split at e
    · omega
    · cases p with
      | none => have := h.1.2 rfl; omega
      | some a => simp at e⟩, by omega, ?_⟩, ?_⟩
  · rw [run_slice_l (P := Tryd.prog) w' 27 p l.length cap (by rw [bytes_elem]; exact Tryd.underlying27) .i64 (k : Int) (by omega) (by omega), bytes_elem, sizeU8]
    simp only [Result.andThen, sliced, Int.toNat_natCast, List.length_drop]
  · by_cases he : l.drop k = []
    · exact Or.inl he
    · right
      have hlt : k < l.length := by
        rcases Nat.lt_or_ge k l.length with h | h
        · exact h
        · exact absurd (List.drop_eq_nil_of_le h) he
      obtain ⟨g, o, rfl, hg, hc⟩ := h.at (by rintro rfl; simp at hlt)
      rw [if_neg (by omega)]
      refine ⟨g, o + k, ?_, hg, fun i c hi => ?_⟩
      · simp [Addr.add]
      · rw [List.getElem?_drop] at hi
        rw [Nat.add_assoc]; exact hc _ _ hi
  · intro g o e
    split at e
    · exact ⟨_, e, rfl⟩
    · cases p with
      | none => cases e
      | some a =>
        refine ⟨a, rfl, ?_⟩
        simp only [Option.map_some, Option.some.injEq] at e
        have := congrArg Addr.block e
        refine Eq.trans ?_ this
        unfold Addr.add
        split <;> rfl
/-- The first k of a slice. -/
theorem BAt.take {w : World} {p : Option Addr} {cap : Nat} {l : Txt} (h : BAt w p cap l) (k : Nat) : BAt w p cap (l.take k) := by
  have h1 := h.1.1
  have h2 := h.2.1
  refine ⟨⟨by rw [List.length_take]; omega, h.1.2⟩, h2, ?_⟩
  by_cases he : l.take k = []
  · exact Or.inl he
  · right
    obtain ⟨g, o, rfl, hg, hc⟩ := h.at (by rintro rfl; simp at he)
    refine ⟨g, o, rfl, hg, fun i c hi => ?_⟩
    rw [List.getElem?_take] at hi
    split at hi
    · exact hc _ _ hi
    · cases hi
theorem BAt.run_take {w : World} {p : Option Addr} {cap : Nat} {l : Txt} (h : BAt w p cap l) (k n : Nat) (hk : k ≤ cap) (w' : World) : (Instr.slice 27 (.slice p n cap) none (some (.int .i64 (k : Int))) none).run Tryd.prog w' = .ok (.slice p k cap) w' := by
  rw [run_slice_h (P := Tryd.prog) w' 27 p n cap (by rw [bytes_elem]; exact Tryd.underlying27) .i64 (k : Int) (by omega) (by omega), bytes_elem, sizeU8]
  simp only [Result.andThen, sliced, Int.toNat_natCast, Nat.sub_zero]
  congr 2
  split
  · rfl
  · cases p with
    | none => rfl
    | some a => simp [Addr.add]
/-- Rows of bytes, of texts, of the call's own. -/
def bcs (c : UInt8) : List Value := [byc c]
def tcs (t : Txt) : List Value := [.string (ofL t)]
abbrev BytesO (w : World) (base : Nat) (v : Value) (l : Txt) : Prop := OwnN bcs 1 5 w base v l
abbrev TxtsO (w : World) (base : Nat) (v : Value) (l : List Txt) : Prop := OwnN tcs 1 9 w base v l
theorem u8_info : (Tryd.prog.info? 5).map (fun i => (i.zero, i.size, i.bytes)) = some (some (.int .u8 0), 1, 1) := by kernel_rfl
theorem own_bytes {w : World} {base : Nat} {v : Value} {l : Txt} (h : BytesO w base v l) : ∃ p cap, v = .slice p l.length cap ∧ BAt w p cap l ∧ (p = none ∨ ∃ g, p = some ⟨g, 0, none⟩ ∧ base ≤ g ∧ v.ownBlock = some g) := by
  rcases h.blk with ⟨rfl, rfl⟩ | ⟨g, cap, cs, rfl, hg, hB, h1, h2, h3⟩
  · exact ⟨_, _, rfl, BAt.nil w, Or.inl rfl⟩
  · refine ⟨_, _, rfl, ⟨⟨h3, fun e => by cases e⟩, h2, Or.inr ⟨g, 0, rfl, hB.lt, fun i c hi => ?_⟩⟩, Or.inr ⟨g, rfl, hg, rfl⟩⟩
    have hil : i < l.length := (List.getElem?_eq_some_iff.1 hi).1
    rw [Nat.zero_add, hB.cell, List.getElem?_append_left (by rw [flat_length bcs 1 (fun _ => rfl)]; omega)]
    have := flat_get bcs 1 (fun _ => rfl) l i 0 (by omega)
    rw [Nat.mul_one, Nat.add_zero] at this
    rw [this, hi]; rfl
/-- A byte more. -/
theorem bytes_app (w : World) (base : Nat) (v : Value) (l : Txt) (c : UInt8) (h : BytesO w base v l) (hl : l.length ≤ 1000000000000) (hb : base ≤ w.heap.size) :
    ∃ p k w', (Builtin.append_ #[27, 27] 27 #[v, .slice (some ⟨w.heap.size, 0, none⟩) 1 1]).run Tryd.prog (w.alloc (.cells #[.int .u8 (c.toNat : Int)] 5)) = .ok (.slice p (l.length + 1) k) w' ∧ BytesO w' base (.slice p (l.length + 1) k) (l ++ [c]) ∧ Upd (fun k => v.ownBlock = some k) w w' ∧ NewOr v (.slice p (l.length + 1) k) w := by
  obtain ⟨i0, hi0, hz0, hz1, hz2⟩ := info_parts u8_info
  have u0 : Upd (fun _ => False) w (w.alloc (.cells #[.int .u8 (c.toNat : Int)] 5)) := (Upd.refl _ _).alloc _
  obtain ⟨v', w', a, b, d, e1⟩ := OwnN.append (P := Tryd.prog) 27 27 i0 (.int .u8 0) 1 Tryd.underlying27 hi0 hz0 hz1 hz2 rfl (by decide) (fun _ => rfl) (fun a _ u hu => by simp [bcs] at hu; subst hu; rfl) (h.keep0 u0) (RowOf.lit (f := bcs) w c [.int .u8 (c.toNat : Int)] _ rfl rfl) (by unfold maxLen; simp; omega) (by simp; omega) (Nat.le_trans hb u0.size)
  obtain ⟨p, k, e, _⟩ := b.slice
  rw [List.length_append, List.length_singleton] at e
  subst e
  exact ⟨p, k, w', a, b, (u0.weaken (F := fun k => v.ownBlock = some k) (fun _ _ h => h.elim)).trans d (fun _ _ h => h), fun k hk => (e1 k hk).imp id (fun g => Nat.le_trans u0.size g)⟩
/-- A text more. -/
theorem txts_app (w : World) (base : Nat) (v : Value) (l : List Txt) (c : Txt) (h : TxtsO w base v l) (hl : l.length ≤ 1000000000000) (hb : base ≤ w.heap.size) :
    ∃ p k w', (Builtin.append_ #[23, 23] 23 #[v, .slice (some ⟨w.heap.size, 0, none⟩) 1 1]).run Tryd.prog (w.alloc (.cells #[.string (ofL c)] 9)) = .ok (.slice p (l.length + 1) k) w' ∧ TxtsO w' base (.slice p (l.length + 1) k) (l ++ [c]) ∧ Upd (fun k => v.ownBlock = some k) w w' ∧ NewOr v (.slice p (l.length + 1) k) w := by
  obtain ⟨i0, hi0, hz0, hz1, hz2⟩ := info_parts string_info
  have u0 : Upd (fun _ => False) w (w.alloc (.cells #[.string (ofL c)] 9)) := (Upd.refl _ _).alloc _
  obtain ⟨v', w', a, b, d, e1⟩ := OwnN.append (P := Tryd.prog) 23 23 i0 (.string ByteArray.empty) 16 Tryd.underlying23 hi0 hz0 hz1 hz2 rfl (by decide) (fun _ => rfl) (fun a _ u hu => by simp [tcs] at hu; subst hu; rfl) (h.keep0 u0) (RowOf.lit (f := tcs) w c [.string (ofL c)] _ rfl rfl) (by unfold maxLen; simp; omega) (by simp; omega) (Nat.le_trans hb u0.size)
  obtain ⟨p, k, e, _⟩ := b.slice
  rw [List.length_append, List.length_singleton] at e
  subst e
  exact ⟨p, k, w', a, b, (u0.weaken (F := fun k => v.ownBlock = some k) (fun _ _ h => h.elim)).trans d (fun _ _ h => h), fun k hk => (e1 k hk).imp id (fun g => Nat.le_trans u0.size g)⟩
theorem tcs_len (t : Txt) : (tcs t).length = 1 := rfl
theorem bcs_len (t : UInt8) : (bcs t).length = 1 := rfl
end Go.Proofs.YtkemjjhmabemiaaDoor
/- Walks: single bytes. -/
set_option linter.unusedVariables false
set_option linter.unusedSimpArgs false
namespace Go.Proofs.YtkemjjhmabemiaaDoor
open Go.RowKit
open Lin (Txt)

theorem blank_any (c : UInt8) (w : World) : Calls Tryd.prog 48 #[.int .u8 (c.toNat : Int)] w fun e w' => e = .returned (.bool (Lin.gap c)) ∧ w' = w := by
  have h1 := u8eq c 32 (by omega)
  have h2 := u8eq c 9 (by omega)
  by_cases e1 : c = 32
  · have hb : ((c.toNat : Int) == 32) = true := by rw [show (32 : Int) = ((32 : Nat) : Int) from rfl, h1]; simp [e1]
    have hg := Lib.hid (show Lin.gap c = true by unfold Lin.gap; simp [e1])
    clear h1 h2 e1
    generalize (c.toNat : Int) = x at *
    go_enter Tryd.func48, Tryd.ntmps48
    go_wp2
    go_ret
    exact ⟨ret_bool (by rw [hg.out]), rfl⟩
  · have hb : ((c.toNat : Int) == 32) = false := by rw [show (32 : Int) = ((32 : Nat) : Int) from rfl, h1]; simp; exact e1
    by_cases e2 : c = 9
    · have hb2 : ((c.toNat : Int) == 9) = true := by rw [show (9 : Int) = ((9 : Nat) : Int) from rfl, h2]; simp [e2]
      have hg := Lib.hid (show Lin.gap c = true by unfold Lin.gap; simp [e2])
      clear h1 h2 e1 e2
      generalize (c.toNat : Int) = x at *
      go_enter Tryd.func48, Tryd.ntmps48
      go_wp2
      go_ret
      exact ⟨ret_bool (by rw [hg.out]), rfl⟩
    · have hb2 : ((c.toNat : Int) == 9) = false := by rw [show (9 : Int) = ((9 : Nat) : Int) from rfl, h2]; simp; exact e2
      have hg := Lib.hid (show Lin.gap c = false by unfold Lin.gap; simp [e1, e2])
      clear h1 h2 e1 e2
      generalize (c.toNat : Int) = x at *
      go_enter Tryd.func48, Tryd.ntmps48
      go_wp2
      go_ret
      exact ⟨ret_bool (by rw [hg.out]), rfl⟩
def low (c : UInt8) : Nat := if 65 ≤ c.toNat ∧ c.toNat ≤ 70 then 32 else 0
theorem lower_any (c : UInt8) (w : World) : Calls Tryd.prog 72 #[.int .u8 (c.toNat : Int)] w fun e w' => e = .returned (.int .u8 (low c : Int)) ∧ w' = w := by
  unfold low
  by_cases h1 : 65 ≤ c.toNat
  · by_cases h2 : c.toNat ≤ 70
    · rw [if_pos ⟨h1, h2⟩]
      have a : (65 : Int) ≤ (c.toNat : Int) := by omega
      have b : (c.toNat : Int) ≤ 70 := by omega
      clear h1 h2
      generalize (c.toNat : Int) = x at *
      go_enter Tryd.func72, Tryd.ntmps72
      go_wp2
      go_ret
      exact ⟨rfl, rfl⟩
    · rw [if_neg (fun h => h2 h.2)]
      have a : (65 : Int) ≤ (c.toNat : Int) := by omega
      have b : ¬ (c.toNat : Int) ≤ 70 := by omega
      clear h1 h2
      generalize (c.toNat : Int) = x at *
      go_enter Tryd.func72, Tryd.ntmps72
      go_wp2
      go_ret
      exact ⟨rfl, rfl⟩
  · rw [if_neg (fun h => h1 h.1)]
    have a : ¬ (65 : Int) ≤ (c.toNat : Int) := by omega
    clear h1
    generalize (c.toNat : Int) = x at *
    go_enter Tryd.func72, Tryd.ntmps72
    go_wp2
    go_ret
    exact ⟨rfl, rfl⟩
theorem hex_any (c : UInt8) (w : World) : Calls Tryd.prog 31 #[.int .u8 (c.toNat : Int)] w fun e w' => e = .returned (.int .u8 (Lin.hexv c : Int)) ∧ w' = w := by
  unfold Lin.hexv
  have hc : c.toNat < 256 := c.toNat_lt
  have hi : (0 : Int) ≤ (c.toNat : Int) ∧ (c.toNat : Int) < 256 := by omega
  obtain ⟨hi0, hi1⟩ := hi
  by_cases a1 : 48 ≤ c.toNat ∧ c.toNat ≤ 57
  · rw [if_pos a1]
    have a : (48 : Int) ≤ (c.toNat : Int) := by omega
    have b : (c.toNat : Int) ≤ 57 := by omega
    have e : ((c.toNat - 48 : Nat) : Int) = (c.toNat : Int) - 48 := by omega
    rw [e]
    clear a1 hc e
    generalize (c.toNat : Int) = x at *
    go_enter Tryd.func31, Tryd.ntmps31
    go_wp2
    go_ret
    exact ⟨rfl, rfl⟩
  · rw [if_neg a1]
    have p : (48 ≤ (c.toNat : Int) ∧ ¬ (c.toNat : Int) ≤ 57) ∨ ¬ (48 : Int) ≤ (c.toNat : Int) := by omega
    by_cases a2 : 97 ≤ c.toNat ∧ c.toNat ≤ 102
    · rw [if_pos a2]
      have a : (97 : Int) ≤ (c.toNat : Int) := by omega
      have b : (c.toNat : Int) ≤ 102 := by omega
      have e : ((c.toNat - 87 : Nat) : Int) = (c.toNat : Int) - 97 + 10 := by omega
      rw [e]
      have q1 : (48 : Int) ≤ (c.toNat : Int) := by omega
      have q2 : ¬ (c.toNat : Int) ≤ 57 := by omega
      clear a1 a2 hc e p
      generalize (c.toNat : Int) = x at *
      go_enter Tryd.func31, Tryd.ntmps31
      go_wp2
      go_ret
      exact ⟨rfl, rfl⟩
    · rw [if_neg a2]
      by_cases a3 : 65 ≤ c.toNat ∧ c.toNat ≤ 70
      · rw [if_pos a3]
        have a : (65 : Int) ≤ (c.toNat : Int) := by omega
        have b : (c.toNat : Int) ≤ 70 := by omega
        have e : ((c.toNat - 55 : Nat) : Int) = (c.toNat : Int) - 65 + 10 := by omega
        rw [e]
        have q1 : (48 : Int) ≤ (c.toNat : Int) := by omega
        have q2 : ¬ (c.toNat : Int) ≤ 57 := by omega
        have q3 : ¬ (97 : Int) ≤ (c.toNat : Int) := by omega
        clear a1 a2 a3 hc e p
        generalize (c.toNat : Int) = x at *
        go_enter Tryd.func31, Tryd.ntmps31
        go_wp2
        go_ret
        exact ⟨rfl, rfl⟩
      · rw [if_neg a3]
        have q1 := Lib.hid a1
        have q2 := Lib.hid a2
        have q3 := Lib.hid a3
        have s1 : decide ((48 : Int) ≤ (c.toNat : Int)) = true ∧ decide ((c.toNat : Int) ≤ 57) = false ∨ decide ((48 : Int) ≤ (c.toNat : Int)) = false := by
          by_cases h : (48 : Int) ≤ (c.toNat : Int)
          · left; exact ⟨decide_eq_true h, decide_eq_false (by omega)⟩
          · right; exact decide_eq_false h
        have s2 : decide ((97 : Int) ≤ (c.toNat : Int)) = true ∧ decide ((c.toNat : Int) ≤ 102) = false ∨ decide ((97 : Int) ≤ (c.toNat : Int)) = false := by
          by_cases h : (97 : Int) ≤ (c.toNat : Int)
          · left; exact ⟨decide_eq_true h, decide_eq_false (by omega)⟩
          · right; exact decide_eq_false h
        have s3 : decide ((65 : Int) ≤ (c.toNat : Int)) = true ∧ decide ((c.toNat : Int) ≤ 70) = false ∨ decide ((65 : Int) ≤ (c.toNat : Int)) = false := by
          by_cases h : (65 : Int) ≤ (c.toNat : Int)
          · left; exact ⟨decide_eq_true h, decide_eq_false (by omega)⟩
          · right; exact decide_eq_false h
        clear a1 a2 a3 p hc
        generalize (c.toNat : Int) = x at *
        rcases s1 with ⟨s1, s1'⟩ | s1 <;> rcases s2 with ⟨s2, s2'⟩ | s2 <;> rcases s3 with ⟨s3, s3'⟩ | s3
        all_goals
          go_enter Tryd.func31, Tryd.ntmps31
          go_wp2
          go_ret
          exact ⟨rfl, rfl⟩
def dg (c : UInt8) : Int := if Lin.hexv c < 16 then (Lin.hexv c : Int) else -1
end Go.Proofs.YtkemjjhmabemiaaDoor
/- Tests on single bytes. -/
set_option linter.unusedVariables false
set_option linter.unusedSimpArgs false
namespace Go.Proofs.YtkemjjhmabemiaaDoor
open Go.RowKit
open Lin (Txt)
theorem u8t {c : UInt8} (k : Nat) (h : c = UInt8.ofNat k) (hk : k < 256) : ((c.toNat : Int) == (k : Int)) = true := by rw [u8eq c k hk]; simpa using h
theorem u8f {c : UInt8} (k : Nat) (h : ¬ c = UInt8.ofNat k) (hk : k < 256) : ((c.toNat : Int) == (k : Int)) = false := by rw [u8eq c k hk]; simpa using h
theorem u8n {c : UInt8} (k : Nat) (h : ¬ c = UInt8.ofNat k) (hk : k < 256) : ((c.toNat : Int) != (k : Int)) = true := by unfold bne; rw [u8f k h hk]; rfl
theorem u8m {c : UInt8} (k : Nat) (h : c = UInt8.ofNat k) (hk : k < 256) : ((c.toNat : Int) != (k : Int)) = false := by unfold bne; rw [u8t k h hk]; rfl
theorem drop_cons {s : Txt} {k : Nat} {c : UInt8} (h : s[k]? = some c) : s.drop k = c :: s.drop (k + 1) := by
  obtain ⟨hk, e⟩ := List.getElem?_eq_some_iff.1 h
  rw [List.drop_eq_getElem_cons hk, e]
theorem upd_own {w w1 w2 : World} {v : Value} {l : List Txt} (ho : TxtsO w1 w.heap.size v l) (u : Upd (fun _ => False) w w1) (h : Upd (fun k => v.ownBlock = some k) w1 w2) : Upd (fun _ => False) w w2 :=
  u.trans h (fun i hi e => by have := (ho.lt e).1; omega)
end Go.Proofs.YtkemjjhmabemiaaDoor
