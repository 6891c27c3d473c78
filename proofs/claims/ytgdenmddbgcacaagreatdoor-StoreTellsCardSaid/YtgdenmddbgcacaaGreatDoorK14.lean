/- Rows of structs of k cells each, of the call's own: read, append, store. -/
import Derived.Test.YtgdenmddbgcacaaGreatDoorK10
import Derived.Test.YtgdenmddbgcacaaGreatDoorK13
import Derived.Deep.Upon
import Derived.Test.YtgdenmddbgcacaaGreatDoorK01
import Derived.Test.YtgdenmddbgcacaaGreatDoorChecked
import Derived.Lib.LaidTab
import Derived.Lib.ItoaNum
import Derived.Test.YtgdenmddbgcacaaGreatDoorK03
import Derived.Deep.RegionHeld3
import Derived.Lib.SliceRun
set_option linter.unusedVariables false
set_option linter.unusedSimpArgs false
namespace Go.Proofs.YtgdenmddbgcacaaGreatDoor
open Go.RowKit

section
variable {α : Type} {f : α → List Value} {k : Nat} {w w' : World} {base : Nat} {e : TypeId} {v : Value} {l : List α}
/-- v is a slice of the call's own, from block base on, that holds l, each thing by its k cells. -/
def OwnN (f : α → List Value) (k : Nat) (e : TypeId) (w : World) (base : Nat) (v : Value) (l : List α) : Prop := w.ownsRow base e k v l.length (flat f l)
theorem OwnN.keep {F : Nat → Prop} (h : OwnN f k e w base v l) (u : Upd F w w') (hd : ∀ b, v.ownBlock = some b → ¬ F b) : OwnN f k e w' base v l := own_keep h u hd
theorem OwnN.keep0 (h : OwnN f k e w base v l) (u : Upd (fun _ => False) w w') : OwnN f k e w' base v l := own_keep h u (fun _ _ h => h)
theorem OwnN.mono {b2 : Nat} (h : OwnN f k e w base v l) (hb : b2 ≤ base) : OwnN f k e w b2 v l := by
  refine ⟨h.1, h.2.imp id ?_⟩
  rintro ⟨g, cap, cur, a, b, c⟩
  exact ⟨g, cap, cur, a, Nat.le_trans hb b, c⟩
theorem OwnN.blk (h : OwnN f k e w base v l) : (v = .slice none 0 0 ∧ l = []) ∨ ∃ b cap cs, v = .slice (some ⟨b, 0, none⟩) l.length cap ∧ base ≤ b ∧ Blk w b (flat f l ++ cs) e ∧ l.length * k + cs.length = cap * k ∧ cap ≤ maxLen ∧ l.length ≤ cap := by
  obtain ⟨h0, ⟨rfl, e0⟩ | ⟨g, cap, cur, rfl, hg, hh, h1, h2, h3, h4⟩⟩ := h
  · exact Or.inl ⟨rfl, List.length_eq_zero_iff.1 e0⟩
  · refine Or.inr ⟨g, cap, cur.toList.drop (l.length * k), rfl, hg, ?_, ?_, h2, h1⟩
    · unfold Blk
      rw [← h4, List.take_append_drop]; exact hh
    · have : l.length * k ≤ cap * k := Nat.mul_le_mul_right _ h1
      simp; omega
theorem OwnN.lt (h : OwnN f k e w base v l) {b : Nat} (hb : v.ownBlock = some b) : base ≤ b ∧ b < w.heap.size ∧ ∃ cs, Blk w b cs e := by
  rcases h.blk with ⟨rfl, _⟩ | ⟨g, cap, cs, rfl, hg, hB, _⟩
  · cases hb
  · cases hb; exact ⟨hg, hB.lt, _, hB⟩
theorem OwnN.slice (h : OwnN f k e w base v l) : ∃ p c, v = .slice p l.length c ∧ l.length ≤ maxLen ∧ l.length ≤ c := by
  rcases h.blk with ⟨rfl, rfl⟩ | ⟨g, cap, cs, rfl, hg, hB, _, h1, h2⟩
  · exact ⟨_, _, rfl, by unfold maxLen; simp, by simp⟩
  · exact ⟨_, _, rfl, by omega, h2⟩
theorem OwnN.row (h : OwnN f k e w base v l) (hf : ∀ a, (f a).length = k) : RowOf f k w v l := by
  rcases h.blk with ⟨rfl, rfl⟩ | ⟨g, cap, cs, rfl, hg, hB, _, h1, h2⟩
  · exact Or.inl ⟨none, 0, rfl, rfl⟩
  · refine Or.inr ⟨g, 0, cap, rfl, hB.lt, by omega, fun i a hi j hj => ?_⟩
    have hil : i < l.length := (List.getElem?_eq_some_iff.1 hi).1
    have hlt : i * k + j < l.length * k := by
      have : (i + 1) * k ≤ l.length * k := Nat.mul_le_mul_right _ hil
      rw [Nat.add_mul] at this; omega
    rw [Nat.zero_add, hB.cell, List.getElem?_append_left (by rw [flat_length f k hf]; exact hlt), flat_get f k hf l i j hj, hi]; rfl
theorem OwnN.none : OwnN f k e w base (.slice none 0 0) ([] : List α) := ⟨by simp [flat], Or.inl ⟨rfl, rfl⟩⟩
theorem OwnN.ofBlk {b cap : Nat} {cs : List Value} (hb : base ≤ b) (hf : ∀ a, (f a).length = k) (h : Blk w b (flat f l ++ cs) e) (hc : l.length * k + cs.length = cap * k) (hm : cap ≤ maxLen) (hle : l.length ≤ cap) : OwnN f k e w base (.slice (some ⟨b, 0, Option.none⟩) l.length cap) l := by
  have hl := flat_length f k hf l
  exact ⟨hl, Or.inr ⟨b, cap, _, rfl, hb, h, hle, hm, by simp; omega, by rw [← hl]; simp⟩⟩
/-- An empty row, made. -/
theorem OwnN.made (w : World) (e : TypeId) : OwnN f k e (w.alloc (.cells #[] e)) w.heap.size (.slice (some ⟨w.heap.size, 0, Option.none⟩) 0 0) ([] : List α) :=
  ⟨by simp [flat], Or.inr ⟨w.heap.size, 0, _, rfl, Nat.le_refl _, by
    have := Blk.made w [] e; exact this, Nat.le_refl _, by unfold maxLen; omega, by simp, by simp [flat]⟩⟩
/-- A thing's cells in a block of their own: a row of one. -/
theorem RowOf.lit (w : World) (a : α) (cs : List Value) (e : TypeId) (hcs : f a = cs) (hk : cs.length = k) : RowOf f k (w.alloc (.cells cs.toArray e)) (.slice (some ⟨w.heap.size, 0, Option.none⟩) 1 1) [a] := by
  refine Or.inr ⟨w.heap.size, 0, 1, rfl, by simp, by unfold maxLen; simp, fun i x hi j hj => ?_⟩
  cases i with
  | zero =>
    simp at hi; subst hi
    rw [Nat.zero_mul, Nat.zero_add, Nat.zero_add, (Blk.made w cs e).cell, hcs]
  | succ i => simp at hi
/-- A cell of a thing is written. -/
theorem OwnN.set {g n c i j : Nat} {a b : α} {x : Value} (h : OwnN f k e w base (.slice (some ⟨g, 0, Option.none⟩) n c) l) (hf : ∀ a, (f a).length = k) (hj : j < k) (ha : l[i]? = some a) (hb : f b = (f a).set j x) :
    OwnN f k e (w.setCell ⟨g, i * k + j, Option.none⟩ x) base (.slice (some ⟨g, 0, Option.none⟩) n c) (l.set i b) := by
  rcases h.blk with ⟨e1, _⟩ | ⟨g', cap, cs, e1, hg, hB, h1, h2, h3⟩
  · cases e1
  · injection e1 with e1 e2 e3
    injection e1 with e1; injection e1 with e1
    subst e1 e3
    have hil : i < l.length := (List.getElem?_eq_some_iff.1 ha).1
    have hlt : i * k + j < l.length * k := by
      have : (i + 1) * k ≤ l.length * k := Nat.mul_le_mul_right _ hil
      rw [Nat.add_mul] at this; omega
    have hs := hB.set (i * k + j) x
    rw [List.set_append_left _ _ (by rw [flat_length f k hf]; exact hlt), flat_set f k hf l i j hj a b x ha hb] at hs
    have := OwnN.ofBlk (base := base) (cap := c) (l := l.set i b) hg hf hs (by rw [List.length_set]; exact h1) h2 (by rw [List.length_set]; exact h3)
    rw [List.length_set] at this
    rw [e2]; exact this
theorem OwnN.cell {g n c : Nat} (h : OwnN f k e w base (.slice (some ⟨g, 0, Option.none⟩) n c) l) (hf : ∀ a, (f a).length = k) {i j : Nat} {a : α} (hj : j < k) (ha : l[i]? = some a) : w.cell? ⟨g, i * k + j, Option.none⟩ = (f a)[j]? := by
  rcases h.row hf with ⟨_, _, _, e1⟩ | ⟨b, off, cap, e1, _, _, hc⟩
  · subst e1; simp at ha
  · have h0 := h.blk
    rcases h0 with ⟨e2, _⟩ | ⟨g', cap', cs, e2, hg, hB, h1, h2, h3⟩
    · cases e2
    · injection e2 with e2 e3 e4
      injection e2 with e2; injection e2 with e2
      subst e2
      have hil : i < l.length := (List.getElem?_eq_some_iff.1 ha).1
      have hlt : i * k + j < l.length * k := by
        have : (i + 1) * k ≤ l.length * k := Nat.mul_le_mul_right _ hil
        rw [Nat.add_mul] at this; omega
      rw [hB.cell, List.getElem?_append_left (by rw [flat_length f k hf]; exact hlt), flat_get f k hf l i j hj, ha]; rfl
/-- append(v, v2...): v of the call's own, v2 any row. -/
theorem OwnN.append {P : Program} {v2 : Value} {l2 : List α} (t ty : TypeId) (i : TypeInfo) (z : Value) (bytes : Nat) (ht : P.underlying t = some (.slice e)) (hi : P.info? e = some i) (hz : i.zero = some z)
    (hsize : i.size = k) (hby : i.bytes = bytes) (hzs : z.cells.size = k) (hk : 0 < k) (hf : ∀ a, (f a).length = k) (h1 : ∀ a ∈ l2, ∀ u ∈ f a, u.oneCell' = true)
    (h : OwnN f k e w base v l) (h2 : RowOf f k w v2 l2) (h63 : l.length + l2.length ≤ maxLen) (hbytes : (l.length + l2.length) * bytes ≤ 140737488355328) (hb : base ≤ w.heap.size) :
    ∃ v' w', (Builtin.append_ #[t, t] ty #[v, v2]).run P w = .ok v' w' ∧ OwnN f k e w' base v' (l ++ l2) ∧ Upd (fun b => v.ownBlock = some b) w w' ∧ NewOr v v' w := by
  have hfl := flat_length f k hf l2
  have e2 : flat f (l ++ l2) = flat f l ++ flat f l2 := by simp [flat]
  have ho : ∀ u ∈ flat f l2, u.oneCell' = true := by
    intro u hu
    unfold flat at hu
    obtain ⟨m, hml, hm⟩ := List.mem_flatMap.1 hu
    exact h1 m hml u hm
  by_cases h0 : l2 = []
  · subst h0
    obtain ⟨p, cp, rfl, _, hle⟩ := h.slice
    obtain ⟨a, c, rfl⟩ : ∃ a c, v2 = .slice a 0 c := by
      rcases h2 with ⟨a, c, e, _⟩ | ⟨b, off, cap, e, _⟩
      · exact ⟨_, _, e⟩
      · exact ⟨_, _, e⟩
    have hs : Src P i.size t (.slice a 0 c) 0 [] w := by
      cases a with
      | none => exact Src.ofNil w ht c
      | some a => exact Src.ofSlice w ht a 0 c [] (by simp) (fun j u h => by simp at h) (fun u h => by cases h)
    refine ⟨_, _, run_append_nothing (P := P) w t t ty e i ht hi p l.length cp hle _ hs, by simpa using h, Upd.refl _ _, fun k hk => Or.inl hk⟩
  · obtain ⟨b, off, c, rfl, hb2, _, hc⟩ : ∃ b off cap, v2 = .slice (some ⟨b, off, Option.none⟩) l2.length cap ∧ b < w.heap.size ∧ l2.length ≤ maxLen ∧ ∀ i a, l2[i]? = some a → ∀ j, j < k → w.cell? ⟨b, off + (i * k + j), Option.none⟩ = (f a)[j]? := by
      rcases h2 with ⟨_, _, _, e⟩ | h2
      · exact absurd e h0
      · exact h2
    have hn : ∀ j u, (flat f l2)[j]? = some u → w.cell? ((⟨b, off, Option.none⟩ : Addr).add j) = some u := by
      intro j u hj
      have hjl := (List.getElem?_eq_some_iff.1 hj).1
      rw [hfl] at hjl
      have hi : j / k < l2.length := (Nat.div_lt_iff_lt_mul hk).2 hjl
      have hmod := Nat.mod_lt j hk
      have h1 := hc (j / k) l2[j / k] (List.getElem?_eq_getElem hi) (j % k) hmod
      have h3 := flat_get f k hf l2 (j / k) (j % k) hmod
      have ej : j / k * k + j % k = j := Nat.div_add_mod' j k
      rw [ej] at h1 h3
      rw [hj, List.getElem?_eq_getElem hi] at h3
      have e : (⟨b, off, Option.none⟩ : Addr).add j = ⟨b, off + j, Option.none⟩ := by simp [Addr.add]
      rw [e, h1]; exact h3.symm
    have hpos := List.length_pos_iff.2 h0
    obtain ⟨v', w', hr, q2, q3, _⟩ := run_append_own (P := P) w base t ty e i z k bytes ht hi hz hsize hby hzs hk v l.length _ h ⟨b, off, Option.none⟩ l2.length c _ hfl hn ho h63 hbytes hb
    have hw := run_append_where (P := P) w base t ty e i z k bytes ht hi hz hsize hby v l.length _ h ⟨b, off, Option.none⟩ l2.length c _ hfl hn ho hpos h63 hbytes v' w' hr
    refine ⟨v', w', hr, ?_, (Upd.of_grown q3).weaken (fun k _ hk => hk.symm), hw⟩
    unfold OwnN
    rw [e2, List.length_append]; exact q2
end
/-- A step of a region that draws its order: append. -/
theorem step_builtinN {P : Program} {ops : Array Oper} {o : Oper} {a : Act} {w w' : World} {K : Act → World → Prop} {Q : Exit → Act → World → Prop} {E : Prop} {v' : Value} (hg : o.guard = none) (s x : Operand) (t : TypeId)
    (ho : o.op = .call { callee := .builtin .append, args := #[s, x], argTypes := #[t, t] }) (u y : Value) (hs : a.eval s = u) (hx : a.eval x = y)
    (hr : (Builtin.append_ #[t, t] o.type #[u, y]).run P w = .ok v' w') (hK : K (a.put o.dst v') w') :
    if Region.wanted o (yielded ops a.tmps) = true then Oper.wp P o a w K Q else E := by
  have hw : Region.wanted o (yielded ops a.tmps) = true := by simp [Region.wanted, hg]
  rw [if_pos hw]
  unfold Oper.wp execOp
  subst hs hx
  simp only [ho, resolve, invoke, builtin, Sem.run_bind, Sem.run_pure, Result.andThen_ok, List.map_toArray, List.map_cons, List.map_nil, hr]
  exact hK
theorem wpList_builtinN {P : Program} {ops : Array Oper} {rest : List Oper} {o : Oper} {a : Act} {w w' : World} {Q : Exit → Act → World → Prop} {v' : Value} (hg : o.guard = none) (s x : Operand) (t : TypeId)
    (ho : o.op = .call { callee := .builtin .append, args := #[s, x], argTypes := #[t, t] }) (u y : Value) (hs : a.eval s = u) (hx : a.eval x = y)
    (hr : (Builtin.append_ #[t, t] o.type #[u, y]).run P w = .ok v' w') (hK : wpList P ops Q rest (a.put o.dst v') w') : wpList P ops Q (o :: rest) a w :=
  wpList_plain hg fun K hK' => by
    unfold Oper.wp execOp
    subst hs hx
    simp only [ho, resolve, invoke, builtin, Sem.run_bind, Sem.run_pure, Result.andThen_ok, List.map_toArray, List.map_cons, List.map_nil, hr]
    exact hK' _ _ hK
theorem info_parts {o : Option TypeInfo} {x : Option Value × Nat × Nat} (h : o.map (fun i => (i.zero, i.size, i.bytes)) = some x) : ∃ i, o = some i ∧ i.zero = x.1 ∧ i.size = x.2.1 ∧ i.bytes = x.2.2 := by
  cases o with
  | none => cases h
  | some i => simp only [Option.map_some, Option.some.injEq] at h; subst h; exact ⟨i, rfl, rfl, rfl, rfl⟩
end Go.Proofs.YtgdenmddbgcacaaGreatDoor
/- What start-up code has laid, as far as it is read; it stays, as long as its blocks are left alone. -/
set_option linter.unusedVariables false
set_option linter.unusedSimpArgs false
namespace Go.Proofs.YtgdenmddbgcacaaGreatDoor
open Go.RowKit Go.Proofs

/-- What start-up code has laid, as far as it is read. -/
structure Std (w : World) : Prop where
  tab : Lib.TabIs Tryz.prog w "internal/strconv.uint64pow10" .u64 Lib.pow10Tab
  syn : ∃ te pe, w.var? Tryz.prog "strconv.ErrSyntax" = some #[.iface te pe]
  rng : ∃ te pe, w.var? Tryz.prog "strconv.ErrRange" = some #[.iface te pe]
theorem var_keep {w w' : World} (u : Upd (fun _ => False) w w') {n : String} {cs : Array Value} (h : w.var? Tryz.prog n = some cs) : w'.var? Tryz.prog n = some cs := by
  unfold World.var? at h ⊢
  cases hg : Tryz.prog.globalNamed n with
  | none => rw [hg] at h; cases h
  | some g =>
    rw [hg] at h
    simp only [Option.bind_some] at h ⊢
    have hl : g < w.heap.size := by
      by_cases hl : g < w.heap.size
      · exact hl
      · rw [Array.getElem?_eq_none (by omega : w.heap.size ≤ g)] at h; cases h
    rw [u.block g hl id]
    exact h
theorem Std.keep {w w' : World} (h : Std w) (u : Upd (fun _ => False) w w') : Std w' :=
  ⟨var_keep u h.tab, by obtain ⟨a, b, c⟩ := h.syn; exact ⟨a, b, var_keep u c⟩, by obtain ⟨a, b, c⟩ := h.rng; exact ⟨a, b, var_keep u c⟩⟩
theorem var_lt {w : World} {n : String} {cs : Array Value} {g : Nat} (hg : Tryz.prog.globalNamed n = some g) (h : w.var? Tryz.prog n = some cs) : g < w.heap.size := by
  unfold World.var? at h
  rw [hg] at h
  simp only [Option.bind_some] at h
  by_cases hl : g < w.heap.size
  · exact hl
  · rw [Array.getElem?_eq_none (by omega : w.heap.size ≤ g)] at h; cases h
/-- The blocks from here on hold nothing that start-up code has laid and that is read. -/
def lowB : Nat := 3 + 1 + 2 - min (min (3 + 1) (1 + 2)) (3 + 2) + 1
theorem Std.low {w : World} (h : Std w) : lowB ≤ w.heap.size := by
  have h1 := var_lt (g := 3) (by kernel_rfl) h.tab
  obtain ⟨a, b, hv⟩ := h.rng
  have h2 := var_lt (g := 2) (by kernel_rfl) hv
  obtain ⟨a, b, hv⟩ := h.syn
  have h3 := var_lt (g := 1) (by kernel_rfl) hv
  unfold lowB; omega
theorem var_keepB {w w' : World} {F : Nat → Prop} (u : Upd F w w') {n : String} {cs : Array Value} {g : Nat} (hg : Tryz.prog.globalNamed n = some g) (hF : ¬ F g) (h : w.var? Tryz.prog n = some cs) : w'.var? Tryz.prog n = some cs := by
  unfold World.var? at h ⊢
  rw [hg] at h ⊢
  simp only [Option.bind_some] at h ⊢
  have hl : g < w.heap.size := by
    by_cases hl : g < w.heap.size
    · exact hl
    · rw [Array.getElem?_eq_none (by omega : w.heap.size ≤ g)] at h; cases h
  rw [u.block g hl hF]
  exact h
theorem Std.keepB {w w' : World} {F : Nat → Prop} (h : Std w) (u : Upd F w w') (hF : ∀ k, F k → lowB ≤ k) : Std w' := by
  have n3 : ¬ F 3 := fun h => by have := hF _ h; unfold lowB at this; omega
  have n4 : ¬ F 1 := fun h => by have := hF _ h; unfold lowB at this; omega
  have n5 : ¬ F 2 := fun h => by have := hF _ h; unfold lowB at this; omega
  exact ⟨var_keepB u (by kernel_rfl) n3 h.tab, by obtain ⟨a, b, c⟩ := h.syn; exact ⟨a, b, var_keepB u (by kernel_rfl) n4 c⟩, by obtain ⟨a, b, c⟩ := h.rng; exact ⟨a, b, var_keepB u (by kernel_rfl) n5 c⟩⟩
end Go.Proofs.YtgdenmddbgcacaaGreatDoor
/- Items: their walks. -/
set_option linter.unusedVariables false
set_option linter.unusedSimpArgs false
namespace Go.Proofs.YtgdenmddbgcacaaGreatDoor
open Go.RowKit

def fdc (f : Fd) : List Value := [.string f.1, .string f.2]
def fdV (f : Fd) : Value := .agg #[.string f.1, .string f.2]
/-- An item, its fields in v. -/
def itV (i : It) (v : Value) : Value := .agg #[.int .i64 i.kind, .string i.text, v]
theorem RowOf.nilTo {α : Type} {f : α → List Value} {k : Nat} {w w' : World} {v : Value} (h : RowOf f k w v ([] : List α)) : RowOf f k w' v ([] : List α) := by
  rcases h with h | ⟨b, off, cap, rfl, _⟩
  · exact Or.inl h
  · exact Or.inl ⟨_, _, rfl, rfl⟩
theorem fd_info : (Tryz.prog.info? 69).map (fun i => (i.zero, i.size, i.bytes)) = some (some (.agg #[.string ByteArray.empty, .string ByteArray.empty]), 2, 32) := by kernel_rfl
theorem fd_cells {w : World} {v : Value} {l : List Fd} (h : RowOf fdc 2 w v l) {k : Nat} {d : Fd} (hk : l[k]? = some d) : ∃ b off cap, v = .slice (some ⟨b, off, none⟩) l.length cap ∧ b < w.heap.size ∧ w.cell? ⟨b, off + k * 2, none⟩ = some (.string d.1) ∧ w.cell? ⟨b, off + k * 2 + 1, none⟩ = some (.string d.2) := by
  rcases h with ⟨_, _, _, e⟩ | ⟨b, off, c, e, hb, _, hc⟩
  · rw [e] at hk; simp at hk
  · refine ⟨b, off, c, e, hb, ?_, ?_⟩
    · have := hc k d hk 0 (by omega); rw [Nat.add_zero] at this; simpa [fdc] using this
    · have := hc k d hk 1 (by omega); rw [← Nat.add_assoc] at this; simpa [fdc] using this
theorem take_snocF {l : List Fd} {k : Nat} {d : Fd} (h : l[k]? = some d) : l.take (k + 1) = l.take k ++ [d] := by
  obtain ⟨h1, e⟩ := List.getElem?_eq_some_iff.1 h
  rw [List.take_succ_eq_append_getElem h1, e]
theorem fcost_take_le (l : List Fd) (k : Nat) : fcost (l.take k) ≤ fcost l := by
  have : fcost l = fcost (l.take k) + fcost (l.drop k) := by rw [← fcost_app, List.take_append_drop]
  have := fcost_nonneg (l.drop k); omega
theorem i64w {n : Int} (h0 : -9223372036854775808 ≤ n) (h1 : n ≤ 9223372036854775807) : IntKind.i64.wrap n = n := by
  unfold IntKind.wrap; simp [IntKind.bits, IntKind.signed]; omega

set_option maxHeartbeats 4000000 in
set_option maxRecDepth 100000 in
theorem field_any (f : Fd) (w : World) :
    Calls Tryz.prog 72 #[fdV f] w fun e w' => e = .returned (.bool (decide (f.1.size ≤ 512) && decide (f.2.size ≤ 4096))) ∧ Upd (fun _ => False) w w' := by
  obtain ⟨a, b⟩ := f
  show Calls _ _ #[.agg #[.string a, .string b]] _ _
  by_cases h1 : a.size ≤ 512
  · by_cases h2 : b.size ≤ 4096
    · have t1 : decide ((a.size : Int) ≤ 512) = true := decide_eq_true (by omega)
      have t2 : decide ((b.size : Int) ≤ 4096) = true := decide_eq_true (by omega)
      go_enter Tryz.func72, Tryz.ntmps72
      go_wp2
      go_ret
      exact ⟨by simp [h1, h2], (Upd.refl _ _).alloc _⟩
    · have t1 : decide ((a.size : Int) ≤ 512) = true := decide_eq_true (by omega)
      have t2 : decide ((b.size : Int) ≤ 4096) = false := decide_eq_false (by omega)
      go_enter Tryz.func72, Tryz.ntmps72
      go_wp2
      go_ret
      exact ⟨by simp [h1, h2], (Upd.refl _ _).alloc _⟩
  · have t1 : decide ((a.size : Int) ≤ 512) = false := decide_eq_false (by omega)
    go_enter Tryz.func72, Tryz.ntmps72
    go_wp2
    go_ret
    exact ⟨by simp [h1], (Upd.refl _ _).alloc _⟩
set_option maxHeartbeats 4000000 in
set_option maxRecDepth 100000 in
theorem clone_any (v : Value) (l : List Fd) (w : World) (hv : RowOf fdc 2 w v l) (hl : l.length ≤ 100000) :
    Calls Tryz.prog 71 #[v] w fun e w' => ∃ v', e = .returned v' ∧ RowOf fdc 2 w' v' l ∧ (l = [] ∨ ∀ b, v'.ownBlock = some b → w.heap.size ≤ b ∧ b < w'.heap.size) ∧ Upd (fun _ => False) w w' := by
  obtain ⟨p, c, ev, hm⟩ := hv.len
  subst ev
  cases p with
  | none =>
    have hl0 : l = [] := by
      rcases hv with ⟨_, _, _, e⟩ | ⟨b, off, cap, e, _⟩
      · exact e
      · cases e
    subst hl0
    have qn := Go.Lib.run_eql_slice_nil (P := Tryz.prog) w 29 _ none 0 c 0 0 Tryz.underlying29
    go_enter Tryz.func71, Tryz.ntmps71
    go_wp2
    go_ret
    exact ⟨_, rfl, Or.inl ⟨_, _, rfl, rfl⟩, Or.inl trivial, Upd.refl _ _⟩
  | some a =>
    obtain ⟨i0, hi0, hz0, hz1, hz2⟩ := info_parts fd_info
    have u0 : Upd (fun _ => False) w (w.alloc (.cells #[] 69)) := (Upd.refl _ _).alloc _
    obtain ⟨v', w', hr1, b, c2, d⟩ := OwnN.append (P := Tryz.prog) 29 29 i0 (.agg #[.string ByteArray.empty, .string ByteArray.empty]) 32 Tryz.underlying29 hi0 hz0 hz1 hz2 rfl (by decide) (fun _ => rfl) (fun f _ => fun u hu => by simp [fdc] at hu; rcases hu with rfl | rfl <;> rfl) (OwnN.made w 69) (hv.keep u0 (fun _ _ _ h => h)) (by unfold maxLen; simp; omega) (by simp; omega) u0.size
    have b2 := b.row (fun _ => rfl)
    have B := Lib.hid b
    have B2 := Lib.hid b2
    have C2 : Hid (Upd (fun _ => False) w w') := u0.trans c2 (fun i hi e => by have e2 : w.heap.size = i := Option.some.inj e; omega)
    clear b b2 c2 d hv
    have qn := Go.Lib.run_eql_slice_nil (P := Tryz.prog) w 29 _ (some a) l.length c 0 0 Tryz.underlying29
    go_enter Tryz.func71, Tryz.ntmps71
    go_wp2_with (at_builtin; refine wpList_builtinN rfl _ _ 29 rfl _ _ rfl rfl hr1 ?_)
    go_wp2
    go_ret
    exact ⟨_, rfl, B2.out, Or.inr (fun b hb => by have := B.out.lt hb; exact ⟨this.1, this.2.1⟩), C2.out⟩

set_option maxHeartbeats 4000000 in
set_option maxRecDepth 100000 in
theorem copy_any (i : It) (v : Value) (w : World) (hv : RowOf fdc 2 w v i.flds) (hl : i.flds.length ≤ 100000) :
    Calls Tryz.prog 45 #[itV i v] w fun e w' => ∃ v', e = .returned (itV i v') ∧ RowOf fdc 2 w' v' i.flds ∧ (i.flds = [] ∨ ∀ b, v'.ownBlock = some b → w.heap.size ≤ b ∧ b < w'.heap.size) ∧ Upd (fun _ => False) w w' := by
  obtain ⟨kind, text, l⟩ := i
  obtain ⟨p, c, ev, hm⟩ := hv.len
  simp only at ev hm hv hl
  subst ev
  show Calls _ _ #[.agg #[.int .i64 kind, .string text, .slice p l.length c]] _ _
  obtain ⟨z, hz⟩ : ∃ z, z = ((w.alloc (.cells #[.int .i64 kind, .string text, .slice p l.length c] 31)).alloc (.cells #[.int .i64 0, .string { data := #[] }, .slice none 0 0] 31)) := ⟨_, rfl⟩
  have uz : Upd (fun _ => False) w z := by rw [hz]; exact ((Upd.refl _ _).alloc _).alloc _
  have hB : Blk z w.heap.size [.int .i64 kind, .string text, .slice p l.length c] 31 := by rw [hz]; exact (Blk.made _ _ _).alloc _
  have hB2 : Blk z (w.heap.size + 1) [.int .i64 0, .string { data := #[] }, .slice none 0 0] 31 := by
    rw [hz]; have := Blk.made (w.alloc (.cells #[.int .i64 kind, .string text, .slice p l.length c] 31)) [.int .i64 0, .string { data := #[] }, .slice none 0 0] 31
    simpa using this
  have CL := Lib.hid (clone_any (.slice p l.length c) l z (hv.keep uz (fun _ _ _ h => h)) hl)
  rw [hz] at CL
  go_enter Tryz.func45, Tryz.ntmps45
  go_wp2_with fail
  refine (CL.out).mono ?_
  rintro e w1 ⟨v', rfl, hr, ho, u1⟩
  rw [← hz] at u1 ho
  clear CL
  obtain ⟨p2, c2, e2, hm2⟩ := hr.len
  subst e2
  have b1 := u1.blk hB (fun h => h)
  have b2 := u1.blk hB2 (fun h => h)
  have l1 := b1.lt
  have l2 := b2.lt
  have x0 := b1.cellAt (i := 0) rfl
  have x1 := b1.cellAt (i := 1) rfl
  have x2 := b1.cellAt (i := 2) rfl
  have y0 := b2.cellAt (i := 0) rfl
  have y1 := b2.cellAt (i := 1) rfl
  have y2 := b2.cellAt (i := 2) rfl
  have f0 := b1.free 2
  have g0 := b2.free 0
  have g1 := b2.free 1
  have g2 := b2.free 2
  have hzs := uz.size
  have ZY : Hid (z.heap.size = w.heap.size + 2) := by show _ = _; rw [hz]; simp
  clear hz
  have HR := Lib.hid hr
  have HO := Lib.hid ho
  have UZ := Lib.hid uz
  have U1 := Lib.hid u1
  have SZ := Lib.hid hzs
  have BB := Lib.hid b2
  clear hr ho uz u1 hzs b1 b2 hB hB2 hv
  go_wp2
  have uu : Upd (fun b => b = w.heap.size ∨ b = w.heap.size + 1) w1 _ := (((((Upd.refl (fun b => b = w.heap.size ∨ b = w.heap.size + 1) w1).set (b := w.heap.size) (o := 2) (v := .slice p2 l.length c2) (fun _ => Or.inl rfl)).set (b := w.heap.size + 1) (o := 0) (v := .int .i64 kind) (fun _ => Or.inr rfl)).set (b := w.heap.size + 1) (o := 1) (v := .string text) (fun _ => Or.inr rfl)).set (b := w.heap.size + 1) (o := 2) (v := .slice p2 l.length c2) (fun _ => Or.inr rfl))
  have BW := (((BB.out.set_other (b' := w.heap.size) (o := 2) (v := .slice p2 l.length c2) (by omega)).set 0 (.int .i64 kind)).set 1 (.string text)).set 2 (.slice p2 l.length c2)
  have q0 := BW.cellAt (i := 0) rfl
  have q1 := BW.cellAt (i := 1) rfl
  have q2 := BW.cellAt (i := 2) rfl
  have hy := ZY.out
  refine bodyPost_ret (v := itV ⟨kind, text, l⟩ (.slice p2 l.length c2)) (by simp [results, Tryz.results45, go_sem, q0, q1, q2, itV]) rfl ⟨_, rfl, ?_, ?_, ?_⟩
  · rcases HO.out with e | g
    · have h := HR.out
      subst e
      exact h.nilTo
    · exact HR.out.keep uu fun b hb hv => by have := (g b hv).1; rintro (rfl | rfl) <;> omega
  · rcases HO.out with g | g
    · exact Or.inl g
    · exact Or.inr fun b hb => ⟨by have := (g b hb).1; omega, Nat.lt_of_lt_of_le (g b hb).2 uu.size⟩
  · exact (UZ.out.trans U1.out (fun _ _ h => h)).trans uu (fun i hi h => by rcases h with rfl | rfl <;> omega)
end Go.Proofs.YtgdenmddbgcacaaGreatDoor
