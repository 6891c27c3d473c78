/- A heap in a row: plain. -/
import Derived.RowKit
import Derived.Handy
import Derived.WalkSpells
import Derived.WalkLawsBesides
import Derived.Deep.QuietTactic
import Derived.BigQuiet
import Derived.Lib.Hide
import Derived.Maps.Keyed
import Derived.Sort.LotA
set_option linter.unusedVariables false
set_option linter.unusedSimpArgs false
set_option linter.unusedSectionVars false
namespace Go.Proofs.YtgdenmddbgcacaaGreatDoor

namespace Pq
variable {β : Type} (le : β → β → Prop)
/-- Two change places. -/
def sw (e : Nat → β) (i j : Nat) : Nat → β := fun k => if k = i then e j else if k = j then e i else e k
/-- Each one of the first n is not ahead of the one above it. -/
def Heap (e : Nat → β) (n : Nat) : Prop := ∀ k, 0 < k → k < n → le (e ((k - 1) / 2)) (e k)
/-- But for place j, from which one goes up. -/
def UpOk (e : Nat → β) (n j : Nat) : Prop := (∀ k, 0 < k → k < n → k ≠ j → le (e ((k - 1) / 2)) (e k)) ∧ (∀ k, 0 < j → 0 < k → k < n → (k - 1) / 2 = j → le (e ((j - 1) / 2)) (e k))
/-- But for place i, from which one goes down; it came from i0. -/
def DownOk (e : Nat → β) (n i0 i : Nat) : Prop := i0 ≤ i ∧ (∀ k, 0 < k → k < n → (k - 1) / 2 ≠ i → ¬ (k = i ∧ i = i0) → le (e ((k - 1) / 2)) (e k)) ∧ (∀ k, 0 < i → 0 < k → k < n → (k - 1) / 2 = i → le (e ((i - 1) / 2)) (e k))
variable {le} (tr : ∀ a b c, le a b → le b c → le a c)
variable {e : Nat → β} {n i j i0 : Nat}
theorem UpOk.done0 (h : UpOk le e n 0) : Heap le e n := fun k h0 hn => h.1 k h0 hn (by omega)
theorem UpOk.done (h : UpOk le e n j) (hl : le (e ((j - 1) / 2)) (e j)) : Heap le e n := fun k h0 hn => by
  by_cases hk : k = j
  · rw [hk]; exact hl
  · exact h.1 k h0 hn hk
include tr in
theorem UpOk.step (h : UpOk le e n j) (h0 : 0 < j) (hn : j < n) (hl : le (e j) (e ((j - 1) / 2))) : UpOk le (sw e ((j - 1) / 2) j) n ((j - 1) / 2) := by
  obtain ⟨h1, h2⟩ := h
  generalize hi : (j - 1) / 2 = i at *
  refine ⟨fun k k0 kn ki => ?_, fun k i1 k0 kn ki => ?_⟩
  · unfold sw
    have hik : ¬ k = i := ki
    by_cases kj : k = j
    · subst kj; rw [hi, if_pos rfl, if_neg hik, if_pos rfl]; exact hl
    · rw [if_neg hik, if_neg kj]
      by_cases pj : (k - 1) / 2 = j
      · have : ¬ j = i := by omega
        rw [pj, if_neg this, if_pos rfl]; exact h2 k h0 k0 kn pj
      · by_cases pi : (k - 1) / 2 = i
        · rw [pi, if_pos rfl]
          have := h1 k k0 kn kj
          rw [pi] at this; exact tr _ _ _ hl this
        · rw [if_neg pi, if_neg pj]; exact h1 k k0 kn kj
  · unfold sw
    have g1 : ¬ (i - 1) / 2 = i := by omega
    have g2 : ¬ (i - 1) / 2 = j := by omega
    have hki : ¬ k = i := by omega
    have he := h1 i i1 (by omega) (by omega)
    rw [if_neg g1, if_neg g2, if_neg hki]
    by_cases kj : k = j
    · rw [if_pos kj]; exact he
    · rw [if_neg kj]
      have := h1 k k0 kn kj
      rw [ki] at this; exact tr _ _ _ he this
theorem DownOk.up (h : DownOk le e n i0 i0) (hc : ∀ k, 0 < k → k < n → (k - 1) / 2 = i0 → le (e i0) (e k)) : UpOk le e n i0 := by
  obtain ⟨_, h1, h2⟩ := h
  refine ⟨fun k k0 kn ki => ?_, h2⟩
  by_cases p : (k - 1) / 2 = i0
  · rw [p]; exact hc k k0 kn p
  · exact h1 k k0 kn p (fun h => ki h.1)
theorem DownOk.heap (h : DownOk le e n i0 i) (hi : i ≠ i0) (hc : ∀ k, 0 < k → k < n → (k - 1) / 2 = i → le (e i) (e k)) : Heap le e n := fun k k0 kn => by
  obtain ⟨_, h1, h2⟩ := h
  by_cases p : (k - 1) / 2 = i
  · rw [p]; exact hc k k0 kn p
  · exact h1 k k0 kn p (fun h => hi h.2)
theorem DownOk.heap0 (h : DownOk le e n 0 i) (hc : ∀ k, 0 < k → k < n → (k - 1) / 2 = i → le (e i) (e k)) : Heap le e n := fun k k0 kn => by
  obtain ⟨_, h1, h2⟩ := h
  by_cases p : (k - 1) / 2 = i
  · rw [p]; exact hc k k0 kn p
  · exact h1 k k0 kn p (fun h => by omega)
include tr in
theorem DownOk.step (h : DownOk le e n i0 i) (hj : (j - 1) / 2 = i) (j0 : 0 < j) (hn : j < n) (hl : le (e j) (e i)) (hm : ∀ k, 0 < k → k < n → (k - 1) / 2 = i → le (e j) (e k)) : DownOk le (sw e i j) n i0 j := by
  obtain ⟨h0, h1, h2⟩ := h
  refine ⟨by omega, fun k k0 kn kj kn2 => ?_, fun k i1 k0 kn ki => ?_⟩
  · unfold sw
    rw [if_neg kj]
    by_cases pi : (k - 1) / 2 = i
    · rw [if_pos pi]
      have hki : ¬ k = i := by omega
      rw [if_neg hki]
      by_cases e2 : k = j
      · rw [if_pos e2]; exact hl
      · rw [if_neg e2]; exact hm k k0 kn pi
    · rw [if_neg pi]
      by_cases e1 : k = i
      · rw [if_pos e1, e1]; exact h2 j (by omega) j0 hn hj
      · have e2 : ¬ k = j := fun e2 => pi (e2 ▸ hj)
        rw [if_neg e1, if_neg e2]
        exact h1 k k0 kn pi (fun h => e1 h.1)
  · unfold sw
    have e1 : ¬ k = i := by omega
    have e2 : ¬ k = j := by omega
    rw [hj, if_pos rfl, if_neg e1, if_neg e2]
    have := h1 k k0 kn (by omega) (by omega)
    rw [ki] at this; exact this
/-- The first one is ahead of all. -/
theorem Heap.first (rf : ∀ a, le a a) (tr : ∀ a b c, le a b → le b c → le a c) (h : Heap le e n) : ∀ k, k < n → le (e 0) (e k)
  | 0, _ => rf _
  | k + 1, hk => tr _ _ _ (Heap.first rf tr h (k / 2) (by omega)) (by have := h (k + 1) (by omega) hk; simpa using this)
theorem Heap.less {m : Nat} (h : Heap le e n) (hm : m ≤ n) : Heap le e m := fun k k0 kn => h k k0 (by omega)
/-- The last one has come. -/
theorem Heap.push (h : Heap le e n) : UpOk le e (n + 1) n := ⟨fun k k0 kn kj => h k k0 (by omega), fun k _ _ _ _ => by omega⟩
/-- One was turned into another one. -/
theorem Heap.turn (tr : ∀ a b c, le a b → le b c → le a c) (h : Heap le e n) (i : Nat) {e' : Nat → β} (he : ∀ k, k < n → k ≠ i → e' k = e k) : DownOk le e' n i i := by
  refine ⟨Nat.le_refl _, fun k k0 kn kp hk => ?_, fun k i1 k0 kn ki => ?_⟩
  · rw [he _ (by omega) kp, he k kn (fun h => hk ⟨h, rfl⟩)]; exact h k k0 kn
  · have a := h i i1 (by omega)
    have b := h k k0 kn
    rw [ki] at b
    rw [he k kn (by omega), he _ (by omega) (by omega)]; exact tr _ _ _ a b
theorem Heap.congr {e' : Nat → β} (h : Heap le e n) (he : ∀ k, k < n → e' k = e k) : Heap le e' n := fun k k0 kn => by
  rw [he k kn, he _ (by omega)]; exact h k k0 kn
end Pq

/-- Two of a list change places. -/
def swp {α : Type} (l : List α) (i j : Nat) : List α := match l[i]?, l[j]? with
  | some a, some b => (l.set i b).set j a
  | _, _ => l
theorem swp_len {α : Type} (l : List α) (i j : Nat) : (swp l i j).length = l.length := by unfold swp; split <;> simp
theorem swp_eq {α : Type} {l : List α} {i j : Nat} (hi : i < l.length) (hj : j < l.length) : swp l i j = (l.set i l[j]).set j l[i] := by
  unfold swp; rw [List.getElem?_eq_getElem hi, List.getElem?_eq_getElem hj]
theorem swp_get {α : Type} {l : List α} {i j : Nat} (hi : i < l.length) (hj : j < l.length) (k : Nat) : (swp l i j)[k]? = if k = i then l[j]? else if k = j then l[i]? else l[k]? := by
  rw [swp_eq hi hj, List.getElem?_set, List.getElem?_set]
  grind
theorem swp_perm {α : Type} [BEq α] [LawfulBEq α] (l : List α) (i j : Nat) : (swp l i j).Perm l := by
  by_cases hi : i < l.length
  · by_cases hj : j < l.length
    · rw [swp_eq hi hj]
      rw [List.perm_iff_count]
      intro a
      rw [List.count_set (by simpa using hj), List.count_set hi, List.getElem_set]
      have h1 : l[i] ∈ l := List.getElem_mem hi
      have h2 : l[j] ∈ l := List.getElem_mem hj
      have c1 : 0 < l.count l[i] := List.count_pos_iff.2 h1
      have c2 : 0 < l.count l[j] := List.count_pos_iff.2 h2
      by_cases e1 : l[i] = a <;> by_cases e2 : l[j] = a <;> by_cases e3 : i = j <;> grind
    · have : l[j]? = none := List.getElem?_eq_none (by omega)
      unfold swp; rw [this]; split <;> first | exact List.Perm.refl _ | simp_all
  · have : l[i]? = none := List.getElem?_eq_none (by omega)
    unfold swp; rw [this]
end Go.Proofs.YtgdenmddbgcacaaGreatDoor
/- A small library for heap facts: whole blocks, and a frame with a footprint. -/
set_option linter.unusedVariables false
set_option linter.unusedSimpArgs false
namespace Go.Proofs.YtgdenmddbgcacaaGreatDoor
open Go.RowKit

/-- Block b is the row of cells cs, of type T, no cell of it frozen. -/
def Blk (w : World) (b : Nat) (cs : List Value) (T : TypeId) : Prop := w.heap[b]? = some (.cells cs.toArray T (0, 0))

theorem Blk.cell {w : World} {b : Nat} {cs : List Value} {T : TypeId} (h : Blk w b cs T) (i : Nat) : w.cell? ⟨b, i, none⟩ = cs[i]? := by
  unfold Blk at h; unfold World.cell?; simp [h]
theorem Blk.cellAt {w : World} {b : Nat} {cs : List Value} {T : TypeId} (h : Blk w b cs T) {i : Nat} {v : Value} (hv : cs[i]? = some v) : w.cell? ⟨b, i, none⟩ = some v := by
  rw [h.cell, hv]
theorem Blk.free {w : World} {b : Nat} {cs : List Value} {T : TypeId} (h : Blk w b cs T) (i : Nat) : w.frozen? ⟨b, i, none⟩ = false := by
  unfold Blk at h; unfold World.frozen?; simp [h]
theorem Blk.lt {w : World} {b : Nat} {cs : List Value} {T : TypeId} (h : Blk w b cs T) : b < w.heap.size := by
  unfold Blk at h
  by_cases hb : b < w.heap.size
  · exact hb
  · simp [Array.getElem?_eq_none (by omega : w.heap.size ≤ b)] at h
theorem Blk.shape {w : World} {b : Nat} {cs : List Value} {T : TypeId} (h : Blk w b cs T) : w.shape? b = some (T, cs.length) := by
  unfold Blk at h; unfold World.shape?; simp [h]
theorem Blk.set {w : World} {b : Nat} {cs : List Value} {T : TypeId} (h : Blk w b cs T) (o : Nat) (v : Value) : Blk (w.setCell ⟨b, o, none⟩ v) b (cs.set o v) T := by
  unfold Blk at *; unfold World.setCell
  simp [Array.getElem?_modify, h]
theorem Blk.set_other {w : World} {b : Nat} {cs : List Value} {T : TypeId} (h : Blk w b cs T) {b' o : Nat} {v : Value} (hne : b ≠ b') : Blk (w.setCell ⟨b', o, none⟩ v) b cs T := by
  unfold Blk at *; rw [Below.heap_setCell _ _ _ _ hne]; exact h
theorem Blk.alloc {w : World} {b : Nat} {cs : List Value} {T : TypeId} (h : Blk w b cs T) (o : Obj) : Blk (w.alloc o) b cs T := by
  have hb := h.lt
  unfold Blk at *; rw [Below.heap_alloc _ _ _ hb]; exact h
theorem Blk.made (w : World) (cs : List Value) (T : TypeId) : Blk (w.alloc (.cells cs.toArray T)) w.heap.size cs T := by
  unfold Blk; show (w.heap.push _)[w.heap.size]? = _
  simp
theorem Blk.drewN {w : World} {b : Nat} {cs : List Value} {T : TypeId} (h : Blk w b cs T) (n : Nat) : Blk (w.drewN n) b cs T := h
theorem Blk.drew {w : World} {b : Nat} {cs : List Value} {T : TypeId} (h : Blk w b cs T) : Blk w.drew b cs T := h
theorem Blk.inj {w : World} {b : Nat} {cs cs' : List Value} {T T' : TypeId} (h : Blk w b cs T) (h' : Blk w b cs' T') : cs = cs' := by
  unfold Blk at *; rw [h] at h'; simp at h'; exact h'.1

/-- A pointer to block b. -/
def ptr (b : Nat) : Value := .pointer (some ⟨b, 0, none⟩)
/-- But for the blocks of F (and new ones) the world w' is as w was. -/
structure Upd (F : Nat → Prop) (w w' : World) : Prop where
  os : w'.os = w.os
  tape : w'.tape = w.tape
  output : w'.output = w.output
  size : w.heap.size ≤ w'.heap.size
  block : ∀ k, k < w.heap.size → ¬ F k → w'.heap[k]? = w.heap[k]?

theorem Upd.refl (F : Nat → Prop) (w : World) : Upd F w w := ⟨rfl, rfl, rfl, Nat.le_refl _, fun _ _ _ => rfl⟩
theorem Upd.trans {F G : Nat → Prop} {a b c : World} (h : Upd F a b) (k : Upd G b c) (hs : ∀ i, i < a.heap.size → G i → F i) : Upd F a c :=
  ⟨k.os.trans h.os, k.tape.trans h.tape, k.output.trans h.output, Nat.le_trans h.size k.size, fun i hi hF =>
    (k.block i (Nat.lt_of_lt_of_le hi h.size) (fun hg => hF (hs i hi hg))).trans (h.block i hi hF)⟩
theorem Upd.weaken {F G : Nat → Prop} {w w' : World} (h : Upd G w w') (hs : ∀ i, i < w.heap.size → G i → F i) : Upd F w w' :=
  ⟨h.os, h.tape, h.output, h.size, fun k hk hF => h.block k hk fun hg => hF (hs k hk hg)⟩
theorem Upd.set {F : Nat → Prop} {a w : World} (h : Upd F a w) {b o : Nat} {v : Value} (hp : b < a.heap.size → F b) : Upd F a (w.setCell ⟨b, o, none⟩ v) :=
  ⟨h.os, h.tape, h.output, by simpa [World.setCell] using h.size, fun k hk hF => by
    have : k ≠ b := fun e => hF (e ▸ hp (e ▸ hk))
    rw [Below.heap_setCell _ _ _ _ this]; exact h.block k hk hF⟩
theorem Upd.alloc {F : Nat → Prop} {a w : World} (h : Upd F a w) (o : Obj) : Upd F a (w.alloc o) :=
  ⟨h.os, h.tape, h.output, by simpa using Nat.le_succ_of_le h.size, fun k hk hF => by
    rw [Below.heap_alloc _ _ _ (Nat.lt_of_lt_of_le hk h.size)]; exact h.block k hk hF⟩
theorem Upd.drewN {F : Nat → Prop} {a w : World} (h : Upd F a w) (n : Nat) : Upd F a (w.drewN n) := ⟨h.os, h.tape, h.output, h.size, h.block⟩
theorem Upd.drew {F : Nat → Prop} {a w : World} (h : Upd F a w) : Upd F a w.drew := ⟨h.os, h.tape, h.output, h.size, h.block⟩
theorem Upd.blk {F : Nat → Prop} {w w' : World} (h : Upd F w w') {b : Nat} {cs : List Value} {T : TypeId} (hb : Blk w b cs T) (hF : ¬ F b) : Blk w' b cs T := by
  have := hb.lt
  unfold Blk at *; rw [h.block b this hF]; exact hb
theorem Upd.below {F : Nat → Prop} {w w' : World} (h : Upd F w w') {B : Nat} (hB : B ≤ w.heap.size) (hF : ∀ i, F i → B ≤ i) : Below B w w' :=
  ⟨h.os, h.tape, h.output, h.size, fun k hk => h.block k (by omega) fun hf => by have := hF k hf; omega⟩
theorem Upd.of_below {w w' : World} {B : Nat} (h : Below B w w') : Upd (fun k => B ≤ k) w w' :=
  ⟨h.os, h.tape, h.output, h.size, fun k _ hF => h.block k (by omega)⟩
theorem Upd.cell {F : Nat → Prop} {w w' : World} (h : Upd F w w') {p : Addr} (hl : p.block < w.heap.size) (hF : ¬ F p.block) : w'.cell? p = w.cell? p :=
  World.cell?_of_block (w := w) (h.block p.block hl hF)
theorem Upd.frozen {F : Nat → Prop} {w w' : World} (h : Upd F w w') {p : Addr} (hl : p.block < w.heap.size) (hF : ¬ F p.block) : w'.frozen? p = w.frozen? p :=
  World.frozen?_of_block (w := w) (h.block p.block hl hF)

/-- Cells of a list of things, k cells each. -/
def flat {α : Type} (f : α → List Value) (l : List α) : List Value := l.flatMap f
theorem flat_length {α : Type} (f : α → List Value) (k : Nat) (hf : ∀ a, (f a).length = k) (l : List α) : (flat f l).length = l.length * k := by
  unfold flat
  induction l with
  | nil => simp
  | cons a l ih => simp only [List.flatMap_cons, List.length_append, hf, ih, List.length_cons]; rw [Nat.add_mul]; omega
theorem flat_get {α : Type} (f : α → List Value) (k : Nat) (hf : ∀ a, (f a).length = k) (l : List α) (i j : Nat) (hj : j < k) :
    (flat f l)[i * k + j]? = (l[i]?).bind fun a => (f a)[j]? := by
  unfold flat
  induction l generalizing i with
  | nil => simp
  | cons a l ih =>
    rw [List.flatMap_cons]
    cases i with
    | zero => simp only [Nat.zero_mul, Nat.zero_add, List.getElem?_cons_zero, Option.bind_some]; rw [List.getElem?_append_left (by rw [hf]; exact hj)]
    | succ i =>
      rw [List.getElem?_append_right (by rw [hf, Nat.add_mul]; omega), hf]
      have : (i + 1) * k + j - k = i * k + j := by rw [Nat.add_mul]; omega
      rw [this, ih]; simp
theorem flat_set {α : Type} (f : α → List Value) (k : Nat) (hf : ∀ a, (f a).length = k) (l : List α) (i j : Nat) (hj : j < k) (a b : α) (v : Value)
    (ha : l[i]? = some a) (hb : f b = (f a).set j v) : (flat f l).set (i * k + j) v = flat f (l.set i b) := by
  unfold flat
  induction l generalizing i with
  | nil => simp at ha
  | cons c l ih =>
    cases i with
    | zero =>
      simp only [List.getElem?_cons_zero, Option.some.injEq] at ha; subst ha
      simp only [Nat.zero_mul, Nat.zero_add, List.flatMap_cons, List.set_cons_zero]
      rw [List.set_append_left _ _ (by rw [hf]; exact hj), hb]
    | succ i =>
      simp only [List.getElem?_cons_succ] at ha
      simp only [List.flatMap_cons, List.set_cons_succ]
      rw [List.set_append_right _ _ (by rw [hf, Nat.add_mul]; omega), hf]
      have : (i + 1) * k + j - k = i * k + j := by rw [Nat.add_mul]; omega
      rw [this, ih i ha]

theorem Upd.of_grown {w w' : World} {row : Option Nat} (h : w.grownBy w' row) : Upd (fun k => some k = row) w w' :=
  ⟨h.os, h.tape, h.output, h.size, fun k hk hF => h.block k hk hF⟩
theorem own_keep {F : Nat → Prop} {w w' : World} {base : Nat} {e : TypeId} {size n : Nat} {v : Value} {xs : List Value} (h : w.ownsRow base e size v n xs) (u : Upd F w w') (hd : ∀ k, v.ownBlock = some k → ¬ F k) : w'.ownsRow base e size v n xs := by
  obtain ⟨h1, h2⟩ := h
  refine ⟨h1, ?_⟩
  rcases h2 with h2 | ⟨g, cap, cur, hv, hg, hh, r⟩
  · exact Or.inl h2
  · have hl : g < w.heap.size := by
      by_cases hb : g < w.heap.size
      · exact hb
      · simp [Array.getElem?_eq_none (by omega : w.heap.size ≤ g)] at hh
    exact Or.inr ⟨g, cap, cur, hv, hg, by rw [u.block g hl (hd g (by rw [hv]; rfl))]; exact hh, r⟩

theorem ret_int {k : IntKind} {a b : Int} (h : a = b) : Ending.returned (.int k a) = .returned (.int k b) := by rw [h]
theorem ret_bool {a b : Bool} (h : a = b) : Ending.returned (.bool a) = .returned (.bool b) := by rw [h]
theorem ret_ib {k : IntKind} {a : Int} {b : Bool} {x : Int × Bool} (h : (a, b) = x) : Ending.returned (.tuple #[.int k a, .bool b]) = .returned (.tuple #[.int k x.1, .bool x.2]) := by subst h; rfl
theorem toList_eq {a b : ByteArray} (h : (a.toList == b.toList) = true) : a = b := by
  have h' : a.toList = b.toList := by simpa using h
  rw [ByteArray.toList_eq, ByteArray.toList_eq] at h'
  cases a; cases b; simpa [Array.toList_inj] using h'
theorem toList_ne {a b : ByteArray} (h : (a.toList == b.toList) = false) : ¬ a = b := by
  rintro rfl; simp at h
theorem wrap_u64 (n : Int) : IntKind.u64.wrap n = n % 18446744073709551616 := by
  unfold IntKind.wrap; simp [IntKind.bits, IntKind.signed]
end Go.Proofs.YtgdenmddbgcacaaGreatDoor
/- Maps of the call's own, whatever their elements: a block of entries, said as a list of pairs. -/
set_option linter.unusedVariables false
set_option linter.unusedSimpArgs false
namespace Go.Proofs.YtgdenmddbgcacaaGreatDoor
open Go.RowKit

section plain
variable {κ ν : Type} [DecidableEq κ]
def aget (m : List (κ × ν)) (k : κ) : Option ν := match m with
  | [] => none
  | p :: r => if p.1 = k then some p.2 else aget r k
def aset (m : List (κ × ν)) (k : κ) (v : ν) : List (κ × ν) := match m with
  | [] => [(k, v)]
  | p :: r => if p.1 = k then (k, v) :: r else p :: aset r k v
def adel (m : List (κ × ν)) (k : κ) : List (κ × ν) := match m with
  | [] => []
  | p :: r => if p.1 = k then r else p :: adel r k
def akeys (m : List (κ × ν)) : List κ := m.map (·.1)
theorem aget_none {m : List (κ × ν)} {k : κ} : aget m k = none ↔ k ∉ akeys m := by
  induction m with
  | nil => simp [aget, akeys]
  | cons p r ih =>
    simp only [aget, akeys, List.map_cons, List.mem_cons, not_or]
    split
    · next h => simp [h]
    · next h => rw [ih]; exact ⟨fun h2 => ⟨fun e => h e.symm, h2⟩, fun h2 => h2.2⟩
theorem aget_aset (m : List (κ × ν)) (k k' : κ) (v : ν) : aget (aset m k v) k' = if k = k' then some v else aget m k' := by
  induction m with
  | nil => simp [aset, aget]
  | cons p r ih =>
    unfold aset
    split
    · next h =>
      simp only [aget]
      by_cases e : k = k'
      · simp [e]
      · have : ¬ p.1 = k' := fun e2 => e (h ▸ e2)
        simp [e, this]
    · next h =>
      simp only [aget, ih]
      by_cases e : k = k'
      · have : ¬ p.1 = k' := fun e2 => h (e2.trans e.symm)
        simp [e, this]
      · simp [e]
theorem akeys_aset (m : List (κ × ν)) (k : κ) (v : ν) : akeys (aset m k v) = if k ∈ akeys m then akeys m else akeys m ++ [k] := by
  induction m with
  | nil => simp [aset, akeys]
  | cons p r ih =>
    unfold aset
    split
    · next h => simp [akeys, h]
    · next h =>
      have e : akeys (p :: aset r k v) = p.1 :: akeys (aset r k v) := rfl
      rw [e, ih]
      have hne : ¬ k = p.1 := fun e => h e.symm
      simp only [akeys, List.map_cons, List.mem_cons, hne, false_or]
      split
      · next hk => simp [hk]
      · next hk => simp [hk]
theorem nodup_aset {m : List (κ × ν)} (h : (akeys m).Nodup) (k : κ) (v : ν) : (akeys (aset m k v)).Nodup := by
  rw [akeys_aset]
  split
  · exact h
  · next hk => rw [List.nodup_append]; exact ⟨h, by simp, fun a ha b hb => by simp at hb; subst hb; exact fun e => hk (e ▸ ha)⟩
theorem akeys_adel (m : List (κ × ν)) (k : κ) : akeys (adel m k) = (akeys m).erase k := by
  induction m with
  | nil => simp [adel, akeys]
  | cons p r ih =>
    unfold adel
    split
    · next h => simp [akeys, h]
    · next h =>
      have e : akeys (p :: adel r k) = p.1 :: akeys (adel r k) := rfl
      rw [e, ih]
      simp only [akeys, List.map_cons]
      rw [List.erase_cons_tail (by simpa using h)]
theorem nodup_adel {m : List (κ × ν)} (h : (akeys m).Nodup) (k : κ) : (akeys (adel m k)).Nodup := by
  rw [akeys_adel]; exact h.erase k
theorem aget_adel {m : List (κ × ν)} (h : (akeys m).Nodup) (k k' : κ) : aget (adel m k) k' = if k = k' then none else aget m k' := by
  induction m with
  | nil => simp [adel, aget]
  | cons p r ih =>
    simp only [akeys, List.map_cons, List.nodup_cons] at h
    unfold adel
    split
    · next hp =>
      by_cases e : k = k'
      · rw [if_pos e]; subst e; rw [aget_none]; rw [hp] at h; exact h.1
      · rw [if_neg e]
        have : ¬ p.1 = k' := fun e2 => e (hp ▸ e2)
        simp [aget, this]
    · next hp =>
      simp only [aget]
      rw [ih h.2]
      by_cases e : k = k'
      · have : ¬ p.1 = k' := fun e2 => hp (e2.trans e.symm)
        simp [e, this]
      · simp [e]
end plain

/-- Keys of type K are the things of κ, by enc. -/
structure KeyOk (P : Program) (K : TypeId) {κ : Type} [DecidableEq κ] (enc : κ → Value) : Prop where
  find : ∃ desc, P.underlying K = some desc ∧ ∀ a b, Instr.sameNow desc (enc a) (enc b) = some (decide (a = b))
  same : ∀ a, Instr.sameBits 10000 (enc a) (enc a) = true
  chk : ∀ (e : Bool) a (w : World), (Instr.checkKey e 10000 K (enc a)).run P w = .ok () w

theorem bytes_beq (a b : ByteArray) : (a == b) = decide (a = b) := by
  cases a with
  | mk x => cases b with
    | mk y =>
      show (x == y) = _
      rw [Bool.eq_iff_iff]; simp
theorem stringKey {P : Program} {K : TypeId} (h : P.underlying K = some .string) : KeyOk P K (fun s : ByteArray => Value.string s) :=
  ⟨⟨_, h, fun a b => by simp only [Instr.sameNow, bytes_beq]⟩, fun a => by simp only [Instr.sameBits, bytes_beq, decide_true], fun e a w => by
    rw [show (10000 : Nat) = 9999 + 1 from rfl, Instr.checkKey]; simp [run_underlying h]⟩
theorem intKey {P : Program} {K : TypeId} {q : IntKind} (h : P.underlying K = some (.int q)) : KeyOk P K (fun n : Int => Value.int q n) :=
  ⟨⟨_, h, fun a b => by simp only [Instr.sameNow, if_true]; congr 1⟩, fun a => by simp [Instr.sameBits], fun e a w => by
    rw [show (10000 : Nat) = 9999 + 1 from rfl, Instr.checkKey]; simp [run_underlying h]⟩

set_option linter.unusedSectionVars false
section
variable {κ : Type} [DecidableEq κ] {enc : κ → Value}
/-- Block b is a map that holds the pairs m, in the order in which their keys came. -/
def MapAt (enc : κ → Value) (w : World) (b : Nat) (m : List (κ × Value)) : Prop :=
  ∃ es clock, w.heap[b]? = some (.map es clock) ∧ es.toList.map (fun e => (e.key, e.val)) = (m.map fun p => (enc p.1, p.2)) ∧ MapKept.Stamped es clock

theorem MapAt.lt {w : World} {b : Nat} {m : List (κ × Value)} (h : MapAt enc w b m) : b < w.heap.size := by
  obtain ⟨es, clock, hb, _⟩ := h; exact (Array.getElem?_eq_some_iff.1 hb).1
theorem MapAt.keep {w w' : World} {b : Nat} {m : List (κ × Value)} (h : MapAt enc w b m) {F : Nat → Prop} (u : Upd F w w') (hF : ¬ F b) : MapAt enc w' b m := by
  have hl := h.lt
  obtain ⟨es, clock, hb, he, hs⟩ := h; exact ⟨es, clock, by rw [u.block b hl hF]; exact hb, he, hs⟩
theorem MapAt.made (w : World) : MapAt enc (w.alloc (.map #[] 0)) w.heap.size [] :=
  ⟨#[], 0, by show (w.heap.push _)[w.heap.size]? = _; simp, rfl, MapKept.stamped_empty 0⟩

theorem findNow_eq {desc : TypeDesc} (hn : ∀ a b, Instr.sameNow desc (enc a) (enc b) = some (decide (a = b))) (k : κ) :
    ∀ (es : List MapEntry) (m : List (κ × Value)) (i : Nat), es.map (fun e => (e.key, e.val)) = m.map (fun p => (enc p.1, p.2)) →
      (aget m k = none → Instr.findNow desc (enc k) es i = some none) ∧
      (∀ v, aget m k = some v → ∃ j, j < es.length ∧ Instr.findNow desc (enc k) es i = some (some (i + j, v)) ∧ (es[j]?).map (·.key) = some (enc k) ∧
        (∀ u, (es.modify j fun e => { e with key := enc k, val := u }).map (fun e => (e.key, e.val)) = (aset m k u).map (fun p => (enc p.1, p.2))) ∧
        (es.eraseIdx j).map (fun e => (e.key, e.val)) = (adel m k).map (fun p => (enc p.1, p.2)))
  | [], [], i, _ => ⟨fun _ => rfl, fun v h => by simp [aget] at h⟩
  | [], _ :: _, i, h => by simp at h
  | _ :: _, [], i, h => by simp at h
  | e :: es, p :: m, i, h => by
    simp only [List.map_cons, List.cons.injEq, Prod.mk.injEq] at h
    obtain ⟨⟨h1, h2⟩, h3⟩ := h
    obtain ⟨r1, r2⟩ := findNow_eq hn k es m (i + 1) h3
    by_cases hp : p.1 = k
    · refine ⟨fun hh => by simp [aget, hp] at hh, fun v hv => ?_⟩
      simp only [aget, hp, if_true, Option.some.injEq] at hv
      refine ⟨0, by simp, ?_, ?_, fun u => ?_, ?_⟩
      · unfold Instr.findNow; rw [h1, hn, hp]; simp [h2, hv]
      · simp [h1, hp]
      · simp [List.modify_cons, aset, hp, h3]
      · simp [adel, hp, h3]
    · have hd : decide (k = p.1) = false := by simpa using fun e => hp e.symm
      refine ⟨fun hh => ?_, fun v hv => ?_⟩
      · simp only [aget, hp, if_false] at hh
        unfold Instr.findNow; rw [h1, hn, hd]; exact r1 hh
      · simp only [aget, hp, if_false] at hv
        obtain ⟨j, j1, j2, j3, j4, j5⟩ := r2 v hv
        refine ⟨j + 1, by simp; omega, ?_, ?_, fun u => ?_, ?_⟩
        · unfold Instr.findNow; rw [h1, hn, hd]; simp only; rw [j2]; congr 3; omega
        · simpa using j3
        · simp only [List.modify_cons, Nat.add_one_ne_zero, if_false, Nat.add_sub_cancel, List.map_cons, aset, hp]
          rw [j4 u, h1, h2]
        · simp only [List.eraseIdx_cons_succ, List.map_cons, adel, hp, if_false]
          rw [j5, h1, h2]

theorem run_findKey {P : Program} {K : TypeId} (ok : KeyOk P K enc) (w : World) (k : κ) (es : Array MapEntry) (m : List (κ × Value)) (h : es.toList.map (fun e => (e.key, e.val)) = m.map fun p => (enc p.1, p.2)) :
    (aget m k = none → (Instr.findKey K (enc k) es.toList).run P w = .ok none w) ∧
    (∀ v, aget m k = some v → ∃ j, j < es.size ∧ (Instr.findKey K (enc k) es.toList).run P w = .ok (some (j, v)) w ∧ (es[j]?).map (·.key) = some (enc k) ∧
      (∀ u, (es.modify j fun e => { e with key := enc k, val := u }).toList.map (fun e => (e.key, e.val)) = (aset m k u).map (fun p => (enc p.1, p.2))) ∧
      (es.eraseIdxIfInBounds j).toList.map (fun e => (e.key, e.val)) = (adel m k).map (fun p => (enc p.1, p.2))) := by
  obtain ⟨desc, hd, hn⟩ := ok.find
  obtain ⟨r1, r2⟩ := findNow_eq hn k es.toList m 0 h
  refine ⟨fun hh => ?_, fun v hv => ?_⟩
  · simp [Instr.findKey, run_underlying hd, r1 hh]
  · obtain ⟨j, j1, j2, j3, j4, j5⟩ := r2 v hv
    refine ⟨j, by simpa using j1, ?_, ?_, fun u => ?_, ?_⟩
    · simp [Instr.findKey, run_underlying hd, j2]
    · simpa using j3
    · rw [← j4 u]; congr 1; simp [Array.toList_modify]
    · rw [← j5]; congr 1
      have : j < es.size := by simpa using j1
      simp [Array.eraseIdxIfInBounds, this]

theorem KeyOk.inj {P : Program} {K : TypeId} (ok : KeyOk P K enc) {a b : κ} (h : enc a = enc b) : a = b := by
  obtain ⟨desc, hd, hn⟩ := ok.find
  have h1 := hn a b
  rw [← h, hn a a] at h1
  simpa using h1
/-- The world in which map b has a pair more, or another value. -/
def putIn (w : World) (b : Nat) (es : Array MapEntry) (c : Nat) : World := { w with heap := w.heap.setIfInBounds b (.map es c) }
theorem putIn_upd (w : World) (b : Nat) (es : Array MapEntry) (c : Nat) : Upd (fun k => k = b) w (putIn w b es c) :=
  ⟨rfl, rfl, rfl, by simp [putIn], fun k hk hF => by simp only [putIn]; rw [Array.getElem?_setIfInBounds_ne (fun e => hF e.symm)]⟩
theorem putIn_map {w : World} {b : Nat} {o : Obj} (h : w.heap[b]? = some o) (es : Array MapEntry) (c : Nat) : (putIn w b es c).heap[b]? = some (.map es c) := by
  simp only [putIn]; rw [Array.getElem?_setIfInBounds_self_of_lt (Array.getElem?_eq_some_iff.1 h).1]

section
variable {P : Program} {T K E : TypeId} {w : World} {b : Nat} {m : List (κ × Value)}
theorem MapAt.len (h : MapAt enc w b m) (R : TypeId) (hT : P.underlying T = some (.map K E)) (hl : m.length ≤ 9223372036854775807) : (Builtin.len_ #[T] R #[.map (some b)]).run P w = .ok (.int .i64 (m.length : Int)) w := by
  obtain ⟨es, c, hb, he, hst⟩ := h
  have hs : es.size = m.length := by have := congrArg List.length he; simpa using this
  simp [Builtin.len_, run_underlying hT, MapKept.run_getObj_map hb, goInt, Result.andThen, hs]
theorem MapAt.look (h : MapAt enc w b m) (ok : KeyOk P K enc) (hT : P.underlying T = some (.map K E)) {z : Value} (hz : (zeroValue E).run P w = .ok z w) (k : κ) (commaOk : Bool) :
    (Instr.lookup T (.map (some b)) (enc k) commaOk).run P w = .ok (if commaOk then .tuple #[(aget m k).getD z, .bool (aget m k).isSome] else (aget m k).getD z) w := by
  obtain ⟨es, c, hb, he, hst⟩ := h
  obtain ⟨r1, r2⟩ := run_findKey ok w k es m he
  cases hk : aget m k with
  | none => simp [Instr.lookup, run_underlying hT, MapKept.run_getObj_map hb, ok.chk, r1 hk, hz, Result.andThen]
  | some v =>
    obtain ⟨j, _, hr, _⟩ := r2 v hk
    simp [Instr.lookup, run_underlying hT, MapKept.run_getObj_map hb, ok.chk, hr, Result.andThen]
theorem MapAt.put (h : MapAt enc w b m) (ok : KeyOk P K enc) (hT : P.underlying T = some (.map K E)) (k : κ) (v : Value) :
    ∃ w', (Instr.mapUpdate T (.map (some b)) (enc k) v).run P w = .ok () w' ∧ MapAt enc w' b (aset m k v) ∧ Upd (fun i => i = b) w w' := by
  obtain ⟨es, c, hb, he, hst⟩ := h
  obtain ⟨r1, r2⟩ := run_findKey ok w k es m he
  cases hk : aget m k with
  | none =>
    have hnew : ∀ x ∈ es.toList, x.key ≠ enc k := fun x hx e => by
      have hx2 : (x.key, x.val) ∈ es.toList.map (fun e => (e.key, e.val)) := List.mem_map.2 ⟨x, hx, rfl⟩
      rw [he] at hx2
      obtain ⟨p, hp, ep⟩ := List.mem_map.1 hx2
      injection ep with e1 _
      have := ok.inj (e1.trans e)
      exact (aget_none.1 hk) (List.mem_map.2 ⟨p, hp, this⟩)
    refine ⟨putIn w b (es.push { key := enc k, val := v, born := c }) (c + 1), ?_, ⟨_, _, putIn_map hb _ _, ?_, MapKept.stamped_push hst hnew⟩, putIn_upd _ _ _ _⟩
    · simp [Instr.mapUpdate, run_underlying hT, MapKept.run_getObj_map hb, ok.chk, r1 hk, MapKept.run_setObj_map _ hb, Result.andThen, putIn]
    · have hs : aset m k v = m ++ [(k, v)] := by
        clear r1 r2 he
        induction m with
        | nil => rfl
        | cons p r ih =>
          simp only [aget] at hk
          split at hk
          · cases hk
          · next hp => simp only [aset, hp, if_false, ih hk, List.cons_append]
      rw [hs]; simp [he]
  | some u =>
    obtain ⟨j, hj, hr, hkey, hset, _⟩ := r2 u hk
    refine ⟨putIn w b (es.modify j fun e => { e with key := enc k, val := v }) c, ?_, ⟨_, _, putIn_map hb _ _, hset v, MapKept.stamped_modify hst j _ (fun _ _ => rfl) (fun e _ he2 => by rw [he2] at hkey; simpa using hkey.symm)⟩, putIn_upd _ _ _ _⟩
    have hkk : (((es[j]?).map (·.key)).getD (enc k)) = enc k := by rw [hkey]; rfl
    simp only [Instr.mapUpdate, Sem.run_bind, run_underlying hT, Result.andThen, MapKept.run_getObj_map hb, ok.chk, hr, hkk, Instr.keyThatStays, ok.same, if_true, Sem.run_pure]
    simp [MapKept.run_setObj_map _ hb, putIn, Result.andThen]
theorem MapAt.del (h : MapAt enc w b m) (ok : KeyOk P K enc) (hT : P.underlying T = some (.map K E)) (k : κ) (R : TypeId) :
    ∃ w', (Builtin.delete_ #[T, K] R #[.map (some b), enc k]).run P w = .ok (.tuple #[]) w' ∧ MapAt enc w' b (adel m k) ∧ Upd (fun i => i = b) w w' := by
  obtain ⟨es, c, hb, he, hst⟩ := h
  obtain ⟨r1, r2⟩ := run_findKey ok w k es m he
  cases hk : aget m k with
  | none =>
    refine ⟨putIn w b es c, ?_, ⟨_, _, putIn_map hb _ _, ?_, hst⟩, putIn_upd _ _ _ _⟩
    · simp [Builtin.delete_, run_underlying hT, MapKept.run_getObj_map hb, ok.chk, r1 hk, MapKept.run_setObj_map _ hb, Result.andThen, putIn]
    · have hs : adel m k = m := by
        clear r1 r2 he
        induction m with
        | nil => rfl
        | cons p r ih =>
          simp only [aget] at hk
          split at hk
          · cases hk
          · next hp => simp only [adel, hp, if_false, ih hk]
      rw [hs]; exact he
  | some u =>
    obtain ⟨j, hj, hr, _, _, hdel⟩ := r2 u hk
    refine ⟨putIn w b (es.eraseIdxIfInBounds j) c, ?_, ⟨_, _, putIn_map hb _ _, hdel, MapKept.stamped_erase hst j⟩, putIn_upd _ _ _ _⟩
    simp [Builtin.delete_, run_underlying hT, MapKept.run_getObj_map hb, ok.chk, hr, MapKept.run_setObj_map _ hb, Result.andThen, putIn]
end
end
end Go.Proofs.YtgdenmddbgcacaaGreatDoor
/- Dues in order, plain: by their time, then by their key. -/
set_option linter.unusedVariables false
set_option linter.unusedSimpArgs false
namespace Go.Proofs.YtgdenmddbgcacaaGreatDoor
open Go.RowKit

theorem bytesLess_lt (a b : List UInt8) : Op.bytesLess a b = decide (a < b) := by
  induction a generalizing b with
  | nil =>
    cases b with
    | nil => simp [Op.bytesLess]
    | cons y b => simp [Op.bytesLess]
  | cons x a ih =>
    cases b with
    | nil => simp [Op.bytesLess]
    | cons y b =>
      rw [Op.bytesLess, ih, Bool.eq_iff_iff]
      simp [List.cons_lt_cons_iff]
theorem bytes_ext {a b : ByteArray} (h : a.toList = b.toList) : a = b := by
  rw [ByteArray.toList_eq, ByteArray.toList_eq] at h
  cases a; cases b; simpa [Array.toList_inj] using h

def cmpV (l g : Bool) : Int := if l then -1 else if g then 1 else 0
def cmpS (a b : ByteArray) : Int := if Op.bytesLess a.toList b.toList then -1 else if a.toList == b.toList then 0 else 1
def orI (x y : Int) : Int := if x == 0 then y else x
/-- Which one is ahead, as the program says it. -/
def ordV (w1 : Int) (k1 : ByteArray) (w2 : Int) (k2 : ByteArray) : Int := orI (cmpV (decide (w1 < w2)) (decide (w2 < w1))) (cmpS k1 k2)

abbrev DueP := Int × ByteArray
/-- Is one ahead of another one? -/
def ltD (a b : DueP) : Prop := a.1 < b.1 ∨ a.1 = b.1 ∧ a.2.toList < b.2.toList
instance (a b : DueP) : Decidable (ltD a b) := by unfold ltD; infer_instance
theorem ltD_irrefl (a : DueP) : ¬ ltD a a := by
  rintro (h | ⟨_, h⟩)
  · omega
  · exact List.lt_irrefl _ h
theorem ltD_trans {a b c : DueP} (h : ltD a b) (k : ltD b c) : ltD a c := by
  rcases h with h | ⟨h1, h2⟩ <;> rcases k with k | ⟨k1, k2⟩
  · exact Or.inl (by omega)
  · exact Or.inl (by omega)
  · exact Or.inl (by omega)
  · exact Or.inr ⟨by omega, List.lt_trans h2 k2⟩
theorem ltD_total (a b : DueP) : ltD a b ∨ a = b ∨ ltD b a := by
  by_cases h : a.1 < b.1
  · exact Or.inl (Or.inl h)
  · by_cases k : b.1 < a.1
    · exact Or.inr (Or.inr (Or.inl k))
    · have e : a.1 = b.1 := by omega
      by_cases h2 : a.2.toList < b.2.toList
      · exact Or.inl (Or.inr ⟨e, h2⟩)
      · by_cases k2 : b.2.toList < a.2.toList
        · exact Or.inr (Or.inr (Or.inr ⟨e.symm, k2⟩))
        · exact Or.inr (Or.inl (Prod.ext e (bytes_ext (List.le_antisymm (List.not_lt.1 k2) (List.not_lt.1 h2)))))
theorem ltD_asymm {a b : DueP} (h : ltD a b) : ¬ ltD b a := fun k => ltD_irrefl a (ltD_trans h k)
/-- Not behind. -/
def leD (a b : DueP) : Prop := ¬ ltD b a
theorem leD_refl (a : DueP) : leD a a := ltD_irrefl a
theorem leD_trans (a b c : DueP) (h : leD a b) (k : leD b c) : leD a c := fun g => by
  rcases ltD_total a b with x | x | x
  · rcases ltD_total b c with y | y | y
    · exact ltD_asymm (ltD_trans x y) g
    · subst y; exact ltD_asymm x g
    · exact k y
  · subst x; exact k g
  · exact h x
theorem leD_of (a b : DueP) (h : ¬ ltD a b) : leD b a := h
theorem leD_lt {a b : DueP} (h : ltD a b) : leD a b := ltD_asymm h
theorem ord_neg (w1 : Int) (k1 : ByteArray) (w2 : Int) (k2 : ByteArray) : decide (ordV w1 k1 w2 k2 < 0) = decide (ltD (w1, k1) (w2, k2)) := by
  rw [Bool.eq_iff_iff, decide_eq_true_eq, decide_eq_true_eq]
  unfold ordV orI cmpV cmpS ltD
  rw [bytesLess_lt]
  simp only
  by_cases h : w1 < w2
  · simp [h]
  · by_cases k : w2 < w1
    · have : ¬ w1 = w2 := by omega
      simp [h, k, this]
    · have e : w1 = w2 := by omega
      subst e
      by_cases g : k1.toList < k2.toList
      · simp [g]
      · by_cases g2 : k1.toList = k2.toList
        · simp [g2, List.lt_irrefl]
        · simp [g, g2]

/-- In order, each once. -/
abbrev Rise (l : List DueP) : Prop := l.Pairwise ltD
theorem rise_eq {l m : List DueP} (hl : Rise l) (hm : Rise m) (h : l.Perm m) : l = m := by
  refine List.Perm.eq_of_pairwise (fun a b _ _ h1 h2 => absurd h2 (ltD_asymm h1)) hl hm h
theorem Rise.nodup {l : List DueP} (h : Rise l) : l.Nodup := h.imp fun hab e => by subst e; exact ltD_irrefl _ hab
/-- One more, in its place. -/
def insD (x : DueP) : List DueP → List DueP
  | [] => [x]
  | d :: r => if ltD x d then x :: d :: r else d :: insD x r
theorem insD_perm (x : DueP) (l : List DueP) : (insD x l).Perm (x :: l) := by
  induction l with
  | nil => exact List.Perm.refl _
  | cons d r ih =>
    unfold insD; split
    · exact List.Perm.refl _
    · exact (ih.cons d).trans (List.Perm.swap x d r)
theorem insD_rise {x : DueP} {l : List DueP} (h : Rise l) (hx : x ∉ l) : Rise (insD x l) := by
  induction l with
  | nil => exact List.pairwise_singleton _ _
  | cons d r ih =>
    obtain ⟨h1, h2⟩ := List.pairwise_cons.1 h
    unfold insD; split
    · next hd => exact List.pairwise_cons.2 ⟨fun y hy => by
        rcases List.mem_cons.1 hy with rfl | hy
        · exact hd
        · exact ltD_trans hd (h1 y hy), h⟩
    · next hd =>
      refine List.pairwise_cons.2 ⟨fun y hy => ?_, ih h2 (fun hm => hx (by simp [hm]))⟩
      rcases List.mem_cons.1 ((insD_perm x r).mem_iff.1 hy) with rfl | hy
      · rcases ltD_total y d with g | g | g
        · exact absurd g hd
        · exact absurd (by simp [g]) hx
        · exact g
      · exact h1 y hy
/-- Without a key's. -/
def dropD (k : ByteArray) (l : List DueP) : List DueP := l.filter fun d => decide (d.2 ≠ k)
/-- With a key's. -/
def putD (k : ByteArray) (t : Int) (l : List DueP) : List DueP := insD (t, k) (dropD k l)
theorem dropD_rise {l : List DueP} (h : Rise l) (k : ByteArray) : Rise (dropD k l) := h.filter _
theorem dropD_mem {l : List DueP} {k : ByteArray} {d : DueP} : d ∈ dropD k l ↔ d ∈ l ∧ d.2 ≠ k := by unfold dropD; simp
theorem putD_rise {l : List DueP} (h : Rise l) (k : ByteArray) (t : Int) : Rise (putD k t l) := insD_rise (dropD_rise h k) (fun hm => (dropD_mem.1 hm).2 rfl)
theorem putD_perm (l : List DueP) (k : ByteArray) (t : Int) : (putD k t l).Perm ((t, k) :: dropD k l) := insD_perm _ _
theorem dropD_none {l : List DueP} {k : ByteArray} (h : k ∉ l.map (·.2)) : dropD k l = l := by
  unfold dropD; rw [List.filter_eq_self]; intro d hd; simp only [decide_eq_true_eq]; exact fun e => h (List.mem_map.2 ⟨d, hd, e⟩)
/-- When a key ends. -/
def getD11 (k : ByteArray) (l : List DueP) : Option Int := (l.find? fun d => decide (d.2 = k)).map (·.1)
/-- Those that have ended. -/
def dueD (now : Int) (l : List DueP) : List DueP := l.takeWhile fun d => decide (d.1 ≤ now)
theorem dueD_filter {l : List DueP} (h : Rise l) (now : Int) : l.filter (fun d => decide (d.1 ≤ now)) = dueD now l := by
  unfold dueD
  induction l with
  | nil => rfl
  | cons d r ih =>
    obtain ⟨h1, h2⟩ := List.pairwise_cons.1 h
    by_cases g : d.1 ≤ now
    · simp [g, ih h2]
    · have : r.filter (fun d => decide (d.1 ≤ now)) = [] := by
        rw [List.filter_eq_nil_iff]; intro x hx; have := h1 x hx; rcases this with a | ⟨a, _⟩ <;> simp <;> omega
      simp [g, this]
/-- So many have ended, and no more are asked for. -/
theorem due_end {l : List DueP} {now most : Int} {k : Nat} (hk : (k : Int) ≤ most ∨ k = 0) (hall : ∀ d ∈ l.take k, d.1 ≤ now) (hend : ¬ (k : Int) < most ∨ l.drop k = [] ∨ ∃ d, (l.drop k).head? = some d ∧ now < d.1) : (dueD now l).take most.toNat = l.take k := by
  unfold dueD
  have e1 : l.takeWhile (fun d => decide (d.1 ≤ now)) = l.take k ++ (l.drop k).takeWhile (fun d => decide (d.1 ≤ now)) := by
    conv => lhs; rw [← List.take_append_drop k l]
    rw [List.takeWhile_append_of_pos (fun d hd => by simpa using hall d hd)]
  have hlen : (l.take k).length ≤ k := List.length_take_le _ _
  rw [e1]
  rcases hend with h | h | ⟨d, h, hd⟩
  · have : most.toNat ≤ k := by omega
    by_cases hkl : k ≤ l.length
    · rcases hk with hk | hk
      · have : most.toNat = k := by omega
        rw [this, List.take_left' (by simp; omega)]
      · subst hk
        have : most.toNat = 0 := by omega
        rw [this]; rfl
    · have hdr : l.drop k = [] := List.drop_eq_nil_of_le (by omega)
      rw [hdr, List.takeWhile_nil, List.append_nil, List.take_of_length_le]
      rcases hk with hk | hk
      · omega
      · omega
  · rw [h, List.takeWhile_nil, List.append_nil, List.take_of_length_le]
    rcases hk with hk | hk <;> omega
  · have : (l.drop k).takeWhile (fun d => decide (d.1 ≤ now)) = [] := by
      cases hl : l.drop k with
      | nil => rfl
      | cons x r => rw [hl] at h; cases h; rw [List.takeWhile_cons_of_neg (by simp; omega)]
    rw [this, List.append_nil, List.take_of_length_le]
    rcases hk with hk | hk <;> omega
end Go.Proofs.YtgdenmddbgcacaaGreatDoor
