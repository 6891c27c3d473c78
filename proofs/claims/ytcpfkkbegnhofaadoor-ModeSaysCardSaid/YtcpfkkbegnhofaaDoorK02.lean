/- Maps of the call's own, whatever their elements: a block of entries, said as a list of pairs. -/
import Derived.Test.YtcpfkkbegnhofaaDoorK01
import Derived.Maps.Keyed
import Derived.Shelf.Spec.SearchS
set_option linter.unusedVariables false
set_option linter.unusedSimpArgs false
namespace Go.Proofs.YtcpfkkbegnhofaaDoor
open Go.RowKit

section plain
variable {κ ν : Type} [DecidableEq κ]
def aget (m : List (κ × ν)) (k : κ) : Option ν := match m with
  | [] => none
  | p :: r => if p.1 = k then some p.2 else aget r k
def aset (m : List (κ × ν)) (k : κ) (v : ν) : List (κ × ν) := match m with
  | [] => [(k, v)]
  | p :: r => if p.1 = k then (k, v) :: r else p :: aset r k v
def adel (m : List (κ × ν)) (k : κ) : List (κ × ν) := match m with
  | [] => []
  | p :: r => if p.1 = k then r else p :: adel r k
def akeys (m : List (κ × ν)) : List κ := m.map (·.1)
theorem aget_none {m : List (κ × ν)} {k : κ} : aget m k = none ↔ k ∉ akeys m := by
  induction m with
  | nil => simp [aget, akeys]
  | cons p r ih =>
    simp only [aget, akeys, List.map_cons, List.mem_cons, not_or]
    split
    · next h => simp [h]
    · next h => rw [ih]; exact ⟨fun h2 => ⟨fun e => h e.symm, h2⟩, fun h2 => h2.2⟩
theorem aget_aset (m : List (κ × ν)) (k k' : κ) (v : ν) : aget (aset m k v) k' = if k = k' then some v else aget m k' := by
  induction m with
  | nil => simp [aset, aget]
  | cons p r ih =>
    unfold aset
    split
    · next h =>
      simp only [aget]
      by_cases e : k = k'
      · simp [e]
      · have : ¬ p.1 = k' := fun e2 => e (h ▸ e2)
        simp [e, this]
    · next h =>
      simp only [aget, ih]
      by_cases e : k = k'
      · have : ¬ p.1 = k' := fun e2 => h (e2.trans e.symm)
        simp [e, this]
      · simp [e]
theorem akeys_aset (m : List (κ × ν)) (k : κ) (v : ν) : akeys (aset m k v) = if k ∈ akeys m then akeys m else akeys m ++ [k] := by
  induction m with
  | nil => simp [aset, akeys]
  | cons p r ih =>
    unfold aset
    split
    · next h => simp [akeys, h]
    · next h =>
      have e : akeys (p :: aset r k v) = p.1 :: akeys (aset r k v) := rfl
      rw [e, ih]
      have hne : ¬ k = p.1 := fun e => h e.symm
      simp only [akeys, List.map_cons, List.mem_cons, hne, false_or]
      split
      · next hk => simp [hk]
      · next hk => simp [hk]
theorem nodup_aset {m : List (κ × ν)} (h : (akeys m).Nodup) (k : κ) (v : ν) : (akeys (aset m k v)).Nodup := by
  rw [akeys_aset]
  split
  · exact h
  · next hk => rw [List.nodup_append]; exact ⟨h, by simp, fun a ha b hb => by simp at hb; subst hb; exact fun e => hk (e ▸ ha)⟩
theorem akeys_adel (m : List (κ × ν)) (k : κ) : akeys (adel m k) = (akeys m).erase k := by
  induction m with
  | nil => simp [adel, akeys]
  | cons p r ih =>
    unfold adel
    split
    · next h => simp [akeys, h]
    · next h =>
      have e : akeys (p :: adel r k) = p.1 :: akeys (adel r k) := rfl
      rw [e, ih]
      simp only [akeys, List.map_cons]
      rw [List.erase_cons_tail (by simpa using h)]
theorem nodup_adel {m : List (κ × ν)} (h : (akeys m).Nodup) (k : κ) : (akeys (adel m k)).Nodup := by
  rw [akeys_adel]; exact h.erase k
theorem aget_adel {m : List (κ × ν)} (h : (akeys m).Nodup) (k k' : κ) : aget (adel m k) k' = if k = k' then none else aget m k' := by
  induction m with
  | nil => simp [adel, aget]
  | cons p r ih =>
    simp only [akeys, List.map_cons, List.nodup_cons] at h
    unfold adel
    split
    · next hp =>
      by_cases e : k = k'
      · rw [if_pos e]; subst e; rw [aget_none]; rw [hp] at h; exact h.1
      · rw [if_neg e]
        have : ¬ p.1 = k' := fun e2 => e (hp ▸ e2)
        simp [aget, this]
    · next hp =>
      simp only [aget]
      rw [ih h.2]
      by_cases e : k = k'
      · have : ¬ p.1 = k' := fun e2 => hp (e2.trans e.symm)
        simp [e, this]
      · simp [e]
end plain

/-- Keys of type K are the things of κ, by enc. -/
structure KeyOk (P : Program) (K : TypeId) {κ : Type} [DecidableEq κ] (enc : κ → Value) : Prop where
  find : ∃ desc, P.underlying K = some desc ∧ ∀ a b, Instr.sameNow desc (enc a) (enc b) = some (decide (a = b))
  same : ∀ a, Instr.sameBits 10000 (enc a) (enc a) = true
  chk : ∀ (e : Bool) a (w : World), (Instr.checkKey e 10000 K (enc a)).run P w = .ok () w

theorem bytes_beq (a b : ByteArray) : (a == b) = decide (a = b) := by
  cases a with
  | mk x => cases b with
    | mk y =>
      show (x == y) = _
      rw [Bool.eq_iff_iff]; simp
theorem stringKey {P : Program} {K : TypeId} (h : P.underlying K = some .string) : KeyOk P K (fun s : ByteArray => Value.string s) :=
  ⟨⟨_, h, fun a b => by simp only [Instr.sameNow, bytes_beq]⟩, fun a => by simp only [Instr.sameBits, bytes_beq, decide_true], fun e a w => by
    rw [show (10000 : Nat) = 9999 + 1 from rfl, Instr.checkKey]; simp [run_underlying h]⟩
theorem intKey {P : Program} {K : TypeId} {q : IntKind} (h : P.underlying K = some (.int q)) : KeyOk P K (fun n : Int => Value.int q n) :=
  ⟨⟨_, h, fun a b => by simp only [Instr.sameNow, if_true]; congr 1⟩, fun a => by simp [Instr.sameBits], fun e a w => by
    rw [show (10000 : Nat) = 9999 + 1 from rfl, Instr.checkKey]; simp [run_underlying h]⟩

set_option linter.unusedSectionVars false
section
variable {κ : Type} [DecidableEq κ] {enc : κ → Value}
/-- Block b is a map that holds the pairs m, in the order in which their keys came. -/
def MapAt (enc : κ → Value) (w : World) (b : Nat) (m : List (κ × Value)) : Prop :=
  ∃ es clock, w.heap[b]? = some (.map es clock) ∧ es.toList.map (fun e => (e.key, e.val)) = (m.map fun p => (enc p.1, p.2)) ∧ MapKept.Stamped es clock

theorem MapAt.lt {w : World} {b : Nat} {m : List (κ × Value)} (h : MapAt enc w b m) : b < w.heap.size := by
  obtain ⟨es, clock, hb, _⟩ := h; exact (Array.getElem?_eq_some_iff.1 hb).1
theorem MapAt.keep {w w' : World} {b : Nat} {m : List (κ × Value)} (h : MapAt enc w b m) {F : Nat → Prop} (u : Upd F w w') (hF : ¬ F b) : MapAt enc w' b m := by
  have hl := h.lt
  obtain ⟨es, clock, hb, he, hs⟩ := h; exact ⟨es, clock, by rw [u.block b hl hF]; exact hb, he, hs⟩
theorem MapAt.made (w : World) : MapAt enc (w.alloc (.map #[] 0)) w.heap.size [] :=
  ⟨#[], 0, by show (w.heap.push _)[w.heap.size]? = _; simp, rfl, MapKept.stamped_empty 0⟩

theorem findNow_eq {desc : TypeDesc} (hn : ∀ a b, Instr.sameNow desc (enc a) (enc b) = some (decide (a = b))) (k : κ) :
    ∀ (es : List MapEntry) (m : List (κ × Value)) (i : Nat), es.map (fun e => (e.key, e.val)) = m.map (fun p => (enc p.1, p.2)) →
      (aget m k = none → Instr.findNow desc (enc k) es i = some none) ∧
      (∀ v, aget m k = some v → ∃ j, j < es.length ∧ Instr.findNow desc (enc k) es i = some (some (i + j, v)) ∧ (es[j]?).map (·.key) = some (enc k) ∧
        (∀ u, (es.modify j fun e => { e with key := enc k, val := u }).map (fun e => (e.key, e.val)) = (aset m k u).map (fun p => (enc p.1, p.2))) ∧
        (es.eraseIdx j).map (fun e => (e.key, e.val)) = (adel m k).map (fun p => (enc p.1, p.2)))
  | [], [], i, _ => ⟨fun _ => rfl, fun v h => by simp [aget] at h⟩
  | [], _ :: _, i, h => by simp at h
  | _ :: _, [], i, h => by simp at h
  | e :: es, p :: m, i, h => by
    simp only [List.map_cons, List.cons.injEq, Prod.mk.injEq] at h
    obtain ⟨⟨h1, h2⟩, h3⟩ := h
    obtain ⟨r1, r2⟩ := findNow_eq hn k es m (i + 1) h3
    by_cases hp : p.1 = k
    · refine ⟨fun hh => by simp [aget, hp] at hh, fun v hv => ?_⟩
      simp only [aget, hp, if_true, Option.some.injEq] at hv
      refine ⟨0, by simp, ?_, ?_, fun u => ?_, ?_⟩
      · unfold Instr.findNow; rw [h1, hn, hp]; simp [h2, hv]
      · simp [h1, hp]
      · simp [List.modify_cons, aset, hp, h3]
      · simp [adel, hp, h3]
    · have hd : decide (k = p.1) = false := by simpa using fun e => hp e.symm
      refine ⟨fun hh => ?_, fun v hv => ?_⟩
      · simp only [aget, hp, if_false] at hh
        unfold Instr.findNow; rw [h1, hn, hd]; exact r1 hh
      · simp only [aget, hp, if_false] at hv
        obtain ⟨j, j1, j2, j3, j4, j5⟩ := r2 v hv
        refine ⟨j + 1, by simp; omega, ?_, ?_, fun u => ?_, ?_⟩
        · unfold Instr.findNow; rw [h1, hn, hd]; simp only; rw [j2]; congr 3; omega
        · simpa using j3
        · simp only [List.modify_cons, Nat.add_one_ne_zero, if_false, Nat.add_sub_cancel, List.map_cons, aset, hp]
          rw [j4 u, h1, h2]
        · simp only [List.eraseIdx_cons_succ, List.map_cons, adel, hp, if_false]
          rw [j5, h1, h2]

theorem run_findKey {P : Program} {K : TypeId} (ok : KeyOk P K enc) (w : World) (k : κ) (es : Array MapEntry) (m : List (κ × Value)) (h : es.toList.map (fun e => (e.key, e.val)) = m.map fun p => (enc p.1, p.2)) :
    (aget m k = none → (Instr.findKey K (enc k) es.toList).run P w = .ok none w) ∧
    (∀ v, aget m k = some v → ∃ j, j < es.size ∧ (Instr.findKey K (enc k) es.toList).run P w = .ok (some (j, v)) w ∧ (es[j]?).map (·.key) = some (enc k) ∧
      (∀ u, (es.modify j fun e => { e with key := enc k, val := u }).toList.map (fun e => (e.key, e.val)) = (aset m k u).map (fun p => (enc p.1, p.2))) ∧
      (es.eraseIdxIfInBounds j).toList.map (fun e => (e.key, e.val)) = (adel m k).map (fun p => (enc p.1, p.2))) := by
  obtain ⟨desc, hd, hn⟩ := ok.find
  obtain ⟨r1, r2⟩ := findNow_eq hn k es.toList m 0 h
  refine ⟨fun hh => ?_, fun v hv => ?_⟩
  · simp [Instr.findKey, run_underlying hd, r1 hh]
  · obtain ⟨j, j1, j2, j3, j4, j5⟩ := r2 v hv
    refine ⟨j, by simpa using j1, ?_, ?_, fun u => ?_, ?_⟩
    · simp [Instr.findKey, run_underlying hd, j2]
    · simpa using j3
    · rw [← j4 u]; congr 1; simp [Array.toList_modify]
    · rw [← j5]; congr 1
      have : j < es.size := by simpa using j1
      simp [Array.eraseIdxIfInBounds, this]

theorem KeyOk.inj {P : Program} {K : TypeId} (ok : KeyOk P K enc) {a b : κ} (h : enc a = enc b) : a = b := by
  obtain ⟨desc, hd, hn⟩ := ok.find
  have h1 := hn a b
  rw [← h, hn a a] at h1
  simpa using h1
/-- The world in which map b has a pair more, or another value. -/
def putIn (w : World) (b : Nat) (es : Array MapEntry) (c : Nat) : World := { w with heap := w.heap.setIfInBounds b (.map es c) }
theorem putIn_upd (w : World) (b : Nat) (es : Array MapEntry) (c : Nat) : Upd (fun k => k = b) w (putIn w b es c) :=
  ⟨rfl, rfl, rfl, by simp [putIn], fun k hk hF => by simp only [putIn]; rw [Array.getElem?_setIfInBounds_ne (fun e => hF e.symm)]⟩
theorem putIn_map {w : World} {b : Nat} {o : Obj} (h : w.heap[b]? = some o) (es : Array MapEntry) (c : Nat) : (putIn w b es c).heap[b]? = some (.map es c) := by
  simp only [putIn]; rw [Array.getElem?_setIfInBounds_self_of_lt (Array.getElem?_eq_some_iff.1 h).1]

section
variable {P : Program} {T K E : TypeId} {w : World} {b : Nat} {m : List (κ × Value)}
theorem MapAt.len (h : MapAt enc w b m) (R : TypeId) (hT : P.underlying T = some (.map K E)) (hl : m.length ≤ 9223372036854775807) : (Builtin.len_ #[T] R #[.map (some b)]).run P w = .ok (.int .i64 (m.length : Int)) w := by
  obtain ⟨es, c, hb, he, hst⟩ := h
  have hs : es.size = m.length := by have := congrArg List.length he; simpa using this
  simp [Builtin.len_, run_underlying hT, MapKept.run_getObj_map hb, goInt, Result.andThen, hs]
theorem MapAt.look (h : MapAt enc w b m) (ok : KeyOk P K enc) (hT : P.underlying T = some (.map K E)) {z : Value} (hz : (zeroValue E).run P w = .ok z w) (k : κ) (commaOk : Bool) :
    (Instr.lookup T (.map (some b)) (enc k) commaOk).run P w = .ok (if commaOk then .tuple #[(aget m k).getD z, .bool (aget m k).isSome] else (aget m k).getD z) w := by
  obtain ⟨es, c, hb, he, hst⟩ := h
  obtain ⟨r1, r2⟩ := run_findKey ok w k es m he
  cases hk : aget m k with
  | none => simp [Instr.lookup, run_underlying hT, MapKept.run_getObj_map hb, ok.chk, r1 hk, hz, Result.andThen]
  | some v =>
    obtain ⟨j, _, hr, _⟩ := r2 v hk
    simp [Instr.lookup, run_underlying hT, MapKept.run_getObj_map hb, ok.chk, hr, Result.andThen]
theorem MapAt.put (h : MapAt enc w b m) (ok : KeyOk P K enc) (hT : P.underlying T = some (.map K E)) (k : κ) (v : Value) :
    ∃ w', (Instr.mapUpdate T (.map (some b)) (enc k) v).run P w = .ok () w' ∧ MapAt enc w' b (aset m k v) ∧ Upd (fun i => i = b) w w' := by
  obtain ⟨es, c, hb, he, hst⟩ := h
  obtain ⟨r1, r2⟩ := run_findKey ok w k es m he
  cases hk : aget m k with
  | none =>
    have hnew : ∀ x ∈ es.toList, x.key ≠ enc k := fun x hx e => by
      have hx2 : (x.key, x.val) ∈ es.toList.map (fun e => (e.key, e.val)) := List.mem_map.2 ⟨x, hx, rfl⟩
      rw [he] at hx2
      obtain ⟨p, hp, ep⟩ := List.mem_map.1 hx2
      injection ep with e1 _
      have := ok.inj (e1.trans e)
      exact (aget_none.1 hk) (List.mem_map.2 ⟨p, hp, this⟩)
    refine ⟨putIn w b (es.push { key := enc k, val := v, born := c }) (c + 1), ?_, ⟨_, _, putIn_map hb _ _, ?_, MapKept.stamped_push hst hnew⟩, putIn_upd _ _ _ _⟩
    · simp [Instr.mapUpdate, run_underlying hT, MapKept.run_getObj_map hb, ok.chk, r1 hk, MapKept.run_setObj_map _ hb, Result.andThen, putIn]
    · have hs : aset m k v = m ++ [(k, v)] := by
        clear r1 r2 he
        induction m with
        | nil => rfl
        | cons p r ih =>
          simp only [aget] at hk
          split at hk
          · cases hk
          · next hp => simp only [aset, hp, if_false, ih hk, List.cons_append]
      rw [hs]; simp [he]
  | some u =>
    obtain ⟨j, hj, hr, hkey, hset, _⟩ := r2 u hk
    refine ⟨putIn w b (es.modify j fun e => { e with key := enc k, val := v }) c, ?_, ⟨_, _, putIn_map hb _ _, hset v, MapKept.stamped_modify hst j _ (fun _ _ => rfl) (fun e _ he2 => by rw [he2] at hkey; simpa using hkey.symm)⟩, putIn_upd _ _ _ _⟩
    have hkk : (((es[j]?).map (·.key)).getD (enc k)) = enc k := by rw [hkey]; rfl
    simp only [Instr.mapUpdate, Sem.run_bind, run_underlying hT, Result.andThen, MapKept.run_getObj_map hb, ok.chk, hr, hkk, Instr.keyThatStays, ok.same, if_true, Sem.run_pure]
    simp [MapKept.run_setObj_map _ hb, putIn, Result.andThen]
theorem MapAt.del (h : MapAt enc w b m) (ok : KeyOk P K enc) (hT : P.underlying T = some (.map K E)) (k : κ) (R : TypeId) :
    ∃ w', (Builtin.delete_ #[T, K] R #[.map (some b), enc k]).run P w = .ok (.tuple #[]) w' ∧ MapAt enc w' b (adel m k) ∧ Upd (fun i => i = b) w w' := by
  obtain ⟨es, c, hb, he, hst⟩ := h
  obtain ⟨r1, r2⟩ := run_findKey ok w k es m he
  cases hk : aget m k with
  | none =>
    refine ⟨putIn w b es c, ?_, ⟨_, _, putIn_map hb _ _, ?_, hst⟩, putIn_upd _ _ _ _⟩
    · simp [Builtin.delete_, run_underlying hT, MapKept.run_getObj_map hb, ok.chk, r1 hk, MapKept.run_setObj_map _ hb, Result.andThen, putIn]
    · have hs : adel m k = m := by
        clear r1 r2 he
        induction m with
        | nil => rfl
        | cons p r ih =>
          simp only [aget] at hk
          split at hk
          · cases hk
          · next hp => simp only [adel, hp, if_false, ih hk]
      rw [hs]; exact he
  | some u =>
    obtain ⟨j, hj, hr, _, _, hdel⟩ := r2 u hk
    refine ⟨putIn w b (es.eraseIdxIfInBounds j) c, ?_, ⟨_, _, putIn_map hb _ _, hdel, MapKept.stamped_erase hst j⟩, putIn_upd _ _ _ _⟩
    simp [Builtin.delete_, run_underlying hT, MapKept.run_getObj_map hb, ok.chk, hr, MapKept.run_setObj_map _ hb, Result.andThen, putIn]
end
end
end Go.Proofs.YtcpfkkbegnhofaaDoor
/- Rising lists, whatever they hold; functions that change at a point. -/
set_option linter.unusedVariables false
set_option linter.unusedSimpArgs false
set_option linter.unusedSectionVars false
namespace Go.Proofs.YtcpfkkbegnhofaaDoor
open Go.RowKit

def upd {α β : Type} [DecidableEq α] (f : α → β) (a : α) (b : β) : α → β := fun x => if x = a then b else f x
theorem upd_at {α β : Type} [DecidableEq α] (f : α → β) (a : α) (b : β) : upd f a b a = b := by unfold upd; rw [if_pos rfl]
theorem upd_ne {α β : Type} [DecidableEq α] (f : α → β) {a x : α} (b : β) (h : x ≠ a) : upd f a b x = f x := by unfold upd; rw [if_neg h]
def intEnc (n : Int) : Value := .int .i64 n

class LinO (α : Type) [LT α] : Prop where
  irr : ∀ a : α, ¬ a < a
  tr : ∀ {a b c : α}, a < b → b < c → a < c
  tri : ∀ a b : α, a < b ∨ a = b ∨ b < a
instance : LinO Int := ⟨fun a => Int.lt_irrefl a, fun h k => Int.lt_trans h k, fun a b => by omega⟩
instance : LinO (List UInt8) := ⟨fun a => List.lt_irrefl a, fun h k => List.lt_trans h k, fun a b => by
  by_cases h : a < b
  · exact Or.inl h
  · rcases List.le_iff_lt_or_eq.1 (List.not_lt.1 h) with g | g
    · exact Or.inr (Or.inr g)
    · exact Or.inr (Or.inl g.symm)⟩

section
variable {α : Type} [LT α] [DecidableLT α] [DecidableEq α] [LinO α]
/-- A rising list with one more, each once. -/
def wth (l : List α) (x : α) : List α := l.filter (· < x) ++ x :: l.filter (x < ·)
abbrev Rising (l : List α) : Prop := l.Pairwise (· < ·)
omit [DecidableLT α] [DecidableEq α] in
theorem lin_asymm {a b : α} (h : a < b) : ¬ b < a := fun k => LinO.irr a (LinO.tr h k)
omit [DecidableLT α] [DecidableEq α] in
theorem rising_head {y : α} {r : List α} (h : Rising (y :: r)) {z : α} (hz : z ∈ r) : y < z := (List.pairwise_cons.1 h).1 z hz
theorem rising_split {l : List α} (h : Rising l) (x : α) : l = l.filter (· < x) ++ (l.filter (· = x) ++ l.filter (x < ·)) := by
  induction l with
  | nil => rfl
  | cons y r ih =>
    obtain ⟨h1, h2⟩ := List.pairwise_cons.1 h
    rcases LinO.tri y x with a | b | c
    · have b : ¬ y = x := fun e => LinO.irr x (e ▸ a)
      have c : ¬ x < y := lin_asymm a
      simp only [List.filter_cons, a, b, c, decide_true, decide_false, if_true, Bool.false_eq_true, if_false, List.cons_append]
      rw [← ih h2]
    · have a : ¬ y < x := fun e => LinO.irr x (b ▸ e)
      have c : ¬ x < y := fun e => LinO.irr x (by rw [b] at e; exact e)
      have e1 : r.filter (· < x) = [] := List.filter_eq_nil_iff.2 (fun z hz => by have := h1 z hz; rw [b] at this; simpa using lin_asymm this)
      have e2 : r.filter (· = x) = [] := List.filter_eq_nil_iff.2 (fun z hz => by have := h1 z hz; rw [b] at this; simp; intro e; rw [e] at this; exact LinO.irr x this)
      have ih2 := ih h2
      rw [e1, e2] at ih2
      simp only [List.filter_cons, a, b, c, e1, e2, decide_true, decide_false, if_true, Bool.false_eq_true, if_false, List.nil_append, List.cons_append]
      have hx : decide (x < x) = false := by simpa using LinO.irr x
      simp only [List.nil_append] at ih2
      simp only [hx, Bool.false_eq_true, if_false, List.nil_append, List.cons_append]
      rw [← ih2]
    · have a : ¬ y < x := lin_asymm c
      have b : ¬ y = x := fun e => LinO.irr x (by rw [e] at c; exact c)
      have e1 : r.filter (· < x) = [] := List.filter_eq_nil_iff.2 (fun z hz => by simpa using lin_asymm (LinO.tr c (h1 z hz)))
      have e2 : r.filter (· = x) = [] := List.filter_eq_nil_iff.2 (fun z hz => by simp; intro e; exact lin_asymm c (e ▸ h1 z hz))
      have ih2 := ih h2
      rw [e1, e2] at ih2
      simp only [List.filter_cons, a, b, c, e1, e2, decide_true, decide_false, if_true, Bool.false_eq_true, if_false, List.nil_append, List.cons_append]
      simp only [List.nil_append] at ih2
      rw [← ih2]
omit [DecidableEq α] [LinO α] in
theorem count_len (l : List α) (x : α) : l.countP (· < x) = (l.filter (· < x)).length := List.countP_eq_length_filter
omit [DecidableLT α] [DecidableEq α] in
theorem nodup_of_rising {l : List α} (h : Rising l) : l.Nodup := List.Pairwise.imp (S := fun a b : α => a ≠ b) (fun {a b} hab e => LinO.irr b (by subst e; exact hab)) h
theorem wth_in {l : List α} (h : Rising l) {x : α} (hx : x ∈ l) : wth l x = l := by
  have e := rising_split h x
  have e2 : l.filter (· = x) = [x] := by
    have hn : l.Nodup := nodup_of_rising h
    have hm : x ∈ l.filter (· = x) := List.mem_filter.2 ⟨hx, by simp⟩
    have hn2 : (l.filter (· = x)).Nodup := hn.filter _
    cases hf : l.filter (· = x) with
    | nil => rw [hf] at hm; simp at hm
    | cons y r =>
      have ha : ∀ z ∈ l.filter (· = x), z = x := fun z hz => by simpa using (List.mem_filter.1 hz).2
      rw [hf] at ha hn2
      have hy := ha y (by simp)
      cases r with
      | nil => rw [hy]
      | cons z r =>
        have hz := ha z (by simp)
        rw [hy, hz] at hn2; simp at hn2
  rw [e2] at e
  unfold wth
  exact e.symm
theorem wth_out {l : List α} (h : Rising l) {x : α} (hx : x ∉ l) : wth l x = l.take (l.countP (· < x)) ++ x :: l.drop (l.countP (· < x)) := by
  have e := rising_split h x
  have e2 : l.filter (· = x) = [] := List.filter_eq_nil_iff.2 (fun y hy => by simp; rintro rfl; exact hx hy)
  rw [e2, List.nil_append] at e
  have h1 : l.take (l.countP (· < x)) = l.filter (· < x) := by rw [count_len]; conv => lhs; arg 2; rw [e]
                                                               rw [List.take_left']; rfl
  have h2 : l.drop (l.countP (· < x)) = l.filter (x < ·) := by rw [count_len]; conv => lhs; arg 2; rw [e]
                                                               rw [List.drop_left']; rfl
  rw [h1, h2]; rfl
omit [DecidableEq α] in
theorem wth_rising {l : List α} (h : Rising l) (x : α) : Rising (wth l x) := by
  unfold wth
  refine List.pairwise_append.2 ⟨h.filter _, List.pairwise_cons.2 ⟨fun y hy => by simpa using (List.mem_filter.1 hy).2, h.filter _⟩, fun a ha b hb => ?_⟩
  have h1 : a < x := by simpa using (List.mem_filter.1 ha).2
  rcases List.mem_cons.1 hb with rfl | hb
  · exact h1
  · have : x < b := by simpa using (List.mem_filter.1 hb).2
    exact LinO.tr h1 this
theorem wth_mem {l : List α} {x y : α} : y ∈ wth l x ↔ y = x ∨ y ∈ l := by
  unfold wth
  simp only [List.mem_append, List.mem_cons, List.mem_filter, decide_eq_true_eq]
  constructor
  · rintro (⟨h, _⟩ | h | ⟨h, _⟩)
    · exact Or.inr h
    · exact Or.inl h
    · exact Or.inr h
  · rintro (h | h)
    · exact Or.inr (Or.inl h)
    · rcases LinO.tri y x with a | b | c
      · exact Or.inl ⟨h, a⟩
      · exact Or.inr (Or.inl b)
      · exact Or.inr (Or.inr ⟨h, c⟩)
omit [DecidableEq α] in
theorem wth_len (l : List α) (x : α) : (wth l x).length ≤ l.length + 1 := by
  have h : ∀ l : List α, (l.filter (· < x)).length + (l.filter (x < ·)).length ≤ l.length := by
    intro l
    induction l with
    | nil => simp
    | cons y r ih =>
      simp only [List.filter_cons]
      by_cases a : y < x
      · have c : ¬ x < y := lin_asymm a
        simp only [a, c, decide_true, decide_false, if_true, Bool.false_eq_true, if_false, List.length_cons]; omega
      · by_cases c : x < y
        · simp only [a, c, decide_true, decide_false, if_true, Bool.false_eq_true, if_false, List.length_cons]; omega
        · simp only [a, c, decide_false, Bool.false_eq_true, if_false, List.length_cons]; omega
  have := h l
  unfold wth
  simp only [List.length_append, List.length_cons]; omega
omit [DecidableLT α] [DecidableEq α] in
/-- Two rising lists of the same things are the same. -/
theorem rising_ext : ∀ {a b : List α}, Rising a → Rising b → (∀ x, x ∈ a ↔ x ∈ b) → a = b
  | [], [], _, _, _ => rfl
  | [], y :: b, _, _, h => absurd ((h y).2 (by simp)) (by simp)
  | x :: a, [], _, _, h => absurd ((h x).1 (by simp)) (by simp)
  | x :: a, y :: b, ha, hb, h => by
    have hx : x = y := by
      rcases LinO.tri x y with g | g | g
      · rcases List.mem_cons.1 ((h x).1 (by simp)) with e | e
        · exact e
        · exact absurd (rising_head hb e) (lin_asymm g)
      · exact g
      · rcases List.mem_cons.1 ((h y).2 (by simp)) with e | e
        · exact e.symm
        · exact absurd (rising_head ha e) (lin_asymm g)
    subst hx
    rw [rising_ext (List.pairwise_cons.1 ha).2 (List.pairwise_cons.1 hb).2 (fun z => ?_)]
    constructor
    · intro hz
      rcases List.mem_cons.1 ((h z).1 (List.mem_cons_of_mem _ hz)) with e | e
      · exact absurd (e ▸ rising_head ha hz) (LinO.irr _)
      · exact e
    · intro hz
      rcases List.mem_cons.1 ((h z).2 (List.mem_cons_of_mem _ hz)) with e | e
      · exact absurd (e ▸ rising_head hb hz) (LinO.irr _)
      · exact e
omit [DecidableEq α] in
/-- Where a binary search ends. -/
theorem bsGo_rising {l : List α} (h : Rising l) (x : α) (d : α) (hd : ¬ d < x) (p : Nat → Bool) (hp : ∀ t, p t = decide (l.getD t d < x)) : Lib.bsGo p l.length 0 l.length = l.countP (· < x) := by
  have hs : ∀ t, (t < l.countP (· < x) → l.getD t d < x) ∧ (l.countP (· < x) ≤ t → ¬ l.getD t d < x) := by
    clear hp
    induction l with
    | nil => intro t; exact ⟨fun h => by simp at h, fun _ => by simpa using hd⟩
    | cons y r ih =>
      intro t
      obtain ⟨h1, h2⟩ := List.pairwise_cons.1 h
      by_cases a : y < x
      · rw [List.countP_cons_of_pos (by simpa using a)]
        cases t with
        | zero => exact ⟨fun _ => by simpa using a, fun h => by omega⟩
        | succ t => have := ih h2 t; simp only [List.getD_cons_succ]; exact ⟨fun h => this.1 (by omega), fun h => this.2 (by omega)⟩
      · rw [List.countP_cons_of_neg (by simpa using a)]
        have e0 : r.countP (· < x) = 0 := List.countP_eq_zero.2 (fun z hz hh => a (LinO.tr (h1 z hz) (by simpa using hh)))
        cases t with
        | zero => rw [e0]; exact ⟨fun h => by omega, fun _ => by simpa using a⟩
        | succ t =>
          have := ih h2 t; rw [e0] at this ⊢; simp only [List.getD_cons_succ]; exact ⟨fun h => by omega, fun _ => this.2 (Nat.zero_le _)⟩
  exact Lib.bsGo_spec p _ (fun t ht => by rw [hp]; exact decide_eq_true ((hs t).1 ht)) (fun t ht => by rw [hp]; exact decide_eq_false ((hs t).2 ht)) _ 0 _ (by omega) (Nat.zero_le _) List.countP_le_length
end
end Go.Proofs.YtcpfkkbegnhofaaDoor
/- Modes, plain: which can be; from one to another. -/
set_option linter.unusedVariables false
set_option linter.unusedSimpArgs false
namespace Go.Proofs.YtcpfkkbegnhofaaDoor

structure MD where
  on : Bool
  bc : Bool
  oi : Bool
  oo : Bool
  nl : Bool
  rd : Int
  ps : List Txt
  deriving DecidableEq
def offM : MD := ⟨false, false, false, false, false, 0, []⟩
/-- Beginnings that may stand together. -/
def preR (l : List Txt) : Prop := (∀ p ∈ l, p.length ≤ 512) ∧ (l.Pairwise fun q p => q < p ∧ ¬ q <+: p) ∧ 1 ≤ l.length ∧ l.length ≤ 32
instance (l : List Txt) : Decidable (preR l) := by unfold preR; infer_instance
/-- The same, each beside the one ahead of it. -/
def preA (l : List Txt) (k : Nat) : Prop := ∀ i p, i < k → l[i]? = some p → p.length ≤ 512 ∧ ∀ q, 0 < i → l[i - 1]? = some q → q < p ∧ ¬ q <+: p
theorem between {q r p : Txt} (h : q <+: p) (h1 : q < r) (h2 : r < p) : q <+: r := by
  induction q generalizing r p with
  | nil => exact List.nil_prefix
  | cons a q ih =>
    cases p with
    | nil => simp at h
    | cons b p =>
      rw [List.cons_prefix_cons] at h
      obtain ⟨rfl, h⟩ := h
      cases r with
      | nil => exact absurd h1 (List.not_lt_nil _)
      | cons c r =>
        rcases List.cons_lt_cons_iff.1 h1 with g | ⟨rfl, g⟩
        · rcases List.cons_lt_cons_iff.1 h2 with g2 | ⟨rfl, g2⟩
          · exact absurd (UInt8.lt_trans g g2) (UInt8.lt_irrefl _)
          · exact absurd g (UInt8.lt_irrefl _)
        · rcases List.cons_lt_cons_iff.1 h2 with g2 | ⟨_, g2⟩
          · exact absurd g2 (UInt8.lt_irrefl _)
          · rw [List.cons_prefix_cons]; exact ⟨rfl, ih h g g2⟩
theorem preA_pair {l : List Txt} {k : Nat} (h : preA l k) (hk : k ≤ l.length) : (l.take k).Pairwise fun q p => q < p ∧ ¬ q <+: p := by
  induction k with
  | zero => simp
  | succ k ih =>
    have hk' : k < l.length := hk
    have ih := ih (fun i p hi => h i p (by omega)) (by omega)
    rw [List.take_succ_eq_append_getElem hk', List.pairwise_append]
    refine ⟨ih, List.pairwise_singleton _ _, fun q hq p hp => ?_⟩
    rw [List.mem_singleton] at hp; subst hp
    have hp := h k _ (by omega) (List.getElem?_eq_getElem hk')
    cases k with
    | zero => simp at hq
    | succ k =>
      have hl := hp.2 _ (by omega) (by rw [Nat.add_sub_cancel]; exact List.getElem?_eq_getElem (by omega : k < l.length))
      rw [List.take_succ_eq_append_getElem (by omega : k < l.length)] at hq ih
      rcases List.mem_append.1 hq with g | g
      · have h3 := (List.pairwise_append.1 ih).2.2 q g _ (List.mem_singleton.2 rfl)
        exact ⟨LinO.tr h3.1 hl.1, fun hpre => h3.2 (between hpre h3.1 hl.1)⟩
      · rw [List.mem_singleton] at g; subst g; exact hl
theorem preR_iff {l : List Txt} : preR l ↔ preA l l.length ∧ 1 ≤ l.length ∧ l.length ≤ 32 := by
  unfold preR
  constructor
  · rintro ⟨h1, h2, h3, h4⟩
    refine ⟨fun i p hi hp => ⟨h1 p (List.mem_of_getElem? hp), fun q h0 hq => ?_⟩, h3, h4⟩
    obtain ⟨a1, rfl⟩ := List.getElem?_eq_some_iff.1 hp
    obtain ⟨b1, rfl⟩ := List.getElem?_eq_some_iff.1 hq
    exact List.pairwise_iff_getElem.1 h2 (i - 1) i b1 a1 (by omega)
  · rintro ⟨h1, h3, h4⟩
    refine ⟨fun p hp => ?_, ?_, h3, h4⟩
    · obtain ⟨i, hi, rfl⟩ := List.getElem_of_mem hp
      exact (h1 i _ hi (List.getElem?_eq_getElem hi)).1
    · have := preA_pair h1 (Nat.le_refl _)
      rwa [List.take_length] at this
theorem preA_zero (l : List Txt) : preA l 0 := fun i p hi => by omega
theorem preA_succ {l : List Txt} {k : Nat} {p : Txt} (h : preA l k) (hp : l[k]? = some p) (h1 : p.length ≤ 512) (h2 : ∀ q, 0 < k → l[k - 1]? = some q → q < p ∧ ¬ q <+: p) : preA l (k + 1) := fun i p' hi hp' => by
  by_cases e : i = k
  · subst e; rw [hp] at hp'; injection hp' with e; subst e; exact ⟨h1, h2⟩
  · exact h i p' (by omega) hp'
theorem preA_not {l : List Txt} {k n : Nat} {p : Txt} (hk : k < n) (hp : l[k]? = some p) (h : 512 < p.length ∨ ∃ q, 0 < k ∧ l[k - 1]? = some q ∧ (¬ q < p ∨ q <+: p)) : ¬ preA l n := fun hA => by
  obtain ⟨a, b⟩ := hA k p hk hp
  rcases h with g | ⟨q, h0, hq, g⟩
  · omega
  · obtain ⟨c, d⟩ := b q h0 hq
    rcases g with g | g
    · exact g c
    · exact d g
/-- Can a mode be? -/
def rightM (m : MD) : Bool :=
  if m.on = false then decide (m = offM)
  else if m.rd < 0 ∨ 1000000000 < m.rd ∨ (m.oi = true ∧ m.oo = true) ∨ (m.bc = true ∧ (m.oi = true ∨ m.oo = true)) then false
  else if m.bc = false then decide (m.ps = []) else decide (preR m.ps)
/-- Rising, each once. -/
def uniT (l : List Txt) : List Txt := l.foldl wth []
theorem foldl_wth {l acc : List Txt} (h : Rising acc) : Rising (l.foldl wth acc) ∧ ∀ t, t ∈ l.foldl wth acc ↔ t ∈ acc ∨ t ∈ l := by
  induction l generalizing acc with
  | nil => exact ⟨h, fun t => by simp⟩
  | cons x l ih =>
    obtain ⟨h1, h2⟩ := ih (wth_rising h x)
    refine ⟨h1, fun t => ?_⟩
    rw [List.foldl_cons, h2, wth_mem, List.mem_cons]
    constructor
    · rintro ((g | g) | g)
      · exact Or.inr (Or.inl g)
      · exact Or.inl g
      · exact Or.inr (Or.inr g)
    · rintro (g | g | g)
      · exact Or.inl (Or.inr g)
      · exact Or.inl (Or.inl g)
      · exact Or.inr g
theorem uniT_rising (l : List Txt) : Rising (uniT l) := (foldl_wth List.Pairwise.nil).1
theorem uniT_mem {l : List Txt} {t : Txt} : t ∈ uniT l ↔ t ∈ l := by
  unfold uniT; rw [(foldl_wth List.Pairwise.nil).2]; simp
theorem uniT_eq {l r : List Txt} (h : Rising r) (hm : ∀ t, t ∈ r ↔ t ∈ l) : r = uniT l := rising_ext h (uniT_rising l) (fun t => by rw [hm, uniT_mem])
theorem preR_rising {l : List Txt} (h : preR l) : Rising l := h.2.1.imp (fun h => h.1)
theorem uniT_self {l : List Txt} (h : Rising l) : uniT l = l := (uniT_eq h (fun _ => Iff.rfl)).symm
/-- From one mode to another one. -/
def joinM (was now : MD) : MD := { now with ps := uniT (was.ps ++ now.ps) }
def switchM (was now : MD) : MD × Int :=
  if was.on = false ∨ now.on = false then (now, 0)
  else if was.bc ≠ now.bc ∨ was.oi ≠ now.oi ∨ was.oo ≠ now.oo then (was, 132)
  else if rightM (joinM was now) = true then (joinM was now, 0) else (was, 132)
def cachM (m : MD) (yes : Bool) : Int := if m.on = true ∧ ((yes = true ∧ m.oi = true) ∨ (yes = false ∧ m.oo = true)) then 0 else 132
def tracksM (m : MD) (c : Int) : Bool := m.on && !m.bc && (!m.oi || decide (c = 1)) && (!m.oo || decide (c ≠ 2))
end Go.Proofs.YtcpfkkbegnhofaaDoor
/- Texts in order as the document has it: put in one by one; each once. -/
set_option linter.unusedVariables false
set_option linter.unusedSimpArgs false
namespace Go.Proofs.YtcpfkkbegnhofaaDoor

/-- In order; any text may stand more than once. -/
abbrev Ord (l : List Txt) : Prop := l.Pairwise fun a b => ¬ b < a
theorem le_of {a b c : Txt} (h1 : ¬ b < a) (h2 : ¬ c < b) : ¬ c < a := fun h => by
  rcases LinO.tri b c with g | g | g
  · exact h1 (LinO.tr g h)
  · subst g; exact h1 h
  · exact h2 g
theorem ord_put {acc : List Txt} {s : Txt} {a : Nat} (hr : Ord acc) (h1 : ∀ t ∈ acc.take a, ¬ s < t) (h2 : ∀ t ∈ acc.drop a, s < t) : Ord (acc.take a ++ [s] ++ acc.drop a) ∧ (acc.take a ++ [s] ++ acc.drop a).Perm (acc ++ [s]) := by
  have hp : (acc.take a ++ acc.drop a).Pairwise fun a b => ¬ b < a := by rw [List.take_append_drop]; exact hr
  obtain ⟨p1, p2, p3⟩ := List.pairwise_append.1 hp
  refine ⟨List.pairwise_append.2 ⟨List.pairwise_append.2 ⟨p1, by simp, fun x hx y hy => by rw [List.mem_singleton.1 hy]; exact h1 x hx⟩, p2, fun x hx y hy => ?_⟩, ?_⟩
  · rcases List.mem_append.1 hx with g | g
    · exact p3 x g y hy
    · rw [List.mem_singleton.1 g]; exact lin_asymm (h2 y hy)
  · rw [List.append_assoc]
    refine (List.perm_append_comm.append_left _).trans ?_
    rw [← List.append_assoc, List.take_append_drop]
/-- Each once, so far: what stands ahead of `k`. -/
structure Once (l : List Txt) (k : Nat) (out : List Txt) : Prop where
  ris : Rising out
  mem : ∀ t, t ∈ out ↔ t ∈ l.take k
  last : ∀ p, out.getLast? = some p → 0 < k ∧ l[k - 1]? = some p
theorem once_none (l : List Txt) : Once l 0 [] := ⟨List.Pairwise.nil, fun t => by simp, fun p h => by simp at h⟩
theorem once_same {l : List Txt} {k : Nat} {out : List Txt} {p : Txt} (h : Once l k out) (hp : l[k]? = some p) (hl : out.getLast? = some p) : Once l (k + 1) out := by
  obtain ⟨h1, e⟩ := List.getElem?_eq_some_iff.1 hp
  refine ⟨h.ris, fun t => ?_, fun q hq => ⟨by omega, ?_⟩⟩
  · rw [h.mem, List.take_succ_eq_append_getElem h1, List.mem_append, List.mem_singleton, e]
    constructor
    · exact Or.inl
    · rintro (g | rfl)
      · exact g
      · exact (h.mem _).1 (List.mem_of_getLast? hl)
  · rw [hl] at hq; injection hq with hq; subst hq; rw [Nat.add_sub_cancel]; exact hp
theorem once_more {l : List Txt} {k : Nat} {out : List Txt} {p : Txt} (ho : Ord l) (h : Once l k out) (hp : l[k]? = some p) (hl : out.getLast? ≠ some p) : Once l (k + 1) (out ++ [p]) := by
  obtain ⟨h1, e⟩ := List.getElem?_eq_some_iff.1 hp
  have hle : ∀ x ∈ out, ¬ p < x := fun x hx => by
    obtain ⟨i, hi, ei⟩ := List.getElem_of_mem ((h.mem x).1 hx)
    rw [List.length_take] at hi
    rw [List.getElem_take] at ei
    have := (List.pairwise_iff_getElem.1 ho) i k (by omega) h1 (by omega)
    rw [e, ei] at this; exact this
  have hlt : ∀ x ∈ out, x < p := fun x hx => by
    rcases LinO.tri x p with g | g | g
    · exact g
    · exfalso
      subst g
      -- x is in out; it is the greatest: the last one
      rcases List.eq_nil_or_concat out with h0 | ⟨o2, y, h0⟩
      · rw [h0] at hx; cases hx
      · have hyl : out.getLast? = some y := by rw [h0]; simp
        rw [h0, List.concat_eq_append] at hx
        rcases List.mem_append.1 hx with g | g
        · have hr := h.ris
          rw [h0, List.concat_eq_append] at hr
          have hxy := (List.pairwise_append.1 hr).2.2 x g y (List.mem_singleton.2 rfl)
          exact hle y (by rw [h0]; simp) hxy
        · rw [List.mem_singleton] at g; subst g; exact hl hyl
    · exact absurd g (hle x hx)
  refine ⟨List.pairwise_append.2 ⟨h.ris, List.pairwise_singleton _ _, fun x hx y hy => by rw [List.mem_singleton.1 hy]; exact hlt x hx⟩, fun t => ?_, fun q hq => ⟨by omega, ?_⟩⟩
  · rw [List.mem_append, h.mem, List.mem_singleton, List.take_succ_eq_append_getElem h1, List.mem_append, List.mem_singleton, e]
  · rw [List.getLast?_append] at hq; simp at hq; subst hq; rw [Nat.add_sub_cancel]; exact hp
theorem once_end {l l0 : List Txt} {out : List Txt} (h : Once l l.length out) (hm : ∀ t, t ∈ l ↔ t ∈ l0) : out = uniT l0 :=
  uniT_eq h.ris (fun t => by rw [h.mem, List.take_length, hm])
/-- Which can be, as the document looks: each beside all ahead of it. -/
def preO (l : List Txt) (k : Nat) : Prop := (∀ i p, i < k → l[i]? = some p → p.length ≤ 512) ∧ ∀ i j p q, i < k → j < i → l[i]? = some p → l[j]? = some q → q < p ∧ ¬ q <+: p
theorem preO_zero (l : List Txt) : preO l 0 := ⟨fun i p h => by omega, fun i j p q h => by omega⟩
theorem preO_succ {l : List Txt} {k : Nat} {p : Txt} (h : preO l k) (hp : l[k]? = some p) (h1 : p.length ≤ 512) (h2 : ∀ j q, j < k → l[j]? = some q → q < p ∧ ¬ q <+: p) : preO l (k + 1) := by
  refine ⟨fun i p' hi hp' => ?_, fun i j p' q hi hj hp' hq => ?_⟩
  · by_cases e : i = k
    · subst e; rw [hp] at hp'; injection hp' with e; subst e; exact h1
    · exact h.1 i p' (by omega) hp'
  · by_cases e : i = k
    · subst e; rw [hp] at hp'; injection hp' with e; subst e; exact h2 j q hj hq
    · exact h.2 i j p' q (by omega) hj hp' hq
theorem preR_O {l : List Txt} : preR l ↔ preO l l.length ∧ 1 ≤ l.length ∧ l.length ≤ 32 := by
  unfold preR preO
  constructor
  · rintro ⟨h1, h2, h3, h4⟩
    refine ⟨⟨fun i p hi hp => h1 p (List.mem_of_getElem? hp), fun i j p q hi hj hp hq => ?_⟩, h3, h4⟩
    obtain ⟨a1, rfl⟩ := List.getElem?_eq_some_iff.1 hp
    obtain ⟨b1, rfl⟩ := List.getElem?_eq_some_iff.1 hq
    exact List.pairwise_iff_getElem.1 h2 j i b1 a1 hj
  · rintro ⟨⟨h1, h2⟩, h3, h4⟩
    refine ⟨fun p hp => ?_, List.pairwise_iff_getElem.2 (fun i j hi hj hij => h2 j i _ _ hj hij (List.getElem?_eq_getElem hj) (List.getElem?_eq_getElem hi)), h3, h4⟩
    obtain ⟨i, hi, rfl⟩ := List.getElem_of_mem hp
    exact h1 i _ hi (List.getElem?_eq_getElem hi)
end Go.Proofs.YtcpfkkbegnhofaaDoor
