/- Maps of the call's own, whatever their elements: a block of entries, said as a list of pairs. -/
import Derived.Test.YtnlbmplbaalgmaaHeap
import Derived.Maps.Keyed
set_option linter.unusedVariables false
set_option linter.unusedSimpArgs false
namespace Go.Proofs.Ytnlbmplbaalgmaa
open Go.RowKit

section plain
variable {κ ν : Type} [DecidableEq κ]
def aget (m : List (κ × ν)) (k : κ) : Option ν := match m with
  | [] => none
  | p :: r => if p.1 = k then some p.2 else aget r k
def aset (m : List (κ × ν)) (k : κ) (v : ν) : List (κ × ν) := match m with
  | [] => [(k, v)]
  | p :: r => if p.1 = k then (k, v) :: r else p :: aset r k v
def adel (m : List (κ × ν)) (k : κ) : List (κ × ν) := match m with
  | [] => []
  | p :: r => if p.1 = k then r else p :: adel r k
def akeys (m : List (κ × ν)) : List κ := m.map (·.1)
theorem aget_none {m : List (κ × ν)} {k : κ} : aget m k = none ↔ k ∉ akeys m := by
  induction m with
  | nil => simp [aget, akeys]
  | cons p r ih =>
    simp only [aget, akeys, List.map_cons, List.mem_cons, not_or]
    split
    · next h => simp [h]
    · next h => rw [ih]; exact ⟨fun h2 => ⟨fun e => h e.symm, h2⟩, fun h2 => h2.2⟩
theorem aget_aset (m : List (κ × ν)) (k k' : κ) (v : ν) : aget (aset m k v) k' = if k = k' then some v else aget m k' := by
  induction m with
  | nil => simp [aset, aget]
  | cons p r ih =>
    unfold aset
    split
    · next h =>
      simp only [aget]
      by_cases e : k = k'
      · simp [e]
      · have : ¬ p.1 = k' := fun e2 => e (h ▸ e2)
        simp [e, this]
    · next h =>
      simp only [aget, ih]
      by_cases e : k = k'
      · have : ¬ p.1 = k' := fun e2 => h (e2.trans e.symm)
        simp [e, this]
      · simp [e]
theorem akeys_aset (m : List (κ × ν)) (k : κ) (v : ν) : akeys (aset m k v) = if k ∈ akeys m then akeys m else akeys m ++ [k] := by
  induction m with
  | nil => simp [aset, akeys]
  | cons p r ih =>
    unfold aset
    split
    · next h => simp [akeys, h]
    · next h =>
      have e : akeys (p :: aset r k v) = p.1 :: akeys (aset r k v) := rfl
      rw [e, ih]
      have hne : ¬ k = p.1 := fun e => h e.symm
      simp only [akeys, List.map_cons, List.mem_cons, hne, false_or]
      split
      · next hk => simp [hk]
      · next hk => simp [hk]
theorem nodup_aset {m : List (κ × ν)} (h : (akeys m).Nodup) (k : κ) (v : ν) : (akeys (aset m k v)).Nodup := by
  rw [akeys_aset]
  split
  · exact h
  · next hk => rw [List.nodup_append]; exact ⟨h, by simp, fun a ha b hb => by simp at hb; subst hb; exact fun e => hk (e ▸ ha)⟩
theorem akeys_adel (m : List (κ × ν)) (k : κ) : akeys (adel m k) = (akeys m).erase k := by
  induction m with
  | nil => simp [adel, akeys]
  | cons p r ih =>
    unfold adel
    split
    · next h => simp [akeys, h]
    · next h =>
      have e : akeys (p :: adel r k) = p.1 :: akeys (adel r k) := rfl
      rw [e, ih]
      simp only [akeys, List.map_cons]
      rw [List.erase_cons_tail (by simpa using h)]
theorem nodup_adel {m : List (κ × ν)} (h : (akeys m).Nodup) (k : κ) : (akeys (adel m k)).Nodup := by
  rw [akeys_adel]; exact h.erase k
theorem aget_adel {m : List (κ × ν)} (h : (akeys m).Nodup) (k k' : κ) : aget (adel m k) k' = if k = k' then none else aget m k' := by
  induction m with
  | nil => simp [adel, aget]
  | cons p r ih =>
    simp only [akeys, List.map_cons, List.nodup_cons] at h
    unfold adel
    split
    · next hp =>
      by_cases e : k = k'
      · rw [if_pos e]; subst e; rw [aget_none]; rw [hp] at h; exact h.1
      · rw [if_neg e]
        have : ¬ p.1 = k' := fun e2 => e (hp ▸ e2)
        simp [aget, this]
    · next hp =>
      simp only [aget]
      rw [ih h.2]
      by_cases e : k = k'
      · have : ¬ p.1 = k' := fun e2 => hp (e2.trans e.symm)
        simp [e, this]
      · simp [e]
end plain

/-- Keys of type K are the things of κ, by enc. -/
structure KeyOk (P : Program) (K : TypeId) {κ : Type} [DecidableEq κ] (enc : κ → Value) : Prop where
  find : ∃ desc, P.underlying K = some desc ∧ ∀ a b, Instr.sameNow desc (enc a) (enc b) = some (decide (a = b))
  same : ∀ a, Instr.sameBits 10000 (enc a) (enc a) = true
  chk : ∀ (e : Bool) a (w : World), (Instr.checkKey e 10000 K (enc a)).run P w = .ok () w

theorem bytes_beq (a b : ByteArray) : (a == b) = decide (a = b) := by
  cases a with
  | mk x => cases b with
    | mk y =>
      show (x == y) = _
      rw [Bool.eq_iff_iff]; simp
theorem stringKey {P : Program} {K : TypeId} (h : P.underlying K = some .string) : KeyOk P K (fun s : ByteArray => Value.string s) :=
  ⟨⟨_, h, fun a b => by simp only [Instr.sameNow, bytes_beq]⟩, fun a => by simp only [Instr.sameBits, bytes_beq, decide_true], fun e a w => by
    rw [show (10000 : Nat) = 9999 + 1 from rfl, Instr.checkKey]; simp [run_underlying h]⟩
theorem intKey {P : Program} {K : TypeId} {q : IntKind} (h : P.underlying K = some (.int q)) : KeyOk P K (fun n : Int => Value.int q n) :=
  ⟨⟨_, h, fun a b => by simp only [Instr.sameNow, if_true]; congr 1⟩, fun a => by simp [Instr.sameBits], fun e a w => by
    rw [show (10000 : Nat) = 9999 + 1 from rfl, Instr.checkKey]; simp [run_underlying h]⟩

set_option linter.unusedSectionVars false
section
variable {κ : Type} [DecidableEq κ] {enc : κ → Value}
/-- Block b is a map that holds the pairs m, in the order in which their keys came. -/
def MapAt (enc : κ → Value) (w : World) (b : Nat) (m : List (κ × Value)) : Prop :=
  ∃ es clock, w.heap[b]? = some (.map es clock) ∧ es.toList.map (fun e => (e.key, e.val)) = (m.map fun p => (enc p.1, p.2)) ∧ MapKept.Stamped es clock

theorem MapAt.lt {w : World} {b : Nat} {m : List (κ × Value)} (h : MapAt enc w b m) : b < w.heap.size := by
  obtain ⟨es, clock, hb, _⟩ := h; exact (Array.getElem?_eq_some_iff.1 hb).1
theorem MapAt.keep {w w' : World} {b : Nat} {m : List (κ × Value)} (h : MapAt enc w b m) {F : Nat → Prop} (u : Upd F w w') (hF : ¬ F b) : MapAt enc w' b m := by
  have hl := h.lt
  obtain ⟨es, clock, hb, he, hs⟩ := h; exact ⟨es, clock, by rw [u.block b hl hF]; exact hb, he, hs⟩
theorem MapAt.made (w : World) : MapAt enc (w.alloc (.map #[] 0)) w.heap.size [] :=
  ⟨#[], 0, by show (w.heap.push _)[w.heap.size]? = _; simp, rfl, MapKept.stamped_empty 0⟩

theorem findNow_eq {desc : TypeDesc} (hn : ∀ a b, Instr.sameNow desc (enc a) (enc b) = some (decide (a = b))) (k : κ) :
    ∀ (es : List MapEntry) (m : List (κ × Value)) (i : Nat), es.map (fun e => (e.key, e.val)) = m.map (fun p => (enc p.1, p.2)) →
      (aget m k = none → Instr.findNow desc (enc k) es i = some none) ∧
      (∀ v, aget m k = some v → ∃ j, j < es.length ∧ Instr.findNow desc (enc k) es i = some (some (i + j, v)) ∧ (es[j]?).map (·.key) = some (enc k) ∧
        (∀ u, (es.modify j fun e => { e with key := enc k, val := u }).map (fun e => (e.key, e.val)) = (aset m k u).map (fun p => (enc p.1, p.2))) ∧
        (es.eraseIdx j).map (fun e => (e.key, e.val)) = (adel m k).map (fun p => (enc p.1, p.2)))
  | [], [], i, _ => ⟨fun _ => rfl, fun v h => by simp [aget] at h⟩
  | [], _ :: _, i, h => by simp at h
  | _ :: _, [], i, h => by simp at h
  | e :: es, p :: m, i, h => by
    simp only [List.map_cons, List.cons.injEq, Prod.mk.injEq] at h
    obtain ⟨⟨h1, h2⟩, h3⟩ := h
    obtain ⟨r1, r2⟩ := findNow_eq hn k es m (i + 1) h3
    by_cases hp : p.1 = k
    · refine ⟨fun hh => by simp [aget, hp] at hh, fun v hv => ?_⟩
      simp only [aget, hp, if_true, Option.some.injEq] at hv
      refine ⟨0, by simp, ?_, ?_, fun u => ?_, ?_⟩
      · unfold Instr.findNow; rw [h1, hn, hp]; simp [h2, hv]
      · simp [h1, hp]
      · simp [List.modify_cons, aset, hp, h3]
      · simp [adel, hp, h3]
    · have hd : decide (k = p.1) = false := by simpa using fun e => hp e.symm
      refine ⟨fun hh => ?_, fun v hv => ?_⟩
      · simp only [aget, hp, if_false] at hh
        unfold Instr.findNow; rw [h1, hn, hd]; exact r1 hh
      · simp only [aget, hp, if_false] at hv
        obtain ⟨j, j1, j2, j3, j4, j5⟩ := r2 v hv
        refine ⟨j + 1, by simp; omega, ?_, ?_, fun u => ?_, ?_⟩
        · unfold Instr.findNow; rw [h1, hn, hd]; simp only; rw [j2]; congr 3; omega
        · simpa using j3
        · simp only [List.modify_cons, Nat.add_one_ne_zero, if_false, Nat.add_sub_cancel, List.map_cons, aset, hp]
          rw [j4 u, h1, h2]
        · simp only [List.eraseIdx_cons_succ, List.map_cons, adel, hp, if_false]
          rw [j5, h1, h2]

theorem run_findKey {P : Program} {K : TypeId} (ok : KeyOk P K enc) (w : World) (k : κ) (es : Array MapEntry) (m : List (κ × Value)) (h : es.toList.map (fun e => (e.key, e.val)) = m.map fun p => (enc p.1, p.2)) :
    (aget m k = none → (Instr.findKey K (enc k) es.toList).run P w = .ok none w) ∧
    (∀ v, aget m k = some v → ∃ j, j < es.size ∧ (Instr.findKey K (enc k) es.toList).run P w = .ok (some (j, v)) w ∧ (es[j]?).map (·.key) = some (enc k) ∧
      (∀ u, (es.modify j fun e => { e with key := enc k, val := u }).toList.map (fun e => (e.key, e.val)) = (aset m k u).map (fun p => (enc p.1, p.2))) ∧
      (es.eraseIdxIfInBounds j).toList.map (fun e => (e.key, e.val)) = (adel m k).map (fun p => (enc p.1, p.2))) := by
  obtain ⟨desc, hd, hn⟩ := ok.find
  obtain ⟨r1, r2⟩ := findNow_eq hn k es.toList m 0 h
  refine ⟨fun hh => ?_, fun v hv => ?_⟩
  · simp [Instr.findKey, run_underlying hd, r1 hh]
  · obtain ⟨j, j1, j2, j3, j4, j5⟩ := r2 v hv
    refine ⟨j, by simpa using j1, ?_, ?_, fun u => ?_, ?_⟩
    · simp [Instr.findKey, run_underlying hd, j2]
    · simpa using j3
    · rw [← j4 u]; congr 1; simp [Array.toList_modify]
    · rw [← j5]; congr 1
      have : j < es.size := by simpa using j1
      simp [Array.eraseIdxIfInBounds, this]

theorem KeyOk.inj {P : Program} {K : TypeId} (ok : KeyOk P K enc) {a b : κ} (h : enc a = enc b) : a = b := by
  obtain ⟨desc, hd, hn⟩ := ok.find
  have h1 := hn a b
  rw [← h, hn a a] at h1
  simpa using h1
/-- The world in which map b has a pair more, or another value. -/
def putIn (w : World) (b : Nat) (es : Array MapEntry) (c : Nat) : World := { w with heap := w.heap.setIfInBounds b (.map es c) }
theorem putIn_upd (w : World) (b : Nat) (es : Array MapEntry) (c : Nat) : Upd (fun k => k = b) w (putIn w b es c) :=
  ⟨rfl, rfl, rfl, by simp [putIn], fun k hk hF => by simp only [putIn]; rw [Array.getElem?_setIfInBounds_ne (fun e => hF e.symm)]⟩
theorem putIn_map {w : World} {b : Nat} {o : Obj} (h : w.heap[b]? = some o) (es : Array MapEntry) (c : Nat) : (putIn w b es c).heap[b]? = some (.map es c) := by
  simp only [putIn]; rw [Array.getElem?_setIfInBounds_self_of_lt (Array.getElem?_eq_some_iff.1 h).1]

section
variable {P : Program} {T K E : TypeId} {w : World} {b : Nat} {m : List (κ × Value)}
theorem MapAt.len (h : MapAt enc w b m) (R : TypeId) (hT : P.underlying T = some (.map K E)) (hl : m.length ≤ 9223372036854775807) : (Builtin.len_ #[T] R #[.map (some b)]).run P w = .ok (.int .i64 (m.length : Int)) w := by
  obtain ⟨es, c, hb, he, hst⟩ := h
  have hs : es.size = m.length := by have := congrArg List.length he; simpa using this
  simp [Builtin.len_, run_underlying hT, MapKept.run_getObj_map hb, goInt, Result.andThen, hs]
theorem MapAt.look (h : MapAt enc w b m) (ok : KeyOk P K enc) (hT : P.underlying T = some (.map K E)) {z : Value} (hz : (zeroValue E).run P w = .ok z w) (k : κ) (commaOk : Bool) :
    (Instr.lookup T (.map (some b)) (enc k) commaOk).run P w = .ok (if commaOk then .tuple #[(aget m k).getD z, .bool (aget m k).isSome] else (aget m k).getD z) w := by
  obtain ⟨es, c, hb, he, hst⟩ := h
  obtain ⟨r1, r2⟩ := run_findKey ok w k es m he
  cases hk : aget m k with
  | none => simp [Instr.lookup, run_underlying hT, MapKept.run_getObj_map hb, ok.chk, r1 hk, hz, Result.andThen]
  | some v =>
    obtain ⟨j, _, hr, _⟩ := r2 v hk
    simp [Instr.lookup, run_underlying hT, MapKept.run_getObj_map hb, ok.chk, hr, Result.andThen]
theorem MapAt.put (h : MapAt enc w b m) (ok : KeyOk P K enc) (hT : P.underlying T = some (.map K E)) (k : κ) (v : Value) :
    ∃ w', (Instr.mapUpdate T (.map (some b)) (enc k) v).run P w = .ok () w' ∧ MapAt enc w' b (aset m k v) ∧ Upd (fun i => i = b) w w' := by
  obtain ⟨es, c, hb, he, hst⟩ := h
  obtain ⟨r1, r2⟩ := run_findKey ok w k es m he
  cases hk : aget m k with
  | none =>
    have hnew : ∀ x ∈ es.toList, x.key ≠ enc k := fun x hx e => by
      have hx2 : (x.key, x.val) ∈ es.toList.map (fun e => (e.key, e.val)) := List.mem_map.2 ⟨x, hx, rfl⟩
      rw [he] at hx2
      obtain ⟨p, hp, ep⟩ := List.mem_map.1 hx2
      injection ep with e1 _
      have := ok.inj (e1.trans e)
      exact (aget_none.1 hk) (List.mem_map.2 ⟨p, hp, this⟩)
    refine ⟨putIn w b (es.push { key := enc k, val := v, born := c }) (c + 1), ?_, ⟨_, _, putIn_map hb _ _, ?_, MapKept.stamped_push hst hnew⟩, putIn_upd _ _ _ _⟩
    · simp [Instr.mapUpdate, run_underlying hT, MapKept.run_getObj_map hb, ok.chk, r1 hk, MapKept.run_setObj_map _ hb, Result.andThen, putIn]
    · have hs : aset m k v = m ++ [(k, v)] := by
        clear r1 r2 he
        induction m with
        | nil => rfl
        | cons p r ih =>
          simp only [aget] at hk
          split at hk
          · cases hk
          · next hp => simp only [aset, hp, if_false, ih hk, List.cons_append]
      rw [hs]; simp [he]
  | some u =>
    obtain ⟨j, hj, hr, hkey, hset, _⟩ := r2 u hk
    refine ⟨putIn w b (es.modify j fun e => { e with key := enc k, val := v }) c, ?_, ⟨_, _, putIn_map hb _ _, hset v, MapKept.stamped_modify hst j _ (fun _ _ => rfl) (fun e _ he2 => by rw [he2] at hkey; simpa using hkey.symm)⟩, putIn_upd _ _ _ _⟩
    have hkk : (((es[j]?).map (·.key)).getD (enc k)) = enc k := by rw [hkey]; rfl
    simp only [Instr.mapUpdate, Sem.run_bind, run_underlying hT, Result.andThen, MapKept.run_getObj_map hb, ok.chk, hr, hkk, Instr.keyThatStays, ok.same, if_true, Sem.run_pure]
    simp [MapKept.run_setObj_map _ hb, putIn, Result.andThen]
theorem MapAt.del (h : MapAt enc w b m) (ok : KeyOk P K enc) (hT : P.underlying T = some (.map K E)) (k : κ) (R : TypeId) :
    ∃ w', (Builtin.delete_ #[T, K] R #[.map (some b), enc k]).run P w = .ok (.tuple #[]) w' ∧ MapAt enc w' b (adel m k) ∧ Upd (fun i => i = b) w w' := by
  obtain ⟨es, c, hb, he, hst⟩ := h
  obtain ⟨r1, r2⟩ := run_findKey ok w k es m he
  cases hk : aget m k with
  | none =>
    refine ⟨putIn w b es c, ?_, ⟨_, _, putIn_map hb _ _, ?_, hst⟩, putIn_upd _ _ _ _⟩
    · simp [Builtin.delete_, run_underlying hT, MapKept.run_getObj_map hb, ok.chk, r1 hk, MapKept.run_setObj_map _ hb, Result.andThen, putIn]
    · have hs : adel m k = m := by
        clear r1 r2 he
        induction m with
        | nil => rfl
        | cons p r ih =>
          simp only [aget] at hk
          split at hk
          · cases hk
          · next hp => simp only [adel, hp, if_false, ih hk]
      rw [hs]; exact he
  | some u =>
    obtain ⟨j, hj, hr, _, _, hdel⟩ := r2 u hk
    refine ⟨putIn w b (es.eraseIdxIfInBounds j) c, ?_, ⟨_, _, putIn_map hb _ _, hdel, MapKept.stamped_erase hst j⟩, putIn_upd _ _ _ _⟩
    simp [Builtin.delete_, run_underlying hT, MapKept.run_getObj_map hb, ok.chk, hr, MapKept.run_setObj_map _ hb, Result.andThen, putIn]
end
end
end Go.Proofs.Ytnlbmplbaalgmaa
