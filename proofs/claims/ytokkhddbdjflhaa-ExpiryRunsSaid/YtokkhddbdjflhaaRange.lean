/- A range over a map of texts, whatever its elements. -/
import Derived.Test.YtokkhddbdjflhaaStrMap
import Derived.ChangeMaps5
import Derived.Maps.RangeWalk
import Derived.Sort.MapsRangeIn
import Derived.Sort.KeysCollected
set_option linter.unusedVariables false
set_option linter.unusedSimpArgs false
namespace Go.Proofs.Ytokkhddbdjflhaa
open Go.RowKit Go.Sort Go.Maps Go.WideElems Go.Proofs

def heldR (v : Value) : Option (DataW Value × List MemPlace) := some (.held v, [])
theorem bytes_inj {a b : ByteArray} (h : a.data.toList = b.data.toList) : a = b := by cases a; cases b; simpa [Array.toList_inj] using h
/-- A map of the call's own, in the library's words, its elements held. -/
theorem MapAt.held {w : World} {b : Nat} {m : List (ByteArray × Value)} {P : Program} {K : TypeId} (h : MapAt strEnc w b m) (hn : (akeys m).Nodup) (hK : P.underlying K = some .string) (hs : ∀ k ∈ akeys m, k.size ≤ maxLen) (hl : m.length ≤ maxLen) :
    ∃ D0 : DataW Value, w.ownsMap P K heldR b m.length D0 ∧ (strKeys D0).Perm ((akeys m).map fun k => k.data.toList) ∧ ∀ k v, (∀ zd, D0.atKey (.string k.data.toList) zd = .held v) → aget m k = some v := by
  obtain ⟨es, clock, hb, he, hst⟩ := h
  have hsz : es.size = m.length := by have := congrArg List.length he; simpa using this
  have hrd : ∀ x ∈ es.toList, ∃ k, (k, x.val) ∈ m ∧ x.key = strEnc k := fun x hx => by
    have : (x.key, x.val) ∈ es.toList.map (fun e => (e.key, e.val)) := List.mem_map.2 ⟨x, hx, rfl⟩
    rw [he] at this
    obtain ⟨p, hp, e⟩ := List.mem_map.1 this
    injection e with e1 e2
    exact ⟨p.1, by rw [← e2]; exact hp, e1.symm⟩
  have hmk : ∀ k v, (k, v) ∈ m → k ∈ akeys m := fun k v h => List.mem_map.2 ⟨_, h, rfl⟩
  have hrg : ∀ x ∈ es.toList, ∀ k, (k, x.val) ∈ m → x.key = strEnc k → rd P K heldR x = some (.string k.data.toList, .held x.val) := fun x _ k hk e => by
    unfold rd
    rw [e, show strEnc k = .string k from rfl, WideMaps.keyOf_string_mk hK (hs k (hmk _ _ hk))]; rfl
  have F : Fit P K heldR es clock := ⟨by omega, hst, fun x hx => by
    obtain ⟨k, hk, e⟩ := hrd x hx
    exact ⟨_, hrg x hx k hk e⟩⟩
  have hmap : es.toList.map (rg P K heldR) = m.map fun p => (Lit.string p.1.data.toList, (DataW.held p.2 : DataW Value)) := by
    have e1 : ∀ x ∈ es.toList, rg P K heldR x = (match x.key with | .string s => Lit.string s.data.toList | _ => .bool false, DataW.held x.val) := fun x hx => by
      obtain ⟨k, hk, e⟩ := hrd x hx
      unfold rg
      rw [hrg x hx k hk e, e]; rfl
    rw [List.map_congr_left e1]
    have e2 : es.toList.map (fun x => ((match x.key with | .string s => Lit.string s.data.toList | _ => .bool false, DataW.held x.val) : Lit × DataW Value)) = (es.toList.map (fun e => (e.key, e.val))).map (fun p => (match p.1 with | .string s => Lit.string s.data.toList | _ => .bool false, DataW.held p.2)) := by rw [List.map_map]; rfl
    rw [e2, he, List.map_map]; rfl
  refine ⟨.map ((es.toList.map (rg P K heldR)).foldr DataW.insert []), ⟨es, clock, hb, F, by omega, rfl⟩, ?_, fun k v hat => ?_⟩
  · show (((es.toList.map (rg P K heldR)).foldr DataW.insert []).map fun p => strOf p.1).Perm _
    refine ((WideShapes.sorted_perm _).map _).trans ?_
    rw [hmap, List.map_map]
    exact List.Perm.of_eq (by simp [akeys, List.map_map, Function.comp_def, strOf])
  · have h1 := hat .nil
    unfold DataW.atKey at h1
    simp only at h1
    cases hf : ((es.toList.map (rg P K heldR)).foldr DataW.insert []).find? (fun p => p.1.sameKey (.string k.data.toList)) with
    | none => rw [hf] at h1; cases h1
    | some p =>
      rw [hf] at h1
      simp only at h1
      have hp := List.mem_of_find?_eq_some hf
      have hk := List.find?_some hf
      rw [(WideShapes.sorted_perm _).mem_iff, hmap] at hp
      obtain ⟨q, hq, rfl⟩ := List.mem_map.1 hp
      simp only [Lit.sameKey] at hk
      have ek : q.1 = k := bytes_inj (by simpa using hk)
      have ev : q.2 = v := by simpa using h1
      subst ek ev
      clear hf hp hk h1 hat hmap F hrg hrd he hsz hmk hs hl
      induction m with
      | nil => simp at hq
      | cons x r ih =>
        simp only [akeys, List.map_cons, List.nodup_cons] at hn
        simp only [aget]
        rcases List.mem_cons.1 hq with rfl | hq
        · rw [if_pos rfl]
        · rw [if_neg (fun e => hn.1 (by rw [e]; exact List.mem_map.2 ⟨q, hq, rfl⟩))]; exact ih hn.2 hq

def bsOf (l : List ByteArray) : List (List UInt8) := l.map (·.data.toList)
/-- A range over map b is under way, by the block r: m is what the map holds; done came already, cnt entries are still to come. -/
def RangeAt (P : Program) (K : TypeId) (w : World) (b r : Nat) (m : List (ByteArray × Value)) (done : List ByteArray) (cnt : Nat) : Prop :=
  ∃ (D : DataW Value) (left : Lit → Bool), w.ranges P K heldR b r m.length D left cnt ∧ Collected D left (bsOf done) ∧ (strKeys D).Perm (bsOf (akeys m)) ∧ ∀ k v, (∀ zd, D.atKey (.string k.data.toList) zd = .held v) → aget m k = some v
theorem RangeAt.left {P : Program} {K : TypeId} {w : World} {b r : Nat} {m : List (ByteArray × Value)} {done : List ByteArray} {cnt : Nat} (h : RangeAt P K w b r m done cnt) : w.rangeLeft b r = cnt := by
  obtain ⟨D, left, h1, _⟩ := h; exact h1.left_eq
theorem RangeAt.lt {P : Program} {K : TypeId} {w : World} {b r : Nat} {m : List (ByteArray × Value)} {done : List ByteArray} {cnt : Nat} (h : RangeAt P K w b r m done cnt) : b < w.heap.size ∧ r < w.heap.size ∧ r ≠ b := by
  obtain ⟨D, left, h1, _⟩ := h; exact ⟨h1.owns.lt, h1.lt, h1.ne⟩
theorem RangeAt.keep {P : Program} {K : TypeId} {w w' : World} {b r : Nat} {m : List (ByteArray × Value)} {done : List ByteArray} {cnt : Nat} (h : RangeAt P K w b r m done cnt) {F : Nat → Prop} (u : Upd F w w') (hb : ¬ F b) (hr : ¬ F r) : RangeAt P K w' b r m done cnt := by
  obtain ⟨D, left, h1, h2⟩ := h
  have l1 := h1.owns.lt
  have l2 := h1.lt
  obtain ⟨es, clock, since, seen, c0, x1, x2, x3, x4, x5, x6⟩ := h1
  exact ⟨D, left, ⟨es, clock, since, seen, c0, by rw [u.block b l1 hb]; exact x1, x2, x3, x4, by rw [u.block r l2 hr]; exact x5, x6⟩, h2⟩
theorem bs_inj {a b : List ByteArray} (h : (bsOf a).Perm (bsOf b)) : a.Perm b := by
  have := h.map (fun s => (⟨s.toArray⟩ : ByteArray))
  unfold bsOf at this
  rw [List.map_map, List.map_map] at this
  have e : ∀ l : List ByteArray, l.map ((fun s => (⟨s.toArray⟩ : ByteArray)) ∘ fun x => x.data.toList) = l := fun l => by
    conv => rhs; rw [← List.map_id l]
    exact List.map_congr_left fun k _ => by cases k; rfl
  rw [e, e] at this; exact this

section
variable {P : Program} (w : World) {ops : Array Oper} {rest : List Oper} {o : Oper} {a : Act} {Q : Exit → Act → World → Prop}
/-- 'range m'. -/
theorem wpList_range_at (hg : o.guard = none) (mo : Operand) (t : TypeId) (hop : o.op = Op.range t mo) (K E : TypeId) (hK : P.underlying K = some .string) (ht : P.underlying t = some (.map K E)) (b : Nat) (m : List (ByteArray × Value))
    (hm : a.eval mo = .map (some b)) (h : MapAt strEnc w b m) (hn : (akeys m).Nodup) (hs : ∀ k ∈ akeys m, k.size ≤ maxLen) (hl : m.length ≤ maxLen)
    (hGo : ∀ w' cnt, RangeAt P K w' b w.heap.size m [] cnt → Upd (fun _ => False) w w' → w'.heap.size = w.heap.size + 1 → wpList P ops Q rest (a.put o.dst (.pointer (some ⟨w.heap.size, 0, none⟩))) w') :
    wpList P ops Q (o :: rest) a w := by
  obtain ⟨D, hown, hp, hat⟩ := h.held hn hK hs hl
  refine wpList_range_own w hg mo t hop K E (Maps.string_keyed hK) ht heldR b m.length D hm hown fun w' h1 h2 h3 => hGo w' _ ⟨D, _, h1, Collected.start D, hp, hat⟩ ((Upd.of_grown h2).weaken (fun i _ e => by cases e)) h3
/-- THE STEP. -/
theorem wpList_next_at (hg : o.guard = none) (it : Operand) (hop : o.op = Op.next it false) (K : TypeId) (hK : P.underlying K = some .string) (b r : Nat) (m : List (ByteArray × Value)) (done : List ByteArray) (cnt : Nat)
    (hit : a.eval it = .pointer (some ⟨r, 0, none⟩)) (h : RangeAt P K w b r m done cnt)
    (hDone : done.Perm (akeys m) → wpList P ops Q rest (a.put o.dst (.tuple #[.bool false])) w)
    (hMore : ∀ k v w' cnt', k ∉ done → aget m k = some v → RangeAt P K w' b r m (done ++ [k]) cnt' → cnt' < cnt → Upd (fun i => i = r) w w' → w'.heap.size = w.heap.size → (Instr.entry (.pointer (some ⟨r, 0, none⟩))).run P w' = .ok (.tuple #[.string k, v]) w' →
      wpList P ops Q rest (a.put o.dst (.tuple #[.bool true, .string k, v])) w') :
    wpList P ops Q (o :: rest) a w := by
  obtain ⟨D, left, hr, hC, hp, hat⟩ := h
  refine wpList_next_ranges w hg it hop K (Maps.string_keyed hK) heldR (fun s : ByteArray => Value.string s) (fun v : Value => v) (fun key kl hk => by
    obtain ⟨x, hx, _⟩ := Maps.keyOf_str hK hk; exact ⟨_, hx⟩) (fun v y _ => ⟨v, rfl⟩) b r m.length D left cnt hit hr (fun _ hl => hDone (bs_inj ((hC.perm hr.owns (Maps.string_keyed hK) hK hl).trans hp))) ?_
  intro x c kl y w' cnt' hkey hlk hv hat' hrg hlt hgr hsz hen
  obtain ⟨x', ex, rfl, _⟩ := Maps.keyOf_str hK hkey
  have exx : x' = x.data.toList := by
    have : (Value.string x) = encStr x' := ex
    unfold encStr at this
    injection this with this
    rw [this]
  subst exx
  unfold heldR at hv
  cases hv
  have hg1 := hat x c hat'
  have hnew : x ∉ done := fun hm => by
    have := ((hC.2 x.data.toList).1 (List.mem_map.2 ⟨x, hm, rfl⟩)).2
    rw [hlk] at this; cases this
  refine hMore x c w' cnt' hnew hg1 ⟨D, _, hrg, ?_, hp, hat⟩ hlt ((Upd.of_grown hgr).weaken (fun i _ e => by cases e; rfl)) hsz hen
  have := hC.step hlk hat'
  unfold bsOf at this ⊢
  rw [List.map_append]; exact this
end
section
variable {F : Fence} {n : Nat} {P : Program} (w : World) {ops : Array Oper} {rest : List Oper} {o : Oper} {a : Act} {Q : Exit → Act → World → Prop}
/-- 'range m'. -/
theorem wpListIn_range_at (hg : o.guard = none) (mo : Operand) (t : TypeId) (hop : o.op = Op.range t mo) (K E : TypeId) (hK : P.underlying K = some .string) (ht : P.underlying t = some (.map K E)) (b : Nat) (m : List (ByteArray × Value))
    (hm : a.eval mo = .map (some b)) (h : MapAt strEnc w b m) (hn : (akeys m).Nodup) (hs : ∀ k ∈ akeys m, k.size ≤ maxLen) (hl : m.length ≤ maxLen)
    (hGo : ∀ w' cnt, RangeAt P K w' b w.heap.size m [] cnt → Upd (fun _ => False) w w' → w'.heap.size = w.heap.size + 1 → wpListIn F n P ops Q rest (a.put o.dst (.pointer (some ⟨w.heap.size, 0, none⟩))) w') :
    wpListIn F n P ops Q (o :: rest) a w := by
  obtain ⟨D, hown, hp, hat⟩ := h.held hn hK hs hl
  refine wpListIn_range_own w hg mo t hop K E (Maps.string_keyed hK) ht heldR b m.length D hm hown fun w' h1 h2 h3 => hGo w' _ ⟨D, _, h1, Collected.start D, hp, hat⟩ ((Upd.of_grown h2).weaken (fun i _ e => by cases e)) h3
/-- THE STEP. -/
theorem wpListIn_next_at (hg : o.guard = none) (it : Operand) (hop : o.op = Op.next it false) (K : TypeId) (hK : P.underlying K = some .string) (b r : Nat) (m : List (ByteArray × Value)) (done : List ByteArray) (cnt : Nat)
    (hit : a.eval it = .pointer (some ⟨r, 0, none⟩)) (h : RangeAt P K w b r m done cnt)
    (hDone : done.Perm (akeys m) → wpListIn F n P ops Q rest (a.put o.dst (.tuple #[.bool false])) w)
    (hMore : ∀ k v w' cnt', k ∉ done → aget m k = some v → RangeAt P K w' b r m (done ++ [k]) cnt' → cnt' < cnt → Upd (fun i => i = r) w w' → w'.heap.size = w.heap.size → (Instr.entry (.pointer (some ⟨r, 0, none⟩))).run P w' = .ok (.tuple #[.string k, v]) w' →
      wpListIn F n P ops Q rest (a.put o.dst (.tuple #[.bool true, .string k, v])) w') :
    wpListIn F n P ops Q (o :: rest) a w := by
  obtain ⟨D, left, hr, hC, hp, hat⟩ := h
  refine wpListIn_next_ranges w hg it hop K (Maps.string_keyed hK) heldR (fun s : ByteArray => Value.string s) (fun v : Value => v) (fun key kl hk => by
    obtain ⟨x, hx, _⟩ := Maps.keyOf_str hK hk; exact ⟨_, hx⟩) (fun v y _ => ⟨v, rfl⟩) b r m.length D left cnt hit hr (fun _ hl => hDone (bs_inj ((hC.perm hr.owns (Maps.string_keyed hK) hK hl).trans hp))) ?_
  intro x c kl y w' cnt' hkey hlk hv hat' hrg hlt hgr hsz hen
  obtain ⟨x', ex, rfl, _⟩ := Maps.keyOf_str hK hkey
  have exx : x' = x.data.toList := by
    have : (Value.string x) = encStr x' := ex
    unfold encStr at this
    injection this with this
    rw [this]
  subst exx
  unfold heldR at hv
  cases hv
  have hg1 := hat x c hat'
  have hnew : x ∉ done := fun hm => by
    have := ((hC.2 x.data.toList).1 (List.mem_map.2 ⟨x, hm, rfl⟩)).2
    rw [hlk] at this; cases this
  refine hMore x c w' cnt' hnew hg1 ⟨D, _, hrg, ?_, hp, hat⟩ hlt ((Upd.of_grown hgr).weaken (fun i _ e => by cases e; rfl)) hsz hen
  have := hC.step hlk hat'
  unfold bsOf at this ⊢
  rw [List.map_append]; exact this
end
end Go.Proofs.Ytokkhddbdjflhaa
