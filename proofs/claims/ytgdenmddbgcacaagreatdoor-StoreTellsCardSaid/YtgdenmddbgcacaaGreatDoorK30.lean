/- Fields of the arguments; walk of Events, whose slice lies beside all else. -/
import Derived.Test.YtgdenmddbgcacaaGreatDoorK29
import Derived.Test.YtgdenmddbgcacaaGreatDoorK02
import Derived.ChangeMaps5
import Derived.Maps.RangeWalk
import Derived.Sort.MapsRangeIn
import Derived.Sort.KeysCollected
import Derived.Test.YtgdenmddbgcacaaGreatDoorK28
set_option linter.unusedVariables false
set_option linter.unusedSimpArgs false
set_option linter.unusedSectionVars false
namespace Go.Proofs.YtgdenmddbgcacaaGreatDoor
open Go.RowKit

theorem row_fld0 {w : World} {v : Value} {l : List Fd} {base : Nat} (h : RowOf fdc 2 w v l) (hb : w.heap.size ≤ base) : FldAt w (fun b => b < base) v l := by
  refine ⟨h, ?_⟩
  rcases h with ⟨_, _, _, e⟩ | ⟨b, off, c, rfl, hl, _⟩
  · exact Or.inl e
  · exact Or.inr fun q hq => by
      have e2 : b = q := Option.some.inj hq
      omega
set_option maxHeartbeats 4000000 in
set_option maxRecDepth 100000 in
theorem sevents2_any {w : World} {base sb : Nat} {X : Nat → Prop} {S : PS} {N : Nat} (h : SSt w base sb X S N) :
    Calls Tryz.prog 14 #[.pointer (some ⟨sb, 0, none⟩)] w fun e w' => ∃ v, e = .returned v ∧ OwnN evc 2 63 w' base v S.events ∧ SSt w' base sb (fun q => X q ∨ fOf v q) { S with events := [] } N ∧ Upd (Fr base X) w w' ∧ ∀ q, fOf v q → ¬ X q := by
  obtain ⟨s, Z, m, hz, r, hn⟩ := h
  have hsb := m.blk.lt
  obtain ⟨p0, c0, e0, _⟩ := m.evs.slice
  have x7 : w.cell? ⟨sb, 7, none⟩ = some (.slice p0 s.ev.length c0) := by rw [m.blk.cellAt (i := 7) rfl]; exact congrArg some e0
  have f7 := m.blk.free 7
  have EV := Lib.hid m.evs
  have NB := Lib.hid (m.nsb (b := sb)).2.2
  have hs := m.blk.set 7 (.slice none 0 0)
  have u2 : Upd (fun b => b = sb) w (w.setCell ⟨sb, 7, none⟩ (.slice none 0 0)) := (Upd.refl (fun b => b = sb) w).set (b := sb) (o := 7) (v := .slice none 0 0) (fun _ => rfl)
  have hzz : ∀ b, Z b → ¬ fOf s.evv b := by
    obtain ⟨F, mr, d, x⟩ := m
    exact fun b hb g => d 6 b (mr.f6 b g) (Or.inr hb)
  have NX : Hid (∀ b, fOf s.evv b → ¬ X b) := by
    obtain ⟨F, mr, d, x⟩ := m
    exact fun b g hb => d 6 b (mr.f6 b g) (Or.inl hb)
  have Q := Lib.hid (m.evsOff (Y := Or2 (fun q => X q ∨ fOf s.evv q) Z) u2 hs (fun b hb => by
    rcases hb with (g | g) | g
    · exact Or.inl (Or.inl g)
    · exact Or.inr g
    · exact Or.inl (Or.inr g)))
  have R := Lib.hid r
  have HN := Lib.hid hn
  have HZ := Lib.hid hz
  have HZZ := Lib.hid hzz
  have RE := Lib.hid r.ev
  have U2 := Lib.hid u2
  clear m r hn hz hs hzz u2
  rw [e0] at EV Q HZZ NB NX
  generalize s.ev.length = n at *
  go_enter Tryz.func14, Tryz.ntmps14
  go_wp2
  go_ret
  have rr := R.out.keepF Q.out.2
  refine ⟨_, rfl, ?_, ⟨_, Z, Q.out.1, ?_, ⟨⟨rr.ok.nd, rr.ok.small, rr.ok.whens, rr.ok.bud, rr.ok.fit⟩, rr.km, rr.nd, rr.at_, rr.inj, rr.frOk, rr.frnd, rr.ks, rr.l, rr.byt, rr.bud, rfl, rr.sln, rr.cln⟩, HN.out⟩, Fr.sub Q.out.2 fun k _ hk => Or.inl hk, NX.out⟩
  · rw [← RE.out]
    exact EV.out.keep U2.out fun b hb e => NB.out (by rw [← e]; exact hb) rfl
  · rintro b hb (g | g)
    · exact HZ.out b hb g
    · exact HZZ.out b hb g
end Go.Proofs.YtgdenmddbgcacaaGreatDoor
/- A range over a map of texts, whatever its elements. -/
set_option linter.unusedVariables false
set_option linter.unusedSimpArgs false
namespace Go.Proofs.YtgdenmddbgcacaaGreatDoor
open Go.RowKit Go.Sort Go.Maps Go.WideElems Go.Proofs

def heldR (v : Value) : Option (DataW Value × List MemPlace) := some (.held v, [])
theorem bytes_inj {a b : ByteArray} (h : a.data.toList = b.data.toList) : a = b := by cases a; cases b; simpa [Array.toList_inj] using h
/-- A map of the call's own, in the library's words, its elements held. -/
theorem MapAt.held {w : World} {b : Nat} {m : List (ByteArray × Value)} {P : Program} {K : TypeId} (h : MapAt strEnc w b m) (hn : (akeys m).Nodup) (hK : P.underlying K = some .string) (hs : ∀ k ∈ akeys m, k.size ≤ maxLen) (hl : m.length ≤ maxLen) :
    ∃ D0 : DataW Value, w.ownsMap P K heldR b m.length D0 ∧ (strKeys D0).Perm ((akeys m).map fun k => k.data.toList) ∧ ∀ k v, (∀ zd, D0.atKey (.string k.data.toList) zd = .held v) → aget m k = some v := by
  obtain ⟨es, clock, hb, he, hst⟩ := h
  have hsz : es.size = m.length := by have := congrArg List.length he; simpa using this
  have hrd : ∀ x ∈ es.toList, ∃ k, (k, x.val) ∈ m ∧ x.key = strEnc k := fun x hx => by
    have : (x.key, x.val) ∈ es.toList.map (fun e => (e.key, e.val)) := List.mem_map.2 ⟨x, hx, rfl⟩
    rw [he] at this
    obtain ⟨p, hp, e⟩ := List.mem_map.1 this
    injection e with e1 e2
    exact ⟨p.1, by rw [← e2]; exact hp, e1.symm⟩
  have hmk : ∀ k v, (k, v) ∈ m → k ∈ akeys m := fun k v h => List.mem_map.2 ⟨_, h, rfl⟩
  have hrg : ∀ x ∈ es.toList, ∀ k, (k, x.val) ∈ m → x.key = strEnc k → Go.WideElems.rd P K heldR x = some (.string k.data.toList, .held x.val) := fun x _ k hk e => by
    unfold Go.WideElems.rd
    rw [e, show strEnc k = .string k from rfl, WideMaps.keyOf_string_mk hK (hs k (hmk _ _ hk))]; rfl
  have F : Fit P K heldR es clock := ⟨by omega, hst, fun x hx => by
    obtain ⟨k, hk, e⟩ := hrd x hx
    exact ⟨_, hrg x hx k hk e⟩⟩
  have hmap : es.toList.map (rg P K heldR) = m.map fun p => (Lit.string p.1.data.toList, (DataW.held p.2 : DataW Value)) := by
    have e1 : ∀ x ∈ es.toList, rg P K heldR x = (match x.key with | .string s => Lit.string s.data.toList | _ => .bool false, DataW.held x.val) := fun x hx => by
      obtain ⟨k, hk, e⟩ := hrd x hx
      unfold rg
      rw [hrg x hx k hk e, e]; rfl
    rw [List.map_congr_left e1]
    have e2 : es.toList.map (fun x => ((match x.key with | .string s => Lit.string s.data.toList | _ => .bool false, DataW.held x.val) : Lit × DataW Value)) = (es.toList.map (fun e => (e.key, e.val))).map (fun p => (match p.1 with | .string s => Lit.string s.data.toList | _ => .bool false, DataW.held p.2)) := by rw [List.map_map]; rfl
    rw [e2, he, List.map_map]; rfl
  refine ⟨.map ((es.toList.map (rg P K heldR)).foldr DataW.insert []), ⟨es, clock, hb, F, by omega, rfl⟩, ?_, fun k v hat => ?_⟩
  · show (((es.toList.map (rg P K heldR)).foldr DataW.insert []).map fun p => strOf p.1).Perm _
    refine ((WideShapes.sorted_perm _).map _).trans ?_
    rw [hmap, List.map_map]
    exact List.Perm.of_eq (by simp [akeys, List.map_map, Function.comp_def, strOf])
  · have h1 := hat .nil
    unfold DataW.atKey at h1
    simp only at h1
    cases hf : ((es.toList.map (rg P K heldR)).foldr DataW.insert []).find? (fun p => p.1.sameKey (.string k.data.toList)) with
    | none => rw [hf] at h1; cases h1
    | some p =>
      rw [hf] at h1
      simp only at h1
      have hp := List.mem_of_find?_eq_some hf
      have hk := List.find?_some hf
      rw [(WideShapes.sorted_perm _).mem_iff, hmap] at hp
      obtain ⟨q, hq, rfl⟩ := List.mem_map.1 hp
      simp only [Lit.sameKey] at hk
      have ek : q.1 = k := bytes_inj (by simpa using hk)
      have ev : q.2 = v := by simpa using h1
      subst ek ev
      clear hf hp hk h1 hat hmap F hrg hrd he hsz hmk hs hl
      induction m with
      | nil => simp at hq
      | cons x r ih =>
        simp only [akeys, List.map_cons, List.nodup_cons] at hn
        simp only [aget]
        rcases List.mem_cons.1 hq with rfl | hq
        · rw [if_pos rfl]
        · rw [if_neg (fun e => hn.1 (by rw [e]; exact List.mem_map.2 ⟨q, hq, rfl⟩))]; exact ih hn.2 hq

def bsOf (l : List ByteArray) : List (List UInt8) := l.map (·.data.toList)
/-- A range over map b is under way, by the block r: m is what the map holds; done came already, cnt entries are still to come. -/
def RangeAt (P : Program) (K : TypeId) (w : World) (b r : Nat) (m : List (ByteArray × Value)) (done : List ByteArray) (cnt : Nat) : Prop :=
  ∃ (D : DataW Value) (left : Lit → Bool), w.ranges P K heldR b r m.length D left cnt ∧ Collected D left (bsOf done) ∧ (strKeys D).Perm (bsOf (akeys m)) ∧ ∀ k v, (∀ zd, D.atKey (.string k.data.toList) zd = .held v) → aget m k = some v
theorem RangeAt.left {P : Program} {K : TypeId} {w : World} {b r : Nat} {m : List (ByteArray × Value)} {done : List ByteArray} {cnt : Nat} (h : RangeAt P K w b r m done cnt) : w.rangeLeft b r = cnt := by
  obtain ⟨D, left, h1, _⟩ := h; exact h1.left_eq
theorem RangeAt.lt {P : Program} {K : TypeId} {w : World} {b r : Nat} {m : List (ByteArray × Value)} {done : List ByteArray} {cnt : Nat} (h : RangeAt P K w b r m done cnt) : b < w.heap.size ∧ r < w.heap.size ∧ r ≠ b := by
  obtain ⟨D, left, h1, _⟩ := h; exact ⟨h1.owns.lt, h1.lt, h1.ne⟩
theorem RangeAt.keep {P : Program} {K : TypeId} {w w' : World} {b r : Nat} {m : List (ByteArray × Value)} {done : List ByteArray} {cnt : Nat} (h : RangeAt P K w b r m done cnt) {F : Nat → Prop} (u : Upd F w w') (hb : ¬ F b) (hr : ¬ F r) : RangeAt P K w' b r m done cnt := by
  obtain ⟨D, left, h1, h2⟩ := h
  have l1 := h1.owns.lt
  have l2 := h1.lt
  obtain ⟨es, clock, since, seen, c0, x1, x2, x3, x4, x5, x6⟩ := h1
  exact ⟨D, left, ⟨es, clock, since, seen, c0, by rw [u.block b l1 hb]; exact x1, x2, x3, x4, by rw [u.block r l2 hr]; exact x5, x6⟩, h2⟩
theorem bs_inj {a b : List ByteArray} (h : (bsOf a).Perm (bsOf b)) : a.Perm b := by
  have := h.map (fun s => (⟨s.toArray⟩ : ByteArray))
  unfold bsOf at this
  rw [List.map_map, List.map_map] at this
  have e : ∀ l : List ByteArray, l.map ((fun s => (⟨s.toArray⟩ : ByteArray)) ∘ fun x => x.data.toList) = l := fun l => by
    conv => rhs; rw [← List.map_id l]
    exact List.map_congr_left fun k _ => by cases k; rfl
  rw [e, e] at this; exact this

section
variable {P : Program} (w : World) {ops : Array Oper} {rest : List Oper} {o : Oper} {a : Act} {Q : Exit → Act → World → Prop}
/-- 'range m'. -/
theorem wpList_range_at (hg : o.guard = none) (mo : Operand) (t : TypeId) (hop : o.op = Op.range t mo) (K E : TypeId) (hK : P.underlying K = some .string) (ht : P.underlying t = some (.map K E)) (b : Nat) (m : List (ByteArray × Value))
    (hm : a.eval mo = .map (some b)) (h : MapAt strEnc w b m) (hn : (akeys m).Nodup) (hs : ∀ k ∈ akeys m, k.size ≤ maxLen) (hl : m.length ≤ maxLen)
    (hGo : ∀ w' cnt, RangeAt P K w' b w.heap.size m [] cnt → Upd (fun _ => False) w w' → w'.heap.size = w.heap.size + 1 → wpList P ops Q rest (a.put o.dst (.pointer (some ⟨w.heap.size, 0, none⟩))) w') :
    wpList P ops Q (o :: rest) a w := by
  obtain ⟨D, hown, hp, hat⟩ := h.held hn hK hs hl
  refine wpList_range_own w hg mo t hop K E (Maps.string_keyed hK) ht heldR b m.length D hm hown fun w' h1 h2 h3 => hGo w' _ ⟨D, _, h1, Collected.start D, hp, hat⟩ ((Upd.of_grown h2).weaken (fun i _ e => by cases e)) h3
/-- THE STEP. -/
theorem wpList_next_at (hg : o.guard = none) (it : Operand) (hop : o.op = Op.next it false) (K : TypeId) (hK : P.underlying K = some .string) (b r : Nat) (m : List (ByteArray × Value)) (done : List ByteArray) (cnt : Nat)
    (hit : a.eval it = .pointer (some ⟨r, 0, none⟩)) (h : RangeAt P K w b r m done cnt)
    (hDone : done.Perm (akeys m) → wpList P ops Q rest (a.put o.dst (.tuple #[.bool false])) w)
    (hMore : ∀ k v w' cnt', k ∉ done → aget m k = some v → RangeAt P K w' b r m (done ++ [k]) cnt' → cnt' < cnt → Upd (fun i => i = r) w w' → w'.heap.size = w.heap.size → (Instr.entry (.pointer (some ⟨r, 0, none⟩))).run P w' = .ok (.tuple #[.string k, v]) w' →
      wpList P ops Q rest (a.put o.dst (.tuple #[.bool true, .string k, v])) w') :
    wpList P ops Q (o :: rest) a w := by
  obtain ⟨D, left, hr, hC, hp, hat⟩ := h
  refine wpList_next_ranges w hg it hop K (Maps.string_keyed hK) heldR (fun s : ByteArray => Value.string s) (fun v : Value => v) (fun key kl hk => by
    obtain ⟨x, hx, _⟩ := Maps.keyOf_str hK hk; exact ⟨_, hx⟩) (fun v y _ => ⟨v, rfl⟩) b r m.length D left cnt hit hr (fun _ hl => hDone (bs_inj ((hC.perm hr.owns (Maps.string_keyed hK) hK hl).trans hp))) ?_
  intro x c kl y w' cnt' hkey hlk hv hat' hrg hlt hgr hsz hen
  obtain ⟨x', ex, rfl, _⟩ := Maps.keyOf_str hK hkey
  have exx : x' = x.data.toList := by
    have : (Value.string x) = encStr x' := ex
    unfold encStr at this
    injection this with this
    rw [this]
  subst exx
  unfold heldR at hv
  cases hv
  have hg1 := hat x c hat'
  have hnew : x ∉ done := fun hm => by
    have := ((hC.2 x.data.toList).1 (List.mem_map.2 ⟨x, hm, rfl⟩)).2
    rw [hlk] at this; cases this
  refine hMore x c w' cnt' hnew hg1 ⟨D, _, hrg, ?_, hp, hat⟩ hlt ((Upd.of_grown hgr).weaken (fun i _ e => by cases e; rfl)) hsz hen
  have := hC.step hlk hat'
  unfold bsOf at this ⊢
  rw [List.map_append]; exact this
end
section
variable {F : Fence} {n : Nat} {P : Program} (w : World) {ops : Array Oper} {rest : List Oper} {o : Oper} {a : Act} {Q : Exit → Act → World → Prop}
/-- 'range m'. -/
theorem wpListIn_range_at (hg : o.guard = none) (mo : Operand) (t : TypeId) (hop : o.op = Op.range t mo) (K E : TypeId) (hK : P.underlying K = some .string) (ht : P.underlying t = some (.map K E)) (b : Nat) (m : List (ByteArray × Value))
    (hm : a.eval mo = .map (some b)) (h : MapAt strEnc w b m) (hn : (akeys m).Nodup) (hs : ∀ k ∈ akeys m, k.size ≤ maxLen) (hl : m.length ≤ maxLen)
    (hGo : ∀ w' cnt, RangeAt P K w' b w.heap.size m [] cnt → Upd (fun _ => False) w w' → w'.heap.size = w.heap.size + 1 → wpListIn F n P ops Q rest (a.put o.dst (.pointer (some ⟨w.heap.size, 0, none⟩))) w') :
    wpListIn F n P ops Q (o :: rest) a w := by
  obtain ⟨D, hown, hp, hat⟩ := h.held hn hK hs hl
  refine wpListIn_range_own w hg mo t hop K E (Maps.string_keyed hK) ht heldR b m.length D hm hown fun w' h1 h2 h3 => hGo w' _ ⟨D, _, h1, Collected.start D, hp, hat⟩ ((Upd.of_grown h2).weaken (fun i _ e => by cases e)) h3
/-- THE STEP. -/
theorem wpListIn_next_at (hg : o.guard = none) (it : Operand) (hop : o.op = Op.next it false) (K : TypeId) (hK : P.underlying K = some .string) (b r : Nat) (m : List (ByteArray × Value)) (done : List ByteArray) (cnt : Nat)
    (hit : a.eval it = .pointer (some ⟨r, 0, none⟩)) (h : RangeAt P K w b r m done cnt)
    (hDone : done.Perm (akeys m) → wpListIn F n P ops Q rest (a.put o.dst (.tuple #[.bool false])) w)
    (hMore : ∀ k v w' cnt', k ∉ done → aget m k = some v → RangeAt P K w' b r m (done ++ [k]) cnt' → cnt' < cnt → Upd (fun i => i = r) w w' → w'.heap.size = w.heap.size → (Instr.entry (.pointer (some ⟨r, 0, none⟩))).run P w' = .ok (.tuple #[.string k, v]) w' →
      wpListIn F n P ops Q rest (a.put o.dst (.tuple #[.bool true, .string k, v])) w') :
    wpListIn F n P ops Q (o :: rest) a w := by
  obtain ⟨D, left, hr, hC, hp, hat⟩ := h
  refine wpListIn_next_ranges w hg it hop K (Maps.string_keyed hK) heldR (fun s : ByteArray => Value.string s) (fun v : Value => v) (fun key kl hk => by
    obtain ⟨x, hx, _⟩ := Maps.keyOf_str hK hk; exact ⟨_, hx⟩) (fun v y _ => ⟨v, rfl⟩) b r m.length D left cnt hit hr (fun _ hl => hDone (bs_inj ((hC.perm hr.owns (Maps.string_keyed hK) hK hl).trans hp))) ?_
  intro x c kl y w' cnt' hkey hlk hv hat' hrg hlt hgr hsz hen
  obtain ⟨x', ex, rfl, _⟩ := Maps.keyOf_str hK hkey
  have exx : x' = x.data.toList := by
    have : (Value.string x) = encStr x' := ex
    unfold encStr at this
    injection this with this
    rw [this]
  subst exx
  unfold heldR at hv
  cases hv
  have hg1 := hat x c hat'
  have hnew : x ∉ done := fun hm => by
    have := ((hC.2 x.data.toList).1 (List.mem_map.2 ⟨x, hm, rfl⟩)).2
    rw [hlk] at this; cases this
  refine hMore x c w' cnt' hnew hg1 ⟨D, _, hrg, ?_, hp, hat⟩ hlt ((Upd.of_grown hgr).weaken (fun i _ e => by cases e; rfl)) hsz hen
  have := hC.step hlk hat'
  unfold bsOf at this ⊢
  rw [List.map_append]; exact this
end
end Go.Proofs.YtgdenmddbgcacaaGreatDoor
/- StoreTells: maps of items in memory; where the law stands. -/
set_option linter.unusedVariables false
set_option linter.unusedSimpArgs false
set_option linter.unusedSectionVars false
namespace Go.Proofs.YtgdenmddbgcacaaGreatDoor
open Go.RowKit

abbrev Its := List (ByteArray × (It × Value))
def its (M : Its) : List (ByteArray × Value) := M.map fun p => (p.1, itV p.2.1 p.2.2)
theorem its_get (M : Its) (k : ByteArray) : aget (its M) k = (aget M k).map fun p => itV p.1 p.2 := by
  induction M with
  | nil => rfl
  | cons p r ih =>
    show (if p.1 = k then some (itV p.2.1 p.2.2) else aget (its r) k) = _
    simp only [aget]
    split
    · rfl
    · exact ih
theorem its_set (M : Its) (k : ByteArray) (i : It) (v : Value) : aset (its M) k (itV i v) = its (aset M k (i, v)) := by
  induction M with
  | nil => rfl
  | cons p r ih =>
    show (if p.1 = k then (k, itV i v) :: its r else (p.1, itV p.2.1 p.2.2) :: aset (its r) k (itV i v)) = _
    simp only [aset]
    split
    · rfl
    · rw [ih]; rfl
theorem its_keys (M : Its) : akeys (its M) = akeys M := by unfold akeys its; rw [List.map_map]; rfl
theorem mem_aset {κ ν : Type} [DecidableEq κ] {m : List (κ × ν)} {k : κ} {v : ν} {p : κ × ν} (h : p ∈ aset m k v) : p ∈ m ∨ p = (k, v) := by
  induction m with
  | nil => simp [aset] at h; exact Or.inr h
  | cons x r ih =>
    unfold aset at h
    split at h
    · rcases List.mem_cons.1 h with h | h
      · exact Or.inr h
      · exact Or.inl (by simp [h])
    · rcases List.mem_cons.1 h with h | h
      · exact Or.inl (by simp [h])
      · rcases ih h with h | h
        · exact Or.inl (by simp [h])
        · exact Or.inr h
theorem mem_aget {κ ν : Type} [DecidableEq κ] {m : List (κ × ν)} {k : κ} {v : ν} (h : aget m k = some v) : (k, v) ∈ m := by
  induction m with
  | nil => simp [aget] at h
  | cons x r ih =>
    unfold aget at h
    split at h
    · next e => injection h with h; subst h e; simp
    · simp [ih h]
theorem zeroItem (w : World) : (zeroValue 31).run Tryz.prog w = .ok (itV zeroIt (.slice none 0 0)) w := by kernel_rfl
/-- A row of fields stays where its block is not written to. -/
theorem row_keepX {w w' : World} {F : Nat → Prop} {v : Value} {l : List Fd} (h : RowOf fdc 2 w v l) (u : Upd F w w') (hF : ∀ q, fX v l q → ¬ F q) : RowOf fdc 2 w' v l := by
  by_cases e : l = []
  · rcases h with ⟨a, c, ev, _⟩ | ⟨b, off, c, ev, _⟩
    · exact Or.inl ⟨a, c, ev, e⟩
    · exact Or.inl ⟨some ⟨b, off, none⟩, c, by rw [ev, e]; rfl, e⟩
  · exact h.keep u fun b _ hb => hF b ⟨hb, e⟩
theorem row_notMap {w : World} {v : Value} {l : List Fd} {mb : Nat} {m : List (ByteArray × Value)} (h : RowOf fdc 2 w v l) (hm : MapAt strEnc w mb m) : ∀ q, fX v l q → q ≠ mb := by
  rintro q ⟨hq, hne⟩ rfl
  rcases h with ⟨_, _, _, e⟩ | ⟨b, off, c, ev, _, _, hc⟩
  · exact hne e
  · subst ev
    have eb : b = q := Option.some.inj hq
    subst eb
    obtain ⟨x, r, rfl⟩ := List.exists_cons_of_ne_nil hne
    have := hc 0 x rfl 0 (by omega)
    obtain ⟨es, clock, hb, _⟩ := hm
    unfold World.cell? at this
    rw [hb] at this
    simp [fdc] at this
/-- A map of items, its own block and its items' among Y's. -/
structure MapI (w : World) (mb : Nat) (M : Its) (Y : Nat → Prop) : Prop where
  mp : MapAt strEnc w mb (its M)
  rows : ∀ p ∈ M, RowOf fdc 2 w p.2.2 p.2.1.flds ∧ ∀ q, fX p.2.2 p.2.1.flds q → Y q
  mem : Y mb
section
variable {w w' w1 wx : World} {mb mw mt mo base sb N r : Nat} {M M2 : Its} {Y Y' Y0 Y2 : Nat → Prop} {S S1 S2 S3 : PS} {U : Nums}
theorem MapI.keep {F : Nat → Prop} (h : MapI w mb M Y) (u : Upd F w w') (hF : ∀ b, Y b → ¬ F b) : MapI w' mb M Y :=
  ⟨h.mp.keep u (hF _ h.mem), fun p hp => ⟨row_keepX (h.rows p hp).1 u fun q hq => hF q ((h.rows p hp).2 q hq), (h.rows p hp).2⟩, h.mem⟩
theorem MapI.to (h : MapI w mb M Y) (hY : ∀ b, Y b → Y' b) : MapI w mb M Y' := ⟨h.mp, fun p hp => ⟨(h.rows p hp).1, fun q hq => hY q ((h.rows p hp).2 q hq)⟩, hY _ h.mem⟩
theorem MapI.made (w : World) (hY : Y w.heap.size) : MapI (w.alloc (.map #[] 0)) w.heap.size [] Y := ⟨MapAt.made w, fun p hp => by simp at hp, hY⟩
theorem MapI.put (h : MapI w mb M Y) (k : ByteArray) (i : It) (v : Value) (hr : RowOf fdc 2 w v i.flds) :
    ∃ w', (Instr.mapUpdate 58 (.map (some mb)) (.string k) (.agg #[.int .i64 i.kind, .string i.text, v])).run Tryz.prog w = .ok () w' ∧ MapI w' mb (aset M k (i, v)) (fun q => Y q ∨ fX v i.flds q) ∧ Upd (fun q => q = mb) w w' := by
  obtain ⟨w', a, b, c⟩ := MapAt.put h.mp keyS Tryz.underlying58 k (itV i v)
  rw [its_set] at b
  refine ⟨w', a, ⟨b, fun p hp => ?_, Or.inl h.mem⟩, c⟩
  rcases mem_aset hp with hp | rfl
  · exact ⟨row_keepX (h.rows p hp).1 c (row_notMap (h.rows p hp).1 h.mp), fun q hq => Or.inl ((h.rows p hp).2 q hq)⟩
  · exact ⟨row_keepX hr c (row_notMap hr h.mp), fun q hq => Or.inr hq⟩
theorem MapI.look (h : MapI w mb M Y) (k : ByteArray) : (Instr.lookup 58 (.map (some mb)) (.string k) true).run Tryz.prog w = .ok (.tuple #[((aget M k).map fun p => itV p.1 p.2).getD (itV zeroIt (.slice none 0 0)), .bool (aget M k).isSome]) w := by
  have := MapAt.look h.mp keyS Tryz.underlying58 (zeroItem w) k true
  refine Eq.trans this ?_
  rw [its_get]
  cases aget M k <;> rfl
theorem MapI.look2 (h : MapI w mb M Y) (k : ByteArray) : ∃ (jk : Int) (jt : ByteArray) (jl : List Fd) (p : Option Addr) (c : Nat) (hd : Bool), (Instr.lookup 58 (.map (some mb)) (.string k) true).run Tryz.prog w = .ok (.tuple #[.agg #[.int .i64 jk, .string jt, .slice p jl.length c], .bool hd]) w ∧
    RowOf fdc 2 w (.slice p jl.length c) jl ∧ (aget M k).map (·.1) = (if hd = true then some (⟨jk, jt, jl⟩ : It) else none) := by
  have hk := h.look k
  cases hg : aget M k with
  | none =>
    rw [hg] at hk
    exact ⟨0, ByteArray.empty, [], none, 0, false, hk, Or.inl ⟨_, _, rfl, rfl⟩, rfl⟩
  | some x =>
    rw [hg] at hk
    obtain ⟨⟨jk, jt, jl⟩, v⟩ := x
    have hr : RowOf fdc 2 w v jl := (h.rows _ (mem_aget hg)).1
    obtain ⟨p, c, ev, _⟩ := hr.len
    subst ev
    exact ⟨jk, jt, jl, p, c, true, hk, hr, rfl⟩
/-- Behind an act: the store, what was there. -/
structure TJ (w1 : World) (base sb mw : Nat) (bud : Int) (N E : Nat) (S : PS) (M : Its) (Y0 Y : Nat → Prop) (S1 : PS) (wx : World) : Prop where
  st : SSt wx base sb Y S1 N
  wa : MapI wx mw M Y0
  sub : ∀ b, Y0 b → Y b
  told : Told S S1
  fit : FitP S1
  bu : S1.budget = (newP bud).budget
  el : S1.events.length ≤ E
  up : Upd (fun b => base ≤ b) w1 wx
theorem TJ.also {bud : Int} {E : Nat} (h : TJ w1 base sb mw bud N E S M Y0 Y S1 wx) (u : Upd (fun _ => False) wx w') (hs : ∀ b, Y b → Y' b) (hY : ∀ b, Y' b → Y b ∨ (wx.heap.size ≤ b ∧ b < w'.heap.size)) : TJ w1 base sb mw bud N E S M Y0 Y' S1 w' :=
  ⟨h.st.also u hY, h.wa.keep u (fun _ _ h => h), fun b hb => hs b (h.sub b hb), h.told, h.fit, h.bu, h.el, h.up.trans u fun _ _ h => h.elim⟩
theorem TJ.keep0 {bud : Int} {E : Nat} (h : TJ w1 base sb mw bud N E S M Y0 Y S1 wx) (u : Upd (fun _ => False) wx w') : TJ w1 base sb mw bud N E S M Y0 Y S1 w' := h.also u (fun _ h => h) (fun _ h => Or.inl h)
/-- A key was asked for. -/
theorem TJ.due {bud now : Int} {E : Nat} (h : TJ w1 base sb mw bud N E S M Y0 Y S1 wx) (x : ByteArray) (s : SSt w' base sb Y' (dueP S1 x now) N) (hs : ∀ b, Y b → Y' b) (u : Upd (Fr base Y) wx w') : TJ w1 base sb mw bud N (E + 1) S M Y0 Y' (dueP S1 x now) w' :=
  ⟨s, h.wa.keep u (fun b hb g => g.2 (h.sub b hb)), fun b hb => hs b (h.sub b hb), h.told.due x now, h.fit.due x now, (due_keeps S1 x now).1.trans h.bu, by have := (due_keeps S1 x now).2; have := h.el; omega, h.up.trans u fun b _ hb => hb.1⟩
/-- A block of Y's own was written to. -/
theorem TJ.map {bud : Int} {E : Nat} (h : TJ w1 base sb mw bud N E S M Y0 Y S1 wx) (u : Upd (fun q => q = mb) wx w') (hm : Y mb) (hb : base ≤ mb) (h0 : ∀ b, Y0 b → b < mb) : TJ w1 base sb mw bud N E S M Y0 Y S1 w' :=
  ⟨h.st.keepG u (fun b e => by subst e; exact ⟨hm, Nat.le_trans h.st.six hb⟩), h.wa.keep u (fun b hb e => by have := h0 b hb; omega), h.sub, h.told, h.fit, h.bu, h.el, h.up.trans u fun b _ e => by omega⟩
/-- The keys are being asked for. -/
def PL (w1 : World) (base sb mw mt : Nat) (bud : Int) (N : Nat) (S : PS) (M : Its) (Y0 : Nat → Prop) (vk : Value) (L : List ByteArray) (j : Nat) (wr : World) : Prop :=
  ∃ Y2 S2 M2, TJ w1 base sb mw bud N (200 + j) S M Y0 Y2 S2 wr ∧ MapI wr mt M2 Y2 ∧ PeekI S2 M2 L j ∧ RowOf strc 1 wr vk L ∧ (∀ q, fOf vk q → Y2 q ∧ mt < q)
/-- The events are being told. -/
structure TW (w1 : World) (base sb mw mt mo : Nat) (N : Nat) (Y0 Y2 Y : Nat → Prop) (S3 : PS) (M M2 : Its) (U : Nums) (wx : World) : Prop where
  st : SSt wx base sb Y S3 N
  wa : MapI wx mw M Y0
  th : MapI wx mt M2 Y2
  tl : MapS wx mo U
  up : Upd (fun b => base ≤ b) w1 wx
  b0 : ∀ b, Y0 b → b < mo
  b2 : ∀ b, Y2 b → b < mo
  bo : base ≤ mo
  yo : Y mo
  y2 : ∀ b, Y2 b → Y b
theorem TW.keep0 (h : TW w1 base sb mw mt mo N Y0 Y2 Y S3 M M2 U wx) (u : Upd (fun _ => False) wx w') : TW w1 base sb mw mt mo N Y0 Y2 Y S3 M M2 U w' :=
  ⟨h.st.keep0 u, h.wa.keep u (fun _ _ h => h), h.th.keep u (fun _ _ h => h), h.tl.keep u (fun h => h), h.up.trans u (fun _ _ h => h.elim), h.b0, h.b2, h.bo, h.yo, h.y2⟩
theorem TW.tell (h : TW w1 base sb mw mt mo N Y0 Y2 Y S3 M M2 U wx) {U' : Nums} (m : MapS w' mo U') (u : Upd (fun q => q = mo) wx w') : TW w1 base sb mw mt mo N Y0 Y2 Y S3 M M2 U' w' :=
  ⟨h.st.keepG u (fun b e => by subst e; exact ⟨h.yo, Nat.le_trans h.st.six h.bo⟩), h.wa.keep u (fun b hb e => by have := h.b0 b hb; omega), h.th.keep u (fun b hb e => by have := h.b2 b hb; omega), m, h.up.trans u (fun b _ e => by have := h.bo; omega), h.b0, h.b2, h.bo, h.yo, h.y2⟩
/-- A range's own block beside. -/
theorem TW.also (h : TW w1 base sb mw mt mo N Y0 Y2 Y S3 M M2 U wx) (u : Upd (fun _ => False) wx w') (hr : wx.heap.size ≤ r ∧ r < w'.heap.size) : TW w1 base sb mw mt mo N Y0 Y2 (fun q => Y q ∨ q = r) S3 M M2 U w' :=
  ⟨h.st.also u (fun b hb => hb.imp id (fun e => by omega)), h.wa.keep u (fun _ _ h => h), h.th.keep u (fun _ _ h => h), h.tl.keep u (fun h => h), h.up.trans u (fun _ _ h => h.elim), h.b0, h.b2, h.bo, Or.inl h.yo, fun b hb => Or.inl (h.y2 b hb)⟩
theorem TW.range (h : TW w1 base sb mw mt mo N Y0 Y2 Y S3 M M2 U wx) (u : Upd (fun q => q = r) wx w') (hy : Y r) (hr : mo < r) : TW w1 base sb mw mt mo N Y0 Y2 Y S3 M M2 U w' :=
  ⟨h.st.keepG u (fun b e => by subst e; exact ⟨hy, Nat.le_trans h.st.six (Nat.le_trans h.bo (by omega))⟩), h.wa.keep u (fun b hb e => by have := h.b0 b hb; omega), h.th.keep u (fun b hb e => by have := h.b2 b hb; omega), h.tl.keep u (fun e => by omega), h.up.trans u (fun b _ e => by have := h.bo; omega), h.b0, h.b2, h.bo, h.yo, h.y2⟩
end
/-- The law's state between acts. -/
def TI (w1 : World) (base sb mw : Nat) (bud : Int) (N : Nat) (wr : World) : Prop :=
  ∃ Y S M, SSt wr base sb Y S N ∧ S.events = [] ∧ FitP S ∧ S.budget = (newP bud).budget ∧ MapI wr mw M Y ∧ (akeys M).Nodup ∧ (∀ x, (aget M x).map (·.1) = hasC S.cells x) ∧ Upd (fun b => base ≤ b) w1 wr
end Go.Proofs.YtgdenmddbgcacaaGreatDoor
