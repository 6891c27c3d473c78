/- A range over a map of texts, whatever its elements. -/
import Derived.Test.YtcdihffcncaibaaGreatDoorK02
import Derived.ChangeMaps5
import Derived.Maps.RangeWalk
import Derived.Sort.MapsRangeIn
import Derived.Sort.KeysCollected
import Derived.Test.YtcdihffcncaibaaGreatDoorK22
import Derived.Deep.DeepCutAuto
import Derived.Test.YtcdihffcncaibaaGreatDoorRows
import Derived.Test.YtcdihffcncaibaaGreatDoorK14
import Derived.ProofKit
import Derived.LaidMore
import Derived.OpenShut
import Derived.Stop.Joined
import Derived.Stop.LaidErr
import Derived.Lib.LaidTab
set_option linter.unusedVariables false
set_option linter.unusedSimpArgs false
namespace Go.Proofs.YtcdihffcncaibaaGreatDoor
open Go.RowKit Go.Sort Go.Maps Go.WideElems Go.Proofs

def heldR (v : Value) : Option (DataW Value × List MemPlace) := some (.held v, [])
theorem bytes_inj {a b : ByteArray} (h : a.data.toList = b.data.toList) : a = b := by cases a; cases b; simpa [Array.toList_inj] using h
/-- A map of the call's own, in the library's words, its elements held. -/
theorem MapAt.held {w : World} {b : Nat} {m : List (ByteArray × Value)} {P : Program} {K : TypeId} (h : MapAt strEnc w b m) (hn : (akeys m).Nodup) (hK : P.underlying K = some .string) (hs : ∀ k ∈ akeys m, k.size ≤ maxLen) (hl : m.length ≤ maxLen) :
    ∃ D0 : DataW Value, w.ownsMap P K heldR b m.length D0 ∧ (strKeys D0).Perm ((akeys m).map fun k => k.data.toList) ∧ ∀ k v, (∀ zd, D0.atKey (.string k.data.toList) zd = .held v) → aget m k = some v := by
  obtain ⟨es, clock, hb, he, hst⟩ := h
  have hsz : es.size = m.length := by have := congrArg List.length he; simpa using this
  have hrd : ∀ x ∈ es.toList, ∃ k, (k, x.val) ∈ m ∧ x.key = strEnc k := fun x hx => by
    have : (x.key, x.val) ∈ es.toList.map (fun e => (e.key, e.val)) := List.mem_map.2 ⟨x, hx, rfl⟩
    rw [he] at this
    obtain ⟨p, hp, e⟩ := List.mem_map.1 this
    injection e with e1 e2
    exact ⟨p.1, by rw [← e2]; exact hp, e1.symm⟩
  have hmk : ∀ k v, (k, v) ∈ m → k ∈ akeys m := fun k v h => List.mem_map.2 ⟨_, h, rfl⟩
  have hrg : ∀ x ∈ es.toList, ∀ k, (k, x.val) ∈ m → x.key = strEnc k → Go.WideElems.rd P K heldR x = some (.string k.data.toList, .held x.val) := fun x _ k hk e => by
    unfold Go.WideElems.rd
    rw [e, show strEnc k = .string k from rfl, WideMaps.keyOf_string_mk hK (hs k (hmk _ _ hk))]; rfl
  have F : Fit P K heldR es clock := ⟨by omega, hst, fun x hx => by
    obtain ⟨k, hk, e⟩ := hrd x hx
    exact ⟨_, hrg x hx k hk e⟩⟩
  have hmap : es.toList.map (rg P K heldR) = m.map fun p => (Lit.string p.1.data.toList, (DataW.held p.2 : DataW Value)) := by
    have e1 : ∀ x ∈ es.toList, rg P K heldR x = (match x.key with | .string s => Lit.string s.data.toList | _ => .bool false, DataW.held x.val) := fun x hx => by
      obtain ⟨k, hk, e⟩ := hrd x hx
      unfold rg
      rw [hrg x hx k hk e, e]; rfl
    rw [List.map_congr_left e1]
    have e2 : es.toList.map (fun x => ((match x.key with | .string s => Lit.string s.data.toList | _ => .bool false, DataW.held x.val) : Lit × DataW Value)) = (es.toList.map (fun e => (e.key, e.val))).map (fun p => (match p.1 with | .string s => Lit.string s.data.toList | _ => .bool false, DataW.held p.2)) := by rw [List.map_map]; rfl
    rw [e2, he, List.map_map]; rfl
  refine ⟨.map ((es.toList.map (rg P K heldR)).foldr DataW.insert []), ⟨es, clock, hb, F, by omega, rfl⟩, ?_, fun k v hat => ?_⟩
  · show (((es.toList.map (rg P K heldR)).foldr DataW.insert []).map fun p => strOf p.1).Perm _
    refine ((WideShapes.sorted_perm _).map _).trans ?_
    rw [hmap, List.map_map]
    exact List.Perm.of_eq (by simp [akeys, List.map_map, Function.comp_def, strOf])
  · have h1 := hat .nil
    unfold DataW.atKey at h1
    simp only at h1
    cases hf : ((es.toList.map (rg P K heldR)).foldr DataW.insert []).find? (fun p => p.1.sameKey (.string k.data.toList)) with
    | none => rw [hf] at h1; cases h1
    | some p =>
      rw [hf] at h1
      simp only at h1
      have hp := List.mem_of_find?_eq_some hf
      have hk := List.find?_some hf
      rw [(WideShapes.sorted_perm _).mem_iff, hmap] at hp
      obtain ⟨q, hq, rfl⟩ := List.mem_map.1 hp
      simp only [Lit.sameKey] at hk
      have ek : q.1 = k := bytes_inj (by simpa using hk)
      have ev : q.2 = v := by simpa using h1
      subst ek ev
      clear hf hp hk h1 hat hmap F hrg hrd he hsz hmk hs hl
      induction m with
      | nil => simp at hq
      | cons x r ih =>
        simp only [akeys, List.map_cons, List.nodup_cons] at hn
        simp only [aget]
        rcases List.mem_cons.1 hq with rfl | hq
        · rw [if_pos rfl]
        · rw [if_neg (fun e => hn.1 (by rw [e]; exact List.mem_map.2 ⟨q, hq, rfl⟩))]; exact ih hn.2 hq

def bsOf (l : List ByteArray) : List (List UInt8) := l.map (·.data.toList)
/-- A range over map b is under way, by the block r: m is what the map holds; done came already, cnt entries are still to come. -/
def RangeAt (P : Program) (K : TypeId) (w : World) (b r : Nat) (m : List (ByteArray × Value)) (done : List ByteArray) (cnt : Nat) : Prop :=
  ∃ (D : DataW Value) (left : Lit → Bool), w.ranges P K heldR b r m.length D left cnt ∧ Collected D left (bsOf done) ∧ (strKeys D).Perm (bsOf (akeys m)) ∧ ∀ k v, (∀ zd, D.atKey (.string k.data.toList) zd = .held v) → aget m k = some v
theorem RangeAt.left {P : Program} {K : TypeId} {w : World} {b r : Nat} {m : List (ByteArray × Value)} {done : List ByteArray} {cnt : Nat} (h : RangeAt P K w b r m done cnt) : w.rangeLeft b r = cnt := by
  obtain ⟨D, left, h1, _⟩ := h; exact h1.left_eq
theorem RangeAt.lt {P : Program} {K : TypeId} {w : World} {b r : Nat} {m : List (ByteArray × Value)} {done : List ByteArray} {cnt : Nat} (h : RangeAt P K w b r m done cnt) : b < w.heap.size ∧ r < w.heap.size ∧ r ≠ b := by
  obtain ⟨D, left, h1, _⟩ := h; exact ⟨h1.owns.lt, h1.lt, h1.ne⟩
theorem RangeAt.keep {P : Program} {K : TypeId} {w w' : World} {b r : Nat} {m : List (ByteArray × Value)} {done : List ByteArray} {cnt : Nat} (h : RangeAt P K w b r m done cnt) {F : Nat → Prop} (u : Upd F w w') (hb : ¬ F b) (hr : ¬ F r) : RangeAt P K w' b r m done cnt := by
  obtain ⟨D, left, h1, h2⟩ := h
  have l1 := h1.owns.lt
  have l2 := h1.lt
  obtain ⟨es, clock, since, seen, c0, x1, x2, x3, x4, x5, x6⟩ := h1
  exact ⟨D, left, ⟨es, clock, since, seen, c0, by rw [u.block b l1 hb]; exact x1, x2, x3, x4, by rw [u.block r l2 hr]; exact x5, x6⟩, h2⟩
theorem bs_inj {a b : List ByteArray} (h : (bsOf a).Perm (bsOf b)) : a.Perm b := by
  have := h.map (fun s => (⟨s.toArray⟩ : ByteArray))
  unfold bsOf at this
  rw [List.map_map, List.map_map] at this
  have e : ∀ l : List ByteArray, l.map ((fun s => (⟨s.toArray⟩ : ByteArray)) ∘ fun x => x.data.toList) = l := fun l => by
    conv => rhs; rw [← List.map_id l]
    exact List.map_congr_left fun k _ => by cases k; rfl
  rw [e, e] at this; exact this

section
variable {P : Program} (w : World) {ops : Array Oper} {rest : List Oper} {o : Oper} {a : Act} {Q : Exit → Act → World → Prop}
/-- 'range m'. -/
theorem wpList_range_at (hg : o.guard = none) (mo : Operand) (t : TypeId) (hop : o.op = Op.range t mo) (K E : TypeId) (hK : P.underlying K = some .string) (ht : P.underlying t = some (.map K E)) (b : Nat) (m : List (ByteArray × Value))
    (hm : a.eval mo = .map (some b)) (h : MapAt strEnc w b m) (hn : (akeys m).Nodup) (hs : ∀ k ∈ akeys m, k.size ≤ maxLen) (hl : m.length ≤ maxLen)
    (hGo : ∀ w' cnt, RangeAt P K w' b w.heap.size m [] cnt → Upd (fun _ => False) w w' → w'.heap.size = w.heap.size + 1 → wpList P ops Q rest (a.put o.dst (.pointer (some ⟨w.heap.size, 0, none⟩))) w') :
    wpList P ops Q (o :: rest) a w := by
  obtain ⟨D, hown, hp, hat⟩ := h.held hn hK hs hl
  refine wpList_range_own w hg mo t hop K E (Maps.string_keyed hK) ht heldR b m.length D hm hown fun w' h1 h2 h3 => hGo w' _ ⟨D, _, h1, Collected.start D, hp, hat⟩ ((Upd.of_grown h2).weaken (fun i _ e => by cases e)) h3
/-- THE STEP. -/
theorem wpList_next_at (hg : o.guard = none) (it : Operand) (hop : o.op = Op.next it false) (K : TypeId) (hK : P.underlying K = some .string) (b r : Nat) (m : List (ByteArray × Value)) (done : List ByteArray) (cnt : Nat)
    (hit : a.eval it = .pointer (some ⟨r, 0, none⟩)) (h : RangeAt P K w b r m done cnt)
    (hDone : done.Perm (akeys m) → wpList P ops Q rest (a.put o.dst (.tuple #[.bool false])) w)
    (hMore : ∀ k v w' cnt', k ∉ done → aget m k = some v → RangeAt P K w' b r m (done ++ [k]) cnt' → cnt' < cnt → Upd (fun i => i = r) w w' → w'.heap.size = w.heap.size → (Instr.entry (.pointer (some ⟨r, 0, none⟩))).run P w' = .ok (.tuple #[.string k, v]) w' →
      wpList P ops Q rest (a.put o.dst (.tuple #[.bool true, .string k, v])) w') :
    wpList P ops Q (o :: rest) a w := by
  obtain ⟨D, left, hr, hC, hp, hat⟩ := h
  refine wpList_next_ranges w hg it hop K (Maps.string_keyed hK) heldR (fun s : ByteArray => Value.string s) (fun v : Value => v) (fun key kl hk => by
    obtain ⟨x, hx, _⟩ := Maps.keyOf_str hK hk; exact ⟨_, hx⟩) (fun v y _ => ⟨v, rfl⟩) b r m.length D left cnt hit hr (fun _ hl => hDone (bs_inj ((hC.perm hr.owns (Maps.string_keyed hK) hK hl).trans hp))) ?_
  intro x c kl y w' cnt' hkey hlk hv hat' hrg hlt hgr hsz hen
  obtain ⟨x', ex, rfl, _⟩ := Maps.keyOf_str hK hkey
  have exx : x' = x.data.toList := by
    have : (Value.string x) = encStr x' := ex
    unfold encStr at this
    injection this with this
    rw [this]
  subst exx
  unfold heldR at hv
  cases hv
  have hg1 := hat x c hat'
  have hnew : x ∉ done := fun hm => by
    have := ((hC.2 x.data.toList).1 (List.mem_map.2 ⟨x, hm, rfl⟩)).2
    rw [hlk] at this; cases this
  refine hMore x c w' cnt' hnew hg1 ⟨D, _, hrg, ?_, hp, hat⟩ hlt ((Upd.of_grown hgr).weaken (fun i _ e => by cases e; rfl)) hsz hen
  have := hC.step hlk hat'
  unfold bsOf at this ⊢
  rw [List.map_append]; exact this
end
section
variable {F : Fence} {n : Nat} {P : Program} (w : World) {ops : Array Oper} {rest : List Oper} {o : Oper} {a : Act} {Q : Exit → Act → World → Prop}
/-- 'range m'. -/
theorem wpListIn_range_at (hg : o.guard = none) (mo : Operand) (t : TypeId) (hop : o.op = Op.range t mo) (K E : TypeId) (hK : P.underlying K = some .string) (ht : P.underlying t = some (.map K E)) (b : Nat) (m : List (ByteArray × Value))
    (hm : a.eval mo = .map (some b)) (h : MapAt strEnc w b m) (hn : (akeys m).Nodup) (hs : ∀ k ∈ akeys m, k.size ≤ maxLen) (hl : m.length ≤ maxLen)
    (hGo : ∀ w' cnt, RangeAt P K w' b w.heap.size m [] cnt → Upd (fun _ => False) w w' → w'.heap.size = w.heap.size + 1 → wpListIn F n P ops Q rest (a.put o.dst (.pointer (some ⟨w.heap.size, 0, none⟩))) w') :
    wpListIn F n P ops Q (o :: rest) a w := by
  obtain ⟨D, hown, hp, hat⟩ := h.held hn hK hs hl
  refine wpListIn_range_own w hg mo t hop K E (Maps.string_keyed hK) ht heldR b m.length D hm hown fun w' h1 h2 h3 => hGo w' _ ⟨D, _, h1, Collected.start D, hp, hat⟩ ((Upd.of_grown h2).weaken (fun i _ e => by cases e)) h3
/-- THE STEP. -/
theorem wpListIn_next_at (hg : o.guard = none) (it : Operand) (hop : o.op = Op.next it false) (K : TypeId) (hK : P.underlying K = some .string) (b r : Nat) (m : List (ByteArray × Value)) (done : List ByteArray) (cnt : Nat)
    (hit : a.eval it = .pointer (some ⟨r, 0, none⟩)) (h : RangeAt P K w b r m done cnt)
    (hDone : done.Perm (akeys m) → wpListIn F n P ops Q rest (a.put o.dst (.tuple #[.bool false])) w)
    (hMore : ∀ k v w' cnt', k ∉ done → aget m k = some v → RangeAt P K w' b r m (done ++ [k]) cnt' → cnt' < cnt → Upd (fun i => i = r) w w' → w'.heap.size = w.heap.size → (Instr.entry (.pointer (some ⟨r, 0, none⟩))).run P w' = .ok (.tuple #[.string k, v]) w' →
      wpListIn F n P ops Q rest (a.put o.dst (.tuple #[.bool true, .string k, v])) w') :
    wpListIn F n P ops Q (o :: rest) a w := by
  obtain ⟨D, left, hr, hC, hp, hat⟩ := h
  refine wpListIn_next_ranges w hg it hop K (Maps.string_keyed hK) heldR (fun s : ByteArray => Value.string s) (fun v : Value => v) (fun key kl hk => by
    obtain ⟨x, hx, _⟩ := Maps.keyOf_str hK hk; exact ⟨_, hx⟩) (fun v y _ => ⟨v, rfl⟩) b r m.length D left cnt hit hr (fun _ hl => hDone (bs_inj ((hC.perm hr.owns (Maps.string_keyed hK) hK hl).trans hp))) ?_
  intro x c kl y w' cnt' hkey hlk hv hat' hrg hlt hgr hsz hen
  obtain ⟨x', ex, rfl, _⟩ := Maps.keyOf_str hK hkey
  have exx : x' = x.data.toList := by
    have : (Value.string x) = encStr x' := ex
    unfold encStr at this
    injection this with this
    rw [this]
  subst exx
  unfold heldR at hv
  cases hv
  have hg1 := hat x c hat'
  have hnew : x ∉ done := fun hm => by
    have := ((hC.2 x.data.toList).1 (List.mem_map.2 ⟨x, hm, rfl⟩)).2
    rw [hlk] at this; cases this
  refine hMore x c w' cnt' hnew hg1 ⟨D, _, hrg, ?_, hp, hat⟩ hlt ((Upd.of_grown hgr).weaken (fun i _ e => by cases e; rfl)) hsz hen
  have := hC.step hlk hat'
  unfold bsOf at this ⊢
  rw [List.map_append]; exact this
end
end Go.Proofs.YtcdihffcncaibaaGreatDoor
/- Walk: StoreSweeps. -/
set_option linter.unusedVariables false
set_option linter.unusedSimpArgs false
namespace Go.Proofs.YtcdihffcncaibaaGreatDoor
open Go.RowKit

def dueC (d : DueP) : List Value := [.int .i64 d.1, .string d.2]
theorem dueC_cells {w : World} {v : Value} {l : List DueP} (h : RowOf dueC 2 w v l) {k : Nat} {d : DueP} (hk : l[k]? = some d) : ∃ b off cap, v = .slice (some ⟨b, off, none⟩) l.length cap ∧ b < w.heap.size ∧ w.cell? ⟨b, off + k * 2, none⟩ = some (.int .i64 d.1) ∧ w.cell? ⟨b, off + k * 2 + 1, none⟩ = some (.string d.2) := by
  rcases h with ⟨_, _, _, e⟩ | ⟨b, off, c, e, hb, _, hc⟩
  · rw [e] at hk; simp at hk
  · refine ⟨b, off, c, e, hb, ?_, ?_⟩
    · have := hc k d hk 0 (by omega); rw [Nat.add_zero] at this; simpa [dueC] using this
    · have := hc k d hk 1 (by omega); rw [← Nat.add_assoc] at this; simpa [dueC] using this
theorem zeroI64 (w : World) : (zeroValue 2).run Tryz.prog w = .ok (.int .i64 0) w := by kernel_rfl
theorem MapS.look64 {w : World} {b : Nat} {m : Nums} (h : MapS w b m) (key : ByteArray) : (Instr.lookup 54 (.map (some b)) (.string key) false).run Tryz.prog w = .ok (.int .i64 (usedV m key)) w := by
  have := MapAt.look h keyS Tryz.underlying54 (zeroI64 w) key false
  refine Eq.trans this ?_
  rw [vmS_get]; unfold usedV
  cases aget m key <;> rfl
theorem MapS.put64 {w : World} {b : Nat} {m : Nums} (h : MapS w b m) (key : ByteArray) (n : Int) : ∃ w', (Instr.mapUpdate 54 (.map (some b)) (.string key) (.int .i64 n)).run Tryz.prog w = .ok () w' ∧ MapS w' b (aset m key n) ∧ Upd (fun k => k = b) w w' := by
  obtain ⟨w', a, b, c⟩ := MapAt.put h keyS Tryz.underlying54 key (.int .i64 n)
  rw [vmS_set] at b
  exact ⟨w', a, b, c⟩
theorem MapS.del64 {w : World} {b : Nat} {m : Nums} (h : MapS w b m) (key : ByteArray) : ∃ w', (Builtin.delete_ #[54, 9] 0 #[.map (some b), .string key]).run Tryz.prog w = .ok (.tuple #[]) w' ∧ MapS w' b (adel m key) ∧ Upd (fun k => k = b) w w' := by
  obtain ⟨w', a, b, c⟩ := MapAt.del h keyS Tryz.underlying54 key 0
  rw [vmS_del] at b
  exact ⟨w', a, b, c⟩
set_option maxHeartbeats 16000000 in
set_option maxRecDepth 100000 in
theorem lawSSw (v : Value) (l : List DueP) (now most : Int) (hmost : -9223372036854775808 ≤ most ∧ most ≤ 9223372036854775807) (w : World) (hs : Std w) (h : RowOf dueC 2 w v l) : Calls Tryz.prog 4 #[v, .int .i64 now, .int .i64 most] w fun e w' => e = .returned (.bool true) ∧ Upd (fun _ => False) w w' := by
  obtain ⟨p, c, ev, hm⟩ := h.len
  subst ev
  have HR := Lib.hid h
  have HS := Lib.hid hs
  have AL := Lib.hid (alive12_any w hs)
  have HMO := Lib.hid hmost
  clear h hs hmost
  by_cases h1 : l.length ≤ 30
  · have t1 : decide ((l.length : Int) > 30) = false := decide_eq_false (by omega)
    by_cases h2 : 0 ≤ now
    · have t2 : decide (now < 0) = false := decide_eq_false (by omega)
      by_cases h3 : now ≤ 1000000
      · have t3 : decide (now > 1000000) = false := decide_eq_false (by omega)
        have nw : newP 100000000 = ⟨[], 100000000, []⟩ := by kernel_rfl
        have HB := Lib.hid (And.intro h2 h3)
        have HL := Lib.hid h1
        clear h1 h2 h3
        go_enter Tryz.func4, Tryz.ntmps4
        go_wp2_with fail
        refine (AL.out).mono ?_
        rintro e w0 ⟨rfl, u0⟩
        have U0 := Lib.hid u0
        have NW := Lib.hid (snew_any 100000000 w0 (HS.out.keep u0))
        rw [nw] at NW
        clear u0 AL nw
        go_wp2_with fail
        refine (NW.out).mono ?_
        rintro e w1 ⟨sb, rfl, s1, u1⟩
        have mk := run_makeMap (P := Tryz.prog) 54 w1
        have ua : Upd (fun _ => False) w1 (w1.alloc (.map #[] 0)) := (Upd.refl _ _).alloc _
        have I0 : Hid (∃ S U, SwI S U 0 ∧ LastM w (w1.alloc (.map #[] 0)) w0.heap.size sb w1.heap.size S U 0) := by
          refine ⟨⟨[], 100000000, []⟩, [], ⟨?_, rfl, by simp, by simp [akeys], fun x => by simp [aget, keysC], by simp, by simp, by simp⟩, ⟨s1.also ua (fun b hb => Or.inr (by subst hb; simp)), MapAt.made w1, (U0.out.trans u1 (fun _ _ h => h)).trans ua (fun _ _ h => h), U0.out.size, u1.size⟩⟩
          exact ⟨by simp [keysC], by simp, by simp, by simp, by simp⟩
        generalize hbase : w0.heap.size = base at *
        clear s1 u1 NW ua U0 hbase
        go_wp2
        go_loopw [6, 35] (fun v6 x wr => v6 = .bool false ∧ ∃ k : Nat, k ≤ l.length ∧ x = .int .i64 (k : Int) ∧ Hid (∃ S U, SwI S U k ∧ LastM w wr base sb w1.heap.size S U k)) (fun _ x _ => l.length - (intOf x).toNat)
        case atStart => exact ⟨rfl, 0, by omega, rfl, I0⟩
        case round =>
          clear I0
          obtain ⟨rfl, k, hkl, rfl, I⟩ := hrel
          obtain ⟨S, U, LI, LM⟩ := I.out
          have hk30 : k ≤ 30 := by have := HL.out; omega
          by_cases hlt : k < l.length
          · obtain ⟨d, hx⟩ : ∃ x, l[k]? = some x := ⟨_, List.getElem?_eq_getElem hlt⟩
            obtain ⟨b, off, cap, ev, hb, c0, c1⟩ := dueC_cells HR.out hx
            injection ev with ev1 _ ev3
            subst ev1 ev3
            have c0 := (LM.up.cell (p := ⟨b, off + k * 2, none⟩) hb (fun h => h)).trans c0
            have c1 := (LM.up.cell (p := ⟨b, off + k * 2 + 1, none⟩) hb (fun h => h)).trans c1
            have hbw : b < wr.heap.size := Nat.lt_of_lt_of_le hb LM.up.size
            have hq : (k : Int) < (l.length : Int) := by omega
            obtain ⟨t, x⟩ := d
            simp only at c0 c1
            have UPh := Lib.hid LM.up
            have ud : Upd (fun _ => False) wr (wr.alloc (.cells #[.int .i64 t, .string x] 56)) := (Upd.refl _ _).alloc _
            have UPD := Lib.hid (UPh.out.trans ud (fun _ _ h => h))
            have LIh := Lib.hid LI
            have LMh := Lib.hid LM
            clear LI LM I hx
            by_cases g1 : 1 ≤ t
            · have q1 : decide (t < 1) = false := decide_eq_false (by omega)
              by_cases g2 : t ≤ 1000000
              · have q2 : decide (t > 1000000) = false := decide_eq_false (by omega)
                by_cases g3 : x.size ≤ 100
                · have q3 : decide ((x.size : Int) > 100) = false := decide_eq_false (by omega)
                  have G := Lib.hid (And.intro g1 (And.intro g2 g3))
                  clear g1 g2 g3
                  have BD := Lib.hid (Blk.made wr [.int .i64 t, .string x] 56)
                  have SD := Lib.hid (LMh.out.st.also (Y := fun q => q = w1.heap.size ∨ q = wr.heap.size) ud (fun q hq => hq.imp id (fun e => by subst e; simp)))
                  obtain ⟨pe, pp⟩ := LIh.out.put (k := k) hk30 G.out.2.2
                  have PU : Hid (∀ W, Upd (fun _ => False) (wr.alloc (.cells #[.int .i64 t, .string x] 56)) W → Calls Tryz.prog 12 #[.pointer (some ⟨sb, 0, none⟩), .string x, itV tenI (.slice none 0 0), .bool false, .int .i64 0] W fun e w' => e = .returned (.int .i64 0) ∧ SSt w' base sb (fun q => q = w1.heap.size ∨ q = wr.heap.size) ⟨delC S.cells x ++ [⟨x, tenI, -1⟩], S.budget, S.events ++ [(1, x)]⟩ (k + 1) ∧ Upd (Fr base (fun q => q = w1.heap.size ∨ q = wr.heap.size)) W w') := by
                    intro W u
                    have := sput_any (SD.out.keep0 u) x tenI (.slice none 0 0) false 0 (nofld _ _) (by omega) (by have := G.out.2.2; omega) (by have := LIh.out.evl; omega)
                    rw [pe, pp] at this
                    exact this
                  have WD : Hid (∀ W, Upd (fun _ => False) (wr.alloc (.cells #[.int .i64 t, .string x] 56)) W → W.cell? ⟨wr.heap.size, 1, none⟩ = some (.string x)) := fun W u => (u.blk BD.out (fun h => h)).cellAt (i := 1) rfl
                  clear pe pp ud
                  go_upto_region 12 with (fail)
                  go_cut [7] (fun v7 wx => v7 = .pointer (some ⟨sb, 0, none⟩) ∧ Hid (SSt wx base sb (fun q => q = w1.heap.size ∨ q = wr.heap.size) ⟨delC S.cells x ++ [⟨x, tenI, -1⟩], S.budget, S.events ++ [(1, x)]⟩ (k + 1) ∧ Upd (Fr base (fun q => q = w1.heap.size ∨ q = wr.heap.size)) (wr.alloc (.cells #[.int .i64 t, .string x] 56)) wx))
                  case first =>
                    go_region_with (first
                      | (go_at_call 19; refine (ten_any _).mono ?_; rintro e2 w5 ⟨rfl, u5⟩; have UU : Hid (Upd (fun _ => False) (wr.alloc (.cells #[.int .i64 t, .string x] 56)) w5) := (by first | exact u5 | exact ((Upd.refl _ _).drew).trans u5 (fun _ _ h => h)); have y1 := WD.out _ UU.out; have yl : wr.heap.size < w5.heap.size := (by have := UU.out.size; simp at this; omega))
                      | (go_at_call 12; refine (PU.out _ UU.out).mono ?_; rintro e3 w6 ⟨rfl, s6, u6⟩; have SS := Lib.hid (And.intro s6 (Fr.trans (Fr.of0 UU.out) u6)); clear s6 u6))
                    all_goals (go_wp2_with fail; go_meet; exact ⟨rfl, SS.out⟩)
                  case rest =>
                  obtain ⟨rfl, HQ⟩ := hcut
                  obtain ⟨s6, u6⟩ := HQ.out
                  have B6 := u6.blk BD.out (fun g => g.2 (Or.inr rfl))
                  have z0 := B6.cellAt (i := 0) rfl
                  have z1 := B6.cellAt (i := 1) rfl
                  have lz := B6.lt
                  obtain ⟨x1, x2, x3⟩ := LIh.out.exp (key := x) G.out.1 G.out.2.1
                  have EX := Lib.hid (sexpire_any s6 x t 0 (by omega) (by have := G.out.2.2; omega) (by have := LIh.out.evl; show (S.events ++ [_]).length ≤ _; simp; omega) (by omega))
                  rw [x1, x2, x3] at EX
                  have HB6 := Lib.hid B6
                  have MP6 := Lib.hid ((LMh.out.mp.keep ((Upd.refl (fun _ => False) wr).alloc (.cells #[.int .i64 t, .string x] 56)) (fun h => h)).keep u6 (fun g => g.2 (Or.inl rfl)))
                  have U6 := Lib.hid (UPD.out.trans u6 (fun i hi g => by have := g.1; have := LMh.out.lo; omega))
                  clear s6 u6 B6 HQ x1 x2 x3 PU WD SD UPh UPD
                  go_wp2_with fail
                  refine (EX.out).mono ?_
                  rintro e w7 ⟨rfl, s7, u7⟩
                  have B7 := u7.blk HB6.out (fun g => g.2 (Or.inr rfl))
                  have z0 := B7.cellAt (i := 0) rfl
                  have z1 := B7.cellAt (i := 1) rfl
                  have lz := B7.lt
                  obtain ⟨w8, hr8, m8, u8⟩ := (MP6.out.keep u7 (fun g => g.2 (Or.inl rfl))).put64 x t
                  have hok : POk (swStep S x t) := s7.ok
                  have LN := Lib.hid (LIh.out.step hk30 G.out.2.2 G.out.1 G.out.2.1 hok)
                  have M7 : LastM w w7 base sb w1.heap.size (swStep S x t) U (k + 1) := ⟨s7.less (fun q hq => Or.inl hq), MP6.out.keep u7 (fun g => g.2 (Or.inl rfl)), U6.out.trans u7 (fun i hi g => by have := g.1; have := LMh.out.lo; omega), LMh.out.lo, LMh.out.mlo⟩
                  have M8 := Lib.hid (M7.map m8 u8)
                  clear s7 u7 B7 m8 u8 hok M7 EX MP6 U6 HB6 BD
                  go_wp2
                  go_roundw
                  case rel => exact ⟨rfl, k + 1, by omega, by go_num, _, _, LN.out, M8.out⟩
                  case measure => simp [intOf]; omega
                · have q3 : decide ((x.size : Int) > 100) = true := decide_eq_true (by omega)
                  clear LIh LMh
                  go_wp2
                  go_ret
                  exact ⟨rfl, UPD.out⟩
              · have q2 : decide (t > 1000000) = true := decide_eq_true (by omega)
                clear LIh LMh
                go_wp2
                go_ret
                exact ⟨rfl, UPD.out⟩
            · have q1 : decide (t < 1) = true := decide_eq_true (by omega)
              clear LIh LMh
              go_wp2
              go_ret
              exact ⟨rfl, UPD.out⟩
          · obtain rfl : k = l.length := by omega
            have LIh := Lib.hid LI
            have EV1 := Lib.hid (sevents_any LM.st)
            have LMh := Lib.hid LM
            clear LI LM I
            go_wp2_with fail
            refine (EV1.out).mono ?_
            rintro e w2 ⟨v2, rfl, o2, s2, u2⟩
            have LI2 : Hid (SwI { S with events := [] } U l.length) := ⟨LIh.out.ok.tell [], LIh.out.hbud, LIh.out.all, LIh.out.nd, LIh.out.km, LIh.out.val, LIh.out.cl, by simp⟩
            have M2 := Lib.hid (LMh.out.go (s2.less fun q hq => Or.inl hq) u2)
            clear o2 s2 u2 EV1 LMh LIh
            have SW := Lib.hid (ssweep_any M2.out.st now most (by omega) (by simp))
            have sweq := LI2.out.swept (now := now) (most := most) rfl
            have slen : ((sweepL { S with events := [] } now most).length : Int) = ((swD { S with events := [] } now most).length : Int) := by
              have : (sweepL { S with events := [] } now most).length = (swD { S with events := [] } now most).length := by unfold sweepL swD; simp
              rw [this]
            rw [sweq, slen] at SW
            clear slen
            go_wp2_with fail
            refine (SW.out).mono ?_
            rintro e w3 ⟨rfl, s3, u3⟩
            have M3 := Lib.hid (M2.out.go s3 u3)
            clear s3 u3 SW sweq M2
            have EV2 := Lib.hid (sevents_any M3.out.st)
            go_wp2_with fail
            refine (EV2.out).mono ?_
            rintro e w4 ⟨v4, rfl, o4, s4, u4⟩
            have M4 := Lib.hid (M3.out.go (s4.less fun q hq => Or.inl hq) u4)
            obtain ⟨p4, c4, e4, hm4, _⟩ := o4.slice
            subst e4
            have NM : Hid (∀ q, fOf (.slice p4 (List.map (fun d => ((3 : Int), d.2)) (swD { S with events := [] } now most)).length c4) q → ¬ q = w1.heap.size) := fun q hq e => by
              obtain ⟨_, _, cs, hB⟩ := o4.lt hq
              exact MapAt.notCells M4.out.mp (by unfold Blk at hB; exact hB) e.symm
            have O4 := Lib.hid (o4.row (fun _ => rfl))
            clear s4 u4 o4 EV2 M3
            have FA := Lib.hid (LI2.out.facts (now := now) (most := most) (by omega))
            have HLN := Lib.hid (LI2.out.len ((swD { S with events := [] } now most).map (·.2)))
            have KM := Lib.hid LI2.out.nd
            generalize hD : swD { S with events := [] } now most = D at *
            obtain ⟨S3, hS3⟩ : ∃ S3 : PS, ({ cells := List.filter (fun c => decide (c.key ∉ List.map (fun x => x.2) D)) S.cells, budget := S.budget, events := [] } : PS) = S3 := ⟨_, rfl⟩
            have HCL : Hid (S3.cells.length = (delK U (D.map (·.2))).length) := by show _ = _; rw [← hS3]; exact HLN.out
            have M4b : LastM w w4 base sb w1.heap.size S3 U l.length := by rw [← hS3]; exact M4.out
            have M5 := Lib.hid M4b
            clear M4 M4b HLN hS3 hD LI2
            obtain ⟨evs, hevs⟩ : ∃ evs : List Ev, List.map (fun d => ((3 : Int), d.2)) D = evs := ⟨_, rfl⟩
            have hel : evs.length = D.length := by rw [← hevs]; simp
            have HEL := Lib.hid hel
            have HEV : Hid (∀ (j : Nat) (d : DueP), D[j]? = some d → evs[j]? = some (3, d.2)) := fun j d hd => by rw [← hevs, List.getElem?_map, hd]; rfl
            rw [hevs] at O4 NM ⊢
            have q1 : ((D.length : Int) != (evs.length : Int)) = false := by rw [hel]; simp
            have q2 : decide ((D.length : Int) > max most 0) = false := decide_eq_false (by have := FA.out.len; omega)
            have hdm : D.length ≤ 9223372036854775807 := by unfold maxLen at hm4; have := HEL.out; simp at hm4; omega
            clear hevs hel hm4
            have MP4 := Lib.hid M5.out.mp
            go_wp2
            go_loopw [6, 13, 90] (fun v6 v13 x90 wr => v6 = .bool false ∧ ∃ (j : Nat), j ≤ evs.length ∧ x90 = .int .i64 (j : Int) ∧ v13 = .int .i64 (lastV D j) ∧ Hid (LastM w wr base sb w1.heap.size S3 (delK U ((D.take j).map (·.2))) l.length) ∧ Hid (RowOf evc 2 wr (.slice p4 evs.length c4) evs)) (fun _ _ x90 _ => evs.length - (intOf x90).toNat)
            case atStart => exact ⟨rfl, 0, by omega, rfl, rfl, M5.out, O4.out⟩
            case round =>
              clear M5 O4 MP4
              obtain ⟨rfl, j, hje, rfl, rfl, MJ, RJ⟩ := hrel
              by_cases hjlt : j < evs.length
              · have hjD : j < D.length := by have := HEL.out; omega
                obtain ⟨d, hd⟩ : ∃ d, D[j]? = some d := ⟨_, List.getElem?_eq_getElem hjD⟩
                obtain ⟨b3, off3, cap3, ev3, hb3, d0, d1⟩ := ev_cells RJ.out (HEV.out j d hd)
                injection ev3 with ev31 _ ev33
                subst ev31 ev33
                have hq3 : (j : Int) < (evs.length : Int) := by omega
                obtain ⟨f1, f2, f3, f4, f5⟩ := FA.out.look hd
                have ub : Upd (fun _ => False) wr (wr.alloc (.cells #[.int .i64 3, .string d.2] 61)) := (Upd.refl _ _).alloc _
                have MB := MJ.out.keep0 ub
                have LK := MB.mp.look64 d.2
                rw [f1] at LK
                obtain ⟨w11, hr11, m11, u11⟩ := MB.mp.del64 d.2
                have M11 : Hid (LastM w w11 base sb w1.heap.size S3 (delK U ((D.take (j + 1)).map (·.2))) l.length) := by
                  show LastM _ _ _ _ _ _ _ _
                  rw [f5]; exact MB.map m11 u11
                have R11 := Lib.hid ((RJ.out.keep ub (fun _ _ _ h => h)).keep u11 (fun q _ hq e => NM.out q hq e))
                have F4 := Lib.hid f4
                obtain ⟨dt, dx⟩ := d
                simp only at d0 d1 f2 f3 LK hr11 F4
                generalize hlv : lastV D j = lv at *
                have g1 : decide (dt > now) = false := decide_eq_false (by omega)
                have g2 : decide (dt < lv) = false := decide_eq_false (by omega)
                clear m11 u11 ub MB MJ RJ hd f1 f4 f5 hlv
                go_wp2
                go_roundw
                case rel => exact ⟨rfl, j + 1, by omega, by go_num, by rw [F4.out], M11, R11⟩
                case measure => simp [intOf]; omega
              · have hjD : j = D.length := by have := HEL.out; omega
                subst hjD
                rw [List.take_length] at MJ
                obtain ⟨UE, hUE⟩ : ∃ UE, delK U (D.map (·.2)) = UE := ⟨_, rfl⟩
                have HUE := Lib.hid hUE
                have FND : Hid ((akeys UE).Nodup) := by show _; rw [← hUE]; exact delK_nd FA.out.nd _
                have FKS : Hid (∀ x ∈ akeys UE, x.size ≤ maxLen) := by show _; rw [← hUE]; exact FA.out.ksz
                have FWL : Hid (UE.length ≤ 1000) := by show _ ≤ _; rw [← hUE]; exact FA.out.wl
                rw [hUE] at MJ HCL
                clear hUE
                have r0 := MJ.out.st
                have MPj := Lib.hid MJ.out.mp
                have STj := Lib.hid MJ.out.st
                have UPj := Lib.hid MJ.out.up
                have LOj := Lib.hid (And.intro MJ.out.lo MJ.out.mlo)
                have akv : akeys (vmS UE) = akeys UE := by unfold akeys vmS; rw [List.map_map]; rfl
                have KND : Hid ((akeys (vmS UE)).Nodup) := by show _; rw [akv]; exact FND.out
                have KSZ : Hid (∀ x ∈ akeys (vmS UE), x.size ≤ maxLen) := by show _; rw [akv]; exact FKS.out
                have KLN : Hid ((vmS UE).length ≤ maxLen) := by
                  have := FWL.out
                  show _ ≤ _
                  unfold maxLen vmS; rw [List.length_map]; omega
                clear MJ RJ r0 akv
                go_wp2_with (first
                  | (at_range; refine wpList_range_at _ rfl _ 54 rfl 9 2 Tryz.underlying9 Tryz.underlying54 w1.heap.size (vmS UE) rfl MPj.out KND.out KSZ.out KLN.out ?_; intro w12 cnt hra hu hs12)
                  | go_in)
                go_frame
                have ST12 : Hid (SSt w12 base sb (fun q => q = w1.heap.size ∨ q = wr.heap.size) S3 l.length) := STj.out.also hu (fun q hq => hq.imp id (fun e => by subst e; omega))
                have MP12 := Lib.hid (MPj.out.keep hu (fun h => h))
                have UP12 := Lib.hid (UPj.out.trans hu (fun _ _ h => h))
                have RA := Lib.hid hra
                have RNE : Hid (w.heap.size ≤ wr.heap.size ∧ w1.heap.size < wr.heap.size ∧ lowB ≤ wr.heap.size) := ⟨UPj.out.size, MPj.out.lt, STj.out.std.low⟩
                clear hra hu hs12 STj MPj UPj
                generalize wr.heap.size = r at *
                go_loopw [6] (fun v6 w13 => v6 = .bool false ∧ ∃ (done : List ByteArray) (cnt : Nat), Hid (RangeAt Tryz.prog 9 w13 w1.heap.size r (vmS UE) done cnt) ∧ Hid (SSt w13 base sb (fun q => q = w1.heap.size ∨ q = r) S3 l.length) ∧ Hid (MapS w13 w1.heap.size UE) ∧ Hid (Upd (fun _ => False) w w13)) (fun _ w13 => w13.rangeLeft w1.heap.size r)
                case atStart => exact ⟨rfl, [], cnt, RA, ST12, MP12, UP12⟩
                case round =>
                  clear RA ST12 MP12 UP12
                  obtain ⟨rfl, done, cnt, RA, STr, MPr, UPr⟩ := hrel
                  go_wp2_with (first
                    | (at_next; refine wpList_next_at _ rfl _ rfl 9 Tryz.underlying9 w1.heap.size r (vmS UE) done cnt rfl RA.out ?_ ?_)
                    | go_in)
                  · intro hperm
                    clear hperm RA
                    obtain ⟨tb, x0, hsb, TL⟩ := STr.out.tlenAt (by omega)
                    have TLh := Lib.hid (TL wr (Upd.refl _ _))
                    rw [HCL.out] at TLh
                    have wl := FWL.out
                    clear TL STr
                    go_wp2_with fail
                    refine (TLh.out).mono ?_
                    rintro e w15 ⟨rfl, u15⟩
                    have ML := MapAt.len (P := Tryz.prog) (MPr.out.keep u15 (fun h => h)) 3 Tryz.underlying54 (by simp [vmS]; omega)
                    have hvl : (vmS UE).length = UE.length := by simp [vmS]
                    rw [hvl] at ML
                    have UU := Lib.hid (UPr.out.trans u15 (fun _ _ h => h))
                    clear u15 TLh
                    go_wp2
                    go_ret
                    exact ⟨by simp, UU.out⟩
                  · intro key val w14 cnt2 hnd hget hra2 hlt2 hu2 hsz2 hent
                    rw [vmS_get] at hget
                    obtain ⟨t, ht, rfl⟩ := Option.map_eq_some_iff.1 hget
                    obtain ⟨l1, l2⟩ := FA.out.last (by rw [HUE.out]; exact ht)
                    have RA2 := Lib.hid hra2
                    have ST2 : Hid (SSt w14 base sb (fun q => q = w1.heap.size ∨ q = r) S3 l.length) := STr.out.keepG hu2 (fun q hq => ⟨Or.inr hq, by rw [hq]; exact RNE.out.2.2⟩)
                    have MP2 := Lib.hid (MPr.out.keep hu2 (fun e => by have := RNE.out.2.1; omega))
                    have UP2 := Lib.hid (UPr.out.trans hu2 (fun i hi e => by have := RNE.out.1; omega))
                    have RL : Hid (w14.rangeLeft w1.heap.size r < wr.rangeLeft w1.heap.size r) := by
                      show _ < _
                      rw [hra2.left, RA.out.left]; exact hlt2
                    clear hra2 hu2 hget ht hnd STr MPr UPr RA
                    by_cases n1 : (D.length : Int) < most
                    · have b1 : decide ((D.length : Int) < most) = true := decide_eq_true n1
                      have b2 : decide (t ≤ now) = false := decide_eq_false (by have := l1 n1; omega)
                      by_cases n2 : 0 < (D.length : Int)
                      · have b5 : 0 < D.length := by omega
                        have b3 : decide (0 < D.length) = true := decide_eq_true b5
                        have b4 : decide (t < lastV D D.length) = false := decide_eq_false (by have := l2 n2; omega)
                        clear l1 l2 n1 n2
                        go_wp2
                        go_roundw
                        case rel => exact ⟨rfl, done ++ [key], cnt2, RA2, ST2, MP2, UP2⟩
                        case measure => exact RL.out
                      · have b5 : ¬ 0 < D.length := by omega
                        have b3 : decide (0 < D.length) = false := decide_eq_false b5
                        clear l1 l2 n1 n2
                        go_wp2
                        go_roundw
                        case rel => exact ⟨rfl, done ++ [key], cnt2, RA2, ST2, MP2, UP2⟩
                        case measure => exact RL.out
                    · have b1 : decide ((D.length : Int) < most) = false := decide_eq_false n1
                      by_cases n2 : 0 < (D.length : Int)
                      · have b5 : 0 < D.length := by omega
                        have b3 : decide (0 < D.length) = true := decide_eq_true b5
                        have b4 : decide (t < lastV D D.length) = false := decide_eq_false (by have := l2 n2; omega)
                        clear l1 l2 n1 n2
                        go_wp2
                        go_roundw
                        case rel => exact ⟨rfl, done ++ [key], cnt2, RA2, ST2, MP2, UP2⟩
                        case measure => exact RL.out
                      · have b5 : ¬ 0 < D.length := by omega
                        have b3 : decide (0 < D.length) = false := decide_eq_false b5
                        clear l1 l2 n1 n2
                        go_wp2
                        go_roundw
                        case rel => exact ⟨rfl, done ++ [key], cnt2, RA2, ST2, MP2, UP2⟩
                        case measure => exact RL.out
      · have t3 : decide (now > 1000000) = true := decide_eq_true (by omega)
        go_enter Tryz.func4, Tryz.ntmps4
        go_wp2_with fail
        refine (AL.out).mono ?_
        rintro e w0 ⟨rfl, u0⟩
        have U0 := Lib.hid u0
        clear u0
        go_wp2
        go_ret
        exact ⟨rfl, U0.out⟩
    · have t2 : decide (now < 0) = true := decide_eq_true (by omega)
      go_enter Tryz.func4, Tryz.ntmps4
      go_wp2_with fail
      refine (AL.out).mono ?_
      rintro e w0 ⟨rfl, u0⟩
      have U0 := Lib.hid u0
      clear u0
      go_wp2
      go_ret
      exact ⟨rfl, U0.out⟩
  · have t1 : decide ((l.length : Int) > 30) = true := decide_eq_true (by omega)
    go_enter Tryz.func4, Tryz.ntmps4
    go_wp2_with fail
    refine (AL.out).mono ?_
    rintro e w0 ⟨rfl, u0⟩
    have U0 := Lib.hid u0
    clear u0
    go_wp2
    go_ret
    exact ⟨rfl, U0.out⟩
end Go.Proofs.YtcdihffcncaibaaGreatDoor
/- What the listed variables give the walks, and the witness. -/
set_option linter.unusedVariables false
set_option linter.unusedSimpArgs false
namespace Go.Proofs.YtcdihffcncaibaaGreatDoor
open Go.ChangeShapes Go.WideShapes Go.ChangeAt Go.WideMaps Go.WideElems Go.RowKit Go.Stop Go.Extern

theorem int_bounds {n : Int} (h : (Lit.int .i64 n).wf = true) : -9223372036854775808 ≤ n ∧ n ≤ 9223372036854775807 := by
  have := bounds_i64 h
  omega

def laidAll : List (String × DataW Unit) := [("math/bits.deBruijn32tab", Rows.laid_math_bits_deBruijn32tab), ("math/bits.deBruijn64tab", Rows.laid_math_bits_deBruijn64tab), ("internal/strconv.uint64pow10", Lib.tabData .u64 Lib.pow10Tab), ("strconv.ErrRange", Rows.laid_strconv_ErrRange), ("strconv.ErrSyntax", Rows.laid_strconv_ErrSyntax)]

theorem star : "*" ++ "errors.errorString" = "*errors.errorString" := by decide
theorem rowErr (u : TypeId) (h : Tryz.prog.typeName? 3 u = some "*errors.errorString") : u = 219 :=
  typeName_ptr_named (nm := "errors.errorString") (by rw [star]; kernel_rfl) (by kernel_rfl) (by decide) u (by rw [star]; exact h)

theorem door_met (os : Os) (args : Array Value) : laidMetH Tryz.prog laidAll ((World.doorLaid Tryz.prog 400 os).forCall (fun _ _ => 0) ⟨#[], args, []⟩).memory :=
  laidMetH_of_parts3 (fuel := 8) (laidMet_of_run' 8 (by kernel_rfl) (by kernel_rfl)) (by kernel_rfl) (by kernel_rfl)

theorem std_of_laid {W : World} (h : laidMetH Tryz.prog laidAll W) : Std W := by
  rw [MakeChecks.laidMetH_plain _ _ _ (by kernel_rfl)] at h
  have h3 := laidMet.tail (laidMet.tail h)
  have h4 := laidMet.tail h3
  have h5 := laidMet.tail h4
  refine ⟨Lib.tabIs_of_head (g := 3) (by kernel_rfl) (by kernel_rfl) Tryz.underlying224 Tryz.underlying185 (by kernel_rfl) (by kernel_rfl) h3, ?_, ?_⟩
  · obtain ⟨a, s, h1, _⟩ := laid_sentinel (g := 1) h5 (by kernel_rfl) (by kernel_rfl) Tryz.underlying161 rowErr Tryz.underlying219 Tryz.underlying221 rfl rfl Tryz.underlying9 (by kernel_rfl) (by kernel_rfl)
    exact ⟨_, _, h1⟩
  · obtain ⟨a, s, h1, _⟩ := laid_sentinel (g := 2) h4 (by kernel_rfl) (by kernel_rfl) Tryz.underlying161 rowErr Tryz.underlying219 Tryz.underlying221 rfl rfl Tryz.underlying9 (by kernel_rfl) (by kernel_rfl)
    exact ⟨_, _, h1⟩
end Go.Proofs.YtcdihffcncaibaaGreatDoor
