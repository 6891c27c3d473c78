/- StoreLast, plain; maps from texts to numbers. -/
import Derived.Test.YtgdenmddbgcacaaGreatDoorK27
import Derived.Deep.DeepCutAuto
set_option linter.unusedVariables false
set_option linter.unusedSimpArgs false
namespace Go.Proofs.YtgdenmddbgcacaaGreatDoor
open Go.RowKit

def vmS (m : Nums) : List (ByteArray × Value) := m.map fun p => (p.1, .int .i64 p.2)
theorem vmS_get (m : Nums) (k : ByteArray) : aget (vmS m) k = (aget m k).map (Value.int .i64) := by
  induction m with
  | nil => rfl
  | cons p r ih =>
    simp only [vmS, List.map_cons, aget] at ih ⊢
    split
    · rfl
    · exact ih
theorem vmS_set (m : Nums) (k : ByteArray) (n : Int) : aset (vmS m) k (.int .i64 n) = vmS (aset m k n) := by
  induction m with
  | nil => rfl
  | cons p r ih =>
    simp only [vmS, List.map_cons, aset] at ih ⊢
    split
    · rfl
    · rw [ih]; rfl
theorem vmS_del (m : Nums) (k : ByteArray) : adel (vmS m) k = vmS (adel m k) := by
  induction m with
  | nil => rfl
  | cons p r ih =>
    simp only [vmS, List.map_cons, adel] at ih ⊢
    split
    · rfl
    · rw [ih]; rfl
def MapS (w : World) (b : Nat) (m : Nums) : Prop := MapAt strEnc w b (vmS m)
def usedV (U : Nums) (x : ByteArray) : Int := (aget U x).getD 0
theorem ten_small : rightI tenI = true := by kernel_rfl
theorem ten_cost (k : ByteArray) : costI k tenI = 58 + (k.size : Int) := by
  have : bodyI tenI = 10 := by kernel_rfl
  unfold costI; rw [this]; omega
theorem sf_step (bud : Int) (c d : Ce) (r : List Ce) (ev : List Ev) : evictL bud (c :: d :: r) ev = if bud < bytesC (c :: d :: r) then evictL bud (d :: r) (ev ++ [(4, c.key)]) else (c :: d :: r, ev) := by rw [evictL]
/-- Where the law stands behind k keys. -/
structure LastI (S : PS) (U : Nums) (bud : Int) (k : Nat) : Prop where
  ok : POk S
  hbud : S.budget = bud
  ev : S.events = []
  all : ∀ c ∈ S.cells, c.item = tenI ∧ c.when = -1
  nd : (akeys U).Nodup
  km : ∀ x, (aget U x).isSome = decide (x ∈ keysC S.cells)
  ord : S.cells.Pairwise fun c d => usedV U c.key < usedV U d.key
  rng : ∀ c ∈ S.cells, 1 ≤ usedV U c.key ∧ usedV U c.key ≤ k
  cl : S.cells.length ≤ k
/-- Behind a key's put: a was evicted. -/
structure LastJ (S : PS) (U : Nums) (bud : Int) (k : Nat) (key : ByteArray) (a : List Ce) : Prop where
  ok : POk S
  hbud : S.budget = bud
  ev : S.events = (1, key) :: a.map fun c => ((4 : Int), c.key)
  all : ∀ c ∈ S.cells, c.item = tenI ∧ c.when = -1
  nd : (akeys U).Nodup
  knd : (keysC (a ++ S.cells)).Nodup
  km : ∀ x, (aget U x).isSome = decide (x ∈ keysC (a ++ S.cells))
  ord : (a ++ S.cells).Pairwise fun c d => usedV U c.key < usedV U d.key
  rng : ∀ c ∈ a ++ S.cells, 1 ≤ usedV U c.key ∧ usedV U c.key ≤ k
  there : key ∈ keysC S.cells
  fits : bytesC S.cells ≤ bud
  cl : (a ++ S.cells).length ≤ k
theorem LastI.due {S : PS} {U : Nums} {bud : Int} {k : Nat} (h : LastI S U bud k) (key : ByteArray) : dueP S key 0 = S := by
  unfold dueP
  have : isDue S.cells key 0 = false := by
    unfold isDue
    cases hl : lookC S.cells key with
    | none => rfl
    | some c => simp only; rw [(h.all c (lookC_some hl).1).2]; rfl
  rw [this, if_neg (by simp)]
theorem LastI.err {S : PS} {U : Nums} {bud : Int} {k : Nat} (h : LastI S U bud k) {key : ByteArray} (hk : key.size ≤ 100) (hb : 200 ≤ bud) : putE S key tenI = 0 := by
  unfold putE
  rw [if_neg (by rw [not_or]; exact ⟨by omega, by rw [ten_small]; simp⟩), if_neg (by rw [ten_cost, h.hbud]; omega)]
theorem usedV_set (U : Nums) (key x : ByteArray) (n : Int) : usedV (aset U key n) x = if key = x then n else usedV U x := by
  unfold usedV; rw [aget_aset]; split <;> rfl
theorem LastI.put {S : PS} {U : Nums} {bud : Int} {k : Nat} (h : LastI S U bud k) {key : ByteArray} (hk : key.size ≤ 100) (hb : 200 ≤ bud) : ∃ a, LastJ (putP S key tenI false 0) (aset U key ((k : Int) + 1)) bud (k + 1) key a := by
  have hd := h.due key
  have he := h.err hk hb
  have hp : putP S key tenI false 0 = evictP (laidP S key tenI false) := by unfold putP; rw [hd, if_pos he]
  rw [hp]
  have hok := h.ok.laid he false
  obtain ⟨a, e1, e2⟩ := evictL_suffix S.budget (laidP S key tenI false).cells (laidP S key tenI false).events
  have ec : (laidP S key tenI false).cells = delC S.cells key ++ [⟨key, tenI, -1⟩] := rfl
  have ece : (evictP (laidP S key tenI false)).cells = (evictL S.budget (laidP S key tenI false).cells (laidP S key tenI false).events).1 := rfl
  have eall : a ++ (evictP (laidP S key tenI false)).cells = delC S.cells key ++ [⟨key, tenI, -1⟩] := by rw [ece, ← e1]; rfl
  obtain ⟨b, e3⟩ := evictL_last S.budget (delC S.cells key) ⟨key, tenI, -1⟩ (laidP S key tenI false).events
  refine ⟨a, hok.evict, h.hbud, ?_, fun c hc => ?_, nodup_aset h.nd _ _, ?_, fun x => ?_, ?_, fun c hc => ?_, ?_, ?_, by rw [eall, List.length_append]; have := delC_len S.cells key; have := h.cl; simp; omega⟩
  · show (evictL S.budget (laidP S key tenI false).cells (laidP S key tenI false).events).2 = _
    rw [e2]
    show (S.events ++ [(1, key)]) ++ _ = _
    rw [h.ev]; rfl
  · have : c ∈ delC S.cells key ++ [⟨key, tenI, -1⟩] := by rw [← eall]; exact List.mem_append_right _ hc
    rcases List.mem_append.1 this with g | g
    · exact h.all c (delC_mem.1 g).1
    · obtain rfl := List.mem_singleton.1 g; exact ⟨rfl, rfl⟩
  · rw [eall]; exact laid_nd h.ok.nd key tenI (-1)
  · rw [eall, aget_aset]
    by_cases e : key = x
    · subst e; simp [keysC]
    · rw [if_neg e, h.km, ← lookC_isSome, ← lookC_isSome, lookC_app, lookC_delC, if_neg (fun g => e g.symm)]; simp [e]
  · rw [eall, List.pairwise_append]
    refine ⟨?_, List.pairwise_singleton _ _, fun c hc d hd => ?_⟩
    · refine (List.Pairwise.sublist (List.filter_sublist) h.ord).imp_of_mem fun {c d} hc hd hcd => ?_
      have h1 := (delC_mem.1 hc).2
      have h2 := (delC_mem.1 hd).2
      rw [usedV_set, usedV_set, if_neg (fun g => h1 g.symm), if_neg (fun g => h2 g.symm)]; exact hcd
    · obtain rfl := List.mem_singleton.1 hd
      obtain ⟨h1, h2⟩ := delC_mem.1 hc
      rw [usedV_set, usedV_set, if_neg (fun g => h2 g.symm), if_pos rfl]
      have := (h.rng c h1).2; omega
  · rw [eall] at hc
    rcases List.mem_append.1 hc with g | g
    · obtain ⟨h1, h2⟩ := delC_mem.1 g
      rw [usedV_set, if_neg (fun g => h2 g.symm)]
      have := h.rng c h1; omega
    · obtain rfl := List.mem_singleton.1 g
      rw [usedV_set, if_pos rfl]; omega
  · rw [ece]
    show key ∈ keysC (evictL S.budget (delC S.cells key ++ [⟨key, tenI, -1⟩]) _).1
    rw [e3]; simp [keysC]
  · have := evictL_le S.budget (laidP S key tenI false).cells (laidP S key tenI false).events hok.fit hok.bud.1
    rw [h.hbud] at this
    rw [ece, h.hbud]; exact this
theorem LastJ.due {S : PS} {U : Nums} {bud : Int} {k : Nat} {key : ByteArray} {a : List Ce} (h : LastJ S U bud k key a) : dueP S key 0 = S ∧ gotI S key = tenI ∧ wasP S key = true := by
  refine ⟨?_, ?_, decide_eq_true h.there⟩
  · unfold dueP
    have : isDue S.cells key 0 = false := by
      unfold isDue
      cases hl : lookC S.cells key with
      | none => rfl
      | some c => simp only; rw [(h.all c (lookC_some hl).1).2]; rfl
    rw [this, if_neg (by simp)]
  · unfold gotI
    cases hl : lookC S.cells key with
    | none => exact absurd h.there (lookC_none.1 hl)
    | some c => exact (h.all c (lookC_some hl).1).1
/-- The numbers without those of who was evicted. -/
def delE (U : Nums) : List Ev → Nums
  | [] => U
  | e :: r => delE (if e.1 = 4 then adel U e.2 else U) r
theorem delE_snoc (U : Nums) (l : List Ev) (e : Ev) : delE U (l ++ [e]) = if e.1 = 4 then adel (delE U l) e.2 else delE U l := by
  induction l generalizing U with
  | nil => rfl
  | cons x r ih => rw [List.cons_append, delE, ih]; rfl
theorem delE_nd {U : Nums} (h : (akeys U).Nodup) (l : List Ev) : (akeys (delE U l)).Nodup := by
  induction l generalizing U with
  | nil => exact h
  | cons x r ih =>
    rw [delE]
    apply ih
    split
    · exact nodup_adel h _
    · exact h
theorem delE_get {U : Nums} (h : (akeys U).Nodup) (l : List Ev) (x : ByteArray) : aget (delE U l) x = if ((4 : Int), x) ∈ l then none else aget U x := by
  induction l generalizing U with
  | nil => simp [delE]
  | cons e r ih =>
    rw [delE]
    split
    · next h4 =>
      rw [ih (nodup_adel h _), aget_adel h]
      obtain ⟨e1, e2⟩ := e
      simp only at h4
      subst h4
      by_cases g : e2 = x
      · subst g; simp
      · have g2 : ¬ x = e2 := fun q => g q.symm
        simp [g, g2]
    · next h4 =>
      rw [ih h]
      obtain ⟨e1, e2⟩ := e
      simp only at h4
      have : ¬ ((4 : Int), x) = (e1, e2) := fun q => h4 (by injection q with q1 q2; exact q1.symm)
      simp [this]
theorem delE_le {U : Nums} (h : (akeys U).Nodup) (l : List Ev) {x : ByteArray} {o : Int} (h0 : 0 ≤ o) (hx : usedV U x ≤ o) : usedV (delE U l) x ≤ o := by
  unfold usedV
  rw [delE_get h]
  split
  · exact h0
  · exact hx
theorem LastJ.next {S : PS} {U : Nums} {bud : Int} {k : Nat} {key : ByteArray} {a : List Ce} (h : LastJ S U bud k key a) : LastI { S with events := [] } (delE U S.events) bud k := by
  have hev : ∀ x, ((4 : Int), x) ∈ S.events ↔ x ∈ keysC a := fun x => by
    rw [h.ev, List.mem_cons, List.mem_map]
    unfold keysC
    rw [List.mem_map]
    constructor
    · rintro (g | ⟨c, hc, e⟩)
      · injection g with g1 g2; omega
      · exact ⟨c, hc, by injection e⟩
    · rintro ⟨c, hc, rfl⟩; exact Or.inr ⟨c, hc, rfl⟩
  have hkn := h.knd
  have hk2 : keysC (a ++ S.cells) = keysC a ++ keysC S.cells := by simp [keysC]
  rw [hk2] at hkn
  have hdis : ∀ c ∈ S.cells, c.key ∉ keysC a := fun c hc g => (List.nodup_append.1 hkn).2.2 _ g _ (List.mem_map.2 ⟨c, hc, rfl⟩) rfl
  have hsame : ∀ c ∈ S.cells, usedV (delE U S.events) c.key = usedV U c.key := fun c hc => by
    unfold usedV; rw [delE_get h.nd, if_neg (fun g => hdis c hc ((hev _).1 g))]
  refine ⟨h.ok.tell [], h.hbud, rfl, h.all, delE_nd h.nd _, fun x => ?_, ?_, fun c hc => ?_, by have := h.cl; rw [List.length_append] at this; show S.cells.length ≤ k; omega⟩
  · rw [delE_get h.nd]
    show _ = decide (x ∈ keysC S.cells)
    by_cases g : x ∈ keysC a
    · rw [if_pos ((hev x).2 g)]
      have : x ∉ keysC S.cells := fun q => (List.nodup_append.1 hkn).2.2 _ g _ q rfl
      simp [this]
    · rw [if_neg (fun q => g ((hev x).1 q)), h.km, hk2]
      simp [g]
  · refine ((List.pairwise_append.1 h.ord).2.1).imp_of_mem fun {c d} hc hd g => ?_
    rw [hsame c hc, hsame d hd]; exact g
  · show 1 ≤ usedV (delE U S.events) c.key ∧ usedV (delE U S.events) c.key ≤ (k : Int)
    rw [hsame c hc]; exact h.rng c (List.mem_append_right _ hc)
/-- Whatever is not behind all numbers stays so. -/
def LowO (S : PS) (U : Nums) (n : Nat) (o : Int) : Prop := ∀ t, t ≤ (n : Int) + 1 → (∀ c ∈ S.cells, t ≤ usedV U c.key) → t ≤ o
theorem LowO.min {S : PS} {U : Nums} {n : Nat} {o : Int} (h : LowO S U n o) {x : ByteArray} (hx : x ∈ keysC S.cells) : LowO S U n (Min.min o (usedV U x)) := fun t h1 h2 => by
  obtain ⟨c, hc, rfl⟩ := List.mem_map.1 hx
  have := h t h1 h2
  have := h2 c hc
  omega
theorem LastJ.low {S : PS} {U : Nums} {bud : Int} {k n : Nat} {key : ByteArray} {a : List Ce} (h : LastJ S U bud k key a) (hkn : k ≤ n) {o : Int} (ho : LowO S U n o) : 0 ≤ o ∧ ∀ x, ((4 : Int), x) ∈ S.events → usedV U x ≤ o := by
  refine ⟨ho 0 (by omega) fun c hc => by have := (h.rng c (List.mem_append_right _ hc)).1; omega, fun x hx => ?_⟩
  rw [h.ev, List.mem_cons, List.mem_map] at hx
  rcases hx with g | ⟨c, hc, e⟩
  · injection g with g1 g2; omega
  · injection e with _ e
    subst e
    refine ho _ ?_ fun d hd => ?_
    · have := (h.rng c (List.mem_append_left _ hc)).2; omega
    · have := (List.pairwise_append.1 h.ord).2.2 c hc d hd; omega
theorem LastI.len {S : PS} {U : Nums} {bud : Int} {k : Nat} (h : LastI S U bud k) : S.cells.length = U.length := by
  have hp : (akeys U).Perm (keysC S.cells) := (List.perm_ext_iff_of_nodup h.nd h.ok.nd).2 fun x => by
    have := h.km x
    rw [Bool.eq_iff_iff, decide_eq_true_eq] at this
    rw [← this]
    cases hk : aget U x with
    | none => simp [aget_none.1 hk]
    | some b => simp; exact Decidable.not_not.1 fun hh => by rw [aget_none.2 hh] at hk; cases hk
  have := hp.length_eq
  simpa [akeys, keysC] using this.symm
theorem evictL_evlen (bud : Int) : ∀ (l : List Ce) (ev : List Ev), (evictL bud l ev).2.length ≤ ev.length + l.length
  | [], ev => by simp [evictL]
  | [c], ev => by simp [evictL]
  | c :: d :: r, ev => by
    rw [sf_step]
    split
    · have := evictL_evlen bud (d :: r) (ev ++ [(4, c.key)])
      simp only [List.length_append, List.length_cons, List.length_nil] at this ⊢; omega
    · simp
end Go.Proofs.YtgdenmddbgcacaaGreatDoor
/- StoreTells, plain: what the events say of the keys. -/
set_option linter.unusedVariables false
set_option linter.unusedSimpArgs false
set_option linter.unusedSectionVars false
namespace Go.Proofs.YtgdenmddbgcacaaGreatDoor
open Go.RowKit

/-- What a key has. -/
def hasC (l : List Ce) (k : ByteArray) : Option It := (lookC l k).map (·.item)
theorem hasC_del (l : List Ce) (k k' : ByteArray) : hasC (delC l k) k' = if k' = k then none else hasC l k' := by
  unfold hasC; rw [lookC_delC]; split <;> rfl
theorem hasC_app (l : List Ce) (c : Ce) (k : ByteArray) : hasC (l ++ [c]) k = (hasC l k).or (if c.key = k then some c.item else none) := by
  unfold hasC; rw [lookC_app]
  cases lookC l k with
  | none => simp only [Option.none_or, Option.map_none]; split <;> rfl
  | some x => rfl
theorem hasC_set (l : List Ce) (k k' : ByteArray) (t : Int) : hasC (setC l k t) k' = hasC l k' := by
  unfold hasC; rw [lookC_setC]
  split
  · next e => subst e; cases lookC l k' <;> rfl
  · rfl
theorem hasC_some {l : List Ce} {k : ByteArray} : (hasC l k).isSome = decide (k ∈ keysC l) := by unfold hasC; rw [Option.isSome_map, lookC_isSome]
theorem hasC_none {l : List Ce} {k : ByteArray} (h : k ∉ keysC l) : hasC l k = none := by unfold hasC; rw [lookC_none.2 h]; rfl
theorem hasC_used (l : List Ce) (k k' : ByteArray) : hasC (usedC l k) k' = hasC l k' := by
  unfold usedC
  cases hl : lookC l k with
  | none => rfl
  | some c =>
    show hasC (delC l k ++ [c]) k' = _
    obtain ⟨_, hk⟩ := lookC_some hl
    rw [hasC_app, hasC_del, hk]
    by_cases e : k' = k
    · subst e; rw [if_pos rfl, if_pos rfl]; unfold hasC; rw [hl]; rfl
    · rw [if_neg e, if_neg (fun g => e g.symm)]; simp
theorem got_has (S : PS) (k : ByteArray) : (if wasP S k = true then some (gotI S k) else none) = hasC S.cells k := by
  unfold wasP gotI hasC
  rw [← lookC_isSome]
  cases lookC S.cells k <;> rfl
/-- What the events tell last of each key. -/
def toldM (es : List Ev) : Nums := es.foldl (fun m e => aset m e.2 e.1) []
theorem toldM_snoc (es : List Ev) (e : Ev) : toldM (es ++ [e]) = aset (toldM es) e.2 e.1 := by unfold toldM; rw [List.foldl_append]; rfl
theorem told_snoc (es : List Ev) (e : Ev) (k : ByteArray) : usedV (toldM (es ++ [e])) k = if e.2 = k then e.1 else usedV (toldM es) k := by rw [toldM_snoc, usedV_set]
def allE (es : List Ev) : Bool := es.any fun e => decide (e.1 = 5)
theorem allE_snoc (es : List Ev) (e : Ev) : allE (es ++ [e]) = (allE es || decide (e.1 = 5)) := by unfold allE; simp
/-- Nothing has happened untold. -/
def Told (S0 S : PS) : Prop := allE S.events = false → ∀ k, (usedV (toldM S.events) k = 0 → hasC S.cells k = hasC S0.cells k) ∧ (1 < usedV (toldM S.events) k → hasC S.cells k = none) ∧ (usedV (toldM S.events) k < 2 → usedV (toldM S.events) k ≠ 0 → (hasC S.cells k).isSome = true)
section
variable {S0 S S' : PS}
theorem Told.refl (h : S.events = []) : Told S S := fun _ k => by
  have : usedV (toldM S.events) k = 0 := by rw [h]; rfl
  rw [this]
  exact ⟨fun _ => rfl, fun g => by omega, fun _ g => absurd rfl g⟩
theorem Told.same (h : Told S0 S) (he : S'.events = S.events) (hc : ∀ k, hasC S'.cells k = hasC S.cells k) : Told S0 S' := fun ha k => by
  rw [he] at ha ⊢
  rw [hc]; exact h ha k
theorem Told.gone (h : Told S0 S) (k : ByteArray) {kind : Int} (hk : 2 ≤ kind) : Told S0 (goneP S k kind) := by
  unfold goneP
  split
  · intro ha k'
    simp only at ha ⊢
    rw [allE_snoc, Bool.or_eq_false_iff] at ha
    rw [told_snoc, hasC_del]
    simp only
    by_cases e : k = k'
    · subst e
      rw [if_pos rfl, if_pos rfl]
      exact ⟨fun g => by omega, fun _ => rfl, fun g => by omega⟩
    · rw [if_neg e, if_neg (fun g => e g.symm)]
      exact h ha.1 k'
  · exact h
theorem Told.due (h : Told S0 S) (k : ByteArray) (now : Int) : Told S0 (dueP S k now) := by
  unfold dueP; split
  · exact h.gone k (by omega)
  · exact h
theorem Told.set (h : Told S0 S) {k : ByteArray} (he : S'.events = S.events ++ [(1, k)]) (hs : (hasC S'.cells k).isSome = true) (hc : ∀ k', k' ≠ k → hasC S'.cells k' = hasC S.cells k') : Told S0 S' := fun ha k' => by
  rw [he] at ha ⊢
  rw [allE_snoc, Bool.or_eq_false_iff] at ha
  rw [told_snoc]
  simp only
  by_cases e : k = k'
  · subst e
    rw [if_pos rfl]
    exact ⟨fun g => by omega, fun g => by omega, fun _ _ => hs⟩
  · rw [if_neg e, hc k' (fun g => e g.symm)]
    exact h ha.1 k'
theorem Told.evict : ∀ (n : Nat) {S : PS}, S.cells.length = n → (keysC S.cells).Nodup → Told S0 S → Told S0 (evictP S)
  | 0, S, hn, _, h => by rw [evict_short (by omega)]; exact h
  | 1, S, hn, _, h => by rw [evict_short (by omega)]; exact h
  | n + 2, S, hn, hk, h => by
    match hc : S.cells, hn with
    | x :: y :: r, hn =>
      by_cases hb : S.budget < bytesC S.cells
      · have e1 := gone_headP hc hk 4
        rw [evict_stepP hc hb, ← e1]
        refine Told.evict (n + 1) ?_ ?_ (h.gone x.key (by omega))
        · rw [e1]; simp at hn ⊢; omega
        · rw [e1]; rw [hc] at hk; exact (keysC_cons hk).2
      · rw [evict_stop (by omega)]; exact h
theorem Told.goneL (h : Told S0 S) (l : List ByteArray) : Told S0 (goneL S l) := by
  unfold Go.Proofs.YtgdenmddbgcacaaGreatDoor.goneL
  induction l generalizing S with
  | nil => exact h
  | cons x r ih => exact ih (h.gone x (by omega))
theorem laid_has (S : PS) (k : ByteArray) (i : It) (keep : Bool) (k' : ByteArray) : hasC (laidP S k i keep).cells k' = if k' = k then some i else hasC S.cells k' := by
  unfold laidP
  simp only
  rw [hasC_app, hasC_del]
  by_cases e : k' = k
  · subst e; simp
  · rw [if_neg e, if_neg e, if_neg (fun g => e g.symm)]; simp
theorem was_has {S : PS} {k : ByteArray} (h : wasP S k = true) : (hasC S.cells k).isSome = true := by rw [hasC_some]; exact h
theorem ends_has {S : PS} {k : ByteArray} (h : endsP S k = true) : (hasC S.cells k).isSome = true := by
  unfold endsP at h; unfold hasC
  cases hl : lookC S.cells k with
  | none => rw [hl] at h; simp at h
  | some c => rfl
theorem Told.step (h : Told S0 S) (ok : POk S) (a : Act12) (now : Int) : Told S0 (stepP S a now) := by
  unfold stepP
  split
  · exact (h.due a.key now).same rfl (fun k => hasC_used _ _ _)
  split
  · exact h.due a.key now
  split
  · unfold putP
    split
    · next hp =>
      have ok2 := (ok.due a.key now).laid hp a.keep
      refine Told.evict _ rfl ok2.nd ((h.due a.key now).set (k := a.key) rfl ?_ (fun k' hk' => ?_))
      · rw [laid_has, if_pos rfl]; rfl
      · rw [laid_has, if_neg hk']
    · exact h.due a.key now
  split
  · exact (h.due a.key now).gone a.key (by omega)
  split
  · unfold expireP
    split
    · next hw =>
      split
      · exact (h.due a.key now).gone a.key (by omega)
      · exact (h.due a.key now).set (k := a.key) rfl (by simp only; rw [hasC_set]; exact was_has hw) (fun k' _ => hasC_set _ _ _ _)
    · exact h.due a.key now
  split
  · unfold persistP
    split
    · next hw => exact (h.due a.key now).set (k := a.key) rfl (by simp only; rw [hasC_set]; exact ends_has hw) (fun k' _ => hasC_set _ _ _ _)
    · exact h.due a.key now
  split
  · exact h.due a.key now
  split
  · exact h.goneL _
  · intro ha
    unfold flushP at ha
    simp only at ha
    rw [allE_snoc] at ha
    simp at ha
end
/-- No more than may be. -/
def FitP (S : PS) : Prop := bytesC S.cells ≤ S.budget
section
variable {S : PS}
theorem bytes_del_le (l : List Ce) (k : ByteArray) : bytesC (delC l k) ≤ bytesC l := by
  unfold delC
  induction l with
  | nil => simp [bytesC]
  | cons c r ih =>
    rw [List.filter_cons]
    have := costI_pos c.key c.item
    split <;> simp only [bytesC] <;> omega
theorem FitP.gone (h : FitP S) (k : ByteArray) (kind : Int) : FitP (goneP S k kind) := by
  unfold goneP; split
  · exact Int.le_trans (bytes_del_le _ _) h
  · exact h
theorem FitP.due (h : FitP S) (k : ByteArray) (now : Int) : FitP (dueP S k now) := by
  unfold dueP; split
  · exact h.gone k 3
  · exact h
theorem bytes_used {l : List Ce} (h : (keysC l).Nodup) (k : ByteArray) : bytesC (usedC l k) = bytesC l := by
  unfold usedC
  cases hl : lookC l k with
  | none => rfl
  | some c =>
    obtain ⟨hm, rfl⟩ := lookC_some hl
    show bytesC (delC l c.key ++ [c]) = _
    rw [bytesC_app, bytesC_del h hm]; simp only [bytesC]; omega
theorem bytes_set (l : List Ce) (k : ByteArray) (t : Int) : bytesC (setC l k t) = bytesC l := by
  unfold setC
  induction l with
  | nil => rfl
  | cons c r ih =>
    simp only [List.map_cons, bytesC, ih]
    split <;> rfl
theorem FitP.goneL (h : FitP S) (l : List ByteArray) : FitP (goneL S l) := by
  unfold Go.Proofs.YtgdenmddbgcacaaGreatDoor.goneL
  induction l generalizing S with
  | nil => exact h
  | cons x r ih => exact ih (h.gone x 3)
theorem FitP.step (h : FitP S) (ok : POk S) (a : Act12) (now : Int) : FitP (stepP S a now) := by
  have hd := h.due a.key now
  have okd := ok.due a.key now
  unfold stepP
  split
  · show bytesC (usedC _ _) ≤ _
    rw [bytes_used okd.nd]; exact hd
  split
  · exact hd
  split
  · unfold putP
    split
    · next hp =>
      have ok2 := okd.laid hp a.keep
      unfold FitP evictP
      simp only
      exact evictL_le _ _ _ ok2.fit ok2.bud.1
    · exact hd
  split
  · exact hd.gone _ _
  split
  · unfold expireP
    split
    · split
      · exact hd.gone _ _
      · show bytesC (setC _ _ _) ≤ _
        rw [bytes_set]; exact hd
    · exact hd
  split
  · unfold persistP
    split
    · show bytesC (setC _ _ _) ≤ _
      rw [bytes_set]; exact hd
    · exact hd
  split
  · exact hd
  split
  · exact h.goneL _
  · have := ok.bud.1
    show bytesC [] ≤ S.budget
    simp only [bytesC]; exact this
/-- The budget stays, and the events do not grow by much. -/
theorem gone_keeps (S : PS) (k : ByteArray) (kind : Int) : (goneP S k kind).budget = S.budget ∧ (goneP S k kind).events.length ≤ S.events.length + 1 := by
  unfold goneP; split
  · exact ⟨rfl, by simp⟩
  · exact ⟨rfl, by omega⟩
theorem due_keeps (S : PS) (k : ByteArray) (now : Int) : (dueP S k now).budget = S.budget ∧ (dueP S k now).events.length ≤ S.events.length + 1 := by
  unfold dueP; split
  · exact gone_keeps _ _ _
  · exact ⟨rfl, by omega⟩
theorem goneL_budget (S : PS) (l : List ByteArray) : (goneL S l).budget = S.budget := by
  unfold Go.Proofs.YtgdenmddbgcacaaGreatDoor.goneL
  induction l generalizing S with
  | nil => rfl
  | cons x r ih => exact (ih _).trans (gone_keeps S x 3).1
theorem step_keeps (S : PS) (a : Act12) (now : Int) : (stepP S a now).budget = S.budget ∧ (stepP S a now).events.length ≤ S.events.length + S.cells.length + 3 := by
  have hd := due_keeps S a.key now
  have hl := dueP_lenR S a.key now
  unfold stepP
  split
  · exact ⟨hd.1, by show (dueP S a.key now).events.length ≤ _; omega⟩
  split
  · exact ⟨hd.1, by omega⟩
  split
  · unfold putP
    split
    · refine ⟨hd.1, ?_⟩
      have := evictL_evlen (laidP (dueP S a.key now) a.key a.item a.keep).budget (laidP (dueP S a.key now) a.key a.item a.keep).cells (laidP (dueP S a.key now) a.key a.item a.keep).events
      have h1 : (laidP (dueP S a.key now) a.key a.item a.keep).cells.length ≤ (dueP S a.key now).cells.length + 1 := by
        unfold laidP; simp only [List.length_append, List.length_singleton]; have := delC_len (dueP S a.key now).cells a.key; omega
      have h2 : (laidP (dueP S a.key now) a.key a.item a.keep).events.length = (dueP S a.key now).events.length + 1 := by unfold laidP; simp
      show (evictL _ _ _).2.length ≤ _
      omega
    · exact ⟨hd.1, by omega⟩
  split
  · have := gone_keeps (dueP S a.key now) a.key 2
    exact ⟨this.1.trans hd.1, by show (goneP _ _ _).events.length ≤ _; omega⟩
  split
  · unfold expireP
    split
    · split
      · have := gone_keeps (dueP S a.key now) a.key 2
        exact ⟨this.1.trans hd.1, by omega⟩
      · exact ⟨hd.1, by simp only [List.length_append, List.length_singleton]; omega⟩
    · exact ⟨hd.1, by omega⟩
  split
  · unfold persistP
    split
    · exact ⟨hd.1, by simp only [List.length_append, List.length_singleton]; omega⟩
    · exact ⟨hd.1, by omega⟩
  split
  · exact ⟨hd.1, by omega⟩
  split
  · have h1 := goneL_len S (sweepL S now a.n)
    have h2 := (sweepL_sub S now a.n).1
    exact ⟨goneL_budget _ _, by show (goneL _ _).events.length ≤ _; omega⟩
  · exact ⟨rfl, by unfold flushP; simp; omega⟩
end
/-- Who is there, as far as the keys have been asked for. -/
structure PeekI (S : PS) (M : List (ByteArray × (It × Value))) (L : List ByteArray) (j : Nat) : Prop where
  nd : (akeys M).Nodup
  at_ : ∀ k, (aget M k).map (·.1) = if k ∈ L.take j then hasC S.cells k else none
  sub : ∀ k ∈ keysC S.cells, k ∈ L
section
variable {S : PS} {M : List (ByteArray × (It × Value))} {L : List ByteArray} {j : Nat}
theorem hasC_due_ne (S : PS) {k k' : ByteArray} (now : Int) (h : k' ≠ k) : hasC (dueP S k now).cells k' = hasC S.cells k' := by
  unfold dueP goneP
  split
  · split
    · simp only; rw [hasC_del, if_neg h]
    · rfl
  · rfl
theorem due_sub (S : PS) (k : ByteArray) (now : Int) : ∀ x ∈ keysC (dueP S k now).cells, x ∈ keysC S.cells := by
  unfold dueP goneP
  split
  · split
    · intro x hx
      simp only at hx
      rw [delC_keys] at hx
      exact (List.mem_filter.1 hx).1
    · exact fun x hx => hx
  · exact fun x hx => hx
theorem PeekI.zero (hL : ∀ k ∈ keysC S.cells, k ∈ L) : PeekI S [] L 0 := ⟨by simp [akeys], fun k => by simp [aget], hL⟩
theorem PeekI.next (h : PeekI S M L j) (hL : L.Nodup) {x : ByteArray} (hx : L[j]? = some x) (now : Int) (v : Value) :
    PeekI (dueP S x now) (if wasP (dueP S x now) x = true then aset M x (gotI (dueP S x now) x, v) else M) L (j + 1) := by
  obtain ⟨h1, e⟩ := List.getElem?_eq_some_iff.1 hx
  have ht : L.take (j + 1) = L.take j ++ [x] := by rw [List.take_succ_eq_append_getElem h1, e]
  have hn : x ∉ L.take j := fun g => by
    have := hL
    rw [← List.take_append_drop (j + 1) L, ht] at this
    have := (List.nodup_append.1 (List.nodup_append.1 this).1).2.2 x g x (by simp)
    exact this rfl
  refine ⟨?_, fun k => ?_, fun k hk => h.sub k (due_sub S x now k hk)⟩
  · split
    · exact nodup_aset h.nd _ _
    · exact h.nd
  · rw [ht]
    have gh := got_has (dueP S x now) x
    by_cases e : x = k
    · subst e
      have hx2 : x ∈ L.take j ++ [x] := by simp
      by_cases hw : wasP (dueP S x now) x = true
      · rw [if_pos hw, aget_aset, if_pos rfl, if_pos hx2, ← gh, if_pos hw]; rfl
      · rw [if_neg hw, h.at_, if_neg hn, if_pos hx2, ← gh, if_neg hw]
    · have hk : k ∈ L.take j ++ [x] ↔ k ∈ L.take j := by
        rw [List.mem_append, List.mem_singleton]
        exact ⟨fun g => g.elim id (fun g => absurd g.symm e), Or.inl⟩
      have : (aget (if wasP (dueP S x now) x = true then aset M x (gotI (dueP S x now) x, v) else M) k).map (·.1) = (aget M k).map (·.1) := by
        split
        · rw [aget_aset, if_neg e]
        · rfl
      rw [this, h.at_, hasC_due_ne S now (fun g => e g.symm)]
      by_cases g : k ∈ L.take j
      · rw [if_pos g, if_pos (hk.2 g)]
      · rw [if_neg g, if_neg (fun g2 => g (hk.1 g2))]
theorem PeekI.done (h : PeekI S M L j) (hj : L.length ≤ j) (k : ByteArray) : (aget M k).map (·.1) = hasC S.cells k := by
  rw [h.at_, List.take_of_length_le hj]
  split
  · rfl
  · next g => exact (hasC_none fun hk => g (h.sub k hk)).symm
/-- A map of items holds what the keys have: how many there may be, how long the keys. -/
theorem its_small (hn : (akeys M).Nodup) (h : ∀ k, (aget M k).map (·.1) = hasC S.cells k) (ok : POk S) : M.length ≤ S.cells.length ∧ ∀ k ∈ akeys M, k.size ≤ 512 := by
  have hm : ∀ k ∈ akeys M, k ∈ keysC S.cells := fun k hk => by
    cases hg : aget M k with
    | none => exact absurd hk (aget_none.1 hg)
    | some p =>
      have h1 := h k
      rw [hg] at h1
      have h2 : (hasC S.cells k).isSome = true := by rw [← h1]; rfl
      rw [hasC_some] at h2; exact of_decide_eq_true h2
  refine ⟨?_, fun k hk => ?_⟩
  · have := subset_len hn hm
    unfold akeys keysC at this
    simpa using this
  · obtain ⟨c, hc, rfl⟩ := List.mem_map.1 (hm k hk)
    exact (ok.small c hc).2
end
end Go.Proofs.YtgdenmddbgcacaaGreatDoor
/- Walk: StoreLast. -/
set_option linter.unusedVariables false
set_option linter.unusedSimpArgs false
namespace Go.Proofs.YtgdenmddbgcacaaGreatDoor
open Go.RowKit

theorem zeroInt (w : World) : (zeroValue 3).run Tryz.prog w = .ok (.int .i64 0) w := by kernel_rfl
theorem MapS.look {w : World} {b : Nat} {m : Nums} (h : MapS w b m) (key : ByteArray) : (Instr.lookup 61 (.map (some b)) (.string key) false).run Tryz.prog w = .ok (.int .i64 (usedV m key)) w := by
  have := MapAt.look h keyS Tryz.underlying61 (zeroInt w) key false
  refine Eq.trans this ?_
  rw [vmS_get]; unfold usedV
  cases aget m key <;> rfl
theorem MapS.put {w : World} {b : Nat} {m : Nums} (h : MapS w b m) (key : ByteArray) (n : Int) : ∃ w', (Instr.mapUpdate 61 (.map (some b)) (.string key) (.int .i64 n)).run Tryz.prog w = .ok () w' ∧ MapS w' b (aset m key n) ∧ Upd (fun k => k = b) w w' := by
  obtain ⟨w', a, b, c⟩ := MapAt.put h keyS Tryz.underlying61 key (.int .i64 n)
  rw [vmS_set] at b
  exact ⟨w', a, b, c⟩
theorem MapS.del {w : World} {b : Nat} {m : Nums} (h : MapS w b m) (key : ByteArray) : ∃ w', (Builtin.delete_ #[61, 9] 0 #[.map (some b), .string key]).run Tryz.prog w = .ok (.tuple #[]) w' ∧ MapS w' b (adel m key) ∧ Upd (fun k => k = b) w w' := by
  obtain ⟨w', a, b, c⟩ := MapAt.del h keyS Tryz.underlying61 key 0
  rw [vmS_del] at b
  exact ⟨w', a, b, c⟩
theorem MapS.keep {w w' : World} {b : Nat} {m : Nums} (h : MapS w b m) {F : Nat → Prop} (u : Upd F w w') (hb : ¬ F b) : MapS w' b m := MapAt.keep h u hb
/-- The law's state in memory. -/
structure LastM (w wr : World) (base sb mb : Nat) (S : PS) (U : Nums) (N : Nat) : Prop where
  st : SSt wr base sb (fun q => q = mb) S N
  mp : MapS wr mb U
  up : Upd (fun _ => False) w wr
  lo : w.heap.size ≤ base
  mlo : base ≤ mb
section
variable {w wr w' : World} {base sb mb : Nat} {S S' : PS} {U U' : Nums} {N N' : Nat}
theorem LastM.keep0 (h : LastM w wr base sb mb S U N) (u : Upd (fun _ => False) wr w') : LastM w w' base sb mb S U N :=
  ⟨h.st.keep0 u, h.mp.keep u (fun h => h), h.up.trans u (fun _ _ h => h), h.lo, h.mlo⟩
theorem LastM.go (h : LastM w wr base sb mb S U N) (s : SSt w' base sb (fun q => q = mb) S' N') (u : Upd (Fr base (fun q => q = mb)) wr w') : LastM w w' base sb mb S' U N' :=
  ⟨s, h.mp.keep u (fun g => g.2 rfl), h.up.trans u (fun i hi g => by have := g.1; have := h.lo; omega), h.lo, h.mlo⟩
theorem LastM.map (h : LastM w wr base sb mb S U N) (m : MapS w' mb U') (u : Upd (fun k => k = mb) wr w') : LastM w w' base sb mb S U' N := by
  have hlow : lowB ≤ mb := by
    obtain ⟨s, Z, ⟨F, r, _⟩, _⟩ := h.st
    exact Nat.le_trans r.six h.mlo
  exact ⟨h.st.keepG u (fun b hb => ⟨hb, by rw [hb]; exact hlow⟩), m, h.up.trans u (fun i hi g => by have := h.lo; have := h.mlo; omega), h.lo, h.mlo⟩
end
end Go.Proofs.YtgdenmddbgcacaaGreatDoor
