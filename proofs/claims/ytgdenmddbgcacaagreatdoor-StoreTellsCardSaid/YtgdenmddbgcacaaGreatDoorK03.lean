/- The store, plain: cells in the order of their use, a budget, events. -/
import Derived.Test.YtgdenmddbgcacaaGreatDoorK01
import Derived.Test.YtgdenmddbgcacaaGreatDoorK02
set_option linter.unusedVariables false
set_option linter.unusedSimpArgs false
namespace Go.Proofs.YtgdenmddbgcacaaGreatDoor
open Go.RowKit

abbrev Fd := ByteArray × ByteArray
/-- An item. -/
structure It where
  kind : Int
  text : ByteArray
  flds : List Fd
/-- A key, what it has, and when it ends (-1: never). -/
structure Ce where
  key : ByteArray
  item : It
  when : Int
abbrev Ev := Int × ByteArray
structure PS where
  cells : List Ce
  budget : Int
  events : List Ev
def fcost : List Fd → Int
  | [] => 0
  | f :: r => 16 + (f.1.size : Int) + (f.2.size : Int) + fcost r
/-- Is a text a number? -/
def isNum (s : ByteArray) : Bool := (Whole.wparse s.data.toList).isSome
def bodyI (i : It) : Int := if i.kind = 1 then (if isNum i.text = true then 8 else (i.text.size : Int)) else fcost i.flds
/-- How many bytes a key and its item count. -/
def costI (k : ByteArray) (i : It) : Int := 48 + (k.size : Int) + bodyI i
/-- Fields in order, none too long; behind a name. -/
def fOk (p : Option ByteArray) : List Fd → Bool
  | [] => true
  | f :: r => decide (f.1.size ≤ 512) && decide (f.2.size ≤ 4096) && (match p with | none => true | some n => Op.bytesLess n.toList f.1.toList) && fOk (some f.1) r
/-- Can an item be? -/
def rightI (i : It) : Bool :=
  if i.kind = 1 then decide (i.text.size ≤ 4096) && decide (i.flds = [])
  else if i.kind = 2 then decide (i.text.size = 0) && decide (1 ≤ i.flds.length) && decide (i.flds.length ≤ 256) && fOk none i.flds
  else false
theorem fcost_app (a b : List Fd) : fcost (a ++ b) = fcost a + fcost b := by
  induction a with
  | nil => simp [fcost]
  | cons f r ih => simp only [List.cons_append, fcost, ih]; omega
theorem fcost_nonneg (l : List Fd) : 0 ≤ fcost l := by
  induction l with
  | nil => simp [fcost]
  | cons f r ih => simp only [fcost]; omega
theorem fcost_le (l : List Fd) (h : ∀ f ∈ l, f.1.size ≤ 100000 ∧ f.2.size ≤ 100000) : fcost l ≤ 200016 * (l.length : Int) := by
  induction l with
  | nil => simp [fcost]
  | cons f r ih =>
    have h1 := h f (by simp)
    have h2 := ih (fun g hg => h g (by simp [hg]))
    simp only [fcost, List.length_cons]; omega
theorem fOk_mem {l : List Fd} : ∀ {p : Option ByteArray}, fOk p l = true → ∀ f ∈ l, f.1.size ≤ 512 ∧ f.2.size ≤ 4096 := by
  induction l with
  | nil => intro p _ f hf; simp at hf
  | cons g r ih =>
    intro p h f hf
    simp only [fOk, Bool.and_eq_true, decide_eq_true_eq] at h
    rcases List.mem_cons.1 hf with rfl | hf
    · exact h.1.1
    · exact ih h.2 f hf
/-- What an item that can be is made of is small. -/
structure SmallI (i : It) : Prop where
  text : i.text.size ≤ 100000
  flds : i.flds.length ≤ 1000
  each : ∀ f ∈ i.flds, f.1.size ≤ 100000 ∧ f.2.size ≤ 100000
theorem small_of_right {i : It} (h : rightI i = true) : SmallI i := by
  unfold rightI at h
  split at h
  · simp only [Bool.and_eq_true, decide_eq_true_eq] at h
    exact ⟨by omega, by rw [h.2]; simp, by rw [h.2]; simp⟩
  · split at h
    · simp only [Bool.and_eq_true, decide_eq_true_eq] at h
      exact ⟨by omega, by omega, fun f hf => by have := fOk_mem h.2 f hf; omega⟩
    · cases h
theorem bodyI_nonneg (i : It) : 0 ≤ bodyI i := by
  unfold bodyI
  split
  · split
    · omega
    · omega
  · exact fcost_nonneg _
theorem bodyI_le {i : It} (h : SmallI i) : bodyI i ≤ 200016000 := by
  unfold bodyI
  have := fcost_le i.flds h.each
  have := h.flds
  have := h.text
  split
  · split <;> omega
  · omega
theorem costI_pos (k : ByteArray) (i : It) : 48 ≤ costI k i := by
  unfold costI; have := bodyI_nonneg i; omega
theorem costI_le {k : ByteArray} {i : It} (h : SmallI i) (hk : k.size ≤ 100000) : costI k i ≤ 300000000 := by
  unfold costI; have := bodyI_le h; omega

def keysC (l : List Ce) : List ByteArray := l.map (·.key)
def lookC (l : List Ce) (k : ByteArray) : Option Ce := l.find? fun c => decide (c.key = k)
def delC (l : List Ce) (k : ByteArray) : List Ce := l.filter fun c => decide (c.key ≠ k)
def setC (l : List Ce) (k : ByteArray) (t : Int) : List Ce := l.map fun c => if c.key = k then { c with when := t } else c
def bytesC : List Ce → Int
  | [] => 0
  | c :: r => costI c.key c.item + bytesC r
/-- When keys end, in order. -/
def duesC : List Ce → List DueP
  | [] => []
  | c :: r => if 0 ≤ c.when then insD (c.when, c.key) (duesC r) else duesC r

theorem lookC_some {l : List Ce} {k : ByteArray} {c : Ce} (h : lookC l k = some c) : c ∈ l ∧ c.key = k := by
  unfold lookC at h
  exact ⟨List.mem_of_find?_eq_some h, by have := List.find?_some h; simpa using this⟩
theorem lookC_none {l : List Ce} {k : ByteArray} : lookC l k = none ↔ k ∉ keysC l := by
  unfold lookC keysC
  rw [List.find?_eq_none, List.mem_map]
  constructor
  · rintro h ⟨c, hc, e⟩; have := h c hc; simp [e] at this
  · intro h c hc; simp only [decide_eq_true_eq]; exact fun e => h ⟨c, hc, e⟩
theorem lookC_isSome {l : List Ce} {k : ByteArray} : (lookC l k).isSome = decide (k ∈ keysC l) := by
  cases h : lookC l k with
  | none => have := lookC_none.1 h; simp [this]
  | some c => obtain ⟨h1, h2⟩ := lookC_some h; simp only [Option.isSome_some]; exact (decide_eq_true (List.mem_map.2 ⟨c, h1, h2⟩)).symm
theorem keysC_cons {x : Ce} {r : List Ce} (h : (keysC (x :: r)).Nodup) : x.key ∉ keysC r ∧ (keysC r).Nodup := List.nodup_cons.1 h
theorem key_uniq {l : List Ce} (h : (keysC l).Nodup) {c d : Ce} (hc : c ∈ l) (hd : d ∈ l) (e : c.key = d.key) : c = d := by
  induction l with
  | nil => simp at hc
  | cons x r ih =>
    have h2 := keysC_cons h
    rcases List.mem_cons.1 hc with e1 | hc2 <;> rcases List.mem_cons.1 hd with e2 | hd2
    · rw [e1, e2]
    · exact absurd (show x.key ∈ keysC r from List.mem_map.2 ⟨d, hd2, by rw [← e, e1]⟩) h2.1
    · exact absurd (show x.key ∈ keysC r from List.mem_map.2 ⟨c, hc2, by rw [e, e2]⟩) h2.1
    · exact ih h2.2 hc2 hd2
theorem lookC_of {l : List Ce} (h : (keysC l).Nodup) {c : Ce} (hc : c ∈ l) : lookC l c.key = some c := by
  cases hl : lookC l c.key with
  | none => exact absurd (List.mem_map.2 ⟨c, hc, rfl⟩) (lookC_none.1 hl)
  | some d => obtain ⟨h1, h2⟩ := lookC_some hl; rw [key_uniq h h1 hc h2]
theorem delC_mem {l : List Ce} {k : ByteArray} {c : Ce} : c ∈ delC l k ↔ c ∈ l ∧ c.key ≠ k := by unfold delC; simp
theorem delC_keys (l : List Ce) (k : ByteArray) : keysC (delC l k) = (keysC l).filter fun x => decide (x ≠ k) := by
  unfold delC keysC; rw [List.filter_map]; rfl
theorem delC_nd {l : List Ce} (h : (keysC l).Nodup) (k : ByteArray) : (keysC (delC l k)).Nodup := by rw [delC_keys]; exact h.filter _
theorem delC_none {l : List Ce} {k : ByteArray} (h : k ∉ keysC l) : delC l k = l := by
  unfold delC; rw [List.filter_eq_self]; intro c hc; simp only [decide_eq_true_eq]; exact fun e => h (List.mem_map.2 ⟨c, hc, e⟩)
theorem delC_erase {l : List Ce} (h : (keysC l).Nodup) (k : ByteArray) : keysC (delC l k) = (keysC l).erase k := by
  rw [delC_keys, h.erase_eq_filter]
  apply List.filter_congr
  intro x _
  by_cases e : x = k <;> simp [e]
theorem not_mem_delC (l : List Ce) (k : ByteArray) : k ∉ keysC (delC l k) := by
  rw [delC_keys]; simp
theorem lookC_delC (l : List Ce) (k k' : ByteArray) : lookC (delC l k) k' = if k' = k then none else lookC l k' := by
  split
  · next e => subst e; exact lookC_none.2 (not_mem_delC l _)
  · next e =>
    unfold lookC delC
    induction l with
    | nil => rfl
    | cons c r ih =>
      by_cases h1 : c.key = k
      · have h2 : ¬ c.key = k' := fun g => e (g.symm.trans h1)
        simp only [List.filter_cons, h1, ne_eq, not_true_eq_false, decide_false, Bool.false_eq_true, if_false, List.find?_cons]
        rw [ih]
        have : decide (k = k') = false := decide_eq_false (fun g => e g.symm)
        rw [this]
      · simp only [List.filter_cons, h1, ne_eq, not_false_eq_true, decide_true, if_true, List.find?_cons]
        rw [ih]
theorem lookC_app (l : List Ce) (c : Ce) (k : ByteArray) : lookC (l ++ [c]) k = (lookC l k).or (if c.key = k then some c else none) := by
  unfold lookC
  rw [List.find?_append]
  congr 1
  by_cases e : c.key = k <;> simp [e]
theorem bytesC_nonneg (l : List Ce) : 0 ≤ bytesC l := by
  induction l with
  | nil => simp [bytesC]
  | cons c r ih => simp only [bytesC]; have := costI_pos c.key c.item; omega
theorem bytesC_app (a b : List Ce) : bytesC (a ++ b) = bytesC a + bytesC b := by
  induction a with
  | nil => simp [bytesC]
  | cons c r ih => simp only [List.cons_append, bytesC, ih]; omega
theorem bytesC_del {l : List Ce} (h : (keysC l).Nodup) {c : Ce} (hc : c ∈ l) : bytesC (delC l c.key) = bytesC l - costI c.key c.item := by
  induction l with
  | nil => simp at hc
  | cons x r ih =>
    have h2 := keysC_cons h
    rcases List.mem_cons.1 hc with rfl | hc
    · have e : delC (c :: r) c.key = r := by
        have := delC_none (l := r) h2.1
        unfold delC at this ⊢
        simp only [List.filter_cons, ne_eq, not_true_eq_false, decide_false, Bool.false_eq_true, if_false]; exact this
      rw [e]; simp only [bytesC]; omega
    · have hne : ¬ x.key = c.key := fun e => h2.1 (by rw [e]; exact List.mem_map.2 ⟨c, hc, rfl⟩)
      have e : delC (x :: r) c.key = x :: delC r c.key := by
        unfold delC; simp only [List.filter_cons, ne_eq, hne, not_false_eq_true, decide_true, if_true]
      rw [e]; simp only [bytesC]; rw [ih h2.2 hc]; omega
theorem bytesC_le {l : List Ce} (h : ∀ c ∈ l, SmallI c.item ∧ c.key.size ≤ 100000) : bytesC l ≤ 300000000 * (l.length : Int) := by
  induction l with
  | nil => simp [bytesC]
  | cons c r ih =>
    have h1 := h c (by simp)
    have h2 := costI_le h1.1 h1.2
    have h3 := ih (fun d hd => h d (by simp [hd]))
    simp only [bytesC, List.length_cons]; omega
theorem delC_len (l : List Ce) (k : ByteArray) : (delC l k).length ≤ l.length := List.length_filter_le _ _

/-- Rows in order that hold the same are the same. -/
theorem rise_ext {l m : List DueP} (hl : Rise l) (hm : Rise m) (h : ∀ d, d ∈ l ↔ d ∈ m) : l = m :=
  rise_eq hl hm ((List.perm_ext_iff_of_nodup hl.nodup hm.nodup).2 h)
theorem duesC_mem {l : List Ce} {d : DueP} : d ∈ duesC l ↔ ∃ c ∈ l, 0 ≤ c.when ∧ d = (c.when, c.key) := by
  induction l with
  | nil => simp [duesC]
  | cons x r ih =>
    unfold duesC
    split
    · next h =>
      rw [(insD_perm _ _).mem_iff, List.mem_cons, ih]
      constructor
      · rintro (rfl | ⟨c, hc, g⟩)
        · exact ⟨x, by simp, h, rfl⟩
        · exact ⟨c, by simp [hc], g⟩
      · rintro ⟨c, hc, g1, g2⟩
        rcases List.mem_cons.1 hc with rfl | hc
        · exact Or.inl g2
        · exact Or.inr ⟨c, hc, g1, g2⟩
    · next h =>
      rw [ih]
      constructor
      · rintro ⟨c, hc, g⟩; exact ⟨c, by simp [hc], g⟩
      · rintro ⟨c, hc, g1, g2⟩
        rcases List.mem_cons.1 hc with rfl | hc
        · exact absurd g1 h
        · exact ⟨c, hc, g1, g2⟩
theorem duesC_rise {l : List Ce} (h : (keysC l).Nodup) : Rise (duesC l) := by
  induction l with
  | nil => exact List.Pairwise.nil
  | cons x r ih =>
    have h2 := keysC_cons h
    unfold duesC
    split
    · refine insD_rise (ih h2.2) fun hm => ?_
      obtain ⟨c, hc, _, e⟩ := duesC_mem.1 hm
      exact h2.1 (by have := (Prod.ext_iff.1 e).2; simp only at this; rw [this]; exact List.mem_map.2 ⟨c, hc, rfl⟩)
    · exact ih h2.2
theorem duesC_keys {l : List Ce} {k : ByteArray} (h : k ∈ (duesC l).map (·.2)) : k ∈ keysC l := by
  obtain ⟨d, hd, rfl⟩ := List.mem_map.1 h
  obtain ⟨c, hc, _, rfl⟩ := duesC_mem.1 hd
  exact List.mem_map.2 ⟨c, hc, rfl⟩
theorem duesC_has {l : List Ce} (h : (keysC l).Nodup) (k : ByteArray) : decide (k ∈ (duesC l).map (·.2)) = (match lookC l k with | none => false | some c => decide (0 ≤ c.when)) := by
  cases hl : lookC l k with
  | none => exact decide_eq_false fun g => lookC_none.1 hl (duesC_keys g)
  | some c =>
    obtain ⟨h1, rfl⟩ := lookC_some hl
    show _ = decide (0 ≤ c.when)
    rw [Bool.eq_iff_iff, decide_eq_true_eq, decide_eq_true_eq]
    constructor
    · intro g
      obtain ⟨d, hd, e⟩ := List.mem_map.1 g
      obtain ⟨c2, hc2, g2, rfl⟩ := duesC_mem.1 hd
      rw [← key_uniq h hc2 h1 e]; exact g2
    · intro g; exact List.mem_map.2 ⟨(c.when, c.key), duesC_mem.2 ⟨c, h1, g, rfl⟩, rfl⟩
theorem duesC_del {l : List Ce} (h : (keysC l).Nodup) (k : ByteArray) : duesC (delC l k) = dropD k (duesC l) := by
  refine rise_ext (duesC_rise (delC_nd h k)) (dropD_rise (duesC_rise h) k) fun d => ?_
  rw [duesC_mem, dropD_mem, duesC_mem]
  constructor
  · rintro ⟨c, hc, g, rfl⟩
    obtain ⟨h1, h2⟩ := delC_mem.1 hc
    exact ⟨⟨c, h1, g, rfl⟩, h2⟩
  · rintro ⟨⟨c, hc, g, rfl⟩, h2⟩
    exact ⟨c, delC_mem.2 ⟨hc, h2⟩, g, rfl⟩
theorem duesC_app (l : List Ce) {c : Ce} (h : (keysC (l ++ [c])).Nodup) : duesC (l ++ [c]) = if 0 ≤ c.when then insD (c.when, c.key) (duesC l) else duesC l := by
  have hk : keysC (l ++ [c]) = keysC l ++ [c.key] := by simp [keysC]
  have h0 := h
  rw [hk, List.nodup_append] at h
  have hn : c.key ∉ keysC l := fun g => h.2.2 _ g _ (by simp) rfl
  split
  · next g =>
    refine rise_ext (duesC_rise h0) (insD_rise (duesC_rise h.1) fun hm => ?_) fun d => ?_
    · exact hn (duesC_keys (List.mem_map.2 ⟨_, hm, rfl⟩))
    · rw [duesC_mem, (insD_perm _ _).mem_iff, List.mem_cons, duesC_mem]
      constructor
      · rintro ⟨x, hx, g1, rfl⟩
        rcases List.mem_append.1 hx with hx | hx
        · exact Or.inr ⟨x, hx, g1, rfl⟩
        · obtain rfl := List.mem_singleton.1 hx; exact Or.inl rfl
      · rintro (rfl | ⟨x, hx, g1, rfl⟩)
        · exact ⟨c, by simp, g, rfl⟩
        · exact ⟨x, by simp [hx], g1, rfl⟩
  · next g =>
    refine rise_ext (duesC_rise h0) (duesC_rise h.1) fun d => ?_
    rw [duesC_mem, duesC_mem]
    constructor
    · rintro ⟨x, hx, g1, rfl⟩
      rcases List.mem_append.1 hx with hx | hx
      · exact ⟨x, hx, g1, rfl⟩
      · obtain rfl := List.mem_singleton.1 hx; exact absurd g1 g
    · rintro ⟨x, hx, g1, rfl⟩; exact ⟨x, by simp [hx], g1, rfl⟩
theorem setC_keys (l : List Ce) (k : ByteArray) (t : Int) : keysC (setC l k t) = keysC l := by
  unfold keysC setC; rw [List.map_map]
  apply List.map_congr_left
  intro c _
  simp only [Function.comp]
  split <;> rfl
theorem setC_mem {l : List Ce} {k : ByteArray} {t : Int} {c : Ce} : c ∈ setC l k t ↔ (c ∈ l ∧ c.key ≠ k) ∨ (c.key = k ∧ c.when = t ∧ ∃ d ∈ l, d.key = k ∧ d.item = c.item) := by
  unfold setC
  rw [List.mem_map]
  constructor
  · rintro ⟨d, hd, rfl⟩
    by_cases e : d.key = k
    · rw [if_pos e]; exact Or.inr ⟨e, rfl, d, hd, e, rfl⟩
    · rw [if_neg e]; exact Or.inl ⟨hd, e⟩
  · rintro (⟨h, e⟩ | ⟨e1, e2, d, hd, e3, e4⟩)
    · exact ⟨c, h, by rw [if_neg e]⟩
    · refine ⟨d, hd, ?_⟩
      rw [if_pos e3]
      obtain ⟨ck, ci, cw⟩ := c
      simp only at e1 e2 e4
      rw [← e2, ← e4]
      simp only [e1, e3]
theorem lookC_setC (l : List Ce) (k k' : ByteArray) (t : Int) : lookC (setC l k t) k' = if k' = k then (lookC l k).map (fun c => { c with when := t }) else lookC l k' := by
  unfold lookC setC
  induction l with
  | nil => split <;> rfl
  | cons c r ih =>
    rw [List.map_cons, List.find?_cons, List.find?_cons, ih]
    by_cases h1 : c.key = k
    · rw [if_pos h1]
      by_cases h2 : k' = k
      · subst h2; simp [h1]
      · have : ¬ k = k' := fun g => h2 g.symm
        simp [h1, h2, this]
    · rw [if_neg h1]
      by_cases h2 : k' = k
      · subst h2; simp [h1]
      · simp [h2, List.find?_cons]
theorem bytesC_setC (l : List Ce) (k : ByteArray) (t : Int) : bytesC (setC l k t) = bytesC l := by
  unfold setC
  induction l with
  | nil => rfl
  | cons c r ih => rw [List.map_cons]; simp only [bytesC, ih]; split <;> rfl
theorem duesC_setC {l : List Ce} (h : (keysC l).Nodup) {k : ByteArray} {t : Int} (ht : 0 ≤ t) (hk : k ∈ keysC l) : duesC (setC l k t) = putD k t (duesC l) := by
  refine rise_ext (duesC_rise (by rw [setC_keys]; exact h)) (putD_rise (duesC_rise h) k t) fun d => ?_
  rw [duesC_mem, (putD_perm _ _ _).mem_iff, List.mem_cons, dropD_mem, duesC_mem]
  constructor
  · rintro ⟨c, hc, g, rfl⟩
    rcases setC_mem.1 hc with ⟨h1, h2⟩ | ⟨h1, h2, _⟩
    · exact Or.inr ⟨⟨c, h1, g, rfl⟩, h2⟩
    · exact Or.inl (by rw [h1, h2])
  · rintro (rfl | ⟨⟨c, hc, g, rfl⟩, h2⟩)
    · obtain ⟨c, hc, e⟩ := List.mem_map.1 hk
      exact ⟨{ c with when := t }, setC_mem.2 (Or.inr ⟨e, rfl, c, hc, e, rfl⟩), ht, by simp only; rw [e]⟩
    · exact ⟨c, setC_mem.2 (Or.inl ⟨hc, h2⟩), g, rfl⟩
theorem duesC_unset {l : List Ce} (h : (keysC l).Nodup) {k : ByteArray} {t : Int} (ht : ¬ 0 ≤ t) : duesC (setC l k t) = dropD k (duesC l) := by
  refine rise_ext (duesC_rise (by rw [setC_keys]; exact h)) (dropD_rise (duesC_rise h) k) fun d => ?_
  rw [duesC_mem, dropD_mem, duesC_mem]
  constructor
  · rintro ⟨c, hc, g, rfl⟩
    rcases setC_mem.1 hc with ⟨h1, h2⟩ | ⟨h1, h2, _⟩
    · exact ⟨⟨c, h1, g, rfl⟩, h2⟩
    · rw [h2] at g; exact absurd g ht
  · rintro ⟨⟨c, hc, g, rfl⟩, h2⟩
    exact ⟨c, setC_mem.2 (Or.inl ⟨hc, h2⟩), g, rfl⟩
theorem duesC_len (l : List Ce) : (duesC l).length ≤ l.length := by
  induction l with
  | nil => simp [duesC]
  | cons c r ih =>
    unfold duesC; split
    · rw [(insD_perm _ _).length_eq]; simp [ih]
    · simp; omega

/-- A key goes, and it is told why. -/
def goneP (S : PS) (k : ByteArray) (kind : Int) : PS := if k ∈ keysC S.cells then { S with cells := delC S.cells k, events := S.events ++ [(kind, k)] } else S
def isDue (l : List Ce) (k : ByteArray) (now : Int) : Bool := match lookC l k with
  | none => false
  | some c => decide (0 ≤ c.when) && decide (c.when ≤ now)
/-- A key that has ended goes. -/
def dueP (S : PS) (k : ByteArray) (now : Int) : PS := if isDue S.cells k now = true then goneP S k 3 else S
def itemAt (S : PS) (k : ByteArray) : Option It := (lookC S.cells k).map (·.item)
def usedC (l : List Ce) (k : ByteArray) : List Ce := match lookC l k with
  | none => l
  | some c => delC l k ++ [c]
def getP (S : PS) (k : ByteArray) (now : Int) : PS := { dueP S k now with cells := usedC (dueP S k now).cells k }
/-- As long as there is too much, the one used longest ago goes, but one. -/
def evictL (bud : Int) : List Ce → List Ev → List Ce × List Ev
  | [], ev => ([], ev)
  | [c], ev => ([c], ev)
  | c :: d :: r, ev => if bud < bytesC (c :: d :: r) then evictL bud (d :: r) (ev ++ [(4, c.key)]) else (c :: d :: r, ev)
def evictP (S : PS) : PS := { S with cells := (evictL S.budget S.cells S.events).1, events := (evictL S.budget S.cells S.events).2 }
def keepC (l : List Ce) (k : ByteArray) (keep : Bool) : Int := if keep = true then (match lookC l k with | none => -1 | some c => c.when) else -1
/-- Why a key may not have it; 0: it may. -/
def putE (S : PS) (k : ByteArray) (i : It) : Int := if 512 < k.size ∨ rightI i = false then 31 else if S.budget < costI k i then 121 else 0
def laidP (S : PS) (k : ByteArray) (i : It) (keep : Bool) : PS := { S with cells := delC S.cells k ++ [⟨k, i, keepC S.cells k keep⟩], events := S.events ++ [(1, k)] }
def putP (S : PS) (k : ByteArray) (i : It) (keep : Bool) (now : Int) : PS := if putE (dueP S k now) k i = 0 then evictP (laidP (dueP S k now) k i keep) else dueP S k now
def wasP (S : PS) (k : ByteArray) : Bool := decide (k ∈ keysC S.cells)
def dropP (S : PS) (k : ByteArray) (now : Int) : PS := goneP (dueP S k now) k 2
def expireP (S : PS) (k : ByteArray) (t now : Int) : PS := if wasP (dueP S k now) k = true then (if t ≤ now then goneP (dueP S k now) k 2 else { dueP S k now with cells := setC (dueP S k now).cells k (min t 4611686018427387904), events := (dueP S k now).events ++ [(1, k)] }) else dueP S k now
def endsP (S : PS) (k : ByteArray) : Bool := match lookC S.cells k with | none => false | some c => decide (0 ≤ c.when)
def persistP (S : PS) (k : ByteArray) (now : Int) : PS := if endsP (dueP S k now) k = true then { dueP S k now with cells := setC (dueP S k now).cells k (-1), events := (dueP S k now).events ++ [(1, k)] } else dueP S k now
def ttlA (S : PS) (k : ByteArray) (now : Int) : Int := match lookC S.cells k with | none => -2 | some c => if 0 ≤ c.when then c.when - now else -1
def sweepL (S : PS) (now most : Int) : List ByteArray := ((dueD now (duesC S.cells)).take most.toNat).map (·.2)
def goneL (S : PS) (l : List ByteArray) : PS := l.foldl (fun s k => goneP s k 3) S
def sweepP (S : PS) (now most : Int) : PS := goneL S (sweepL S now most)
def flushP (S : PS) : PS := { S with cells := [], events := S.events ++ [(5, ByteArray.empty)] }
def newP (b : Int) : PS := ⟨[], max 0 (min b 1000000000000), []⟩

/-- What a store may be: each key once, each item such as can be. -/
structure POk (S : PS) : Prop where
  nd : (keysC S.cells).Nodup
  small : ∀ c ∈ S.cells, rightI c.item = true ∧ c.key.size ≤ 512
  whens : ∀ c ∈ S.cells, -1 ≤ c.when ∧ c.when ≤ 4611686018427387904
  bud : 0 ≤ S.budget ∧ S.budget ≤ 1000000000000
  fit : ∀ c ∈ S.cells, costI c.key c.item ≤ S.budget
section
variable {S : PS}
theorem POk.sub (h : POk S) {l : List Ce} {ev : List Ev} (hl : ∀ c ∈ l, c ∈ S.cells) (hn : (keysC l).Nodup) : POk { S with cells := l, events := ev } :=
  ⟨hn, fun c hc => h.small c (hl c hc), fun c hc => h.whens c (hl c hc), h.bud, fun c hc => h.fit c (hl c hc)⟩
theorem POk.gone (h : POk S) (k : ByteArray) (kind : Int) : POk (goneP S k kind) := by
  unfold goneP; split
  · exact h.sub (fun c hc => (delC_mem.1 hc).1) (delC_nd h.nd k)
  · exact h
theorem POk.due (h : POk S) (k : ByteArray) (now : Int) : POk (dueP S k now) := by
  unfold dueP; split
  · exact h.gone k 3
  · exact h
theorem usedC_keys {l : List Ce} (h : (keysC l).Nodup) (k : ByteArray) : (keysC (usedC l k)).Nodup ∧ ∀ c, c ∈ usedC l k ↔ c ∈ l := by
  unfold usedC
  cases hl : lookC l k with
  | none => exact ⟨h, fun c => Iff.rfl⟩
  | some d =>
    obtain ⟨h1, rfl⟩ := lookC_some hl
    refine ⟨?_, fun c => ?_⟩
    · show (keysC (delC l d.key ++ [d])).Nodup
      have : keysC (delC l d.key ++ [d]) = keysC (delC l d.key) ++ [d.key] := by simp [keysC]
      rw [this, List.nodup_append]
      refine ⟨delC_nd h _, by simp, fun a ha b hb e => ?_⟩
      obtain rfl := List.mem_singleton.1 hb
      subst e
      exact not_mem_delC l _ ha
    · show c ∈ delC l d.key ++ [d] ↔ c ∈ l
      rw [List.mem_append, delC_mem, List.mem_singleton]
      constructor
      · rintro (g | rfl)
        · exact g.1
        · exact h1
      · intro g
        by_cases e : c.key = d.key
        · exact Or.inr (key_uniq h g h1 e)
        · exact Or.inl ⟨g, e⟩
theorem POk.get (h : POk S) (k : ByteArray) (now : Int) : POk (getP S k now) := by
  have h1 := h.due k now
  exact h1.sub (fun c hc => ((usedC_keys h1.nd k).2 c).1 hc) (usedC_keys h1.nd k).1
theorem evictL_suffix (bud : Int) : ∀ (l : List Ce) (ev : List Ev), ∃ a, l = a ++ (evictL bud l ev).1 ∧ (evictL bud l ev).2 = ev ++ a.map fun c => ((4 : Int), c.key)
  | [], ev => ⟨[], rfl, by simp [evictL]⟩
  | [c], ev => ⟨[], rfl, by simp [evictL]⟩
  | c :: d :: r, ev => by
    unfold evictL
    split
    · obtain ⟨a, h1, h2⟩ := evictL_suffix bud (d :: r) (ev ++ [(4, c.key)])
      refine ⟨c :: a, ?_, ?_⟩
      · rw [List.cons_append, ← h1]
      · rw [h2]; simp
    · exact ⟨[], rfl, by simp⟩
theorem evictL_last (bud : Int) : ∀ (l : List Ce) (c : Ce) (ev : List Ev), ∃ a, (evictL bud (l ++ [c]) ev).1 = a ++ [c]
  | [], c, ev => ⟨[], rfl⟩
  | [x], c, ev => by
    show ∃ a, (evictL bud (x :: c :: []) ev).1 = a ++ [c]
    unfold evictL
    split
    · exact ⟨[], rfl⟩
    · exact ⟨[x], rfl⟩
  | x :: y :: r, c, ev => by
    show ∃ a, (evictL bud (x :: y :: (r ++ [c])) ev).1 = a ++ [c]
    unfold evictL
    split
    · exact evictL_last bud (y :: r) c _
    · exact ⟨x :: y :: r, rfl⟩
theorem evictL_le (bud : Int) : ∀ (l : List Ce) (ev : List Ev), (∀ c ∈ l, costI c.key c.item ≤ bud) → 0 ≤ bud → bytesC (evictL bud l ev).1 ≤ bud
  | [], ev, h, h0 => by simpa [evictL, bytesC] using h0
  | [c], ev, h, h0 => by have := h c (by simp); simp only [evictL, bytesC]; omega
  | c :: d :: r, ev, h, h0 => by
    unfold evictL
    split
    · exact evictL_le bud (d :: r) _ (fun x hx => h x (by simp only [List.mem_cons] at hx ⊢; exact Or.inr hx)) h0
    · next g => simp only; omega
theorem POk.evict (h : POk S) : POk (evictP S) := by
  obtain ⟨a, e, _⟩ := evictL_suffix S.budget S.cells S.events
  refine h.sub (fun c hc => by rw [e]; exact List.mem_append_right _ hc) ?_
  have := h.nd
  rw [e] at this
  unfold keysC at this ⊢
  rw [List.map_append] at this
  exact (List.nodup_append.1 this).2.1
theorem keepC_range (h : POk S) (k : ByteArray) (keep : Bool) : -1 ≤ keepC S.cells k keep ∧ keepC S.cells k keep ≤ 4611686018427387904 := by
  unfold keepC
  split
  · cases hl : lookC S.cells k with
    | none => exact ⟨by decide, by decide⟩
    | some c => exact h.whens c (lookC_some hl).1
  · exact ⟨by decide, by decide⟩
theorem putE_ok {k : ByteArray} {i : It} (h : putE S k i = 0) : k.size ≤ 512 ∧ rightI i = true ∧ costI k i ≤ S.budget := by
  unfold putE at h
  split at h
  · cases h
  · next g =>
    rw [not_or] at g
    split at h
    · cases h
    · exact ⟨by omega, by simpa using g.2, by omega⟩
theorem laid_nd {l : List Ce} (h : (keysC l).Nodup) (k : ByteArray) (i : It) (t : Int) : (keysC (delC l k ++ [⟨k, i, t⟩])).Nodup := by
  have : keysC (delC l k ++ [⟨k, i, t⟩]) = keysC (delC l k) ++ [k] := by simp [keysC]
  rw [this, List.nodup_append]
  refine ⟨delC_nd h _, by simp, fun a ha b hb e => ?_⟩
  obtain rfl := List.mem_singleton.1 hb
  subst e
  exact not_mem_delC l _ ha
theorem POk.laid (h : POk S) {k : ByteArray} {i : It} (hp : putE S k i = 0) (keep : Bool) : POk (laidP S k i keep) := by
  obtain ⟨h1, h2, h3⟩ := putE_ok hp
  refine ⟨laid_nd h.nd k i _, fun c hc => ?_, fun c hc => ?_, h.bud, fun c hc => ?_⟩ <;> rcases List.mem_append.1 hc with hc | hc
  · exact h.small c (delC_mem.1 hc).1
  · obtain rfl := List.mem_singleton.1 hc; exact ⟨h2, h1⟩
  · exact h.whens c (delC_mem.1 hc).1
  · obtain rfl := List.mem_singleton.1 hc; exact keepC_range h k keep
  · exact h.fit c (delC_mem.1 hc).1
  · obtain rfl := List.mem_singleton.1 hc; exact h3
theorem POk.put (h : POk S) (k : ByteArray) (i : It) (keep : Bool) (now : Int) : POk (putP S k i keep now) := by
  unfold putP
  split
  · next g => exact ((h.due k now).laid g keep).evict
  · exact h.due k now
theorem POk.setW (h : POk S) {k : ByteArray} {t : Int} {ev : List Ev} (h0 : -1 ≤ t) (h1 : t ≤ 4611686018427387904) : POk { S with cells := setC S.cells k t, events := ev } := by
  refine ⟨by rw [setC_keys]; exact h.nd, fun c hc => ?_, fun c hc => ?_, h.bud, fun c hc => ?_⟩ <;> rcases setC_mem.1 hc with ⟨a, _⟩ | ⟨e1, e2, d, hd, e3, e4⟩
  · exact h.small c a
  · rw [← e4, e1, ← e3]; exact h.small d hd
  · exact h.whens c a
  · rw [e2]; exact ⟨h0, h1⟩
  · exact h.fit c a
  · rw [← e4, e1, ← e3]; exact h.fit d hd
theorem POk.drop (h : POk S) (k : ByteArray) (now : Int) : POk (dropP S k now) := (h.due k now).gone k 2
theorem POk.expire (h : POk S) (k : ByteArray) (t now : Int) (hn : 0 ≤ now) : POk (expireP S k t now) := by
  unfold expireP
  split
  · split
    · exact (h.due k now).gone k 2
    · exact (h.due k now).setW (by omega) (by omega)
  · exact h.due k now
theorem POk.persist (h : POk S) (k : ByteArray) (now : Int) : POk (persistP S k now) := by
  unfold persistP
  split
  · exact (h.due k now).setW (by omega) (by omega)
  · exact h.due k now
theorem POk.goneL (h : POk S) (l : List ByteArray) : POk (goneL S l) := by
  unfold Go.Proofs.YtgdenmddbgcacaaGreatDoor.goneL
  induction l generalizing S with
  | nil => exact h
  | cons k r ih => exact ih (h.gone k 3)
theorem POk.sweep (h : POk S) (now most : Int) : POk (sweepP S now most) := h.goneL _
theorem POk.flush (h : POk S) : POk (flushP S) := h.sub (l := []) (fun c hc => by simp at hc) (by simp [keysC])
theorem POk.new (b : Int) : POk (newP b) := ⟨by simp [newP, keysC], by simp [newP], by simp [newP], by unfold newP; simp only; omega, by simp [newP]⟩
theorem POk.tell (h : POk S) (ev : List Ev) : POk { S with events := ev } := ⟨h.nd, h.small, h.whens, h.bud, h.fit⟩
end
end Go.Proofs.YtgdenmddbgcacaaGreatDoor
/- Plain model of the table: the code's own steps, on lists. -/
set_option linter.unusedVariables false
set_option linter.unusedSimpArgs false
namespace Tbl

structure Pl where
  st : Int
  key : ByteArray
  n : Int

def noPl : Pl := ⟨0, ByteArray.empty, 0⟩
def gravePl : Pl := ⟨2, ByteArray.empty, 0⟩
instance : Inhabited Pl := ⟨noPl⟩

def fnvStep (h : BitVec 64) (c : UInt8) : BitVec 64 := (h ^^^ BitVec.ofNat 64 c.toNat) * 1099511628211#64
def fnvB (l : List UInt8) : BitVec 64 := l.foldl fnvStep 14695981039346656037#64
def fnv (l : List UInt8) : Nat := (fnvB l).toNat

theorem fnvB_snoc (l : List UInt8) (c : UInt8) : fnvB (l ++ [c]) = fnvStep (fnvB l) c := by
  unfold fnvB; simp

def findGo (ps : List Pl) (key : ByteArray) : Nat → Nat → Int → Int × Bool
  | 0, _, free => (free, false)
  | f + 1, a, free =>
    let p := ps.getD a default
    if p.st = 1 ∧ p.key = key then (a, true)
    else
      if p.st = 0 then ((if p.st ≠ 1 ∧ free < 0 then (a : Int) else free), false)
      else findGo ps key f ((a + 1) % ps.length) (if p.st ≠ 1 ∧ free < 0 then (a : Int) else free)

def home (ps : List Pl) (key : ByteArray) : Nat := fnv key.data.toList % ps.length

def find (ps : List Pl) (key : ByteArray) : Int × Bool := findGo ps key ps.length (home ps key) (-1)

/-- A row: its places, how many are full, how many graves. -/
structure Row where
  pl : List Pl
  full : Int
  graves : Int

def made (n : Nat) : Row := ⟨List.replicate n noPl, 0, 0⟩
def none : Row := ⟨[], 0, 0⟩

/-- put, where find's answer is (a, there). -/
def Row.putAt (r : Row) (a : Nat) (there : Bool) (key : ByteArray) (n : Int) : Row :=
  ⟨r.pl.set a ⟨1, key, n⟩, if there then r.full else r.full + 1, if there then r.graves else if (r.pl.getD a default).st = 2 then r.graves - 1 else r.graves⟩
def Row.put (r : Row) (key : ByteArray) (n : Int) : Row := r.putAt (find r.pl key).1.toNat (find r.pl key).2 key n
def Row.bury (r : Row) (a : Nat) : Row := ⟨r.pl.set a gravePl, r.full - 1, r.graves + 1⟩
/-- the number of the place a is n now. -/
def Row.num (r : Row) (a : Nat) (n : Int) : Row := ⟨r.pl.set a ⟨(r.pl.getD a default).st, (r.pl.getD a default).key, n⟩, r.full, r.graves⟩

theorem findGo_range (ps : List Pl) (key : ByteArray) (f a : Nat) (free : Int) (h0 : 0 < ps.length) (ha : a < ps.length) (hf : -1 ≤ free ∧ free < ps.length) :
    -1 ≤ (findGo ps key f a free).1 ∧ (findGo ps key f a free).1 < ps.length := by
  induction f generalizing a free with
  | zero => simpa [findGo] using hf
  | succ f ih =>
    rw [findGo]
    split
    · simp only; omega
    · split
      · simp only; split <;> omega
      · apply ih _ _ (Nat.mod_lt _ h0); split <;> omega
theorem find_range (ps : List Pl) (key : ByteArray) (h0 : 0 < ps.length) : -1 ≤ (find ps key).1 ∧ (find ps key).1 < ps.length :=
  findGo_range _ _ _ _ _ h0 (Nat.mod_lt _ h0) (by omega)
theorem findGo_there (ps : List Pl) (key : ByteArray) (f a : Nat) (free : Int) (h0 : 0 < ps.length) (ha : a < ps.length) (ht : (findGo ps key f a free).2 = true) :
    ∃ i : Nat, i < ps.length ∧ (findGo ps key f a free).1 = i ∧ (ps.getD i default).st = 1 ∧ (ps.getD i default).key = key := by
  induction f generalizing a free with
  | zero => simp [findGo] at ht
  | succ f ih =>
    rw [findGo] at ht ⊢
    split
    · next h => exact ⟨a, ha, rfl, h.1, h.2⟩
    · next h =>
      rw [if_neg h] at ht
      split
      · next h2 => rw [if_pos h2] at ht; simp at ht
      · next h2 => rw [if_neg h2] at ht; exact ih _ _ (Nat.mod_lt _ h0) ht
theorem find_there (ps : List Pl) (key : ByteArray) (h0 : 0 < ps.length) (ht : (find ps key).2 = true) :
    ∃ i : Nat, i < ps.length ∧ (find ps key).1 = i ∧ (ps.getD i default).st = 1 ∧ (ps.getD i default).key = key :=
  findGo_there _ _ _ _ _ h0 (Nat.mod_lt _ h0) ht

/-- The table: two rows, whether it is moved, and how many were. -/
structure Tab where
  old : Row
  fresh : Row
  moving : Bool
  next : Nat

def Tab.new : Tab := ⟨made 8, none, false, 0⟩
def Tab.len (t : Tab) : Int := t.old.full + t.fresh.full

/-- one place is moved. -/
def Tab.moved (t : Tab) : Tab :=
  let p := t.old.pl.getD t.next default
  if p.st = 1 then { t with old := t.old.bury t.next, fresh := t.fresh.put p.key p.n } else t
def Tab.one (t : Tab) : Tab :=
  let u := t.moved
  if t.next + 1 = t.old.pl.length then ⟨u.fresh, none, false, 0⟩ else { u with next := t.next + 1 }
def Tab.steps : Nat → Tab → Tab
  | 0, t => t
  | k + 1, t => if t.moving then Tab.steps k t.one else t
def Tab.step (t : Tab) : Tab := t.steps 4

/-- room: doubled until a quarter of it is more than so many. -/
def roomFor (full : Int) : Nat → Int → Int
  | 0, room => room
  | f + 1, room => if room / 4 ≤ full then roomFor full f (room * 2) else room
def Tab.room (t : Tab) : Int := roomFor t.old.full (4 * t.old.full + 4).toNat (max 8 ((t.old.pl.length : Int) / 2))
def Tab.grow (t : Tab) : Tab :=
  if t.moving = true ∨ 2 * (t.old.full + t.old.graves) < t.old.pl.length then t
  else { t with fresh := made t.room.toNat, moving := true }

/-- where a key stands: in the fresh row (true) or the old one, and at which place. -/
def Tab.at (t : Tab) (key : ByteArray) : Option (Bool × Nat) :=
  if t.fresh.pl.length ≠ 0 ∧ (find t.fresh.pl key).2 = true then some (true, (find t.fresh.pl key).1.toNat)
  else if t.old.pl.length ≠ 0 ∧ (find t.old.pl key).2 = true then some (false, (find t.old.pl key).1.toNat)
  else Option.none

def Tab.put2 (t : Tab) (key : ByteArray) (n : Int) : Tab × Bool :=
  match t.at key with
  | some (true, a) => ({ t with fresh := t.fresh.num a n }, false)
  | some (false, a) => ({ t with old := t.old.num a n }, false)
  | Option.none =>
    let u := t.grow
    if u.moving then ({ u with fresh := u.fresh.put key n }, true) else ({ u with old := u.old.put key n }, true)
def Tab.put (t : Tab) (key : ByteArray) (n : Int) : Tab × Bool := t.step.put2 key n

def Tab.look (t : Tab) (key : ByteArray) : Int × Bool :=
  match t.at key with
  | some (true, a) => ((t.fresh.pl.getD a default).n, true)
  | some (false, a) => ((t.old.pl.getD a default).n, true)
  | Option.none => (0, false)
def Tab.get (t : Tab) (key : ByteArray) : Tab × (Int × Bool) := (t.step, t.step.look key)
def Tab.cut (t : Tab) (key : ByteArray) : Tab :=
  match t.at key with
  | some (true, a) => { t with fresh := t.fresh.bury a }
  | some (false, a) => { t with old := t.old.bury a }
  | Option.none => t
def Tab.drop (t : Tab) (key : ByteArray) : Tab × (Int × Bool) := (t.step.cut key, t.step.look key)

def keysOf (ps : List Pl) : List ByteArray := (ps.filter fun p => p.st = 1).map (·.key)
theorem keysOf_take (ps : List Pl) (k : Nat) (h : k < ps.length) : keysOf (ps.take (k + 1)) = keysOf (ps.take k) ++ (if (ps.getD k default).st = 1 then [(ps.getD k default).key] else []) := by
  have e : ps.getD k default = ps[k] := by rw [List.getD_eq_getElem?_getD, List.getElem?_eq_getElem h]; rfl
  rw [List.take_succ_eq_append_getElem h, e]
  unfold keysOf
  rw [List.filter_append, List.map_append]
  by_cases hs : ps[k].st = 1 <;> simp [List.filter_cons, hs]
theorem keysOf_len (ps : List Pl) : (keysOf ps).length ≤ ps.length := by
  unfold keysOf; rw [List.length_map]; exact List.length_filter_le _ _
def Tab.keysRaw (t : Tab) : List ByteArray := keysOf t.old.pl ++ keysOf t.fresh.pl
end Tbl
