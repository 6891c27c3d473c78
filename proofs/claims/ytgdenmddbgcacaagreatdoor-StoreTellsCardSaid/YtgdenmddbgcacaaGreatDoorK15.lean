/- The store in memory: its table, slots, free ones, keys by their use, dues and events, each in blocks of its own. -/
import Derived.Test.YtgdenmddbgcacaaGreatDoorK03
import Derived.Test.YtgdenmddbgcacaaGreatDoorK08
import Derived.Test.YtgdenmddbgcacaaGreatDoorK09
import Derived.Test.YtgdenmddbgcacaaGreatDoorK13
import Derived.Test.YtgdenmddbgcacaaGreatDoorK14
set_option linter.unusedVariables false
set_option linter.unusedSimpArgs false
set_option linter.unusedSectionVars false
namespace Go.Proofs.YtgdenmddbgcacaaGreatDoor
open Go.RowKit

abbrev SlV := Int × ByteArray × Value
def slc (s : SlV) : List Value := [.int .i64 s.1, .string s.2.1, s.2.2]
def evc (e : Ev) : List Value := [.int .i64 e.1, .string e.2]
/-- All that a store holds. -/
structure SV where
  tb : Nat
  rb : Nat
  xb : Nat
  slv : Value
  frv : Value
  evv : Value
  byt : Int
  bud : Int
  m : Nums
  n : Nat
  sl : List SlV
  fr : List Int
  ks : List ByteArray
  l : List DueP
  ev : List Ev
def storeC (s : SV) : List Value := [ptr s.tb, s.slv, s.frv, ptr s.rb, ptr s.xb, .int .i64 s.byt, .int .i64 s.bud, s.evv]
def fOf (v : Value) : Nat → Prop := fun b => v.ownBlock = some b
theorem RecRep.keep {w w' : World} {a : Nat} {ks : List ByteArray} {F G : Nat → Prop} (h : RecRep w a ks F) (u : Upd G w w') (hd : ∀ k, F k → ¬ G k) : RecRep w' a ks F := by
  obtain ⟨mb, L, bs, m, h, rfl, rfl⟩ := h; exact ⟨mb, L, bs, m, h.keep u hd, rfl, rfl⟩
theorem RecRep.lt {w : World} {a : Nat} {ks : List ByteArray} {F : Nat → Prop} (h : RecRep w a ks F) : ∀ k, F k → k < w.heap.size := by
  obtain ⟨mb, L, bs, m, h, rfl, rfl⟩ := h; exact h.lt
/-- The parts' blocks. -/
structure SRaw (w : World) (base sb : Nat) (s : SV) (F : Nat → Nat → Prop) : Prop where
  blk : Blk w sb (storeC s) 44
  tab : TabM w s.tb s.m s.n (F 1)
  slots : OwnN slc 3 31 w base s.slv s.sl
  free : IntsAt w base s.frv s.fr
  rcn : RecRep w s.rb s.ks (F 4)
  dues : ExpAt w base s.xb s.l (F 5)
  evs : OwnN evc 2 63 w base s.evv s.ev
  f0 : F 0 sb
  f2 : ∀ b, fOf s.slv b → F 2 b
  f3 : ∀ b, fOf s.frv b → F 3 b
  f6 : ∀ b, fOf s.evv b → F 6 b
  uniq : ∀ i j b, F i b → F j b → i = j
  lt : ∀ i b, F i b → base ≤ b ∧ b < w.heap.size
  bl : base ≤ w.heap.size
  std : Std w
  six : lowB ≤ base
def partTo (F : Nat → Nat → Prop) (i : Nat) (G : Nat → Prop) : Nat → Nat → Prop := fun j => if j = i then G else F j
section
variable {w w' : World} {base sb : Nat} {s : SV} {F : Nat → Nat → Prop} {X Y : Nat → Prop}
theorem partTo_at (F : Nat → Nat → Prop) (i : Nat) (G : Nat → Prop) : partTo F i G i = G := by unfold partTo; rw [if_pos rfl]
theorem partTo_ne (F : Nat → Nat → Prop) {i j : Nat} (G : Nat → Prop) (h : j ≠ i) : partTo F i G j = F j := by unfold partTo; rw [if_neg h]
theorem SRaw.off (h : SRaw w base sb s F) {i j : Nat} (hij : i ≠ j) {b : Nat} (hb : F i b) : ¬ F j b := fun g => hij (h.uniq i j b hb g)
theorem SRaw.kBlk (h : SRaw w base sb s F) {i : Nat} (hi : i ≠ 0) (u : Upd (F i) w w') : Blk w' sb (storeC s) 44 := u.blk h.blk (h.off (Ne.symm hi) h.f0)
theorem SRaw.kTab (h : SRaw w base sb s F) {i : Nat} (hi : i ≠ 1) (u : Upd (F i) w w') : TabM w' s.tb s.m s.n (F 1) := h.tab.keep u fun b hb => h.off (Ne.symm hi) hb
theorem SRaw.kSlots (h : SRaw w base sb s F) {i : Nat} (hi : i ≠ 2) (u : Upd (F i) w w') : OwnN slc 3 31 w' base s.slv s.sl := h.slots.keep u fun b hb => h.off (Ne.symm hi) (h.f2 b hb)
theorem SRaw.kFree (h : SRaw w base sb s F) {i : Nat} (hi : i ≠ 3) (u : Upd (F i) w w') : IntsAt w' base s.frv s.fr := h.free.keep u fun b hb => h.off (Ne.symm hi) (h.f3 b hb)
theorem SRaw.kRec (h : SRaw w base sb s F) {i : Nat} (hi : i ≠ 4) (u : Upd (F i) w w') : RecRep w' s.rb s.ks (F 4) := h.rcn.keep u fun b hb => h.off (Ne.symm hi) hb
theorem SRaw.kDues (h : SRaw w base sb s F) {i : Nat} (hi : i ≠ 5) (u : Upd (F i) w w') : ExpAt w' base s.xb s.l (F 5) := h.dues.keep u fun b hb => h.off (Ne.symm hi) hb
theorem SRaw.kEvs (h : SRaw w base sb s F) {i : Nat} (hi : i ≠ 6) (u : Upd (F i) w w') : OwnN evc 2 63 w' base s.evv s.ev := h.evs.keep u fun b hb => h.off (Ne.symm hi) (h.f6 b hb)
theorem SRaw.kStd (h : SRaw w base sb s F) {i : Nat} (u : Upd (F i) w w') : Std w' := h.std.keepB u fun k hk => Nat.le_trans h.six (h.lt i k hk).1
theorem SRaw.kStd2 (h : SRaw w base sb s F) {i : Nat} {w1 : World} (u : Upd (F i) w w1) (u2 : Upd (fun b => b = sb) w1 w') : Std w' := (h.kStd u).keepB u2 fun k hk => by rw [hk]; exact Nat.le_trans h.six (h.lt 0 sb h.f0).1
/-- The footprints' own laws, when one part is elsewhere now. -/
structure Fam (w w' : World) (base : Nat) (F : Nat → Nat → Prop) (i : Nat) (G : Nat → Prop) : Prop where
  fr : FromF (F i) G w
  lt : ∀ b, G b → base ≤ b ∧ b < w'.heap.size
theorem SRaw.fUniq (h : SRaw w base sb s F) {i : Nat} {G : Nat → Prop} (f : Fam w w' base F i G) : ∀ a j b, partTo F i G a b → partTo F i G j b → a = j := by
  intro a j b ha hj
  by_cases ea : a = i <;> by_cases ej : j = i
  · rw [ea, ej]
  · subst ea; rw [partTo_at] at ha; rw [partTo_ne _ _ ej] at hj
    rcases f.fr b ha with g | g
    · exact h.uniq _ _ b g hj
    · have := (h.lt j b hj).2; omega
  · subst ej; rw [partTo_at] at hj; rw [partTo_ne _ _ ea] at ha
    rcases f.fr b hj with g | g
    · exact h.uniq _ _ b ha g
    · have := (h.lt a b ha).2; omega
  · rw [partTo_ne _ _ ea] at ha; rw [partTo_ne _ _ ej] at hj; exact h.uniq _ _ b ha hj
theorem SRaw.fLt (h : SRaw w base sb s F) {i : Nat} {G : Nat → Prop} (f : Fam w w' base F i G) (hs : w.heap.size ≤ w'.heap.size) : ∀ a b, partTo F i G a b → base ≤ b ∧ b < w'.heap.size := by
  intro a b ha
  by_cases ea : a = i
  · subst ea; rw [partTo_at] at ha; exact f.lt b ha
  · rw [partTo_ne _ _ ea] at ha; have := h.lt a b ha; exact ⟨this.1, by omega⟩
theorem Fam.same (h : SRaw w base sb s F) (i : Nat) (hs : w.heap.size ≤ w'.heap.size) : Fam w w' base F i (F i) := ⟨fun b hb => Or.inl hb, fun b hb => by have := h.lt i b hb; exact ⟨this.1, by omega⟩⟩
theorem SRaw.famTo (h : SRaw w base sb s F) {i : Nat} {G : Nat → Prop} (f : FromF (F i) G w) (hl : ∀ b, G b → b < w'.heap.size) : Fam w w' base F i G :=
  ⟨f, fun b hb => ⟨by rcases f b hb with g | g; exact (h.lt i b g).1; exact Nat.le_trans h.bl g, hl b hb⟩⟩
theorem SRaw.tabTo (h : SRaw w base sb s F) {m' : Nums} {n' : Nat} {G : Nat → Prop} (t : TabM w' s.tb m' n' G) (u : Upd (F 1) w w') (f : FromF (F 1) G w) : SRaw w' base sb { s with m := m', n := n' } (partTo F 1 G) := by
  have fm := h.famTo (w' := w') f t.lt
  exact ⟨h.kBlk (by decide) u, t, h.kSlots (by decide) u, h.kFree (by decide) u, h.kRec (by decide) u, h.kDues (by decide) u, h.kEvs (by decide) u, h.f0, h.f2, h.f3, h.f6, h.fUniq fm, h.fLt fm u.size, Nat.le_trans h.bl u.size, h.kStd u, h.six⟩
theorem SRaw.recTo (h : SRaw w base sb s F) {ks' : List ByteArray} {G : Nat → Prop} (t : RecRep w' s.rb ks' G) (u : Upd (F 4) w w') (f : FromF (F 4) G w) : SRaw w' base sb { s with ks := ks' } (partTo F 4 G) := by
  have fm := h.famTo (w' := w') f t.lt
  exact ⟨h.kBlk (by decide) u, h.kTab (by decide) u, h.kSlots (by decide) u, h.kFree (by decide) u, t, h.kDues (by decide) u, h.kEvs (by decide) u, h.f0, h.f2, h.f3, h.f6, h.fUniq fm, h.fLt fm u.size, Nat.le_trans h.bl u.size, h.kStd u, h.six⟩
theorem SRaw.duesTo (h : SRaw w base sb s F) {l' : List DueP} {G : Nat → Prop} (t : ExpAt w' base s.xb l' G) (u : Upd (F 5) w w') (f : FromF (F 5) G w) : SRaw w' base sb { s with l := l' } (partTo F 5 G) := by
  have fm := h.famTo (w' := w') f t.lt
  exact ⟨h.kBlk (by decide) u, h.kTab (by decide) u, h.kSlots (by decide) u, h.kFree (by decide) u, h.kRec (by decide) u, t, h.kEvs (by decide) u, h.f0, h.f2, h.f3, h.f6, h.fUniq fm, h.fLt fm u.size, Nat.le_trans h.bl u.size, h.kStd u, h.six⟩
/-- A cell of the store itself is written: a part is another one, in another place. -/
theorem SRaw.slotsTo (h : SRaw w base sb s F) {v' : Value} {sl' : List SlV} {w1 : World} (t : OwnN slc 3 31 w1 base v' sl') (u : Upd (fOf s.slv) w w1) (nw : NewOr s.slv v' w)
    (u2 : Upd (fun b => b = sb) w1 w') (hB : Blk w' sb (storeC { s with slv := v', sl := sl' }) 44) : SRaw w' base sb { s with slv := v', sl := sl' } (partTo F 2 (fOf v')) := by
  have ut : Upd (F 2) w w1 := u.weaken fun b _ hb => h.f2 b hb
  have ne : ∀ j b, j ≠ 0 → F j b → ¬ b = sb := fun j b hj hb e => h.off hj hb (e ▸ h.f0)
  have hl : ∀ b, fOf v' b → b < w1.heap.size := fun b hb => (t.lt hb).2.1
  have f : FromF (F 2) (fOf v') w := fun b hb => (nw b hb).imp (h.f2 b) id
  have fm : Fam w w' base F 2 (fOf v') := h.famTo f fun b hb => Nat.lt_of_lt_of_le (hl b hb) u2.size
  have hsz := Nat.le_trans u.size u2.size
  have nv : ∀ b, fOf v' b → ¬ b = sb := fun b hb e => by
    rcases f b hb with g | g
    · exact ne 2 b (by decide) g e
    · have := h.blk.lt; omega
  exact ⟨hB, (h.kTab (by decide) ut).keep u2 fun b hb => ne 1 b (by decide) hb, t.keep u2 nv, (h.kFree (by decide) ut).keep u2 fun b hb => ne 3 b (by decide) (h.f3 b hb), (h.kRec (by decide) ut).keep u2 fun b hb => ne 4 b (by decide) hb, (h.kDues (by decide) ut).keep u2 fun b hb => ne 5 b (by decide) hb, (h.kEvs (by decide) ut).keep u2 fun b hb => ne 6 b (by decide) (h.f6 b hb), h.f0, fun b hb => hb, h.f3, h.f6, h.fUniq fm, h.fLt fm hsz, Nat.le_trans h.bl hsz, h.kStd2 ut u2, h.six⟩
theorem SRaw.freeTo (h : SRaw w base sb s F) {v' : Value} {fr' : List Int} {w1 : World} (t : IntsAt w1 base v' fr') (u : Upd (fOf s.frv) w w1) (nw : NewOr s.frv v' w)
    (u2 : Upd (fun b => b = sb) w1 w') (hB : Blk w' sb (storeC { s with frv := v', fr := fr' }) 44) : SRaw w' base sb { s with frv := v', fr := fr' } (partTo F 3 (fOf v')) := by
  have ut : Upd (F 3) w w1 := u.weaken fun b _ hb => h.f3 b hb
  have ne : ∀ j b, j ≠ 0 → F j b → ¬ b = sb := fun j b hj hb e => h.off hj hb (e ▸ h.f0)
  have hl : ∀ b, fOf v' b → b < w1.heap.size := fun b hb => (World.ownsRow.lt t b hb).2
  have f : FromF (F 3) (fOf v') w := fun b hb => (nw b hb).imp (h.f3 b) id
  have fm : Fam w w' base F 3 (fOf v') := h.famTo f fun b hb => Nat.lt_of_lt_of_le (hl b hb) u2.size
  have hsz := Nat.le_trans u.size u2.size
  have nv : ∀ b, fOf v' b → ¬ b = sb := fun b hb e => by
    rcases f b hb with g | g
    · exact ne 3 b (by decide) g e
    · have := h.blk.lt; omega
  exact ⟨hB, (h.kTab (by decide) ut).keep u2 fun b hb => ne 1 b (by decide) hb, (h.kSlots (by decide) ut).keep u2 fun b hb => ne 2 b (by decide) (h.f2 b hb), t.keep u2 nv, (h.kRec (by decide) ut).keep u2 fun b hb => ne 4 b (by decide) hb, (h.kDues (by decide) ut).keep u2 fun b hb => ne 5 b (by decide) hb, (h.kEvs (by decide) ut).keep u2 fun b hb => ne 6 b (by decide) (h.f6 b hb), h.f0, h.f2, fun b hb => hb, h.f6, h.fUniq fm, h.fLt fm hsz, Nat.le_trans h.bl hsz, h.kStd2 ut u2, h.six⟩
theorem SRaw.evsTo (h : SRaw w base sb s F) {v' : Value} {ev' : List Ev} {w1 : World} (t : OwnN evc 2 63 w1 base v' ev') (u : Upd (fOf s.evv) w w1) (nw : NewOr s.evv v' w)
    (u2 : Upd (fun b => b = sb) w1 w') (hB : Blk w' sb (storeC { s with evv := v', ev := ev' }) 44) : SRaw w' base sb { s with evv := v', ev := ev' } (partTo F 6 (fOf v')) := by
  have ut : Upd (F 6) w w1 := u.weaken fun b _ hb => h.f6 b hb
  have ne : ∀ j b, j ≠ 0 → F j b → ¬ b = sb := fun j b hj hb e => h.off hj hb (e ▸ h.f0)
  have hl : ∀ b, fOf v' b → b < w1.heap.size := fun b hb => (t.lt hb).2.1
  have f : FromF (F 6) (fOf v') w := fun b hb => (nw b hb).imp (h.f6 b) id
  have fm : Fam w w' base F 6 (fOf v') := h.famTo f fun b hb => Nat.lt_of_lt_of_le (hl b hb) u2.size
  have hsz := Nat.le_trans u.size u2.size
  have nv : ∀ b, fOf v' b → ¬ b = sb := fun b hb e => by
    rcases f b hb with g | g
    · exact ne 6 b (by decide) g e
    · have := h.blk.lt; omega
  exact ⟨hB, (h.kTab (by decide) ut).keep u2 fun b hb => ne 1 b (by decide) hb, (h.kSlots (by decide) ut).keep u2 fun b hb => ne 2 b (by decide) (h.f2 b hb), (h.kFree (by decide) ut).keep u2 fun b hb => ne 3 b (by decide) (h.f3 b hb), (h.kRec (by decide) ut).keep u2 fun b hb => ne 4 b (by decide) hb, (h.kDues (by decide) ut).keep u2 fun b hb => ne 5 b (by decide) hb, t.keep u2 nv, h.f0, h.f2, h.f3, fun b hb => hb, h.fUniq fm, h.fLt fm hsz, Nat.le_trans h.bl hsz, h.kStd2 ut u2, h.six⟩
/-- Slots are written in their place. -/
theorem SRaw.slotSet (h : SRaw w base sb s F) {sl' : List SlV} (t : OwnN slc 3 31 w' base s.slv sl') (u : Upd (fOf s.slv) w w') : SRaw w' base sb { s with sl := sl' } F := by
  have ut : Upd (F 2) w w' := u.weaken fun b _ hb => h.f2 b hb
  exact ⟨h.kBlk (by decide) ut, h.kTab (by decide) ut, t, h.kFree (by decide) ut, h.kRec (by decide) ut, h.kDues (by decide) ut, h.kEvs (by decide) ut, h.f0, h.f2, h.f3, h.f6, h.uniq, fun i b hb => by have := h.lt i b hb; have := u.size; exact ⟨by omega, by omega⟩, Nat.le_trans h.bl u.size, h.kStd ut, h.six⟩
/-- How many bytes is another number. -/
theorem SRaw.bytTo (h : SRaw w base sb s F) {x : Int} (u : Upd (fun b => b = sb) w w') (hB : Blk w' sb (storeC { s with byt := x }) 44) : SRaw w' base sb { s with byt := x } F := by
  have ut : Upd (F 0) w w' := u.weaken fun b _ hb => by rw [hb]; exact h.f0
  exact ⟨hB, h.kTab (by decide) ut, h.kSlots (by decide) ut, h.kFree (by decide) ut, h.kRec (by decide) ut, h.kDues (by decide) ut, h.kEvs (by decide) ut, h.f0, h.f2, h.f3, h.f6, h.uniq, fun i b hb => by have := h.lt i b hb; have := u.size; exact ⟨by omega, by omega⟩, Nat.le_trans h.bl u.size, h.kStd ut, h.six⟩
theorem SRaw.keepAll (h : SRaw w base sb s F) {G : Nat → Prop} (u : Upd G w w') (hd : ∀ i b, F i b → ¬ G b) (hst : Std w') : SRaw w' base sb s F :=
  ⟨u.blk h.blk (hd 0 _ h.f0), h.tab.keep u (hd 1), h.slots.keep u (fun b hb => hd 2 b (h.f2 b hb)), h.free.keep u (fun b hb => hd 3 b (h.f3 b hb)), h.rcn.keep u (hd 4), h.dues.keep u (hd 5), h.evs.keep u (fun b hb => hd 6 b (h.f6 b hb)), h.f0, h.f2, h.f3, h.f6, h.uniq, fun i b hb => by have := h.lt i b hb; have := u.size; exact ⟨by omega, by omega⟩, Nat.le_trans h.bl u.size, hst, h.six⟩
/-- From base on, but in none of X's blocks. -/
def Fr (base : Nat) (X : Nat → Prop) : Nat → Prop := fun b => base ≤ b ∧ ¬ X b
/-- The store in memory, beside the blocks of X. -/
def SMem (w : World) (base sb : Nat) (X : Nat → Prop) (s : SV) : Prop := ∃ F, SRaw w base sb s F ∧ (∀ i b, F i b → ¬ X b) ∧ ∀ b, X b → b < w.heap.size
theorem SMem.blk (h : SMem w base sb X s) : Blk w sb (storeC s) 44 := by obtain ⟨F, r, _⟩ := h; exact r.blk
theorem SMem.bl (h : SMem w base sb X s) : base ≤ w.heap.size := by obtain ⟨F, r, _⟩ := h; exact r.bl
theorem SMem.slots (h : SMem w base sb X s) : OwnN slc 3 31 w base s.slv s.sl := by obtain ⟨F, r, _⟩ := h; exact r.slots
theorem SMem.free (h : SMem w base sb X s) : IntsAt w base s.frv s.fr := by obtain ⟨F, r, _⟩ := h; exact r.free
theorem SMem.evs (h : SMem w base sb X s) : OwnN evc 2 63 w base s.evv s.ev := by obtain ⟨F, r, _⟩ := h; exact r.evs
theorem SMem.keepX (h : SMem w base sb X s) (u : Upd X w w') (h6 : ∀ b, X b → lowB ≤ b) : SMem w' base sb X s := by
  obtain ⟨F, r, d, x⟩ := h
  exact ⟨F, r.keepAll u d (r.std.keepB u h6), d, fun b hb => Nat.lt_of_lt_of_le (x b hb) u.size⟩
theorem SMem.keep0 (h : SMem w base sb X s) (u : Upd (fun _ => False) w w') : SMem w' base sb X s := by
  obtain ⟨F, r, d, x⟩ := h
  exact ⟨F, r.keepAll u (fun _ _ _ h => h) (r.std.keep u), d, fun b hb => Nat.lt_of_lt_of_le (x b hb) u.size⟩
theorem SMem.std (h : SMem w base sb X s) : Std w := by obtain ⟨F, r, _⟩ := h; exact r.std
theorem SMem.also (h : SMem w base sb X s) (u : Upd (fun _ => False) w w') (hY : ∀ b, Y b → X b ∨ (w.heap.size ≤ b ∧ b < w'.heap.size)) : SMem w' base sb Y s := by
  obtain ⟨F, r, d, x⟩ := h
  refine ⟨F, r.keepAll u (fun _ _ _ h => h) (r.std.keep u), fun i b hb hy => ?_, fun b hb => ?_⟩
  · rcases hY b hy with g | g
    · exact d i b hb g
    · have := (r.lt i b hb).2; omega
  · rcases hY b hb with g | g
    · exact Nat.lt_of_lt_of_le (x b g) u.size
    · exact g.2
theorem SMem.less (h : SMem w base sb X s) (hY : ∀ b, Y b → X b) : SMem w base sb Y s := h.also (Upd.refl _ _) fun b hb => Or.inl (hY b hb)
/-- How the parts' calls are taken. -/
def PartTo (w : World) (base sb : Nat) (X : Nat → Prop) (w' : World) (s' : SV) : Prop := SMem w' base sb X s' ∧ Upd (Fr base X) w w'
theorem SRaw.mk' {F' : Nat → Nat → Prop} {s' : SV} {i : Nat} {G : Nat → Prop} (h : SRaw w base sb s F) (d : ∀ i b, F i b → ¬ X b) (x : ∀ b, X b → b < w.heap.size) (h' : SRaw w' base sb s' (partTo F i G)) (f : FromF (F i) G w) (u : Upd (F i) w w') : PartTo w base sb X w' s' := by
  refine ⟨⟨_, h', fun j b hb hx => ?_, fun b hb => Nat.lt_of_lt_of_le (x b hb) u.size⟩, u.weaken fun b _ hb => ⟨(h.lt i b hb).1, d i b hb⟩⟩
  by_cases ej : j = i
  · subst ej; rw [partTo_at] at hb
    rcases f b hb with g | g
    · exact d _ b g hx
    · have := x b hx; omega
  · rw [partTo_ne _ _ ej] at hb; exact d j b hb hx
theorem SMem.tab (h : SMem w base sb X s) : ∃ E, TabM w s.tb s.m s.n E ∧ ∀ w' m' n' E', TabM w' s.tb m' n' E' → Upd E w w' → FromF E E' w → PartTo w base sb X w' { s with m := m', n := n' } := by
  obtain ⟨F, r, d, x⟩ := h
  exact ⟨F 1, r.tab, fun w' m' n' E' t u f => r.mk' (F' := F) d x (r.tabTo t u f) f u⟩
theorem SMem.rcn (h : SMem w base sb X s) : ∃ E, RecRep w s.rb s.ks E ∧ ∀ w' ks' E', RecRep w' s.rb ks' E' → Upd E w w' → FromF E E' w → PartTo w base sb X w' { s with ks := ks' } := by
  obtain ⟨F, r, d, x⟩ := h
  exact ⟨F 4, r.rcn, fun w' ks' E' t u f => r.mk' (F' := F) d x (r.recTo t u f) f u⟩
theorem SMem.dues (h : SMem w base sb X s) : ∃ E, ExpAt w base s.xb s.l E ∧ ∀ w' l' E', ExpAt w' base s.xb l' E' → Upd E w w' → FromF E E' w → PartTo w base sb X w' { s with l := l' } := by
  obtain ⟨F, r, d, x⟩ := h
  exact ⟨F 5, r.dues, fun w' l' E' t u f => r.mk' (F' := F) d x (r.duesTo t u f) f u⟩
theorem SRaw.mk2 {s' : SV} {i : Nat} {v v' : Value} {w1 : World} (h : SRaw w base sb s F) (d : ∀ i b, F i b → ¬ X b) (x : ∀ b, X b → b < w.heap.size) (h' : SRaw w' base sb s' (partTo F i (fOf v'))) (hv : ∀ b, fOf v b → F i b) (nw : NewOr v v' w) (u : Upd (fOf v) w w1) (u2 : Upd (fun b => b = sb) w1 w') : PartTo w base sb X w' s' := by
  have hsz := Nat.le_trans u.size u2.size
  refine ⟨⟨_, h', fun j b hb hx => ?_, fun b hb => Nat.lt_of_lt_of_le (x b hb) hsz⟩, ?_⟩
  · by_cases ej : j = i
    · subst ej; rw [partTo_at] at hb
      rcases nw b hb with g | g
      · exact d _ b (hv b g) hx
      · have := x b hx; omega
    · rw [partTo_ne _ _ ej] at hb; exact d j b hb hx
  · exact (u.weaken (F := Fr base X) fun b _ hb => ⟨(h.lt i b (hv b hb)).1, d i b (hv b hb)⟩).trans u2 fun b hb e => by rw [e]; exact ⟨(h.lt 0 sb h.f0).1, d 0 sb h.f0⟩
theorem SMem.slotsTo (h : SMem w base sb X s) {v' : Value} {sl' : List SlV} {w1 : World} (t : OwnN slc 3 31 w1 base v' sl') (u : Upd (fOf s.slv) w w1) (nw : NewOr s.slv v' w)
    (u2 : Upd (fun b => b = sb) w1 w') (hB : Blk w' sb (storeC { s with slv := v', sl := sl' }) 44) : PartTo w base sb X w' { s with slv := v', sl := sl' } := by
  obtain ⟨F, r, d, x⟩ := h; exact r.mk2 d x (r.slotsTo t u nw u2 hB) r.f2 nw u u2
theorem SMem.freeTo (h : SMem w base sb X s) {v' : Value} {fr' : List Int} {w1 : World} (t : IntsAt w1 base v' fr') (u : Upd (fOf s.frv) w w1) (nw : NewOr s.frv v' w)
    (u2 : Upd (fun b => b = sb) w1 w') (hB : Blk w' sb (storeC { s with frv := v', fr := fr' }) 44) : PartTo w base sb X w' { s with frv := v', fr := fr' } := by
  obtain ⟨F, r, d, x⟩ := h; exact r.mk2 d x (r.freeTo t u nw u2 hB) r.f3 nw u u2
theorem SMem.evsTo (h : SMem w base sb X s) {v' : Value} {ev' : List Ev} {w1 : World} (t : OwnN evc 2 63 w1 base v' ev') (u : Upd (fOf s.evv) w w1) (nw : NewOr s.evv v' w)
    (u2 : Upd (fun b => b = sb) w1 w') (hB : Blk w' sb (storeC { s with evv := v', ev := ev' }) 44) : PartTo w base sb X w' { s with evv := v', ev := ev' } := by
  obtain ⟨F, r, d, x⟩ := h; exact r.mk2 d x (r.evsTo t u nw u2 hB) r.f6 nw u u2
/-- The events go; where they lay belongs to X now. -/
theorem SMem.evsOff (h : SMem w base sb X s) (u2 : Upd (fun b => b = sb) w w') (hB : Blk w' sb (storeC { s with evv := .slice none 0 0, ev := [] }) 44) (hY : ∀ b, Y b → X b ∨ fOf s.evv b) : SMem w' base sb Y { s with evv := .slice none 0 0, ev := [] } ∧ Upd (Fr base X) w w' := by
  obtain ⟨F, r, d, x⟩ := h
  have t : OwnN evc 2 63 w base (.slice none 0 0) ([] : List Ev) := OwnN.none
  have nw : NewOr s.evv (.slice none 0 0) w := fun b hb => by cases hb
  have r2 := r.evsTo t (Upd.refl _ _) nw u2 hB
  refine ⟨⟨_, r2, fun j b hb hy => ?_, fun b hb => ?_⟩, (r.mk2 d x r2 r.f6 nw (Upd.refl _ _) u2).2⟩
  · by_cases ej : j = 6
    · subst ej; rw [partTo_at] at hb; cases hb
    · rw [partTo_ne _ _ ej] at hb
      rcases hY b hy with g | g
      · exact d j b hb g
      · exact ej (r.uniq j 6 b hb (r.f6 b g))
  · rcases hY b hb with g | g
    · exact Nat.lt_of_lt_of_le (x b g) u2.size
    · exact Nat.lt_of_lt_of_le (r.lt 6 b (r.f6 b g)).2 u2.size
theorem SMem.slotSet (h : SMem w base sb X s) {sl' : List SlV} (t : OwnN slc 3 31 w' base s.slv sl') (u : Upd (fOf s.slv) w w') : PartTo w base sb X w' { s with sl := sl' } := by
  obtain ⟨F, r, d, x⟩ := h
  exact ⟨⟨F, r.slotSet t u, d, fun b hb => Nat.lt_of_lt_of_le (x b hb) u.size⟩, u.weaken fun b _ hb => ⟨(r.lt 2 b (r.f2 b hb)).1, d 2 b (r.f2 b hb)⟩⟩
theorem SMem.bytTo (h : SMem w base sb X s) {x : Int} (u : Upd (fun b => b = sb) w w') (hB : Blk w' sb (storeC { s with byt := x }) 44) : PartTo w base sb X w' { s with byt := x } := by
  obtain ⟨F, r, d, y⟩ := h
  exact ⟨⟨F, r.bytTo u hB, d, fun b hb => Nat.lt_of_lt_of_le (y b hb) u.size⟩, u.weaken fun b _ hb => by rw [hb]; exact ⟨(r.lt 0 sb r.f0).1, d 0 sb r.f0⟩⟩
theorem Fr.trans {X : Nat → Prop} {a b c : World} (h : Upd (Fr base X) a b) (k : Upd (Fr base X) b c) : Upd (Fr base X) a c := h.trans k fun _ _ h => h
theorem Fr.sub {X Y : Nat → Prop} {a b : World} (h : Upd (Fr base X) a b) (hY : ∀ k, k < a.heap.size → Y k → X k) : Upd (Fr base Y) a b := h.weaken fun k hk hf => ⟨hf.1, fun hy => hf.2 (hY k hk hy)⟩
theorem Fr.of0 {X : Nat → Prop} {a b : World} (h : Upd (fun _ => False) a b) : Upd (Fr base X) a b := h.weaken fun _ _ h => h.elim
end
end Go.Proofs.YtgdenmddbgcacaaGreatDoor
/- The store beside other things: what its parts' calls do; how it stands for the plain one. -/
set_option linter.unusedVariables false
set_option linter.unusedSimpArgs false
set_option linter.unusedSectionVars false
namespace Go.Proofs.YtgdenmddbgcacaaGreatDoor
open Go.RowKit

section
variable {w w' : World} {base sb : Nat} {s : SV} {X Y : Nat → Prop}
theorem SMem.tget (h : SMem w base sb X s) (key : ByteArray) (hn : s.n ≤ 10000) (hk : key.size ≤ 100000) :
    Calls Tryz.prog 70 #[.pointer (some ⟨s.tb, 0, none⟩), .string key] w fun e w' => e = .returned (.tuple #[.int .i64 ((aget s.m key).getD 0), .bool (aget s.m key).isSome]) ∧ PartTo w base sb X w' s := by
  obtain ⟨E, t, k⟩ := h.tab
  refine (mget_any w s.tb s.n s.m E key t hn hk).mono ?_
  rintro e w' ⟨E', rfl, a, b, c⟩
  exact ⟨rfl, k w' _ _ _ a b c⟩
theorem SMem.tput (h : SMem w base sb X s) (key : ByteArray) (x : Int) (hn : s.n ≤ 10000) (hk : key.size ≤ 100000) :
    Calls Tryz.prog 50 #[.pointer (some ⟨s.tb, 0, none⟩), .string key, .int .i64 x] w fun e w' => ∃ b, e = .returned (.bool b) ∧ PartTo w base sb X w' { s with m := aset s.m key x, n := s.n + 1 } := by
  obtain ⟨E, t, k⟩ := h.tab
  refine (mput_any w s.tb s.n s.m E key x t hn hk).mono ?_
  rintro e w' ⟨r, E', rfl, a, b, c⟩
  exact ⟨r, rfl, k w' _ _ _ a b c⟩
theorem SMem.tdrop (h : SMem w base sb X s) (key : ByteArray) (hn : s.n ≤ 10000) (hk : key.size ≤ 100000) :
    Calls Tryz.prog 106 #[.pointer (some ⟨s.tb, 0, none⟩), .string key] w fun e w' => e = .returned (.tuple #[.int .i64 ((aget s.m key).getD 0), .bool (aget s.m key).isSome]) ∧ PartTo w base sb X w' { s with m := adel s.m key } := by
  obtain ⟨E, t, k⟩ := h.tab
  refine (mdrop_any w s.tb s.n s.m E key t hn hk).mono ?_
  rintro e w' ⟨E', rfl, a, b, c⟩
  exact ⟨rfl, k w' _ _ _ a b c⟩
theorem SMem.tclear (h : SMem w base sb X s) :
    Calls Tryz.prog 65 #[.pointer (some ⟨s.tb, 0, none⟩)] w fun e w' => e = .returned (.tuple #[]) ∧ PartTo w base sb X w' { s with m := [], n := 0 } := by
  obtain ⟨E, t, k⟩ := h.tab
  refine (mclear_any w s.tb s.n s.m E t).mono ?_
  rintro e w' ⟨E', rfl, a, b, c⟩
  exact ⟨rfl, k w' _ _ _ a b c⟩
theorem SMem.tkeys (h : SMem w base sb X s) (hn : s.n ≤ 10000) :
    Calls Tryz.prog 17 #[.pointer (some ⟨s.tb, 0, none⟩)] w fun e w' => ∃ v, e = .returned v ∧ StrsAt w' w.heap.size v (sortStr (akeys s.m)) ∧ Upd (fun _ => False) w w' := by
  obtain ⟨E, t, k⟩ := h.tab
  exact mkeys_any w s.tb s.n s.m E t hn
theorem SMem.tlen (h : SMem w base sb X s) (hn : s.n ≤ 10000) :
    Calls Tryz.prog 10 #[.pointer (some ⟨s.tb, 0, none⟩)] w fun e w' => e = .returned (.int .i64 (s.m.length : Int)) ∧ Upd (fun _ => False) w w' := by
  obtain ⟨E, t, k⟩ := h.tab
  exact mlen_any w s.tb s.n s.m E t hn
theorem SMem.rtouch (h : SMem w base sb X s) (key : ByteArray) :
    Calls Tryz.prog 51 #[.pointer (some ⟨s.rb, 0, none⟩), .string key] w fun e w' => e = .returned (.bool (!decide (key ∈ s.ks))) ∧ PartTo w base sb X w' { s with ks := touched s.ks key } := by
  obtain ⟨E, t, k⟩ := h.rcn
  refine (touch_any s.rb s.ks E key w t).mono ?_
  rintro e w' ⟨rfl, E', a, b, c⟩
  exact ⟨rfl, k w' _ _ a b c⟩
theorem SMem.rdrop (h : SMem w base sb X s) (key : ByteArray) :
    Calls Tryz.prog 107 #[.pointer (some ⟨s.rb, 0, none⟩), .string key] w fun e w' => e = .returned (.bool (decide (key ∈ s.ks))) ∧ PartTo w base sb X w' { s with ks := s.ks.erase key } := by
  obtain ⟨E, t, k⟩ := h.rcn
  refine (rdrop_any s.rb s.ks E key w t).mono ?_
  rintro e w' ⟨rfl, E', a, b, c⟩
  exact ⟨rfl, k w' _ _ a b c⟩
theorem SMem.rclear (h : SMem w base sb X s) :
    Calls Tryz.prog 56 #[.pointer (some ⟨s.rb, 0, none⟩)] w fun e w' => e = .returned (.tuple #[]) ∧ PartTo w base sb X w' { s with ks := [] } := by
  obtain ⟨E, t, k⟩ := h.rcn
  refine (clear_any s.rb s.ks E w t).mono ?_
  rintro e w' ⟨rfl, E', a, b, c⟩
  exact ⟨rfl, k w' _ _ a b c⟩
theorem SMem.roldest (h : SMem w base sb X s) (but : ByteArray) :
    Calls Tryz.prog 82 #[.pointer (some ⟨s.rb, 0, none⟩), .string but] w fun e w' => e = .returned (.tuple #[.string (oldest but s.ks).1, .bool (oldest but s.ks).2]) ∧ ∃ n, w' = w.drewN n := by
  obtain ⟨E, t, k⟩ := h.rcn
  exact oldest_any s.rb s.ks E but w t
theorem SMem.xget (h : SMem w base sb X s) (key : ByteArray) :
    Calls Tryz.prog 63 #[.pointer (some ⟨s.xb, 0, none⟩), .string key] w fun e w' => e = .returned (.tuple #[.int .i64 (getV s.l key).1, .bool (getV s.l key).2]) ∧ w' = w := by
  obtain ⟨E, t, k⟩ := h.dues
  exact xget_any w base s.xb s.l E key t
theorem SMem.xput (h : SMem w base sb X s) (key : ByteArray) (t : Int) (hl : s.l.length ≤ 10000) (ht0 : 0 ≤ t) (ht1 : t ≤ 4611686018427387904) :
    Calls Tryz.prog 62 #[.pointer (some ⟨s.xb, 0, none⟩), .string key, .int .i64 t] w fun e w' => e = .returned (.int .i64 0) ∧ PartTo w base sb X w' { s with l := putD key t s.l } := by
  obtain ⟨E, x, k⟩ := h.dues
  refine (xput_any w base s.xb s.l E key t x h.bl hl ht0 ht1).mono ?_
  rintro e w' ⟨rfl, E', a, b, c⟩
  exact ⟨rfl, k w' _ _ a b c⟩
theorem SMem.xdrop (h : SMem w base sb X s) (key : ByteArray) (hl : s.l.length ≤ 10000) :
    Calls Tryz.prog 52 #[.pointer (some ⟨s.xb, 0, none⟩), .string key] w fun e w' => e = .returned (.bool (decide (key ∈ s.l.map (·.2)))) ∧ PartTo w base sb X w' { s with l := dropD key s.l } := by
  obtain ⟨E, x, k⟩ := h.dues
  refine (xdrop_any w base s.xb s.l E key x hl).mono ?_
  rintro e w' ⟨rfl, E', a, b, c⟩
  exact ⟨rfl, k w' _ _ a b c⟩
theorem SMem.xclear (h : SMem w base sb X s) :
    Calls Tryz.prog 66 #[.pointer (some ⟨s.xb, 0, none⟩)] w fun e w' => e = .returned (.tuple #[]) ∧ PartTo w base sb X w' { s with l := [] } := by
  obtain ⟨E, x, k⟩ := h.dues
  refine (xclear_any w base s.xb s.l E x).mono ?_
  rintro e w' ⟨rfl, E', a, b, c⟩
  exact ⟨rfl, k w' _ _ a b c⟩
theorem SMem.xdue (h : SMem w base sb X s) (now most : Int) (hl : s.l.length ≤ 10000) :
    Calls Tryz.prog 64 #[.pointer (some ⟨s.xb, 0, none⟩), .int .i64 now, .int .i64 most] w fun e w' => ∃ v, e = .returned v ∧ StrsAt w' w.heap.size v (((dueD now s.l).take most.toNat).map (·.2)) ∧ SMem w' base sb (fun b => X b ∨ fOf v b) s ∧ Upd (Fr base X) w w' := by
  obtain ⟨F, r, d, x⟩ := h
  refine (xdue_any w base s.xb s.l (F 5) now most r.dues r.bl hl).mono ?_
  rintro e w' ⟨v, rfl, hs, E', a, b, c⟩
  obtain ⟨⟨F0, r2, d2, x2⟩, u2⟩ : PartTo w base sb X w' s := r.mk' (F' := F) d x (r.duesTo a b c) c b
  have r3 := r.duesTo a b c
  refine ⟨v, rfl, hs, ⟨_, r3, fun j k hj hk => ?_, fun k hk => ?_⟩, u2⟩
  · by_cases ej : j = 5
    · subst ej; rw [partTo_at] at hj
      rcases hk with g | g
      · rcases c k hj with g2 | g2
        · exact d _ k g2 g
        · have := x k g; omega
      · exact a.apart hs (by decide) (by decide) (by decide) k g hj
    · rw [partTo_ne _ _ ej] at hj
      rcases hk with g | g
      · exact d j k hj g
      · have := (r.lt j k hj).2
        have := (World.ownsRow.lt hs k g).1
        omega
  · rcases hk with g | g
    · exact Nat.lt_of_lt_of_le (x k g) u2.size
    · exact (World.ownsRow.lt hs k g).2
end

/-- Fields that lie in blocks of Y. -/
def FldAt (w : World) (Y : Nat → Prop) (v : Value) (l : List Fd) : Prop := RowOf fdc 2 w v l ∧ (l = [] ∨ ∀ b, v.ownBlock = some b → Y b)
theorem FldAt.keep {w w' : World} {Y G : Nat → Prop} {v : Value} {l : List Fd} (h : FldAt w Y v l) (u : Upd G w w') (hd : ∀ b, Y b → ¬ G b) : FldAt w' Y v l := by
  refine ⟨?_, h.2⟩
  rcases h.2 with e | g
  · subst e; exact h.1.nilTo
  · exact h.1.keep u fun b _ hb => hd b (g b hb)
theorem FldAt.to {w : World} {Y Z : Nat → Prop} {v : Value} {l : List Fd} (h : FldAt w Y v l) (hz : ∀ b, Y b → Z b) : FldAt w Z v l :=
  ⟨h.1, h.2.imp id fun g b hb => hz b (g b hb)⟩
/-- What a store holds stands for the plain one; its items' fields lie in Y. -/
structure SRel (w : World) (Y : Nat → Prop) (s : SV) (S : PS) : Prop where
  ok : POk S
  km : ∀ k, (aget s.m k).isSome = decide (k ∈ keysC S.cells)
  nd : (akeys s.m).Nodup
  at_ : ∀ c ∈ S.cells, ∃ (i : Nat) (v : Value), aget s.m c.key = some (i : Int) ∧ s.sl[i]? = some (c.item.kind, c.item.text, v) ∧ FldAt w Y v c.item.flds
  inj : ∀ k k' i, aget s.m k = some i → aget s.m k' = some i → k = k'
  frOk : ∀ i ∈ s.fr, ∃ j : Nat, i = (j : Int) ∧ j < s.sl.length ∧ ∀ k, aget s.m k ≠ some i
  frnd : s.fr.Nodup
  ks : s.ks = keysC S.cells
  l : s.l = duesC S.cells
  byt : s.byt = bytesC S.cells
  bud : s.bud = S.budget
  ev : s.ev = S.events
  sln : s.sl.length ≤ s.n
  cln : S.cells.length ≤ s.n
def Or2 (X Z : Nat → Prop) : Nat → Prop := fun b => X b ∨ Z b
/-- A store that stands for the plain one, beside the blocks of X, behind N puts at most. -/
def SSt (w : World) (base sb : Nat) (X : Nat → Prop) (S : PS) (N : Nat) : Prop := ∃ s Z, SMem w base sb (Or2 X Z) s ∧ (∀ b, Z b → ¬ X b) ∧ SRel w Z s S ∧ s.n ≤ N
section
variable {w w' : World} {base sb : Nat} {s : SV} {X Y Z : Nat → Prop} {S : PS} {N : Nat}
theorem SRel.keep {G : Nat → Prop} (h : SRel w Y s S) (u : Upd G w w') (hd : ∀ b, Y b → ¬ G b) : SRel w' Y s S :=
  { h with at_ := fun c hc => let ⟨i, v, a, b, f⟩ := h.at_ c hc; ⟨i, v, a, b, f.keep u hd⟩ }
theorem SRel.keepF (h : SRel w Y s S) (u : Upd (Fr base (Or2 X Y)) w w') : SRel w' Y s S := h.keep u fun b hb g => g.2 (Or.inr hb)
theorem SRel.keep0 (h : SRel w Y s S) (u : Upd (fun _ => False) w w') : SRel w' Y s S := h.keep u fun b hb g => g
theorem SRel.to (h : SRel w Y s S) (hz : ∀ b, Y b → Z b) : SRel w Z s S :=
  { h with at_ := fun c hc => let ⟨i, v, a, b, f⟩ := h.at_ c hc; ⟨i, v, a, b, f.to hz⟩ }
theorem SRel.fr_len (h : SRel w Y s S) : s.fr.length ≤ s.sl.length := by
  have : (s.fr.map Int.toNat).Nodup := by
    rw [List.nodup_iff_pairwise_ne, List.pairwise_map]
    refine List.Pairwise.imp_of_mem (fun {a b} ha hb hab e => ?_) (List.nodup_iff_pairwise_ne.1 h.frnd)
    obtain ⟨i, rfl, _⟩ := h.frOk a ha
    obtain ⟨j, rfl, _⟩ := h.frOk b hb
    exact hab (by simp at e; rw [e])
  have := subset_len (m := List.range s.sl.length) this fun x hx => by
    obtain ⟨a, ha, rfl⟩ := List.mem_map.1 hx
    obtain ⟨j, rfl, hj, _⟩ := h.frOk a ha
    simpa using hj
  simpa using this
theorem SRel.l_len (h : SRel w Y s S) : s.l.length ≤ s.n := by rw [h.l]; exact Nat.le_trans (duesC_len _) h.cln
theorem SRel.get_none (h : SRel w Y s S) {k : ByteArray} (hk : k ∉ keysC S.cells) : aget s.m k = none := by
  have := h.km k
  rw [decide_eq_false hk] at this
  cases hg : aget s.m k with
  | none => rfl
  | some i => rw [hg] at this; cases this
theorem SRel.get_some (h : SRel w Y s S) {k : ByteArray} (hk : k ∈ keysC S.cells) : ∃ c, lookC S.cells k = some c ∧ c ∈ S.cells ∧ c.key = k ∧ ∃ (i : Nat) (v : Value), aget s.m k = some (i : Int) ∧ s.sl[i]? = some (c.item.kind, c.item.text, v) ∧ FldAt w Y v c.item.flds := by
  obtain ⟨c, hc, rfl⟩ := List.mem_map.1 hk
  obtain ⟨i, v, a, b, f⟩ := h.at_ c hc
  exact ⟨c, lookC_of h.ok.nd hc, hc, rfl, i, v, a, b, f⟩
theorem SRel.byt_range (h : SRel w Y s S) (hn : s.n ≤ 10000) : 0 ≤ s.byt ∧ s.byt ≤ 3000000000000 := by
  rw [h.byt]
  have h1 := bytesC_nonneg S.cells
  have h2 := bytesC_le (l := S.cells) fun c hc => ⟨small_of_right (h.ok.small c hc).1, by have := (h.ok.small c hc).2; omega⟩
  have h3 := h.cln
  exact ⟨h1, by omega⟩
theorem SRel.mlen (h : SRel w Y s S) : s.m.length = S.cells.length := by
  have hp : (akeys s.m).Perm (keysC S.cells) := (List.perm_ext_iff_of_nodup h.nd h.ok.nd).2 fun k => by
    have := h.km k
    rw [Bool.eq_iff_iff, decide_eq_true_eq] at this
    rw [← this]
    cases hk : aget s.m k with
    | none => simp [aget_none.1 hk]
    | some b => simp; exact Decidable.not_not.1 fun hh => by rw [aget_none.2 hh] at hk; cases hk
  have := hp.length_eq
  simpa [akeys, keysC] using this
theorem SRel.mkeys (h : SRel w Y s S) : sortStr (akeys s.m) = sortStr (keysC S.cells) := sortStr_congr ((List.perm_ext_iff_of_nodup h.nd h.ok.nd).2 fun k => by
    have := h.km k
    rw [Bool.eq_iff_iff, decide_eq_true_eq] at this
    rw [← this]
    cases hk : aget s.m k with
    | none => simp [aget_none.1 hk]
    | some b => simp; exact Decidable.not_not.1 fun hh => by rw [aget_none.2 hh] at hk; cases hk)
/-- When a key ends, as the dues have it. -/
theorem SRel.getV (h : SRel w Y s S) (k : ByteArray) : Go.Proofs.YtgdenmddbgcacaaGreatDoor.getV s.l k = (match lookC S.cells k with | none => (0, false) | some c => if 0 ≤ c.when then (c.when, true) else (0, false)) := by
  unfold Go.Proofs.YtgdenmddbgcacaaGreatDoor.getV
  rw [h.l]
  cases hf : (duesC S.cells).find? (fun d => decide (d.2 = k)) with
  | none =>
    rw [List.find?_eq_none] at hf
    cases hl : lookC S.cells k with
    | none => rfl
    | some c =>
      obtain ⟨h1, rfl⟩ := lookC_some hl
      simp only
      rw [if_neg]
      intro g
      have := hf (c.when, c.key) (duesC_mem.2 ⟨c, h1, g, rfl⟩)
      simp at this
  | some d =>
    have h1 := List.mem_of_find?_eq_some hf
    have h2 := List.find?_some hf
    obtain ⟨c, hc, g, rfl⟩ := duesC_mem.1 h1
    simp only [decide_eq_true_eq] at h2
    subst h2
    rw [lookC_of h.ok.nd hc]
    simp only
    rw [if_pos g]
/-- A key goes: what the parts hold behind it. -/
theorem SRel.del (h : SRel w Y s S) {k : ByteArray} (hk : k ∈ keysC S.cells) {i : Nat} (hi : aget s.m k = some (i : Int)) {z : SlV} {ev : List Ev} {cost : Int} (hc : ∀ c, lookC S.cells k = some c → cost = costI k c.item) :
    SRel w Y { s with m := adel s.m k, byt := s.byt - cost, sl := s.sl.set i z, fr := s.fr ++ [(i : Int)], ks := s.ks.erase k, l := dropD k s.l, ev := ev } { S with cells := delC S.cells k, events := ev } := by
  obtain ⟨c0, hl0, hc0, rfl, i0, v0, a0, b0, f0⟩ := h.get_some hk
  have ei : i0 = i := by rw [a0] at hi; have := Option.some.inj hi; omega
  subst ei
  refine ⟨h.ok.sub (fun c hc => (delC_mem.1 hc).1) (delC_nd h.ok.nd _), fun k' => ?_, nodup_adel h.nd _, fun c hc => ?_, fun k1 k2 j h1 h2 => ?_, fun j hj => ?_, ?_, ?_, ?_, ?_, h.bud, rfl, ?_, ?_⟩
  · show (aget (adel s.m c0.key) k').isSome = decide (k' ∈ keysC (delC S.cells c0.key))
    rw [aget_adel h.nd, ← lookC_isSome, lookC_delC]
    by_cases e : c0.key = k'
    · subst e; simp
    · have e2 : ¬ k' = c0.key := fun g => e g.symm
      rw [if_neg e, if_neg e2, h.km, ← lookC_isSome]
  · obtain ⟨h1, h2⟩ := delC_mem.1 hc
    obtain ⟨j, v, a, b, f⟩ := h.at_ c h1
    have hne : j ≠ i0 := by
      rintro rfl
      exact h2 (h.inj _ _ _ a a0)
    refine ⟨j, v, ?_, ?_, f⟩
    · show aget (adel s.m c0.key) c.key = _
      rw [aget_adel h.nd, if_neg (fun e => h2 e.symm)]; exact a
    · show (s.sl.set i0 z)[j]? = _
      rw [List.getElem?_set_ne hne.symm]; exact b
  · simp only [aget_adel h.nd] at h1 h2
    split at h1
    · cases h1
    · split at h2
      · cases h2
      · exact h.inj _ _ _ h1 h2
  · show ∃ n : Nat, j = (n : Int) ∧ n < (s.sl.set i0 z).length ∧ ∀ k, aget (adel s.m c0.key) k ≠ some j
    rw [List.length_set]
    rcases List.mem_append.1 hj with g | g
    · obtain ⟨n, e, hn, hq⟩ := h.frOk j g
      refine ⟨n, e, hn, fun k' hk' => ?_⟩
      rw [aget_adel h.nd] at hk'
      split at hk'
      · cases hk'
      · exact hq k' hk'
    · obtain rfl := List.mem_singleton.1 g
      refine ⟨i0, rfl, (List.getElem?_eq_some_iff.1 b0).1, fun k' hk' => ?_⟩
      rw [aget_adel h.nd] at hk'
      split at hk'
      · cases hk'
      · next hne => exact hne (h.inj _ _ _ a0 hk')
  · show (s.fr ++ [(i0 : Int)]).Nodup
    rw [List.nodup_append]
    refine ⟨h.frnd, by simp, fun a ha b hb e => ?_⟩
    obtain rfl := List.mem_singleton.1 hb
    subst e
    obtain ⟨n, e, hn, hq⟩ := h.frOk _ ha
    exact hq _ a0
  · show s.ks.erase c0.key = _
    rw [h.ks, delC_erase h.ok.nd]
  · show dropD c0.key s.l = _
    rw [h.l, duesC_del h.ok.nd]
  · show s.byt - cost = _
    rw [bytesC_del h.ok.nd hc0, h.byt, hc c0 hl0]
  · show (s.sl.set i0 z).length ≤ s.n
    rw [List.length_set]; exact h.sln
  · exact Nat.le_trans (delC_len _ _) h.cln
theorem SSt.ok (h : SSt w base sb X S N) : POk S := by obtain ⟨s, Z, m, hx, r, hn⟩ := h; exact r.ok
theorem SSt.bl (h : SSt w base sb X S N) : base ≤ w.heap.size := by obtain ⟨s, Z, m, hx, r, hn⟩ := h; exact m.bl
theorem SSt.more (h : SSt w base sb X S N) {N' : Nat} (hN : N ≤ N') : SSt w base sb X S N' := by obtain ⟨s, Z, m, hx, r, hn⟩ := h; exact ⟨s, Z, m, hx, r, Nat.le_trans hn hN⟩
theorem SSt.keepG {G : Nat → Prop} (h : SSt w base sb X S N) (u : Upd G w w') (hG : ∀ b, G b → X b ∧ lowB ≤ b) : SSt w' base sb X S N := by
  obtain ⟨s, Z, ⟨F, m, d, x⟩, hx, r, hn⟩ := h
  exact ⟨s, Z, ⟨F, m.keepAll u (fun i b hb hg => d i b hb (Or.inl (hG b hg).1)) (m.std.keepB u fun b hb => (hG b hb).2), d, fun b hb => Nat.lt_of_lt_of_le (x b hb) u.size⟩, hx, r.keep u (fun b hb hg => hx b hb (hG b hg).1), hn⟩
theorem SSt.keep0 (h : SSt w base sb X S N) (u : Upd (fun _ => False) w w') : SSt w' base sb X S N := h.keepG u fun _ h => h.elim
theorem SSt.std (h : SSt w base sb X S N) : Std w := by obtain ⟨s, Z, m, _⟩ := h; exact m.std
theorem SSt.lt (h : SSt w base sb X S N) : ∀ b, X b → b < w.heap.size := by
  obtain ⟨s, Z, ⟨F, m, d, x⟩, hx, r, hn⟩ := h
  exact fun b hb => x b (Or.inl hb)
theorem SMem.xlt (h : SMem w base sb X s) : ∀ b, X b → b < w.heap.size := by
  obtain ⟨F, m, d, x⟩ := h; exact x
theorem SSt.also (h : SSt w base sb X S N) (u : Upd (fun _ => False) w w') (hY : ∀ b, Y b → X b ∨ (w.heap.size ≤ b ∧ b < w'.heap.size)) : SSt w' base sb Y S N := by
  obtain ⟨s, Z, m, hx, r, hn⟩ := h
  refine ⟨s, Z, m.also u fun b hb => ?_, fun b hb hy => ?_, r.keep0 u, hn⟩
  · rcases hb with g | g
    · rcases hY b g with g | g
      · exact Or.inl (Or.inl g)
      · exact Or.inr g
    · exact Or.inl (Or.inr g)
  · rcases hY b hy with g | g
    · exact hx b hb g
    · have := m.xlt b (Or.inr hb); omega
theorem SSt.less (h : SSt w base sb X S N) (hY : ∀ b, Y b → X b) : SSt w base sb Y S N := h.also (Upd.refl _ _) fun b hb => Or.inl (hY b hb)
theorem SSt.blk (h : SSt w base sb X S N) : ∃ s, Blk w sb (storeC s) 44 ∧ s.byt = bytesC S.cells ∧ s.bud = S.budget := by
  obtain ⟨s, Z, m, hx, r, hn⟩ := h
  exact ⟨s, m.blk, r.byt, r.bud⟩
end
end Go.Proofs.YtgdenmddbgcacaaGreatDoor
