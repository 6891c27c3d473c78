/- A ring of links, plain: keys between the one ahead and the next. -/
import Derived.Test.YtcdihffcncaibaaDoorK01
import Derived.Test.YtcdihffcncaibaaDoorChecked
import Derived.RegionTactic
import Derived.ChangeAlike
import Derived.BigRegion
import Derived.Test.YtcdihffcncaibaaDoorK02
set_option linter.unusedVariables false
set_option linter.unusedSimpArgs false
namespace Ring

structure Lk where
  key : ByteArray
  ahead : Nat
  next : Nat
def setNext (G : Nat → Lk) (x y : Nat) : Nat → Lk := fun b => if b = x then { G b with next := y } else G b
def setAhead (G : Nat → Lk) (x y : Nat) : Nat → Lk := fun b => if b = x then { G b with ahead := y } else G b
@[simp] theorem setNext_key (G : Nat → Lk) (x y b : Nat) : (setNext G x y b).key = (G b).key := by unfold setNext; split <;> rfl
@[simp] theorem setAhead_key (G : Nat → Lk) (x y b : Nat) : (setAhead G x y b).key = (G b).key := by unfold setAhead; split <;> rfl
@[simp] theorem setNext_ahead (G : Nat → Lk) (x y b : Nat) : (setNext G x y b).ahead = (G b).ahead := by unfold setNext; split <;> rfl
@[simp] theorem setAhead_next (G : Nat → Lk) (x y b : Nat) : (setAhead G x y b).next = (G b).next := by unfold setAhead; split <;> rfl
theorem setNext_next (G : Nat → Lk) (x y b : Nat) : (setNext G x y b).next = if b = x then y else (G b).next := by unfold setNext; split <;> rfl
theorem setAhead_ahead (G : Nat → Lk) (x y b : Nat) : (setAhead G x y b).ahead = if b = x then y else (G b).ahead := by unfold setAhead; split <;> rfl

/-- From x over the blocks of l to z, each next to the one ahead of it. -/
def chain (G : Nat → Lk) (x : Nat) : List Nat → Nat → Prop
  | [], z => (G x).next = z ∧ (G z).ahead = x
  | b :: r, z => (G x).next = b ∧ (G b).ahead = x ∧ chain G b r z
theorem chain_app {G : Nat → Lk} {x z b : Nat} {l r : List Nat} : chain G x (l ++ b :: r) z ↔ chain G x l b ∧ chain G b r z := by
  induction l generalizing x with
  | nil => simp only [List.nil_append, chain]; constructor
           · rintro ⟨h1, h2, h3⟩; exact ⟨⟨h1, h2⟩, h3⟩
           · rintro ⟨⟨h1, h2⟩, h3⟩; exact ⟨h1, h2, h3⟩
  | cons c l ih => simp only [List.cons_append, chain, ih]; constructor
                   · rintro ⟨h1, h2, h3, h4⟩; exact ⟨⟨h1, h2, h3⟩, h4⟩
                   · rintro ⟨⟨h1, h2, h3⟩, h4⟩; exact ⟨h1, h2, h3, h4⟩
/-- What is first, what is last. -/
def first (l : List Nat) (z : Nat) : Nat := l.headD z
def last (x : Nat) (l : List Nat) : Nat := l.getLastD x
theorem chain_next {G : Nat → Lk} {x z : Nat} {l : List Nat} (h : chain G x l z) : (G x).next = first l z := by
  cases l with
  | nil => exact h.1
  | cons b r => exact h.1
theorem chain_ahead {G : Nat → Lk} {x z : Nat} {l : List Nat} (h : chain G x l z) : (G z).ahead = last x l := by
  induction l generalizing x with
  | nil => exact h.2
  | cons b r ih =>
    rw [ih h.2.2]
    cases r <;> rfl
theorem chain_congr {G H : Nat → Lk} {x z : Nat} {l : List Nat} (h : chain G x l z) (hx : (H x).next = (G x).next) (hz : (H z).ahead = (G z).ahead) (hl : ∀ b ∈ l, (H b).next = (G b).next ∧ (H b).ahead = (G b).ahead) : chain H x l z := by
  induction l generalizing x with
  | nil => exact ⟨hx.trans h.1, hz.trans h.2⟩
  | cons b r ih =>
    have := hl b (by simp)
    exact ⟨hx.trans h.1, this.2.trans h.2.1, ih h.2.2 this.1 (fun c hc => hl c (by simp [hc]))⟩
/-- The end of a chain is turned to another block. -/
theorem chain_end {G : Nat → Lk} {x z z' : Nat} {l : List Nat} (h : chain G x l z) (hn : (x :: l).Nodup) (hz : z' ∉ l) :
    chain (setAhead (setNext G (last x l) z') z' (last x l)) x l z' := by
  induction l generalizing x with
  | nil => simp [chain, last, setNext_next, setAhead_ahead]
  | cons b r ih =>
    simp only [List.mem_cons, not_or] at hz
    have hn2 : (b :: r).Nodup := (List.nodup_cons.1 hn).2
    have hl : last x (b :: r) = last b r := by cases r <;> rfl
    have hin : last b r ∈ b :: r := by
      unfold last; rw [List.getLastD_eq_getLast?]
      cases hr : r.getLast? with
      | none => simp
      | some c => simp [List.mem_of_getLast? hr]
    have hne : x ≠ last b r := fun e => (List.nodup_cons.1 hn).1 (by rw [e]; exact hin)
    rw [hl]
    refine ⟨?_, ?_, ih h.2.2 hn2 hz.2⟩
    · simp only [setAhead_next, setNext_next, if_neg hne]; exact h.1
    · simp only [setAhead_ahead, setNext_ahead, if_neg (Ne.symm hz.1)]; exact h.2.1
theorem last_app (x b : Nat) (l r : List Nat) : last x (l ++ b :: r) = last b r := by
  unfold last; rw [List.getLastD_eq_getLast?, List.getLastD_eq_getLast?]; simp [List.getLast?_append, List.getLast?_cons]
theorem last_mem (x : Nat) (l : List Nat) : last x l ∈ x :: l := by
  unfold last; rw [List.getLastD_eq_getLast?]
  cases hr : l.getLast? with
  | none => simp
  | some c => simp [List.mem_of_getLast? hr]
theorem first_mem (z : Nat) (l : List Nat) : first l z ∈ z :: l := by
  unfold first; cases l <;> simp
/-- a link leaves the ring -/
theorem chain_out0 {G : Nat → Lk} {a b : Nat} {l r : List Nat} (h : chain G a (l ++ b :: r) a) (hn : (a :: (l ++ b :: r)).Nodup) :
    chain (setAhead (setNext G (G b).ahead (G b).next) (G b).next (G b).ahead) a (l ++ r) a := by
  obtain ⟨h1, h2⟩ := chain_app.1 h
  rw [chain_ahead h1, chain_next h2]
  have hn1 : (a :: l).Nodup := by
    have := hn.sublist (l₁ := a :: l) (by simp)
    exact this
  cases r with
  | nil =>
    rw [List.append_nil]
    exact chain_end h1 hn1 (fun hm => (List.nodup_cons.1 hn).1 (List.mem_append_left _ hm))
  | cons c r =>
    have hcl : c ∉ l := fun hm => by
      have := (List.nodup_append.1 (List.nodup_cons.1 hn).2).2.2 c hm c (by simp)
      exact this rfl
    rw [chain_app]
    refine ⟨chain_end h1 hn1 hcl, ?_⟩
    have h3 := h2.2.2
    have hcr : c ∉ r := fun hm => by
      have := (List.nodup_append.1 (List.nodup_cons.1 hn).2).2.1
      simp only [List.nodup_cons, List.mem_cons, not_or] at this
      exact this.2.1 hm
    have hlr : ∀ x ∈ c :: r, last a l ≠ x := fun x hx e => by
      have hm := last_mem a l
      rw [e, List.mem_cons] at hm
      rcases hm with rfl | hm
      · exact (List.nodup_cons.1 hn).1 (List.mem_append_right _ (List.mem_cons_of_mem _ hx))
      · have := (List.nodup_append.1 (List.nodup_cons.1 hn).2).2.2 x hm x (List.mem_cons_of_mem _ hx)
        exact this rfl
    refine chain_congr h3 ?_ ?_ ?_
    · simp only [first, List.headD_cons, setAhead_next, setNext_next, if_neg (Ne.symm (hlr c (by simp)))]
    · have : a ≠ c := fun e => (List.nodup_cons.1 hn).1 (by simp [e])
      simp only [first, List.headD_cons, setAhead_ahead, if_neg this, setNext_ahead]
    · intro x hx
      have h5 := hlr x (by simp [hx])
      have h6 : x ≠ c := fun e => hcr (e ▸ hx)
      simp only [first, List.headD_cons, setAhead_next, setNext_next, if_neg (Ne.symm h5), setAhead_ahead, if_neg h6, setNext_ahead, and_self]
/-- a link is the last one -/
theorem chain_last {G : Nat → Lk} {a b : Nat} {l : List Nat} (h : chain G a l a) (hn : (a :: l).Nodup) (hb : b ∉ a :: l) :
    chain (setAhead (setNext (setNext (setAhead G b (G a).ahead) b a) (G a).ahead b) a b) a (l ++ [b]) a := by
  simp only [List.mem_cons, not_or] at hb
  rw [chain_app, chain_ahead h]
  have hlb : last a l ≠ b := fun e => by
    have := last_mem a l
    rw [e, List.mem_cons] at this
    rcases this with g | g
    · exact hb.1 g
    · exact hb.2 g
  constructor
  · have h1 := chain_end (z' := b) h hn hb.2
    refine chain_congr h1 ?_ ?_ ?_
    · by_cases e : a = last a l
      · simp only [setAhead_next, setNext_next, if_pos e]
      · simp only [setAhead_next, setNext_next, if_neg e, if_neg (Ne.symm hb.1)]
    · simp only [setAhead_ahead, if_neg hb.1, setNext_ahead, if_true]
    · intro x hx
      have e1 : x ≠ b := fun e => hb.2 (e ▸ hx)
      have e2 : x ≠ a := fun e => (List.nodup_cons.1 hn).1 (e ▸ hx)
      simp only [setAhead_next, setNext_next, setAhead_ahead, setNext_ahead, if_neg e1, if_neg e2, and_self]
  · simp only [chain, setAhead_next, setNext_next, setAhead_ahead, if_neg (Ne.symm hlb), if_true, and_self]
theorem chain_out {G : Nat → Lk} {a b : Nat} {l r : List Nat} (h : chain G a (l ++ b :: r) a) (hn : (a :: (l ++ b :: r)).Nodup) :
    (G b).ahead ∈ a :: (l ++ r) ∧ (G b).next ∈ a :: (l ++ r) := by
  obtain ⟨h1, h2⟩ := chain_app.1 h
  rw [chain_ahead h1, chain_next h2]
  constructor
  · have := last_mem a l
    simp only [List.mem_cons, List.mem_append] at this ⊢
    rcases this with h | h
    · exact Or.inl h
    · exact Or.inr (Or.inl h)
  · have := first_mem a r
    simp only [List.mem_cons, List.mem_append] at this ⊢
    rcases this with h | h
    · exact Or.inl h
    · exact Or.inr (Or.inr h)
/-- one more block's link -/
def put (G : Nat → Lk) (b : Nat) (k : ByteArray) (x y : Nat) : Nat → Lk := fun i => if i = b then ⟨k, x, y⟩ else G i
theorem put_at (G : Nat → Lk) (b : Nat) (k : ByteArray) (x y : Nat) : put G b k x y b = ⟨k, x, y⟩ := by unfold put; rw [if_pos rfl]
theorem put_ne (G : Nat → Lk) {b i : Nat} (k : ByteArray) (x y : Nat) (h : i ≠ b) : put G b k x y i = G i := by unfold put; rw [if_neg h]
/-- The ring with the link b as the last one. -/
def withLast (G : Nat → Lk) (a b : Nat) (k : ByteArray) : Nat → Lk := setAhead (setNext (put G b k (G a).ahead a) (G a).ahead b) a b
theorem chain_with {G : Nat → Lk} {a b : Nat} {k : ByteArray} {l : List Nat} (h : chain G a l a) (hn : (a :: l).Nodup) (hb : b ∉ a :: l) : chain (withLast G a b k) a (l ++ [b]) a := by
  have h2 := chain_last h hn hb
  have e : ∀ i, (withLast G a b k i).next = (setAhead (setNext (setNext (setAhead G b (G a).ahead) b a) (G a).ahead b) a b i).next ∧ (withLast G a b k i).ahead = (setAhead (setNext (setNext (setAhead G b (G a).ahead) b a) (G a).ahead b) a b i).ahead := by
    intro i
    unfold withLast
    by_cases hi : i = b
    · subst hi; simp [setAhead_next, setNext_next, setAhead_ahead, put_at]
    · simp [setAhead_next, setNext_next, setAhead_ahead, put_ne G k _ _ hi, hi]
  exact chain_congr h2 (e _).1 (e _).2 (fun b _ => e b)
theorem with_key_at (G : Nat → Lk) (a b : Nat) (k : ByteArray) : (withLast G a b k b).key = k := by unfold withLast; simp [put_at]
theorem with_key (G : Nat → Lk) {a b i : Nat} (k : ByteArray) (h : i ≠ b) : (withLast G a b k i).key = (G i).key := by unfold withLast; simp [put_ne G k _ _ h]
/-- The ring without the link b. -/
def without (G : Nat → Lk) (b : Nat) : Nat → Lk := setAhead (setNext G (G b).ahead (G b).next) (G b).next (G b).ahead
theorem without_key (G : Nat → Lk) (b i : Nat) : (without G b i).key = (G i).key := by unfold without; simp
theorem chain_without {G : Nat → Lk} {a b : Nat} {l r : List Nat} (h : chain G a (l ++ b :: r) a) (hn : (a :: (l ++ b :: r)).Nodup) : chain (without G b) a (l ++ r) a := chain_out0 h hn
end Ring
/- The ring in memory, and the walks that turn links. -/
set_option linter.unusedVariables false
set_option linter.unusedSimpArgs false
set_option maxRecDepth 100000
namespace Go.Proofs.YtcdihffcncaibaaDoor
open Go.RowKit
open Ring (Lk setNext setAhead chain)

def linkc (x : Lk) : List Value := [.string x.key, ptr x.ahead, ptr x.next]
def nodec (a mb : Nat) (G : Nat → Lk) (b : Nat) : List Value := linkc (G b) ++ (if b = a then [.map (some mb)] else [])
def nodet (a b : Nat) : TypeId := if b = a then 74 else 71
def Nodes (w : World) (a mb : Nat) (G : Nat → Lk) (S : List Nat) : Prop := ∀ b ∈ S, Blk w b (nodec a mb G b) (nodet a b)

section
variable {w : World} {a mb : Nat} {G : Nat → Lk} {S : List Nat}
theorem Nodes.keep {w' : World} {F : Nat → Prop} (h : Nodes w a mb G S) (u : Upd F w w') (hF : ∀ b ∈ S, ¬ F b) : Nodes w' a mb G S := fun b hb => u.blk (h b hb) (hF b hb)
theorem Nodes.setNext (h : Nodes w a mb G S) (x y : Nat) : Nodes (w.setCell ⟨x, 2, none⟩ (ptr y)) a mb (setNext G x y) S := fun b hb => by
  by_cases e : b = x
  · subst e
    have := (h b hb).set 2 (ptr y)
    have e : (nodec a mb G b).set 2 (ptr y) = nodec a mb (Ring.setNext G b y) b := by simp [nodec, linkc, Ring.setNext]
    rw [e] at this; exact this
  · have := (h b hb).set_other (b' := x) (o := 2) (v := ptr y) e
    have e : nodec a mb G b = nodec a mb (Ring.setNext G x y) b := by simp [nodec, linkc, Ring.setNext, e]
    rw [e] at this; exact this
theorem Nodes.setAhead (h : Nodes w a mb G S) (x y : Nat) : Nodes (w.setCell ⟨x, 1, none⟩ (ptr y)) a mb (setAhead G x y) S := fun b hb => by
  by_cases e : b = x
  · subst e
    have := (h b hb).set 1 (ptr y)
    have e : (nodec a mb G b).set 1 (ptr y) = nodec a mb (Ring.setAhead G b y) b := by simp [nodec, linkc, Ring.setAhead]
    rw [e] at this; exact this
  · have := (h b hb).set_other (b' := x) (o := 1) (v := ptr y) e
    have e : nodec a mb G b = nodec a mb (Ring.setAhead G x y) b := by simp [nodec, linkc, Ring.setAhead, e]
    rw [e] at this; exact this
theorem Nodes.drew (h : Nodes w a mb G S) : Nodes w.drew a mb G S := fun b hb => (h b hb).drew
theorem Nodes.drewN (h : Nodes w a mb G S) (n : Nat) : Nodes (w.drewN n) a mb G S := fun b hb => (h b hb).drewN n
theorem Nodes.alloc (h : Nodes w a mb G S) (o : Obj) : Nodes (w.alloc o) a mb G S := fun b hb => (h b hb).alloc o
theorem Nodes.c0 (h : Nodes w a mb G S) {b : Nat} (hb : b ∈ S) : w.cell? ⟨b, 0, none⟩ = some (.string (G b).key) := (h b hb).cellAt (by simp [nodec, linkc])
theorem Nodes.c1 (h : Nodes w a mb G S) {b : Nat} (hb : b ∈ S) : w.cell? ⟨b, 1, none⟩ = some (.pointer (some ⟨(G b).ahead, 0, none⟩)) := (h b hb).cellAt (by simp [nodec, linkc, ptr])
theorem Nodes.c2 (h : Nodes w a mb G S) {b : Nat} (hb : b ∈ S) : w.cell? ⟨b, 2, none⟩ = some (.pointer (some ⟨(G b).next, 0, none⟩)) := (h b hb).cellAt (by simp [nodec, linkc, ptr])
theorem Nodes.c3 (h : Nodes w a mb G S) (hb : a ∈ S) : w.cell? ⟨a, 3, none⟩ = some (.map (some mb)) := (h a hb).cellAt (by simp [nodec, linkc])
theorem Nodes.fr (h : Nodes w a mb G S) {b : Nat} (hb : b ∈ S) (i : Nat) : w.frozen? ⟨b, i, none⟩ = false := (h b hb).free i
end

set_option maxHeartbeats 1000000 in
theorem out_any (a mb : Nat) (G : Nat → Lk) (S : List Nat) (b : Nat) (w : World) (h : Nodes w a mb G S) (hb : b ∈ S) (hx : (G b).ahead ∈ S) (hy : (G b).next ∈ S) :
    Calls Tryd.prog 41 #[.pointer (some ⟨b, 0, none⟩)] w fun e w' => e = .returned (.tuple #[]) ∧ Nodes w' a mb (Ring.without G b) S ∧ Upd (fun k => k = (G b).ahead ∨ k = (G b).next) w w' := by
  unfold Ring.without
  have c1 := h.c1 hb
  have c2 := h.c2 hb
  have d1 := h.c2 hx
  have d2 := h.c1 hy
  have f1 := h.fr hx 2
  have f2 := h.fr hy 1
  have H := Lib.hid h
  clear h
  generalize (G b).ahead = x at *
  generalize (G b).next = y at *
  go_enter Tryd.func41, Tryd.ntmps41
  go_region
  go_end0
  exact ⟨rfl, ((H.out.setNext x y).setAhead y x).drew, (((Upd.refl (fun k => k = x ∨ k = y) w).set (fun _ => Or.inl rfl)).set (fun _ => Or.inr rfl)).drew⟩

set_option maxHeartbeats 1000000 in
theorem last_any (a mb : Nat) (G : Nat → Lk) (S : List Nat) (b : Nat) (k : ByteArray) (v1 v2 : Value) (w : World) (h : Nodes w a mb G S) (hB : Blk w b [.string k, v1, v2] 71) (ha : a ∈ S) (hb : b ∉ S) (hx : (G a).ahead ∈ S) :
    Calls Tryd.prog 42 #[.pointer (some ⟨a, 0, none⟩), .pointer (some ⟨b, 0, none⟩)] w fun e w' => e = .returned (.tuple #[]) ∧
      Nodes w' a mb (Ring.withLast G a b k) (b :: S) ∧ Upd (fun k => k = a ∨ k = b ∨ k = (G a).ahead) w w' := by
  have hba : b ≠ a := fun e => hb (e ▸ ha)
  have hbx : (G a).ahead ≠ b := fun e => hb (e ▸ hx)
  have c1 := h.c1 ha
  have d1 : w.cell? ⟨b, 1, none⟩ = some v1 := hB.cellAt rfl
  have d2 : w.cell? ⟨b, 2, none⟩ = some v2 := hB.cellAt rfl
  have f1 := hB.free 1
  have f2 := hB.free 2
  have e1 := h.c2 hx
  have f3 := h.fr hx 2
  have f4 := h.fr ha 1
  have H := Lib.hid h
  have HB := Lib.hid hB
  unfold Ring.withLast
  clear h hB
  generalize (G a).ahead = x at *
  go_enter Tryd.func42, Tryd.ntmps42
  go_wp2
  go_region
  obtain ⟨w2, E⟩ : ∃ w2, ((w.setCell ⟨b, 1, none⟩ (.pointer (some ⟨x, 0, none⟩))).setCell ⟨b, 2, none⟩ (.pointer (some ⟨a, 0, none⟩))).drew = w2 := ⟨_, rfl⟩
  rw [E]
  have h2 : Nodes w2 a mb (Ring.put G b k x a) (b :: S) := by
    rw [← E]
    intro i hi
    rcases List.mem_cons.1 hi with rfl | hi
    · have := ((HB.out.set 1 (ptr x)).set 2 (ptr a)).drew
      have en : nodec a mb (Ring.put G i k x a) i = [.string k, ptr x, ptr a] := by simp [nodec, linkc, Ring.put_at, hba]
      have et : nodet a i = 71 := by simp [nodet, hba]
      rw [en, et]; exact this
    · have hne : i ≠ b := fun e => hb (e ▸ hi)
      have := (((H.out i hi).set_other (o := 1) (v := ptr x) hne).set_other (o := 2) (v := ptr a) hne).drew
      have en : nodec a mb (Ring.put G b k x a) i = nodec a mb G i := by simp [nodec, Ring.put_ne G k x a hne]
      rw [en]; exact this
  have u2 : Upd (fun k => k = a ∨ k = b ∨ k = x) w w2 := E ▸ (((Upd.refl (fun k => k = a ∨ k = b ∨ k = x) w).set (fun _ => Or.inr (Or.inl rfl))).set (fun _ => Or.inr (Or.inl rfl))).drew
  have g1 := h2.c1 (b := b) (by simp)
  have g2 := h2.c2 (b := b) (by simp)
  have g3 := h2.c2 (b := x) (by simp [hx])
  have g4 := h2.c1 (b := a) (by simp [ha])
  have f5 := h2.fr (b := x) (by simp [hx]) 2
  have f6 := h2.fr (b := a) (by simp [ha]) 1
  rw [Ring.put_at] at g1 g2
  have H2 := Lib.hid h2
  have U2 := Lib.hid u2
  clear c1 d1 d2 f1 f2 e1 f3 f4 E h2 u2
  go_wp2
  go_region
  go_end0
  exact ⟨rfl, ((H2.out.setNext x b).setAhead a b).drew, ((U2.out.set (fun _ => Or.inr (Or.inr rfl))).set (fun _ => Or.inl rfl)).drew⟩
end Go.Proofs.YtcdihffcncaibaaDoor
/- Walks: what was used last, and what longest ago. -/
set_option linter.unusedVariables false
set_option linter.unusedSimpArgs false
set_option maxRecDepth 100000
namespace Go.Proofs.YtcdihffcncaibaaDoor
open Go.RowKit
open Ring (Lk setNext setAhead chain)

/-- In block a lies what is recent: the ring's blocks bs, their links G, and the map m of keys. -/
structure RecAt (w : World) (a mb : Nat) (G : Nat → Lk) (bs : List Nat) (m : List (ByteArray × Nat)) : Prop where
  nodes : Nodes w a mb G (a :: bs)
  root : (G a).key = ByteArray.empty
  map : MapAt strEnc w mb (pm m)
  ring : chain G a bs a
  nd : (a :: bs).Nodup
  mne : mb ∉ a :: bs
  mnd : (akeys m).Nodup
  mem : ∀ k b, aget m k = some b ↔ b ∈ bs ∧ (G b).key = k
def recF (a mb : Nat) (bs : List Nat) : Nat → Prop := fun k => k = a ∨ k = mb ∨ k ∈ bs
def keysOfG (G : Nat → Lk) (bs : List Nat) : List ByteArray := bs.map fun b => (G b).key
/-- In block a lies what is recent: the keys ks, the one used longest ago first; it takes the blocks F. -/
def RecRep (w : World) (a : Nat) (ks : List ByteArray) (F : Nat → Prop) : Prop := ∃ mb G bs m, RecAt w a mb G bs m ∧ ks = keysOfG G bs ∧ F = recF a mb bs
section
variable {w : World} {a mb : Nat} {G : Nat → Lk} {bs : List Nat} {m : List (ByteArray × Nat)}
theorem RecAt.keep {w' : World} {F : Nat → Prop} (h : RecAt w a mb G bs m) (u : Upd F w w') (hF : ∀ k, recF a mb bs k → ¬ F k) : RecAt w' a mb G bs m :=
  ⟨h.nodes.keep u (fun b hb => hF b (by rcases List.mem_cons.1 hb with rfl | hb; exact Or.inl rfl; exact Or.inr (Or.inr hb))), h.root, h.map.keep u (hF _ (Or.inr (Or.inl rfl))), h.ring, h.nd, h.mne, h.mnd, h.mem⟩
theorem RecAt.lt (h : RecAt w a mb G bs m) : ∀ k, recF a mb bs k → k < w.heap.size := by
  rintro k (rfl | rfl | hk)
  · exact (h.nodes _ (by simp)).lt
  · exact h.map.lt
  · exact (h.nodes _ (by simp [hk])).lt
theorem RecAt.knd (h : RecAt w a mb G bs m) : (keysOfG G bs).Nodup := by
  unfold keysOfG
  have hn := (List.nodup_cons.1 h.nd).2
  have inj : ∀ x ∈ bs, ∀ y ∈ bs, (G x).key = (G y).key → x = y := fun x hx y hy e => by
    have h1 := (h.mem (G x).key x).2 ⟨hx, rfl⟩
    have h2 := (h.mem (G x).key y).2 ⟨hy, e.symm⟩
    rw [h1] at h2; exact Option.some.inj h2
  clear h
  induction bs with
  | nil => simp
  | cons b r ih =>
    rw [List.map_cons, List.nodup_cons]
    obtain ⟨n1, n2⟩ := List.nodup_cons.1 hn
    refine ⟨fun hm => ?_, ih n2 (fun x hx y hy e => inj x (by simp [hx]) y (by simp [hy]) e)⟩
    obtain ⟨c, hc, e⟩ := List.mem_map.1 hm
    exact n1 (inj c (by simp [hc]) b (by simp) e ▸ hc)
theorem RecAt.key_mem (h : RecAt w a mb G bs m) (k : ByteArray) : (aget m k).isSome = decide (k ∈ keysOfG G bs) := by
  rw [Bool.eq_iff_iff, decide_eq_true_eq]
  unfold keysOfG
  rw [List.mem_map]
  constructor
  · intro hs
    obtain ⟨b, hb⟩ := Option.isSome_iff_exists.1 hs
    obtain ⟨h1, h2⟩ := (h.mem k b).1 hb
    exact ⟨b, h1, h2⟩
  · rintro ⟨b, hb, e⟩
    rw [(h.mem k b).2 ⟨hb, e⟩]; rfl
theorem RecAt.mlen (h : RecAt w a mb G bs m) : m.length = bs.length := by
  have e1 : (akeys m).length = (keysOfG G bs).length := by
    refine List.Perm.length_eq ((List.perm_ext_iff_of_nodup h.mnd h.knd).2 fun k => ?_)
    have := h.key_mem k
    rw [Bool.eq_iff_iff, decide_eq_true_eq] at this
    rw [← this]
    cases hk : aget m k with
    | none => simp [aget_none.1 hk]
    | some b => simp; exact Decidable.not_not.1 fun hh => by rw [aget_none.2 hh] at hk; cases hk
  simpa [akeys, keysOfG] using e1
theorem zeroP (w : World) : (zeroValue 69).run Tryd.prog w = .ok (.pointer none) w := Tryd.zeroValue69 w
theorem RecAt.look (h : RecAt w a mb G bs m) (key : ByteArray) (co : Bool) :
    (Instr.lookup 72 (.map (some mb)) (.string key) co).run Tryd.prog w = .ok (if co then .tuple #[lv (aget m key), .bool (aget m key).isSome] else lv (aget m key)) w := by
  have := h.map.look keyS Tryd.underlying72 (zeroP w) key co
  refine Eq.trans this ?_
  rw [pm_get]
  cases aget m key <;> rfl
end

theorem rlen_any (a : Nat) (ks : List ByteArray) (F : Nat → Prop) (w : World) (h : RecRep w a ks F) (hl : ks.length ≤ 9223372036854775807) :
    Calls Tryd.prog 101 #[.pointer (some ⟨a, 0, none⟩)] w fun e w' => e = .returned (.int .i64 (ks.length : Int)) ∧ w' = w := by
  obtain ⟨mb, G, bs, m, h, rfl, rfl⟩ := h
  have c3 := h.nodes.c3 (by simp)
  have e : (pm m).length = (keysOfG G bs).length := by rw [pm_len, h.mlen]; simp [keysOfG]
  have ln := h.map.len 3 Tryd.underlying72 (by omega)
  rw [e] at ln
  clear h e
  go_enter Tryd.func101, Tryd.ntmps101
  go_wp2
  go_ret
  exact ⟨rfl, rfl⟩

/-- From one state to the next: what was written, what is new. -/
def RecTo (w w' : World) (a : Nat) (F : Nat → Prop) (ks' : List ByteArray) : Prop := ∃ F', RecRep w' a ks' F' ∧ Upd F w w' ∧ FromF F F' w
theorem keysOf_app (G : Nat → Lk) (l r : List Nat) : keysOfG G (l ++ r) = keysOfG G l ++ keysOfG G r := by simp [keysOfG]
theorem keysOf_congr {G H : Nat → Lk} {l : List Nat} (h : ∀ b ∈ l, (G b).key = (H b).key) : keysOfG G l = keysOfG H l := List.map_congr_left h
theorem keysOf_mem {G : Nat → Lk} {bs : List Nat} {k : ByteArray} : k ∈ keysOfG G bs ↔ ∃ b ∈ bs, (G b).key = k := by unfold keysOfG; exact List.mem_map
theorem erase_mid {l r : List ByteArray} {k : ByteArray} (h : (l ++ k :: r).Nodup) : (l ++ k :: r).erase k = l ++ r := by
  have hk : k ∉ l := fun hm => (List.nodup_append.1 h).2.2 k hm k (by simp) rfl
  rw [List.erase_append_right _ hk, List.erase_cons_head]

section
variable {w : World} {a mb : Nat} {G : Nat → Lk} {bs : List Nat} {m : List (ByteArray × Nat)}
/-- A key that is there: its block, and those ahead of it and behind. -/
theorem RecAt.split (h : RecAt w a mb G bs m) {key : ByteArray} {b : Nat} (hk : aget m key = some b) : ∃ l r, bs = l ++ b :: r ∧ (G b).key = key ∧ (keysOfG G bs).erase key = keysOfG G (l ++ r) := by
  obtain ⟨h1, h2⟩ := (h.mem key b).1 hk
  obtain ⟨l, r, rfl⟩ := List.append_of_mem h1
  refine ⟨l, r, rfl, h2, ?_⟩
  have hn := h.knd
  have e : keysOfG G (l ++ b :: r) = keysOfG G l ++ key :: keysOfG G r := by rw [keysOf_app]; simp [keysOfG, h2]
  rw [e] at hn ⊢
  rw [erase_mid hn, keysOf_app]
/-- The state without a key. -/
theorem RecAt.cut (h : RecAt w a mb G bs m) {w' : World} {key : ByteArray} {b : Nat} {l r : List Nat} (hk : aget m key = some b) (hb : bs = l ++ b :: r)
    (hN : Nodes w' a mb (Ring.without G b) (a :: (l ++ r))) (hM : MapAt strEnc w' mb (pm (adel m key))) : RecAt w' a mb (Ring.without G b) (l ++ r) (adel m key) := by
  have hkey := ((h.mem key b).1 hk).2
  subst hb
  have nd2 : (a :: (l ++ r)).Nodup := h.nd.sublist (by simp)
  have hmem : ∀ x, x ∈ l ++ r ↔ x ∈ l ++ b :: r ∧ x ≠ b := by
    intro x
    have hn := (List.nodup_cons.1 h.nd).2
    simp only [List.mem_append, List.mem_cons]
    have h1 := (List.nodup_append.1 hn)
    have hbr := (List.nodup_cons.1 h1.2.1).1
    constructor
    · rintro (hx | hx)
      · exact ⟨Or.inl hx, fun e => h1.2.2 x hx b (by simp) e⟩
      · exact ⟨Or.inr (Or.inr hx), fun e => hbr (e ▸ hx)⟩
    · rintro ⟨hx | hx | hx, hne⟩
      · exact Or.inl hx
      · exact absurd hx hne
      · exact Or.inr hx
  refine ⟨hN, by rw [Ring.without_key]; exact h.root, hM, Ring.chain_without h.ring h.nd, nd2, fun hm => h.mne ?_, nodup_adel h.mnd key, fun k c => ?_⟩
  · rcases List.mem_cons.1 hm with e | hm
    · simp [e]
    · have := (hmem mb).1 hm; exact List.mem_cons_of_mem _ this.1
  · rw [aget_adel h.mnd, Ring.without_key]
    by_cases e : key = k
    · rw [if_pos e]
      constructor
      · intro h; cases h
      · rintro ⟨h1, h2⟩
        obtain ⟨h3, h4⟩ := (hmem c).1 h1
        have := (h.mem k c).2 ⟨h3, h2⟩
        rw [← e, hk] at this
        exact absurd (Option.some.inj this).symm h4
    · rw [if_neg e, h.mem k c, hmem c]
      constructor
      · rintro ⟨h1, h2⟩; exact ⟨⟨h1, fun hc => e (by rw [← h2, hc, hkey])⟩, h2⟩
      · rintro ⟨⟨h1, _⟩, h2⟩; exact ⟨h1, h2⟩
/-- The state with a key more, the last one. -/
theorem RecAt.more (h : RecAt w a mb G bs m) {w' : World} {key : ByteArray} {b : Nat} (hk : aget m key = none) (hb : b ∉ a :: bs) (hbm : b ≠ mb)
    (hN : Nodes w' a mb (Ring.withLast G a b key) (b :: a :: bs)) (hM : MapAt strEnc w' mb (pm (aset m key b))) : RecAt w' a mb (Ring.withLast G a b key) (bs ++ [b]) (aset m key b) := by
  refine ⟨fun x hx => hN x ?_, ?_, hM, Ring.chain_with h.ring h.nd hb, ?_, ?_, nodup_aset h.mnd key b, fun k c => ?_⟩
  · simp only [List.mem_cons, List.mem_append] at hx ⊢; rcases hx with h | h | h
    · exact Or.inr (Or.inl h)
    · exact Or.inr (Or.inr h)
    · simp at h; exact Or.inl h
  · rw [Ring.with_key G key (fun e => hb (by simp [e]))]; exact h.root
  · have := h.nd
    simp only [List.nodup_cons, List.mem_cons, not_or, List.mem_append, List.nodup_append, List.not_mem_nil, or_false] at this hb ⊢
    refine ⟨⟨this.1, fun e => hb.1 e.symm⟩, this.2, by simp, ?_⟩
    intro x hx y hy e
    exact hb.2 (hy ▸ e ▸ hx)
  · have := h.mne
    simp only [List.mem_cons, not_or, List.mem_append, List.not_mem_nil, or_false] at this ⊢
    exact ⟨this.1, this.2, fun e => hbm e.symm⟩
  · rw [aget_aset]
    have kc : c ∈ bs → (Ring.withLast G a b key c).key = (G c).key := fun hc => Ring.with_key G key (fun e => hb (by simp [← e, hc]))
    by_cases e : key = k
    · subst e
      rw [if_pos rfl, Option.some.injEq]
      constructor
      · rintro rfl; exact ⟨by simp, Ring.with_key_at G a b key⟩
      · rintro ⟨h1, h2⟩
        simp only [List.mem_append, List.mem_cons, List.not_mem_nil, or_false] at h1
        rcases h1 with h1 | h1
        · rw [kc h1] at h2
          have := (h.mem key c).2 ⟨h1, h2⟩
          rw [hk] at this; cases this
        · exact h1.symm
    · rw [if_neg e, h.mem k c]
      constructor
      · rintro ⟨h1, h2⟩; exact ⟨by simp [h1], by rw [kc h1]; exact h2⟩
      · rintro ⟨h1, h2⟩
        simp only [List.mem_append, List.mem_cons, List.not_mem_nil, or_false] at h1
        rcases h1 with h1 | rfl
        · rw [kc h1] at h2; exact ⟨h1, h2⟩
        · rw [Ring.with_key_at] at h2; exact absurd h2 e
/-- The state with a key that was there, now the last one. -/
theorem RecAt.moved (h : RecAt w a mb G bs m) {w' : World} {key : ByteArray} {b : Nat} {l r : List Nat} (hk : aget m key = some b) (hb : bs = l ++ b :: r)
    (hN : Nodes w' a mb (Ring.withLast (Ring.without G b) a b key) (b :: a :: (l ++ r))) (hM : MapAt strEnc w' mb (pm m)) : RecAt w' a mb (Ring.withLast (Ring.without G b) a b key) (l ++ r ++ [b]) m := by
  have hkey := ((h.mem key b).1 hk).2
  subst hb
  have hp : (l ++ r ++ [b]).Perm (l ++ b :: r) := by
    rw [List.append_assoc]; exact List.Perm.append_left _ (List.perm_append_singleton b r)
  have nd2 : (a :: (l ++ r)).Nodup := h.nd.sublist (by simp)
  have hbn : b ∉ a :: (l ++ r) := by
    have : (a :: (l ++ r ++ [b])).Nodup := (hp.cons a).nodup_iff.2 h.nd
    intro hm
    rw [show a :: (l ++ r ++ [b]) = (a :: (l ++ r)) ++ [b] by simp] at this
    exact (List.nodup_append.1 this).2.2 b hm b (by simp) rfl
  have kk : ∀ c, (Ring.withLast (Ring.without G b) a b key c).key = (G c).key := fun c => by
    by_cases e : c = b
    · rw [e, Ring.with_key_at, hkey]
    · rw [Ring.with_key _ _ e, Ring.without_key]
  refine ⟨fun x hx => hN x ?_, by rw [kk]; exact h.root, hM, Ring.chain_with (Ring.chain_without h.ring h.nd) nd2 hbn, (hp.cons a).nodup_iff.2 h.nd, fun hm => h.mne ?_, h.mnd, fun k c => ?_⟩
  · simp only [List.mem_cons, List.mem_append, List.not_mem_nil, or_false] at hx ⊢
    rcases hx with h | (h | h) | h
    · exact Or.inr (Or.inl h)
    · exact Or.inr (Or.inr (Or.inl h))
    · exact Or.inr (Or.inr (Or.inr h))
    · exact Or.inl h
  · rcases List.mem_cons.1 hm with e | hm
    · simp [e]
    · exact List.mem_cons_of_mem _ (hp.mem_iff.1 hm)
  · rw [kk, hp.mem_iff]; exact h.mem k c
end
end Go.Proofs.YtcdihffcncaibaaDoor
/- Walks: Touch, Drop, Oldest, New, Clear. -/
set_option linter.unusedVariables false
set_option linter.unusedSimpArgs false
set_option maxRecDepth 100000
namespace Go.Proofs.YtcdihffcncaibaaDoor
open Go.RowKit
open Ring (Lk setNext setAhead chain)

/-- The keys when one was used. -/
def touched (ks : List ByteArray) (k : ByteArray) : List ByteArray := ks.erase k ++ [k]
theorem erase_none {ks : List ByteArray} {k : ByteArray} (h : k ∉ ks) : ks.erase k = ks := List.erase_of_not_mem h

set_option maxHeartbeats 2000000 in
theorem touch_any (a : Nat) (ks : List ByteArray) (F : Nat → Prop) (key : ByteArray) (w : World) (h : RecRep w a ks F) :
    Calls Tryd.prog 22 #[.pointer (some ⟨a, 0, none⟩), .string key] w fun e w' => e = .returned (.bool (!decide (key ∈ ks))) ∧ RecTo w w' a F (touched ks key) := by
  obtain ⟨mb, G, bs, m, h, rfl, rfl⟩ := h
  have c3 := h.nodes.c3 (by simp)
  have lk := h.look key true
  have hkm := h.key_mem key
  simp only [if_true] at lk
  unfold lv at lk
  cases hk : aget m key with
  | none =>
    rw [hk] at lk hkm
    simp only [Option.map_none, Option.isSome_none] at lk hkm
    rw [← hkm]
    have hnk : key ∉ keysOfG G bs := by simpa using hkm.symm
    have al := h.nodes _ (show a ∈ a :: bs by simp)
    have al := al.lt
    have U1 : Upd (fun _ => False) w (w.alloc (.cells #[.string key, .pointer none, .pointer none] 71)) := (Upd.refl _ w).alloc _
    have h1 := h.keep U1 (fun _ _ => id)
    have B1 : Blk (w.alloc (.cells #[.string key, .pointer none, .pointer none] 71)) w.heap.size [.string key, .pointer none, .pointer none] 71 := Blk.made w [.string key, .pointer none, .pointer none] _
    have hfresh : w.heap.size ∉ a :: bs := fun hm => by have := (h.nodes _ hm).lt; omega
    have hmb := h.map.lt
    obtain ⟨w3, de, hm3, u3⟩ := h1.map.put keyS Tryd.underlying72 key (ptr w.heap.size)
    rw [pm_set] at hm3
    have n3 : Nodes w3 a mb G (a :: bs) := h1.nodes.keep u3 (fun b hb e => h.mne (e ▸ hb))
    have B3 := u3.blk B1 (fun e => by have : w.heap.size = mb := e; omega)
    have U3 : Hid (Upd (recF a mb bs) w w3) := (U1.weaken (F := recF a mb bs) (fun _ _ h => h.elim)).trans u3 (fun i _ hi => Or.inr (Or.inl hi))
    have L := Lib.hid (last_any a mb G (a :: bs) w.heap.size key _ _ w3 n3 B3 (by simp) hfresh (by rw [Ring.chain_ahead h.ring]; exact Ring.last_mem a bs))
    have H := Lib.hid h
    have HM3 := Lib.hid hm3
    have HK := Lib.hid hk
    have HX := Lib.hid (show (G a).ahead ∈ a :: bs by rw [Ring.chain_ahead h.ring]; exact Ring.last_mem a bs)
    unfold strEnc ptr at de
    clear h h1 hm3 u3 n3 B3 B1 U1 hk hkm
    go_enter Tryd.func22, Tryd.ntmps22
    go_wp2_with fail
    refine (L.out).mono ?_
    rintro e w4 ⟨rfl, n4, u4⟩
    have N4 := Lib.hid n4
    have U4 := Lib.hid u4
    clear n4 u4 L
    go_wp2
    go_ret
    have hmne := H.out.mne
    have hm4 : MapAt strEnc w4 mb (pm (aset m key w.heap.size)) := HM3.out.keep U4.out (fun e => by
      rcases e with e | e | e
      · exact hmne (by simp [e])
      · omega
      · exact hmne (by rw [e]; exact HX.out))
    refine ⟨rfl, _, ⟨mb, _, _, _, H.out.more HK.out hfresh (by omega) N4.out hm4, ?_, rfl⟩, U3.out.trans U4.out ?_, ?_⟩
    · unfold touched
      rw [erase_none hnk, keysOf_app]
      congr 1
      · exact keysOf_congr fun c hc => (Ring.with_key G key (fun e => hfresh (by rw [← e]; simp [hc]))).symm
      · simp [keysOfG, Ring.with_key_at]
    · rintro i hi (rfl | rfl | rfl)
      · exact Or.inl rfl
      · omega
      · rcases List.mem_cons.1 HX.out with e | e
        · exact Or.inl e
        · exact Or.inr (Or.inr e)
    · rintro i (rfl | rfl | hi)
      · exact Or.inl (Or.inl rfl)
      · exact Or.inl (Or.inr (Or.inl rfl))
      · simp only [List.mem_append, List.mem_cons, List.not_mem_nil, or_false] at hi
        rcases hi with hi | rfl
        · exact Or.inl (Or.inr (Or.inr hi))
        · exact Or.inr (Nat.le_refl _)
  | some b =>
    rw [hk] at lk hkm
    simp only [Option.map_some, Option.isSome_some] at lk hkm
    rw [← hkm]
    obtain ⟨l, r, hb, hkey, he⟩ := h.split hk
    obtain ⟨o1, o2⟩ := Ring.chain_out (b := b) (l := l) (r := r) (by rw [← hb]; exact h.ring) (by rw [← hb]; exact h.nd)
    have sub : ∀ x, x ∈ a :: (l ++ r) → x ∈ a :: bs := fun x hx => by
      rw [hb]; simp only [List.mem_cons, List.mem_append] at hx ⊢
      rcases hx with h | h | h
      · exact Or.inl h
      · exact Or.inr (Or.inl h)
      · exact Or.inr (Or.inr (Or.inr h))
    have bin : b ∈ a :: bs := by rw [hb]; simp
    have O := Lib.hid (out_any a mb G (a :: bs) b w h.nodes bin (sub _ o1) (sub _ o2))
    have H := Lib.hid h
    have HK := Lib.hid hk
    have HE := Lib.hid he
    have HB := Lib.hid hb
    have HS := Lib.hid sub
    have O1 := Lib.hid (And.intro (sub _ o1) (sub _ o2))
    clear h hk hkm he sub o1 o2 hb hkey
    go_enter Tryd.func22, Tryd.ntmps22
    go_wp2_with fail
    refine (O.out).mono ?_
    rintro e w1 ⟨rfl, n1, u1⟩
    have ring1 := Ring.chain_without (b := b) (l := l) (r := r) (by rw [← HB.out]; exact H.out.ring) (by rw [← HB.out]; exact H.out.nd)
    have ahead1 : (Ring.without G b a).ahead ∈ a :: (l ++ r) := by rw [Ring.chain_ahead ring1]; exact Ring.last_mem a _
    have bne : b ≠ a := fun e => by
      have := H.out.nd
      rw [HB.out, e] at this
      exact (List.nodup_cons.1 this).1 (by simp)
    have bout : b ∉ a :: (l ++ r) := fun hm => by
      rcases List.mem_cons.1 hm with e | hm
      · exact bne e
      · have := (List.nodup_cons.1 H.out.nd).2
        rw [HB.out] at this
        have h2 := List.nodup_append.1 this
        rcases List.mem_append.1 hm with hm | hm
        · exact h2.2.2 b hm b (by simp) rfl
        · exact (List.nodup_cons.1 h2.2.1).1 hm
    have hkey := ((H.out.mem key b).1 HK.out).2
    have B1 : Blk w1 b [.string key, ptr (Ring.without G b b).ahead, ptr (Ring.without G b b).next] 71 := by
      have := n1 b bin
      have en : nodec a mb (Ring.without G b) b = [.string key, ptr (Ring.without G b b).ahead, ptr (Ring.without G b b).next] := by simp [nodec, linkc, bne, Ring.without_key, hkey]
      have et : nodet a b = 71 := by simp [nodet, bne]
      rw [en, et] at this; exact this
    have L := Lib.hid (last_any a mb (Ring.without G b) (a :: (l ++ r)) b key _ _ w1 (fun x hx => n1 x (HS.out x hx)) B1 (by simp) bout ahead1)
    have U1 := Lib.hid u1
    have A1 := Lib.hid ahead1
    have BO := Lib.hid bout
    have HKY := Lib.hid hkey
    clear n1 u1 ring1 B1 ahead1 bout hkey O
    go_wp2_with fail
    refine (L.out).mono ?_
    rintro e w2 ⟨rfl, n2, u2⟩
    have N2 := Lib.hid n2
    have U2 := Lib.hid u2
    clear n2 u2 L
    go_wp2
    go_ret
    have hmne := H.out.mne
    have hm2 : MapAt strEnc w2 mb (pm m) := (H.out.map.keep U1.out (fun e => by
      rcases e with e | e
      · exact hmne (by rw [e]; exact O1.out.1)
      · exact hmne (by rw [e]; exact O1.out.2))).keep U2.out (fun e => by
      rcases e with e | e | e
      · exact hmne (by simp [e])
      · exact hmne (by rw [e]; exact bin)
      · exact hmne (by rw [e]; exact HS.out _ A1.out))
    have inF : ∀ x, x ∈ a :: bs → recF a mb bs x := fun x hx => by
      rcases List.mem_cons.1 hx with e | e
      · exact Or.inl e
      · exact Or.inr (Or.inr e)
    refine ⟨rfl, _, ⟨mb, _, _, _, H.out.moved HK.out HB.out N2.out hm2, ?_, rfl⟩, (U1.out.weaken (F := recF a mb bs) ?_).trans U2.out ?_, ?_⟩
    · unfold touched
      rw [HE.out, keysOf_app _ (l ++ r)]
      congr 1
      · refine keysOf_congr fun c hc => ?_
        have : c ≠ b := fun e => BO.out (by rw [← e]; simp only [List.mem_cons]; exact Or.inr hc)
        rw [Ring.with_key _ _ this, Ring.without_key]
      · simp [keysOfG, Ring.with_key_at]
    · rintro i _ (rfl | rfl)
      · exact inF _ O1.out.1
      · exact inF _ O1.out.2
    · rintro i _ (rfl | rfl | rfl)
      · exact Or.inl rfl
      · exact inF _ bin
      · exact inF _ (HS.out _ A1.out)
    · rintro i (rfl | rfl | hi)
      · exact Or.inl (Or.inl rfl)
      · exact Or.inl (Or.inr (Or.inl rfl))
      · refine Or.inl (inF _ ?_)
        rcases List.mem_append.1 hi with hi | hi
        · exact HS.out _ (List.mem_cons_of_mem _ hi)
        · simp at hi; rw [hi]; exact bin
end Go.Proofs.YtcdihffcncaibaaDoor
