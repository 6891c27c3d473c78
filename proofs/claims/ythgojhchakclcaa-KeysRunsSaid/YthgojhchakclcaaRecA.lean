/- The ring in memory, and the walks that turn links. -/
import Derived.Test.YthgojhchakclcaaRing
import Derived.Test.YthgojhchakclcaaChecked
import Derived.RegionTactic
import Derived.ChangeAlike
import Derived.BigRegion
set_option linter.unusedVariables false
set_option linter.unusedSimpArgs false
namespace Go.Proofs.Ythgojhchakclcaa
open Go.RowKit
open Ring (Lk setNext setAhead chain)

def linkc (x : Lk) : List Value := [.string x.key, ptr x.ahead, ptr x.next]
def nodec (a mb : Nat) (G : Nat → Lk) (b : Nat) : List Value := linkc (G b) ++ (if b = a then [.map (some mb)] else [])
def nodet (a b : Nat) : TypeId := if b = a then 68 else 65
def Nodes (w : World) (a mb : Nat) (G : Nat → Lk) (S : List Nat) : Prop := ∀ b ∈ S, Blk w b (nodec a mb G b) (nodet a b)

section
variable {w : World} {a mb : Nat} {G : Nat → Lk} {S : List Nat}
theorem Nodes.keep {w' : World} {F : Nat → Prop} (h : Nodes w a mb G S) (u : Upd F w w') (hF : ∀ b ∈ S, ¬ F b) : Nodes w' a mb G S := fun b hb => u.blk (h b hb) (hF b hb)
theorem Nodes.setNext (h : Nodes w a mb G S) (x y : Nat) : Nodes (w.setCell ⟨x, 2, none⟩ (ptr y)) a mb (setNext G x y) S := fun b hb => by
  by_cases e : b = x
  · subst e
    have := (h b hb).set 2 (ptr y)
    have e : (nodec a mb G b).set 2 (ptr y) = nodec a mb (Ring.setNext G b y) b := by simp [nodec, linkc, Ring.setNext]
    rw [e] at this; exact this
  · have := (h b hb).set_other (b' := x) (o := 2) (v := ptr y) e
    have e : nodec a mb G b = nodec a mb (Ring.setNext G x y) b := by simp [nodec, linkc, Ring.setNext, e]
    rw [e] at this; exact this
theorem Nodes.setAhead (h : Nodes w a mb G S) (x y : Nat) : Nodes (w.setCell ⟨x, 1, none⟩ (ptr y)) a mb (setAhead G x y) S := fun b hb => by
  by_cases e : b = x
  · subst e
    have := (h b hb).set 1 (ptr y)
    have e : (nodec a mb G b).set 1 (ptr y) = nodec a mb (Ring.setAhead G b y) b := by simp [nodec, linkc, Ring.setAhead]
    rw [e] at this; exact this
  · have := (h b hb).set_other (b' := x) (o := 1) (v := ptr y) e
    have e : nodec a mb G b = nodec a mb (Ring.setAhead G x y) b := by simp [nodec, linkc, Ring.setAhead, e]
    rw [e] at this; exact this
theorem Nodes.drew (h : Nodes w a mb G S) : Nodes w.drew a mb G S := fun b hb => (h b hb).drew
theorem Nodes.drewN (h : Nodes w a mb G S) (n : Nat) : Nodes (w.drewN n) a mb G S := fun b hb => (h b hb).drewN n
theorem Nodes.alloc (h : Nodes w a mb G S) (o : Obj) : Nodes (w.alloc o) a mb G S := fun b hb => (h b hb).alloc o
theorem Nodes.c0 (h : Nodes w a mb G S) {b : Nat} (hb : b ∈ S) : w.cell? ⟨b, 0, none⟩ = some (.string (G b).key) := (h b hb).cellAt (by simp [nodec, linkc])
theorem Nodes.c1 (h : Nodes w a mb G S) {b : Nat} (hb : b ∈ S) : w.cell? ⟨b, 1, none⟩ = some (.pointer (some ⟨(G b).ahead, 0, none⟩)) := (h b hb).cellAt (by simp [nodec, linkc, ptr])
theorem Nodes.c2 (h : Nodes w a mb G S) {b : Nat} (hb : b ∈ S) : w.cell? ⟨b, 2, none⟩ = some (.pointer (some ⟨(G b).next, 0, none⟩)) := (h b hb).cellAt (by simp [nodec, linkc, ptr])
theorem Nodes.c3 (h : Nodes w a mb G S) (hb : a ∈ S) : w.cell? ⟨a, 3, none⟩ = some (.map (some mb)) := (h a hb).cellAt (by simp [nodec, linkc])
theorem Nodes.fr (h : Nodes w a mb G S) {b : Nat} (hb : b ∈ S) (i : Nat) : w.frozen? ⟨b, i, none⟩ = false := (h b hb).free i
end

set_option maxHeartbeats 1000000 in
theorem out_any (a mb : Nat) (G : Nat → Lk) (S : List Nat) (b : Nat) (w : World) (h : Nodes w a mb G S) (hb : b ∈ S) (hx : (G b).ahead ∈ S) (hy : (G b).next ∈ S) :
    Calls Try.prog 37 #[.pointer (some ⟨b, 0, none⟩)] w fun e w' => e = .returned (.tuple #[]) ∧ Nodes w' a mb (Ring.without G b) S ∧ Upd (fun k => k = (G b).ahead ∨ k = (G b).next) w w' := by
  unfold Ring.without
  have c1 := h.c1 hb
  have c2 := h.c2 hb
  have d1 := h.c2 hx
  have d2 := h.c1 hy
  have f1 := h.fr hx 2
  have f2 := h.fr hy 1
  have H := Lib.hid h
  clear h
  generalize (G b).ahead = x at *
  generalize (G b).next = y at *
  go_enter Try.func37, Try.ntmps37
  go_region
  go_end0
  exact ⟨rfl, ((H.out.setNext x y).setAhead y x).drew, (((Upd.refl (fun k => k = x ∨ k = y) w).set (fun _ => Or.inl rfl)).set (fun _ => Or.inr rfl)).drew⟩

set_option maxHeartbeats 1000000 in
theorem last_any (a mb : Nat) (G : Nat → Lk) (S : List Nat) (b : Nat) (k : ByteArray) (v1 v2 : Value) (w : World) (h : Nodes w a mb G S) (hB : Blk w b [.string k, v1, v2] 65) (ha : a ∈ S) (hb : b ∉ S) (hx : (G a).ahead ∈ S) :
    Calls Try.prog 38 #[.pointer (some ⟨a, 0, none⟩), .pointer (some ⟨b, 0, none⟩)] w fun e w' => e = .returned (.tuple #[]) ∧
      Nodes w' a mb (Ring.withLast G a b k) (b :: S) ∧ Upd (fun k => k = a ∨ k = b ∨ k = (G a).ahead) w w' := by
  have hba : b ≠ a := fun e => hb (e ▸ ha)
  have hbx : (G a).ahead ≠ b := fun e => hb (e ▸ hx)
  have c1 := h.c1 ha
  have d1 : w.cell? ⟨b, 1, none⟩ = some v1 := hB.cellAt rfl
  have d2 : w.cell? ⟨b, 2, none⟩ = some v2 := hB.cellAt rfl
  have f1 := hB.free 1
  have f2 := hB.free 2
  have e1 := h.c2 hx
  have f3 := h.fr hx 2
  have f4 := h.fr ha 1
  have H := Lib.hid h
  have HB := Lib.hid hB
  unfold Ring.withLast
  clear h hB
  generalize (G a).ahead = x at *
  go_enter Try.func38, Try.ntmps38
  go_wp2
  go_region
  obtain ⟨w2, E⟩ : ∃ w2, ((w.setCell ⟨b, 1, none⟩ (.pointer (some ⟨x, 0, none⟩))).setCell ⟨b, 2, none⟩ (.pointer (some ⟨a, 0, none⟩))).drew = w2 := ⟨_, rfl⟩
  rw [E]
  have h2 : Nodes w2 a mb (Ring.put G b k x a) (b :: S) := by
    rw [← E]
    intro i hi
    rcases List.mem_cons.1 hi with rfl | hi
    · have := ((HB.out.set 1 (ptr x)).set 2 (ptr a)).drew
      have en : nodec a mb (Ring.put G i k x a) i = [.string k, ptr x, ptr a] := by simp [nodec, linkc, Ring.put_at, hba]
      have et : nodet a i = 65 := by simp [nodet, hba]
      rw [en, et]; exact this
    · have hne : i ≠ b := fun e => hb (e ▸ hi)
      have := (((H.out i hi).set_other (o := 1) (v := ptr x) hne).set_other (o := 2) (v := ptr a) hne).drew
      have en : nodec a mb (Ring.put G b k x a) i = nodec a mb G i := by simp [nodec, Ring.put_ne G k x a hne]
      rw [en]; exact this
  have u2 : Upd (fun k => k = a ∨ k = b ∨ k = x) w w2 := E ▸ (((Upd.refl (fun k => k = a ∨ k = b ∨ k = x) w).set (fun _ => Or.inr (Or.inl rfl))).set (fun _ => Or.inr (Or.inl rfl))).drew
  have g1 := h2.c1 (b := b) (by simp)
  have g2 := h2.c2 (b := b) (by simp)
  have g3 := h2.c2 (b := x) (by simp [hx])
  have g4 := h2.c1 (b := a) (by simp [ha])
  have f5 := h2.fr (b := x) (by simp [hx]) 2
  have f6 := h2.fr (b := a) (by simp [ha]) 1
  rw [Ring.put_at] at g1 g2
  have H2 := Lib.hid h2
  have U2 := Lib.hid u2
  clear c1 d1 d2 f1 f2 e1 f3 f4 E h2 u2
  go_wp2
  go_region
  go_end0
  exact ⟨rfl, ((H2.out.setNext x b).setAhead a b).drew, ((U2.out.set (fun _ => Or.inr (Or.inr rfl))).set (fun _ => Or.inl rfl)).drew⟩
end Go.Proofs.Ythgojhchakclcaa
