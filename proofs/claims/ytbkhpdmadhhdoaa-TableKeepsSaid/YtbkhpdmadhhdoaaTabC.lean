/- Walks: New, Len, Room, grow. -/
import Derived.Test.YtbkhpdmadhhdoaaTabB
set_option linter.unusedVariables false
set_option linter.unusedSimpArgs false
namespace Go.Proofs.Ytbkhpdmadhhdoaa
open Go.RowKit
open Tbl (Pl findGo home fnv Tab)

def freshc (bf : Nat) (t : Tab) : List Value := if t.moving then rowc bf t.fresh else [.slice none 0 0, .int .i64 0, .int .i64 0]
def tabc (bo bf : Nat) (t : Tab) : List Value := rowc bo t.old ++ freshc bf t ++ [.bool t.moving, .int .i64 (t.next : Int)]

/-- In block a lies the table t, its rows in bo and bf. -/
structure TabAt (w : World) (a bo bf : Nat) (t : Tab) : Prop where
  blk : Blk w a (tabc bo bf t) 50
  old : PlAt w bo t.old.pl
  fresh : t.moving = true → PlAt w bf t.fresh.pl
  ne : a ≠ bo
  nf : t.moving = true → a ≠ bf ∧ bo ≠ bf
  rest : t.moving = false → t.fresh = Tbl.none ∧ t.next = 0
/-- The blocks that it takes. -/
def tabF (a bo bf : Nat) (t : Tab) : Nat → Prop := fun k => k = a ∨ k = bo ∨ (t.moving = true ∧ k = bf)
def TabRep (w : World) (a : Nat) (t : Tab) (F : Nat → Prop) : Prop := ∃ bo bf, TabAt w a bo bf t ∧ F = tabF a bo bf t
/-- F' is of F's blocks and of new ones. -/
def FromF (F F' : Nat → Prop) (w : World) : Prop := ∀ k, F' k → F k ∨ w.heap.size ≤ k

theorem TabAt.keep {w w' : World} {a bo bf : Nat} {t : Tab} {G : Nat → Prop} (h : TabAt w a bo bf t) (u : Upd G w w') (hd : ∀ k, tabF a bo bf t k → ¬ G k) : TabAt w' a bo bf t :=
  ⟨u.blk h.blk (hd _ (Or.inl rfl)), u.blk h.old (hd _ (Or.inr (Or.inl rfl))), fun hm => u.blk (h.fresh hm) (hd _ (Or.inr (Or.inr ⟨hm, rfl⟩))), h.ne, h.nf, h.rest⟩
theorem TabRep.keep {w w' : World} {a : Nat} {t : Tab} {F G : Nat → Prop} (h : TabRep w a t F) (u : Upd G w w') (hd : ∀ k, F k → ¬ G k) : TabRep w' a t F := by
  obtain ⟨bo, bf, h, rfl⟩ := h; exact ⟨bo, bf, h.keep u hd, rfl⟩
theorem TabAt.drewN {w : World} {a bo bf : Nat} {t : Tab} (h : TabAt w a bo bf t) (n : Nat) : TabAt (w.drewN n) a bo bf t :=
  h.keep (G := fun _ => False) ((Upd.refl _ _).drewN n) (fun _ _ => id)

section
variable {w : World} {a bo bf : Nat} {t : Tab}
theorem TabAt.o0 (h : TabAt w a bo bf t) : w.cell? ⟨a, 0, none⟩ = some (.slice (some ⟨bo, 0, none⟩) t.old.pl.length t.old.pl.length) := h.blk.cellAt (by simp [tabc, rowc])
theorem TabAt.o1 (h : TabAt w a bo bf t) : w.cell? ⟨a, 1, none⟩ = some (.int .i64 t.old.full) := h.blk.cellAt (by simp [tabc, rowc])
theorem TabAt.o2 (h : TabAt w a bo bf t) : w.cell? ⟨a, 2, none⟩ = some (.int .i64 t.old.graves) := h.blk.cellAt (by simp [tabc, rowc])
theorem TabAt.f0 (h : TabAt w a bo bf t) (hm : t.moving = true) : w.cell? ⟨a, 3, none⟩ = some (.slice (some ⟨bf, 0, none⟩) t.fresh.pl.length t.fresh.pl.length) := h.blk.cellAt (by simp [tabc, rowc, freshc, hm])
theorem TabAt.f1 (h : TabAt w a bo bf t) : w.cell? ⟨a, 4, none⟩ = some (.int .i64 t.fresh.full) := h.blk.cellAt (by
  cases hm : t.moving
  · simp [tabc, rowc, freshc, hm, (h.rest hm).1, Tbl.none]
  · simp [tabc, rowc, freshc, hm])
theorem TabAt.f2 (h : TabAt w a bo bf t) : w.cell? ⟨a, 5, none⟩ = some (.int .i64 t.fresh.graves) := h.blk.cellAt (by
  cases hm : t.moving
  · simp [tabc, rowc, freshc, hm, (h.rest hm).1, Tbl.none]
  · simp [tabc, rowc, freshc, hm])
theorem TabAt.n0 (h : TabAt w a bo bf t) (hm : t.moving = false) : w.cell? ⟨a, 3, none⟩ = some (.slice none 0 0) := h.blk.cellAt (by simp [tabc, rowc, freshc, hm])
theorem TabAt.m (h : TabAt w a bo bf t) : w.cell? ⟨a, 6, none⟩ = some (.bool t.moving) := h.blk.cellAt (by cases hm : t.moving <;> simp [tabc, rowc, freshc, hm])
theorem TabAt.x (h : TabAt w a bo bf t) : w.cell? ⟨a, 7, none⟩ = some (.int .i64 (t.next : Int)) := h.blk.cellAt (by cases hm : t.moving <;> simp [tabc, rowc, freshc, hm])
end

set_option maxHeartbeats 400000 in
theorem new_any (w : World) :
    Calls Try.prog 9 #[] w fun e w' => ∃ a F, e = .returned (.pointer (some ⟨a, 0, none⟩)) ∧ TabRep w' a Tab.new F ∧ Upd (fun _ => False) w w' ∧ ∀ k, F k → w.heap.size ≤ k := by
  go_enter Try.func9, Try.ntmps9
  go_wp2_with fail
  refine (made_any 8 w (by omega)).mono ?_
  rintro e w1 ⟨bp, rfl, h1, h2, h3⟩
  have H2 := Lib.hid h2
  have H3 := Lib.hid h3
  clear h2 h3
  go_wp2
  go_ret
  refine ⟨w1.heap.size, _, rfl, ⟨bp, 0, ⟨?_, ?_, ?_, ?_, ?_, ?_⟩, rfl⟩, H3.out.alloc _, ?_⟩
  · exact Blk.made _ _ _
  · exact Blk.alloc H2.out _
  · intro h; cases h
  · have := Blk.lt H2.out; omega
  · intro h; cases h
  · intro _; exact ⟨rfl, rfl⟩
  · have := H3.out.size
    rintro k (rfl | rfl | ⟨h, _⟩)
    · exact this
    · exact h1
    · cases h

set_option maxHeartbeats 400000 in
theorem len_any (a bo bf : Nat) (t : Tab) (w : World) (h : TabAt w a bo bf t) (b1 : 0 ≤ t.old.full) (b2 : t.old.full ≤ 1000000) (b3 : 0 ≤ t.fresh.full) (b4 : t.fresh.full ≤ 1000000) :
    Calls Try.prog 12 #[.pointer (some ⟨a, 0, none⟩)] w fun e w' => e = .returned (.int .i64 t.len) ∧ ∃ n, w' = w.drewN n := by
  have c1 := h.o1
  have c2 := h.f1
  clear h
  go_enter Try.func12, Try.ntmps12
  go_wp2
  go_quiet (fail)
  go_wp2
  go_ret
  exact ⟨rfl, _, rfl⟩

theorem freshLen (t : Tab) (h : t.moving = false → t.fresh = Tbl.none ∧ t.next = 0) : t.moving = false → t.fresh.pl.length = 0 := fun hm => by rw [(h hm).1]; rfl

set_option maxHeartbeats 400000 in
theorem room_any (a bo bf : Nat) (t : Tab) (w : World) (h : TabAt w a bo bf t) (b1 : t.old.pl.length ≤ 1000000) (b2 : t.fresh.pl.length ≤ 1000000) :
    Calls Try.prog 11 #[.pointer (some ⟨a, 0, none⟩)] w fun e w' => e = .returned (.tuple #[.int .i64 (t.old.pl.length : Int), .int .i64 (t.fresh.pl.length : Int)]) ∧ ∃ n, w' = w.drewN n := by
  have c1 := h.o0
  cases hm : t.moving
  · have c2 := h.n0 hm
    have e0 := Lib.hid ((h.rest hm).1)
    clear h hm
    go_enter Try.func11, Try.ntmps11
    go_wp2
    go_quiet (fail)
    go_wp2
    go_ret2
    exact ⟨by rw [e0.out]; rfl, _, rfl⟩
  · have c2 := h.f0 hm
    clear h hm
    go_enter Try.func11, Try.ntmps11
    go_wp2
    go_quiet (fail)
    go_wp2
    go_ret2
    exact ⟨rfl, _, rfl⟩
end Go.Proofs.Ytbkhpdmadhhdoaa
