/- Prefixes beside other things: what they leave alone. -/
import Derived.Test.YtnlbmplbaalgmaaPfxF
import Derived.Test.YtnlbmplbaalgmaaActs15
set_option linter.unusedVariables false
set_option linter.unusedSimpArgs false
set_option linter.unusedSectionVars false
namespace Go.Proofs.Ytnlbmplbaalgmaa
open Go.RowKit

/-- At pb lies who is told of what; it takes no block of X, and none below base. -/
structure PSt (wr : World) (base pb : Nat) (X : Nat → Prop) (P : Txt → Int → Prop) (N : Nat) : Prop where
  ex : ∃ F, PAt wr base pb P N F ∧ ∀ b, F b → ¬ X b
  xlt : ∀ b, X b → b < wr.heap.size
  bl : base ≤ wr.heap.size
abbrev Fr (base : Nat) (X : Nat → Prop) : Nat → Prop := fun b => base ≤ b ∧ ¬ X b
section
variable {wr w' : World} {base pb : Nat} {X Y : Nat → Prop} {P Q : Txt → Int → Prop} {N : Nat}
theorem PSt.keep0 (h : PSt wr base pb X P N) (u : Upd (fun _ => False) wr w') : PSt w' base pb X P N := by
  obtain ⟨F, h1, h2⟩ := h.ex
  exact ⟨⟨F, h1.keep u (fun _ _ h => h), h2⟩, fun b hb => Nat.lt_of_lt_of_le (h.xlt b hb) u.size, Nat.le_trans h.bl u.size⟩
/-- What writes in X alone. -/
theorem PSt.keepX (h : PSt wr base pb X P N) (u : Upd X wr w') : PSt w' base pb X P N := by
  obtain ⟨F, h1, h2⟩ := h.ex
  exact ⟨⟨F, h1.keep u (fun b hb hx => h2 b hb hx), h2⟩, fun b hb => Nat.lt_of_lt_of_le (h.xlt b hb) u.size, Nat.le_trans h.bl u.size⟩
theorem PSt.less (h : PSt wr base pb X P N) (hY : ∀ b, Y b → X b) : PSt wr base pb Y P N := by
  obtain ⟨F, h1, h2⟩ := h.ex
  exact ⟨⟨F, h1, fun b hb hy => h2 b hb (hY b hy)⟩, fun b hb => h.xlt b (hY b hb), h.bl⟩
theorem PSt.congr (h : PSt wr base pb X P N) (e : ∀ t i, P t i ↔ Q t i) : PSt wr base pb X Q N := by
  obtain ⟨F, h1, h2⟩ := h.ex; exact ⟨⟨F, h1.congr e, h2⟩, h.xlt, h.bl⟩
theorem PSt.more (h : PSt wr base pb X P N) {M : Nat} (hm : N ≤ M) : PSt wr base pb X P M := by
  obtain ⟨F, h1, h2⟩ := h.ex; exact ⟨⟨F, h1.more hm, h2⟩, h.xlt, h.bl⟩
/-- Blocks that came since are nobody's. -/
theorem PSt.also (h : PSt wr base pb X P N) (u : Upd (fun _ => False) wr w') (hY : ∀ b, Y b → X b ∨ (wr.heap.size ≤ b ∧ b < w'.heap.size)) : PSt w' base pb Y P N := by
  obtain ⟨F, h1, h2⟩ := h.ex
  refine ⟨⟨F, h1.keep u (fun _ _ h => h), fun b hb hy => ?_⟩, fun b hb => ?_, Nat.le_trans h.bl u.size⟩
  · rcases hY b hy with g | g
    · exact h2 b hb g
    · have := (h1.lt b hb).2; omega
  · rcases hY b hb with g | g
    · exact Nat.lt_of_lt_of_le (h.xlt b g) u.size
    · exact g.2
theorem PSt.add (h : PSt wr base pb X P N) (s : Txt) (id : Int) (hN : N ≤ 1000) (hs : s.length ≤ 9223372036854775807) :
    Calls Try.prog 30 #[.pointer (some ⟨pb, 0, none⟩), .string (ofL s), .int .i64 id] wr fun e w' => ((e = .returned (.bool false) ∧ P s id) ∨ (e = .returned (.bool true) ∧ ¬ P s id)) ∧
      PSt w' base pb X (fun t i => P t i ∨ t = s ∧ i = id) (N + 1) ∧ Upd (Fr base X) wr w' := by
  obtain ⟨F, h1, h2⟩ := h.ex
  refine (padd_any h1 s id hN hs).mono ?_
  rintro e w' ⟨he, F', h3, u, f⟩
  exact ⟨he, ⟨⟨F', h3, fun b hb hx => (f b hb).elim (fun g => h2 b g hx) (fun g => by have := h.xlt b hx; omega)⟩, fun b hb => Nat.lt_of_lt_of_le (h.xlt b hb) u.size, Nat.le_trans h.bl u.size⟩, u.weaken (fun b _ hb => ⟨(h1.lt b hb).1, h2 b hb⟩)⟩
theorem PSt.drop (h : PSt wr base pb X P N) (id : Int) (hN : N ≤ 1000) :
    Calls Try.prog 35 #[.pointer (some ⟨pb, 0, none⟩), .int .i64 id] wr fun e w' => ∃ l : List Txt, e = .returned (.int .i64 (l.length : Int)) ∧ Rising l ∧ (∀ t, t ∈ l ↔ P t id) ∧
      PSt w' base pb X (fun t i => P t i ∧ i ≠ id) N ∧ Upd (Fr base X) wr w' := by
  obtain ⟨F, h1, h2⟩ := h.ex
  refine (pdrop_any h1 id hN).mono ?_
  rintro e w' ⟨l, he, hr, hm, F', h3, u, f⟩
  exact ⟨l, he, hr, hm, ⟨⟨F', h3, fun b hb hx => (f b hb).elim (fun g => h2 b g hx) (fun g => by have := h.xlt b hx; omega)⟩, fun b hb => Nat.lt_of_lt_of_le (h.xlt b hb) u.size, Nat.le_trans h.bl u.size⟩, u.weaken (fun b _ hb => ⟨(h1.lt b hb).1, h2 b hb⟩)⟩
theorem PSt.match_ (h : PSt wr base pb X P N) (key : Txt) (hN : N ≤ 900) (hk : key.length ≤ 1000000) :
    Calls Try.prog 31 #[.pointer (some ⟨pb, 0, none⟩), .string (ofL key)] wr fun e w' => ∃ v l, e = .returned v ∧ IntsAt w' wr.heap.size v l ∧ Rising l ∧ (∀ id, id ∈ l ↔ ∃ t, t <+: key ∧ P t id) ∧ Upd (fun _ => False) wr w' := by
  obtain ⟨F, h1, h2⟩ := h.ex
  exact pmatch_any h1 key hN hk
theorem PSt.of (h : PSt wr base pb X P N) (id : Int) (hN : N ≤ 900) :
    Calls Try.prog 39 #[.pointer (some ⟨pb, 0, none⟩), .int .i64 id] wr fun e w' => ∃ v l, e = .returned v ∧ TxtsAt w' wr.heap.size v l ∧ Rising l ∧ (∀ t, t ∈ l ↔ P t id) ∧ Upd (fun _ => False) wr w' := by
  obtain ⟨F, h1, h2⟩ := h.ex
  exact pof_any h1 id hN
theorem PSt.tree (h : PSt wr base pb X P N) : ∃ xb L E, wr.cell? ⟨pb, 0, none⟩ = some (.pointer (some ⟨xb, 0, none⟩)) ∧ TreeAt wr base xb L E ∧ L.length ≤ N ∧ KeysOf P L := by
  obtain ⟨F, h1, h2⟩ := h.ex
  exact h1.tree
end
/-- A number of a row of numbers. -/
theorem ints_get {w : World} {base : Nat} {p : Option Addr} {c : Nat} {l : List Int} (h : IntsAt w base (.slice p l.length c) l) {k : Nat} (hk : k < l.length) :
    ∃ g, p = some ⟨g, 0, none⟩ ∧ g < w.heap.size ∧ w.cell? ⟨g, k, none⟩ = some (.int .i64 l[k]) := by
  rcases ints_blk h with ⟨_, e0⟩ | ⟨g, cap, cs, ev, hg, hB, hc, hm⟩
  · rw [e0] at hk; simp at hk
  · refine ⟨g, by injection ev, hB.lt, hB.cellAt ?_⟩
    rw [List.getElem?_append_left (by simpa using hk), List.getElem?_map, List.getElem?_eq_getElem hk]; rfl
end Go.Proofs.Ytnlbmplbaalgmaa
