/- Two prefix tables apart from one another. -/
import Derived.Test.YtnlbmplbaalgmaaPfxG
set_option linter.unusedVariables false
set_option linter.unusedSimpArgs false
set_option linter.unusedSectionVars false
namespace Go.Proofs.Ytnlbmplbaalgmaa
open Go.RowKit

structure TwoP (w wr : World) (base pa pb : Nat) (P Q : Txt → Int → Prop) (N : Nat) : Prop where
  ex : ∃ Fa Fb, PAt wr base pa P N Fa ∧ PAt wr base pb Q N Fb ∧ (∀ k, Fa k → ¬ Fb k)
  upd : Upd (fun _ => False) w wr
  lo : w.heap.size ≤ base
  hsz : base ≤ wr.heap.size
section
variable {w wr w' : World} {base pa pb : Nat} {P Q P' Q' : Txt → Int → Prop} {N : Nat}
theorem TwoP.symm (h : TwoP w wr base pa pb P Q N) : TwoP w wr base pb pa Q P N := by
  obtain ⟨Ea, Eb, h1, h2, h3⟩ := h.ex
  exact ⟨⟨Eb, Ea, h2, h1, fun k hk hk2 => h3 k hk2 hk⟩, h.upd, h.lo, h.hsz⟩
theorem TwoP.keep0 (h : TwoP w wr base pa pb P Q N) (u : Upd (fun _ => False) wr w') : TwoP w w' base pa pb P Q N := by
  obtain ⟨Ea, Eb, h1, h2, h3⟩ := h.ex
  exact ⟨⟨Ea, Eb, h1.keep u (fun _ _ h => h), h2.keep u (fun _ _ h => h), h3⟩, h.upd.trans u (fun _ _ h => h), h.lo, Nat.le_trans h.hsz u.size⟩
theorem TwoP.congr (h : TwoP w wr base pa pb P Q N) (e1 : ∀ t i, P t i ↔ P' t i) (e2 : ∀ t i, Q t i ↔ Q' t i) : TwoP w wr base pa pb P' Q' N := by
  obtain ⟨Ea, Eb, h1, h2, h3⟩ := h.ex
  exact ⟨⟨Ea, Eb, h1.congr e1, h2.congr e2, h3⟩, h.upd, h.lo, h.hsz⟩
theorem TwoP.add (h : TwoP w wr base pa pb P Q N) (s : Txt) (id : Int) (hN : N ≤ 1000) (hs : s.length ≤ 9223372036854775807) :
    Calls Try.prog 30 #[.pointer (some ⟨pa, 0, none⟩), .string (ofL s), .int .i64 id] wr fun e w' => (∃ eb, e = .returned (.bool eb)) ∧
      TwoP w w' base pa pb (fun t i => P t i ∨ t = s ∧ i = id) Q (N + 1) := by
  obtain ⟨Ea, Eb, h1, h2, h3⟩ := h.ex
  refine (padd_any h1 s id hN hs).mono ?_
  rintro e w' ⟨he, F', h4, u, f⟩
  refine ⟨?_, ⟨F', Eb, h4, (h2.keep u (fun k hk e => h3 k e hk)).more (Nat.le_succ _), fun k hk hk2 => ?_⟩, h.upd.trans u (fun k hk e => by have := (h1.lt k e).1; have := h.lo; omega), h.lo, Nat.le_trans h.hsz u.size⟩
  · rcases he with ⟨rfl, _⟩ | ⟨rfl, _⟩ <;> exact ⟨_, rfl⟩
  · rcases f k hk with g | g
    · exact h3 k g hk2
    · have := (h2.lt k hk2).2; omega
/-- The same, behind a block that came just before. -/
theorem TwoP.addD (h : TwoP w wr base pa pb P Q N) (s : Txt) (id : Int) (hN : N ≤ 1000) (hs : s.length ≤ 9223372036854775807) (cs : List Value) (T : TypeId) (v : World) (uv : Upd (fun _ => False) (wr.alloc (.cells cs.toArray T)) v) :
    Calls Try.prog 30 #[.pointer (some ⟨pa, 0, none⟩), .string (ofL s), .int .i64 id] v fun e w' => (∃ eb, e = .returned (.bool eb)) ∧
      TwoP w w' base pa pb (fun t i => P t i ∨ t = s ∧ i = id) Q (N + 1) ∧ Blk w' wr.heap.size cs T := by
  obtain ⟨Ea, Eb, h1, h2, h3⟩ := h.ex
  have ua : Upd (fun _ => False) wr v := ((Upd.refl _ _).alloc _).trans uv (fun _ _ h => h)
  refine (padd_any (h1.keep ua (fun _ _ h => h)) s id hN hs).mono ?_
  rintro e w' ⟨he, F', h4, u, f⟩
  refine ⟨?_, ⟨⟨F', Eb, h4, ((h2.keep ua (fun _ _ h => h)).keep u (fun k hk e => h3 k e hk)).more (Nat.le_succ _), fun k hk hk2 => ?_⟩, (h.upd.trans ua (fun _ _ h => h)).trans u (fun k hk e => by have := (h1.lt k e).1; have := h.lo; omega), h.lo, Nat.le_trans h.hsz (Nat.le_trans ua.size u.size)⟩, u.blk (uv.blk (Blk.made wr cs T) (fun h => h)) (fun e => by have := (h1.lt _ e).2; omega)⟩
  · rcases he with ⟨rfl, _⟩ | ⟨rfl, _⟩ <;> exact ⟨_, rfl⟩
  · rcases f k hk with g | g
    · exact h3 k g hk2
    · have := (h2.lt k hk2).2; have := ua.size; omega
theorem TwoP.match_ (h : TwoP w wr base pa pb P Q N) (key : Txt) (hN : N ≤ 900) (hk : key.length ≤ 1000000) :
    Calls Try.prog 31 #[.pointer (some ⟨pa, 0, none⟩), .string (ofL key)] wr fun e w' => ∃ v l, e = .returned v ∧ IntsAt w' wr.heap.size v l ∧ Rising l ∧ (∀ id, id ∈ l ↔ ∃ t, t <+: key ∧ P t id) ∧ Upd (fun _ => False) wr w' := by
  obtain ⟨Ea, Eb, h1, h2, h3⟩ := h.ex
  exact pmatch_any h1 key hN hk
theorem TwoP.trees (h : TwoP w wr base pa pb P Q N) : (∃ xa L E, wr.cell? ⟨pa, 0, none⟩ = some (.pointer (some ⟨xa, 0, none⟩)) ∧ TreeAt wr base xa L E ∧ L.length ≤ N ∧ KeysOf P L) ∧
    (∃ xa L E, wr.cell? ⟨pb, 0, none⟩ = some (.pointer (some ⟨xa, 0, none⟩)) ∧ TreeAt wr base xa L E ∧ L.length ≤ N ∧ KeysOf Q L) := by
  obtain ⟨Ea, Eb, h1, h2, h3⟩ := h.ex
  exact ⟨h1.tree, h2.tree⟩
theorem cell_lt {w : World} {p : Addr} {v : Value} (h : w.cell? p = some v) : p.block < w.heap.size := by
  rcases Nat.lt_or_ge p.block w.heap.size with g | g
  · exact g
  · simp [World.cell?, Array.getElem?_eq_none g] at h
theorem TwoP.tree2 (h : TwoP w wr base pa pb P Q N) : ∃ xa xb La Lb Ea Eb, (∀ v, Upd (fun _ => False) wr v → v.cell? ⟨pa, 0, none⟩ = some (.pointer (some ⟨xa, 0, none⟩)) ∧ v.cell? ⟨pb, 0, none⟩ = some (.pointer (some ⟨xb, 0, none⟩))) ∧
    TreeAt wr base xa La Ea ∧ TreeAt wr base xb Lb Eb ∧ La.length ≤ N ∧ Lb.length ≤ N ∧ KeysOf P La ∧ KeysOf Q Lb := by
  obtain ⟨⟨xa, La, Ea, c1, t1, n1, k1⟩, ⟨xb, Lb, Eb, c2, t2, n2, k2⟩⟩ := h.trees
  exact ⟨xa, xb, La, Lb, Ea, Eb, fun v u => ⟨(u.cell (cell_lt c1) id).trans c1, (u.cell (cell_lt c2) id).trans c2⟩, t1, t2, n1, n2, k1, k2⟩
end
/-- The number of nodes, said ahead. -/
theorem nodes_num (w : World) (base xa : Nat) (L : List MarkP) (E : Nat → Prop) (h : TreeAt w base xa L E) (hL : L.length ≤ 100000) : ∃ n0 : Nat, (∀ n, NodesN L n → n = n0) := by
  by_cases hx : ∃ n, NodesN L n
  · obtain ⟨n0, h0⟩ := hx
    exact ⟨n0, fun n hn => hn.uniq h0⟩
  · exact ⟨0, fun n hn => absurd ⟨n, hn⟩ hx⟩
theorem pfx_append {t key : Txt} (more : Txt) (h : t <+: key) : t <+: key ++ more := h.trans (List.prefix_append _ _)
end Go.Proofs.Ytnlbmplbaalgmaa
