/- Rows of rows of texts; walk: all commands, by the document. -/
import Derived.Test.YtkemjjhmabemiaaDoorK10
set_option linter.unusedVariables false
set_option linter.unusedSimpArgs false
namespace Go.Proofs.YtkemjjhmabemiaaDoor
open Go.RowKit
open Lin (Txt)

def slc (v : Value) : List Value := [v]
theorem slc_len (v : Value) : (slc v).length = 1 := rfl
/-- A row of rows of texts, all of the call's own. -/
def RowsO (w : World) (base : Nat) (v : Value) (L : List (List Txt)) : Prop :=
  ∃ vs, OwnN slc 1 23 w base v vs ∧ vs.length = L.length ∧ ∀ (i : Nat) (vi : Value) (li : List Txt), vs[i]? = some vi → L[i]? = some li → TxtsO w base vi li
theorem RowsO.slice {w : World} {base : Nat} {v : Value} {L : List (List Txt)} (h : RowsO w base v L) : ∃ p c, v = .slice p L.length c := by
  obtain ⟨vs, h1, h2, _⟩ := h
  obtain ⟨p, c, e, _⟩ := h1.slice
  exact ⟨p, c, by rw [e, h2]⟩
theorem RowsO.lt {w : World} {base : Nat} {v : Value} {L : List (List Txt)} (h : RowsO w base v L) {b : Nat} (hb : v.ownBlock = some b) : base ≤ b ∧ b < w.heap.size := by
  obtain ⟨vs, h1, _⟩ := h
  exact ⟨(h1.lt hb).1, (h1.lt hb).2.1⟩
theorem RowsO.keep {w w' : World} {base : Nat} {v : Value} {L : List (List Txt)} (h : RowsO w base v L) {F : Nat → Prop} (u : Upd F w w') (hd : ∀ b, base ≤ b → b < w.heap.size → (∃ cs, Blk w b cs 23 ∨ Blk w b cs 9) → ¬ F b) : RowsO w' base v L := by
  obtain ⟨vs, h1, h2, h3⟩ := h
  refine ⟨vs, h1.keep u (fun b hb => ?_), h2, fun i vi li hi hl => (h3 i vi li hi hl).keep u (fun b hb => ?_)⟩
  · obtain ⟨a, c, cs, d⟩ := h1.lt hb
    exact hd b a c ⟨cs, Or.inl d⟩
  · obtain ⟨a, c, cs, d⟩ := (h3 i vi li hi hl).lt hb
    exact hd b a c ⟨cs, Or.inr d⟩
theorem RowsO.keep0 {w w' : World} {base : Nat} {v : Value} {L : List (List Txt)} (h : RowsO w base v L) (u : Upd (fun _ => False) w w') : RowsO w' base v L := h.keep u (fun _ _ _ _ => id)
theorem RowsO.mono {w : World} {base b2 : Nat} {v : Value} {L : List (List Txt)} (h : RowsO w base v L) (hb : b2 ≤ base) : RowsO w b2 v L := by
  obtain ⟨vs, h1, h2, h3⟩ := h
  exact ⟨vs, h1.mono hb, h2, fun i vi li hi hl => (h3 i vi li hi hl).mono hb⟩
theorem RowsO.none (w : World) (base : Nat) : RowsO w base (.slice Option.none 0 0) [] := ⟨[], OwnN.none, rfl, fun i vi li h => by simp at h⟩
theorem RowsO.made (w : World) : RowsO (w.alloc (.cells #[] 23)) w.heap.size (.slice (some ⟨w.heap.size, 0, Option.none⟩) 0 0) [] := ⟨[], OwnN.made w _, rfl, fun i vi li h => by simp at h⟩
theorem strs_info : (Tryd.prog.info? 23).map (fun i => (i.zero, i.size, i.bytes)) = some (some (.slice Option.none 0 0), 1, 24) := by kernel_rfl
theorem blk_ty {w : World} {b : Nat} {cs cs' : List Value} {T T' : TypeId} (h : Blk w b cs T) (h' : Blk w b cs' T') : T = T' := by
  unfold Blk at *; rw [h] at h'; simp at h'; exact h'.2
/-- A row more. -/
theorem rows_app (w : World) (base : Nat) (v : Value) (L : List (List Txt)) (vi : Value) (li : List Txt) (h : RowsO w base v L) (hv : TxtsO w base vi li) (hl : L.length ≤ 1000000000) (hb : base ≤ w.heap.size) :
    ∃ p k w', (Builtin.append_ #[37, 37] 37 #[v, .slice (some ⟨w.heap.size, 0, Option.none⟩) 1 1]).run Tryd.prog (w.alloc (.cells #[vi] 23)) = .ok (.slice p (L.length + 1) k) w' ∧ RowsO w' base (.slice p (L.length + 1) k) (L ++ [li]) ∧ Upd (fun k => v.ownBlock = some k) w w' ∧ NewOr v (.slice p (L.length + 1) k) w := by
  obtain ⟨vs, h1, h2, h3⟩ := h
  obtain ⟨i0, hi0, hz0, hz1, hz2⟩ := info_parts strs_info
  have u0 : Upd (fun _ => False) w (w.alloc (.cells #[vi] 23)) := (Upd.refl _ _).alloc _
  obtain ⟨pi, ci, ei, _, _⟩ := hv.slice
  have hone : ∀ a ∈ [vi], ∀ u ∈ slc a, u.oneCell' = true := by
    intro a ha u hu
    simp at ha; subst ha
    simp [slc] at hu; subst hu
    rw [ei]; rfl
  obtain ⟨v', w', a, b, d, e1⟩ := OwnN.append (P := Tryd.prog) 37 37 i0 (.slice Option.none 0 0) 24 Tryd.underlying37 hi0 hz0 hz1 hz2 rfl (by decide) slc_len hone (h1.keep0 u0) (RowOf.lit (f := slc) w vi [vi] _ rfl rfl) (by unfold maxLen; simp; omega) (by simp; omega) (Nat.le_trans hb u0.size)
  obtain ⟨p, k, e, _⟩ := b.slice
  rw [List.length_append, List.length_singleton, h2] at e
  subst e
  have hud : Upd (fun k => v.ownBlock = some k) w w' := (u0.weaken (F := fun k => v.ownBlock = some k) (fun _ _ h => h.elim)).trans d (fun _ _ h => h)
  have sep : ∀ (x : Value) (lx : List Txt), TxtsO w base x lx → TxtsO w' base x lx := fun x lx hx => hx.keep hud (fun k hk he => by
    obtain ⟨_, _, cs, B1⟩ := hx.lt hk
    obtain ⟨_, _, cs2, B2⟩ := h1.lt he
    exact absurd (blk_ty B1 B2) (by decide))
  refine ⟨p, k, w', a, ⟨vs ++ [vi], b, by simp [h2], fun i x lx hi hl => ?_⟩, hud, fun k hk => (e1 k hk).imp id (fun g => Nat.le_trans u0.size g)⟩
  by_cases hil : i < vs.length
  · rw [List.getElem?_append_left hil] at hi
    rw [List.getElem?_append_left (by omega)] at hl
    exact sep x lx (h3 i x lx hi hl)
  · rw [List.getElem?_append_right (by omega)] at hi
    rw [List.getElem?_append_right (by omega)] at hl
    have e0 : i - vs.length = 0 := by
      have := (List.getElem?_eq_some_iff.1 hi).1; simp at this; omega
    have e2 : i - L.length = 0 := by omega
    rw [e0] at hi; rw [e2] at hl
    simp at hi hl
    subst hi hl
    exact sep _ _ hv
theorem RowsO.get {w : World} {base : Nat} {p : Option Addr} {c : Nat} {L : List (List Txt)} (h : RowsO w base (.slice p L.length c) L) {k : Nat} {li : List Txt} (hk : L[k]? = some li) :
    ∃ g vi, p = some ⟨g, 0, Option.none⟩ ∧ g < w.heap.size ∧ w.cell? ⟨g, k, Option.none⟩ = some vi ∧ TxtsO w base vi li := by
  obtain ⟨vs, h1, h2, h3⟩ := h
  have hkl := (List.getElem?_eq_some_iff.1 hk).1
  obtain ⟨vi, hvi⟩ : ∃ vi, vs[k]? = some vi := ⟨_, List.getElem?_eq_getElem (by omega)⟩
  rcases h1.blk with ⟨e, rfl⟩ | ⟨g, cap, cs, e, hg, hB, hc, hm, hl⟩
  · simp at hvi
  · injection e with e1 e2 e3
    refine ⟨g, vi, e1, hB.lt, ?_, h3 k vi li hvi hk⟩
    rw [hB.cell, List.getElem?_append_left (by rw [flat_length slc 1 slc_len]; omega)]
    have := flat_get slc 1 slc_len vs k 0 (by omega)
    rw [Nat.mul_one, Nat.add_zero] at this
    rw [this, hvi]; rfl
/-- What all commands are told by. -/
def AllRes (base : Nat) (x : List (List Txt) × Txt × Bool) (e : Ending) (w' : World) : Prop := ∃ v, e = .returned (.tuple #[v, .string (ofL x.2.1), .int .i64 (errOf x.2.2)]) ∧ RowsO w' base v x.1
theorem upd_rows {w w1 w2 : World} {v : Value} {L : List (List Txt)} (ho : RowsO w1 w.heap.size v L) (u : Upd (fun _ => False) w w1) (h : Upd (fun k => v.ownBlock = some k) w1 w2) : Upd (fun _ => False) w w2 :=
  u.trans h (fun i hi e => by have := (ho.lt e).1; omega)
set_option maxHeartbeats 4000000 in
set_option maxRecDepth 100000 in
theorem rall_any (s0 : Txt) (hl : s0.length ≤ 100000) (w : World) :
    Calls Tryd.prog 15 #[.string (ofL s0)] w fun e w' => AllRes w.heap.size (Lin.all s0) e w' ∧ Upd (fun _ => False) w w' := by
  have T0 := Lib.hid (show Lin.all s0 = ([] ++ (Lin.all s0).1, (Lin.all s0).2) from rfl)
  obtain ⟨target, ht⟩ : ∃ t, t = Lin.all s0 := ⟨_, rfl⟩
  rw [← ht]
  have T0 : Hid (target = ([] ++ (Lin.all s0).1, (Lin.all s0).2)) := by rw [ht]; exact T0
  clear ht
  go_enter Tryd.func15, Tryd.ntmps15
  go_wp2
  go_loopw [0, 2, 3, 4, 5] (fun v0 v2 v3 v4 v5 wr => ∃ (r : Txt) (L : List (List Txt)), v0 = .string (ofL r) ∧ v2 = .slice Option.none 0 0 ∧ v3 = .string { data := #[] } ∧ v4 = .int .i64 0 ∧ r.length ≤ 100000 ∧ L.length + r.length ≤ 100000 ∧ Hid (target = (L ++ (Lin.all r).1, (Lin.all r).2)) ∧ Hid (RowsO wr w.heap.size v5 L) ∧ Hid (Upd (fun _ => False) w wr)) (fun v0 _ _ _ _ _ => szOf v0)
  case atStart => exact ⟨s0, [], rfl, rfl, rfl, rfl, hl, by simpa using hl, T0, Lib.hid (RowsO.made w), Lib.hid ((Upd.refl _ _).alloc _)⟩
  case round =>
    obtain ⟨r, L, rfl, rfl, rfl, rfl, hr, hLr, TG, RO, U⟩ := hrel
    obtain ⟨p5, c5, e5⟩ := RO.out.slice
    subst e5
    have PA := rparse2_any r wr hr
    cases hp : Lin.parse r with
    | bad =>
      rw [hp] at PA
      have PA : Hid (Calls Tryd.prog 12 #[.string (ofL r)] wr fun e w' => e = .returned (.tuple #[.slice Option.none 0 0, .int .i64 0, .int .i64 61]) ∧ Upd (fun _ => False) wr w') := Lib.hid PA
      have TX := Lib.hid (show target = (L, [], true) by rw [TG.out, Lin.all_bad hp]; simp)
      clear hp
      go_wp2_with fail
      refine PA.out.mono ?_
      rintro e w2 ⟨rfl, u2⟩
      have U2 := Lib.hid (upd0 U.out u2)
      have R2 := Lib.hid (RO.out.keep0 u2)
      clear u2
      go_wp2
      go_ret3
      rw [TX.out]
      exact ⟨⟨_, rfl, R2.out⟩, U2.out⟩
    | short =>
      rw [hp] at PA
      have PA : Hid (Calls Tryd.prog 12 #[.string (ofL r)] wr fun e w' => e = .returned (.tuple #[.slice Option.none 0 0, .int .i64 0, .int .i64 0]) ∧ Upd (fun _ => False) wr w') := Lib.hid PA
      have TX := Lib.hid (show target = (L, r, false) by rw [TG.out, Lin.all_short hp]; simp)
      clear hp
      go_wp2_with fail
      refine PA.out.mono ?_
      rintro e w2 ⟨rfl, u2⟩
      have U2 := Lib.hid (upd0 U.out u2)
      have R2 := Lib.hid (RO.out.keep0 u2)
      clear u2
      go_wp2
      go_ret3
      rw [TX.out]
      exact ⟨⟨_, rfl, R2.out⟩, U2.out⟩
    | there l n =>
      rw [hp] at PA
      obtain ⟨n1, n2, n3⟩ := Lin.parse_there hp
      have PA : Hid (Calls Tryd.prog 12 #[.string (ofL r)] wr fun e w' => (∃ v, e = .returned (.tuple #[v, .int .i64 (n : Int), .int .i64 0]) ∧ TxtsO w' wr.heap.size v l) ∧ Upd (fun _ => False) wr w') := Lib.hid PA
      have TX := Lib.hid (show target = (if l = [] then L ++ (Lin.all (r.drop n)).1 else (L ++ [l]) ++ (Lin.all (r.drop n)).1, (Lin.all (r.drop n)).2) by
        rw [TG.out, Lin.all_there hp]
        by_cases h : l = []
        · simp [h]
        · simp [h])
      have rd := run_drop r (n : Int) (by omega) (by omega)
      rw [Int.toNat_natCast] at rd
      have hn0 : ((n : Int) == 0) = false := by rw [beq_eq_false_iff_ne]; omega
      have hdl : (r.drop n).length = r.length - n := List.length_drop
      have hr0 : 1 ≤ r.length := by omega
      have SZ : Hid ((ofL (r.drop n)).size < (ofL r).size) := Lib.hid (by rw [ofL_size, ofL_size]; omega)
      clear hp
      generalize r.drop n = r2 at *
      have hr2 : r2.length ≤ 100000 := by omega
      have hr3 : L.length + 1 + r2.length ≤ 100000 := by omega
      clear hdl
      go_wp2_with fail
      refine PA.out.mono ?_
      rintro e w2 ⟨⟨v, rfl, ht⟩, u2⟩
      have U2 := Lib.hid (upd0 U.out u2)
      have R2 := RO.out.keep0 u2
      have ht2 : TxtsO w2 w.heap.size v l := ht.mono U.out.size
      obtain ⟨pv, cv, rfl, _, _⟩ := ht2.slice
      by_cases hle : l = []
      · have q0 : ¬ (0 : Int) < (l.length : Int) := by rw [hle]; simp
        have TX := Lib.hid (show target = (L ++ (Lin.all r2).1, (Lin.all r2).2) by rw [TX.out, if_pos hle])
        have R2 := Lib.hid R2
        clear hle ht ht2 u2
        go_wp2
        go_roundw
        case rel => exact ⟨r2, L, rfl, rfl, rfl, rfl, hr2, by omega, TX, R2, U2⟩
        case measure => exact SZ.out
      · have q0 : (0 : Int) < (l.length : Int) := by have := List.length_pos_iff.2 hle; omega
        have TX := Lib.hid (show target = ((L ++ [l]) ++ (Lin.all r2).1, (Lin.all r2).2) by rw [TX.out, if_neg hle])
        obtain ⟨p6, k6, w6, hr1, i6, u6, n6⟩ := rows_app w2 w.heap.size _ L _ l R2 ht2 (by omega) U2.out.size
        have I6 := Lib.hid i6
        have U6 := Lib.hid (upd_rows R2 U2.out u6)
        clear hle ht ht2 u2 R2 i6 u6 n6
        go_wp2_with (at_builtin; refine wpList_builtinN rfl _ _ 37 rfl _ _ rfl rfl hr1 ?_)
        go_wp2
        go_roundw
        case rel => exact ⟨r2, L ++ [l], rfl, rfl, rfl, rfl, hr2, by simp; omega, TX, I6, U6⟩
        case measure => exact SZ.out
end Go.Proofs.YtkemjjhmabemiaaDoor
/- Walk: LinesFeeds. -/
set_option linter.unusedVariables false
set_option linter.unusedSimpArgs false
namespace Go.Proofs.YtkemjjhmabemiaaDoor
open Go.RowKit
open Lin (Txt)

/-- The part of a slice from i to j. -/
theorem BAt.mid {w : World} {p : Option Addr} {cap : Nat} {l : Txt} (h : BAt w p cap l) (i j : Nat) (hij : i ≤ j) (hj : j ≤ l.length) :
    ∃ p' c', (∀ w', (Instr.slice 27 (.slice p l.length cap) (some (.int .i64 (i : Int))) (some (.int .i64 (j : Int))) none).run Tryd.prog w' = .ok (.slice p' ((l.take j).drop i).length c') w') ∧ BAt w p' c' ((l.take j).drop i) := by
  have h1 := h.1.1
  have h2 := h.2.1
  have hl : ((l.take j).drop i).length = j - i := by rw [List.length_drop, List.length_take]; omega
  refine ⟨if cap = i then p else p.map (·.add (i * 1)), cap - i, fun w' => ?_, ⟨⟨by rw [hl]; omega, fun e => ?_⟩, by omega, ?_⟩⟩
  · rw [run_slice_lh (P := Tryd.prog) w' 27 p l.length cap (by rw [bytes_elem]; exact Tryd.underlying27) .i64 .i64 (i : Int) (j : Int) (by omega) (by omega) (by omega), bytes_elem, sizeU8]
    simp only [Result.andThen, sliced, Int.toNat_natCast, hl]
  · split at e
    · omega
    · cases p with
      | none => have := h.1.2 rfl; omega
      | some a => simp at e
  · by_cases he : (l.take j).drop i = []
    · exact Or.inl he
    · right
      have hlt : i < j := by
        rcases Nat.lt_or_ge i j with h | h
        · exact h
        · exact absurd (List.length_eq_zero_iff.1 (by omega)) he
      obtain ⟨g, o, rfl, hg, hc⟩ := h.at (by rintro rfl; simp at he)
      rw [if_neg (by omega)]
      refine ⟨g, o + i, by simp [Addr.add], hg, fun k c hk => ?_⟩
      rw [List.getElem?_drop, List.getElem?_take] at hk
      split at hk
      · rw [Nat.add_assoc]; exact hc _ _ hk
      · cases hk
theorem LSt.types {w : World} {base a : Nat} {rest : Txt} {bad : Bool} {E : Nat → Prop} (h : LSt w base a rest bad E) {k : Nat} (hk : E k) : ∃ cs, Blk w k cs 62 ∨ Blk w k cs 5 := by
  obtain ⟨p, cap, h1, h2, h3, h4⟩ := h
  rcases (h4 k).1 hk with rfl | ⟨o, e⟩
  · exact ⟨_, Or.inl h1⟩
  · rcases h3.2 with h | ⟨g, o', cs, e', hg, hB, hc⟩
    · rw [h] at e; cases e
    · rw [e'] at e; cases e; exact ⟨cs, Or.inr hB⟩
theorem rows_apart {w : World} {base a : Nat} {rest : Txt} {bad : Bool} {E : Nat → Prop} (h : LSt w base a rest bad E) {b : Nat} (hb : ∃ cs, Blk w b cs 23 ∨ Blk w b cs 9) : ¬ E b := by
  intro he
  obtain ⟨cs, h1⟩ := hb
  obtain ⟨cs', h2⟩ := h.types he
  rcases h1 with h1 | h1 <;> rcases h2 with h2 | h2 <;> exact absurd (blk_ty h1 h2) (by decide)
theorem RowsO.blk {w : World} {base : Nat} {v : Value} {L : List (List Txt)} (h : RowsO w base v L) {b : Nat} (hb : v.ownBlock = some b) : ∃ cs, Blk w b cs 23 := by
  obtain ⟨vs, h1, _⟩ := h
  exact (h1.lt hb).2.2
theorem upd_lst {w w1 w2 : World} {a : Nat} {rest : Txt} {bad : Bool} {E : Nat → Prop} (ho : LSt w1 w.heap.size a rest bad E) (u : Upd (fun _ => False) w w1) (h : Upd E w1 w2) : Upd (fun _ => False) w w2 :=
  u.trans h (fun i hi e => by have := (ho.ge e).1; omega)
def intc (n : Int) : List Value := [.int .i64 n]
/-- What is known ahead of the next command. -/
def Mid (S : Txt) (G : List (List Txt)) (r : Txt) (b : Bool) : Prop := if b = true then Lin.all S = (G, [], true) ∧ r = [] else Lin.all S = (G ++ (Lin.all r).1, (Lin.all r).2)
theorem mid_feed {S T : Txt} {G : List (List Txt)} {r : Txt} {b : Bool} (h : Lin.all S = (G, r, b)) : Mid (S ++ T) G (if b then r else r ++ T) b := by
  unfold Mid
  rw [Lin.all_more, h]
  cases b with
  | true =>
    rw [if_pos rfl, if_pos rfl]
    have := Lin.all_bad_rest _ S (Nat.lt_succ_self _) (by rw [h])
    rw [h] at this
    exact ⟨rfl, this⟩
  | false =>
    rw [if_neg (by simp), if_neg (by simp)]
    simp
theorem mid_bad {S : Txt} {G : List (List Txt)} {r : Txt} (h : Mid S G r true) : Lin.all S = (G, r, true) := by
  unfold Mid at h
  rw [if_pos rfl] at h
  rw [h.1, h.2]
theorem mid_none {S : Txt} {G : List (List Txt)} {r : Txt} (h : Mid S G r false) (hn : (Lin.next r).1 = none) : Lin.all S = (G, (Lin.next r).2.1, (Lin.next r).2.2) := by
  unfold Mid at h
  rw [if_neg (by simp)] at h
  have := Lin.all_next _ r (Nat.lt_succ_self _)
  rw [hn] at this
  rw [h, this]; simp
theorem mid_some {S : Txt} {G : List (List Txt)} {r : Txt} {lw : List Txt} (h : Mid S G r false) (hn : (Lin.next r).1 = some lw) : Mid S (G ++ [lw]) (Lin.next r).2.1 false := by
  unfold Mid at h ⊢
  rw [if_neg (by simp)] at h ⊢
  have := Lin.all_next _ r (Nat.lt_succ_self _)
  rw [hn] at this
  rw [h, this]; simp
theorem lst_apart {w : World} {base b2 a : Nat} {rest : Txt} {bad : Bool} {E : Nat → Prop} (h : LSt w base a rest bad E) {v : Value} {L : List (List Txt)} (hv : RowsO w b2 v L) : ∀ k, E k → ¬ v.ownBlock = some k := by
  intro k hk he
  obtain ⟨cs, h1⟩ := hv.blk he
  exact rows_apart h ⟨cs, Or.inl h1⟩ hk
/-- Where a reading from bytes in pieces stands. -/
structure Fed (w2 wx : World) (a : Nat) (v9 : Value) (G : List (List Txt)) (r : Txt) (b : Bool) (E : Nat → Prop) : Prop where
  ls : LSt wx w2.heap.size a r b E
  ro : RowsO wx w2.heap.size v9 G
  up : Upd (fun _ => False) w2 wx
theorem Fed.step {w2 wx wy : World} {a : Nat} {v9 : Value} {G : List (List Txt)} {r r' : Txt} {b b' : Bool} {E E' : Nat → Prop} (h : Fed w2 wx a v9 G r b E) (u : Upd E wx wy) (hL : LSt wy w2.heap.size a r' b' E') : Fed w2 wy a v9 G r' b' E' :=
  ⟨hL, h.ro.keep u (fun b _ _ hb => rows_apart h.ls hb), upd_lst h.ls h.up u⟩
set_option maxHeartbeats 8000000 in
set_option maxRecDepth 100000 in
theorem lawFeeds (q : Option Addr) (c : Nat) (l : Txt) (v1 : Value) (cuts : List Int) (w : World) (hb : BAt w q c l) (hc : RowOf intc 1 w v1 cuts) (hi : ∀ n ∈ cuts, -9223372036854775808 ≤ n ∧ n ≤ 9223372036854775807) (hs : Std w) :
    Calls Tryd.prog 5 #[.slice q l.length c, v1] w fun e w' => e = .returned (.bool true) ∧ Upd (fun _ => False) w w' := by
  have AL := Lib.hid (alive_any w hs)
  have hle := hb.le
  obtain ⟨p1, k1, rfl, hcl⟩ := hc.len
  unfold maxLen at hle hcl
  have HS := Lib.hid hs
  have HB := Lib.hid hb
  have HC := Lib.hid hc
  have HI := Lib.hid hi
  clear hb hs hc hi
  by_cases h1 : 4000 < l.length
  · have q1 : (4000 : Int) < (l.length : Int) := by omega
    go_enter Tryd.func5, Tryd.ntmps5
    go_wp2_with fail
    refine (AL.out).mono ?_
    rintro e w1 ⟨rfl, u1⟩
    go_wp2
    go_ret
    exact ⟨rfl, u1⟩
  have q1 : ¬ (4000 : Int) < (l.length : Int) := by omega
  by_cases h2 : 50 < cuts.length
  · have q2 : (50 : Int) < (cuts.length : Int) := by omega
    go_enter Tryd.func5, Tryd.ntmps5
    go_wp2_with fail
    refine (AL.out).mono ?_
    rintro e w1 ⟨rfl, u1⟩
    go_wp2
    go_ret
    exact ⟨rfl, u1⟩
  have q2 : ¬ (50 : Int) < (cuts.length : Int) := by omega
  go_enter Tryd.func5, Tryd.ntmps5
  go_wp2_with fail
  refine (AL.out).mono ?_
  rintro e w1 ⟨rfl, u1⟩
  have U1 := Lib.hid u1
  have hst := (HB.out.keep0 u1).str
  have RA := Lib.hid (rall_any l (by omega) w1)
  clear u1
  go_wp2_with fail
  refine RA.out.mono ?_
  rintro e w2 ⟨⟨v5, rfl, hr5⟩, u2⟩
  obtain ⟨p5, c5, rfl⟩ := hr5.slice
  have R5 := Lib.hid hr5
  have U2 := Lib.hid (upd0 U1.out u2)
  have HS2 := Lib.hid (HS.out.keep U2.out)
  have HB := Lib.hid (HB.out.keep0 U2.out)
  have HC := Lib.hid (HC.out.keep U2.out (fun _ _ _ => id))
  obtain ⟨x, hx⟩ : ∃ x, Lin.all l = x := ⟨_, rfl⟩
  have HX := Lib.hid hx
  rw [hx] at R5 ⊢
  have hxs := ofL_size x.2.1
  clear hr5 u2 hst hx
  have NW := Lib.hid (new_any w2)
  go_wp2_with fail
  refine NW.out.mono ?_
  rintro e w3 ⟨rfl, ⟨E, hL⟩, u3⟩
  have F0 := Lib.hid (show Fed w2 (w3.alloc (.cells #[] 23)) w2.heap.size (.slice (some ⟨w3.heap.size, 0, none⟩) 0 0) [] [] false E from
    ⟨hL.keep0 ((Upd.refl _ _).alloc _), (RowsO.made w3).mono u3.size, u3.alloc _⟩)
  obtain ⟨a, ha⟩ : ∃ a, a = w2.heap.size := ⟨_, rfl⟩
  have F0 : Hid (Fed w2 (w3.alloc (.cells #[] 23)) a (.slice (some ⟨w3.heap.size, 0, none⟩) 0 0) [] [] false E) := by rw [ha]; exact F0
  unfold ptr
  rw [← ha]
  clear hL u3 ha
  go_wp2
  go_loopg [9, 10, 11, 12] (cuts.length + 1) (fun g v9 v10 v11 v12 wx => ∃ (k A : Nat) (G : List (List Txt)) (r : Txt) (b : Bool) (E : Nat → Prop), g + k = cuts.length + 1 ∧ v12 = .int .i64 (k : Int) ∧ v11 = .int .i64 (A : Int) ∧ v10 = .int .i64 (errOf b) ∧ A ≤ l.length ∧ r.length + G.length ≤ A ∧ Hid (k = cuts.length + 1 → A = l.length) ∧ Hid (Lin.all (l.take A) = (G, r, b)) ∧ Hid (Fed w2 wx a v9 G r b E))
  case atStart => exact ⟨0, 0, [], [], false, E, by omega, rfl, rfl, rfl, by omega, by simp, Lib.hid (fun h => by omega), Lib.hid (by rw [List.take_zero, Lin.all_short rfl]), F0⟩
  case round =>
    clear F0
    obtain ⟨k, A, G, r, b, E1, hgk, rfl, rfl, rfl, hAl, hrG, HLA, HALL, FE⟩ := hrel
    by_cases hk : k ≤ cuts.length
    · have q3 : (k : Int) ≤ (cuts.length : Int) := by omega
      by_cases hk2 : k < cuts.length
      · have q4 : (k : Int) < (cuts.length : Int) := by omega
        obtain ⟨n, hn⟩ : ∃ n, cuts[k]? = some n := ⟨_, List.getElem?_eq_getElem hk2⟩
        have hni := HI.out n (List.mem_of_getElem? hn)
        obtain ⟨b7, o7, c7, e7, hb7, _, hc7⟩ : ∃ b off cap, Value.slice p1 cuts.length k1 = .slice (some ⟨b, off, none⟩) cuts.length cap ∧ b < w2.heap.size ∧ cuts.length ≤ maxLen ∧ ∀ i a, cuts[i]? = some a → ∀ j, j < 1 → w2.cell? ⟨b, off + (i * 1 + j), none⟩ = (intc a)[j]? := by
          rcases HC.out with ⟨_, _, _, e⟩ | h
          · rw [e] at hk2; simp at hk2
          · exact h
        have hcell0 : w2.cell? ⟨b7, o7 + k, none⟩ = some (.int .i64 n) := by have := hc7 k n hn 0 (by omega); simpa [intc] using this
        have hcell : wr.cell? ⟨b7, o7 + k, none⟩ = some (.int .i64 n) := (FE.out.up.cell (p := ⟨b7, o7 + k, none⟩) hb7 id).trans hcell0
        simp only [Value.slice.injEq] at e7
        obtain ⟨rfl, _, rfl⟩ := e7
        obtain ⟨A2, hA2e⟩ : ∃ A2 : Nat, (A2 : Int) = max (A : Int) (min n (l.length : Int)) := ⟨(max (A : Int) (min n (l.length : Int))).toNat, by omega⟩
        have hA : A ≤ A2 := by omega
        have hA2 : A2 ≤ l.length := by omega
        have hmm := hA2e.symm
        clear hc7 hcell0 hn hA2e
        -- the piece from A on, $TO$ facts laid: walk to Feed
        obtain ⟨pm, cm, hsl, hbm⟩ := (HB.out.keep0 FE.out.up).mid A (A2) hA hA2
        have hpl : ((l.take (A2)).drop A).length = (A2) - A := by rw [List.length_drop, List.length_take]; omega
        have hsplit : l.take (A2) = l.take A ++ (l.take (A2)).drop A := by
          conv => lhs; rw [← List.take_append_drop A (l.take (A2))]
          rw [List.take_take, Nat.min_eq_left hA]
        have MF := Lib.hid (mid_feed (T := (l.take (A2)).drop A) HALL.out)
        rw [← hsplit] at MF
        have FD := feed_any wr FE.out.ls pm cm _ hbm (by rw [hpl]; omega) FE.out.up.size
        unfold ptr at FD
        have FD := Lib.hid FD
        have hlen2 : (if b then r else r ++ (l.take (A2)).drop A).length ≤ r.length + ((A2) - A) := by
          cases b with
          | true => simp
          | false => simp [hpl]
        generalize hr2 : (if b then r else r ++ (l.take (A2)).drop A) = r2 at *
        generalize (l.take (A2)).drop A = piece at *
        clear hbm hsplit hpl hr2
        go_wp2_with fail
        refine FD.out.mono ?_
        rintro e w4 ⟨rfl, ⟨E4, hL4, hE4⟩, u4⟩
        have F4 := Lib.hid (FE.out.step u4 hL4)
        clear hL4 hE4 u4
        go_wp2
        obtain ⟨wo, rfl⟩ : ∃ wo, wo = w4 := ⟨_, rfl⟩
        go_loopg [9, 10] r2.length (fun g2 v9 v10 wx => ∃ G r b E x, r.length = g2 ∧ v10 = .int .i64 x ∧ r.length + G.length ≤ (A2) ∧ Hid (Mid (l.take (A2)) G r b) ∧ Hid (Fed w2 wx a v9 G r b E))
        case atStart => exact ⟨G, r2, b, E4, _, rfl, rfl, by omega, MF, F4⟩
        case round =>
          clear MF F4 FE HALL
          obtain ⟨G3, r3, b3, E3, x3, hr3, rfl, hG3, MI, F3⟩ := hrel
          subst hr3
          obtain ⟨p9, c9, e9⟩ := F3.out.ro.slice
          subst e9
          cases b3 with
          | true =>
            have NB := nextBad_any wr F3.out.ls
            unfold ptr at NB
            have NB := Lib.hid NB
            have DONE := Lib.hid (mid_bad MI.out)
            go_wp2_with fail
            refine NB.out.mono ?_
            rintro e w5 ⟨rfl, hL5, u5⟩
            have F5 := Lib.hid (show Fed w2 w5 a _ G3 r3 true E3 from ⟨hL5, F3.out.ro.keep0 u5, upd0 F3.out.up u5⟩)
            clear hL5 u5
            go_wp2
            go_roundg (cuts.length - k)
            case measure => omega
            case rel => exact ⟨k + 1, (A2), G3, r3, true, E3, by omega, by go_num, rfl, rfl, hA2, by omega, Lib.hid (fun h => by omega), DONE, F5⟩
          | false =>
            have NX := next_any wr F3.out.ls (HS2.out.keep F3.out.up) (by omega) HS2.out.six F3.out.up.size
            unfold ptr at NX
            have hle := Lin.next_le _ r3 (Nat.lt_succ_self _)
            have NX := Lib.hid NX
            cases hnx : (Lin.next r3).1 with
            | none =>
              have DONE := Lib.hid (mid_none MI.out hnx)
              have NX : Hid (Calls Tryd.prog 18 #[.pointer (some ⟨a, 0, none⟩)] wr fun e w' => e = .returned (.tuple #[.slice none 0 0, .bool false, .int .i64 (errOf (Lin.next r3).2.2)]) ∧ (∃ E', LSt w' w2.heap.size a (Lin.next r3).2.1 (Lin.next r3).2.2 E' ∧ ∀ k, E' k → E3 k) ∧ Upd E3 wr w') := by
                have := NX.out
                unfold XRes at this
                rw [hnx] at this
                exact Lib.hid this
              have hle1 := hle.1
              clear hnx hle
              generalize (Lin.next r3).2.1 = r5 at *
              generalize (Lin.next r3).2.2 = b5 at *
              go_wp2_with fail
              refine NX.out.mono ?_
              rintro e w5 ⟨rfl, ⟨E5, hL5, hE5⟩, u5⟩
              have F5 := Lib.hid (F3.out.step u5 hL5)
              clear hL5 hE5 u5
              go_wp2
              go_roundg (cuts.length - k)
              case measure => omega
              case rel => exact ⟨k + 1, (A2), G3, r5, b5, E5, by omega, by go_num, rfl, rfl, hA2, by omega, Lib.hid (fun h => by omega), DONE, F5⟩
            | some lw =>
              have MS := Lib.hid (mid_some MI.out hnx)
              have hle2 := (hle.2 (by rw [hnx]; rfl))
              have NX : Hid (Calls Tryd.prog 18 #[.pointer (some ⟨a, 0, none⟩)] wr fun e w' => (∃ v, e = .returned (.tuple #[v, .bool true, .int .i64 0]) ∧ TxtsO w' wr.heap.size v lw) ∧ (∃ E', LSt w' w2.heap.size a (Lin.next r3).2.1 (Lin.next r3).2.2 E' ∧ ∀ k, E' k → E3 k) ∧ Upd E3 wr w') := by
                have := NX.out
                unfold XRes at this
                rw [hnx] at this
                exact Lib.hid this
              rw [hle2.2] at NX
              have hle3 := hle2.1
              clear hnx hle hle2
              generalize (Lin.next r3).2.1 = r5 at *
              go_wp2_with fail
              refine NX.out.mono ?_
              rintro e w5 ⟨⟨v, rfl, ht⟩, ⟨E5, hL5, hE5⟩, u5⟩
              have f5 := F3.out.step u5 hL5
              have ht2 : TxtsO w5 w2.heap.size v lw := ht.mono F3.out.up.size
              obtain ⟨pv, cv, rfl, _, _⟩ := ht2.slice
              obtain ⟨p6, k6, w6, hr1, i6, u6, n6⟩ := rows_app w5 w2.heap.size _ G3 _ lw f5.ro ht2 (by omega) f5.up.size
              have F6 := Lib.hid (show Fed w2 w6 a _ (G3 ++ [lw]) r5 false E5 from ⟨f5.ls.keep u6 (lst_apart f5.ls f5.ro), i6, upd_rows f5.ro f5.up u6⟩)
              clear hL5 hE5 u5 ht ht2 f5 i6 u6 n6
              go_wp2_with (at_builtin; refine wpList_builtinN rfl _ _ 37 rfl _ _ rfl rfl hr1 ?_)
              go_wp2
              go_roundg r5.length
              case measure => omega
              case rel => exact ⟨G3 ++ [lw], r5, false, E5, _, rfl, rfl, by simp; omega, MS, F6⟩
      · have q4 : ¬ (k : Int) < (cuts.length : Int) := by omega
        have hA : A ≤ l.length := hAl
        have hA2 : l.length ≤ l.length := Nat.le_refl _
        -- the piece from A on, $TO$ facts laid: walk to Feed
        obtain ⟨pm, cm, hsl, hbm⟩ := (HB.out.keep0 FE.out.up).mid A (l.length) hA hA2
        have hpl : ((l.take (l.length)).drop A).length = (l.length) - A := by rw [List.length_drop, List.length_take]; omega
        have hsplit : l.take (l.length) = l.take A ++ (l.take (l.length)).drop A := by
          conv => lhs; rw [← List.take_append_drop A (l.take (l.length))]
          rw [List.take_take, Nat.min_eq_left hA]
        have MF := Lib.hid (mid_feed (T := (l.take (l.length)).drop A) HALL.out)
        rw [← hsplit] at MF
        have FD := feed_any wr FE.out.ls pm cm _ hbm (by rw [hpl]; omega) FE.out.up.size
        unfold ptr at FD
        have FD := Lib.hid FD
        have hlen2 : (if b then r else r ++ (l.take (l.length)).drop A).length ≤ r.length + ((l.length) - A) := by
          cases b with
          | true => simp
          | false => simp [hpl]
        generalize hr2 : (if b then r else r ++ (l.take (l.length)).drop A) = r2 at *
        generalize (l.take (l.length)).drop A = piece at *
        clear hbm hsplit hpl hr2
        go_wp2_with fail
        refine FD.out.mono ?_
        rintro e w4 ⟨rfl, ⟨E4, hL4, hE4⟩, u4⟩
        have F4 := Lib.hid (FE.out.step u4 hL4)
        clear hL4 hE4 u4
        go_wp2
        obtain ⟨wo, rfl⟩ : ∃ wo, wo = w4 := ⟨_, rfl⟩
        go_loopg [9, 10] r2.length (fun g2 v9 v10 wx => ∃ G r b E x, r.length = g2 ∧ v10 = .int .i64 x ∧ r.length + G.length ≤ (l.length) ∧ Hid (Mid (l.take (l.length)) G r b) ∧ Hid (Fed w2 wx a v9 G r b E))
        case atStart => exact ⟨G, r2, b, E4, _, rfl, rfl, by omega, MF, F4⟩
        case round =>
          clear MF F4 FE HALL
          obtain ⟨G3, r3, b3, E3, x3, hr3, rfl, hG3, MI, F3⟩ := hrel
          subst hr3
          obtain ⟨p9, c9, e9⟩ := F3.out.ro.slice
          subst e9
          cases b3 with
          | true =>
            have NB := nextBad_any wr F3.out.ls
            unfold ptr at NB
            have NB := Lib.hid NB
            have DONE := Lib.hid (mid_bad MI.out)
            go_wp2_with fail
            refine NB.out.mono ?_
            rintro e w5 ⟨rfl, hL5, u5⟩
            have F5 := Lib.hid (show Fed w2 w5 a _ G3 r3 true E3 from ⟨hL5, F3.out.ro.keep0 u5, upd0 F3.out.up u5⟩)
            clear hL5 u5
            go_wp2
            go_roundg (cuts.length - k)
            case measure => omega
            case rel => exact ⟨k + 1, (l.length), G3, r3, true, E3, by omega, by go_num, rfl, rfl, hA2, by omega, Lib.hid (fun _ => rfl), DONE, F5⟩
          | false =>
            have NX := next_any wr F3.out.ls (HS2.out.keep F3.out.up) (by omega) HS2.out.six F3.out.up.size
            unfold ptr at NX
            have hle := Lin.next_le _ r3 (Nat.lt_succ_self _)
            have NX := Lib.hid NX
            cases hnx : (Lin.next r3).1 with
            | none =>
              have DONE := Lib.hid (mid_none MI.out hnx)
              have NX : Hid (Calls Tryd.prog 18 #[.pointer (some ⟨a, 0, none⟩)] wr fun e w' => e = .returned (.tuple #[.slice none 0 0, .bool false, .int .i64 (errOf (Lin.next r3).2.2)]) ∧ (∃ E', LSt w' w2.heap.size a (Lin.next r3).2.1 (Lin.next r3).2.2 E' ∧ ∀ k, E' k → E3 k) ∧ Upd E3 wr w') := by
                have := NX.out
                unfold XRes at this
                rw [hnx] at this
                exact Lib.hid this
              have hle1 := hle.1
              clear hnx hle
              generalize (Lin.next r3).2.1 = r5 at *
              generalize (Lin.next r3).2.2 = b5 at *
              go_wp2_with fail
              refine NX.out.mono ?_
              rintro e w5 ⟨rfl, ⟨E5, hL5, hE5⟩, u5⟩
              have F5 := Lib.hid (F3.out.step u5 hL5)
              clear hL5 hE5 u5
              go_wp2
              go_roundg (cuts.length - k)
              case measure => omega
              case rel => exact ⟨k + 1, (l.length), G3, r5, b5, E5, by omega, by go_num, rfl, rfl, hA2, by omega, Lib.hid (fun _ => rfl), DONE, F5⟩
            | some lw =>
              have MS := Lib.hid (mid_some MI.out hnx)
              have hle2 := (hle.2 (by rw [hnx]; rfl))
              have NX : Hid (Calls Tryd.prog 18 #[.pointer (some ⟨a, 0, none⟩)] wr fun e w' => (∃ v, e = .returned (.tuple #[v, .bool true, .int .i64 0]) ∧ TxtsO w' wr.heap.size v lw) ∧ (∃ E', LSt w' w2.heap.size a (Lin.next r3).2.1 (Lin.next r3).2.2 E' ∧ ∀ k, E' k → E3 k) ∧ Upd E3 wr w') := by
                have := NX.out
                unfold XRes at this
                rw [hnx] at this
                exact Lib.hid this
              rw [hle2.2] at NX
              have hle3 := hle2.1
              clear hnx hle hle2
              generalize (Lin.next r3).2.1 = r5 at *
              go_wp2_with fail
              refine NX.out.mono ?_
              rintro e w5 ⟨⟨v, rfl, ht⟩, ⟨E5, hL5, hE5⟩, u5⟩
              have f5 := F3.out.step u5 hL5
              have ht2 : TxtsO w5 w2.heap.size v lw := ht.mono F3.out.up.size
              obtain ⟨pv, cv, rfl, _, _⟩ := ht2.slice
              obtain ⟨p6, k6, w6, hr1, i6, u6, n6⟩ := rows_app w5 w2.heap.size _ G3 _ lw f5.ro ht2 (by omega) f5.up.size
              have F6 := Lib.hid (show Fed w2 w6 a _ (G3 ++ [lw]) r5 false E5 from ⟨f5.ls.keep u6 (lst_apart f5.ls f5.ro), i6, upd_rows f5.ro f5.up u6⟩)
              clear hL5 hE5 u5 ht ht2 f5 i6 u6 n6
              go_wp2_with (at_builtin; refine wpList_builtinN rfl _ _ 37 rfl _ _ rfl rfl hr1 ?_)
              go_wp2
              go_roundg r5.length
              case measure => omega
              case rel => exact ⟨G3 ++ [lw], r5, false, E5, _, rfl, rfl, by simp; omega, MS, F6⟩
    · have q3 : ¬ (k : Int) ≤ (cuts.length : Int) := by omega
      have hAe := HLA.out (by omega)
      have hall : x = (G, r, b) := by
        have := HALL.out
        rw [hAe, List.take_length, HX.out] at this
        exact this
      subst hall
      have LF := left_any wr FE.out.ls
      unfold ptr at LF
      have LF := Lib.hid LF
      obtain ⟨p9, c9, e9⟩ := FE.out.ro.slice
      subst e9
      have R5k := Lib.hid (R5.out.keep0 FE.out.up)
      have hxs : (ofL r).size = r.length := hxs
      have hne : ((G.length : Int) != (G.length : Int)) = false := by simp
      have hne2 : (errOf b != errOf b) = false := by simp
      have hne3 : ((r.length : Int) != (r.length : Int)) = false := by simp
      have UF := Lib.hid (upd0 U2.out FE.out.up)
      have RO := Lib.hid FE.out.ro
      have hG : G.length ≤ 4000 := by omega
      clear HALL HLA hAe R5 FE
      go_wp2_with (go_at_call 19; refine LF.out.mono ?_; rintro e w5 ⟨rfl, rfl⟩)
      have RO := RO
      go_loopw [4, 97] (fun v4 v97 wx => ∃ j : Nat, v4 = .bool false ∧ v97 = .int .i64 (j : Int) ∧ j ≤ G.length ∧ Hid (RowsO wx w2.heap.size (.slice p9 G.length c9) G) ∧ Hid (RowsO wx w1.heap.size (.slice p5 G.length c5) G) ∧ Hid (Upd (fun _ => False) w wx)) (fun _ v97 _ => G.length - (intOf v97).toNat)
      case atStart => exact ⟨0, rfl, rfl, by omega, RO, R5k, UF⟩
      case round =>
        clear RO R5k UF
        obtain ⟨j, rfl, rfl, hj, RO, R5, U⟩ := hrel
        by_cases hjl : j < G.length
        · have q5 : (j : Int) < (G.length : Int) := by omega
          obtain ⟨li, hli⟩ : ∃ li, G[j]? = some li := ⟨_, List.getElem?_eq_getElem hjl⟩
          obtain ⟨g1, vi, rfl, hg1, hc1, ht1⟩ := RO.out.get hli
          obtain ⟨g2, vj, rfl, hg2, hc2, ht2⟩ := R5.out.get hli
          obtain ⟨pi, ci, rfl, _, _⟩ := ht1.slice
          obtain ⟨pj, cj, rfl, _, _⟩ := ht2.slice
          have SM : Hid (∀ n, Calls Tryd.prog 14 #[.slice pi li.length ci, .slice pj li.length cj] (wr.drewN n) fun e w' => e = .returned (.bool true) ∧ ∃ m, w' = (wr.drewN n).drewN m) := Lib.hid (fun n => by
            have := same_any _ _ _ _ (wr.drewN n) ((ht1.keep0 ((Upd.refl _ _).drewN n)).row tcs_len) ((ht2.keep0 ((Upd.refl _ _).drewN n)).row tcs_len)
            rw [decide_eq_true rfl] at this
            exact this)
          clear hli ht1 ht2
          go_wp2
          go_quiet ((go_at_call 14; exact Calls.quiet_of (SM.out _)))
          go_wp2
          go_roundw
          case rel => exact ⟨j + 1, rfl, by go_num, by omega, Lib.hid (RO.out.keep0 ((Upd.refl _ _).drewN nq)), Lib.hid (R5.out.keep0 ((Upd.refl _ _).drewN nq)), Lib.hid (U.out.drewN nq)⟩
          case measure => simp [intOf]; omega
        · have q5 : ¬ (j : Int) < (G.length : Int) := by omega
          go_wp2
          go_ret
          exact ⟨rfl, U.out⟩
end Go.Proofs.YtkemjjhmabemiaaDoor
