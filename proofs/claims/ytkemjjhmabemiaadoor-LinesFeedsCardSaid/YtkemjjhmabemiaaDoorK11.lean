/- Walk: LinesFeeds. -/
import Derived.Test.YtkemjjhmabemiaaDoorK10
import Derived.Test.YtkemjjhmabemiaaDoorRows
import Derived.Test.YtkemjjhmabemiaaDoorK07
import Derived.ProofKit
import Derived.LaidMore
import Derived.Lay
import Derived.OpenShut
import Derived.Stop.Joined
import Derived.Stop.LaidErr
import Derived.Lib.LaidTab
import Derived.Test.YtkemjjhmabemiaaDoorK03
import Derived.Deep.Slices
import Derived.Deep.Fields
import Derived.ChangeSame
set_option linter.unusedVariables false
set_option linter.unusedSimpArgs false
namespace Go.Proofs.YtkemjjhmabemiaaDoor
open Go.RowKit
open Lin (Txt)

/-- The part of a slice from i to j. -/
theorem BAt.mid {w : World} {p : Option Addr} {cap : Nat} {l : Txt} (h : BAt w p cap l) (i j : Nat) (hij : i ≤ j) (hj : j ≤ l.length) :
    ∃ p' c', (∀ w', (Instr.slice 27 (.slice p l.length cap) (some (.int .i64 (i : Int))) (some (.int .i64 (j : Int))) none).run Tryd.prog w' = .ok (.slice p' ((l.take j).drop i).length c') w') ∧ BAt w p' c' ((l.take j).drop i) := by
  have h1 := h.1.1
  have h2 := h.2.1
  have hl : ((l.take j).drop i).length = j - i := by rw [List.length_drop, List.length_take]; omega
  refine ⟨if cap = i then p else p.map (·.add (i * 1)), cap - i, fun w' => ?_, ⟨⟨by rw [hl]; omega, fun e => ?_⟩, by omega, ?_⟩⟩
  · rw [run_slice_lh (P := Tryd.prog) w' 27 p l.length cap (by rw [bytes_elem]; exact Tryd.underlying27) .i64 .i64 (i : Int) (j : Int) (by omega) (by omega) (by omega), bytes_elem, sizeU8]
    simp only [Result.andThen, sliced, Int.toNat_natCast, hl]
  · split at e
    · omega
    · cases p with
      | none => have := h.1.2 rfl; omega
      | some a => simp at e
  · by_cases he : (l.take j).drop i = []
    · exact Or.inl he
    · right
      have hlt : i < j := by
        rcases Nat.lt_or_ge i j with h | h
        · exact h
        · exact absurd (List.length_eq_zero_iff.1 (by omega)) he
      obtain ⟨g, o, rfl, hg, hc⟩ := h.at (by rintro rfl; simp at he)
      rw [if_neg (by omega)]
      refine ⟨g, o + i, by simp [Addr.add], hg, fun k c hk => ?_⟩
      rw [List.getElem?_drop, List.getElem?_take] at hk
      split at hk
      · rw [Nat.add_assoc]; exact hc _ _ hk
      · cases hk
theorem LSt.types {w : World} {base a : Nat} {rest : Txt} {bad : Bool} {E : Nat → Prop} (h : LSt w base a rest bad E) {k : Nat} (hk : E k) : ∃ cs, Blk w k cs 62 ∨ Blk w k cs 5 := by
  obtain ⟨p, cap, h1, h2, h3, h4⟩ := h
  rcases (h4 k).1 hk with rfl | ⟨o, e⟩
  · exact ⟨_, Or.inl h1⟩
  · rcases h3.2 with h | ⟨g, o', cs, e', hg, hB, hc⟩
    · rw [h] at e; cases e
    · rw [e'] at e; cases e; exact ⟨cs, Or.inr hB⟩
theorem rows_apart {w : World} {base a : Nat} {rest : Txt} {bad : Bool} {E : Nat → Prop} (h : LSt w base a rest bad E) {b : Nat} (hb : ∃ cs, Blk w b cs 23 ∨ Blk w b cs 9) : ¬ E b := by
  intro he
  obtain ⟨cs, h1⟩ := hb
  obtain ⟨cs', h2⟩ := h.types he
  rcases h1 with h1 | h1 <;> rcases h2 with h2 | h2 <;> exact absurd (blk_ty h1 h2) (by decide)
theorem RowsO.blk {w : World} {base : Nat} {v : Value} {L : List (List Txt)} (h : RowsO w base v L) {b : Nat} (hb : v.ownBlock = some b) : ∃ cs, Blk w b cs 23 := by
  obtain ⟨vs, h1, _⟩ := h
  exact (h1.lt hb).2.2
theorem upd_lst {w w1 w2 : World} {a : Nat} {rest : Txt} {bad : Bool} {E : Nat → Prop} (ho : LSt w1 w.heap.size a rest bad E) (u : Upd (fun _ => False) w w1) (h : Upd E w1 w2) : Upd (fun _ => False) w w2 :=
  u.trans h (fun i hi e => by have := (ho.ge e).1; omega)
def intc (n : Int) : List Value := [.int .i64 n]
/-- What is known ahead of the next command. -/
def Mid (S : Txt) (G : List (List Txt)) (r : Txt) (b : Bool) : Prop := if b = true then Lin.all S = (G, [], true) ∧ r = [] else Lin.all S = (G ++ (Lin.all r).1, (Lin.all r).2)
theorem mid_feed {S T : Txt} {G : List (List Txt)} {r : Txt} {b : Bool} (h : Lin.all S = (G, r, b)) : Mid (S ++ T) G (if b then r else r ++ T) b := by
  unfold Mid
  rw [Lin.all_more, h]
  cases b with
  | true =>
    rw [if_pos rfl, if_pos rfl]
    have := Lin.all_bad_rest _ S (Nat.lt_succ_self _) (by rw [h])
    rw [h] at this
    exact ⟨rfl, this⟩
  | false =>
    rw [if_neg (by simp), if_neg (by simp)]
    simp
theorem mid_bad {S : Txt} {G : List (List Txt)} {r : Txt} (h : Mid S G r true) : Lin.all S = (G, r, true) := by
  unfold Mid at h
  rw [if_pos rfl] at h
  rw [h.1, h.2]
theorem mid_none {S : Txt} {G : List (List Txt)} {r : Txt} (h : Mid S G r false) (hn : (Lin.next r).1 = none) : Lin.all S = (G, (Lin.next r).2.1, (Lin.next r).2.2) := by
  unfold Mid at h
  rw [if_neg (by simp)] at h
  have := Lin.all_next _ r (Nat.lt_succ_self _)
  rw [hn] at this
  rw [h, this]; simp
theorem mid_some {S : Txt} {G : List (List Txt)} {r : Txt} {lw : List Txt} (h : Mid S G r false) (hn : (Lin.next r).1 = some lw) : Mid S (G ++ [lw]) (Lin.next r).2.1 false := by
  unfold Mid at h ⊢
  rw [if_neg (by simp)] at h ⊢
  have := Lin.all_next _ r (Nat.lt_succ_self _)
  rw [hn] at this
  rw [h, this]; simp
theorem lst_apart {w : World} {base b2 a : Nat} {rest : Txt} {bad : Bool} {E : Nat → Prop} (h : LSt w base a rest bad E) {v : Value} {L : List (List Txt)} (hv : RowsO w b2 v L) : ∀ k, E k → ¬ v.ownBlock = some k := by
  intro k hk he
  obtain ⟨cs, h1⟩ := hv.blk he
  exact rows_apart h ⟨cs, Or.inl h1⟩ hk
/-- Where a reading from bytes in pieces stands. -/
structure Fed (w2 wx : World) (a : Nat) (v9 : Value) (G : List (List Txt)) (r : Txt) (b : Bool) (E : Nat → Prop) : Prop where
  ls : LSt wx w2.heap.size a r b E
  ro : RowsO wx w2.heap.size v9 G
  up : Upd (fun _ => False) w2 wx
theorem Fed.step {w2 wx wy : World} {a : Nat} {v9 : Value} {G : List (List Txt)} {r r' : Txt} {b b' : Bool} {E E' : Nat → Prop} (h : Fed w2 wx a v9 G r b E) (u : Upd E wx wy) (hL : LSt wy w2.heap.size a r' b' E') : Fed w2 wy a v9 G r' b' E' :=
  ⟨hL, h.ro.keep u (fun b _ _ hb => rows_apart h.ls hb), upd_lst h.ls h.up u⟩
set_option maxHeartbeats 8000000 in
set_option maxRecDepth 100000 in
theorem lawFeeds (q : Option Addr) (c : Nat) (l : Txt) (v1 : Value) (cuts : List Int) (w : World) (hb : BAt w q c l) (hc : RowOf intc 1 w v1 cuts) (hi : ∀ n ∈ cuts, -9223372036854775808 ≤ n ∧ n ≤ 9223372036854775807) (hs : Std w) :
    Calls Tryd.prog 5 #[.slice q l.length c, v1] w fun e w' => e = .returned (.bool true) ∧ Upd (fun _ => False) w w' := by
  have AL := Lib.hid (alive_any w hs)
  have hle := hb.le
  obtain ⟨p1, k1, rfl, hcl⟩ := hc.len
  unfold maxLen at hle hcl
  have HS := Lib.hid hs
  have HB := Lib.hid hb
  have HC := Lib.hid hc
  have HI := Lib.hid hi
  clear hb hs hc hi
  by_cases h1 : 4000 < l.length
  · have q1 : (4000 : Int) < (l.length : Int) := by omega
    go_enter Tryd.func5, Tryd.ntmps5
    go_wp2_with fail
    refine (AL.out).mono ?_
    rintro e w1 ⟨rfl, u1⟩
    go_wp2
    go_ret
    exact ⟨rfl, u1⟩
  have q1 : ¬ (4000 : Int) < (l.length : Int) := by omega
  by_cases h2 : 50 < cuts.length
  · have q2 : (50 : Int) < (cuts.length : Int) := by omega
    go_enter Tryd.func5, Tryd.ntmps5
    go_wp2_with fail
    refine (AL.out).mono ?_
    rintro e w1 ⟨rfl, u1⟩
    go_wp2
    go_ret
    exact ⟨rfl, u1⟩
  have q2 : ¬ (50 : Int) < (cuts.length : Int) := by omega
  go_enter Tryd.func5, Tryd.ntmps5
  go_wp2_with fail
  refine (AL.out).mono ?_
  rintro e w1 ⟨rfl, u1⟩
  have U1 := Lib.hid u1
  have hst := (HB.out.keep0 u1).str
  have RA := Lib.hid (rall_any l (by omega) w1)
  clear u1
  go_wp2_with fail
  refine RA.out.mono ?_
  rintro e w2 ⟨⟨v5, rfl, hr5⟩, u2⟩
  obtain ⟨p5, c5, rfl⟩ := hr5.slice
  have R5 := Lib.hid hr5
  have U2 := Lib.hid (upd0 U1.out u2)
  have HS2 := Lib.hid (HS.out.keep U2.out)
  have HB := Lib.hid (HB.out.keep0 U2.out)
  have HC := Lib.hid (HC.out.keep U2.out (fun _ _ _ => id))
  obtain ⟨x, hx⟩ : ∃ x, Lin.all l = x := ⟨_, rfl⟩
  have HX := Lib.hid hx
  rw [hx] at R5 ⊢
  have hxs := ofL_size x.2.1
  clear hr5 u2 hst hx
  have NW := Lib.hid (new_any w2)
  go_wp2_with fail
  refine NW.out.mono ?_
  rintro e w3 ⟨rfl, ⟨E, hL⟩, u3⟩
  have F0 := Lib.hid (show Fed w2 (w3.alloc (.cells #[] 23)) w2.heap.size (.slice (some ⟨w3.heap.size, 0, none⟩) 0 0) [] [] false E from
    ⟨hL.keep0 ((Upd.refl _ _).alloc _), (RowsO.made w3).mono u3.size, u3.alloc _⟩)
  obtain ⟨a, ha⟩ : ∃ a, a = w2.heap.size := ⟨_, rfl⟩
  have F0 : Hid (Fed w2 (w3.alloc (.cells #[] 23)) a (.slice (some ⟨w3.heap.size, 0, none⟩) 0 0) [] [] false E) := by rw [ha]; exact F0
  unfold ptr
  rw [← ha]
  clear hL u3 ha
  go_wp2
  go_loopg [9, 10, 11, 12] (cuts.length + 1) (fun g v9 v10 v11 v12 wx => ∃ (k A : Nat) (G : List (List Txt)) (r : Txt) (b : Bool) (E : Nat → Prop), g + k = cuts.length + 1 ∧ v12 = .int .i64 (k : Int) ∧ v11 = .int .i64 (A : Int) ∧ v10 = .int .i64 (errOf b) ∧ A ≤ l.length ∧ r.length + G.length ≤ A ∧ Hid (k = cuts.length + 1 → A = l.length) ∧ Hid (Lin.all (l.take A) = (G, r, b)) ∧ Hid (Fed w2 wx a v9 G r b E))
  case atStart => exact ⟨0, 0, [], [], false, E, by omega, rfl, rfl, rfl, by omega, by simp, Lib.hid (fun h => by omega), Lib.hid (by rw [List.take_zero, Lin.all_short rfl]), F0⟩
  case round =>
    clear F0
    obtain ⟨k, A, G, r, b, E1, hgk, rfl, rfl, rfl, hAl, hrG, HLA, HALL, FE⟩ := hrel
    by_cases hk : k ≤ cuts.length
    · have q3 : (k : Int) ≤ (cuts.length : Int) := by omega
      by_cases hk2 : k < cuts.length
      · have q4 : (k : Int) < (cuts.length : Int) := by omega
        obtain ⟨n, hn⟩ : ∃ n, cuts[k]? = some n := ⟨_, List.getElem?_eq_getElem hk2⟩
        have hni := HI.out n (List.mem_of_getElem? hn)
        obtain ⟨b7, o7, c7, e7, hb7, _, hc7⟩ : ∃ b off cap, Value.slice p1 cuts.length k1 = .slice (some ⟨b, off, none⟩) cuts.length cap ∧ b < w2.heap.size ∧ cuts.length ≤ maxLen ∧ ∀ i a, cuts[i]? = some a → ∀ j, j < 1 → w2.cell? ⟨b, off + (i * 1 + j), none⟩ = (intc a)[j]? := by
          rcases HC.out with ⟨_, _, _, e⟩ | h
          · rw [e] at hk2; simp at hk2
          · exact h
        have hcell0 : w2.cell? ⟨b7, o7 + k, none⟩ = some (.int .i64 n) := by have := hc7 k n hn 0 (by omega); simpa [intc] using this
        have hcell : wr.cell? ⟨b7, o7 + k, none⟩ = some (.int .i64 n) := (FE.out.up.cell (p := ⟨b7, o7 + k, none⟩) hb7 id).trans hcell0
        simp only [Value.slice.injEq] at e7
        obtain ⟨rfl, _, rfl⟩ := e7
        obtain ⟨A2, hA2e⟩ : ∃ A2 : Nat, (A2 : Int) = max (A : Int) (min n (l.length : Int)) := ⟨(max (A : Int) (min n (l.length : Int))).toNat, by omega⟩
        have hA : A ≤ A2 := by omega
        have hA2 : A2 ≤ l.length := by omega
        have hmm := hA2e.symm
        clear hc7 hcell0 hn hA2e
        -- the piece from A on, $TO$ facts laid: walk to Feed
        obtain ⟨pm, cm, hsl, hbm⟩ := (HB.out.keep0 FE.out.up).mid A (A2) hA hA2
        have hpl : ((l.take (A2)).drop A).length = (A2) - A := by rw [List.length_drop, List.length_take]; omega
        have hsplit : l.take (A2) = l.take A ++ (l.take (A2)).drop A := by
          conv => lhs; rw [← List.take_append_drop A (l.take (A2))]
          rw [List.take_take, Nat.min_eq_left hA]
        have MF := Lib.hid (mid_feed (T := (l.take (A2)).drop A) HALL.out)
        rw [← hsplit] at MF
        have FD := feed_any wr FE.out.ls pm cm _ hbm (by rw [hpl]; omega) FE.out.up.size
        unfold ptr at FD
        have FD := Lib.hid FD
        have hlen2 : (if b then r else r ++ (l.take (A2)).drop A).length ≤ r.length + ((A2) - A) := by
          cases b with
          | true => simp
          | false => simp [hpl]
        generalize hr2 : (if b then r else r ++ (l.take (A2)).drop A) = r2 at *
        generalize (l.take (A2)).drop A = piece at *
        clear hbm hsplit hpl hr2
        go_wp2_with fail
        refine FD.out.mono ?_
        rintro e w4 ⟨rfl, ⟨E4, hL4, hE4⟩, u4⟩
        have F4 := Lib.hid (FE.out.step u4 hL4)
        clear hL4 hE4 u4
        go_wp2
        obtain ⟨wo, rfl⟩ : ∃ wo, wo = w4 := ⟨_, rfl⟩
        go_loopg [9, 10] r2.length (fun g2 v9 v10 wx => ∃ G r b E x, r.length = g2 ∧ v10 = .int .i64 x ∧ r.length + G.length ≤ (A2) ∧ Hid (Mid (l.take (A2)) G r b) ∧ Hid (Fed w2 wx a v9 G r b E))
        case atStart => exact ⟨G, r2, b, E4, _, rfl, rfl, by omega, MF, F4⟩
        case round =>
          clear MF F4 FE HALL
          obtain ⟨G3, r3, b3, E3, x3, hr3, rfl, hG3, MI, F3⟩ := hrel
          subst hr3
          obtain ⟨p9, c9, e9⟩ := F3.out.ro.slice
          subst e9
          cases b3 with
          | true =>
            have NB := nextBad_any wr F3.out.ls
            unfold ptr at NB
            have NB := Lib.hid NB
            have DONE := Lib.hid (mid_bad MI.out)
            go_wp2_with fail
            refine NB.out.mono ?_
            rintro e w5 ⟨rfl, hL5, u5⟩
            have F5 := Lib.hid (show Fed w2 w5 a _ G3 r3 true E3 from ⟨hL5, F3.out.ro.keep0 u5, upd0 F3.out.up u5⟩)
            clear hL5 u5
            go_wp2
            go_roundg (cuts.length - k)
            case measure => omega
            case rel => exact ⟨k + 1, (A2), G3, r3, true, E3, by omega, by go_num, rfl, rfl, hA2, by omega, Lib.hid (fun h => by omega), DONE, F5⟩
          | false =>
            have NX := next_any wr F3.out.ls (HS2.out.keep F3.out.up) (by omega) HS2.out.six F3.out.up.size
            unfold ptr at NX
            have hle := Lin.next_le _ r3 (Nat.lt_succ_self _)
            have NX := Lib.hid NX
            cases hnx : (Lin.next r3).1 with
            | none =>
              have DONE := Lib.hid (mid_none MI.out hnx)
              have NX : Hid (Calls Tryd.prog 18 #[.pointer (some ⟨a, 0, none⟩)] wr fun e w' => e = .returned (.tuple #[.slice none 0 0, .bool false, .int .i64 (errOf (Lin.next r3).2.2)]) ∧ (∃ E', LSt w' w2.heap.size a (Lin.next r3).2.1 (Lin.next r3).2.2 E' ∧ ∀ k, E' k → E3 k) ∧ Upd E3 wr w') := by
                have := NX.out
                unfold XRes at this
                rw [hnx] at this
                exact Lib.hid this
              have hle1 := hle.1
              clear hnx hle
              generalize (Lin.next r3).2.1 = r5 at *
              generalize (Lin.next r3).2.2 = b5 at *
              go_wp2_with fail
              refine NX.out.mono ?_
              rintro e w5 ⟨rfl, ⟨E5, hL5, hE5⟩, u5⟩
              have F5 := Lib.hid (F3.out.step u5 hL5)
              clear hL5 hE5 u5
              go_wp2
              go_roundg (cuts.length - k)
              case measure => omega
              case rel => exact ⟨k + 1, (A2), G3, r5, b5, E5, by omega, by go_num, rfl, rfl, hA2, by omega, Lib.hid (fun h => by omega), DONE, F5⟩
            | some lw =>
              have MS := Lib.hid (mid_some MI.out hnx)
              have hle2 := (hle.2 (by rw [hnx]; rfl))
              have NX : Hid (Calls Tryd.prog 18 #[.pointer (some ⟨a, 0, none⟩)] wr fun e w' => (∃ v, e = .returned (.tuple #[v, .bool true, .int .i64 0]) ∧ TxtsO w' wr.heap.size v lw) ∧ (∃ E', LSt w' w2.heap.size a (Lin.next r3).2.1 (Lin.next r3).2.2 E' ∧ ∀ k, E' k → E3 k) ∧ Upd E3 wr w') := by
                have := NX.out
                unfold XRes at this
                rw [hnx] at this
                exact Lib.hid this
              rw [hle2.2] at NX
              have hle3 := hle2.1
              clear hnx hle hle2
              generalize (Lin.next r3).2.1 = r5 at *
              go_wp2_with fail
              refine NX.out.mono ?_
              rintro e w5 ⟨⟨v, rfl, ht⟩, ⟨E5, hL5, hE5⟩, u5⟩
              have f5 := F3.out.step u5 hL5
              have ht2 : TxtsO w5 w2.heap.size v lw := ht.mono F3.out.up.size
              obtain ⟨pv, cv, rfl, _, _⟩ := ht2.slice
              obtain ⟨p6, k6, w6, hr1, i6, u6, n6⟩ := rows_app w5 w2.heap.size _ G3 _ lw f5.ro ht2 (by omega) f5.up.size
              have F6 := Lib.hid (show Fed w2 w6 a _ (G3 ++ [lw]) r5 false E5 from ⟨f5.ls.keep u6 (lst_apart f5.ls f5.ro), i6, upd_rows f5.ro f5.up u6⟩)
              clear hL5 hE5 u5 ht ht2 f5 i6 u6 n6
              go_wp2_with (at_builtin; refine wpList_builtinN rfl _ _ 37 rfl _ _ rfl rfl hr1 ?_)
              go_wp2
              go_roundg r5.length
              case measure => omega
              case rel => exact ⟨G3 ++ [lw], r5, false, E5, _, rfl, rfl, by simp; omega, MS, F6⟩
      · have q4 : ¬ (k : Int) < (cuts.length : Int) := by omega
        have hA : A ≤ l.length := hAl
        have hA2 : l.length ≤ l.length := Nat.le_refl _
        -- the piece from A on, $TO$ facts laid: walk to Feed
        obtain ⟨pm, cm, hsl, hbm⟩ := (HB.out.keep0 FE.out.up).mid A (l.length) hA hA2
        have hpl : ((l.take (l.length)).drop A).length = (l.length) - A := by rw [List.length_drop, List.length_take]; omega
        have hsplit : l.take (l.length) = l.take A ++ (l.take (l.length)).drop A := by
          conv => lhs; rw [← List.take_append_drop A (l.take (l.length))]
          rw [List.take_take, Nat.min_eq_left hA]
        have MF := Lib.hid (mid_feed (T := (l.take (l.length)).drop A) HALL.out)
        rw [← hsplit] at MF
        have FD := feed_any wr FE.out.ls pm cm _ hbm (by rw [hpl]; omega) FE.out.up.size
        unfold ptr at FD
        have FD := Lib.hid FD
        have hlen2 : (if b then r else r ++ (l.take (l.length)).drop A).length ≤ r.length + ((l.length) - A) := by
          cases b with
          | true => simp
          | false => simp [hpl]
        generalize hr2 : (if b then r else r ++ (l.take (l.length)).drop A) = r2 at *
        generalize (l.take (l.length)).drop A = piece at *
        clear hbm hsplit hpl hr2
        go_wp2_with fail
        refine FD.out.mono ?_
        rintro e w4 ⟨rfl, ⟨E4, hL4, hE4⟩, u4⟩
        have F4 := Lib.hid (FE.out.step u4 hL4)
        clear hL4 hE4 u4
        go_wp2
        obtain ⟨wo, rfl⟩ : ∃ wo, wo = w4 := ⟨_, rfl⟩
        go_loopg [9, 10] r2.length (fun g2 v9 v10 wx => ∃ G r b E x, r.length = g2 ∧ v10 = .int .i64 x ∧ r.length + G.length ≤ (l.length) ∧ Hid (Mid (l.take (l.length)) G r b) ∧ Hid (Fed w2 wx a v9 G r b E))
        case atStart => exact ⟨G, r2, b, E4, _, rfl, rfl, by omega, MF, F4⟩
        case round =>
          clear MF F4 FE HALL
          obtain ⟨G3, r3, b3, E3, x3, hr3, rfl, hG3, MI, F3⟩ := hrel
          subst hr3
          obtain ⟨p9, c9, e9⟩ := F3.out.ro.slice
          subst e9
          cases b3 with
          | true =>
            have NB := nextBad_any wr F3.out.ls
            unfold ptr at NB
            have NB := Lib.hid NB
            have DONE := Lib.hid (mid_bad MI.out)
            go_wp2_with fail
            refine NB.out.mono ?_
            rintro e w5 ⟨rfl, hL5, u5⟩
            have F5 := Lib.hid (show Fed w2 w5 a _ G3 r3 true E3 from ⟨hL5, F3.out.ro.keep0 u5, upd0 F3.out.up u5⟩)
            clear hL5 u5
            go_wp2
            go_roundg (cuts.length - k)
            case measure => omega
            case rel => exact ⟨k + 1, (l.length), G3, r3, true, E3, by omega, by go_num, rfl, rfl, hA2, by omega, Lib.hid (fun _ => rfl), DONE, F5⟩
          | false =>
            have NX := next_any wr F3.out.ls (HS2.out.keep F3.out.up) (by omega) HS2.out.six F3.out.up.size
            unfold ptr at NX
            have hle := Lin.next_le _ r3 (Nat.lt_succ_self _)
            have NX := Lib.hid NX
            cases hnx : (Lin.next r3).1 with
            | none =>
              have DONE := Lib.hid (mid_none MI.out hnx)
              have NX : Hid (Calls Tryd.prog 18 #[.pointer (some ⟨a, 0, none⟩)] wr fun e w' => e = .returned (.tuple #[.slice none 0 0, .bool false, .int .i64 (errOf (Lin.next r3).2.2)]) ∧ (∃ E', LSt w' w2.heap.size a (Lin.next r3).2.1 (Lin.next r3).2.2 E' ∧ ∀ k, E' k → E3 k) ∧ Upd E3 wr w') := by
                have := NX.out
                unfold XRes at this
                rw [hnx] at this
                exact Lib.hid this
              have hle1 := hle.1
              clear hnx hle
              generalize (Lin.next r3).2.1 = r5 at *
              generalize (Lin.next r3).2.2 = b5 at *
              go_wp2_with fail
              refine NX.out.mono ?_
              rintro e w5 ⟨rfl, ⟨E5, hL5, hE5⟩, u5⟩
              have F5 := Lib.hid (F3.out.step u5 hL5)
              clear hL5 hE5 u5
              go_wp2
              go_roundg (cuts.length - k)
              case measure => omega
              case rel => exact ⟨k + 1, (l.length), G3, r5, b5, E5, by omega, by go_num, rfl, rfl, hA2, by omega, Lib.hid (fun _ => rfl), DONE, F5⟩
            | some lw =>
              have MS := Lib.hid (mid_some MI.out hnx)
              have hle2 := (hle.2 (by rw [hnx]; rfl))
              have NX : Hid (Calls Tryd.prog 18 #[.pointer (some ⟨a, 0, none⟩)] wr fun e w' => (∃ v, e = .returned (.tuple #[v, .bool true, .int .i64 0]) ∧ TxtsO w' wr.heap.size v lw) ∧ (∃ E', LSt w' w2.heap.size a (Lin.next r3).2.1 (Lin.next r3).2.2 E' ∧ ∀ k, E' k → E3 k) ∧ Upd E3 wr w') := by
                have := NX.out
                unfold XRes at this
                rw [hnx] at this
                exact Lib.hid this
              rw [hle2.2] at NX
              have hle3 := hle2.1
              clear hnx hle hle2
              generalize (Lin.next r3).2.1 = r5 at *
              go_wp2_with fail
              refine NX.out.mono ?_
              rintro e w5 ⟨⟨v, rfl, ht⟩, ⟨E5, hL5, hE5⟩, u5⟩
              have f5 := F3.out.step u5 hL5
              have ht2 : TxtsO w5 w2.heap.size v lw := ht.mono F3.out.up.size
              obtain ⟨pv, cv, rfl, _, _⟩ := ht2.slice
              obtain ⟨p6, k6, w6, hr1, i6, u6, n6⟩ := rows_app w5 w2.heap.size _ G3 _ lw f5.ro ht2 (by omega) f5.up.size
              have F6 := Lib.hid (show Fed w2 w6 a _ (G3 ++ [lw]) r5 false E5 from ⟨f5.ls.keep u6 (lst_apart f5.ls f5.ro), i6, upd_rows f5.ro f5.up u6⟩)
              clear hL5 hE5 u5 ht ht2 f5 i6 u6 n6
              go_wp2_with (at_builtin; refine wpList_builtinN rfl _ _ 37 rfl _ _ rfl rfl hr1 ?_)
              go_wp2
              go_roundg r5.length
              case measure => omega
              case rel => exact ⟨G3 ++ [lw], r5, false, E5, _, rfl, rfl, by simp; omega, MS, F6⟩
    · have q3 : ¬ (k : Int) ≤ (cuts.length : Int) := by omega
      have hAe := HLA.out (by omega)
      have hall : x = (G, r, b) := by
        have := HALL.out
        rw [hAe, List.take_length, HX.out] at this
        exact this
      subst hall
      have LF := left_any wr FE.out.ls
      unfold ptr at LF
      have LF := Lib.hid LF
      obtain ⟨p9, c9, e9⟩ := FE.out.ro.slice
      subst e9
      have R5k := Lib.hid (R5.out.keep0 FE.out.up)
      have hxs : (ofL r).size = r.length := hxs
      have hne : ((G.length : Int) != (G.length : Int)) = false := by simp
      have hne2 : (errOf b != errOf b) = false := by simp
      have hne3 : ((r.length : Int) != (r.length : Int)) = false := by simp
      have UF := Lib.hid (upd0 U2.out FE.out.up)
      have RO := Lib.hid FE.out.ro
      have hG : G.length ≤ 4000 := by omega
      clear HALL HLA hAe R5 FE
      go_wp2_with (go_at_call 19; refine LF.out.mono ?_; rintro e w5 ⟨rfl, rfl⟩)
      have RO := RO
      go_loopw [4, 97] (fun v4 v97 wx => ∃ j : Nat, v4 = .bool false ∧ v97 = .int .i64 (j : Int) ∧ j ≤ G.length ∧ Hid (RowsO wx w2.heap.size (.slice p9 G.length c9) G) ∧ Hid (RowsO wx w1.heap.size (.slice p5 G.length c5) G) ∧ Hid (Upd (fun _ => False) w wx)) (fun _ v97 _ => G.length - (intOf v97).toNat)
      case atStart => exact ⟨0, rfl, rfl, by omega, RO, R5k, UF⟩
      case round =>
        clear RO R5k UF
        obtain ⟨j, rfl, rfl, hj, RO, R5, U⟩ := hrel
        by_cases hjl : j < G.length
        · have q5 : (j : Int) < (G.length : Int) := by omega
          obtain ⟨li, hli⟩ : ∃ li, G[j]? = some li := ⟨_, List.getElem?_eq_getElem hjl⟩
          obtain ⟨g1, vi, rfl, hg1, hc1, ht1⟩ := RO.out.get hli
          obtain ⟨g2, vj, rfl, hg2, hc2, ht2⟩ := R5.out.get hli
          obtain ⟨pi, ci, rfl, _, _⟩ := ht1.slice
          obtain ⟨pj, cj, rfl, _, _⟩ := ht2.slice
          have SM : Hid (∀ n, Calls Tryd.prog 14 #[.slice pi li.length ci, .slice pj li.length cj] (wr.drewN n) fun e w' => e = .returned (.bool true) ∧ ∃ m, w' = (wr.drewN n).drewN m) := Lib.hid (fun n => by
            have := same_any _ _ _ _ (wr.drewN n) ((ht1.keep0 ((Upd.refl _ _).drewN n)).row tcs_len) ((ht2.keep0 ((Upd.refl _ _).drewN n)).row tcs_len)
            rw [decide_eq_true rfl] at this
            exact this)
          clear hli ht1 ht2
          go_wp2
          go_quiet ((go_at_call 14; exact Calls.quiet_of (SM.out _)))
          go_wp2
          go_roundw
          case rel => exact ⟨j + 1, rfl, by go_num, by omega, Lib.hid (RO.out.keep0 ((Upd.refl _ _).drewN nq)), Lib.hid (R5.out.keep0 ((Upd.refl _ _).drewN nq)), Lib.hid (U.out.drewN nq)⟩
          case measure => simp [intOf]; omega
        · have q5 : ¬ (j : Int) < (G.length : Int) := by omega
          go_wp2
          go_ret
          exact ⟨rfl, U.out⟩
end Go.Proofs.YtkemjjhmabemiaaDoor
/- What the listed variables give the walks, and the witness. -/
set_option linter.unusedVariables false
set_option linter.unusedSimpArgs false
namespace Go.Proofs.YtkemjjhmabemiaaDoor
open Go.ChangeShapes Go.WideShapes Go.ChangeAt Go.WideMaps Go.WideElems Go.RowKit Go.Stop Go.Extern

theorem int_bounds {n : Int} (h : (Lit.int .i64 n).wf = true) : -9223372036854775808 ≤ n ∧ n ≤ 9223372036854775807 := by
  have := bounds_i64 h
  omega

def laidAll : List (String × DataW Unit) := [("math/bits.deBruijn32tab", Rows.laid_math_bits_deBruijn32tab), ("math/bits.deBruijn64tab", Rows.laid_math_bits_deBruijn64tab), ("internal/strconv.uint64pow10", Lib.tabData .u64 Lib.pow10Tab), ("unicode/utf8.acceptRanges", Rows.laid_unicode_utf8_acceptRanges), ("strconv.ErrRange", Rows.laid_strconv_ErrRange), ("strconv.ErrSyntax", Rows.laid_strconv_ErrSyntax), ("unicode/utf8.first", Rows.laid_unicode_utf8_first)]

theorem star : "*" ++ "errors.errorString" = "*errors.errorString" := by decide
theorem rowErr (u : TypeId) (h : Tryd.prog.typeName? 3 u = some "*errors.errorString") : u = 143 :=
  typeName_ptr_named (nm := "errors.errorString") (by rw [star]; kernel_rfl) (by kernel_rfl) (by decide) u (by rw [star]; exact h)

theorem door_met (os : Os) (args : Array Value) : laidMetH Tryd.prog laidAll ((World.laidAll Tryd.prog os laidAll).forCall (fun _ _ => 0) ⟨#[], args, []⟩).memory := by
  rw [MakeChecks.laidMetH_plain _ _ _ (by kernel_rfl)]
  exact laidMet_laidAll _ (by kernel_rfl) (by kernel_rfl)
theorem door_shaped (os : Os) (args : Array Value) : ((World.laidAll Tryd.prog os laidAll).forCall (fun _ _ => 0) ⟨#[], args, []⟩).Shaped Tryd.prog := World.shaped_of_ZipB (by kernel_rfl) (by kernel_rfl)

theorem std_of_laid {W : World} (h : laidMetH Tryd.prog laidAll W) : Std W := by
  rw [MakeChecks.laidMetH_plain _ _ _ (by kernel_rfl)] at h
  have h3 := laidMet.tail (laidMet.tail h)
  have h4 := laidMet.tail (laidMet.tail h3)
  have h5 := laidMet.tail h4
  refine ⟨Lib.tabIs_of_head (g := 3) (by kernel_rfl) (by kernel_rfl) Tryd.underlying135 Tryd.underlying123 (by kernel_rfl) (by kernel_rfl) h3, ?_, ?_⟩
  · obtain ⟨a, s, h1, _⟩ := laid_sentinel (g := 4) h5 (by kernel_rfl) (by kernel_rfl) Tryd.underlying69 rowErr Tryd.underlying143 Tryd.underlying145 rfl rfl Tryd.underlying9 (by kernel_rfl) (by kernel_rfl)
    exact ⟨_, _, h1⟩
  · obtain ⟨a, s, h1, _⟩ := laid_sentinel (g := 5) h4 (by kernel_rfl) (by kernel_rfl) Tryd.underlying69 rowErr Tryd.underlying143 Tryd.underlying145 rfl rfl Tryd.underlying9 (by kernel_rfl) (by kernel_rfl)
    exact ⟨_, _, h1⟩
end Go.Proofs.YtkemjjhmabemiaaDoor
/- An argument that is a slice of structs of one-cell fields, opened to its cells. -/
set_option linter.unusedVariables false
set_option linter.unusedSimpArgs false
namespace Go.Proofs.YtkemjjhmabemiaaDoor
open Go.RowKit Go.ChangeShapes Go.WideShapes Go.Deep

/-- A slice of structs whose fields are one cell each: its length fits, and field j of element i lies in a cell of its own, and is read by that field's type. -/
theorem slice_cells {H : Type} {enc : TypeId × Value → H} {P : Program} {w : World} {base : Nat} {spare : Nat → Bool} {held : Bool} {T E : TypeId} {fs : Array Field} {fuel len cap : Nat} {a : Addr} {x : DataW H × List MemPlace}
    (hT : P.underlying T = some (.slice E)) (hE : P.underlying E = some (.struct fs)) (h1 : oneCellFields P fs = true) (hn : P.cellsOf E = fs.size)
    (h : DataW.trod enc P w base spare held fuel T [.slice (some a) len cap] = some x) :
    len ≤ maxLen ∧ ∀ i, i < len → ∀ j f, fs[j]? = some f → ∃ v y k, w.cell? (a.add (i * fs.size + j)) = some v ∧ DataW.trod enc P w base spare held k f.type [v] = some y := by
  rcases open_slice hT h with ⟨hnil, _⟩ | ⟨a', len', cap', m, n, D, Q, hv, _, hlc, hcm, hm, _, hall⟩
  · simp at hnil
  · simp only [List.cons.injEq, Value.slice.injEq, Option.some.injEq, and_true] at hv
    obtain ⟨rfl, rfl, rfl⟩ := hv
    have hlm : len ≤ m := by rw [hm]; split <;> omega
    refine ⟨Nat.le_trans hlc hcm, fun i hi j f hj => ?_⟩
    have hjs : j < fs.size := (Array.getElem?_eq_some_iff.1 hj).1
    obtain ⟨row, hrow, hread⟩ := hall i (Nat.lt_of_lt_of_le hi hlm)
    obtain ⟨_, hsize, hcells⟩ := World.cells?_some hrow
    obtain ⟨_, k, _, _, _, _, hfield⟩ := DataW.trod_struct hE hread
    obtain ⟨hoff, hone⟩ := hone_of h1 j f hj
    have hjr : j < row.length := by omega
    have hf := hfield j f hj
    rw [hoff, hone, List.drop_eq_getElem_cons hjr] at hf
    simp only [List.take_succ_cons, List.take_zero] at hf
    have hc := hcells j (by omega)
    rw [hn, Go.Deep.add_add, List.getElem?_eq_getElem hjr] at hc
    cases hy : DataW.trod enc P w base spare held k f.type [row[j]] with
    | none =>
      rw [hy] at hf
      have := (List.getElem?_eq_none_iff.1 hf.symm)
      omega
    | some y => exact ⟨row[j], y, k, hc, hy⟩

theorem slice_nil {H : Type} {enc : TypeId × Value → H} {P : Program} {w : World} {base : Nat} {spare : Nat → Bool} {held : Bool} {T E : TypeId} {fuel len cap : Nat} {x : DataW H × List MemPlace}
    (hT : P.underlying T = some (.slice E)) (h : DataW.trod enc P w base spare held fuel T (Value.slice none len cap).cells.toList = some x) : len = 0 ∧ cap = 0 := by
  rcases open_slice hT h with ⟨hnil, _⟩ | ⟨a', _, _, _, _, _, _, hv, _⟩
  · simpa [Value.cells] using hnil
  · simp [Value.cells] at hv

theorem rowOf_mk {α : Type} {f : α → List Value} {k : Nat} (hk : 0 < k) {w : World} {a : Addr} {len cap : Nat} (g : Nat → α) (hm : len ≤ maxLen)
    (hc : ∀ i, i < len → ∀ j, j < k → ∃ v, (f (g i))[j]? = some v ∧ w.cell? (a.add (i * k + j)) = some v) : RowOf f k w (.slice (some a) len cap) ((List.range len).map g) := by
  obtain ⟨b, off, spot⟩ := a
  by_cases h0 : len = 0
  · subst h0; exact Or.inl ⟨_, _, rfl, rfl⟩
  · obtain ⟨v, _, h1⟩ := hc 0 (by omega) 0 hk
    have hspot : spot = none := by simpa [Addr.add] using World.cell?_spot h1
    subst hspot
    have hb : b < w.heap.size := by
      by_cases hb : b < w.heap.size
      · exact hb
      · simp [World.cell?, Addr.add, Array.getElem?_eq_none (by omega : w.heap.size ≤ b)] at h1
    refine Or.inr ⟨b, off, cap, by simp, hb, by simpa using hm, fun i x hi j hj => ?_⟩
    have hil : i < len := by
      have := (List.getElem?_eq_some_iff.1 hi).1
      simpa using this
    have hx : x = g i := by
      have : ((List.range len).map g)[i]? = some (g i) := by simp [hil]
      rw [this] at hi; exact (Option.some.inj hi).symm
    subst hx
    obtain ⟨v, h1, h2⟩ := hc i hil j hj
    have e : (⟨b, off, none⟩ : Addr).add (i * k + j) = ⟨b, off + (i * k + j), none⟩ := by unfold Addr.add; split <;> simp_all
    rw [e] at h2
    rw [h2, h1]
end Go.Proofs.YtkemjjhmabemiaaDoor
/- Arguments: bytes, texts, numbers, opened. -/
set_option linter.unusedVariables false
set_option linter.unusedSimpArgs false
namespace Go.Proofs.YtkemjjhmabemiaaDoor
open Go.RowKit Go.ChangeShapes Go.WideShapes Go.Deep
open Lin (Txt)

section
variable {H : Type} {enc : TypeId × Value → H} {w : World} {base : Nat} {spare : Nat → Bool} {held : Bool}
set_option maxRecDepth 100000 in
theorem open_bytes {r : Reach} {b0 : Nat} {v : Value} {d : DataW H} {p : List MemPlace} (hv : Value.okWide Tryd.prog w r b0 27 v) (h : DataW.Trod enc Tryd.prog w base spare held 27 v d p) :
    ∃ (q : Option Addr) (c : Nat) (l : Txt), v = .slice q l.length c ∧ BAt w q c l := by
  obtain ⟨a, len, cap, rfl⟩ := okWide_slice Tryd.underlying27 hv
  obtain ⟨fuel, hf⟩ := h
  rcases open_ints Tryd.underlying27 Tryd.underlying5 (by kernel_rfl) hf with ⟨e, _⟩ | ⟨a', len', cap', zs, e, hb, hlc, hcm, hm, _, hall, hwf⟩
  · simp [Value.cells] at e
    obtain ⟨rfl, rfl, rfl⟩ := e
    exact ⟨none, 0, [], rfl, BAt.nil w⟩
  · simp [Value.cells] at e
    obtain ⟨rfl, rfl, rfl⟩ := e
    have hlm : len ≤ zs.length := by rw [hm]; split <;> omega
    have hz : ∀ i, i < len → 0 ≤ zs.getD i 0 ∧ zs.getD i 0 < 256 := fun i hi => by
      have hmem : zs.getD i 0 ∈ zs := by
        rw [List.getD_eq_getElem?_getD, List.getElem?_eq_getElem (by omega)]
        exact List.getElem_mem _
      have := hwf _ hmem
      have h2 : IntKind.u8.min ≤ zs.getD i 0 ∧ zs.getD i 0 ≤ IntKind.u8.max := by simpa [Lit.wf] using this
      have e1 : IntKind.u8.min = 0 := by decide
      have e2 : IntKind.u8.max = 255 := by decide
      omega
    have hl : ((zs.take len).map fun z => UInt8.ofNat z.toNat).length = len := by simp; omega
    refine ⟨some a', cap, (zs.take len).map fun z => UInt8.ofNat z.toNat, by rw [hl], ⟨by rw [hl]; exact hlc, fun e => by cases e⟩, hcm, ?_⟩
    by_cases h0 : len = 0
    · left; subst h0; simp
    · right
      obtain ⟨b, o, sp⟩ := a'
      have h00 := hall 0 (by omega)
      have hspot : sp = none := by simpa [Addr.add] using World.cell?_spot h00
      subst hspot
      refine ⟨b, o, rfl, ?_, fun i c hi => ?_⟩
      · rcases Nat.lt_or_ge b w.heap.size with h | h
        · exact h
        · simp [World.cell?, Addr.add, Array.getElem?_eq_none h] at h00
      · have hil : i < len := by have := (List.getElem?_eq_some_iff.1 hi).1; omega
        have hc := hall i (by omega)
        rw [Addr.add_lit] at hc
        rw [hc]
        rw [List.getElem?_map, List.getElem?_take, if_pos hil] at hi
        obtain ⟨z, hz1, rfl⟩ := Option.map_eq_some_iff.1 hi
        have hzz := hz i hil
        rw [List.getD_eq_getElem?_getD, hz1] at hzz ⊢
        simp only [Option.getD_some] at hzz ⊢
        unfold byc
        rw [UInt8.toNat_ofNat']
        congr 2
        omega
set_option maxRecDepth 100000 in
theorem open_strs {r : Reach} {b0 : Nat} {v : Value} {d : DataW H} {p : List MemPlace} (hv : Value.okWide Tryd.prog w r b0 23 v) (h : DataW.Trod enc Tryd.prog w base spare held 23 v d p) :
    ∃ l : List Txt, RowOf tcs 1 w v l ∧ ∀ t ∈ l, t.length ≤ maxLen := by
  obtain ⟨a, len, cap, rfl⟩ := okWide_slice Tryd.underlying23 hv
  obtain ⟨fuel, hf⟩ := h
  rcases open_slice1 Tryd.underlying23 (by kernel_rfl) hf with ⟨e, _⟩ | ⟨a', len', cap', m, n, V, D, Pl, e, hb, hlc, hcm, hm, _, hall⟩
  · simp [Value.cells] at e
    obtain ⟨rfl, rfl, rfl⟩ := e
    exact ⟨[], Or.inl ⟨_, _, rfl, rfl⟩, fun a ha => by simp at ha⟩
  · simp [Value.cells] at e
    obtain ⟨rfl, rfl, rfl⟩ := e
    have hlm : len ≤ m := by rw [hm]; split <;> omega
    have key : ∀ i, ∃ x : Txt, i < len → w.cell? (a'.add (i * 1 + 0)) = some (.string (ofL x)) ∧ x.length ≤ maxLen := by
      intro i
      by_cases hil : i < len
      · obtain ⟨c1, t1⟩ := hall i (Nat.lt_of_lt_of_le hil hlm)
        obtain ⟨x1, e1, _, z2⟩ := DataW.trod_string Tryd.underlying9 t1
        simp at e1
        refine ⟨x1.toList, fun _ => ⟨?_, ?_⟩⟩
        · rw [Nat.mul_one, Nat.add_zero, c1, e1, ofL_of]
        · have := ofL_size x1.toList; rw [ofL_of] at this; omega
      · exact ⟨[], fun h => absurd h hil⟩
    obtain ⟨g, hg⟩ := Classical.axiomOfChoice key
    refine ⟨(List.range len).map g, rowOf_mk (by omega) g (Nat.le_trans hlc hcm) (fun i hil j hj => ?_), fun x hx => ?_⟩
    · obtain rfl : j = 0 := by omega
      exact ⟨_, rfl, (hg i hil).1⟩
    · obtain ⟨i, hi, rfl⟩ := List.mem_map.1 hx
      exact (hg i (by simpa using hi)).2
end
end Go.Proofs.YtkemjjhmabemiaaDoor
/- An argument that is a row of numbers, opened. -/
set_option linter.unusedVariables false
set_option linter.unusedSimpArgs false
namespace Go.Proofs.YtkemjjhmabemiaaDoor
open Go.RowKit Go.ChangeShapes Go.WideShapes Go.Deep

section
variable {H : Type} {enc : TypeId × Value → H} {w : World} {base : Nat} {spare : Nat → Bool} {held : Bool}
set_option maxRecDepth 100000 in
theorem open_nums {r : Reach} {b0 : Nat} {v : Value} {d : DataW H} {p : List MemPlace} (hv : Value.okWide Tryd.prog w r b0 36 v) (h : DataW.Trod enc Tryd.prog w base spare held 36 v d p) :
    ∃ l : List Int, RowOf intc 1 w v l ∧ ∀ n ∈ l, -9223372036854775808 ≤ n ∧ n ≤ 9223372036854775807 := by
  obtain ⟨a, len, cap, rfl⟩ := okWide_slice Tryd.underlying36 hv
  obtain ⟨fuel, hf⟩ := h
  rcases open_ints Tryd.underlying36 Tryd.underlying3 (by kernel_rfl) hf with ⟨e, _⟩ | ⟨a', len', cap', zs, e, hb, hlc, hcm, hm, _, hall, hwf⟩
  · simp [Value.cells] at e
    obtain ⟨rfl, rfl, rfl⟩ := e
    exact ⟨[], Or.inl ⟨_, _, rfl, rfl⟩, fun a ha => by simp at ha⟩
  · simp [Value.cells] at e
    obtain ⟨rfl, rfl, rfl⟩ := e
    have hlm : len ≤ zs.length := by rw [hm]; split <;> omega
    refine ⟨(List.range len).map fun i => zs.getD i 0, rowOf_mk (by omega) _ (Nat.le_trans hlc hcm) (fun i hil j hj => ?_), fun n hn => ?_⟩
    · obtain rfl : j = 0 := by omega
      exact ⟨_, rfl, by rw [Nat.mul_one, Nat.add_zero]; exact hall i (by omega)⟩
    · obtain ⟨i, hi, rfl⟩ := List.mem_map.1 hn
      have hil : i < len := by simpa using hi
      have hmem : zs.getD i 0 ∈ zs := by
        rw [List.getD_eq_getElem?_getD, List.getElem?_eq_getElem (by omega)]
        exact List.getElem_mem _
      have h1 := hwf _ hmem
      have h2 : IntKind.i64.min ≤ zs.getD i 0 ∧ zs.getD i 0 ≤ IntKind.i64.max := by simpa [Lit.wf] using h1
      have e1 : IntKind.i64.min = -9223372036854775808 := by decide
      have e2 : IntKind.i64.max = 9223372036854775807 := by decide
      omega
end
end Go.Proofs.YtkemjjhmabemiaaDoor
