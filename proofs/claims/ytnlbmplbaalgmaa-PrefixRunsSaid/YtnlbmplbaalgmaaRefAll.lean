/- The document's rows, pairs: With, Sorted, Add, Drop, Match, Of, Tree. -/
import Derived.Test.YtnlbmplbaalgmaaPfxFG
import Derived.Test.YtnlbmplbaalgmaaRadV
import Derived.Laws.StructEq
set_option linter.unusedVariables false
set_option linter.unusedSimpArgs false
namespace Go.Proofs.Ytnlbmplbaalgmaa
open Go.RowKit

def PairsAt (w : World) (base : Nat) (v : Value) (l : List MarkP) : Prop := w.ownsRow base 104 2 v l.length (flat mkc l)
theorem pair_info : (Try.prog.info? 104).map (fun i => (i.zero, i.size, i.bytes)) = some (some (.agg #[.string ByteArray.empty, .int .i64 0]), 2, 24) := by kernel_rfl
theorem PairsAt.row {w : World} {base : Nat} {v : Value} {l : List MarkP} (h : PairsAt w base v l) : RowOf mkc 2 w v l := by
  obtain ⟨_, ⟨rfl, hn⟩ | ⟨g, cap, cs, rfl, hg, hB, hc, hm, hle⟩⟩ := own2_blk h
  · exact Or.inl ⟨none, 0, rfl, List.length_eq_zero_iff.1 hn⟩
  · refine Or.inr ⟨g, 0, cap, rfl, hB.lt, by omega, fun i a hi j hj => ?_⟩
    have hil : i < l.length := (List.getElem?_eq_some_iff.1 hi).1
    rw [Nat.zero_add, hB.cell, List.getElem?_append_left (by rw [flat_length mkc 2 (fun _ => rfl)]; omega), flat_get mkc 2 (fun _ => rfl) l i j hj, hi]; rfl
theorem PairsAt.keep {F : Nat → Prop} {w w' : World} {base : Nat} {v : Value} {l : List MarkP} (h : PairsAt w base v l) (u : Upd F w w') (hd : ∀ k, v.ownBlock = some k → ¬ F k) : PairsAt w' base v l := own_keep h u hd
theorem pairs_append (w : World) (base : Nat) (ty : TypeId) (v v2 : Value) (l l2 : List MarkP) (h : PairsAt w base v l) (h2 : RowOf mkc 2 w v2 l2) (hl : l.length + l2.length ≤ 100000) (hb : base ≤ w.heap.size) :
    ∃ v' w', (Builtin.append_ #[64, 64] ty #[v, v2]).run Try.prog w = .ok v' w' ∧ PairsAt w' base v' (l ++ l2) ∧ Upd (fun k => v.ownBlock = some k) w w' ∧ NewOr v v' w := by
  obtain ⟨i0, hi0, hz0, hz1, hz2⟩ := rinfo_parts pair_info
  have hf := flat_length mkc 2 (fun _ => rfl) l2
  have e2 : flat mkc (l ++ l2) = flat mkc l ++ flat mkc l2 := by simp [flat]
  have ho : ∀ u ∈ flat mkc l2, u.oneCell' = true := by
    intro u hu
    unfold flat at hu
    obtain ⟨m, _, hm⟩ := List.mem_flatMap.1 hu
    simp [mkc] at hm
    rcases hm with rfl | rfl <;> rfl
  by_cases h0 : l2 = []
  · subst h0
    obtain ⟨p, cp, rfl, hle⟩ : ∃ p cp, v = .slice p l.length cp ∧ l.length ≤ cp := by
      obtain ⟨_, ⟨rfl, hn⟩ | ⟨g, cap, cs, rfl, _, _, _, _, hle⟩⟩ := own2_blk h
      · exact ⟨_, _, by rw [hn], by omega⟩
      · exact ⟨_, _, rfl, hle⟩
    obtain ⟨a, c, rfl⟩ : ∃ a c, v2 = .slice a 0 c := by
      rcases h2 with ⟨a, c, e, _⟩ | ⟨b, off, cap, e, _⟩
      · exact ⟨_, _, e⟩
      · exact ⟨_, _, e⟩
    have hs : Src Try.prog i0.size 64 (.slice a 0 c) 0 [] w := by
      cases a with
      | none => exact Src.ofNil w Try.underlying64 c
      | some a => exact Src.ofSlice w Try.underlying64 a 0 c [] (by simp) (fun j u h => by simp at h) (fun u h => by cases h)
    refine ⟨_, _, run_append_nothing (P := Try.prog) w 64 64 ty 104 i0 Try.underlying64 hi0 p l.length cp hle _ hs, by simpa using h, Upd.refl _ _, fun k hk => Or.inl hk⟩
  · obtain ⟨b, off, c, rfl, hb2, _, hc⟩ : ∃ b off cap, v2 = .slice (some ⟨b, off, none⟩) l2.length cap ∧ b < w.heap.size ∧ l2.length ≤ maxLen ∧ ∀ i a, l2[i]? = some a → ∀ j, j < 2 → w.cell? ⟨b, off + (i * 2 + j), none⟩ = (mkc a)[j]? := by
      rcases h2 with ⟨_, _, _, e⟩ | h2
      · exact absurd e h0
      · exact h2
    have hn : ∀ j u, (flat mkc l2)[j]? = some u → w.cell? ((⟨b, off, none⟩ : Addr).add j) = some u := by
      intro j u hj
      have hjl := (List.getElem?_eq_some_iff.1 hj).1
      rw [hf] at hjl
      have hi : j / 2 < l2.length := by omega
      have h1 := hc (j / 2) l2[j / 2] (List.getElem?_eq_getElem hi) (j % 2) (by omega)
      have h3 := flat_get mkc 2 (fun _ => rfl) l2 (j / 2) (j % 2) (by omega)
      rw [show j / 2 * 2 + j % 2 = j by omega] at h1 h3
      rw [hj, List.getElem?_eq_getElem hi] at h3
      have e : (⟨b, off, none⟩ : Addr).add j = ⟨b, off + j, none⟩ := by simp [Addr.add]
      rw [e, h1]; exact h3.symm
    have hpos := List.length_pos_iff.2 h0
    obtain ⟨v', w', hr, q2, q3, _⟩ := run_append_own (P := Try.prog) w base 64 ty 104 i0 (.agg #[.string ByteArray.empty, .int .i64 0]) 2 24 Try.underlying64 hi0 hz0 hz1 hz2 rfl (by decide) v l.length _ h ⟨b, off, none⟩ l2.length c _ hf hn ho (by unfold maxLen; omega) (by omega) hb
    have hw := run_append_where (P := Try.prog) w base 64 ty 104 i0 (.agg #[.string ByteArray.empty, .int .i64 0]) 2 24 Try.underlying64 hi0 hz0 hz1 hz2 v l.length _ h ⟨b, off, none⟩ l2.length c _ hf hn ho hpos (by unfold maxLen; omega) (by omega) v' w' hr
    refine ⟨v', w', hr, ?_, (Upd.of_grown q3).weaken (fun k _ hk => hk.symm), hw⟩
    unfold PairsAt
    rw [e2, List.length_append]; exact q2
/-- A text more at a row of the call's own. -/
theorem txts_append (w : World) (base base2 : Nat) (ty : TypeId) (v v2 : Value) (xs ys : List Txt) (h : TxtsAt w base v xs) (h2 : TxtsAt w base2 v2 ys) (hl : xs.length + ys.length ≤ 1000000) (hb : base ≤ w.heap.size) :
    ∃ v' w', (Builtin.append_ #[22, 22] ty #[v, v2]).run Try.prog w = .ok v' w' ∧ TxtsAt w' base v' (xs ++ ys) ∧ Upd (fun k => v.ownBlock = some k) w w' ∧ NewOr v v' w := by
  obtain ⟨i0, hi0, hz0, hz1, hz2⟩ := rinfo_parts string_info
  obtain ⟨v', w', a, b, c, d⟩ := append_row w base base2 22 ty 9 i0 (.string ByteArray.empty) 16 Try.underlying22 hi0 hz0 hz1 hz2 rfl v v2 xs.length ys.length _ _ h h2 txts_one (by unfold maxLen; omega) (by omega) hb
  refine ⟨v', w', a, ?_, c, d⟩
  unfold TxtsAt
  rw [List.length_append, List.map_append]; exact b
theorem ints_lit (w : World) (n : Int) : IntsAt (w.alloc (.cells #[.int .i64 n] 3)) 0 (.slice (some ⟨w.heap.size, 0, none⟩) 1 1) [n] := own_of (cs := []) (Nat.zero_le _) (Blk.made w _ _) rfl rfl (by unfold maxLen; omega)
theorem txts_lit (w : World) (t : Txt) : TxtsAt (w.alloc (.cells #[.string (ofL t)] 9)) 0 (.slice (some ⟨w.heap.size, 0, none⟩) 1 1) [t] := own_of (cs := []) (Nat.zero_le _) (Blk.made w _ _) rfl rfl (by unfold maxLen; omega)
theorem pairs_lit (w : World) (t : Txt) (n : Int) : RowOf mkc 2 (w.alloc (.cells #[.string (ofL t), .int .i64 n] 104)) (.slice (some ⟨w.heap.size, 0, none⟩) 1 1) [(t, n)] := by
  have hB := Blk.made w [.string (ofL t), .int .i64 n] 104
  refine Or.inr ⟨w.heap.size, 0, 1, rfl, hB.lt, by unfold maxLen; simp, fun i a hi j hj => ?_⟩
  cases i with
  | succ i => simp at hi
  | zero =>
    simp at hi; subst hi
    rw [Nat.zero_add, Nat.zero_mul, Nat.zero_add, hB.cell]; rfl
theorem pairs_none (w : World) : PairsAt (w.alloc (.cells #[] 104)) w.heap.size (.slice (some ⟨w.heap.size, 0, none⟩) 0 0) [] :=
  World.ownsRow_made (e := 104) (size := 2) w #[] 0 (Nat.le_refl _) (by unfold maxLen; omega) rfl
theorem ints_none (w : World) : IntsAt (w.alloc (.cells #[] 3)) w.heap.size (.slice (some ⟨w.heap.size, 0, none⟩) 0 0) [] :=
  World.ownsRow_made (e := 3) (size := 1) w #[] 0 (Nat.le_refl _) (by unfold maxLen; omega) rfl
theorem txts_none (w : World) : TxtsAt (w.alloc (.cells #[] 9)) w.heap.size (.slice (some ⟨w.heap.size, 0, none⟩) 0 0) [] :=
  World.ownsRow_made (e := 9) (size := 1) w #[] 0 (Nat.le_refl _) (by unfold maxLen; omega) rfl

/-- With, so far. -/
def RW (n : Int) (t : List Int) (pl : Bool) (acc : List Int) : Prop :=
  (pl = false ∧ acc = t ∧ ∀ x ∈ t, x < n) ∨ (pl = true ∧ acc = wth t n ∧ ∃ x ∈ t, n ≤ x)
section
variable {n m : Int} {t acc : List Int} {pl : Bool}
theorem no_gt (h : ∀ x ∈ t, x < n) : t.filter (fun x => decide (n < x)) = [] := List.filter_eq_nil_iff.2 (fun x hx => by have := h x hx; simp; omega)
theorem wth_last_eq (h : ∀ x ∈ t, x < n) : wth (t ++ [n]) n = t ++ [n] := by
  unfold wth
  rw [List.filter_append, List.filter_append, List.filter_eq_self.2 (fun x hx => decide_eq_true (h x hx)), no_gt h]
  simp
theorem wth_last_gt (h : ∀ x ∈ t, x < n) (hm : n < m) : wth (t ++ [m]) n = t ++ [n] ++ [m] := by
  unfold wth
  rw [List.filter_append, List.filter_append, List.filter_eq_self.2 (fun x hx => decide_eq_true (h x hx)), no_gt h]
  have : ¬ m < n := by omega
  simp [this, hm]
theorem wth_on (hm : n < m) : wth (t ++ [m]) n = wth t n ++ [m] := by
  unfold wth
  rw [List.filter_append, List.filter_append]
  have : ¬ m < n := by omega
  simp [this, hm]
theorem wth_all (h : ∀ x ∈ t, x < n) : wth t n = t ++ [n] := by
  unfold wth
  rw [List.filter_eq_self.2 (fun x hx => decide_eq_true (h x hx)), no_gt h]
theorem RW.len (h : RW n t pl acc) : acc.length ≤ t.length + 1 := by
  rcases h with ⟨_, rfl, _⟩ | ⟨_, rfl, _⟩
  · omega
  · exact wth_len _ _
end
theorem int_rcell {w : World} {p : Option Addr} {c : Nat} {l : List Int} (h : RowOf intc 1 w (.slice p l.length c) l) {k : Nat} (hk : k < l.length) :
    ∃ b off, p = some ⟨b, off, none⟩ ∧ b < w.heap.size ∧ w.cell? ⟨b, off + k, none⟩ = some (.int .i64 l[k]) := by
  rcases h with ⟨_, _, _, e⟩ | ⟨b, off, c, e, hb, _, hc⟩
  · rw [e] at hk; simp at hk
  · simp only [Value.slice.injEq] at e
    refine ⟨b, off, e.1, hb, ?_⟩
    have := hc k _ (List.getElem?_eq_getElem hk) 0 (by omega); simpa [intc] using this
/-- A number more, at a row of the call's own. -/
theorem ints_app (w : World) (base : Nat) (v : Value) (l : List Int) (n : Int) (h : IntsAt w base v l) (hl : l.length ≤ 1000000) (hb : base ≤ w.heap.size) :
    ∃ p c w', (Builtin.append_ #[56, 56] 56 #[v, .slice (some ⟨w.heap.size, 0, none⟩) 1 1]).run Try.prog (w.alloc (.cells #[.int .i64 n] 3)) = .ok (.slice p (l.length + 1) c) w' ∧ IntsAt w' base (.slice p (l.length + 1) c) (l ++ [n]) ∧ Upd (fun k => base ≤ k) w w' := by
  obtain ⟨i0, hi0, hz0, hz1, hz2⟩ := rinfo_parts int_info
  have u0 : Upd (fun _ => False) w (w.alloc (.cells #[.int .i64 n] 3)) := (Upd.refl _ _).alloc _
  have h0 : IntsAt (w.alloc (.cells #[.int .i64 n] 3)) base v l := own_keep h u0 (fun _ _ h => h)
  obtain ⟨v', w', a, b, c, d⟩ := append_row (P := Try.prog) _ base 0 56 56 3 i0 (.int .i64 0) 8 Try.underlying56 hi0 hz0 hz1 hz2 rfl v _ l.length 1 _ _ h0 (ints_lit w n) (by intro u hu; simp at hu; subst hu; rfl) (by unfold maxLen; omega) (by omega) (Nat.le_trans hb u0.size)
  obtain ⟨p, k, e, _⟩ := own_slice b
  subst e
  refine ⟨p, k, w', a, ?_, (u0.weaken (F := fun k => base ≤ k) (fun _ _ h => h.elim)).trans c (fun k _ hk => (own_lt h hk).2.1)⟩
  unfold IntsAt
  rw [List.length_append, List.map_append]; exact b
theorem txts_app (w : World) (base : Nat) (v : Value) (l : List Txt) (t : Txt) (h : TxtsAt w base v l) (hl : l.length ≤ 900000) (hb : base ≤ w.heap.size) :
    ∃ p c w', (Builtin.append_ #[22, 22] 22 #[v, .slice (some ⟨w.heap.size, 0, none⟩) 1 1]).run Try.prog (w.alloc (.cells #[.string (ofL t)] 9)) = .ok (.slice p (l.length + 1) c) w' ∧ TxtsAt w' base (.slice p (l.length + 1) c) (l ++ [t]) ∧ Upd (fun k => base ≤ k) w w' := by
  have u0 : Upd (fun _ => False) w (w.alloc (.cells #[.string (ofL t)] 9)) := (Upd.refl _ _).alloc _
  have h0 : TxtsAt (w.alloc (.cells #[.string (ofL t)] 9)) base v l := own_keep h u0 (fun _ _ h => h)
  obtain ⟨v', w', a, b, c, d⟩ := txts_append _ base 0 22 v _ l [t] h0 (txts_lit w t) (by simp; omega) (Nat.le_trans hb u0.size)
  obtain ⟨p, k, e, _⟩ := own_slice b
  rw [List.length_append] at e
  subst e
  exact ⟨p, k, w', a, b, (u0.weaken (F := fun k => base ≤ k) (fun _ _ h => h.elim)).trans c (fun k _ hk => (own_lt h hk).2.1)⟩
set_option maxHeartbeats 8000000 in
set_option maxRecDepth 100000 in
theorem with_any (v : Value) (l : List Int) (n : Int) (w : World) (h : RowOf intc 1 w v l) (hr : Rising l) (hl : l.length ≤ 100000) :
    Calls Try.prog 59 #[v, .int .i64 n] w fun e w' => ∃ v', e = .returned v' ∧ IntsAt w' w.heap.size v' (wth l n) ∧ Upd (fun _ => False) w w' := by
  obtain ⟨p, c, ev, hm⟩ := h.len
  subst ev
  have H := Lib.hid h
  have HR := Lib.hid hr
  have MO := Lib.hid (ints_none w)
  have UO : Hid (Upd (fun _ => False) w (w.alloc (.cells #[] 3))) := (Upd.refl _ _).alloc _
  clear h hr
  go_enter Try.func59, Try.ntmps59
  go_wp2
  go_loopw [5, 6, 12] (fun out x6 xi wr => ∃ (k : Nat) (pl : Bool) (acc : List Int), k ≤ l.length ∧ x6 = .bool pl ∧ xi = .int .i64 (k : Int) ∧ Hid (RW n (l.take k) pl acc) ∧ Hid (IntsAt wr w.heap.size out acc) ∧ Hid (Upd (fun _ => False) w wr)) (fun _ _ xi _ => l.length - (intOf xi).toNat)
  case atStart => exact ⟨0, false, [], by omega, rfl, rfl, Lib.hid (Or.inl ⟨rfl, rfl, fun x hx => by simp at hx⟩), MO, UO⟩
  case round =>
    clear MO UO
    obtain ⟨k, pl, acc, hk, rfl, rfl, RR, OW, U⟩ := hrel
    have hwl := U.out.size
    have hal : acc.length ≤ 100001 := by have := RR.out.len; rw [List.length_take] at this; omega
    obtain ⟨po, co, eo, _⟩ := own_slice OW.out
    subst eo
    by_cases hlt : k < l.length
    · have q1 : (k : Int) < (l.length : Int) := by omega
      obtain ⟨b, off, ep, hb, c0⟩ := int_rcell (H.out.keep U.out (fun _ _ _ h => h)) hlt
      subst ep
      have TK := Lib.hid (List.take_succ_eq_append_getElem hlt)
      have RISE : Hid (∀ a ∈ l.take k, a < l[k]) := fun a ha => by
        obtain ⟨i, hi, e⟩ := List.getElem_of_mem ha
        rw [List.length_take] at hi
        rw [List.getElem_take] at e
        have := List.pairwise_iff_getElem.1 HR.out i k (by omega) hlt (by omega)
        rw [e] at this; exact this
      obtain ⟨x, hx⟩ : ∃ x, x = l[k] := ⟨_, rfl⟩
      rw [← hx] at c0 TK RISE
      clear hx
      obtain ⟨p1, c1, w1, hr1, I1, U1⟩ := ints_app wr w.heap.size _ acc x OW.out (by omega) hwl
      rcases RR.out with ⟨rfl, h2, h3⟩ | ⟨rfl, h2, y, hy, hny⟩
      · by_cases hxn : x < n
        · have q2 : ¬ n ≤ x := by omega
          have q3 : (x != n) = true := by rw [bne_iff_ne]; omega
          have R0 : Hid (acc = l.take k ∧ ∀ x ∈ l.take k, x < n) := ⟨h2, h3⟩
          clear h2 h3 RR
          have RN : Hid (RW n (l.take (k + 1)) false (acc ++ [x])) := by
            show RW _ _ _ _
            rw [TK.out]
            exact Or.inl ⟨rfl, by rw [R0.out.1], fun y hy => (List.mem_append.1 hy).elim (R0.out.2 y) (fun h => by rw [List.mem_singleton.1 h]; exact hxn)⟩
          have UF : Hid (Upd (fun _ => False) w w1) := U.out.trans U1 (fun q hq e => by omega)
          have I1 := Lib.hid I1
          clear U1
          generalize acc.length + 1 = na at *
          generalize acc.length = nb at *
          generalize hnl : l.length = nl at *
          go_wp2_with (at_builtin; refine wpList_builtin rfl _ _ 56 rfl _ _ rfl rfl hr1 ?_)
          go_roundw
          case rel => exact ⟨k + 1, _, _, by omega, rfl, by simp, RN, I1, UF⟩
          case measure => simp [intOf]; omega
        · have q2 : n ≤ x := by omega
          have R0 : Hid (acc = l.take k ∧ ∀ x ∈ l.take k, x < n) := ⟨h2, h3⟩
          obtain ⟨p1, c1, w1, hr1, I1, U1⟩ := ints_app wr w.heap.size _ acc n OW.out (by omega) hwl
          have UF : Hid (Upd (fun _ => False) w w1) := U.out.trans U1 (fun q hq e => by omega)
          by_cases hxe : x = n
          · have q3 : (x != n) = false := by rw [hxe]; simp
            have RN : Hid (RW n (l.take (k + 1)) true (acc ++ [n])) := by
              show RW _ _ _ _
              rw [TK.out, hxe]
              exact Or.inr ⟨rfl, by rw [wth_last_eq R0.out.2, R0.out.1], n, by simp, Int.le_refl _⟩
            have I1 := Lib.hid I1
            clear U1 h2 h3 RR hxe
            generalize acc.length + 1 = na at *
            generalize acc.length = nb at *
            generalize hnl : l.length = nl at *
            go_wp2_with (at_builtin; refine wpList_builtin rfl _ _ 56 rfl _ _ rfl rfl hr1 ?_)
            go_roundw
            case rel => exact ⟨k + 1, _, _, by omega, rfl, by simp, RN, I1, UF⟩
            case measure => simp [intOf]; omega
          · have q3 : (x != n) = true := by rw [bne_iff_ne]; exact hxe
            have RN : Hid (RW n (l.take (k + 1)) true (acc ++ [n] ++ [x])) := by
              show RW _ _ _ _
              rw [TK.out]
              exact Or.inr ⟨rfl, by rw [wth_last_gt R0.out.2 (by omega), R0.out.1], x, by simp, by omega⟩
            obtain ⟨p2, c2, w2, hr2, I2, U2⟩ := ints_app w1 w.heap.size _ (acc ++ [n]) x I1 (by simp; omega) (Nat.le_trans hwl U1.size)
            have UF2 : Hid (Upd (fun _ => False) w w2) := UF.out.trans U2 (fun q hq e => by omega)
            have I2 := Lib.hid I2
            rw [List.length_append, List.length_singleton] at hr2 I2
            clear U1 U2 h2 h3 RR hxe I1 UF
            generalize acc.length + 1 = na at *
            generalize acc.length = nb at *
            generalize hnl : l.length = nl at *
            go_wp2_with (first | (at_builtin; refine wpList_builtin rfl _ _ 56 rfl _ _ rfl rfl hr1 ?_) | (at_builtin; refine wpList_builtin rfl _ _ 56 rfl _ _ rfl rfl hr2 ?_))
            go_roundw
            case rel => exact ⟨k + 1, _, _, by omega, rfl, by simp, RN, I2, UF2⟩
            case measure => simp [intOf]; omega
      · have hyx := RISE.out y hy
        have q2 : n ≤ x := by omega
        have q3 : (x != n) = true := by rw [bne_iff_ne]; omega
        have R0 : Hid (acc = wth (l.take k) n ∧ y ∈ l.take k ∧ n ≤ y ∧ n < x) := ⟨h2, hy, hny, by omega⟩
        clear h2 hy hny hyx RR
        have RN : Hid (RW n (l.take (k + 1)) true (acc ++ [x])) := by
          show RW _ _ _ _
          rw [TK.out]
          exact Or.inr ⟨rfl, by rw [wth_on R0.out.2.2.2, R0.out.1], y, List.mem_append_left _ R0.out.2.1, R0.out.2.2.1⟩
        have UF : Hid (Upd (fun _ => False) w w1) := U.out.trans U1 (fun q hq e => by omega)
        have I1 := Lib.hid I1
        clear U1
        generalize acc.length + 1 = na at *
        generalize acc.length = nb at *
        generalize hnl : l.length = nl at *
        go_wp2_with (at_builtin; refine wpList_builtin rfl _ _ 56 rfl _ _ rfl rfl hr1 ?_)
        go_roundw
        case rel => exact ⟨k + 1, _, _, by omega, rfl, by simp, RN, I1, UF⟩
        case measure => simp [intOf]; omega
    · have q1 : ¬ (k : Int) < (l.length : Int) := by omega
      have RL := RR.out
      rw [List.take_of_length_le (by omega)] at RL
      rcases RL with ⟨rfl, h2, h3⟩ | ⟨rfl, h2, _⟩
      · have EA : Hid (acc ++ [n] = wth l n) := by show _ = _; rw [wth_all h3, h2]
        obtain ⟨p1, c1, w1, hr1, I1, U1⟩ := ints_app wr w.heap.size _ acc n OW.out (by omega) hwl
        rw [EA.out] at I1
        have UF : Hid (Upd (fun _ => False) w w1) := U.out.trans U1 (fun q hq e => by omega)
        have I1 := Lib.hid I1
        clear U1 h2 h3 RR
        generalize acc.length + 1 = na at *
        generalize acc.length = nb at *
        generalize hnl : l.length = nl at *
        go_wp2_with (at_builtin; refine wpList_builtin rfl _ _ 56 rfl _ _ rfl rfl hr1 ?_)
        go_ret
        exact ⟨_, rfl, I1.out, UF.out⟩
      · have I1 : Hid (IntsAt wr w.heap.size (.slice po acc.length co) (wth l n)) := by rw [← h2]; exact OW
        clear h2 RR
        generalize acc.length = nb at *
        generalize hnl : l.length = nl at *
        go_wp2
        go_ret
        exact ⟨_, rfl, I1.out, U.out⟩
theorem txt_row {w : World} {base g n c a : Nat} {l : List Txt} (h : TxtsAt w base (.slice (some ⟨g, 0, none⟩) n c) l) (hn : n = l.length) (ha : a ≤ l.length) : RowOf txtc 1 w (.slice (some ⟨g, a, none⟩) (l.length - a) (c - a)) (l.drop a) := by
  subst hn
  obtain ⟨_, ⟨e, _⟩ | ⟨g', cap, cs, ev, hg, hB, hc, hm⟩⟩ := own_blk h
  · cases e
  · simp only [Value.slice.injEq, Option.some.injEq, Addr.mk.injEq] at ev
    obtain ⟨⟨rfl, _⟩, _, rfl⟩ := ev
    refine Or.inr ⟨g, a, c - a, by rw [List.length_drop], hB.lt, by rw [List.length_drop]; omega, fun i t hi j hj => ?_⟩
    have : j = 0 := by omega
    subst this
    have hil := (List.getElem?_eq_some_iff.1 hi).1
    rw [List.length_drop] at hil
    rw [List.getElem?_drop] at hi
    rw [hB.cell, Nat.mul_one, Nat.add_zero, List.getElem?_append_left (by simp; omega), List.getElem?_map, hi]; rfl
/-- The rest of a row, at a row of its own. -/
theorem txts_rest (w : World) (base : Nat) (v2 : Value) (l : List Txt) (h : RowOf txtc 1 w v2 l) (hl : l.length ≤ 1000000) (hb : base ≤ w.heap.size) :
    ∃ v' w', (Builtin.append_ #[22, 22] 22 #[.slice (some ⟨w.heap.size, 0, none⟩) 0 0, v2]).run Try.prog (w.alloc (.cells #[] 9)) = .ok v' w' ∧ TxtsAt w' base v' l ∧ Upd (fun _ => False) w w' := by
  obtain ⟨i0, hi0, hz0, hz1, hz2⟩ := rinfo_parts string_info
  have u0 : Upd (fun _ => False) w (w.alloc (.cells #[] 9)) := (Upd.refl _ _).alloc _
  have h2 := h.keep u0 (fun _ _ _ h => h)
  have hN : TxtsAt (w.alloc (.cells #[] 9)) base (.slice (some ⟨w.heap.size, 0, none⟩) 0 0) [] := World.ownsRow_made (e := 9) (size := 1) w #[] 0 hb (by unfold maxLen; omega) rfl
  by_cases h0 : l = []
  · subst h0
    obtain ⟨p, c, rfl⟩ : ∃ a c, v2 = .slice a 0 c := by
      rcases h2 with ⟨a, c, e, _⟩ | ⟨b, off, cap, e, _⟩
      · exact ⟨_, _, e⟩
      · exact ⟨_, _, e⟩
    have hs : Src Try.prog i0.size 22 (.slice p 0 c) 0 [] (w.alloc (.cells #[] 9)) := by
      cases p with
      | none => exact Src.ofNil _ Try.underlying22 c
      | some a => exact Src.ofSlice _ Try.underlying22 a 0 c [] (by simp) (fun j u h => by simp at h) (fun u h => by cases h)
    exact ⟨_, _, run_append_nothing (P := Try.prog) _ 22 22 22 9 i0 Try.underlying22 hi0 _ 0 0 (Nat.le_refl _) _ hs, hN, u0⟩
  · obtain ⟨b, off, c, rfl, hb2, _, hc⟩ : ∃ b off cap, v2 = .slice (some ⟨b, off, none⟩) l.length cap ∧ b < (w.alloc (.cells #[] 9)).heap.size ∧ l.length ≤ maxLen ∧ ∀ i a, l[i]? = some a → ∀ j, j < 1 → (w.alloc (.cells #[] 9)).cell? ⟨b, off + (i * 1 + j), none⟩ = (txtc a)[j]? := by
      rcases h2 with ⟨_, _, _, e⟩ | h2
      · exact absurd e h0
      · exact h2
    have hn : ∀ j u, (l.map fun t => Value.string (ofL t))[j]? = some u → (w.alloc (.cells #[] 9)).cell? ((⟨b, off, none⟩ : Addr).add j) = some u := by
      intro j u hj
      rw [List.getElem?_map] at hj
      obtain ⟨t, ht, rfl⟩ := Option.map_eq_some_iff.1 hj
      have h1 := hc j t ht 0 (by omega)
      have e : (⟨b, off, none⟩ : Addr).add j = ⟨b, off + (j * 1 + 0), none⟩ := by simp [Addr.add]
      rw [e, h1]; rfl
    obtain ⟨v', w', hr, q2, q3, _⟩ := run_append_own (P := Try.prog) _ base 22 22 9 i0 (.string ByteArray.empty) 1 16 Try.underlying22 hi0 hz0 hz1 hz2 rfl (by decide) _ 0 [] hN ⟨b, off, none⟩ l.length c _ (by simp) hn txts_one (by unfold maxLen; omega) (by omega) (Nat.le_trans hb u0.size)
    refine ⟨v', w', hr, ?_, u0.trans (Upd.of_grown q3) (fun k hk e => ?_)⟩
    · unfold TxtsAt
      rw [Nat.zero_add, List.nil_append] at q2; exact q2
    · have e2 : w.heap.size = k := Option.some.inj (e.symm ▸ rfl : (some w.heap.size) = some k)
      omega
theorem slice_rest (g na cc a : Nat) (h1 : a ≤ na) : ∃ V, (∀ w, (Instr.slice 22 (.slice (some ⟨g, 0, none⟩) na cc) (some (.int .i64 (a : Int))) none none).run Try.prog w = .ok V w) ∧
    ∀ (w : World) (base : Nat) (l : List Txt), TxtsAt w base (.slice (some ⟨g, 0, none⟩) na cc) l → RowOf txtc 1 w V (l.drop a) := by
  have hE : Try.prog.elem 22 = 9 := by simp [Program.elem, Try.underlying22]
  refine ⟨_, fun w => by rw [run_slice_l (P := Try.prog) w 22 _ na cc (by rw [hE]; exact Try.underlying22) .i64 (a : Int) (by omega) (by omega), hE, Try.sizeOf9]; rfl, fun w base l h => ?_⟩
  obtain ⟨_, ⟨e, _⟩ | ⟨g', cap, cs, ev, hg, hB, hc, hm⟩⟩ := own_blk h
  · cases e
  simp only [Value.slice.injEq] at ev
  have hnl : na = l.length := ev.2.1
  unfold sliced
  rw [Int.toNat_natCast]
  split
  · rename_i hcc
    have h0 : l.drop a = [] := List.drop_eq_nil_of_le (by omega)
    rw [h0]
    exact Or.inl ⟨_, _, by rw [show na - a = 0 by omega], rfl⟩
  · have e2 : (some (⟨g, 0, none⟩ : Addr)).map (fun x => x.add (a * 1)) = some ⟨g, a, none⟩ := by simp [addr_add]
    have := txt_row (a := a) h hnl (by omega)
    rw [← hnl] at this
    simpa [addr_add] using this
theorem slice_head (g na cc a : Nat) (h1 : a ≤ cc) (w : World) : (Instr.slice 22 (.slice (some ⟨g, 0, none⟩) na cc) none (some (.int .i64 (a : Int))) (some (.int .i64 (a : Int)))).run Try.prog w = .ok (.slice (some ⟨g, 0, none⟩) a a) w := by
  have hE : Try.prog.elem 22 = 9 := by simp [Program.elem, Try.underlying22]
  rw [run_slice_hm (P := Try.prog) w 22 _ na cc (by rw [hE]; exact Try.underlying22) .i64 .i64 (a : Int) (a : Int) (by omega) (by omega) (by omega), hE, Try.sizeOf9]
  simp [Result.andThen, sliced, addr_add]
/-- A text more behind the beginning of a row: at a row of its own. -/
theorem txts_cut (w : World) (base g n c a : Nat) (l : List Txt) (t : Txt) (h : TxtsAt w base (.slice (some ⟨g, 0, none⟩) n c) l) (ha : a ≤ l.length) (hl : l.length ≤ 1000000) (hb : base ≤ w.heap.size) :
    ∃ p c' w', (Builtin.append_ #[22, 22] 22 #[.slice (some ⟨g, 0, none⟩) a a, .slice (some ⟨w.heap.size, 0, none⟩) 1 1]).run Try.prog (w.alloc (.cells #[.string (ofL t)] 9)) = .ok (.slice p (a + 1) c') w' ∧ TxtsAt w' base (.slice p (a + 1) c') (l.take a ++ [t]) ∧ Upd (fun _ => False) w w' := by
  obtain ⟨i0, hi0, hz0, hz1, hz2⟩ := rinfo_parts string_info
  have u0 : Upd (fun _ => False) w (w.alloc (.cells #[.string (ofL t)] 9)) := (Upd.refl _ _).alloc _
  obtain ⟨_, ⟨e, _⟩ | ⟨g', cap, cs, ev, hg, hB0, hc, hm⟩⟩ := own_blk h
  · cases e
  simp only [Value.slice.injEq, Option.some.injEq, Addr.mk.injEq] at ev
  obtain ⟨⟨rfl, _⟩, _, rfl⟩ := ev
  have hB := u0.blk hB0 id
  have hxl : ((l.take a).map fun t => Value.string (ofL t)).length = a := by simp; omega
  have holds : ∀ j u, ((l.take a).map fun t => Value.string (ofL t))[j]? = some u → (w.alloc (.cells #[.string (ofL t)] 9)).cell? ((⟨g, 0, none⟩ : Addr).add j) = some u := by
    intro j u hj
    have hjl := (List.getElem?_eq_some_iff.1 hj).1
    rw [hxl] at hjl
    have e : (⟨g, 0, none⟩ : Addr).add j = ⟨g, j, none⟩ := by have := addr_add g 0 j; rw [Nat.zero_add] at this; exact this
    rw [e, hB.cell, List.getElem?_append_left (by simp; omega), ← hj, List.getElem?_map, List.getElem?_map, List.getElem?_take_of_lt hjl]
  have hN : Blk (w.alloc (.cells #[.string (ofL t)] 9)) w.heap.size [.string (ofL t)] 9 := Blk.made w _ _
  have hn : ∀ j u, [Value.string (ofL t)][j]? = some u → (w.alloc (.cells #[.string (ofL t)] 9)).cell? ((⟨w.heap.size, 0, none⟩ : Addr).add j) = some u := World.news_of_block (cs := #[.string (ofL t)]) (t := 9) (fr := (0, 0)) hN
  generalize hwA : w.alloc (.cells #[.string (ofL t)] 9) = wA at *
  have hr := run_append_grow (P := Try.prog) wA 22 22 9 i0 (.string ByteArray.empty) Try.underlying22 hi0 hz0 ⟨g, 0, none⟩ a a _ (by rw [hz1, hxl]; simp) holds ⟨w.heap.size, 0, none⟩ 1 1 [.string (ofL t)] (by rw [hz1]; rfl) hn (by omega) (by omega) (growslice_fits (by omega) (by rw [hz2]; show (a + 1) * 16 ≤ _; omega))
  have hge := grownCap_ge wA (a + 1) a 9
  have hcm := grownCap_le_maxLen wA (a + 1) a 9 (by unfold maxLen; omega)
  refine ⟨_, _, _, hr, ⟨by simp, .inr ⟨_, _, _, by simp [Nat.min_eq_left ha], Nat.le_trans hb u0.size, heap_alloc_new wA.drew _, by simp [Nat.min_eq_left ha]; exact hge, hcm, ?_, ?_⟩⟩, ?_⟩
  · simp only [Array.size_append, List.size_toArray, size_zeroCells, hxl, List.length_singleton]
    have : (Value.string ByteArray.empty).cells.size = 1 := rfl
    rw [this]; omega
  · rw [show (l.take a ++ [t]).length * 1 = a + 1 by simp; omega]
    simp only [Array.toList_append, List.append_assoc]
    rw [← List.append_assoc, List.map_append]
    exact List.take_left' (by rw [List.length_append, hxl]; rfl)
  · exact u0.trans ((Upd.refl _ _).drew.alloc _) (fun _ _ h => h)
/-- One more at its place. -/
theorem sorted_put {acc : List Txt} {s : Txt} {a : Nat} (hr : Rising acc) (h1 : ∀ t ∈ acc.take a, t < s) (h2 : ∀ t ∈ acc.drop a, s < t) : Rising (acc.take a ++ [s] ++ acc.drop a) ∧ ∀ t, t ∈ acc.take a ++ [s] ++ acc.drop a ↔ t ∈ acc ∨ t = s := by
  have hp : (acc.take a ++ acc.drop a).Pairwise (· < ·) := by rw [List.take_append_drop]; exact hr
  obtain ⟨p1, p2, p3⟩ := List.pairwise_append.1 hp
  refine ⟨List.pairwise_append.2 ⟨List.pairwise_append.2 ⟨p1, by simp, fun x hx y hy => by rw [List.mem_singleton.1 hy]; exact h1 x hx⟩, p2, fun x hx y hy => ?_⟩, fun t => ?_⟩
  · rcases List.mem_append.1 hx with g | g
    · exact p3 x g y hy
    · rw [List.mem_singleton.1 g]; exact h2 y hy
  · have : t ∈ acc ↔ t ∈ acc.take a ∨ t ∈ acc.drop a := by rw [← List.mem_append, List.take_append_drop]
    rw [this]; simp only [List.mem_append, List.mem_singleton]
    constructor
    · rintro ((h | h) | h)
      · exact Or.inl (Or.inl h)
      · exact Or.inr h
      · exact Or.inl (Or.inr h)
    · rintro ((h | h) | h)
      · exact Or.inl (Or.inl h)
      · exact Or.inr h
      · exact Or.inl (Or.inr h)
set_option maxHeartbeats 8000000 in
set_option maxRecDepth 100000 in
theorem sorted13_any (v : Value) (l : List Txt) (w : World) (h : RowOf txtc 1 w v l) (hn : l.Nodup) (hl : l.length ≤ 10000) :
    Calls Try.prog 61 #[v] w fun e w' => ∃ v' l', e = .returned v' ∧ TxtsAt w' w.heap.size v' l' ∧ Rising l' ∧ (∀ t, t ∈ l' ↔ t ∈ l) ∧ Upd (fun _ => False) w w' := by
  obtain ⟨p, c, ev, hm⟩ := h.len
  subst ev
  have H := Lib.hid h
  have HN := Lib.hid hn
  have MO := Lib.hid (txts_none w)
  have UO : Hid (Upd (fun _ => False) w (w.alloc (.cells #[] 9))) := (Upd.refl _ _).alloc _
  obtain ⟨nl, hnl⟩ : ∃ nl, nl = l.length := ⟨_, rfl⟩
  rw [← hnl] at H hl hm ⊢
  have NL := Lib.hid hnl
  clear h hn hnl
  go_enter Try.func61, Try.ntmps61
  go_wp2
  go_loopw [3, 11] (fun out xi wr => ∃ (k g c na : Nat) (acc : List Txt), k ≤ nl ∧ na ≤ k ∧ out = .slice (some ⟨g, 0, none⟩) na c ∧ xi = .int .i64 (k : Int) ∧ Hid (na = acc.length) ∧ na ≤ c ∧ c ≤ maxLen ∧ Hid (Rising acc ∧ ∀ t, t ∈ acc ↔ t ∈ l.take k) ∧ Hid (TxtsAt wr w.heap.size (.slice (some ⟨g, 0, none⟩) na c) acc) ∧ Hid (Upd (fun _ => False) w wr)) (fun _ xi _ => nl - (intOf xi).toNat)
  case atStart => exact ⟨0, w.heap.size, 0, 0, [], by omega, by omega, rfl, rfl, Lib.hid rfl, by omega, by unfold maxLen; omega, Lib.hid ⟨List.Pairwise.nil, fun t => by simp⟩, MO, UO⟩
  case round =>
    clear MO UO
    obtain ⟨k, g, cc, na, acc, hk, hna, rfl, rfl, NA, hcc, hcm, RM, OW, U⟩ := hrel
    have hwl := U.out.size
    unfold maxLen at hcm
    by_cases hlt : k < nl
    · have q1 : (k : Int) < (nl : Int) := by omega
      have hkl : k < l.length := by rw [← NL.out]; exact hlt
      obtain ⟨b, off, ep, hb, c0⟩ := txt_cell (NL.out ▸ H.out.keep U.out (fun _ _ _ h => h)) hkl
      subst ep
      have TK := Lib.hid (List.take_succ_eq_append_getElem hkl)
      have NS : Hid (l[k] ∉ acc) := fun hm => by
        obtain ⟨i, hi, e⟩ := List.getElem_of_mem ((RM.out.2 _).1 hm)
        rw [List.length_take] at hi
        rw [List.getElem_take] at e
        have := (List.pairwise_iff_getElem.1 HN.out) i k (by omega) hkl (by omega)
        exact this e
      obtain ⟨s, hs⟩ : ∃ s, s = l[k] := ⟨_, rfl⟩
      rw [← hs] at c0 TK NS
      obtain ⟨sm, hsm⟩ : ∃ sm, sm = ofL s := ⟨_, rfl⟩
      rw [← hsm] at c0
      have SM := Lib.hid hsm
      clear hs hsm hkl
      obtain ⟨w6, rfl⟩ : ∃ w6, w6 = wr := ⟨_, rfl⟩
      go_wp2
      go_loopw [6] (fun x6 wq => ∃ (a : Nat), x6 = .int .i64 (a : Int) ∧ a ≤ na ∧ Hid (wq = w6) ∧ Hid (∀ t ∈ acc.take a, t < s)) (fun x6 _ => na - (intOf x6).toNat)
      case atStart => exact ⟨0, rfl, by omega, Lib.hid rfl, Lib.hid (fun t ht => by simp at ht)⟩
      case round =>
        obtain ⟨a, rfl, ha, WQ, LT⟩ := hrel
        have hwq := WQ.out
        subst hwq
        clear WQ
        by_cases hal : a < na
        · have hal2 : a < acc.length := by rw [← NA.out]; exact hal
          obtain ⟨g', ep', _, c1⟩ := txts_get (NA.out ▸ OW.out) hal2
          have eg : g = g' := by injection ep' with e; injection e
          subst eg
          have q2 : (a : Int) < (na : Int) := by omega
          have BQ := beq_txt acc[a] s
          have LQ := less_txt acc[a] s
          have HNE : acc[a] ≠ s := fun e => NS.out (by rw [← e]; exact List.getElem_mem hal2)
          rw [decide_eq_false HNE] at BQ
          rw [← SM.out] at BQ LQ
          by_cases hs : acc[a] < s
          · rw [decide_eq_true hs] at LQ
            have LT2 : Hid (∀ t ∈ acc.take (a + 1), t < s) := fun t ht => by
              rw [List.take_succ_eq_append_getElem hal2] at ht
              rcases List.mem_append.1 ht with h | h
              · exact LT.out t h
              · rw [List.mem_singleton.1 h]; exact hs
            clear hs HNE
            generalize ofL acc[a] = sa at *
            clear hal2 ep'
            go_wp2
            go_roundw
            case rel => exact ⟨a + 1, by simp, by omega, Lib.hid (by first | trivial | rfl), LT2⟩
            case measure => simp [intOf]; omega
          · rw [decide_eq_false hs] at LQ
            have GT : ∀ t ∈ acc.drop a, s < t := fun t ht => by
              have h1 : s < acc[a] := by
                rcases LinO.tri s acc[a] with h | h | h
                · exact h
                · exact absurd h.symm HNE
                · exact absurd h hs
              rw [List.drop_eq_getElem_cons hal2] at ht
              rcases List.mem_cons.1 ht with h | h
              · rw [h]; exact h1
              · have hp := RM.out.1
                rw [← List.take_append_drop a acc, List.drop_eq_getElem_cons hal2] at hp
                exact LinO.tr h1 (rising_head (List.pairwise_append.1 hp).2.1 h)
            clear hs HNE
            generalize ofL acc[a] = sa at *
            clear hal2 ep'
            obtain ⟨V2, RS1, RS2⟩ := slice_rest g na cc a ha
            have RS3 := slice_head g na cc a (by omega)
            obtain ⟨v2, w2, hr1, R1, U1⟩ := txts_rest wr w.heap.size _ (acc.drop a) (RS2 _ _ _ OW.out) (by rw [List.length_drop, ← NA.out]; omega) hwl
            have OW2 := own_keep OW.out U1 (fun _ _ h => h)
            obtain ⟨p3, c3, w3, hr2, R2, U2⟩ := txts_cut w2 w.heap.size g na cc a acc s OW2 (by rw [← NA.out]; exact ha) (by rw [← NA.out]; omega) (Nat.le_trans hwl U1.size)
            obtain ⟨v4, w4, hr3, R3, U3, NO⟩ := txts_append w3 w.heap.size w.heap.size 22 _ v2 _ _ R2 (own_keep R1 U2 (fun _ _ h => h)) (by simp; rw [← NA.out]; omega) (Nat.le_trans hwl (Nat.le_trans U1.size U2.size))
            rw [← SM.out] at hr2
            obtain ⟨SP1, SP2⟩ := sorted_put RM.out.1 LT.out GT
            have LN : (acc.take a ++ [s] ++ acc.drop a).length = na + 1 := by
              rw [List.length_append, List.length_append, List.length_take, List.length_drop, ← NA.out]; simp; omega
            have R3B := own_blk R3
            rw [LN] at R3B
            obtain ⟨_, ⟨_, e0⟩ | ⟨g4, c4, cs4, ev4, _, _, hc4, hm4⟩⟩ := R3B
            · omega
            subst ev4
            have SP2 : Hid (∀ t, t ∈ acc.take a ++ [s] ++ acc.drop a ↔ t ∈ l.take (k + 1)) := fun t => by
              rw [SP2, RM.out.2, TK.out, List.mem_append, List.mem_singleton]
            have SP1 := Lib.hid SP1
            have LN := Lib.hid LN.symm
            have R3 := Lib.hid R3
            have U4 : Hid (Upd (fun _ => False) w w4) := ((U.out.trans U1 (fun _ _ h => h)).trans U2 (fun _ _ h => h)).trans U3 (fun q hq e => by have := (own_lt R2 e).2.1; omega)
            clear R1 R2 U1 U2 U3 OW2 NO GT RS2
            generalize acc.take a ++ [s] ++ acc.drop a = acc2 at *
            go_wp2_with (first | (at_builtin; refine wpList_builtin rfl _ _ 22 rfl _ _ rfl rfl hr1 ?_) | (at_builtin; refine wpList_builtin rfl _ _ 22 rfl _ _ rfl rfl hr2 ?_) | (at_builtin; refine wpList_builtin rfl _ _ 22 rfl _ _ rfl rfl hr3 ?_))
            go_roundw
            case rel => exact ⟨k + 1, g4, c4, na + 1, acc2, by omega, by omega, rfl, by simp, LN, by omega, hm4, Lib.hid ⟨SP1.out, SP2.out⟩, R3, U4⟩
            case measure => simp [intOf]; omega
        · have q2 : ¬ (a : Int) < (na : Int) := by omega
          have GT : ∀ t ∈ acc.drop a, s < t := fun t ht => by
            rw [List.drop_eq_nil_of_le (by rw [← NA.out]; omega)] at ht; cases ht
          obtain ⟨V2, RS1, RS2⟩ := slice_rest g na cc a ha
          have RS3 := slice_head g na cc a (by omega)
          obtain ⟨v2, w2, hr1, R1, U1⟩ := txts_rest wr w.heap.size _ (acc.drop a) (RS2 _ _ _ OW.out) (by rw [List.length_drop, ← NA.out]; omega) hwl
          have OW2 := own_keep OW.out U1 (fun _ _ h => h)
          obtain ⟨p3, c3, w3, hr2, R2, U2⟩ := txts_cut w2 w.heap.size g na cc a acc s OW2 (by rw [← NA.out]; exact ha) (by rw [← NA.out]; omega) (Nat.le_trans hwl U1.size)
          obtain ⟨v4, w4, hr3, R3, U3, NO⟩ := txts_append w3 w.heap.size w.heap.size 22 _ v2 _ _ R2 (own_keep R1 U2 (fun _ _ h => h)) (by simp; rw [← NA.out]; omega) (Nat.le_trans hwl (Nat.le_trans U1.size U2.size))
          rw [← SM.out] at hr2
          obtain ⟨SP1, SP2⟩ := sorted_put RM.out.1 LT.out GT
          have LN : (acc.take a ++ [s] ++ acc.drop a).length = na + 1 := by
            rw [List.length_append, List.length_append, List.length_take, List.length_drop, ← NA.out]; simp; omega
          have R3B := own_blk R3
          rw [LN] at R3B
          obtain ⟨_, ⟨_, e0⟩ | ⟨g4, c4, cs4, ev4, _, _, hc4, hm4⟩⟩ := R3B
          · omega
          subst ev4
          have SP2 : Hid (∀ t, t ∈ acc.take a ++ [s] ++ acc.drop a ↔ t ∈ l.take (k + 1)) := fun t => by
            rw [SP2, RM.out.2, TK.out, List.mem_append, List.mem_singleton]
          have SP1 := Lib.hid SP1
          have LN := Lib.hid LN.symm
          have R3 := Lib.hid R3
          have U4 : Hid (Upd (fun _ => False) w w4) := ((U.out.trans U1 (fun _ _ h => h)).trans U2 (fun _ _ h => h)).trans U3 (fun q hq e => by have := (own_lt R2 e).2.1; omega)
          clear R1 R2 U1 U2 U3 OW2 NO GT RS2
          generalize acc.take a ++ [s] ++ acc.drop a = acc2 at *
          go_wp2_with (first | (at_builtin; refine wpList_builtin rfl _ _ 22 rfl _ _ rfl rfl hr1 ?_) | (at_builtin; refine wpList_builtin rfl _ _ 22 rfl _ _ rfl rfl hr2 ?_) | (at_builtin; refine wpList_builtin rfl _ _ 22 rfl _ _ rfl rfl hr3 ?_))
          go_roundw
          case rel => exact ⟨k + 1, g4, c4, na + 1, acc2, by omega, by omega, rfl, by simp, LN, by omega, hm4, Lib.hid ⟨SP1.out, SP2.out⟩, R3, U4⟩
          case measure => simp [intOf]; omega
    · have q1 : ¬ (k : Int) < (nl : Int) := by omega
      have EA : Hid (∀ t, t ∈ acc ↔ t ∈ l) := fun t => by rw [RM.out.2, List.take_of_length_le (by rw [← NL.out]; omega)]
      go_wp2
      go_ret
      exact ⟨_, rfl, acc, OW.out, RM.out.1, EA.out, U.out⟩
theorem own_base {w : World} {base base2 n : Nat} {e : TypeId} {v : Value} {xs : List Value} (h : w.ownsRow base e 1 v n xs) (hb : base2 ≤ base) : w.ownsRow base2 e 1 v n xs := by
  refine ⟨h.1, h.2.imp id ?_⟩
  rintro ⟨g, cap, cur, a, b, c⟩
  exact ⟨g, cap, cur, a, Nat.le_trans hb b, c⟩
theorem own2_base {w : World} {base base2 n : Nat} {e : TypeId} {v : Value} {xs : List Value} (h : w.ownsRow base e 2 v n xs) (hb : base2 ≤ base) : w.ownsRow base2 e 2 v n xs := by
  refine ⟨h.1, h.2.imp id ?_⟩
  rintro ⟨g, cap, cur, a, b, c⟩
  exact ⟨g, cap, cur, a, Nat.le_trans hb b, c⟩
theorem TxtsAt.trow {w : World} {base : Nat} {v : Value} {l : List Txt} (h : TxtsAt w base v l) : RowOf txtc 1 w v l := own_row (enc := fun t => Value.string (ofL t)) h
def addP (l : List MarkP) (t : Txt) (i : Int) : List MarkP := if (t, i) ∈ l then l else l ++ [(t, i)]
theorem addP_mem {l : List MarkP} {t s : Txt} {i j : Int} : (s, j) ∈ addP l t i ↔ (s, j) ∈ l ∨ s = t ∧ j = i := by
  unfold addP; split
  · rename_i h; constructor
    · exact Or.inl
    · rintro (g | ⟨rfl, rfl⟩)
      · exact g
      · exact h
  · rw [List.mem_append, List.mem_singleton, Prod.mk.injEq]
theorem addP_nodup {l : List MarkP} {t : Txt} {i : Int} (h : l.Nodup) : (addP l t i).Nodup := by
  unfold addP; split
  · exact h
  · rename_i hn
    exact List.nodup_append.2 ⟨h, by simp, fun x hx y hy e => by simp at hy; subst hy; subst e; exact hn hx⟩
theorem addP_len {l : List MarkP} {t : Txt} {i : Int} : (addP l t i).length ≤ l.length + 1 := by unfold addP; split <;> simp
theorem pair_eq (a b : ByteArray) (x y : Int) (w : World) : (Op.equalIn 10000 104 (.agg #[.string a, .int .i64 x]) (.agg #[.string b, .int .i64 y])).run Try.prog w = .ok (a.toList == b.toList && x == y) w := by
  have u3 := Try.underlying3
  have a3 := Try.isAgg3
  have z3 := Try.sizeOf3
  have u9 := Try.underlying9
  have a9 := Try.isAgg9
  have z9 := Try.sizeOf9
  have hS : Try.prog.underlying 104 = some (.struct (Try.prog.fieldsOf 104)) := by kernel_rfl
  rw [show (10000 : Nat) = 9999 + 1 from rfl, run_equalIn_agg w 9999 104 _ _ hS (by kernel_rfl)]
  simp only [Program.fieldsOf, Try.underlying104]
  go_simp
  cases h1 : a.toList == b.toList <;> cases h2 : x == y <;> simp_all
set_option maxHeartbeats 4000000 in
set_option maxRecDepth 100000 in
theorem add15_any (v : Value) (l : List MarkP) (t : Txt) (i : Int) (w : World) (h : RowOf mkc 2 w v l) (hl : l.length ≤ 10000) :
    Calls Try.prog 33 #[v, .string (ofL t), .int .i64 i] w fun e w' => ∃ v', e = .returned (.tuple #[v', .bool (!decide ((t, i) ∈ l))]) ∧ RowOf mkc 2 w' v' (addP l t i) ∧ (∀ k, v'.ownBlock = some k → v.ownBlock = some k ∨ w.heap.size ≤ k) ∧ Upd (fun _ => False) w w' := by
  obtain ⟨p, c, ev, hm⟩ := h.len
  subst ev
  have H := Lib.hid h
  obtain ⟨nl, hnl⟩ : ∃ nl, nl = l.length := ⟨_, rfl⟩
  rw [← hnl] at H hl hm ⊢
  have NL := Lib.hid hnl
  obtain ⟨sk, hsk⟩ : ∃ sk, sk = ofL t := ⟨_, rfl⟩
  rw [← hsk]
  have SK := Lib.hid hsk
  clear h hnl hsk
  go_enter Try.func33, Try.ntmps33
  go_wp2
  go_loopw [12] (fun xi wr => ∃ (k : Nat), k ≤ nl ∧ xi = .int .i64 (k : Int) ∧ Hid ((t, i) ∉ l.take k) ∧ Hid (Upd (fun _ => False) w wr)) (fun xi _ => nl - (intOf xi).toNat)
  case atStart => exact ⟨0, by omega, rfl, Lib.hid (by simp), Lib.hid (Upd.refl _ _)⟩
  case round =>
    obtain ⟨k, hk, rfl, NI, U⟩ := hrel
    have hwl := U.out.size
    by_cases hlt : k < nl
    · have q1 : (k : Int) < (nl : Int) := by omega
      have hkl : k < l.length := by rw [← NL.out]; exact hlt
      obtain ⟨b, off, m, ep, hb, hmk, c0, c1⟩ := mark_rcells (NL.out ▸ H.out.keep U.out (fun _ _ _ h => h)) hkl
      subst ep
      have TK := Lib.hid (take_snocM hmk)
      have ME := Lib.hid (List.mem_of_getElem? hmk)
      have BQ := beq_txt m.1 t
      rw [← SK.out] at BQ
      have PE := pair_eq (ofL m.1) sk m.2 i
      rw [BQ] at PE
      clear hmk hkl
      by_cases e : m = (t, i)
      · have PE : ∀ w, _ := PE
        rw [e] at PE
        simp only [decide_true, BEq.rfl, Bool.and_self] at PE
        have MI : Hid ((t, i) ∈ l) := e ▸ ME.out
        have e2 : m.2 = i := by rw [e]
        rw [e2] at c1
        have e1 : m.1 = t := by rw [e]
        rw [e1] at c0
        clear BQ e e1 e2 TK ME
        generalize ofL t = sm at *
        go_wp2
        go_ret2
        exact ⟨_, by rw [decide_eq_true MI.out]; rfl, by unfold addP; rw [if_pos MI.out]; exact H.out.keep (U.out.alloc _) (fun _ _ _ h => h), fun k hk => Or.inl hk, U.out.alloc _⟩
      · have PE2 : ∀ w, (Op.equalIn 10000 104 (.agg #[.string (ofL m.1), .int .i64 m.2]) (.agg #[.string sk, .int .i64 i])).run Try.prog w = .ok false w := fun w => by
          rw [PE w]
          by_cases e1 : m.1 = t
          · have : m.2 ≠ i := fun e2 => e (Prod.ext e1 e2)
            rw [beq_eq_false_iff_ne.2 this, Bool.and_false]
          · rw [decide_eq_false e1, Bool.false_and]
        have NI2 : Hid ((t, i) ∉ l.take (k + 1)) := by
          show _ ∉ _
          rw [TK.out, List.mem_append, List.mem_singleton]
          exact fun h => h.elim NI.out (fun h => e h.symm)
        clear PE BQ e TK ME
        generalize ofL m.1 = sm at *
        go_wp2
        go_roundw
        case rel => exact ⟨k + 1, by omega, by simp, NI2, Lib.hid (U.out.alloc _)⟩
        case measure => simp [intOf]; omega
    · have q1 : ¬ (k : Int) < (nl : Int) := by omega
      have NM : Hid ((t, i) ∉ l) := by
        have := NI.out
        rw [List.take_of_length_le (by rw [← NL.out]; omega)] at this; exact this
      have u1 : Upd (fun _ => False) wr (wr.alloc (.cells #[] 104)) := (Upd.refl _ _).alloc _
      obtain ⟨v3, w3, hr1, P1, U1, N1⟩ := pairs_append (wr.alloc (.cells #[] 104)) wr.heap.size 64 _ _ [] l (pairs_none wr) (H.out.keep (U.out.trans u1 (fun _ _ h => h)) (fun _ _ _ h => h)) (by simp; rw [← NL.out]; omega) u1.size
      have u2 : Upd (fun _ => False) w3 (w3.alloc (.cells #[.string (ofL t), .int .i64 i] 104)) := (Upd.refl _ _).alloc _
      obtain ⟨v4, w4, hr2, P2, U2, N2⟩ := pairs_append (w3.alloc (.cells #[.string (ofL t), .int .i64 i] 104)) wr.heap.size 64 _ _ _ [(t, i)] (P1.keep u2 (fun _ _ h => h)) (pairs_lit w3 t i) (by simp; rw [← NL.out]; omega) (Nat.le_trans u1.size (Nat.le_trans U1.size u2.size))
      have UW : Hid (Upd (fun _ => False) w w4) := ((((U.out.trans u1 (fun _ _ h => h)).trans U1 (fun q hq e => by have := (own2_lt (pairs_none wr) e).2.1; omega)).trans u2 (fun _ _ h => h)).trans U2 (fun q hq e => by have := (own2_lt P1 e).2.1; omega))
      have OB : Hid (∀ k, v4.ownBlock = some k → w.heap.size ≤ k) := fun k hk => by have := (own2_lt P2 hk).2.1; omega
      have P2 : Hid (RowOf mkc 2 w4 v4 (addP l t i)) := by show RowOf _ _ _ _ _; unfold addP; rw [if_neg NM.out]; exact P2.row
      rw [← SK.out] at hr2
      clear U1 U2 N1 N2 u1 u2 P1
      go_wp2_with (first | (at_builtin; refine wpList_builtin rfl _ _ 64 rfl _ _ rfl rfl hr1 ?_) | (at_builtin; refine wpList_builtin rfl _ _ 64 rfl _ _ rfl rfl hr2 ?_))
      go_ret2
      exact ⟨_, by rw [decide_eq_false NM.out]; rfl, P2.out, fun k hk => Or.inr (OB.out k hk), UW.out⟩
/-- A pair more, at a row of the call's own. -/
theorem pairs_app (w : World) (base : Nat) (v : Value) (l : List MarkP) (t : Txt) (n : Int) (h : PairsAt w base v l) (hl : l.length ≤ 90000) (hb : base ≤ w.heap.size) :
    ∃ p c w', (Builtin.append_ #[64, 64] 64 #[v, .slice (some ⟨w.heap.size, 0, none⟩) 1 1]).run Try.prog (w.alloc (.cells #[.string (ofL t), .int .i64 n] 104)) = .ok (.slice p (l.length + 1) c) w' ∧ PairsAt w' base (.slice p (l.length + 1) c) (l ++ [(t, n)]) ∧ Upd (fun k => base ≤ k) w w' := by
  have u0 : Upd (fun _ => False) w (w.alloc (.cells #[.string (ofL t), .int .i64 n] 104)) := (Upd.refl _ _).alloc _
  obtain ⟨v', w', a, b, c, d⟩ := pairs_append _ base 64 v _ l [(t, n)] (h.keep u0 (fun _ _ h => h)) (pairs_lit w t n) (by simp; omega) (Nat.le_trans hb u0.size)
  obtain ⟨p, k, e, _⟩ := own_slice b
  rw [List.length_append] at e
  subst e
  exact ⟨p, k, w', a, b, (u0.weaken (F := fun k => base ≤ k) (fun _ _ h => h.elim)).trans c (fun k _ hk => (own2_lt h hk).2.1)⟩
def dropP (i : Int) (l : List MarkP) : List MarkP := l.filter fun m => decide (m.2 ≠ i)
def ofP (i : Int) (l : List MarkP) : List MarkP := l.filter fun m => decide (m.2 = i)
theorem dropP_len (i : Int) (l : List MarkP) : l.length = (dropP i l).length + (ofP i l).length := by
  induction l with
  | nil => rfl
  | cons m l ih =>
    unfold dropP ofP at *
    by_cases e : m.2 = i
    · rw [List.filter_cons_of_neg (by simp [e]), List.filter_cons_of_pos (by simp [e])]
      simp only [List.length_cons]; omega
    · rw [List.filter_cons_of_pos (by simp [e]), List.filter_cons_of_neg (by simp [e])]
      simp only [List.length_cons]; omega
set_option maxHeartbeats 4000000 in
set_option maxRecDepth 100000 in
theorem drop15_any (v : Value) (l : List MarkP) (i : Int) (w : World) (h : RowOf mkc 2 w v l) (hl : l.length ≤ 10000) :
    Calls Try.prog 34 #[v, .int .i64 i] w fun e w' => ∃ v', e = .returned (.tuple #[v', .int .i64 ((ofP i l).length : Int)]) ∧ PairsAt w' w.heap.size v' (dropP i l) ∧ Upd (fun _ => False) w w' := by
  obtain ⟨p, c, ev, hm⟩ := h.len
  subst ev
  have H := Lib.hid h
  obtain ⟨nl, hnl⟩ : ∃ nl, nl = l.length := ⟨_, rfl⟩
  rw [← hnl] at H hl hm ⊢
  have NL := Lib.hid hnl
  clear h hnl
  have MO := Lib.hid (pairs_none w)
  have UO : Hid (Upd (fun _ => False) w (w.alloc (.cells #[] 104))) := (Upd.refl _ _).alloc _
  go_enter Try.func34, Try.ntmps34
  go_wp2
  go_loopw [6, 12] (fun out xi wr => ∃ (k na c : Nat) (p : Option Addr) (acc : List MarkP), k ≤ nl ∧ na ≤ k ∧ out = .slice p na c ∧ xi = .int .i64 (k : Int) ∧ Hid (na = acc.length ∧ acc = dropP i (l.take k)) ∧ Hid (PairsAt wr w.heap.size out acc) ∧ Hid (Upd (fun _ => False) w wr)) (fun _ xi _ => nl - (intOf xi).toNat)
  case atStart => exact ⟨0, 0, 0, _, [], by omega, by omega, rfl, rfl, Lib.hid ⟨rfl, rfl⟩, MO, UO⟩
  case round =>
    clear MO UO
    obtain ⟨k, na, co, po, acc, hk, hna, rfl, rfl, NA, OW, U⟩ := hrel
    by_cases hlt : k < nl
    · have hwl := U.out.size
      have hkl : k < l.length := by rw [← NL.out]; exact hlt
      have q1 : (k : Int) < (nl : Int) := by omega
      obtain ⟨b, off, m, ep, hb, hmk, c0, c1⟩ := mark_rcells (NL.out ▸ H.out.keep U.out (fun _ _ _ h => h)) hkl
      subst ep
      have TK := Lib.hid (take_snocM hmk)
      clear hmk hkl
      obtain ⟨wA, hwA⟩ : ∃ wA, wA = wr.alloc (.cells #[.string (ofL m.1), .int .i64 m.2] 104) := ⟨_, rfl⟩
      have UA : Upd (fun _ => False) wr wA := by rw [hwA]; exact (Upd.refl _ _).alloc _
      have UWA := Lib.hid (U.out.trans UA (fun _ _ h => h))
      have hAs : wA.heap.size = wr.heap.size + 1 := by rw [hwA, World.size_alloc]
      have BXA : Blk wA wr.heap.size [.string (ofL m.1), .int .i64 m.2] 104 := by rw [hwA]; exact Blk.made wr [.string (ofL m.1), .int .i64 m.2] _
      by_cases e : m.2 = i
      · have q2 : (m.2 != i) = false := by rw [e]; simp
        have NA2 : Hid (na = acc.length ∧ acc = dropP i (l.take (k + 1))) := ⟨NA.out.1, by rw [TK.out, NA.out.2]; unfold dropP; rw [List.filter_append]; simp [e]⟩
        have OWA : Hid (PairsAt wA w.heap.size (.slice po na co) acc) := OW.out.keep UA (fun _ _ h => h)
        have q3 := BXA.cellAt (i := 1) (v := .int .i64 m.2) rfl
        clear e TK UA hAs NA BXA
        generalize ofL m.1 = sm at *
        generalize m.2 = n1 at *
        go_wp2
        go_roundw
        case rel => rw [← hwA]; exact ⟨k + 1, na, co, po, acc, by omega, by omega, rfl, by simp, NA2, OWA, UWA⟩
        case measure => simp [intOf]; omega
      · have q2 : (m.2 != i) = true := by rw [bne_iff_ne]; exact e
        have OWA := OW.out.keep UA (fun _ _ h => h)
        obtain ⟨p1, cc1, w1, hr1, I1, U1⟩ := pairs_app wA w.heap.size _ acc m.1 m.2 OWA (by rw [← NA.out.1]; omega) (by omega)
        have NA2 : Hid (na + 1 = (acc ++ [m]).length ∧ acc ++ [m] = dropP i (l.take (k + 1))) := ⟨by rw [List.length_append, ← NA.out.1]; rfl, by rw [TK.out, NA.out.2]; unfold dropP; rw [List.filter_append]; simp [e]⟩
        have UF : Hid (Upd (fun _ => False) w w1) := UWA.out.trans U1 (fun q hq e => by omega)
        have I1 : Hid (PairsAt w1 w.heap.size (.slice p1 (na + 1) cc1) (acc ++ [m])) := by rw [NA.out.1]; exact I1
        have q3 := BXA.cellAt (i := 0) (v := .string (ofL m.1)) rfl
        rw [← NA.out.1, hAs, hwA] at hr1
        clear e TK UA hAs NA BXA OWA UWA U1 q3
        generalize acc ++ [m] = acc2 at *
        generalize ofL m.1 = sm at *
        generalize m.2 = n1 at *
        go_wp2_with (at_builtin; refine wpList_builtin rfl _ _ 64 rfl _ _ rfl rfl hr1 ?_)
        go_roundw
        case rel => exact ⟨k + 1, na + 1, cc1, p1, acc2, by omega, by omega, rfl, by simp, NA2, I1, UF⟩
        case measure => simp [intOf]; omega
    · have q1 : ¬ (k : Int) < (nl : Int) := by omega
      have EA : Hid (acc = dropP i l ∧ (nl : Int) - (na : Int) = ((ofP i l).length : Int)) := by
        have e := NA.out.2
        rw [List.take_of_length_le (by rw [← NL.out]; omega)] at e
        refine ⟨e, ?_⟩
        have := dropP_len i l
        rw [← e, ← NA.out.1, ← NL.out] at this
        omega
      have OB : Hid (PairsAt wr w.heap.size (.slice po na co) (dropP i l)) := by rw [← EA.out.1]; exact OW
      go_wp2
      go_ret2
      exact ⟨_, by rw [EA.out.2]; rfl, OB.out, U.out⟩
set_option maxHeartbeats 8000000 in
set_option maxRecDepth 100000 in
theorem match15_any (v : Value) (l : List MarkP) (key : Txt) (w : World) (h : RowOf mkc 2 w v l) (hl : l.length ≤ 10000) :
    Calls Try.prog 37 #[v, .string (ofL key)] w fun e w' => ∃ v' r, e = .returned v' ∧ IntsAt w' w.heap.size v' r ∧ Rising r ∧ (∀ id, id ∈ r ↔ ∃ t, t <+: key ∧ (t, id) ∈ l) ∧ Upd (fun _ => False) w w' := by
  obtain ⟨p, c, ev, hm⟩ := h.len
  subst ev
  have H := Lib.hid h
  obtain ⟨nl, hnl⟩ : ∃ nl, nl = l.length := ⟨_, rfl⟩
  rw [← hnl] at H hl hm ⊢
  have NL := Lib.hid hnl
  clear h hnl
  obtain ⟨sk, hsk⟩ : ∃ sk, sk = ofL key := ⟨_, rfl⟩
  rw [← hsk]
  have SK := Lib.hid hsk
  have s1 := ofL_size key
  rw [← hsk] at s1
  clear hsk
  have MO := Lib.hid (ints_none w)
  have UO : Hid (Upd (fun _ => False) w (w.alloc (.cells #[] 3))) := (Upd.refl _ _).alloc _
  go_enter Try.func37, Try.ntmps37
  go_wp2
  go_loopw [5, 11] (fun out xi wr => ∃ (k : Nat) (acc : List Int) (vo : Value), k ≤ nl ∧ out = vo ∧ xi = .int .i64 (k : Int) ∧ Hid (acc.length ≤ k ∧ Rising acc ∧ ∀ id, id ∈ acc ↔ ∃ t, t <+: key ∧ (t, id) ∈ l.take k) ∧ Hid (IntsAt wr w.heap.size out acc) ∧ Hid (Upd (fun _ => False) w wr)) (fun _ xi _ => nl - (intOf xi).toNat)
  case atStart => exact ⟨0, [], _, by omega, rfl, rfl, Lib.hid ⟨by simp, List.Pairwise.nil, fun id => by simp⟩, MO, UO⟩
  case round =>
    clear MO UO
    obtain ⟨k, acc, vo, hk, hvo, rfl, AC, OW, U⟩ := hrel
    have hvo := hvo.symm
    subst hvo
    by_cases hlt : k < nl
    · have hwl := U.out.size
      have hkl : k < l.length := by rw [← NL.out]; exact hlt
      have q1 : (k : Int) < (nl : Int) := by omega
      obtain ⟨b, off, m, ep, hb, hmk, c0, c1⟩ := mark_rcells (NL.out ▸ H.out.keep U.out (fun _ _ _ h => h)) hkl
      subst ep
      have TK := Lib.hid (take_snocM hmk)
      clear hmk hkl
      obtain ⟨wA, hwA⟩ : ∃ wA, wA = wr.alloc (.cells #[.string (ofL m.1), .int .i64 m.2] 104) := ⟨_, rfl⟩
      have UA : Upd (fun _ => False) wr wA := by rw [hwA]; exact (Upd.refl _ _).alloc _
      have UWA := Lib.hid (U.out.trans UA (fun _ _ h => h))
      have hAs : wA.heap.size = wr.heap.size + 1 := by rw [hwA, World.size_alloc]
      have BXA : Blk wA wr.heap.size [.string (ofL m.1), .int .i64 m.2] 104 := by rw [hwA]; exact Blk.made wr [.string (ofL m.1), .int .i64 m.2] _
      have s2 := ofL_size m.1
      have c0' := BXA.cellAt (i := 0) (v := .string (ofL m.1)) rfl
      have c1' := BXA.cellAt (i := 1) (v := .int .i64 m.2) rfl
      have OWA : Hid (IntsAt wA w.heap.size vo acc) := own_keep OW.out UA (fun _ _ h => h)
      have WA : Hid (∀ v, Upd (fun _ => False) wA v → Calls Try.prog 59 #[vo, .int .i64 m.2] v fun e w' => ∃ v', e = .returned v' ∧ IntsAt w' v.heap.size v' (wth acc m.2) ∧ Upd (fun _ => False) v w') := fun v u =>
        with_any vo acc m.2 v (IntsAt.keep OWA.out u (fun _ _ h => h)).row AC.out.2.1 (by have := AC.out.1; omega)
      have HWA := Lib.hid hwA
      clear hwA BXA
      by_cases hle : m.1.length ≤ key.length
      · have q2 : (m.1.length : Int) ≤ (key.length : Int) := by omega
        have rt := run_take key (m.1.length : Int) (by omega) q2
        rw [Int.toNat_natCast, ← SK.out] at rt
        have BQ := beq_txt (key.take m.1.length) m.1
        have R : Hid (decide (key.take m.1.length = m.1) = decide (m.1 <+: key)) := decide_eq_decide.2 take_pre
        rw [R.out] at BQ
        by_cases e : m.1 <+: key
        · rw [decide_eq_true e] at BQ
          have AC2 : Hid ((wth acc m.2).length ≤ k + 1 ∧ Rising (wth acc m.2) ∧ ∀ id, id ∈ wth acc m.2 ↔ ∃ t, t <+: key ∧ (t, id) ∈ l.take (k + 1)) := ⟨Nat.le_trans (wth_len _ _) (by have := AC.out.1; omega), wth_rising AC.out.2.1 _, fun id => by
            rw [wth_mem, AC.out.2.2, TK.out]
            constructor
            · rintro (rfl | ⟨t, h1, h2⟩)
              · exact ⟨m.1, e, by simp⟩
              · exact ⟨t, h1, List.mem_append_left _ h2⟩
            · rintro ⟨t, h1, h2⟩
              rcases List.mem_append.1 h2 with g | g
              · exact Or.inr ⟨t, h1, g⟩
              · rw [List.mem_singleton] at g; exact Or.inl (by rw [← g])⟩
          generalize wth acc m.2 = acc2 at *
          generalize ofL (key.take m.1.length) = st at *
          generalize ofL m.1 = sm at *
          generalize m.1.length = lm at *
          generalize key.length = lk at *
          clear R e TK UA hAs
          go_wp2
          rw [← HWA.out]
          go_quiet (fail)
          go_wp2_with fail
          refine (WA.out _ ((Upd.refl _ _).drewN _)).mono ?_
          rintro e w9 ⟨v9, rfl, hv9, u9⟩
          have TY9 : Hid (IntsAt w9 w.heap.size v9 acc2) := own_base hv9 (by have := UWA.out.size; simpa using this)
          have V9 : Hid (Upd (fun _ => False) w w9) := (UWA.out.drewN _).trans u9 (fun _ _ h => h)
          clear hv9 u9 WA
          go_wp2
          go_roundw
          case rel => exact ⟨k + 1, acc2, _, by omega, rfl, by simp, AC2, TY9, V9⟩
          case measure => simp [intOf]; omega
        · rw [decide_eq_false e] at BQ
          have AC2 : Hid (acc.length ≤ k + 1 ∧ Rising acc ∧ ∀ id, id ∈ acc ↔ ∃ t, t <+: key ∧ (t, id) ∈ l.take (k + 1)) := ⟨by have := AC.out.1; omega, AC.out.2.1, fun id => by
            rw [AC.out.2.2, TK.out]
            constructor
            · rintro ⟨t, h1, h2⟩; exact ⟨t, h1, List.mem_append_left _ h2⟩
            · rintro ⟨t, h1, h2⟩
              rcases List.mem_append.1 h2 with g | g
              · exact ⟨t, h1, g⟩
              · rw [List.mem_singleton] at g; exact absurd (by rw [← g]; exact h1) e⟩
          generalize ofL (key.take m.1.length) = st at *
          generalize ofL m.1 = sm at *
          generalize m.1.length = lm at *
          generalize key.length = lk at *
          clear R e TK UA hAs WA
          go_wp2
          rw [← HWA.out]
          go_quiet (fail)
          go_wp2
          go_roundw
          case rel => exact ⟨k + 1, acc, _, by omega, rfl, by simp, AC2, Lib.hid (own_keep OWA.out ((Upd.refl _ _).drewN _) (fun _ _ h => h)), Lib.hid (UWA.out.drewN _)⟩
          case measure => simp [intOf]; omega
      · have q2 : ¬ (m.1.length : Int) ≤ (key.length : Int) := by omega
        have e : ¬ m.1 <+: key := fun h => hle h.length_le
        have AC2 : Hid (acc.length ≤ k + 1 ∧ Rising acc ∧ ∀ id, id ∈ acc ↔ ∃ t, t <+: key ∧ (t, id) ∈ l.take (k + 1)) := ⟨by have := AC.out.1; omega, AC.out.2.1, fun id => by
          rw [AC.out.2.2, TK.out]
          constructor
          · rintro ⟨t, h1, h2⟩; exact ⟨t, h1, List.mem_append_left _ h2⟩
          · rintro ⟨t, h1, h2⟩
            rcases List.mem_append.1 h2 with g | g
            · exact ⟨t, h1, g⟩
            · rw [List.mem_singleton] at g; exact absurd (by rw [← g]; exact h1) e⟩
        generalize ofL m.1 = sm at *
        generalize m.1.length = lm at *
        generalize key.length = lk at *
        clear e TK UA hAs WA
        go_wp2
        rw [← HWA.out]
        go_quiet (fail)
        go_wp2
        go_roundw
        case rel => exact ⟨k + 1, acc, _, by omega, rfl, by simp, AC2, Lib.hid (own_keep OWA.out ((Upd.refl _ _).drewN _) (fun _ _ h => h)), Lib.hid (UWA.out.drewN _)⟩
        case measure => simp [intOf]; omega
    · have q1 : ¬ (k : Int) < (nl : Int) := by omega
      have EA : Hid (Rising acc ∧ ∀ id, id ∈ acc ↔ ∃ t, t <+: key ∧ (t, id) ∈ l) := ⟨AC.out.2.1, fun id => by rw [AC.out.2.2, List.take_of_length_le (by rw [← NL.out]; omega)]⟩
      go_wp2
      go_ret
      first | exact ⟨_, acc, rfl, OW.out, EA.out.1, EA.out.2, U.out⟩ | exact ⟨_, rfl, acc, OW.out, EA.out.1, EA.out.2, U.out⟩
set_option maxHeartbeats 4000000 in
set_option maxRecDepth 100000 in
theorem of15_any (v : Value) (l : List MarkP) (i : Int) (w : World) (h : RowOf mkc 2 w v l) (hn : l.Nodup) (hl : l.length ≤ 10000) :
    Calls Try.prog 40 #[v, .int .i64 i] w fun e w' => ∃ v' r, e = .returned v' ∧ TxtsAt w' w.heap.size v' r ∧ Rising r ∧ (∀ t, t ∈ r ↔ (t, i) ∈ l) ∧ Upd (fun _ => False) w w' := by
  obtain ⟨p, c, ev, hm⟩ := h.len
  subst ev
  have H := Lib.hid h
  obtain ⟨nl, hnl⟩ : ∃ nl, nl = l.length := ⟨_, rfl⟩
  rw [← hnl] at H hl hm ⊢
  have NL := Lib.hid hnl
  clear h hnl
  have HN := Lib.hid hn
  have MO := Lib.hid (txts_none w)
  have UO : Hid (Upd (fun _ => False) w (w.alloc (.cells #[] 9))) := (Upd.refl _ _).alloc _
  clear hn
  go_enter Try.func40, Try.ntmps40
  go_wp2
  go_loopw [5, 11] (fun out xi wr => ∃ (k na c : Nat) (p : Option Addr) (acc : List Txt), k ≤ nl ∧ na ≤ k ∧ out = .slice p na c ∧ xi = .int .i64 (k : Int) ∧ Hid (na = acc.length ∧ acc = (ofP i (l.take k)).map (·.1)) ∧ Hid (TxtsAt wr w.heap.size out acc) ∧ Hid (Upd (fun _ => False) w wr)) (fun _ xi _ => nl - (intOf xi).toNat)
  case atStart => exact ⟨0, 0, 0, _, [], by omega, by omega, rfl, rfl, Lib.hid ⟨rfl, rfl⟩, MO, UO⟩
  case round =>
    clear MO UO
    obtain ⟨k, na, co, po, acc, hk, hna, rfl, rfl, NA, OW, U⟩ := hrel
    by_cases hlt : k < nl
    · have hwl := U.out.size
      have hkl : k < l.length := by rw [← NL.out]; exact hlt
      have q1 : (k : Int) < (nl : Int) := by omega
      obtain ⟨b, off, m, ep, hb, hmk, c0, c1⟩ := mark_rcells (NL.out ▸ H.out.keep U.out (fun _ _ _ h => h)) hkl
      subst ep
      have TK := Lib.hid (take_snocM hmk)
      clear hmk hkl
      obtain ⟨wA, hwA⟩ : ∃ wA, wA = wr.alloc (.cells #[.string (ofL m.1), .int .i64 m.2] 104) := ⟨_, rfl⟩
      have UA : Upd (fun _ => False) wr wA := by rw [hwA]; exact (Upd.refl _ _).alloc _
      have UWA := Lib.hid (U.out.trans UA (fun _ _ h => h))
      have hAs : wA.heap.size = wr.heap.size + 1 := by rw [hwA, World.size_alloc]
      have BXA : Blk wA wr.heap.size [.string (ofL m.1), .int .i64 m.2] 104 := by rw [hwA]; exact Blk.made wr [.string (ofL m.1), .int .i64 m.2] _
      have q4 := BXA.cellAt (i := 0) (v := .string (ofL m.1)) rfl
      have q3 := BXA.cellAt (i := 1) (v := .int .i64 m.2) rfl
      by_cases e : m.2 = i
      · have q2 : (m.2 == i) = true := by rw [e]; simp
        have OWA := own_keep OW.out UA (fun _ _ h => h)
        obtain ⟨p1, cc1, w1, hr1, I1, U1⟩ := txts_app wA w.heap.size _ acc m.1 OWA (by rw [← NA.out.1]; omega) (by omega)
        have NA2 : Hid (na + 1 = (acc ++ [m.1]).length ∧ acc ++ [m.1] = (ofP i (l.take (k + 1))).map (·.1)) := ⟨by rw [List.length_append, ← NA.out.1]; rfl, by rw [TK.out, NA.out.2]; unfold ofP; rw [List.filter_append]; simp [e]⟩
        have UF : Hid (Upd (fun _ => False) w w1) := UWA.out.trans U1 (fun q hq e => by omega)
        have I1 : Hid (TxtsAt w1 w.heap.size (.slice p1 (na + 1) cc1) (acc ++ [m.1])) := by rw [NA.out.1]; exact I1
        rw [← NA.out.1, hAs, hwA] at hr1
        clear e TK UA hAs NA BXA OWA UWA U1 q3 q4
        generalize acc ++ [m.1] = acc2 at *
        generalize ofL m.1 = sm at *
        generalize m.2 = n1 at *
        go_wp2_with (at_builtin; refine wpList_builtin rfl _ _ 22 rfl _ _ rfl rfl hr1 ?_)
        go_roundw
        case rel => exact ⟨k + 1, na + 1, cc1, p1, acc2, by omega, by omega, rfl, by simp, NA2, I1, UF⟩
        case measure => simp [intOf]; omega
      · have q2 : (m.2 == i) = false := beq_eq_false_iff_ne.2 e
        have NA2 : Hid (na = acc.length ∧ acc = (ofP i (l.take (k + 1))).map (·.1)) := ⟨NA.out.1, by rw [TK.out, NA.out.2]; unfold ofP; rw [List.filter_append]; simp [e]⟩
        have OWA : Hid (TxtsAt wA w.heap.size (.slice po na co) acc) := own_keep OW.out UA (fun _ _ h => h)
        clear e TK UA hAs NA BXA q3 q4
        generalize ofL m.1 = sm at *
        generalize m.2 = n1 at *
        go_wp2
        go_roundw
        case rel => rw [← hwA]; exact ⟨k + 1, na, co, po, acc, by omega, by omega, rfl, by simp, NA2, OWA, UWA⟩
        case measure => simp [intOf]; omega
    · have q1 : ¬ (k : Int) < (nl : Int) := by omega
      have EA : acc = (ofP i l).map (·.1) := by
        have e := NA.out.2
        rw [List.take_of_length_le (by rw [← NL.out]; omega)] at e; exact e
      have ND : acc.Nodup := by
        rw [EA]
        have := HN.out.filter (fun m => decide (m.2 = i))
        unfold ofP
        rw [List.nodup_iff_pairwise_ne, List.pairwise_map]
        refine (List.nodup_iff_pairwise_ne.1 this).imp_of_mem (fun {a b} ha hb hne he => hne (Prod.ext he ?_))
        have h1 := (List.mem_filter.1 ha).2
        have h2 := (List.mem_filter.1 hb).2
        simp at h1 h2; rw [h1, h2]
      have SO := Lib.hid (sorted13_any (.slice po na co) acc wr (TxtsAt.trow OW.out) ND (by rw [← NA.out.1]; omega))
      have EM : Hid (∀ t, t ∈ acc ↔ (t, i) ∈ l) := fun t => by
        rw [EA]
        unfold ofP
        simp only [List.mem_map, List.mem_filter, decide_eq_true_eq]
        constructor
        · rintro ⟨m, ⟨h1, h2⟩, rfl⟩; rw [← h2]; exact h1
        · intro h; exact ⟨(t, i), ⟨h, rfl⟩, rfl⟩
      clear EA ND
      go_wp2_with fail
      refine (SO.out).mono ?_
      rintro e w9 ⟨v9, r, rfl, hv9, hr9, hm9, u9⟩
      have TY9 : Hid (TxtsAt w9 w.heap.size v9 r) := own_base hv9 U.out.size
      have V9 : Hid (Upd (fun _ => False) w w9) := U.out.trans u9 (fun _ _ h => h)
      have R9 : Hid (Rising r ∧ ∀ t, t ∈ r ↔ (t, i) ∈ l) := ⟨hr9, fun t => by rw [hm9, EM.out]⟩
      clear hv9 u9 hr9 hm9 SO
      go_wp2
      go_ret
      exact ⟨_, r, rfl, TY9.out, R9.out.1, R9.out.2, V9.out⟩
set_option maxHeartbeats 4000000 in
set_option maxRecDepth 100000 in
theorem tree15_any (v : Value) (l : List MarkP) (w : World) (h : RowOf mkc 2 w v l) (hl : l.length ≤ 10000) :
    Calls Try.prog 36 #[v] w fun e w' => ∃ v' M, e = .returned v' ∧ MarksAt w' w.heap.size v' M ∧ M.length ≤ l.length ∧ KeysOf (fun t i => (t, i) ∈ l) M ∧ Upd (fun _ => False) w w' := by
  obtain ⟨p, c, ev, hm⟩ := h.len
  subst ev
  have H := Lib.hid h
  obtain ⟨nl, hnl⟩ : ∃ nl, nl = l.length := ⟨_, rfl⟩
  rw [← hnl] at H hl hm ⊢
  have NL := Lib.hid hnl
  clear h hnl
  have MO : Hid (MarksAt (w.alloc (.cells #[] 30)) w.heap.size (.slice (some ⟨w.heap.size, 0, none⟩) 0 0) []) := World.ownsRow_made (e := 30) (size := 2) w #[] 0 (Nat.le_refl _) (by unfold maxLen; omega) rfl
  have UO : Hid (Upd (fun _ => False) w (w.alloc (.cells #[] 30))) := (Upd.refl _ _).alloc _
  go_enter Try.func36, Try.ntmps36
  go_wp2
  go_loopw [3, 9] (fun out xi wr => ∃ (k : Nat) (acc : List MarkP) (vo : Value), k ≤ nl ∧ out = vo ∧ xi = .int .i64 (k : Int) ∧ Hid (acc.length ≤ k ∧ KeysOf (fun t i => (t, i) ∈ l.take k) acc) ∧ Hid (MarksAt wr w.heap.size out acc) ∧ Hid (Upd (fun _ => False) w wr)) (fun _ xi _ => nl - (intOf xi).toNat)
  case atStart => exact ⟨0, [], _, by omega, rfl, rfl, Lib.hid ⟨by simp, List.Pairwise.nil, fun t => by simp⟩, MO, UO⟩
  case round =>
    clear MO UO
    obtain ⟨k, acc, vo, hk, hvo, rfl, AC, OW, U⟩ := hrel
    have hvo := hvo.symm
    subst hvo
    by_cases hlt : k < nl
    · have hwl := U.out.size
      have hkl : k < l.length := by rw [← NL.out]; exact hlt
      have q1 : (k : Int) < (nl : Int) := by omega
      obtain ⟨b, off, m, ep, hb, hmk, c0, c1⟩ := mark_rcells (NL.out ▸ H.out.keep U.out (fun _ _ _ h => h)) hkl
      subst ep
      have TK := Lib.hid (take_snocM hmk)
      clear hmk hkl
      obtain ⟨wA, hwA⟩ : ∃ wA, wA = wr.alloc (.cells #[.string (ofL m.1), .int .i64 m.2] 104) := ⟨_, rfl⟩
      have UA : Upd (fun _ => False) wr wA := by rw [hwA]; exact (Upd.refl _ _).alloc _
      have UWA := Lib.hid (U.out.trans UA (fun _ _ h => h))
      have hAs : wA.heap.size = wr.heap.size + 1 := by rw [hwA, World.size_alloc]
      have BXA : Blk wA wr.heap.size [.string (ofL m.1), .int .i64 m.2] 104 := by rw [hwA]; exact Blk.made wr [.string (ofL m.1), .int .i64 m.2] _
      have c0' := BXA.cellAt (i := 0) (v := .string (ofL m.1)) rfl
      have PU := Lib.hid (rput_any vo acc m.1 0 wA (MarksAt.keep OW.out UA (fun _ _ h => h)).row AC.out.2.1 (by have := AC.out.1; omega))
      have AC2 : Hid ((putM m.1 0 acc).length ≤ k + 1 ∧ KeysOf (fun t i => (t, i) ∈ l.take (k + 1)) (putM m.1 0 acc)) := by
        refine ⟨?_, putM_rise AC.out.2.1, fun t => ?_⟩
        · have h1 := putM_len AC.out.2.1 m.1 0
          have h2 := AC.out.1
          split at h1 <;> omega
        · have h1 := AC.out.2.2 t
          rw [TK.out]
          constructor
          · rintro ⟨n, hn⟩
            rcases putM_mem.1 hn with g | ⟨g, _⟩
            · cases g; exact ⟨m.2, by simp⟩
            · obtain ⟨id, hid⟩ := h1.1 ⟨n, g⟩; exact ⟨id, List.mem_append_left _ hid⟩
          · rintro ⟨id, hid⟩
            by_cases e : t = m.1
            · exact ⟨0, putM_mem.2 (Or.inl (by rw [e]))⟩
            · rcases List.mem_append.1 hid with g | g
              · obtain ⟨n, hn⟩ := h1.2 ⟨id, g⟩; exact ⟨n, putM_mem.2 (Or.inr ⟨hn, e⟩)⟩
              · rw [List.mem_singleton] at g; exact absurd (by rw [← g]) e
      generalize putM m.1 0 acc = acc2 at *
      generalize ofL m.1 = sm at *
      have HWA := Lib.hid hwA
      clear TK UA hAs hwA BXA
      go_wp2_with fail
      rw [← HWA.out]
      refine (PU.out).mono ?_
      rintro e w9 ⟨v9, rfl, hv9, u9⟩
      have TY9 : Hid (MarksAt w9 w.heap.size v9 acc2) := own2_base hv9 UWA.out.size
      have V9 : Hid (Upd (fun _ => False) w w9) := UWA.out.trans u9 (fun _ _ h => h)
      clear hv9 u9 PU
      go_wp2
      go_roundw
      case rel => exact ⟨k + 1, acc2, _, by omega, rfl, by simp, AC2, TY9, V9⟩
      case measure => simp [intOf]; omega
    · have q1 : ¬ (k : Int) < (nl : Int) := by omega
      have EA : Hid (acc.length ≤ nl ∧ KeysOf (fun t i => (t, i) ∈ l) acc) := by
        have h := AC.out
        rw [List.take_of_length_le (by rw [← NL.out]; omega)] at h
        exact ⟨by have := h.1; omega, h.2⟩
      go_wp2
      go_ret
      first | exact ⟨_, acc, rfl, OW.out, EA.out.1, EA.out.2, U.out⟩ | exact ⟨_, rfl, acc, OW.out, EA.out.1, EA.out.2, U.out⟩
end Go.Proofs.Ytnlbmplbaalgmaa
