/- Rows of texts one behind another. -/
import Derived.Test.YtcpfkkbegnhofaaDoorK05
import Derived.Lib.OwnBridge
set_option linter.unusedVariables false
set_option linter.unusedSimpArgs false
namespace Go.Proofs.YtcpfkkbegnhofaaDoor
open Go.RowKit

def sumR (R : List (Value × List Txt)) (k : Nat) : Nat := ((R.take k).map fun r => r.2.length).sum
theorem sumR_succ {R : List (Value × List Txt)} {k : Nat} {r : Value × List Txt} (h : R[k]? = some r) : sumR R (k + 1) = sumR R k + r.2.length := by
  obtain ⟨h1, e⟩ := List.getElem?_eq_some_iff.1 h
  unfold sumR; rw [List.take_succ_eq_append_getElem h1, e]; simp
theorem sumR_le (R : List (Value × List Txt)) (k : Nat) : sumR R k ≤ sumR R R.length := by
  unfold sumR
  rw [List.take_length]
  have := List.take_append_drop k R
  conv => rhs; rw [← this]
  rw [List.map_append, List.sum_append]; omega
theorem flat_len (R : List (Value × List Txt)) (k : Nat) : ((R.take k).flatMap (·.2)).length = sumR R k := by
  unfold sumR; rw [List.length_flatMap]
theorem TxtsAt.ownN {w : World} {base : Nat} {v : Value} {l : List Txt} : TxtsAt w base v l ↔ OwnN txtc 1 9 w base v l := by
  unfold TxtsAt OwnN txtc
  have : ∀ l : List Txt, flat (fun t => [Value.string (ofL t)]) l = l.map fun t => Value.string (ofL t) := fun l => by
    induction l with
    | nil => rfl
    | cons a l ih => show [_] ++ flat _ l = _; rw [ih]; rfl
  rw [this]
theorem txts_appR (w : World) (base : Nat) (v v2 : Value) (l l2 : List Txt) (h : TxtsAt w base v l) (h2 : RowOf txtc 1 w v2 l2) (hl : l.length + l2.length ≤ 10000000) (hb : base ≤ w.heap.size) :
    ∃ p c w', (Builtin.append_ #[22, 22] 22 #[v, v2]).run Tryd.prog w = .ok (.slice p (l ++ l2).length c) w' ∧ TxtsAt w' base (.slice p (l ++ l2).length c) (l ++ l2) ∧ Upd (fun b => v.ownBlock = some b) w w' := by
  obtain ⟨i0, hi0, hz0, hz1, hz2⟩ := info_parts string_info
  obtain ⟨v', w', a, b, c, _⟩ := OwnN.append (P := Tryd.prog) 22 22 i0 (.string ByteArray.empty) 16 Tryd.underlying22 hi0 hz0 hz1 hz2 rfl (by decide) (fun _ => rfl) (fun a _ => fun u hu => by simp [txtc] at hu; subst hu; rfl) (TxtsAt.ownN.1 h) h2 (by unfold maxLen; omega) (by omega) hb
  obtain ⟨p, k, e, _⟩ := b.slice
  subst e
  exact ⟨p, k, w', a, TxtsAt.ownN.2 b, c⟩
set_option maxHeartbeats 4000000 in
set_option maxRecDepth 100000 in
theorem concatT_any (b cap : Nat) (R : List (Value × List Txt)) (w : World) (hb : b < w.heap.size) (hc : ∀ j r, R[j]? = some r → w.cell? ⟨b, j, none⟩ = some r.1) (hr : ∀ r ∈ R, RowOf txtc 1 w r.1 r.2) (hn : R.length ≤ 1000) (ht : sumR R R.length ≤ 1000000) :
    Calls Tryd.prog 37 #[.slice (some ⟨b, 0, none⟩) R.length cap] w fun e w' => ∃ v', e = .returned v' ∧ TxtsAt w' w.heap.size v' (R.flatMap (·.2)) ∧ Upd (fun _ => False) w w' := by
  obtain ⟨nr, hnr⟩ : ∃ nr, nr = R.length := ⟨_, rfl⟩
  rw [← hnr] at hn ht ⊢
  have NR := Lib.hid hnr
  have HC := Lib.hid hc
  have HR := Lib.hid hr
  have SL := Lib.hid (sumR_le R)
  have GR := Lib.hid (growT_any (sumR R nr) w ht)
  have HT := Lib.hid ht
  clear hc hr hnr ht
  go_enter Tryd.func37, Tryd.ntmps37
  go_wp2
  go_loop [3, 11] (fun x3 x11 => ∃ (k s : Nat), k ≤ nr ∧ x3 = .int .i64 (s : Int) ∧ x11 = .int .i64 (k : Int) ∧ Hid (s = sumR R k)) (fun _ x11 => nr - (intOf x11).toNat)
  case atStart => exact ⟨0, 0, by omega, rfl, rfl, Lib.hid rfl⟩
  case round =>
    obtain ⟨k, s, hk, rfl, rfl, SK⟩ := hrel
    by_cases hlt : k < nr
    · have q1 : (k : Int) < (nr : Int) := by omega
      have hkl : k < R.length := by rw [← NR.out]; exact hlt
      have gk : R[k]? = some R[k] := List.getElem?_eq_getElem hkl
      have c0 := HC.out k _ gk
      obtain ⟨p, c, ev, hm⟩ := (HR.out _ (List.mem_of_getElem? gk)).len
      rw [ev] at c0
      have S2 := sumR_succ gk
      have S3 : sumR R (k + 1) ≤ 1000000 := Nat.le_trans (SL.out (k + 1)) (by rw [← NR.out]; exact HT.out)
      have SK2 : Hid (s + (R[k]).2.length = sumR R (k + 1)) := by show _ = _; rw [S2, SK.out]
      generalize (R[k]).2.length = nk at *
      have hs : s + nk ≤ 1000000 := by rw [SK2.out]; exact S3
      clear gk ev S2 S3 hkl SK
      go_wp2
      go_round
      case rel => exact ⟨k + 1, s + nk, by omega, by simp, by simp, SK2⟩
      case measure => simp [intOf]; omega
    · have q1 : ¬ (k : Int) < (nr : Int) := by omega
      have ek : k = nr := by omega
      have SN : Hid (s = sumR R nr) := by rw [← ek]; exact SK
      have GR2 := GR.out
      rw [← SN.out] at GR2
      have GR2 := Lib.hid GR2
      clear SK ek GR SN
      go_wp2_with fail
      refine (GR2.out).mono ?_
      rintro e w1 ⟨v1, rfl, t1, u1⟩
      have T1 := Lib.hid t1
      have U1 := Lib.hid u1
      have HC1 : Hid (∀ W, Upd (fun _ => False) w W → ∀ j r, R[j]? = some r → W.cell? ⟨b, j, none⟩ = some r.1) := fun W u j r h => (u.cell (p := ⟨b, j, none⟩) hb (fun h => h)).trans (HC.out j r h)
      clear t1 u1 GR2
      go_wp2
      go_loopw [6, 27] (fun x6 x27 wr => ∃ (k : Nat) (acc : List Txt) (p : Option Addr) (n c : Nat), k ≤ nr ∧ x6 = .slice p n c ∧ x27 = .int .i64 (k : Int) ∧ Hid (acc = (R.take k).flatMap (·.2)) ∧ Hid (TxtsAt wr w.heap.size (.slice p n c) acc) ∧ Hid (Upd (fun _ => False) w wr)) (fun _ x27 _ => nr - (intOf x27).toNat)
      case atStart =>
        obtain ⟨p, c, e1, _⟩ := own_slice T1.out
        subst e1
        exact ⟨0, [], _, _, _, by omega, rfl, rfl, Lib.hid (by simp), T1, U1⟩
      case round =>
        obtain ⟨k, acc, pa, na, ca, hk, rfl, rfl, AC, OW, U⟩ := hrel
        by_cases hlt : k < nr
        · have q2 : (k : Int) < (nr : Int) := by omega
          have hkl : k < R.length := by rw [← NR.out]; exact hlt
          have gk0 : R[k]? = some R[k] := List.getElem?_eq_getElem hkl
          obtain ⟨r, hrk⟩ : ∃ r, r = R[k] := ⟨_, rfl⟩
          have gk : R[k]? = some r := by rw [hrk]; exact gk0
          have TK : R.take (k + 1) = R.take k ++ [r] := by rw [hrk, List.take_succ_eq_append_getElem hkl]
          clear gk0 hrk
          have c0 := HC1.out _ U.out k _ gk
          have hrow := (HR.out _ (List.mem_of_getElem? gk)).keep U.out (fun _ _ _ h => h)
          have hal : acc.length = sumR R k := by rw [AC.out, flat_len]
          have S2 := sumR_succ gk
          have S3 : sumR R (k + 1) ≤ 1000000 := Nat.le_trans (SL.out (k + 1)) (by rw [← NR.out]; exact HT.out)
          obtain ⟨p1, c1, w9, hr1, I1, V1⟩ := txts_appR wr w.heap.size _ _ acc r.2 OW.out hrow (by omega) U.out.size
          obtain ⟨p, c, ev, hm⟩ := hrow.len
          rw [ev] at c0 hr1
          have AC2 : Hid (acc ++ r.2 = (R.take (k + 1)).flatMap (·.2)) := by
            show _ = _; rw [TK, List.flatMap_append, ← AC.out]; simp
          have UF : Hid (Upd (fun _ => False) w w9) := U.out.trans V1 (fun q hq e => by
            have := (own_lt OW.out e).2.1; omega)
          have I1 := Lib.hid I1
          clear gk ev S2 S3 hkl hal hrow V1 AC OW TK
          generalize acc ++ r.2 = acc2 at *
          generalize r.2.length = nk at *
          go_wp2_with (at_builtin; refine wpList_builtinN rfl _ _ 22 rfl _ _ rfl rfl hr1 ?_)
          go_roundw
          case rel => exact ⟨k + 1, acc2, _, _, _, by omega, rfl, by simp, AC2, I1, UF⟩
          case measure => simp [intOf]; omega
        · have q2 : ¬ (k : Int) < (nr : Int) := by omega
          have EA : Hid (acc = R.flatMap (·.2)) := by
            have := AC.out
            rw [List.take_of_length_le (by rw [← NR.out]; omega)] at this; exact this
          go_wp2
          go_ret
          exact ⟨_, rfl, by rw [← EA.out]; exact OW.out, U.out⟩
end Go.Proofs.YtcpfkkbegnhofaaDoor
/- Rows of texts in order, each once. -/
set_option linter.unusedVariables false
set_option linter.unusedSimpArgs false
namespace Go.Proofs.YtcpfkkbegnhofaaDoor
open Go.RowKit Go.Sort

theorem le_txt {a b : Txt} : a ≤ b ↔ ¬ b < a := Iff.rfl
theorem le_of_lt_or_eq {a b : Txt} (h : a < b ∨ a = b) : a ≤ b := le_txt.2 (fun g => by
  rcases h with h | rfl
  · exact lin_asymm h g
  · exact LinO.irr _ g)
theorem lt_or_eq {a b : Txt} (h : a ≤ b) : a < b ∨ a = b := by
  rcases LinO.tri a b with g | g | g
  · exact Or.inl g
  · exact Or.inr g
  · exact absurd g (le_txt.1 h)
theorem le_trT {a b c : Txt} (h : a ≤ b) (k : b ≤ c) : a ≤ c := by
  rcases lt_or_eq h with h | rfl
  · rcases lt_or_eq k with k | rfl
    · exact le_of_lt_or_eq (Or.inl (LinO.tr h k))
    · exact le_of_lt_or_eq (Or.inl h)
  · exact k
theorem compactT_upTo {zs : List Txt} (hs : zs.Pairwise (· ≤ ·)) : ∀ m, m ≤ zs.length → Rising (Lib.compactUpTo zs.toArray m) ∧ ∀ x, x ∈ Lib.compactUpTo zs.toArray m ↔ x ∈ zs.take m
  | 0, _ => ⟨List.Pairwise.nil, fun x => by simp [Lib.compactUpTo]⟩
  | m + 1, hm => by
    obtain ⟨h1, h2⟩ := compactT_upTo hs m (by omega)
    have hml : m < zs.length := by omega
    have e0 : zs.toArray[m]! = zs[m] := by simp [hml]
    rw [Lib.compactUpTo_succ, List.take_succ_eq_append_getElem hml]
    have hle : ∀ j, (hj : j < m) → zs[j] ≤ zs[m] := fun j hj => List.pairwise_iff_getElem.1 hs j m (by omega) hml hj
    by_cases hk : Lib.keeps zs.toArray m = true
    · rw [if_pos hk, e0]
      refine ⟨List.pairwise_append.2 ⟨h1, List.pairwise_singleton _ _, fun a ha b hb => ?_⟩, fun x => by rw [List.mem_append, List.mem_append, h2]⟩
      rw [List.mem_singleton] at hb
      subst hb
      obtain ⟨j, hj, rfl⟩ := List.mem_iff_getElem.1 ((h2 a).1 ha)
      rw [List.length_take] at hj
      rw [List.getElem_take]
      simp only [Lib.keeps, decide_eq_true_eq] at hk
      rcases hk with hk | hk
      · omega
      · have e1 : zs.toArray[m - 1]! = zs[m - 1] := by simp [show m - 1 < zs.length by omega]
        rw [e0, e1] at hk
        have g1 := hle (m - 1) (by omega)
        have g3 : zs[m - 1] < zs[m] := (lt_or_eq g1).elim id (fun e => absurd e.symm hk)
        have g2 : zs[j] ≤ zs[m - 1] := by
          rcases Nat.lt_or_ge j (m - 1) with g | g
          · exact List.pairwise_iff_getElem.1 hs j (m - 1) (by omega) (by omega) g
          · have : j = m - 1 := by omega
            subst this; exact le_of_lt_or_eq (Or.inr rfl)
        rcases lt_or_eq g2 with g2 | g2
        · exact LinO.tr g2 g3
        · rw [g2]; exact g3
    · rw [if_neg hk, List.append_nil]
      refine ⟨h1, fun x => ?_⟩
      rw [h2, List.mem_append, List.mem_singleton]
      refine ⟨Or.inl, fun g => g.elim (fun g => g) (fun g => ?_)⟩
      simp only [Lib.keeps, decide_eq_true_eq, not_or, Decidable.not_not] at hk
      have e1 : zs.toArray[m - 1]! = zs[m - 1] := by simp [show m - 1 < zs.length by omega]
      rw [e0, e1] at hk
      rw [g, hk.2]
      exact List.mem_iff_getElem.2 ⟨m - 1, by rw [List.length_take]; omega, by rw [List.getElem_take]⟩
theorem sortT_uni (xs : List Txt) : Lib.compact (xs.mergeSort fun x y => decide (x ≤ y)) = uniT xs := by
  have hs : (xs.mergeSort fun x y => decide (x ≤ y)).Pairwise (· ≤ ·) := by
    have := List.pairwise_mergeSort (le := fun x y : Txt => decide (x ≤ y)) (fun a b c h1 h2 => by simp only [decide_eq_true_eq] at *; exact le_trT h1 h2) (fun a b => by
      simp only [Bool.or_eq_true, decide_eq_true_eq]
      rcases LinO.tri a b with g | g | g
      · exact Or.inl (le_of_lt_or_eq (Or.inl g))
      · exact Or.inl (le_of_lt_or_eq (Or.inr g))
      · exact Or.inr (le_of_lt_or_eq (Or.inl g))) xs
    exact this.imp (fun h => by simpa using h)
  have := compactT_upTo hs _ (Nat.le_refl _)
  rw [List.take_length] at this
  exact uniT_eq this.1 (fun t => by rw [show Lib.compact _ = Lib.compactUpTo _ _ from rfl, this.2]; exact (List.mergeSort_perm xs _).mem_iff)
theorem Upd.growT {F : Nat → Prop} {a w : World} (h : Upd F a w) (os : Array Obj) : Upd F a (Sort.grow w os) :=
  ⟨h.os, h.tape, h.output, by have := h.size; simp [Sort.grow]; omega, fun k hk hF => by
    have := h.size
    simp only [Sort.grow]
    rw [Array.getElem?_append_left (by omega)]; exact h.block k hk hF⟩
theorem sortT_any (base : Nat) (v : Value) (xs : List Txt) (w : World) (h : TxtsAt w base v xs) (hl : xs.length ≤ 10000000) :
    Calls Tryd.prog 30 #[v] w fun e w' => e = .returned (.tuple #[]) ∧ TxtsAt w' base v (xs.mergeSort fun x y => decide (x ≤ y)) ∧ Upd (fun k => v.ownBlock = some k) w w' := by
  by_cases hv : v = .slice none 0 0
  · subst hv
    have : xs = [] := by
      rcases own_blk h with ⟨_, ⟨_, e⟩ | ⟨b, cap, cs, e, _⟩⟩
      · exact List.length_eq_zero_iff.1 e
      · cases e
    subst this
    refine (Tryd.slices_Sort_string_none none 0 w).mono ?_
    rintro e w' ⟨rfl, rfl⟩
    exact ⟨rfl, by simpa using h, Upd.refl _ _⟩
  · have h' : w.ownsRow base 9 1 v xs.length (xs.map encStr) := h
    obtain ⟨g, cap, rfl, hbg, hg, hnc, hcm, _, hH⟩ := Lib.holds_of_ownsRow h' hv
    refine (Tryd.slices_Sort_string g 0 cap xs w hH hg (by omega)).mono ?_
    rintro e w' ⟨rfl, q, os, rfl⟩
    have hys : (xs.mergeSort fun x y => decide (x ≤ y)).length = xs.length := List.length_mergeSort _
    have := Lib.ownsRow_putRow (q := q) (k := xs.length) (ys := xs.mergeSort fun x y => decide (x ≤ y)) h' hys (Nat.le_refl _)
    rw [List.take_of_length_le (by omega)] at this
    have uP : Upd (fun k => (Value.slice (some ⟨g, 0, none⟩) xs.length cap).ownBlock = some k) w (putRow encStr (Sort.ahead w q) g 0 (xs.mergeSort fun x y => decide (x ≤ y)).toArray) :=
      ⟨rfl, rfl, rfl, by simp [putRow, mapBlock, Sort.ahead], fun k _ hF => by
        have hk : g ≠ k := fun e => hF (by rw [← e]; rfl)
        simp [putRow, mapBlock, Sort.ahead, Array.getElem?_modify, hk]⟩
    refine ⟨rfl, ?_, uP.growT os⟩
    refine own_keep (F := fun _ => False) ?_ ((Upd.refl _ _).growT os) (fun _ _ h => h)
    show World.ownsRow _ _ _ _ _ _ _
    rw [hys]; exact this
theorem compactT_any (base : Nat) (v : Value) (xs : List Txt) (w : World) (h : TxtsAt w base v xs) (hl : xs.length ≤ 10000000) :
    Calls Tryd.prog 38 #[v] w fun e w' => ∃ v', e = .returned v' ∧ TxtsAt w' base v' (Lib.compact xs) ∧ Upd (fun k => v.ownBlock = some k) w w' := by
  by_cases hv : v = .slice none 0 0
  · subst hv
    have : xs = [] := by
      rcases own_blk h with ⟨_, ⟨_, e⟩ | ⟨b, cap, cs, e, _⟩⟩
      · exact List.length_eq_zero_iff.1 e
      · cases e
    subst this
    exact (Tryd.slices_Compact_string_empty none 0 w).mono fun e w' ⟨h1, h2⟩ => ⟨_, h1, by rw [h2]; exact h, by rw [h2]; exact Upd.refl _ _⟩
  · have h' : w.ownsRow base 9 1 v xs.length (xs.map encStr) := h
    obtain ⟨g, cap, rfl, hbg, hg, hnc, hcm, _, hH⟩ := Lib.holds_of_ownsRow h' hv
    have hcl : (Lib.compact xs).length ≤ xs.length := Lib.compact_length_le xs
    refine (Tryd.slices_Compact_string g 0 cap xs w hH (by omega) hnc).mono ?_
    rintro e w' ⟨rfl, q, rfl⟩
    have hys : (Lib.compact xs ++ List.replicate (xs.length - (Lib.compact xs).length) ([] : Txt)).length = xs.length := by simp; omega
    have := Lib.ownsRow_putRow (q := q) (k := (Lib.compact xs).length) (ys := Lib.compact xs ++ List.replicate (xs.length - (Lib.compact xs).length) ([] : Txt)) h' hys hcl
    rw [List.take_left] at this
    refine ⟨_, rfl, this, ⟨rfl, rfl, rfl, by simp [putRow, mapBlock, Sort.ahead], fun k _ hF => ?_⟩⟩
    have hk : g ≠ k := fun e => hF (by rw [← e]; rfl)
    simp [putRow, mapBlock, Sort.ahead, Array.getElem?_modify, hk]
end Go.Proofs.YtcpfkkbegnhofaaDoor
