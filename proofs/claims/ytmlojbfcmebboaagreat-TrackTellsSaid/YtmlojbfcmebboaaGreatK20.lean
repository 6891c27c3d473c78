/- Modes: a copy; rows of texts one behind another, in order, each once; from one mode to another. -/
import Derived.Test.YtmlojbfcmebboaaGreatK19
import Derived.Test.YtmlojbfcmebboaaGreatLayGrow
import Derived.Shelf.Spec.SlicesGrow
import Derived.Lib.OwnBridge
set_option linter.unusedVariables false
set_option linter.unusedSimpArgs false
namespace Go.Proofs.YtmlojbfcmebboaaGreat
open Go.RowKit

theorem txts_strsC {w : World} {base : Nat} {v : Value} {l : List Txt} : TxtsAt w base v l ↔ StrsAt w base v (l.map ofL) := by
  unfold TxtsAt StrsAt; rw [List.length_map, List.map_map]; exact Iff.rfl
theorem cloneR_any (v : Value) (xs : List Txt) (w : World) (h : RowOf txtc 1 w v xs) (hl : xs.length ≤ 1000000) :
    Calls Tryz.prog 111 #[v] w fun e w' => ∃ v', e = .returned v' ∧ TxtsAt w' w.heap.size v' xs ∧ Upd (fun _ => False) w w' := by
  obtain ⟨p, c, rfl, hm⟩ := h.len
  unfold maxLen at hm
  by_cases e : xs = []
  · subst e
    cases p with
    | none => exact (Tryz.slices_Clone_string_nil 0 c w).mono fun e w' ⟨h1, h2⟩ => ⟨_, h1, World.ownsRow_nil _ _ _ _, by rw [h2]; exact Upd.refl _ _⟩
    | some a =>
      refine (Tryz.slices_Clone_string_zero a c w).mono ?_
      rintro e w' ⟨v', rfl, h2, _, hb⟩
      exact ⟨v', rfl, h2, (Upd.of_below hb).weaken fun i hi h2 => by omega⟩
  · obtain ⟨_, b, off, rfl, hb, hc⟩ := txt_at h e
    have hll : (xs.map ofL).length = xs.length := List.length_map ..
    refine (Tryz.slices_Clone_string b off xs.length c (xs.map ofL) w (by omega) (by omega) (fun j hj => ?_)).mono ?_
    · exact hc j (by omega)
    · rintro e w' ⟨v', rfl, h2, _, hb⟩
      rw [List.take_of_length_le (by omega)] at h2
      exact ⟨v', rfl, txts_strsC.2 (by rw [← hll] at h2; exact h2), (Upd.of_below hb).weaken fun i hi h2 => by omega⟩
theorem zeroS (k : Nat) : Builtin.zeroCells (Value.string ByteArray.empty).cells k = (List.replicate k (Value.string ByteArray.empty)).toArray := by
  apply Array.ext'
  simp [Builtin.zeroCells, Value.cells, Nat.mod_one, List.map_const']
theorem growT_any (n : Nat) (w : World) (hn : n ≤ 1000000) :
    Calls Tryz.prog 118 #[.slice none 0 0, .int .i64 (n : Int)] w fun e w' => ∃ v', e = .returned v' ∧ TxtsAt w' w.heap.size v' [] ∧ Upd (fun _ => False) w w' := by
  by_cases h0 : n = 0
  · subst h0
    refine (Any8.slices_Grow_room Tryz.layGrowS none 0 0 0 w (by omega) (by omega) (by omega) (by omega)).mono ?_
    rintro e w' ⟨rfl, rfl⟩
    exact ⟨_, rfl, World.ownsRow_nil _ _ _ _, Upd.refl _ _⟩
  · obtain ⟨i0, hi0, hz0, hzs, hzb⟩ := info_parts string_info
    refine (Any8.slices_Grow_grow Tryz.layGrowS i0 (.string ByteArray.empty) hi0 hz0 (by rw [hzs]; exact Nat.one_pos) none 0 0 n [] w (by omega) (by omega) (by rw [hzb]; show (0 + n) * 16 ≤ _; omega) (by omega) (by simp) (fun _ => rfl) (fun a h => by cases h)).mono ?_
    rintro e w' ⟨rfl, rfl⟩
    obtain ⟨Q, hQ⟩ : ∃ Q, Q = grownCap w (0 + n) 0 9 := ⟨_, rfl⟩
    have hQ1 : 0 + n ≤ Q := by rw [hQ]; exact grownCap_ge w _ _ _
    have hQ2 : Q ≤ maxLen := by rw [hQ]; exact grownCap_le_maxLen w _ _ _ (by unfold maxLen; omega)
    have hA : (([] : List Value).toArray ++ Builtin.zeroCells (Value.string ByteArray.empty).cells (0 + n - 0) ++ Builtin.zeroCells (Value.string ByteArray.empty).cells (Q - (0 + n))) = (List.replicate (0 + n - 0) (Value.string ByteArray.empty) ++ List.replicate (Q - (0 + n)) (Value.string ByteArray.empty)).toArray := by
      rw [zeroS, zeroS]; simp
    show ∃ v', _ = _ ∧ TxtsAt (w.drew.alloc (.cells (([] : List Value).toArray ++ Builtin.zeroCells (Value.string ByteArray.empty).cells (0 + n - 0) ++ Builtin.zeroCells (Value.string ByteArray.empty).cells (grownCap w (0 + n) 0 9 - (0 + n))) 9)) _ _ _ ∧ _
    rw [← hQ, hA]
    have hB := Blk.made w.drew (List.replicate (0 + n - 0) (Value.string ByteArray.empty) ++ List.replicate (Q - (0 + n)) (Value.string ByteArray.empty)) 9
    refine ⟨.slice (some ⟨w.heap.size, 0, none⟩) 0 Q, by rw [hQ]; rfl, ?_, (Upd.refl _ _).drew.alloc _⟩
    exact OwnN.ofBlk (f := txtc) (k := 1) (l := []) (base := w.heap.size) (Nat.le_refl _) (fun _ => rfl) hB (by simp; omega) hQ2 (Nat.zero_le _)
set_option maxHeartbeats 4000000 in
set_option maxRecDepth 100000 in
theorem copy_any (m : MD) (v : Value) (w : World) (h : RowOf txtc 1 w v m.ps) (hl : m.ps.length ≤ 1000000) :
    Calls Tryz.prog 74 #[mdV m v] w fun e w' => ∃ v', e = .returned (mdV m v') ∧ TxtsAt w' w.heap.size v' m.ps ∧ Upd (fun _ => False) w w' := by
  obtain ⟨p, c, rfl, hm⟩ := h.len
  unfold maxLen at hm
  obtain ⟨on, bc, oi, oo, nl, rd, ps⟩ := m
  dsimp only at *
  have H := Lib.hid h
  have CL : Hid (∀ W, Upd (fun _ => False) w W → Calls Tryz.prog 111 #[.slice p ps.length c] W fun e w' => ∃ p4 c4, e = .returned (.slice p4 ps.length c4) ∧ TxtsAt w' w.heap.size (.slice p4 ps.length c4) ps ∧ Upd (fun _ => False) W w') := fun W u => by
    refine (cloneR_any _ ps W (h.keep u (fun _ _ _ h => h)) hl).mono ?_
    rintro e w' ⟨v', rfl, t, u2⟩
    obtain ⟨p4, c4, e4, _⟩ := own_slice t
    subst e4
    exact ⟨p4, c4, rfl, own_mono t u.size, u2⟩
  clear h H
  unfold mdV
  dsimp only
  generalize hnp : ps.length = np at *
  have NP := Lib.hid hnp
  clear hnp
  have U1 : Hid (∀ o o', Upd (fun _ => False) w ((w.alloc o).alloc o')) := fun o o' => ((Upd.refl _ _).alloc o).alloc o'
  have K1 : Hid (∀ W, Upd (fun _ => False) ((w.alloc (.cells #[.bool on, .bool bc, .bool oi, .bool oo, .bool nl, .int .i64 rd, .slice p np c] 32)).alloc (.cells #[.bool false, .bool false, .bool false, .bool false, .bool false, .int .i64 0, .slice none 0 0] 32)) W → Blk W w.heap.size [.bool on, .bool bc, .bool oi, .bool oo, .bool nl, .int .i64 rd, .slice p np c] 32 ∧ Blk W (w.heap.size + 1) [.bool false, .bool false, .bool false, .bool false, .bool false, .int .i64 0, .slice none 0 0] 32) := fun W u => by
    refine ⟨u.blk ((Blk.made w [.bool on, .bool bc, .bool oi, .bool oo, .bool nl, .int .i64 rd, .slice p np c] _).alloc _) (fun h => h), u.blk ?_ (fun h => h)⟩
    have := Blk.made (w.alloc (.cells #[.bool on, .bool bc, .bool oi, .bool oo, .bool nl, .int .i64 rd, .slice p np c] 32)) [.bool false, .bool false, .bool false, .bool false, .bool false, .int .i64 0, .slice none 0 0] 32
    rw [World.size_alloc] at this; exact this
  go_enter Tryz.func74, Tryz.ntmps74
  go_wp2_with fail
  refine (CL.out _ (U1.out _ _)).mono ?_
  rintro e w5 ⟨p4, c4, rfl, t5, u5⟩
  obtain ⟨b1, b2⟩ := K1.out w5 u5
  have x1 := b1.lt
  have x2 := b2.lt
  have f1 := fun i => b1.free i
  have f2 := fun i => b2.free i
  have d0 := b1.cellAt (i := 0) (v := .bool on) rfl
  have d1 := b1.cellAt (i := 1) (v := .bool bc) rfl
  have d2 := b1.cellAt (i := 2) (v := .bool oi) rfl
  have d3 := b1.cellAt (i := 3) (v := .bool oo) rfl
  have d4 := b1.cellAt (i := 4) (v := .bool nl) rfl
  have d5 := b1.cellAt (i := 5) (v := .int .i64 rd) rfl
  have d6 := b1.cellAt (i := 6) (v := .slice p np c) rfl
  have e0 := b2.cellAt (i := 0) (v := .bool false) rfl
  have e1 := b2.cellAt (i := 1) (v := .bool false) rfl
  have e2 := b2.cellAt (i := 2) (v := .bool false) rfl
  have e3 := b2.cellAt (i := 3) (v := .bool false) rfl
  have e4 := b2.cellAt (i := 4) (v := .bool false) rfl
  have e5 := b2.cellAt (i := 5) (v := .int .i64 0) rfl
  have e6 := b2.cellAt (i := 6) (v := .slice none 0 0) rfl
  have T5 := Lib.hid t5
  have U5 := Lib.hid u5
  have B12 := Lib.hid (And.intro b1 b2)
  have UW := Lib.hid ((U1.out _ _).trans u5 (fun _ _ h => h))
  clear t5 u5 b1 b2 K1
  go_wp2
  have bF : Blk _ (w.heap.size + 1) [.bool on, .bool bc, .bool oi, .bool oo, .bool nl, .int .i64 rd, .slice p4 np c4] 32 := (((((((B12.out.2.set_other (b' := w.heap.size) (o := 6) (v := .slice p4 np c4) (by omega)).set 0 (.bool on)).set 1 (.bool bc)).set 2 (.bool oi)).set 3 (.bool oo)).set 4 (.bool nl)).set 5 (.int .i64 rd)).set 6 (.slice p4 np c4)
  have h0 := bF.cellAt (i := 0) (v := .bool on) rfl
  have h1 := bF.cellAt (i := 1) (v := .bool bc) rfl
  have h2 := bF.cellAt (i := 2) (v := .bool oi) rfl
  have h3 := bF.cellAt (i := 3) (v := .bool oo) rfl
  have h4 := bF.cellAt (i := 4) (v := .bool nl) rfl
  have h5 := bF.cellAt (i := 5) (v := .int .i64 rd) rfl
  have h6 := bF.cellAt (i := 6) (v := .slice p4 np c4) rfl
  refine bodyPost_ret (v := .agg #[.bool on, .bool bc, .bool oi, .bool oo, .bool nl, .int .i64 rd, .slice p4 np c4]) (by simp [results, Tryz.results74, go_sem, h0, h1, h2, h3, h4, h5, h6]) rfl ⟨_, rfl, ?_, ?_⟩
  · have us : Upd (fun b => b = w.heap.size ∨ b = w.heap.size + 1) w5 _ := ((((((((Upd.refl (fun b => b = w.heap.size ∨ b = w.heap.size + 1) w5).set (b := w.heap.size) (o := 6) (v := .slice p4 np c4) (fun _ => Or.inl rfl)).set (b := w.heap.size + 1) (o := 0) (v := .bool on) (fun _ => Or.inr rfl)).set (b := w.heap.size + 1) (o := 1) (v := .bool bc) (fun _ => Or.inr rfl)).set (b := w.heap.size + 1) (o := 2) (v := .bool oi) (fun _ => Or.inr rfl)).set (b := w.heap.size + 1) (o := 3) (v := .bool oo) (fun _ => Or.inr rfl)).set (b := w.heap.size + 1) (o := 4) (v := .bool nl) (fun _ => Or.inr rfl)).set (b := w.heap.size + 1) (o := 5) (v := .int .i64 rd) (fun _ => Or.inr rfl)).set (b := w.heap.size + 1) (o := 6) (v := .slice p4 np c4) (fun _ => Or.inr rfl)
    refine own_keep T5.out us (fun b hb e => ?_)
    obtain ⟨_, _, cs, hs⟩ := own_lt T5.out hb
    rcases e with rfl | rfl
    · exact absurd (B12.out.1.ty hs) (by decide)
    · exact absurd (B12.out.2.ty hs) (by decide)
  · exact ((((((((UW.out.set (fun h => absurd h (Nat.lt_irrefl _))).set (fun h => by omega)).set (fun h => by omega)).set (fun h => by omega)).set (fun h => by omega)).set (fun h => by omega)).set (fun h => by omega)).set (fun h => by omega))
end Go.Proofs.YtmlojbfcmebboaaGreat
/- Rows of texts one behind another. -/
set_option linter.unusedVariables false
set_option linter.unusedSimpArgs false
namespace Go.Proofs.YtmlojbfcmebboaaGreat
open Go.RowKit

def sumR (R : List (Value × List Txt)) (k : Nat) : Nat := ((R.take k).map fun r => r.2.length).sum
theorem sumR_succ {R : List (Value × List Txt)} {k : Nat} {r : Value × List Txt} (h : R[k]? = some r) : sumR R (k + 1) = sumR R k + r.2.length := by
  obtain ⟨h1, e⟩ := List.getElem?_eq_some_iff.1 h
  unfold sumR; rw [List.take_succ_eq_append_getElem h1, e]; simp
theorem sumR_le (R : List (Value × List Txt)) (k : Nat) : sumR R k ≤ sumR R R.length := by
  unfold sumR
  rw [List.take_length]
  have := List.take_append_drop k R
  conv => rhs; rw [← this]
  rw [List.map_append, List.sum_append]; omega
theorem flat_len (R : List (Value × List Txt)) (k : Nat) : ((R.take k).flatMap (·.2)).length = sumR R k := by
  unfold sumR; rw [List.length_flatMap]
theorem TxtsAt.ownN {w : World} {base : Nat} {v : Value} {l : List Txt} : TxtsAt w base v l ↔ OwnN txtc 1 9 w base v l := by
  unfold TxtsAt OwnN txtc
  have : ∀ l : List Txt, flat (fun t => [Value.string (ofL t)]) l = l.map fun t => Value.string (ofL t) := fun l => by
    induction l with
    | nil => rfl
    | cons a l ih => show [_] ++ flat _ l = _; rw [ih]; rfl
  rw [this]
theorem txts_appR (w : World) (base : Nat) (v v2 : Value) (l l2 : List Txt) (h : TxtsAt w base v l) (h2 : RowOf txtc 1 w v2 l2) (hl : l.length + l2.length ≤ 10000000) (hb : base ≤ w.heap.size) :
    ∃ p c w', (Builtin.append_ #[30, 30] 30 #[v, v2]).run Tryz.prog w = .ok (.slice p (l ++ l2).length c) w' ∧ TxtsAt w' base (.slice p (l ++ l2).length c) (l ++ l2) ∧ Upd (fun b => v.ownBlock = some b) w w' := by
  obtain ⟨i0, hi0, hz0, hz1, hz2⟩ := info_parts string_info
  obtain ⟨v', w', a, b, c, _⟩ := OwnN.append (P := Tryz.prog) 30 30 i0 (.string ByteArray.empty) 16 Tryz.underlying30 hi0 hz0 hz1 hz2 rfl (by decide) (fun _ => rfl) (fun a _ => fun u hu => by simp [txtc] at hu; subst hu; rfl) (TxtsAt.ownN.1 h) h2 (by unfold maxLen; omega) (by omega) hb
  obtain ⟨p, k, e, _⟩ := b.slice
  subst e
  exact ⟨p, k, w', a, TxtsAt.ownN.2 b, c⟩
set_option maxHeartbeats 4000000 in
set_option maxRecDepth 100000 in
theorem concatT_any (b cap : Nat) (R : List (Value × List Txt)) (w : World) (hb : b < w.heap.size) (hc : ∀ j r, R[j]? = some r → w.cell? ⟨b, j, none⟩ = some r.1) (hr : ∀ r ∈ R, RowOf txtc 1 w r.1 r.2) (hn : R.length ≤ 1000) (ht : sumR R R.length ≤ 1000000) :
    Calls Tryz.prog 86 #[.slice (some ⟨b, 0, none⟩) R.length cap] w fun e w' => ∃ v', e = .returned v' ∧ TxtsAt w' w.heap.size v' (R.flatMap (·.2)) ∧ Upd (fun _ => False) w w' := by
  obtain ⟨nr, hnr⟩ : ∃ nr, nr = R.length := ⟨_, rfl⟩
  rw [← hnr] at hn ht ⊢
  have NR := Lib.hid hnr
  have HC := Lib.hid hc
  have HR := Lib.hid hr
  have SL := Lib.hid (sumR_le R)
  have GR := Lib.hid (growT_any (sumR R nr) w ht)
  have HT := Lib.hid ht
  clear hc hr hnr ht
  go_enter Tryz.func86, Tryz.ntmps86
  go_wp2
  go_loop [3, 11] (fun x3 x11 => ∃ (k s : Nat), k ≤ nr ∧ x3 = .int .i64 (s : Int) ∧ x11 = .int .i64 (k : Int) ∧ Hid (s = sumR R k)) (fun _ x11 => nr - (intOf x11).toNat)
  case atStart => exact ⟨0, 0, by omega, rfl, rfl, Lib.hid rfl⟩
  case round =>
    obtain ⟨k, s, hk, rfl, rfl, SK⟩ := hrel
    by_cases hlt : k < nr
    · have q1 : (k : Int) < (nr : Int) := by omega
      have hkl : k < R.length := by rw [← NR.out]; exact hlt
      have gk : R[k]? = some R[k] := List.getElem?_eq_getElem hkl
      have c0 := HC.out k _ gk
      obtain ⟨p, c, ev, hm⟩ := (HR.out _ (List.mem_of_getElem? gk)).len
      rw [ev] at c0
      have S2 := sumR_succ gk
      have S3 : sumR R (k + 1) ≤ 1000000 := Nat.le_trans (SL.out (k + 1)) (by rw [← NR.out]; exact HT.out)
      have SK2 : Hid (s + (R[k]).2.length = sumR R (k + 1)) := by show _ = _; rw [S2, SK.out]
      generalize (R[k]).2.length = nk at *
      have hs : s + nk ≤ 1000000 := by rw [SK2.out]; exact S3
      clear gk ev S2 S3 hkl SK
      go_wp2
      go_round
      case rel => exact ⟨k + 1, s + nk, by omega, by simp, by simp, SK2⟩
      case measure => simp [intOf]; omega
    · have q1 : ¬ (k : Int) < (nr : Int) := by omega
      have ek : k = nr := by omega
      have SN : Hid (s = sumR R nr) := by rw [← ek]; exact SK
      have GR2 := GR.out
      rw [← SN.out] at GR2
      have GR2 := Lib.hid GR2
      clear SK ek GR SN
      go_wp2_with fail
      refine (GR2.out).mono ?_
      rintro e w1 ⟨v1, rfl, t1, u1⟩
      have T1 := Lib.hid t1
      have U1 := Lib.hid u1
      have HC1 : Hid (∀ W, Upd (fun _ => False) w W → ∀ j r, R[j]? = some r → W.cell? ⟨b, j, none⟩ = some r.1) := fun W u j r h => (u.cell (p := ⟨b, j, none⟩) hb (fun h => h)).trans (HC.out j r h)
      clear t1 u1 GR2
      go_wp2
      go_loopw [6, 27] (fun x6 x27 wr => ∃ (k : Nat) (acc : List Txt) (p : Option Addr) (n c : Nat), k ≤ nr ∧ x6 = .slice p n c ∧ x27 = .int .i64 (k : Int) ∧ Hid (acc = (R.take k).flatMap (·.2)) ∧ Hid (TxtsAt wr w.heap.size (.slice p n c) acc) ∧ Hid (Upd (fun _ => False) w wr)) (fun _ x27 _ => nr - (intOf x27).toNat)
      case atStart =>
        obtain ⟨p, c, e1, _⟩ := own_slice T1.out
        subst e1
        exact ⟨0, [], _, _, _, by omega, rfl, rfl, Lib.hid (by simp), T1, U1⟩
      case round =>
        obtain ⟨k, acc, pa, na, ca, hk, rfl, rfl, AC, OW, U⟩ := hrel
        by_cases hlt : k < nr
        · have q2 : (k : Int) < (nr : Int) := by omega
          have hkl : k < R.length := by rw [← NR.out]; exact hlt
          have gk0 : R[k]? = some R[k] := List.getElem?_eq_getElem hkl
          obtain ⟨r, hrk⟩ : ∃ r, r = R[k] := ⟨_, rfl⟩
          have gk : R[k]? = some r := by rw [hrk]; exact gk0
          have TK : R.take (k + 1) = R.take k ++ [r] := by rw [hrk, List.take_succ_eq_append_getElem hkl]
          clear gk0 hrk
          have c0 := HC1.out _ U.out k _ gk
          have hrow := (HR.out _ (List.mem_of_getElem? gk)).keep U.out (fun _ _ _ h => h)
          have hal : acc.length = sumR R k := by rw [AC.out, flat_len]
          have S2 := sumR_succ gk
          have S3 : sumR R (k + 1) ≤ 1000000 := Nat.le_trans (SL.out (k + 1)) (by rw [← NR.out]; exact HT.out)
          obtain ⟨p1, c1, w9, hr1, I1, V1⟩ := txts_appR wr w.heap.size _ _ acc r.2 OW.out hrow (by omega) U.out.size
          obtain ⟨p, c, ev, hm⟩ := hrow.len
          rw [ev] at c0 hr1
          have AC2 : Hid (acc ++ r.2 = (R.take (k + 1)).flatMap (·.2)) := by
            show _ = _; rw [TK, List.flatMap_append, ← AC.out]; simp
          have UF : Hid (Upd (fun _ => False) w w9) := U.out.trans V1 (fun q hq e => by
            have := (own_lt OW.out e).2.1; omega)
          have I1 := Lib.hid I1
          clear gk ev S2 S3 hkl hal hrow V1 AC OW TK
          generalize acc ++ r.2 = acc2 at *
          generalize r.2.length = nk at *
          go_wp2_with (at_builtin; refine wpList_builtinN rfl _ _ 30 rfl _ _ rfl rfl hr1 ?_)
          go_roundw
          case rel => exact ⟨k + 1, acc2, _, _, _, by omega, rfl, by simp, AC2, I1, UF⟩
          case measure => simp [intOf]; omega
        · have q2 : ¬ (k : Int) < (nr : Int) := by omega
          have EA : Hid (acc = R.flatMap (·.2)) := by
            have := AC.out
            rw [List.take_of_length_le (by rw [← NR.out]; omega)] at this; exact this
          go_wp2
          go_ret
          exact ⟨_, rfl, by rw [← EA.out]; exact OW.out, U.out⟩
end Go.Proofs.YtmlojbfcmebboaaGreat
/- Rows of texts in order, each once. -/
set_option linter.unusedVariables false
set_option linter.unusedSimpArgs false
namespace Go.Proofs.YtmlojbfcmebboaaGreat
open Go.RowKit Go.Sort

theorem le_txt {a b : Txt} : a ≤ b ↔ ¬ b < a := Iff.rfl
theorem le_of_lt_or_eq {a b : Txt} (h : a < b ∨ a = b) : a ≤ b := le_txt.2 (fun g => by
  rcases h with h | rfl
  · exact lin_asymm h g
  · exact LinO.irr _ g)
theorem lt_or_eq {a b : Txt} (h : a ≤ b) : a < b ∨ a = b := by
  rcases LinO.tri a b with g | g | g
  · exact Or.inl g
  · exact Or.inr g
  · exact absurd g (le_txt.1 h)
theorem le_trT {a b c : Txt} (h : a ≤ b) (k : b ≤ c) : a ≤ c := by
  rcases lt_or_eq h with h | rfl
  · rcases lt_or_eq k with k | rfl
    · exact le_of_lt_or_eq (Or.inl (LinO.tr h k))
    · exact le_of_lt_or_eq (Or.inl h)
  · exact k
theorem compactT_upTo {zs : List Txt} (hs : zs.Pairwise (· ≤ ·)) : ∀ m, m ≤ zs.length → Rising (Lib.compactUpTo zs.toArray m) ∧ ∀ x, x ∈ Lib.compactUpTo zs.toArray m ↔ x ∈ zs.take m
  | 0, _ => ⟨List.Pairwise.nil, fun x => by simp [Lib.compactUpTo]⟩
  | m + 1, hm => by
    obtain ⟨h1, h2⟩ := compactT_upTo hs m (by omega)
    have hml : m < zs.length := by omega
    have e0 : zs.toArray[m]! = zs[m] := by simp [hml]
    rw [Lib.compactUpTo_succ, List.take_succ_eq_append_getElem hml]
    have hle : ∀ j, (hj : j < m) → zs[j] ≤ zs[m] := fun j hj => List.pairwise_iff_getElem.1 hs j m (by omega) hml hj
    by_cases hk : Lib.keeps zs.toArray m = true
    · rw [if_pos hk, e0]
      refine ⟨List.pairwise_append.2 ⟨h1, List.pairwise_singleton _ _, fun a ha b hb => ?_⟩, fun x => by rw [List.mem_append, List.mem_append, h2]⟩
      rw [List.mem_singleton] at hb
      subst hb
      obtain ⟨j, hj, rfl⟩ := List.mem_iff_getElem.1 ((h2 a).1 ha)
      rw [List.length_take] at hj
      rw [List.getElem_take]
      simp only [Lib.keeps, decide_eq_true_eq] at hk
      rcases hk with hk | hk
      · omega
      · have e1 : zs.toArray[m - 1]! = zs[m - 1] := by simp [show m - 1 < zs.length by omega]
        rw [e0, e1] at hk
        have g1 := hle (m - 1) (by omega)
        have g3 : zs[m - 1] < zs[m] := (lt_or_eq g1).elim id (fun e => absurd e.symm hk)
        have g2 : zs[j] ≤ zs[m - 1] := by
          rcases Nat.lt_or_ge j (m - 1) with g | g
          · exact List.pairwise_iff_getElem.1 hs j (m - 1) (by omega) (by omega) g
          · have : j = m - 1 := by omega
            subst this; exact le_of_lt_or_eq (Or.inr rfl)
        rcases lt_or_eq g2 with g2 | g2
        · exact LinO.tr g2 g3
        · rw [g2]; exact g3
    · rw [if_neg hk, List.append_nil]
      refine ⟨h1, fun x => ?_⟩
      rw [h2, List.mem_append, List.mem_singleton]
      refine ⟨Or.inl, fun g => g.elim (fun g => g) (fun g => ?_)⟩
      simp only [Lib.keeps, decide_eq_true_eq, not_or, Decidable.not_not] at hk
      have e1 : zs.toArray[m - 1]! = zs[m - 1] := by simp [show m - 1 < zs.length by omega]
      rw [e0, e1] at hk
      rw [g, hk.2]
      exact List.mem_iff_getElem.2 ⟨m - 1, by rw [List.length_take]; omega, by rw [List.getElem_take]⟩
theorem sortT_uni (xs : List Txt) : Lib.compact (xs.mergeSort fun x y => decide (x ≤ y)) = uniT xs := by
  have hs : (xs.mergeSort fun x y => decide (x ≤ y)).Pairwise (· ≤ ·) := by
    have := List.pairwise_mergeSort (le := fun x y : Txt => decide (x ≤ y)) (fun a b c h1 h2 => by simp only [decide_eq_true_eq] at *; exact le_trT h1 h2) (fun a b => by
      simp only [Bool.or_eq_true, decide_eq_true_eq]
      rcases LinO.tri a b with g | g | g
      · exact Or.inl (le_of_lt_or_eq (Or.inl g))
      · exact Or.inl (le_of_lt_or_eq (Or.inr g))
      · exact Or.inr (le_of_lt_or_eq (Or.inl g))) xs
    exact this.imp (fun h => by simpa using h)
  have := compactT_upTo hs _ (Nat.le_refl _)
  rw [List.take_length] at this
  exact uniT_eq this.1 (fun t => by rw [show Lib.compact _ = Lib.compactUpTo _ _ from rfl, this.2]; exact (List.mergeSort_perm xs _).mem_iff)
theorem Upd.growT {F : Nat → Prop} {a w : World} (h : Upd F a w) (os : Array Obj) : Upd F a (Sort.grow w os) :=
  ⟨h.os, h.tape, h.output, by have := h.size; simp [Sort.grow]; omega, fun k hk hF => by
    have := h.size
    simp only [Sort.grow]
    rw [Array.getElem?_append_left (by omega)]; exact h.block k hk hF⟩
theorem sortT_any (base : Nat) (v : Value) (xs : List Txt) (w : World) (h : TxtsAt w base v xs) (hl : xs.length ≤ 10000000) :
    Calls Tryz.prog 87 #[v] w fun e w' => e = .returned (.tuple #[]) ∧ TxtsAt w' base v (xs.mergeSort fun x y => decide (x ≤ y)) ∧ Upd (fun k => v.ownBlock = some k) w w' := by
  by_cases hv : v = .slice none 0 0
  · subst hv
    have : xs = [] := by
      rcases own_blk h with ⟨_, ⟨_, e⟩ | ⟨b, cap, cs, e, _⟩⟩
      · exact List.length_eq_zero_iff.1 e
      · cases e
    subst this
    refine (Tryz.slices_Sort_string_none none 0 w).mono ?_
    rintro e w' ⟨rfl, rfl⟩
    exact ⟨rfl, by simpa using h, Upd.refl _ _⟩
  · have h' : w.ownsRow base 9 1 v xs.length (xs.map encStr) := h
    obtain ⟨g, cap, rfl, hbg, hg, hnc, hcm, _, hH⟩ := Lib.holds_of_ownsRow h' hv
    refine (Tryz.slices_Sort_string g 0 cap xs w hH hg (by omega)).mono ?_
    rintro e w' ⟨rfl, q, os, rfl⟩
    have hys : (xs.mergeSort fun x y => decide (x ≤ y)).length = xs.length := List.length_mergeSort _
    have := Lib.ownsRow_putRow (q := q) (k := xs.length) (ys := xs.mergeSort fun x y => decide (x ≤ y)) h' hys (Nat.le_refl _)
    rw [List.take_of_length_le (by omega)] at this
    have uP : Upd (fun k => (Value.slice (some ⟨g, 0, none⟩) xs.length cap).ownBlock = some k) w (putRow encStr (Sort.ahead w q) g 0 (xs.mergeSort fun x y => decide (x ≤ y)).toArray) :=
      ⟨rfl, rfl, rfl, by simp [putRow, mapBlock, Sort.ahead], fun k _ hF => by
        have hk : g ≠ k := fun e => hF (by rw [← e]; rfl)
        simp [putRow, mapBlock, Sort.ahead, Array.getElem?_modify, hk]⟩
    refine ⟨rfl, ?_, uP.growT os⟩
    refine own_keep (F := fun _ => False) ?_ ((Upd.refl _ _).growT os) (fun _ _ h => h)
    show World.ownsRow _ _ _ _ _ _ _
    rw [hys]; exact this
theorem compactT_any (base : Nat) (v : Value) (xs : List Txt) (w : World) (h : TxtsAt w base v xs) (hl : xs.length ≤ 10000000) :
    Calls Tryz.prog 88 #[v] w fun e w' => ∃ v', e = .returned v' ∧ TxtsAt w' base v' (Lib.compact xs) ∧ Upd (fun k => v.ownBlock = some k) w w' := by
  by_cases hv : v = .slice none 0 0
  · subst hv
    have : xs = [] := by
      rcases own_blk h with ⟨_, ⟨_, e⟩ | ⟨b, cap, cs, e, _⟩⟩
      · exact List.length_eq_zero_iff.1 e
      · cases e
    subst this
    exact (Tryz.slices_Compact_string_empty none 0 w).mono fun e w' ⟨h1, h2⟩ => ⟨_, h1, by rw [h2]; exact h, by rw [h2]; exact Upd.refl _ _⟩
  · have h' : w.ownsRow base 9 1 v xs.length (xs.map encStr) := h
    obtain ⟨g, cap, rfl, hbg, hg, hnc, hcm, _, hH⟩ := Lib.holds_of_ownsRow h' hv
    have hcl : (Lib.compact xs).length ≤ xs.length := Lib.compact_length_le xs
    refine (Tryz.slices_Compact_string g 0 cap xs w hH (by omega) hnc).mono ?_
    rintro e w' ⟨rfl, q, rfl⟩
    have hys : (Lib.compact xs ++ List.replicate (xs.length - (Lib.compact xs).length) ([] : Txt)).length = xs.length := by simp; omega
    have := Lib.ownsRow_putRow (q := q) (k := (Lib.compact xs).length) (ys := Lib.compact xs ++ List.replicate (xs.length - (Lib.compact xs).length) ([] : Txt)) h' hys hcl
    rw [List.take_left] at this
    refine ⟨_, rfl, this, ⟨rfl, rfl, rfl, by simp [putRow, mapBlock, Sort.ahead], fun k _ hF => ?_⟩⟩
    have hk : g ≠ k := fun e => hF (by rw [← e]; rfl)
    simp [putRow, mapBlock, Sort.ahead, Array.getElem?_modify, hk]
end Go.Proofs.YtmlojbfcmebboaaGreat
