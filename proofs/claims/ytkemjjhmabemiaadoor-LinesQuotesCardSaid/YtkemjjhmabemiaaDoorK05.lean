/- Walks: strings.IndexAny, strings.TrimLeft, and a word without marks. -/
import Derived.Test.YtkemjjhmabemiaaDoorK04
import Derived.Shelf.Strings.SlTrimAscii
import Derived.Test.YtkemjjhmabemiaaDoorK03
set_option linter.unusedVariables false
set_option linter.unusedSimpArgs false
namespace Go.Proofs.YtkemjjhmabemiaaDoor
open Go.RowKit Go.Lib
open Lin (Txt)

theorem contains_gap (x : UInt8) : ([32, 9] : List UInt8).contains x = Lin.gap x := by
  unfold Lin.gap
  simp [List.contains_cons]
  rfl
theorem noany_skip {s : Txt} {i n : Nat} (h : NoAny s [32, 9] i) (hf : ∀ j, j < n → ∃ y, s[i + j]? = some y ∧ 128 ≤ y.toNat) : NoAny s [32, 9] (i + n) := by
  intro j b hj hb
  by_cases hji : j < i
  · exact h j b hji hb
  · obtain ⟨y, h1, h2⟩ := hf (j - i) (by omega)
    have e : i + (j - i) = j := by omega
    rw [e, hb] at h1
    cases h1
    rw [contains_gap]
    unfold Lin.gap
    rw [Bool.or_eq_false_iff, beq_eq_false_iff_ne, beq_eq_false_iff_ne]
    constructor
    · rintro rfl; simp at h2
    · rintro rfl; simp at h2
theorem arr_zero (w : World) : (zeroValue 83).run Tryd.prog w = .ok (.agg (Array.replicate 256 (.bool false))) w := (zero_of_info (P := Tryd.prog) (n := 256) (by kernel_rfl)).1 w
set_option maxHeartbeats 4000000 in
set_option maxRecDepth 1000000 in
theorem ixany_any (s : Txt) (hs : s.length ≤ 1000000) (w : World) :
    Calls Tryd.prog 47 #[.string (ofL s), .string { data := #[32, 9] }] w fun e w' => e = .returned (.int .i64 (indexAny s [32, 9])) ∧ Upd (fun _ => False) w w' := by
  by_cases h8 : 8 < s.length
  · refine (Tryd.strings_IndexAny_long arr_zero (ofL s) { data := #[32, 9] } w (by decide) (by rw [ofL_size]; exact h8) (by rw [ofL_size]; omega) (by decide) (ascii_of_all (by decide))).mono ?_
    rintro e w' ⟨rfl, rfl⟩
    exact ⟨rfl, ((Upd.refl _ _).alloc _).alloc _⟩
  · have h8z : decide ((8 : Int) < (s.length : Int)) = false := decide_eq_false (by omega)
    have SU := Tryd.strings_shouldUseASCIISet (s.length : Int)
    rw [h8z] at SU
    have SU := Lib.hid SU
    have s1 := ofL_size s
    clear h8z h8
    go_enter Tryd.func47, Tryd.ntmps47
    go_wp2_with (go_at_call 60; refine (SU.out _).mono ?_; rintro e w1 ⟨rfl, rfl⟩)
    have hit0 := World.iter_heap w1 (ofL s) 0
    have hu0 : Upd (fun _ => False) w1 (w1.iter (ofL s) 0) := (Upd.refl _ _).iter _ _
    go_loopg [9, 10] s.length (fun g _ _ wx => ∃ i : Nat, i + g = s.length ∧ Hid (wx.heap[w1.heap.size]? = some (.stringIter (ofL s) i)) ∧ Hid (NoAny s [32, 9] i) ∧ Hid (Upd (fun _ => False) w1 wx))
    case atStart => exact ⟨0, by omega, Lib.hid hit0, Lib.hid (NoAny.zero _ _), Lib.hid hu0⟩
    case round =>
      obtain ⟨i, hig, IT, NO, U⟩ := hrel
      clear hit0 hu0
      by_cases hi : i < s.length
      · obtain ⟨x, hx⟩ : ∃ x, s[i]? = some x := ⟨_, List.getElem?_eq_getElem hi⟩
        have HX := Lib.hid hx
        have hlt : w1.heap.size < wr.heap.size := (Array.getElem?_eq_some_iff.1 IT.out).1
        by_cases hx8 : x.toNat < 128
        · have hd : Utf8.decode (ofL s) i = (x.toNat, 1) := by
            have := decode_ascii (ofL s) i (by rw [s1]; exact hi) (by
              have : (ofL s)[i]'(by rw [s1]; exact hi) = x := by
                obtain ⟨h1, h2⟩ := List.getElem?_eq_some_iff.1 hx
                exact h2
              rw [this]; exact hx8)
            have e : (ofL s)[i]'(by rw [s1]; exact hi) = x := by
              obtain ⟨h1, h2⟩ := List.getElem?_eq_some_iff.1 hx
              exact h2
            rw [e] at this; exact this
          have hnx := fun ty => run_next_on wr w1.heap.size (ofL s) i x.toNat 1 ty IT.out (by rw [s1]; exact hi) hd
          have IT2 := Lib.hid (atIter_at wr w1.heap.size (ofL s) (i + 1) hlt)
          have U2 := Lib.hid (U.out.trans (atIter_upd wr w1.heap.size (ofL s) (i + 1)) (fun k hk e => by omega))
          have IR := Tryd.strings_IndexRune_ascii { data := #[32, 9] } (x.toNat : Int) (World.atIter wr w1.heap.size (ofL s) (i + 1)) (by omega) (by omega)
          have hcon := contains_iff_indexByte [32, 9] x
          rw [contains_gap] at hcon
          have hback : ((x.toNat : Int)).toNat.toUInt8 = x := by simp
          rw [hback] at IR
          have IR : Hid (Calls Tryd.prog 59 #[.string { data := #[32, 9] }, .int .i32 (x.toNat : Int)] (World.atIter wr w1.heap.size (ofL s) (i + 1)) fun e w' => e = .returned (.int .i64 (indexByte [32, 9] x)) ∧ w' = World.atIter wr w1.heap.size (ofL s) (i + 1)) := Lib.hid IR
          generalize World.atIter wr w1.heap.size (ofL s) (i + 1) = w2 at *
          generalize indexByte [32, 9] x = q at *
          generalize (x.toNat : Int) = xi at *
          clear hx hd hback
          cases hin : Lin.gap x with
          | false =>
            rw [hin] at hcon
            have hlt : ¬ ((0 : Int) ≤ q) := of_decide_eq_false hcon.symm
            have HIN := Lib.hid hin
            clear hcon hin
            go_wp2_with (go_at_call 59; refine IR.out.mono ?_; rintro e w3 ⟨rfl, rfl⟩)
            go_roundg (s.length - (i + 1))
            case measure => omega
            case rel => exact ⟨i + 1, by omega, IT2, Lib.hid (NO.out.succ HX.out (by rw [contains_gap]; exact HIN.out)), U2⟩
          | true =>
            rw [hin] at hcon
            have hge : (0 : Int) ≤ q := of_decide_eq_true hcon.symm
            have HIN := Lib.hid hin
            clear hcon hin
            go_wp2_with (go_at_call 59; refine IR.out.mono ?_; rintro e w3 ⟨rfl, rfl⟩)
            go_ret
            exact ⟨ret_int (by rw [indexAny_hit NO.out HX.out (by rw [contains_gap]; exact HIN.out)]), U2.out⟩
        · obtain ⟨c, n, hd, c0, c1, cv, n1, n2, nf⟩ := decode_far s i x hx (by omega)
          have hnx := fun ty => run_next_on wr w1.heap.size (ofL s) i c n ty IT.out (by rw [s1]; exact hi) hd
          have IT2 := Lib.hid (atIter_at wr w1.heap.size (ofL s) (i + n) hlt)
          have U2 := Lib.hid (U.out.trans (atIter_upd wr w1.heap.size (ofL s) (i + n)) (fun k hk e => by omega))
          have IR : Hid (Calls Tryd.prog 59 #[.string { data := #[32, 9] }, .int .i32 (c : Int)] (World.atIter wr w1.heap.size (ofL s) (i + n)) fun e w' => e = .returned (.int .i64 (-1)) ∧ Upd (fun _ => False) (World.atIter wr w1.heap.size (ofL s) (i + n)) w') := Lib.hid (irune_far (c : Int) (by omega) (by omega) cv _)
          have hsz : w1.heap.size < (World.atIter wr w1.heap.size (ofL s) (i + n)).heap.size := (Array.getElem?_eq_some_iff.1 IT2.out).1
          have NO2 := Lib.hid (noany_skip NO.out (fun j hj => by
            by_cases h0 : j = 0
            · subst h0; exact ⟨x, hx, by omega⟩
            · exact nf j (by omega) hj))
          generalize World.atIter wr w1.heap.size (ofL s) (i + n) = w2 at *
          clear hx hd cv nf hx8
          generalize (c : Int) = ci at *
          go_wp2_with (go_at_call 59; refine IR.out.mono ?_; rintro e w3 ⟨rfl, u3⟩)
          go_roundg (s.length - (i + n))
          case measure => omega
          case rel => exact ⟨i + n, by omega, Lib.hid ((u3.block _ hsz id).trans IT2.out), NO2, Lib.hid (U2.out.trans u3 (fun _ _ h => h))⟩
      · have hnx := fun ty => run_next_off wr w1.heap.size (ofL s) i ty IT.out (by rw [s1]; exact hi)
        go_wp2
        go_ret
        exact ⟨ret_int (by rw [indexAny_none (by have := NO.out; rwa [show i = s.length by omega] at this)]), U.out⟩
theorem trim_any (s : Txt) (w : World) :
    Calls Tryd.prog 26 #[.string (ofL s), .string { data := #[32, 9] }] w fun e w' => e = .returned (.string (ofL (s.dropWhile Lin.gap))) ∧ Upd (fun _ => False) w w' := by
  refine (Any.strings_TrimLeft_laid Tryd.lays161 (by kernel_rfl) (ofL s) { data := #[32, 9] } w (by decide) (ascii_of_all (by decide))).mono ?_
  rintro e w' ⟨rfl, b⟩
  refine ⟨?_, upd_fresh b⟩
  have : (fun x => ([32, 9] : List UInt8).contains x) = Lin.gap := funext contains_gap
  show Ending.returned (.string (ofL (s.dropWhile fun x => ([32, 9] : List UInt8).contains x))) = _
  rw [this]
theorem ixany_take : ∀ s : Txt, (indexAny s [32, 9] = -1 → s.takeWhile (fun c => !Lin.gap c) = s) ∧ (0 ≤ indexAny s [32, 9] → s.takeWhile (fun c => !Lin.gap c) = s.take (indexAny s [32, 9]).toNat ∧ (indexAny s [32, 9]).toNat ≤ s.length) ∧ -1 ≤ indexAny s [32, 9]
  | [] => ⟨fun _ => rfl, fun h => by simp [indexAny] at h, by simp [indexAny]⟩
  | c :: r => by
    have ih := ixany_take r
    have e : indexAny (c :: r) [32, 9] = if Lin.gap c then 0 else if indexAny r [32, 9] == -1 then -1 else indexAny r [32, 9] + 1 := by rw [indexAny, contains_gap]
    rw [e]
    by_cases hg : Lin.gap c = true
    · rw [if_pos hg]; exact ⟨fun h => (by cases h), fun _ => ⟨by simp [hg], by simp⟩, by omega⟩
    · rw [if_neg hg]
      have hg2 : Lin.gap c = false := by simpa using hg
      by_cases h1 : indexAny r [32, 9] = -1
      · rw [if_pos (by simpa using h1)]
        exact ⟨fun _ => by rw [List.takeWhile_cons, hg2]; simp [ih.1 h1], fun h => by omega, by omega⟩
      · rw [if_neg (by simpa using h1)]
        have h2 := ih.2.1 (by omega)
        refine ⟨fun h => by omega, fun _ => ?_, by omega⟩
        obtain ⟨j, hj⟩ : ∃ j : Nat, indexAny r [32, 9] = (j : Int) := ⟨(indexAny r [32, 9]).toNat, by omega⟩
        rw [hj] at h2 ⊢
        have e2 : ((j : Int) + 1).toNat = j + 1 := by omega
        rw [e2, List.takeWhile_cons, hg2]
        simp only [Int.toNat_natCast] at h2
        refine ⟨by simp [h2.1], by have := h2.2; simp; omega⟩
set_option maxHeartbeats 4000000 in
set_option maxRecDepth 100000 in
theorem plain_any (s : Txt) (hs : s.length ≤ 1000000) (w : World) :
    Calls Tryd.prog 27 #[.string (ofL s)] w fun e w' => e = .returned (.string (ofL (s.takeWhile fun c => !Lin.gap c))) ∧ Upd (fun _ => False) w w' := by
  have IX := Lib.hid (ixany_any s hs w)
  obtain ⟨p1, p2, p3⟩ := ixany_take s
  have rt := fun k => run_take s k
  generalize indexAny s [32, 9] = q at *
  by_cases hq : 0 ≤ q
  · obtain ⟨p4, p5⟩ := p2 hq
    have rt := rt q hq (by omega)
    rw [← p4] at rt
    generalize ofL (s.takeWhile fun c => !Lin.gap c) = out at *
    clear p1 p2 p4
    go_enter Tryd.func27, Tryd.ntmps27
    go_wp2_with fail
    refine (IX.out).mono ?_
    rintro e w1 ⟨rfl, u1⟩
    go_wp2
    go_ret
    exact ⟨rfl, u1⟩
  · have e := p1 (by omega)
    rw [e]
    clear p1 p2 rt e
    go_enter Tryd.func27, Tryd.ntmps27
    go_wp2_with fail
    refine (IX.out).mono ?_
    rintro e w1 ⟨rfl, u1⟩
    go_wp2
    go_ret
    exact ⟨rfl, u1⟩
end Go.Proofs.YtkemjjhmabemiaaDoor
/- Walks: a byte as a text. -/
set_option linter.unusedVariables false
set_option linter.unusedSimpArgs false
namespace Go.Proofs.YtkemjjhmabemiaaDoor
open Go.RowKit
open Lin (Txt)

theorem BAt.made (w : World) (c : UInt8) : BAt (w.alloc (.cells #[byc c] 5)) (some ⟨w.heap.size, 0, none⟩) 1 [c] := by
  refine ⟨⟨by simp, fun e => by cases e⟩, by unfold maxLen; omega, Or.inr ⟨_, _, rfl, by simp, fun i d hi => ?_⟩⟩
  cases i with
  | zero => simp at hi; subst hi; rw [Nat.add_zero]; exact (Blk.made w [byc c] 5).cell 0
  | succ i => simp at hi
theorem one_any (c : UInt8) (w : World) : Calls Tryd.prog 30 #[byc c] w fun e w' => e = .returned (.string (ofL [c])) ∧ Upd (fun _ => False) w w' := by
  have R := (BAt.made w c).str
  unfold byc at R ⊢
  rw [List.length_singleton] at R
  generalize (c.toNat : Int) = x at *
  generalize ofL [c] = s at *
  go_enter Tryd.func30, Tryd.ntmps30
  go_wp2
  go_ret
  exact ⟨rfl, (Upd.refl _ _).alloc _⟩
end Go.Proofs.YtkemjjhmabemiaaDoor
/- Walks: lines and numbers of bytes. -/
set_option linter.unusedVariables false
set_option linter.unusedSimpArgs false
namespace Go.Proofs.YtkemjjhmabemiaaDoor
open Go.RowKit
open Lin (Txt)
open Go.Lib (indexByte)

/-- What a reader of a text hands back. -/
def TRes (r : Lin.R Txt) (e : Ending) : Prop := match r with
  | .there a n => e = .returned (.tuple #[.string (ofL a), .int .i64 (n : Int), .int .i64 0])
  | .short => e = .returned (.tuple #[.string { data := #[] }, .int .i64 0, .int .i64 0])
  | .bad => e = .returned (.tuple #[.string { data := #[] }, .int .i64 0, .int .i64 61])
/-- What a reader of a number hands back. -/
def NRes (r : Lin.R Int) (e : Ending) : Prop := match r with
  | .there v n => e = .returned (.tuple #[.int .i64 v, .int .i64 (n : Int), .int .i64 0])
  | .short => e = .returned (.tuple #[.int .i64 0, .int .i64 0, .int .i64 0])
  | .bad => e = .returned (.tuple #[.int .i64 0, .int .i64 0, .int .i64 61])
theorem tres_bad {r : Lin.R Txt} (h : r = .bad) : TRes r (.returned (.tuple #[.string { data := #[] }, .int .i64 0, .int .i64 61])) := by subst h; rfl
theorem tres_short {r : Lin.R Txt} (h : r = .short) : TRes r (.returned (.tuple #[.string { data := #[] }, .int .i64 0, .int .i64 0])) := by subst h; rfl
theorem tres_there {r : Lin.R Txt} {a : Txt} {n : Nat} {x : Int} (h : r = .there a n) (e : x = (n : Int)) : TRes r (.returned (.tuple #[.string (ofL a), .int .i64 x, .int .i64 0])) := by subst h e; rfl
theorem nres_bad {r : Lin.R Int} (h : r = .bad) : NRes r (.returned (.tuple #[.int .i64 0, .int .i64 0, .int .i64 61])) := by subst h; rfl
theorem nres_short {r : Lin.R Int} (h : r = .short) : NRes r (.returned (.tuple #[.int .i64 0, .int .i64 0, .int .i64 0])) := by subst h; rfl
theorem nres_there {r : Lin.R Int} {v : Int} {n : Nat} {x : Int} (h : r = .there v n) (e : x = (n : Int)) : NRes r (.returned (.tuple #[.int .i64 v, .int .i64 x, .int .i64 0])) := by subst h e; rfl

/-- bytes.IndexByte. -/
theorem bix_any (p : Option Addr) (cap : Nat) (l : Txt) (c : UInt8) (x : Int) (hx : x = (c.toNat : Int)) (w : World) (h : BAt w p cap l) :
    Calls Tryd.prog 24 #[.slice p l.length cap, .int .u8 x] w fun e w' => e = .returned (.int .i64 (indexByte l c)) ∧ w' = w := by
  subst hx
  have hb : ((c.toNat : Int)).toNat.toUInt8 = c := by simp
  cases p with
  | none =>
    have hl : l = [] := by
      rcases h.2.2 with h | ⟨g, o, e, _⟩
      · exact h
      · cases e
    subst hl
    obtain rfl := h.1.2 rfl
    exact Tryd.bytes_IndexByte_nil (c.toNat : Int) w
  | some a =>
    have := Tryd.bytes_IndexByte_at a l.length cap (nums l) (c.toNat : Int) w (nums_length l) (fun i hi => by
      rcases h.2.2 with h | ⟨g, o, e, _, hc⟩
      · subst h; simp at hi
      · cases e
        have : (⟨g, o, none⟩ : Addr).add i = ⟨g, o + i, none⟩ := by unfold Addr.add; split <;> simp_all
        rw [this]
        exact BAt.cells (cap := cap) hc i hi)
    rw [nums_bytes, hb] at this
    exact this
set_option maxHeartbeats 4000000 in
set_option maxRecDepth 100000 in
theorem line_any (p : Option Addr) (cap : Nat) (l : Txt) (w : World) (h : BAt w p cap l) :
    Calls Tryd.prog 53 #[.slice p l.length cap] w fun e w' => TRes (Lin.line l) e ∧ w' = w := by
  have hll := h.le
  unfold maxLen at hll
  have h1 := h.take 4200
  have hm : min (l.length : Int) 4200 = ((l.take 4200).length : Int) := by rw [List.length_take]; omega
  have hlc := h1.le.1
  have I10 := Lib.hid (bix_any p cap (l.take 4200) 10 10 rfl w h1)
  have I13 := Lib.hid (bix_any p cap (l.take 4200) 13 13 rfl w h1)
  have g1 := Lib.indexByte_ge (l.take 4200) 10
  have g2 := Lib.indexByte_ge (l.take 4200) 13
  have g3 := Lin.ix_le (l.take 4200) 10
  have g5 : (l.take 4200).length ≤ 4200 := List.length_take_le _ _
  have LX := Lib.hid (Lin.line_ix l)
  unfold Lin.lineIx at LX
  have S1 := Lib.hid (fun k => h1.take k)
  generalize l.take 4200 = t at *
  generalize indexByte t 10 = n at *
  generalize indexByte t 13 = m at *
  rw [List.nil_append, List.length_nil, Nat.zero_add] at LX
  generalize Lin.line l = r at *
  have H := Lib.hid h
  clear h h1
  by_cases c1 : n = 0
  · have b1 : (n == 0) = true := by simpa using c1
    have LX : Hid (r = .bad) := Lib.hid (LX.out.trans (if_pos (by omega)))
    go_enter Tryd.func53, Tryd.ntmps53
    go_wp2_with fail
    refine (I10.out).mono ?_
    rintro e w1 ⟨rfl, rfl⟩
    go_wp2_with fail
    refine (I13.out).mono ?_
    rintro e w1 ⟨rfl, rfl⟩
    go_wp2
    go_ret3
    exact ⟨tres_bad LX.out, rfl⟩
  · have b1 : (n == 0) = false := by simpa using c1
    by_cases c2 : 0 < n
    · by_cases c3 : m = n - 1
      · have b3 : (m != n - 1) = false := by simp [c3]
        have h2 := S1.out (n.toNat - 1)
        have ek : (n - 1).toNat = (t.take (n.toNat - 1)).length := by rw [List.length_take]; omega
        have LX : Hid (r = .there (t.take (n.toNat - 1)) (n.toNat + 1)) := Lib.hid (LX.out.trans ((if_neg (by omega)).trans (if_neg (by omega))))
        have hstr := h2.str
        generalize t.take (n.toNat - 1) = t2 at *
        have nn : ¬ n < 0 := by omega
        clear h2 c3
        go_enter Tryd.func53, Tryd.ntmps53
        go_wp2_with fail
        refine (I10.out).mono ?_
        rintro e w1 ⟨rfl, rfl⟩
        go_wp2_with fail
        refine (I13.out).mono ?_
        rintro e w1 ⟨rfl, rfl⟩
        go_wp2
        go_ret3
        exact ⟨tres_there LX.out (by omega), rfl⟩
      · have b3 : (m != n - 1) = true := by simpa using c3
        have LX : Hid (r = .bad) := Lib.hid (LX.out.trans (if_pos (by omega)))
        go_enter Tryd.func53, Tryd.ntmps53
        go_wp2_with fail
        refine (I10.out).mono ?_
        rintro e w1 ⟨rfl, rfl⟩
        go_wp2_with fail
        refine (I13.out).mono ?_
        rintro e w1 ⟨rfl, rfl⟩
        go_wp2
        go_ret3
        exact ⟨tres_bad LX.out, rfl⟩
    · have nn : n < 0 := by omega
      by_cases c4 : 0 ≤ m
      · by_cases c5 : m < (t.length : Int) - 1
        · have LX : Hid (r = .bad) := Lib.hid (LX.out.trans (if_pos (by omega)))
          go_enter Tryd.func53, Tryd.ntmps53
          go_wp2_with fail
          refine (I10.out).mono ?_
          rintro e w1 ⟨rfl, rfl⟩
          go_wp2_with fail
          refine (I13.out).mono ?_
          rintro e w1 ⟨rfl, rfl⟩
          go_wp2
          go_ret3
          exact ⟨tres_bad LX.out, rfl⟩
        · by_cases c6 : t.length = 4200
          · have b6 : ((t.length : Int) == 4200) = true := by simp [c6]
            obtain ⟨c6a, c6b⟩ : 4200 ≤ t.length ∧ t.length ≤ 4200 := by omega
            clear c6
            have LX : Hid (r = .bad) := Lib.hid (LX.out.trans (if_pos (by omega)))
            go_enter Tryd.func53, Tryd.ntmps53
            go_wp2_with fail
            refine (I10.out).mono ?_
            rintro e w1 ⟨rfl, rfl⟩
            go_wp2_with fail
            refine (I13.out).mono ?_
            rintro e w1 ⟨rfl, rfl⟩
            go_wp2
            go_ret3
            exact ⟨tres_bad LX.out, rfl⟩
          · have b6 : ((t.length : Int) == 4200) = false := by rw [beq_eq_false_iff_ne]; omega
            have LX : Hid (r = .short) := Lib.hid (LX.out.trans ((if_neg (by omega)).trans (if_pos (by omega))))
            go_enter Tryd.func53, Tryd.ntmps53
            go_wp2_with fail
            refine (I10.out).mono ?_
            rintro e w1 ⟨rfl, rfl⟩
            go_wp2_with fail
            refine (I13.out).mono ?_
            rintro e w1 ⟨rfl, rfl⟩
            go_wp2
            go_ret3
            exact ⟨tres_short LX.out, rfl⟩
      · by_cases c6 : t.length = 4200
        · have b6 : ((t.length : Int) == 4200) = true := by simp [c6]
          obtain ⟨c6a, c6b⟩ : 4200 ≤ t.length ∧ t.length ≤ 4200 := by omega
          clear c6
          have LX : Hid (r = .bad) := Lib.hid (LX.out.trans (if_pos (by omega)))
          go_enter Tryd.func53, Tryd.ntmps53
          go_wp2_with fail
          refine (I10.out).mono ?_
          rintro e w1 ⟨rfl, rfl⟩
          go_wp2_with fail
          refine (I13.out).mono ?_
          rintro e w1 ⟨rfl, rfl⟩
          go_wp2
          go_ret3
          exact ⟨tres_bad LX.out, rfl⟩
        · have b6 : ((t.length : Int) == 4200) = false := by rw [beq_eq_false_iff_ne]; omega
          have LX : Hid (r = .short) := Lib.hid (LX.out.trans ((if_neg (by omega)).trans (if_pos (by omega))))
          go_enter Tryd.func53, Tryd.ntmps53
          go_wp2_with fail
          refine (I10.out).mono ?_
          rintro e w1 ⟨rfl, rfl⟩
          go_wp2_with fail
          refine (I13.out).mono ?_
          rintro e w1 ⟨rfl, rfl⟩
          go_wp2
          go_ret3
          exact ⟨tres_short LX.out, rfl⟩
end Go.Proofs.YtkemjjhmabemiaaDoor
/- Walks: numbers behind marks, words with their lengths. -/
set_option linter.unusedVariables false
set_option linter.unusedSimpArgs false
namespace Go.Proofs.YtkemjjhmabemiaaDoor
open Go.RowKit
open Lin (Txt)

theorem upd0 {a b c : World} (u : Upd (fun _ => False) a b) (v : Upd (fun _ => False) b c) : Upd (fun _ => False) a c := u.trans v (fun _ _ h => h)
/-- A slice that is not empty: its first cell. -/
theorem BAt.head {w : World} {p : Option Addr} {cap : Nat} {c : UInt8} {r : Txt} (h : BAt w p cap (c :: r)) : ∃ g o, p = some ⟨g, o, none⟩ ∧ g < w.heap.size ∧ w.cell? ⟨g, o, none⟩ = some (.int .u8 (c.toNat : Int)) := by
  obtain ⟨g, o, e, hg, hc⟩ := h.at (by simp)
  exact ⟨g, o, e, hg, hc 0 c rfl⟩
theorem pnum_of2 {a : Txt} : (pnum (ofL a) = (Whole.wparse a).getD 0) ∧ perr (ofL a) = if (Whole.wparse a).isSome then 0 else 11 := ⟨rfl, rfl⟩
theorem wparse_bd {a : Txt} {v : Int} (h : Whole.wparse a = some v) : -9223372036854775808 ≤ v ∧ v ≤ 9223372036854775807 := by
  have := (Whole.wparse_is a v).1 h
  exact ⟨this.2.1, this.2.2⟩
set_option maxHeartbeats 4000000 in
set_option maxRecDepth 100000 in
theorem num_any (m : UInt8) (mi x y : Int) (hmi : mi = (m.toNat : Int)) (p : Option Addr) (cap : Nat) (l : Txt) (w : World) (h : BAt w p cap l) (hs : Std w) (hl : l.length ≤ 100000) :
    Calls Tryd.prog 39 #[.slice p l.length cap, .int .u8 mi, .int .i64 x, .int .i64 y] w fun e w' => NRes (Lin.num m x y l) e ∧ Upd (fun _ => False) w w' := by
  subst hmi
  cases l with
  | nil =>
    have H := Lib.hid h
    have HS := Lib.hid hs
    clear h hs
    go_enter Tryd.func39, Tryd.ntmps39
    go_wp2
    go_ret3
    exact ⟨nres_short rfl, Upd.refl _ _⟩
  | cons c r =>
    have hle := h.le.1
    have hle2 := h.le.2
    unfold maxLen at hle2
    obtain ⟨g, o, rfl, hg, hcell⟩ := h.head
    obtain ⟨p1, k1, hsl, h1, _⟩ := h.drop 1 (by simp)
    have hsl : ∀ w', (Instr.slice 27 (.slice (some ⟨g, o, none⟩) (c :: r).length cap) (some (.int .i64 1)) none none).run Tryd.prog w' = .ok (.slice p1 r.length k1) w' := hsl
    have h1 : BAt w p1 k1 r := h1
    have hr : r.length ≤ 100000 := by rw [List.length_cons] at hl; omega
    have L := Lib.hid (line_any p1 k1 r w h1)
    have NX := Lib.hid (show Lin.num m x y (c :: r) = if c = m then (match Lin.line r with | .there l n => (match Whole.wparse l with | some v => if v < x ∨ y < v then .bad else .there v (n + 1) | none => .bad) | .short => .short | .bad => .bad) else .bad from rfl)
    have hn : 1 ≤ (c :: r).length := by simp
    generalize hq : (c :: r).length = n at *
    have hn0 : ((n : Int) == 0) = false := by rw [beq_eq_false_iff_ne]; omega
    have HS := Lib.hid hs
    clear h h1 hs hq
    by_cases hcm : c = m
    · have hb : ((c.toNat : Int) != (m.toNat : Int)) = false := by unfold bne; rw [u8beq]; simp [hcm]
      have NX : Hid (_ = _) := Lib.hid (NX.out.trans (if_pos hcm))
      clear hcm
      generalize Lin.num m x y (c :: r) = res at *
      cases hln : Lin.line r with
      | short =>
        rw [hln] at L NX
        have NX : Hid (res = .short) := NX
        have L : Hid (Calls Tryd.prog 53 #[.slice p1 r.length k1] w fun e w' => e = .returned (.tuple #[.string { data := #[] }, .int .i64 0, .int .i64 0]) ∧ w' = w) := L
        have HL := Lib.hid hln
        clear hln
        go_enter Tryd.func39, Tryd.ntmps39
        go_wp2_with fail
        refine (L.out).mono ?_
        rintro e w1 ⟨rfl, rfl⟩
        go_wp2
        go_ret3
        exact ⟨nres_short NX.out, Upd.refl _ _⟩
      | bad =>
        rw [hln] at L NX
        have NX : Hid (res = .bad) := NX
        have L : Hid (Calls Tryd.prog 53 #[.slice p1 r.length k1] w fun e w' => e = .returned (.tuple #[.string { data := #[] }, .int .i64 0, .int .i64 61]) ∧ w' = w) := L
        have HL := Lib.hid hln
        clear hln
        go_enter Tryd.func39, Tryd.ntmps39
        go_wp2_with fail
        refine (L.out).mono ?_
        rintro e w1 ⟨rfl, rfl⟩
        go_wp2
        go_ret3
        exact ⟨nres_bad NX.out, Upd.refl _ _⟩
      | there a k =>
        rw [hln] at L NX
        have NX : Hid (res = (match Whole.wparse a with | some v => if v < x ∨ y < v then .bad else .there v (k + 1) | none => .bad)) := NX
        have hk := Lin.line_there hln
        have L : Hid (Calls Tryd.prog 53 #[.slice p1 r.length k1] w fun e w' => e = .returned (.tuple #[.string (ofL a), .int .i64 (k : Int), .int .i64 0]) ∧ w' = w) := L
        have hk0 : ((k : Int) == 0) = false := by rw [beq_eq_false_iff_ne]; omega
        have PA := parse_any (ofL a) (by rw [ofL_size]; omega) w HS.out
        rw [pnum_of2.1, pnum_of2.2] at PA
        have HL := Lib.hid hln
        clear hln
        cases hwp : Whole.wparse a with
        | none =>
          rw [hwp] at PA NX
          have NX : Hid (res = .bad) := NX
          have PA : Hid (Calls Tryd.prog 54 #[.string (ofL a)] w fun e w' => e = .returned (.tuple #[.int .i64 0, .int .i64 11]) ∧ Upd (fun _ => False) w w') := Lib.hid PA
          clear hwp
          go_enter Tryd.func39, Tryd.ntmps39
          go_wp2_with fail
          refine (L.out).mono ?_
          rintro e w1 ⟨rfl, rfl⟩
          go_wp2_with fail
          refine (PA.out).mono ?_
          rintro e w2 ⟨rfl, u2⟩
          go_wp2
          go_ret3
          exact ⟨nres_bad NX.out, u2⟩
        | some v =>
          rw [hwp] at PA NX
          have PA : Hid (Calls Tryd.prog 54 #[.string (ofL a)] w fun e w' => e = .returned (.tuple #[.int .i64 v, .int .i64 0]) ∧ Upd (fun _ => False) w w') := Lib.hid PA
          have NX : Hid (res = if v < x ∨ y < v then .bad else .there v (k + 1)) := NX
          obtain ⟨v0, v1⟩ := wparse_bd hwp
          clear hwp
          by_cases q1 : v < x
          · have NX : Hid (res = .bad) := Lib.hid (NX.out.trans (if_pos (Or.inl q1)))
            go_enter Tryd.func39, Tryd.ntmps39
            go_wp2_with fail
            refine (L.out).mono ?_
            rintro e w1 ⟨rfl, rfl⟩
            go_wp2_with fail
            refine (PA.out).mono ?_
            rintro e w2 ⟨rfl, u2⟩
            go_wp2
            go_ret3
            exact ⟨nres_bad NX.out, u2⟩
          · by_cases q2 : y < v
            · have NX : Hid (res = .bad) := Lib.hid (NX.out.trans (if_pos (Or.inr q2)))
              go_enter Tryd.func39, Tryd.ntmps39
              go_wp2_with fail
              refine (L.out).mono ?_
              rintro e w1 ⟨rfl, rfl⟩
              go_wp2_with fail
              refine (PA.out).mono ?_
              rintro e w2 ⟨rfl, u2⟩
              go_wp2
              go_ret3
              exact ⟨nres_bad NX.out, u2⟩
            · have NX : Hid (res = .there v (k + 1)) := Lib.hid (NX.out.trans (if_neg (by omega)))
              go_enter Tryd.func39, Tryd.ntmps39
              go_wp2_with fail
              refine (L.out).mono ?_
              rintro e w1 ⟨rfl, rfl⟩
              go_wp2_with fail
              refine (PA.out).mono ?_
              rintro e w2 ⟨rfl, u2⟩
              go_wp2
              go_ret3
              exact ⟨nres_there NX.out (by omega), u2⟩
    · have hb : ((c.toNat : Int) != (m.toNat : Int)) = true := by unfold bne; rw [u8beq]; simp [hcm]
      have NX : Hid (_ = Lin.R.bad) := Lib.hid (NX.out.trans (if_neg hcm))
      clear hcm L
      go_enter Tryd.func39, Tryd.ntmps39
      go_wp2
      go_ret3
      exact ⟨nres_bad NX.out, Upd.refl _ _⟩
set_option maxHeartbeats 4000000 in
set_option maxRecDepth 100000 in
theorem word_any (p : Option Addr) (cap : Nat) (l : Txt) (w : World) (h : BAt w p cap l) (hs : Std w) (hl : l.length ≤ 100000) :
    Calls Tryd.prog 40 #[.slice p l.length cap] w fun e w' => TRes (Lin.word l) e ∧ Upd (fun _ => False) w w' := by
  have hle := h.le
  unfold maxLen at hle
  have NU := num_any 36 36 0 4096 rfl p cap l w h hs hl
  have WX := Lib.hid (show Lin.word l = match Lin.num 36 0 4096 l with
    | .there v n =>
      if (v.toNat < (l.drop n).length ∧ (l.drop n).getD v.toNat 0 ≠ 13) ∨ (v.toNat + 1 < (l.drop n).length ∧ (l.drop n).getD (v.toNat + 1) 0 ≠ 10) then .bad
      else if (l.drop n).length < v.toNat + 2 then .short else .there ((l.drop n).take v.toNat) (n + v.toNat + 2)
    | .short => .short
    | .bad => .bad from rfl)
  generalize Lin.word l = res at *
  cases hn : Lin.num 36 0 4096 l with
  | short =>
    rw [hn] at NU WX
    have NU : Hid (Calls Tryd.prog 39 #[.slice p l.length cap, .int .u8 36, .int .i64 0, .int .i64 4096] w fun e w' => e = .returned (.tuple #[.int .i64 0, .int .i64 0, .int .i64 0]) ∧ Upd (fun _ => False) w w') := Lib.hid NU
    have HN := Lib.hid hn
    clear h hs hn
    go_enter Tryd.func40, Tryd.ntmps40
    go_wp2_with fail
    refine (NU.out).mono ?_
    rintro e w1 ⟨rfl, u1⟩
    go_wp2
    go_ret3
    exact ⟨tres_short WX.out, u1⟩
  | bad =>
    rw [hn] at NU WX
    have NU : Hid (Calls Tryd.prog 39 #[.slice p l.length cap, .int .u8 36, .int .i64 0, .int .i64 4096] w fun e w' => e = .returned (.tuple #[.int .i64 0, .int .i64 0, .int .i64 61]) ∧ Upd (fun _ => False) w w') := Lib.hid NU
    have HN := Lib.hid hn
    clear h hs hn
    go_enter Tryd.func40, Tryd.ntmps40
    go_wp2_with fail
    refine (NU.out).mono ?_
    rintro e w1 ⟨rfl, u1⟩
    go_wp2
    go_ret3
    exact ⟨tres_bad WX.out, u1⟩
  | there v n =>
    rw [hn] at NU WX
    obtain ⟨n1, n2, n3, n4⟩ := Lin.num_there hn
    obtain ⟨k, rfl⟩ : ∃ k : Nat, v = (k : Int) := ⟨v.toNat, by omega⟩
    have NU : Hid (Calls Tryd.prog 39 #[.slice p l.length cap, .int .u8 36, .int .i64 0, .int .i64 4096] w fun e w' => e = .returned (.tuple #[.int .i64 (k : Int), .int .i64 (n : Int), .int .i64 0]) ∧ Upd (fun _ => False) w w') := Lib.hid NU
    have WX : Hid (res = (if (k < (l.drop n).length ∧ (l.drop n).getD k 0 ≠ 13) ∨ (k + 1 < (l.drop n).length ∧ (l.drop n).getD (k + 1) 0 ≠ 10) then .bad
      else if (l.drop n).length < k + 2 then .short else .there ((l.drop n).take k) (n + k + 2))) := WX
    obtain ⟨p1, k1, hsl, h1, hp1⟩ := h.drop n n2
    have hle1 := h1.le
    unfold maxLen at hle1
    have hn0 : ((n : Int) == 0) = false := by rw [beq_eq_false_iff_ne]; omega
    have hdl : (l.drop n).length = l.length - n := List.length_drop
    generalize l.drop n = r at *
    have HN := Lib.hid hn
    have H1 := Lib.hid h1
    clear h hs hn h1 hp1
    by_cases hk1 : k < r.length
    · have q1 : (k : Int) < (r.length : Int) := by omega
      obtain ⟨c1, hc1⟩ : ∃ c1, r[k]? = some c1 := ⟨_, List.getElem?_eq_getElem hk1⟩
      obtain ⟨g, o, rfl, hg, hc⟩ := H1.out.at (by rintro rfl; simp at hk1)
      have e1 := hc k c1 hc1
      have g1 : r.getD k 0 = c1 := by rw [List.getD_eq_getElem?_getD, hc1]; rfl
      have HG := Lib.hid hg
      have E1 := Lib.hid e1
      by_cases h13 : c1 = 13
      · have b13 : ((c1.toNat : Int) != 13) = false := u8m 13 h13 (by omega)
        by_cases hk2 : k + 1 < r.length
        · have q2 : (k : Int) + 1 < (r.length : Int) := by omega
          obtain ⟨c2, hc2⟩ : ∃ c2, r[k + 1]? = some c2 := ⟨_, List.getElem?_eq_getElem hk2⟩
          have E2 := Lib.hid (hc (k + 1) c2 hc2)
          have g2 : r.getD (k + 1) 0 = c2 := by rw [List.getD_eq_getElem?_getD, hc2]; rfl
          by_cases h10 : c2 = 10
          · have b10 : ((c2.toNat : Int) != 10) = false := u8m 10 h10 (by omega)
            have WX : Hid (res = .there (r.take k) (n + k + 2)) := Lib.hid (WX.out.trans ((if_neg (by rw [g1, g2]; rintro (⟨_, h⟩ | ⟨_, h⟩) <;> exact h (by assumption))).trans (if_neg (by omega))))
            have q3 : ¬ (r.length : Int) < (k : Int) + 2 := by omega
            have hst := (H1.out.take k)
            have ek : (r.take k).length = k := by rw [List.length_take]; omega
            have hstr : ∀ w', Upd (fun _ => False) w w' → (convert 27 9 (.slice (some ⟨g, o, none⟩) k k1)).run Tryd.prog w' = .ok (.string (ofL (r.take k))) w' := fun w' u => by have := (hst.keep0 u).str; rw [ek] at this; exact this
            generalize r.take k = t at *
            have HS := Lib.hid hstr
            clear hc e1 hc1 hc2 g1 g2 h13 h10 hg hst hstr ek
            go_enter Tryd.func40, Tryd.ntmps40
            go_wp2_with fail
            refine (NU.out).mono ?_
            rintro e w1 ⟨rfl, u1⟩
            have hg := HG.out
            have e1 := (u1.cell (p := ⟨g, o + k, none⟩) hg id).trans E1.out
            have e2 := (u1.cell (p := ⟨g, o + (k + 1), none⟩) hg id).trans E2.out
            unfold byc at e1 e2
            have e2 : w1.cell? ⟨g, o + k + 1, none⟩ = some (.int .u8 (c2.toNat : Int)) := e2
            have hstr := HS.out w1 u1
            have U1 := Lib.hid u1
            clear u1 hg
            go_wp2
            go_ret3
            exact ⟨tres_there WX.out (by omega), U1.out⟩
          · have b10 : ((c2.toNat : Int) != 10) = true := u8n 10 h10 (by omega)
            have WX : Hid (res = .bad) := Lib.hid (WX.out.trans (if_pos (Or.inr ⟨hk2, by rw [g2]; exact h10⟩)))
            clear hc e1 hc1 hc2 g1 g2 h13 h10 hg
            go_enter Tryd.func40, Tryd.ntmps40
            go_wp2_with fail
            refine (NU.out).mono ?_
            rintro e w1 ⟨rfl, u1⟩
            have hg := HG.out
            have e1 := (u1.cell (p := ⟨g, o + k, none⟩) hg id).trans E1.out
            have e2 := (u1.cell (p := ⟨g, o + (k + 1), none⟩) hg id).trans E2.out
            unfold byc at e1 e2
            have e2 : w1.cell? ⟨g, o + k + 1, none⟩ = some (.int .u8 (c2.toNat : Int)) := e2
            have U1 := Lib.hid u1
            clear u1 hg
            go_wp2
            go_ret3
            exact ⟨tres_bad WX.out, U1.out⟩
        · have q2 : ¬ (k : Int) + 1 < (r.length : Int) := by omega
          have WX : Hid (res = .short) := Lib.hid (WX.out.trans ((if_neg (by rw [g1]; rintro (⟨_, h⟩ | ⟨h, _⟩); exact h h13; exact hk2 h)).trans (if_pos (by omega))))
          have q3 : (r.length : Int) < (k : Int) + 2 := by omega
          clear hc e1 hc1 g1 h13 hg
          go_enter Tryd.func40, Tryd.ntmps40
          go_wp2_with fail
          refine (NU.out).mono ?_
          rintro e w1 ⟨rfl, u1⟩
          have hg := HG.out
          have e1 := (u1.cell (p := ⟨g, o + k, none⟩) hg id).trans E1.out
          unfold byc at e1
          have U1 := Lib.hid u1
          clear u1 hg
          go_wp2
          go_ret3
          exact ⟨tres_short WX.out, U1.out⟩
      · have b13 : ((c1.toNat : Int) != 13) = true := u8n 13 h13 (by omega)
        have WX : Hid (res = .bad) := Lib.hid (WX.out.trans (if_pos (Or.inl ⟨hk1, by rw [g1]; exact h13⟩)))
        clear hc e1 hc1 g1 h13 hg
        go_enter Tryd.func40, Tryd.ntmps40
        go_wp2_with fail
        refine (NU.out).mono ?_
        rintro e w1 ⟨rfl, u1⟩
        have hg := HG.out
        have e1 := (u1.cell (p := ⟨g, o + k, none⟩) hg id).trans E1.out
        unfold byc at e1
        have U1 := Lib.hid u1
        clear u1 hg
        go_wp2
        go_ret3
        exact ⟨tres_bad WX.out, U1.out⟩
    · have q1 : ¬ (k : Int) < (r.length : Int) := by omega
      have q2 : ¬ (k : Int) + 1 < (r.length : Int) := by omega
      have q3 : (r.length : Int) < (k : Int) + 2 := by omega
      have WX : Hid (res = .short) := Lib.hid (WX.out.trans ((if_neg (by omega)).trans (if_pos (by omega))))
      go_enter Tryd.func40, Tryd.ntmps40
      go_wp2_with fail
      refine (NU.out).mono ?_
      rintro e w1 ⟨rfl, u1⟩
      go_wp2
      go_ret3
      exact ⟨tres_short WX.out, u1⟩
end Go.Proofs.YtkemjjhmabemiaaDoor
/- Walk: a command whose words have their lengths. -/
set_option linter.unusedVariables false
set_option linter.unusedSimpArgs false
namespace Go.Proofs.YtkemjjhmabemiaaDoor
open Go.RowKit
open Lin (Txt)

/-- What a reader of commands hands back. -/
def PRes (base : Nat) (r : Lin.R (List Txt)) (e : Ending) (w' : World) : Prop := match r with
  | .there l n => ∃ v, e = .returned (.tuple #[v, .int .i64 (n : Int), .int .i64 0]) ∧ TxtsO w' base v l
  | .short => e = .returned (.tuple #[.slice none 0 0, .int .i64 0, .int .i64 0])
  | .bad => e = .returned (.tuple #[.slice none 0 0, .int .i64 0, .int .i64 61])
theorem pres_bad {base : Nat} {r : Lin.R (List Txt)} {w' : World} (h : r = .bad) : PRes base r (.returned (.tuple #[.slice none 0 0, .int .i64 0, .int .i64 61])) w' := by subst h; rfl
theorem pres_short {base : Nat} {r : Lin.R (List Txt)} {w' : World} (h : r = .short) : PRes base r (.returned (.tuple #[.slice none 0 0, .int .i64 0, .int .i64 0])) w' := by subst h; rfl
theorem pres_there {base : Nat} {r : Lin.R (List Txt)} {w' : World} {v : Value} {l : List Txt} {n : Nat} {x : Int} (h : r = .there l n) (e : x = (n : Int)) (ht : TxtsO w' base v l) : PRes base r (.returned (.tuple #[v, .int .i64 x, .int .i64 0])) w' := by subst h e; exact ⟨v, rfl, ht⟩
set_option maxHeartbeats 4000000 in
set_option maxRecDepth 100000 in
theorem array_any (p : Option Addr) (cap : Nat) (l : Txt) (w : World) (h : BAt w p cap l) (hs : Std w) (hl : l.length ≤ 100000) :
    Calls Tryd.prog 23 #[.slice p l.length cap] w fun e w' => PRes w.heap.size (Lin.array l) e w' ∧ Upd (fun _ => False) w w' := by
  have hle := h.le
  unfold maxLen at hle
  have NU := num_any 42 42 (-1) 64 rfl p cap l w h hs hl
  have AX := Lib.hid (show Lin.array l = match Lin.num 42 (-1) 64 l with
    | .there v n => Lin.arr v.toNat n [] (l.drop n)
    | .short => .short
    | .bad => .bad from rfl)
  generalize Lin.array l = res at *
  cases hn : Lin.num 42 (-1) 64 l with
  | short =>
    rw [hn] at NU AX
    have NU : Hid (Calls Tryd.prog 39 #[.slice p l.length cap, .int .u8 42, .int .i64 (-1), .int .i64 64] w fun e w' => e = .returned (.tuple #[.int .i64 0, .int .i64 0, .int .i64 0]) ∧ Upd (fun _ => False) w w') := Lib.hid NU
    have HN := Lib.hid hn
    clear h hs hn
    go_enter Tryd.func23, Tryd.ntmps23
    go_wp2_with fail
    refine (NU.out).mono ?_
    rintro e w1 ⟨rfl, u1⟩
    go_wp2
    go_ret3
    exact ⟨pres_short AX.out, u1⟩
  | bad =>
    rw [hn] at NU AX
    have NU : Hid (Calls Tryd.prog 39 #[.slice p l.length cap, .int .u8 42, .int .i64 (-1), .int .i64 64] w fun e w' => e = .returned (.tuple #[.int .i64 0, .int .i64 0, .int .i64 61]) ∧ Upd (fun _ => False) w w') := Lib.hid NU
    have HN := Lib.hid hn
    clear h hs hn
    go_enter Tryd.func23, Tryd.ntmps23
    go_wp2_with fail
    refine (NU.out).mono ?_
    rintro e w1 ⟨rfl, u1⟩
    go_wp2
    go_ret3
    exact ⟨pres_bad AX.out, u1⟩
  | there v n =>
    rw [hn] at NU AX
    obtain ⟨n1, n2, n3, n4⟩ := Lin.num_there hn
    have NU : Hid (Calls Tryd.prog 39 #[.slice p l.length cap, .int .u8 42, .int .i64 (-1), .int .i64 64] w fun e w' => e = .returned (.tuple #[.int .i64 v, .int .i64 (n : Int), .int .i64 0]) ∧ Upd (fun _ => False) w w') := Lib.hid NU
    have AX : Hid (res = Lin.arr v.toNat n [] (l.drop n)) := AX
    have hn0 : ((n : Int) == 0) = false := by rw [beq_eq_false_iff_ne]; omega
    have H := Lib.hid h
    have HS := Lib.hid hs
    have HN := Lib.hid hn
    clear h hs hn
    go_enter Tryd.func23, Tryd.ntmps23
    go_wp2_with fail
    refine (NU.out).mono ?_
    rintro e w1 ⟨rfl, u1⟩
    have U1 := Lib.hid u1
    clear u1
    go_wp2
    go_loopw [2, 3, 4, 6, 8, 26] (fun v2 v3 v4 v6 v8 v26 wr => ∃ (j a : Nat) (out : List Txt), v2 = .slice none 0 0 ∧ v3 = .int .i64 0 ∧ v4 = .int .i64 0 ∧ v6 = .int .i64 (a : Int) ∧ a ≤ l.length ∧ v26 = .int .i64 (j : Int) ∧ j ≤ v.toNat ∧ Hid (res = Lin.arr (v.toNat - j) a out (l.drop a)) ∧ Hid (TxtsO wr w.heap.size v8 out ∧ out.length = j) ∧ Hid (Upd (fun _ => False) w wr)) (fun _ _ _ _ _ v26 _ => v.toNat - (intOf v26).toNat)
    case atStart => exact ⟨0, n, [], rfl, rfl, rfl, rfl, n2, rfl, by omega, AX, Lib.hid ⟨OwnN.none, rfl⟩, U1⟩
    case round =>
      obtain ⟨j, a, out, rfl, rfl, rfl, rfl, ha, rfl, hj, AR, OT, U⟩ := hrel
      obtain ⟨p8, c8, e8, hl8, hc8⟩ := OT.out.1.slice
      subst e8
      by_cases hjv : j < v.toNat
      · have q1 : (j : Int) < v := by omega
        obtain ⟨p1, k1, hsl, h1, _⟩ := (H.out.keep0 U.out).drop a ha
        have hld : (l.drop a).length ≤ 100000 := by rw [List.length_drop]; omega
        have WD := word_any p1 k1 (l.drop a) wr h1 (HS.out.keep U.out) hld
        have hld2 : (l.drop a).length = l.length - a := List.length_drop
        have AR : Hid (res = match Lin.word (l.drop a) with | .there x m => Lin.arr (v.toNat - j - 1) (a + m) (out ++ [x]) ((l.drop a).drop m) | .short => .short | .bad => .bad) := by
          have := AR.out
          obtain ⟨q, hq⟩ : ∃ q, v.toNat - j = q + 1 := ⟨v.toNat - j - 1, by omega⟩
          rw [hq] at this ⊢
          exact this
        cases hw : Lin.word (l.drop a) with
        | short =>
          rw [hw] at WD AR
          have WD : Hid (Calls Tryd.prog 40 #[.slice p1 (l.drop a).length k1] wr fun e w' => e = .returned (.tuple #[.string { data := #[] }, .int .i64 0, .int .i64 0]) ∧ Upd (fun _ => False) wr w') := Lib.hid WD
          have AR : Hid (res = .short) := AR
          have HW := Lib.hid hw
          clear hw h1 hld2
          generalize (l.drop a).length = ln at *
          go_wp2_with fail
          refine WD.out.mono ?_
          rintro e w2 ⟨rfl, u2⟩
          have U2 := Lib.hid (upd0 U.out u2)
          clear u2
          go_wp2
          go_ret3
          exact ⟨pres_short AR.out, U2.out⟩
        | bad =>
          rw [hw] at WD AR
          have WD : Hid (Calls Tryd.prog 40 #[.slice p1 (l.drop a).length k1] wr fun e w' => e = .returned (.tuple #[.string { data := #[] }, .int .i64 0, .int .i64 61]) ∧ Upd (fun _ => False) wr w') := Lib.hid WD
          have AR : Hid (res = .bad) := AR
          have HW := Lib.hid hw
          clear hw h1 hld2
          generalize (l.drop a).length = ln at *
          go_wp2_with fail
          refine WD.out.mono ?_
          rintro e w2 ⟨rfl, u2⟩
          have U2 := Lib.hid (upd0 U.out u2)
          clear u2
          go_wp2
          go_ret3
          exact ⟨pres_bad AR.out, U2.out⟩
        | there x m =>
          rw [hw] at WD AR
          obtain ⟨m1, m2, m3⟩ := Lin.word_there hw
          have WD : Hid (Calls Tryd.prog 40 #[.slice p1 (l.drop a).length k1] wr fun e w' => e = .returned (.tuple #[.string (ofL x), .int .i64 (m : Int), .int .i64 0]) ∧ Upd (fun _ => False) wr w') := Lib.hid WD
          have AR : Hid (res = Lin.arr (v.toNat - (j + 1)) (a + m) (out ++ [x]) (l.drop (a + m))) := by
            have h2 : res = Lin.arr (v.toNat - j - 1) (a + m) (out ++ [x]) ((l.drop a).drop m) := AR.out
            rw [List.drop_drop] at h2
            have e : v.toNat - j - 1 = v.toNat - (j + 1) := by omega
            rw [e] at h2; exact h2
          have hm0 : ((m : Int) == 0) = false := by rw [beq_eq_false_iff_ne]; omega
          have ham : a + m ≤ l.length := by omega
          have HW := Lib.hid hw
          have hjo : out.length ≤ 64 := by have := OT.out.2; omega
          clear hw h1 hld2
          generalize (l.drop a).length = ln at *
          go_wp2_with fail
          refine WD.out.mono ?_
          rintro e w2 ⟨rfl, u2⟩
          have U2 := Lib.hid (upd0 U.out u2)
          obtain ⟨p5, k5, w5, hr1, i5, u5, n5⟩ := txts_app w2 w.heap.size _ out x (OT.out.1.keep0 u2) (by omega) U2.out.size
          have I5 := Lib.hid i5
          have U5 := Lib.hid (upd_own (OT.out.1.keep0 u2) U2.out u5)
          clear u2 i5 u5 n5
          go_wp2_with (at_builtin; refine wpList_builtinN rfl _ _ 23 rfl _ _ rfl rfl hr1 ?_)
          go_roundw
          case rel => exact ⟨j + 1, a + m, out ++ [x], rfl, rfl, rfl, by go_num, ham, by go_num, by omega, AR, Lib.hid ⟨I5.out, by have := OT.out.2; simp; omega⟩, U5⟩
          case measure => simp [intOf]; omega
      · have q1 : ¬ (j : Int) < v := by omega
        have AR : Hid (res = .there out a) := by
          have := AR.out
          have e : v.toNat - j = 0 := by omega
          rw [e, Lin.arr] at this; exact Lib.hid this
        go_wp2
        go_ret3
        exact ⟨pres_there AR.out rfl OT.out.1, U.out⟩
end Go.Proofs.YtkemjjhmabemiaaDoor
