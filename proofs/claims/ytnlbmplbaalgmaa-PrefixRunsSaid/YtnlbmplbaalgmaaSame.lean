/- Walks: the same texts? the same numbers? -/
import Derived.Test.YtnlbmplbaalgmaaOwn
import Derived.Test.YtnlbmplbaalgmaaRowOf
set_option linter.unusedVariables false
set_option linter.unusedSimpArgs false
namespace Go.Proofs.Ytnlbmplbaalgmaa
open Go.RowKit

def intc (n : Int) : List Value := [.int .i64 n]
theorem own_row {α : Type} {enc : α → Value} {w : World} {base : Nat} {e : TypeId} {v : Value} {l : List α} (h : w.ownsRow base e 1 v l.length (l.map enc)) : RowOf (fun a => [enc a]) 1 w v l := by
  rcases h.2 with ⟨rfl, hn⟩ | ⟨g, cap, cur, rfl, hg, hb, h1, h2, h3, h4⟩
  · exact Or.inl ⟨none, 0, rfl, by cases l <;> simp_all⟩
  · refine Or.inr ⟨g, 0, cap, rfl, (Array.getElem?_eq_some_iff.1 hb).1, by omega, fun i a hi j hj => ?_⟩
    obtain rfl : j = 0 := by omega
    have hil : i < l.length := (List.getElem?_eq_some_iff.1 hi).1
    have e1 : (cur.toList.take (l.length * 1))[i]? = (l.map enc)[i]? := by rw [h4]
    rw [List.getElem?_take, if_pos (by omega), Array.getElem?_toList, List.getElem?_map, hi] at e1
    have e : (0 + (i * 1 + 0)) = i := by omega
    rw [e]
    simp only [World.cell?, hb, Option.isSome_none, Bool.false_eq_true, if_false]
    rw [e1]; rfl
theorem StrsAt.row {w : World} {base : Nat} {v : Value} {l : List ByteArray} (h : StrsAt w base v l) : RowOf strc 1 w v l := own_row h
theorem IntsAt.row {w : World} {base : Nat} {v : Value} {l : List Int} (h : IntsAt w base v l) : RowOf intc 1 w v l := own_row h

set_option maxHeartbeats 1000000 in
theorem same06_any (v1 v2 : Value) (l1 l2 : List ByteArray) (w : World) (h1 : RowOf strc 1 w v1 l1) (h2 : RowOf strc 1 w v2 l2) :
    Calls Try.prog 38 #[v1, v2] w fun e w' => e = .returned (.bool (decide (l1 = l2))) ∧ ∃ n, w' = w.drewN n := by
  obtain ⟨p1, k1, rfl, b1⟩ := h1.len
  obtain ⟨p2, k2, rfl, b2⟩ := h2.len
  unfold maxLen at b1 b2
  have H1 := Lib.hid h1
  have H2 := Lib.hid h2
  clear h1 h2
  by_cases hl : l1.length = l2.length
  · have hne : ((l1.length : Int) != (l2.length : Int)) = false := by simp [hl]
    have HL := Lib.hid hl
    clear hl
    go_enter Try.func38, Try.ntmps38
    go_wp2
    go_loopw [13] (fun c wr => ∃ k : Nat, k ≤ l1.length ∧ c = .int .i64 (k : Int) ∧ Hid (l1.take k = l2.take k) ∧ Hid (∃ n, wr = w.drewN n)) (fun c _ => l1.length - (intOf c).toNat)
    case atStart => exact ⟨0, by omega, rfl, by show l1.take 0 = l2.take 0; simp, 0, rfl⟩
    case round =>
      obtain ⟨k, hk, rfl, T, W⟩ := hrel
      by_cases hlt : k < l1.length
      · have hl := HL.out
        obtain ⟨x, hx⟩ : ∃ x, l1[k]? = some x := ⟨_, List.getElem?_eq_getElem hlt⟩
        obtain ⟨y, hy⟩ : ∃ y, l2[k]? = some y := ⟨_, List.getElem?_eq_getElem (by omega : k < l2.length)⟩
        have hlt2 : k < l2.length := by omega
        obtain ⟨g1, o1, q1, e1, _, _, c1⟩ : ∃ b off cap, Value.slice p1 l1.length k1 = .slice (some ⟨b, off, none⟩) l1.length cap ∧ b < w.heap.size ∧ l1.length ≤ maxLen ∧ ∀ i a, l1[i]? = some a → ∀ j, j < 1 → w.cell? ⟨b, off + (i * 1 + j), none⟩ = (strc a)[j]? := by
          rcases H1.out with ⟨_, _, _, e⟩ | h
          · rw [e] at hlt; simp at hlt
          · exact h
        obtain ⟨g2, o2, q2, e2, _, _, c2⟩ : ∃ b off cap, Value.slice p2 l2.length k2 = .slice (some ⟨b, off, none⟩) l2.length cap ∧ b < w.heap.size ∧ l2.length ≤ maxLen ∧ ∀ i a, l2[i]? = some a → ∀ j, j < 1 → w.cell? ⟨b, off + (i * 1 + j), none⟩ = (strc a)[j]? := by
          rcases H2.out with ⟨_, _, _, e⟩ | h
          · rw [e] at hlt2; simp at hlt2
          · exact h
        have d1 : w.cell? ⟨g1, o1 + k, none⟩ = some (.string x) := by have := c1 k x hx 0 (by omega); simpa [strc] using this
        have d2 : w.cell? ⟨g2, o2 + k, none⟩ = some (.string y) := by have := c2 k y hy 0 (by omega); simpa [strc] using this
        simp only [Value.slice.injEq] at e1 e2
        obtain ⟨rfl, _, rfl⟩ := e1
        obtain ⟨rfl, _, rfl⟩ := e2
        obtain ⟨n0, rfl⟩ := W.out
        have HX : Hid (l1.take (k + 1) = l1.take k ++ [x] ∧ l2.take (k + 1) = l2.take k ++ [y]) := by
          obtain ⟨_, r1⟩ := List.getElem?_eq_some_iff.1 hx
          obtain ⟨_, r2⟩ := List.getElem?_eq_some_iff.1 hy
          exact ⟨by rw [List.take_succ_eq_append_getElem hlt, r1], by rw [List.take_succ_eq_append_getElem hlt2, r2]⟩
        clear c1 c2 hx hy hl
        go_wp2
        go_quiet (fail)
        go_wp2
        · have t : (x.toList != y.toList) = true := by assumption
          have hxy : x ≠ y := by rintro rfl; simp at t
          go_ret
          refine ⟨ret_bool ?_, n0 + nq, World.drewN_drewN _ _ _⟩
          have : l1 ≠ l2 := by
            rintro rfl
            have := HX.out.1.symm.trans HX.out.2
            simp at this
            exact hxy this
          simp [this]
        · have t : (x.toList != y.toList) = false := by assumption
          have hxy : x = y := toList_eq (by simpa using t)
          go_roundw
          case rel =>
            refine ⟨k + 1, by omega, rfl, ?_, n0 + nq, rfl⟩
            show l1.take (k + 1) = l2.take (k + 1)
            rw [HX.out.1, HX.out.2, T.out, hxy]
          case measure => simp [intOf]; omega
      · have hk2 : k = l1.length := by omega
        subst hk2
        go_wp2
        go_ret
        refine ⟨ret_bool ?_, W.out⟩
        have := T.out
        rw [List.take_length, HL.out, List.take_length] at this
        simp [this]
  · have hne : ((l1.length : Int) != (l2.length : Int)) = true := by rw [bne_iff_ne]; omega
    have HL := Lib.hid hl
    clear hl
    go_enter Try.func38, Try.ntmps38
    go_wp2
    go_ret
    refine ⟨ret_bool ?_, 0, rfl⟩
    have : l1 ≠ l2 := fun e => HL.out (by rw [e])
    simp [this]

set_option maxHeartbeats 1000000 in
theorem same14_any (v1 v2 : Value) (l1 l2 : List Int) (w : World) (h1 : RowOf intc 1 w v1 l1) (h2 : RowOf intc 1 w v2 l2) :
    Calls Try.prog 32 #[v1, v2] w fun e w' => e = .returned (.bool (decide (l1 = l2))) ∧ ∃ n, w' = w.drewN n := by
  obtain ⟨p1, k1, rfl, b1⟩ := h1.len
  obtain ⟨p2, k2, rfl, b2⟩ := h2.len
  unfold maxLen at b1 b2
  have H1 := Lib.hid h1
  have H2 := Lib.hid h2
  clear h1 h2
  by_cases hl : l1.length = l2.length
  · have hne : ((l1.length : Int) != (l2.length : Int)) = false := by simp [hl]
    have HL := Lib.hid hl
    clear hl
    go_enter Try.func32, Try.ntmps32
    go_wp2
    go_loopw [13] (fun c wr => ∃ k : Nat, k ≤ l1.length ∧ c = .int .i64 (k : Int) ∧ Hid (l1.take k = l2.take k) ∧ Hid (∃ n, wr = w.drewN n)) (fun c _ => l1.length - (intOf c).toNat)
    case atStart => exact ⟨0, by omega, rfl, by show l1.take 0 = l2.take 0; simp, 0, rfl⟩
    case round =>
      obtain ⟨k, hk, rfl, T, W⟩ := hrel
      by_cases hlt : k < l1.length
      · have hl := HL.out
        obtain ⟨x, hx⟩ : ∃ x, l1[k]? = some x := ⟨_, List.getElem?_eq_getElem hlt⟩
        obtain ⟨y, hy⟩ : ∃ y, l2[k]? = some y := ⟨_, List.getElem?_eq_getElem (by omega : k < l2.length)⟩
        have hlt2 : k < l2.length := by omega
        obtain ⟨g1, o1, q1, e1, _, _, c1⟩ : ∃ b off cap, Value.slice p1 l1.length k1 = .slice (some ⟨b, off, none⟩) l1.length cap ∧ b < w.heap.size ∧ l1.length ≤ maxLen ∧ ∀ i a, l1[i]? = some a → ∀ j, j < 1 → w.cell? ⟨b, off + (i * 1 + j), none⟩ = (intc a)[j]? := by
          rcases H1.out with ⟨_, _, _, e⟩ | h
          · rw [e] at hlt; simp at hlt
          · exact h
        obtain ⟨g2, o2, q2, e2, _, _, c2⟩ : ∃ b off cap, Value.slice p2 l2.length k2 = .slice (some ⟨b, off, none⟩) l2.length cap ∧ b < w.heap.size ∧ l2.length ≤ maxLen ∧ ∀ i a, l2[i]? = some a → ∀ j, j < 1 → w.cell? ⟨b, off + (i * 1 + j), none⟩ = (intc a)[j]? := by
          rcases H2.out with ⟨_, _, _, e⟩ | h
          · rw [e] at hlt2; simp at hlt2
          · exact h
        have d1 : w.cell? ⟨g1, o1 + k, none⟩ = some (.int .i64 x) := by have := c1 k x hx 0 (by omega); simpa [intc] using this
        have d2 : w.cell? ⟨g2, o2 + k, none⟩ = some (.int .i64 y) := by have := c2 k y hy 0 (by omega); simpa [intc] using this
        simp only [Value.slice.injEq] at e1 e2
        obtain ⟨rfl, _, rfl⟩ := e1
        obtain ⟨rfl, _, rfl⟩ := e2
        obtain ⟨n0, rfl⟩ := W.out
        have HX : Hid (l1.take (k + 1) = l1.take k ++ [x] ∧ l2.take (k + 1) = l2.take k ++ [y]) := by
          obtain ⟨_, r1⟩ := List.getElem?_eq_some_iff.1 hx
          obtain ⟨_, r2⟩ := List.getElem?_eq_some_iff.1 hy
          exact ⟨by rw [List.take_succ_eq_append_getElem hlt, r1], by rw [List.take_succ_eq_append_getElem hlt2, r2]⟩
        clear c1 c2 hx hy hl
        go_wp2
        go_quiet (fail)
        go_wp2
        · have t : (x != y) = true := by assumption
          have hxy : x ≠ y := by rintro rfl; simp at t
          go_ret
          refine ⟨ret_bool ?_, n0 + nq, World.drewN_drewN _ _ _⟩
          have : l1 ≠ l2 := by
            rintro rfl
            have := HX.out.1.symm.trans HX.out.2
            simp at this
            exact hxy this
          simp [this]
        · have t : (x != y) = false := by assumption
          have hxy : x = y := by simpa using t
          go_roundw
          case rel =>
            refine ⟨k + 1, by omega, rfl, ?_, n0 + nq, rfl⟩
            show l1.take (k + 1) = l2.take (k + 1)
            rw [HX.out.1, HX.out.2, T.out, hxy]
          case measure => simp [intOf]; omega
      · have hk2 : k = l1.length := by omega
        subst hk2
        go_wp2
        go_ret
        refine ⟨ret_bool ?_, W.out⟩
        have := T.out
        rw [List.take_length, HL.out, List.take_length] at this
        simp [this]
  · have hne : ((l1.length : Int) != (l2.length : Int)) = true := by rw [bne_iff_ne]; omega
    have HL := Lib.hid hl
    clear hl
    go_enter Try.func32, Try.ntmps32
    go_wp2
    go_ret
    refine ⟨ret_bool ?_, 0, rfl⟩
    have : l1 ≠ l2 := fun e => HL.out (by rw [e])
    simp [this]
end Go.Proofs.Ytnlbmplbaalgmaa
