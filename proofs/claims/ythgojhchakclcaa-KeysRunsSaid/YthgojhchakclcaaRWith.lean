/- The document's rows of numbers: With. -/
import Derived.Test.YthgojhchakclcaaSame
import Derived.Test.YthgojhchakclcaaKeyD
import Derived.Test.YthgojhchakclcaaRowN
set_option linter.unusedVariables false
set_option linter.unusedSimpArgs false
namespace Go.Proofs.Ythgojhchakclcaa
open Go.RowKit

theorem flat_one {α : Type} (g : α → Value) : ∀ l : List α, flat (fun a => [g a]) l = l.map g
  | [] => rfl
  | a :: l => by show [g a] ++ flat (fun a => [g a]) l = _; rw [flat_one g l]; rfl
theorem IntsAt.own {w : World} {base : Nat} {v : Value} {l : List Int} : IntsAt w base v l ↔ OwnN intc 1 3 w base v l := by
  unfold IntsAt OwnN intc; rw [flat_one]
theorem StrsAt.own {w : World} {base : Nat} {v : Value} {l : List ByteArray} : StrsAt w base v l ↔ OwnN strc 1 9 w base v l := by
  unfold StrsAt OwnN strc; rw [flat_one]
theorem own_ge {α : Type} {f : α → List Value} {k : Nat} {e : TypeId} {w : World} {base : Nat} {v : Value} {l : List α} (h : OwnN f k e w base v l) {w' : World} (u : Upd (fun b => v.ownBlock = some b) w w') : Upd (fun b => base ≤ b) w w' :=
  u.weaken (fun b _ hb => (h.lt hb).1)
theorem ints_none (w : World) : IntsAt (w.alloc (.cells #[] 3)) w.heap.size (.slice (some ⟨w.heap.size, 0, none⟩) 0 0) [] := IntsAt.own.2 (OwnN.made w _)
theorem strs_none (w : World) : StrsAt (w.alloc (.cells #[] 9)) w.heap.size (.slice (some ⟨w.heap.size, 0, none⟩) 0 0) [] := StrsAt.own.2 (OwnN.made w _)
/-- A number more, at a row of the call's own. -/
theorem ints_app (w : World) (base : Nat) (v : Value) (l : List Int) (n : Int) (h : IntsAt w base v l) (hl : l.length ≤ 1000000) (hb : base ≤ w.heap.size) :
    ∃ p c w', (Builtin.append_ #[29, 29] 29 #[v, .slice (some ⟨w.heap.size, 0, none⟩) 1 1]).run Try.prog (w.alloc (.cells #[.int .i64 n] 3)) = .ok (.slice p (l.length + 1) c) w' ∧ IntsAt w' base (.slice p (l.length + 1) c) (l ++ [n]) ∧ Upd (fun k => base ≤ k) w w' := by
  obtain ⟨i0, hi0, hz0, hz1, hz2⟩ := info_parts int_info
  have u0 : Upd (fun _ => False) w (w.alloc (.cells #[.int .i64 n] 3)) := (Upd.refl _ _).alloc _
  have h1 := (IntsAt.own.1 h).keep0 u0
  obtain ⟨v', w', a, b, c, d⟩ := OwnN.append (P := Try.prog) 29 29 i0 (.int .i64 0) 8 Try.underlying29 hi0 hz0 hz1 hz2 rfl (by decide) (fun _ => rfl) (fun _ _ => fun u hu => by simp [intc] at hu; subst hu; rfl) h1 (RowOf.lit w n [.int .i64 n] _ rfl rfl) (by unfold maxLen; simp; omega) (by simp; omega) (Nat.le_trans hb u0.size)
  obtain ⟨p, k, e, _⟩ := b.slice
  rw [List.length_append, List.length_singleton] at e
  subst e
  exact ⟨p, k, w', a, IntsAt.own.2 b, (u0.weaken (F := fun k => base ≤ k) (fun _ _ h => h.elim)).trans c (fun k _ hk => (h1.lt hk).1)⟩
theorem strs_app (w : World) (base : Nat) (v : Value) (l : List ByteArray) (t : ByteArray) (h : StrsAt w base v l) (hl : l.length ≤ 1000000) (hb : base ≤ w.heap.size) :
    ∃ p c w', (Builtin.append_ #[52, 52] 52 #[v, .slice (some ⟨w.heap.size, 0, none⟩) 1 1]).run Try.prog (w.alloc (.cells #[.string t] 9)) = .ok (.slice p (l.length + 1) c) w' ∧ StrsAt w' base (.slice p (l.length + 1) c) (l ++ [t]) ∧ Upd (fun k => base ≤ k) w w' := by
  obtain ⟨i0, hi0, hz0, hz1, hz2⟩ := info_parts string_info
  have u0 : Upd (fun _ => False) w (w.alloc (.cells #[.string t] 9)) := (Upd.refl _ _).alloc _
  have h1 := (StrsAt.own.1 h).keep0 u0
  obtain ⟨v', w', a, b, c, d⟩ := OwnN.append (P := Try.prog) 52 52 i0 (.string ByteArray.empty) 16 Try.underlying52 hi0 hz0 hz1 hz2 rfl (by decide) (fun _ => rfl) (fun _ _ => fun u hu => by simp [strc] at hu; subst hu; rfl) h1 (RowOf.lit w t [.string t] _ rfl rfl) (by unfold maxLen; simp; omega) (by simp; omega) (Nat.le_trans hb u0.size)
  obtain ⟨p, k, e, _⟩ := b.slice
  rw [List.length_append, List.length_singleton] at e
  subst e
  exact ⟨p, k, w', a, StrsAt.own.2 b, (u0.weaken (F := fun k => base ≤ k) (fun _ _ h => h.elim)).trans c (fun k _ hk => (h1.lt hk).1)⟩
theorem int_rcell {w : World} {p : Option Addr} {c : Nat} {l : List Int} (h : RowOf intc 1 w (.slice p l.length c) l) {k : Nat} (hk : k < l.length) :
    ∃ b off, p = some ⟨b, off, none⟩ ∧ b < w.heap.size ∧ w.cell? ⟨b, off + k, none⟩ = some (.int .i64 l[k]) := by
  rcases h with ⟨_, _, _, e⟩ | ⟨b, off, c, e, hb, _, hc⟩
  · rw [e] at hk; simp at hk
  · simp only [Value.slice.injEq] at e
    refine ⟨b, off, e.1, hb, ?_⟩
    have := hc k _ (List.getElem?_eq_getElem hk) 0 (by omega); simpa [intc] using this
/-- With, so far. -/
def RW (n : Int) (t : List Int) (pl : Bool) (acc : List Int) : Prop :=
  (pl = false ∧ acc = t ∧ ∀ x ∈ t, x < n) ∨ (pl = true ∧ acc = wth t n ∧ ∃ x ∈ t, n ≤ x)
section
variable {n m : Int} {t acc : List Int} {pl : Bool}
theorem no_gt (h : ∀ x ∈ t, x < n) : t.filter (fun x => decide (n < x)) = [] := List.filter_eq_nil_iff.2 (fun x hx => by have := h x hx; simp; omega)
theorem wth_last_eq (h : ∀ x ∈ t, x < n) : wth (t ++ [n]) n = t ++ [n] := by
  unfold wth
  rw [List.filter_append, List.filter_append, List.filter_eq_self.2 (fun x hx => decide_eq_true (h x hx)), no_gt h]
  simp
theorem wth_last_gt (h : ∀ x ∈ t, x < n) (hm : n < m) : wth (t ++ [m]) n = t ++ [n] ++ [m] := by
  unfold wth
  rw [List.filter_append, List.filter_append, List.filter_eq_self.2 (fun x hx => decide_eq_true (h x hx)), no_gt h]
  have : ¬ m < n := by omega
  simp [this, hm]
theorem wth_on (hm : n < m) : wth (t ++ [m]) n = wth t n ++ [m] := by
  unfold wth
  rw [List.filter_append, List.filter_append]
  have : ¬ m < n := by omega
  simp [this, hm]
theorem wth_all (h : ∀ x ∈ t, x < n) : wth t n = t ++ [n] := by
  unfold wth
  rw [List.filter_eq_self.2 (fun x hx => decide_eq_true (h x hx)), no_gt h]
theorem RW.len (h : RW n t pl acc) : acc.length ≤ t.length + 1 := by
  rcases h with ⟨_, rfl, _⟩ | ⟨_, rfl, _⟩
  · omega
  · exact wth_len _ _
end
set_option maxHeartbeats 8000000 in
set_option maxRecDepth 100000 in
theorem rwith_any (v : Value) (l : List Int) (n : Int) (w : World) (h : RowOf intc 1 w v l) (hr : Rising l) (hl : l.length ≤ 100000) :
    Calls Try.prog 34 #[v, .int .i64 n] w fun e w' => ∃ v', e = .returned v' ∧ IntsAt w' w.heap.size v' (wth l n) ∧ Upd (fun _ => False) w w' := by
  obtain ⟨p, c, ev, hm⟩ := h.len
  subst ev
  have H := Lib.hid h
  have HR := Lib.hid hr
  have MO := Lib.hid (ints_none w)
  have UO : Hid (Upd (fun _ => False) w (w.alloc (.cells #[] 3))) := (Upd.refl _ _).alloc _
  clear h hr
  go_enter Try.func34, Try.ntmps34
  go_wp2
  go_loopw [5, 6, 12] (fun out x6 xi wr => ∃ (k : Nat) (pl : Bool) (acc : List Int), k ≤ l.length ∧ x6 = .bool pl ∧ xi = .int .i64 (k : Int) ∧ Hid (RW n (l.take k) pl acc) ∧ Hid (IntsAt wr w.heap.size out acc) ∧ Hid (Upd (fun _ => False) w wr)) (fun _ _ xi _ => l.length - (intOf xi).toNat)
  case atStart => exact ⟨0, false, [], by omega, rfl, rfl, Lib.hid (Or.inl ⟨rfl, rfl, fun x hx => by simp at hx⟩), MO, UO⟩
  case round =>
    clear MO UO
    obtain ⟨k, pl, acc, hk, rfl, rfl, RR, OW, U⟩ := hrel
    have hwl := U.out.size
    have hal : acc.length ≤ 100001 := by have := RR.out.len; rw [List.length_take] at this; omega
    obtain ⟨po, co, eo, _⟩ := own_slice OW.out
    subst eo
    by_cases hlt : k < l.length
    · have q1 : (k : Int) < (l.length : Int) := by omega
      obtain ⟨b, off, ep, hb, c0⟩ := int_rcell (H.out.keep U.out (fun _ _ _ h => h)) hlt
      subst ep
      have TK := Lib.hid (List.take_succ_eq_append_getElem hlt)
      have RISE : Hid (∀ a ∈ l.take k, a < l[k]) := fun a ha => by
        obtain ⟨i, hi, e⟩ := List.getElem_of_mem ha
        rw [List.length_take] at hi
        rw [List.getElem_take] at e
        have := List.pairwise_iff_getElem.1 HR.out i k (by omega) hlt (by omega)
        rw [e] at this; exact this
      obtain ⟨x, hx⟩ : ∃ x, x = l[k] := ⟨_, rfl⟩
      rw [← hx] at c0 TK RISE
      clear hx
      obtain ⟨p1, c1, w1, hr1, I1, U1⟩ := ints_app wr w.heap.size _ acc x OW.out (by omega) hwl
      rcases RR.out with ⟨rfl, h2, h3⟩ | ⟨rfl, h2, y, hy, hny⟩
      · by_cases hxn : x < n
        · have q2 : ¬ n ≤ x := by omega
          have q3 : (x != n) = true := by rw [bne_iff_ne]; omega
          have R0 : Hid (acc = l.take k ∧ ∀ x ∈ l.take k, x < n) := ⟨h2, h3⟩
          clear h2 h3 RR
          have RN : Hid (RW n (l.take (k + 1)) false (acc ++ [x])) := by
            show RW _ _ _ _
            rw [TK.out]
            exact Or.inl ⟨rfl, by rw [R0.out.1], fun y hy => (List.mem_append.1 hy).elim (R0.out.2 y) (fun h => by rw [List.mem_singleton.1 h]; exact hxn)⟩
          have UF : Hid (Upd (fun _ => False) w w1) := U.out.trans U1 (fun q hq e => by omega)
          have I1 := Lib.hid I1
          clear U1
          generalize acc.length + 1 = na at *
          generalize acc.length = nb at *
          generalize hnl : l.length = nl at *
          go_wp2_with (at_builtin; refine wpList_builtinN rfl _ _ 29 rfl _ _ rfl rfl hr1 ?_)
          go_roundw
          case rel => exact ⟨k + 1, _, _, by omega, rfl, by simp, RN, I1, UF⟩
          case measure => simp [intOf]; omega
        · have q2 : n ≤ x := by omega
          have R0 : Hid (acc = l.take k ∧ ∀ x ∈ l.take k, x < n) := ⟨h2, h3⟩
          obtain ⟨p1, c1, w1, hr1, I1, U1⟩ := ints_app wr w.heap.size _ acc n OW.out (by omega) hwl
          have UF : Hid (Upd (fun _ => False) w w1) := U.out.trans U1 (fun q hq e => by omega)
          by_cases hxe : x = n
          · have q3 : (x != n) = false := by rw [hxe]; simp
            have RN : Hid (RW n (l.take (k + 1)) true (acc ++ [n])) := by
              show RW _ _ _ _
              rw [TK.out, hxe]
              exact Or.inr ⟨rfl, by rw [wth_last_eq R0.out.2, R0.out.1], n, by simp, Int.le_refl _⟩
            have I1 := Lib.hid I1
            clear U1 h2 h3 RR hxe
            generalize acc.length + 1 = na at *
            generalize acc.length = nb at *
            generalize hnl : l.length = nl at *
            go_wp2_with (at_builtin; refine wpList_builtinN rfl _ _ 29 rfl _ _ rfl rfl hr1 ?_)
            go_roundw
            case rel => exact ⟨k + 1, _, _, by omega, rfl, by simp, RN, I1, UF⟩
            case measure => simp [intOf]; omega
          · have q3 : (x != n) = true := by rw [bne_iff_ne]; exact hxe
            have RN : Hid (RW n (l.take (k + 1)) true (acc ++ [n] ++ [x])) := by
              show RW _ _ _ _
              rw [TK.out]
              exact Or.inr ⟨rfl, by rw [wth_last_gt R0.out.2 (by omega), R0.out.1], x, by simp, by omega⟩
            obtain ⟨p2, c2, w2, hr2, I2, U2⟩ := ints_app w1 w.heap.size _ (acc ++ [n]) x I1 (by simp; omega) (Nat.le_trans hwl U1.size)
            have UF2 : Hid (Upd (fun _ => False) w w2) := UF.out.trans U2 (fun q hq e => by omega)
            have I2 := Lib.hid I2
            rw [List.length_append, List.length_singleton] at hr2 I2
            clear U1 U2 h2 h3 RR hxe I1 UF
            generalize acc.length + 1 = na at *
            generalize acc.length = nb at *
            generalize hnl : l.length = nl at *
            go_wp2_with (first | (at_builtin; refine wpList_builtinN rfl _ _ 29 rfl _ _ rfl rfl hr1 ?_) | (at_builtin; refine wpList_builtinN rfl _ _ 29 rfl _ _ rfl rfl hr2 ?_))
            go_roundw
            case rel => exact ⟨k + 1, _, _, by omega, rfl, by simp, RN, I2, UF2⟩
            case measure => simp [intOf]; omega
      · have hyx := RISE.out y hy
        have q2 : n ≤ x := by omega
        have q3 : (x != n) = true := by rw [bne_iff_ne]; omega
        have R0 : Hid (acc = wth (l.take k) n ∧ y ∈ l.take k ∧ n ≤ y ∧ n < x) := ⟨h2, hy, hny, by omega⟩
        clear h2 hy hny hyx RR
        have RN : Hid (RW n (l.take (k + 1)) true (acc ++ [x])) := by
          show RW _ _ _ _
          rw [TK.out]
          exact Or.inr ⟨rfl, by rw [wth_on R0.out.2.2.2, R0.out.1], y, List.mem_append_left _ R0.out.2.1, R0.out.2.2.1⟩
        have UF : Hid (Upd (fun _ => False) w w1) := U.out.trans U1 (fun q hq e => by omega)
        have I1 := Lib.hid I1
        clear U1
        generalize acc.length + 1 = na at *
        generalize acc.length = nb at *
        generalize hnl : l.length = nl at *
        go_wp2_with (at_builtin; refine wpList_builtinN rfl _ _ 29 rfl _ _ rfl rfl hr1 ?_)
        go_roundw
        case rel => exact ⟨k + 1, _, _, by omega, rfl, by simp, RN, I1, UF⟩
        case measure => simp [intOf]; omega
    · have q1 : ¬ (k : Int) < (l.length : Int) := by omega
      have RL := RR.out
      rw [List.take_of_length_le (by omega)] at RL
      rcases RL with ⟨rfl, h2, h3⟩ | ⟨rfl, h2, _⟩
      · have EA : Hid (acc ++ [n] = wth l n) := by show _ = _; rw [wth_all h3, h2]
        obtain ⟨p1, c1, w1, hr1, I1, U1⟩ := ints_app wr w.heap.size _ acc n OW.out (by omega) hwl
        rw [EA.out] at I1
        have UF : Hid (Upd (fun _ => False) w w1) := U.out.trans U1 (fun q hq e => by omega)
        have I1 := Lib.hid I1
        clear U1 h2 h3 RR
        generalize acc.length + 1 = na at *
        generalize acc.length = nb at *
        generalize hnl : l.length = nl at *
        go_wp2_with (at_builtin; refine wpList_builtinN rfl _ _ 29 rfl _ _ rfl rfl hr1 ?_)
        go_ret
        exact ⟨_, rfl, I1.out, UF.out⟩
      · have I1 : Hid (IntsAt wr w.heap.size (.slice po acc.length co) (wth l n)) := by rw [← h2]; exact OW
        clear h2 RR
        generalize acc.length = nb at *
        generalize hnl : l.length = nl at *
        go_wp2
        go_ret
        exact ⟨_, rfl, I1.out, U.out⟩
end Go.Proofs.Ythgojhchakclcaa
