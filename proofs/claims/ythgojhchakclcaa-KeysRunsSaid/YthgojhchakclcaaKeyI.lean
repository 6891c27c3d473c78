/- Walks: Ids; a client's number struck from a row. -/
import Derived.Test.YthgojhchakclcaaKeyH
set_option linter.unusedVariables false
set_option linter.unusedSimpArgs false
namespace Go.Proofs.Ythgojhchakclcaa
open Go.RowKit Go.Shelf Go.Sort

theorem clone_any (base : Nat) (v : Value) (xs : List Int) (w : World) (h : IntsAt w base v xs) (hl : xs.length ≤ 1000000) :
    Calls Try.prog 33 #[v] w fun e w' => ∃ v', e = .returned v' ∧ IntsAt w' w.heap.size v' xs ∧ Upd (fun _ => False) w w' := by
  rcases ints_blk h with ⟨rfl, rfl⟩ | ⟨b, cap, cs, rfl, _, hB, hc, hm⟩
  · exact (Try.slices_Clone_int_nil 0 0 w).mono fun e w' ⟨h1, h2⟩ => ⟨_, h1, World.ownsRow_nil _ _ _ _, by rw [h2]; exact Upd.refl _ _⟩
  · refine (Try.slices_Clone_int b 0 xs.length cap xs w (Nat.le_refl _) (by omega) (fun j hj => ?_)).mono ?_
    · rw [Nat.zero_add]
      refine hB.cellAt ?_
      rw [List.getElem?_append_left (by simpa using hj)]
      simp [hj]
    · rintro e w' ⟨v', rfl, h2, _, hb⟩
      rw [List.take_length] at h2
      exact ⟨v', rfl, h2, (Upd.of_below hb).weaken fun i hi h2 => by omega⟩
theorem kids_any (base kb : Nat) (most : Int) (L : Rows14) (n : Nat) (E : Nat → Prop) (key : ByteArray) (w : World) (h : KAt w base kb most L n E) (hn : n ≤ 100000) :
    Calls Try.prog 11 #[.pointer (some ⟨kb, 0, none⟩), .string key] w fun e w' => ∃ v, e = .returned v ∧ IntsAt w' w.heap.size v ((aget L key).getD []) ∧ Upd (fun _ => False) w w' := by
  obtain ⟨rb, rows, reads, F, R, rv, Q, iv, im, h, hD, hI, rfl⟩ := h
  have c1 : w.cell? ⟨kb, 1, none⟩ = some (.map (some rows)) := h.blk.cellAt rfl
  have lk := h.rowLook key
  have hra := h.rowAt key
  have hl : ((aget L key).getD []).length ≤ 1000000 := by
    cases hk : aget L key with
    | none => simp
    | some l => have := (hI.rise key l hk).2.2; simp; omega
  obtain ⟨p, c, ev, _⟩ := own_slice hra
  rw [ev] at lk
  have C := Lib.hid (clone_any base _ _ w hra hl)
  rw [ev] at C
  clear h hra ev hD
  go_enter Try.func11, Try.ntmps11
  go_wp2_with fail
  refine (C.out).mono ?_
  rintro e w1 ⟨v, rfl, h2, u2⟩
  have H2 := Lib.hid h2
  have U2 := Lib.hid u2
  clear h2 u2 C
  obtain ⟨p4, c4, e4, _⟩ := own_slice H2.out
  subst e4
  go_wp2
  go_ret
  exact ⟨_, rfl, H2.out, U2.out⟩

/-- The closure of Drop. -/
theorem isid_any (id x : Int) (B : Nat) (W : World) (hc : W.cell? ⟨B, 0, none⟩ = some (.int .i64 id)) :
    FnGives Try.prog 31 #[.pointer (some ⟨B, 0, none⟩)] #[.int .i64 x] (.bool (decide (x = id))) W := by
  show Calls Try.prog 31 #[.int .i64 x, .pointer (some ⟨B, 0, none⟩)] W _
  go_enter Try.func31, Try.ntmps31
  go_wp2
  all_goals (go_ret; exact ⟨ret_bool (by rfl), 0, rfl⟩)
theorem int_zero (w : World) : (zeroValue 3).run Try.prog w = .ok (.int .i64 0) w := by rfl
/-- slices.DeleteFunc of a row of the call's own, without one number. -/
theorem delf_any (base B : Nat) (v : Value) (xs : List Int) (id : Int) (w : World) (h : IntsAt w base v xs) (hv : v ≠ .slice none 0 0) (hl : xs.length ≤ 1000000) (hB : B < w.heap.size) (hc : w.cell? ⟨B, 0, none⟩ = some (.int .i64 id)) (hne : v.ownBlock ≠ some B) :
    Calls Try.prog 30 #[v, .func (.func 31) #[] #[.pointer (some ⟨B, 0, none⟩)]] w fun e w' => ∃ v', e = .returned v' ∧ IntsAt w' base v' (xs.filter (· ≠ id)) ∧ v'.ownBlock = v.ownBlock ∧ Upd (fun k => v.ownBlock = some k) w w' := by
  have eg : ∀ args w, (callFunc 31 args).run Try.prog w = .ok (.enter 31 args) w := enters_of Try.func31 (by kernel_rfl) rfl
  obtain ⟨g, cap, rfl, hbg, hg, hnc, hcm, _, hH⟩ := Lib.holds_of_ownsRow h hv
  have hgB : B ≠ g := fun e => hne (by rw [e]; rfl)
  have hx : (xs.toArray).toList = xs := rfl
  have hle : (xs.filter fun x => !decide (x = id)).length ≤ xs.length := List.length_filter_le _ _
  refine (Try.slices_DeleteFunc (Value.int .i64) (fun _ => rfl) (fun x => decide (x = id)) 31 #[.pointer (some ⟨B, 0, none⟩)] eg 0 (fun w => int_zero w) g 0 cap xs.toArray w
    (fun W x hb => isid_any id x B W ((hb.cell (p := ⟨B, 0, none⟩) hB).trans hc))
    (fun n os dk x _ => isid_any id x B _ (by
      unfold sortWorld
      rw [cell?_grow _ _ _ (by show B < (putRow _ _ _ _ _).heap.size; rw [size_putRow]; exact hB), cell?_putRow_other _ _ g 0 _ _ (Or.inl hgB)]
      exact hc)) hH (by simp; omega) (by simpa using hnc)).mono ?_
  rintro e w' ⟨rfl, q, rfl⟩
  have er : (xs.filter fun x => !decide (x = id)) = xs.filter (· ≠ id) := by congr 1; funext x; simp
  have := Lib.ownsRow_putRow (q := q) (k := (xs.filter fun x => !decide (x = id)).length) (ys := (xs.filter fun x => !decide (x = id)) ++ List.replicate (xs.length - (xs.filter fun x => !decide (x = id)).length) 0) h (by simp; omega) hle
  refine ⟨_, rfl, ?_, rfl, ?_⟩
  · rw [List.take_left'] at this
    · rw [er] at this
      show World.ownsRow _ _ _ _ _ _ _
      rw [er]
      simpa [er] using this
    · rfl
  · have ub : ∀ k, k ≠ g → (putRow (Value.int .i64) (Sort.ahead w q) g 0 ((xs.filter fun x => !decide (x = id)) ++ List.replicate (xs.length - (xs.filter fun x => !decide (x = id)).length) 0).toArray).heap[k]? = w.heap[k]? := fun k hk => by
      simp [putRow, mapBlock, Sort.ahead, Array.getElem?_modify, Ne.symm hk]
    exact ⟨rfl, rfl, rfl, by simp [putRow, mapBlock, Sort.ahead], fun k _ hF => ub k (fun e => hF (by rw [e]; rfl))⟩
end Go.Proofs.Ythgojhchakclcaa
