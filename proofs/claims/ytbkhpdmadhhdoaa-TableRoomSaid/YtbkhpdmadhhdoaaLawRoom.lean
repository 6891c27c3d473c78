/- TableRoom, walked. -/
import Derived.Test.YtbkhpdmadhhdoaaTabH
set_option linter.unusedVariables false
set_option linter.unusedSimpArgs false
namespace Go.Proofs.Ytbkhpdmadhhdoaa
open Go.RowKit
open Tbl (Pl findGo home fnv Tab)

/-- A table somewhere, all its blocks new since w. -/
structure Lies (w w' : World) (a : Nat) (t : Tab) (m : Nat) : Prop where
  at' : ∃ bo bf, TabAt w' a bo bf t ∧ ∀ i, tabF a bo bf t i → w.heap.size ≤ i
  inv : t.Inv m
  upd : Upd (fun _ => False) w w'

theorem Lies.to {w w1 w2 : World} {a bo bf m' : Nat} {t t' : Tab} (u : Upd (fun _ => False) w w1) (hn : ∀ i, tabF a bo bf t i → w.heap.size ≤ i) (h : TabTo w1 w2 a bo bf t t') (hi : t'.Inv m') : Lies w w2 a t' m' := by
  obtain ⟨bo', bf', h1, h2, h3⟩ := h
  refine ⟨⟨bo', bf', h1, fun i hi => ?_⟩, hi, u.trans h2 (fun i hi hh => by have := hn i hh; omega)⟩
  rcases h3 i hi with g | g
  · exact hn i g
  · have := u.size; omega
theorem Lies.drewN {w w' : World} {a m : Nat} {t : Tab} (h : Lies w w' a t m) (n : Nat) : Lies w (w'.drewN n) a t m := by
  obtain ⟨bo, bf, h1, h2⟩ := h.at'
  exact ⟨⟨bo, bf, h1.drewN n, h2⟩, h.inv, h.upd.drewN n⟩

theorem lput {w w' : World} {a m : Nat} {t : Tab} (h : Lies w w' a t m) (key : ByteArray) (n : Int) (hm : m ≤ 10000) (hk : key.size ≤ 100000) :
    Calls Try.prog 10 #[.pointer (some ⟨a, 0, none⟩), .string key, .int .i64 n] w' fun e w2 => e = .returned (.bool (t.put key n).2) ∧ Lies w w2 a (t.put key n).1 (m + 1) := by
  obtain ⟨bo, bf, h1, h2⟩ := h.at'
  exact (tput_any m a bo bf t key n w' h1 h.inv hm hk).mono fun e w2 ⟨e1, e2⟩ => ⟨e1, Lies.to h.upd h2 e2 (Tbl.put_inv h.inv key n hk)⟩
theorem ldrop {w w' : World} {a m : Nat} {t : Tab} (h : Lies w w' a t m) (key : ByteArray) (hm : m ≤ 10000) (hk : key.size ≤ 100000) :
    Calls Try.prog 13 #[.pointer (some ⟨a, 0, none⟩), .string key] w' fun e w2 => e = .returned (.tuple #[.int .i64 (t.drop key).2.1, .bool (t.drop key).2.2]) ∧ Lies w w2 a (t.drop key).1 m := by
  obtain ⟨bo, bf, h1, h2⟩ := h.at'
  exact (tdrop_any m a bo bf t key w' h1 h.inv hm hk).mono fun e w2 ⟨e1, e2⟩ => ⟨e1, Lies.to h.upd h2 e2 (Tbl.drop_inv h.inv key)⟩
theorem lget {w w' : World} {a m : Nat} {t : Tab} (h : Lies w w' a t m) (key : ByteArray) (hm : m ≤ 10000) (hk : key.size ≤ 100000) :
    Calls Try.prog 19 #[.pointer (some ⟨a, 0, none⟩), .string key] w' fun e w2 => e = .returned (.tuple #[.int .i64 (t.get key).2.1, .bool (t.get key).2.2]) ∧ Lies w w2 a (t.get key).1 m := by
  obtain ⟨bo, bf, h1, h2⟩ := h.at'
  exact (tget_any m a bo bf t key w' h1 h.inv hm hk).mono fun e w2 ⟨e1, e2⟩ => ⟨e1, Lies.to h.upd h2 e2 (Tbl.step_inv h.inv)⟩
theorem lstep {w w' : World} {a m : Nat} {t : Tab} (h : Lies w w' a t m) (hm : m ≤ 10000) :
    Calls Try.prog 14 #[.pointer (some ⟨a, 0, none⟩)] w' fun e w2 => e = .returned (.tuple #[]) ∧ Lies w w2 a t.step m := by
  obtain ⟨bo, bf, h1, h2⟩ := h.at'
  exact (step_any m a bo bf t w' h1 h.inv hm).mono fun e w2 ⟨e1, e2⟩ => ⟨e1, Lies.to h.upd h2 e2 (Tbl.step_inv h.inv)⟩
theorem lclear {w w' : World} {a m : Nat} {t : Tab} (h : Lies w w' a t m) :
    Calls Try.prog 16 #[.pointer (some ⟨a, 0, none⟩)] w' fun e w2 => e = .returned (.tuple #[]) ∧ Lies w w2 a Tab.new 0 := by
  obtain ⟨bo, bf, h1, h2⟩ := h.at'
  exact (clear_any a bo bf t w' h1).mono fun e w2 ⟨e1, e2⟩ => ⟨e1, Lies.to h.upd h2 e2 (Tbl.inv_new 0)⟩
theorem llen {w w' : World} {a m : Nat} {t : Tab} (h : Lies w w' a t m) (hm : m ≤ 10000) :
    Calls Try.prog 12 #[.pointer (some ⟨a, 0, none⟩)] w' fun e w2 => e = .returned (.int .i64 t.len) ∧ ∃ n, w2 = w'.drewN n := by
  obtain ⟨bo, bf, h1, h2⟩ := h.at'
  have := h.inv.of; have := h.inv.ff; have := h.inv.hi; have := h.inv.hi2
  exact len_any a bo bf t w' h1 (by omega) (by omega) (by omega) (by omega)
theorem lroom {w w' : World} {a m : Nat} {t : Tab} (h : Lies w w' a t m) (hm : m ≤ 10000) :
    Calls Try.prog 11 #[.pointer (some ⟨a, 0, none⟩)] w' fun e w2 => e = .returned (.tuple #[.int .i64 (t.old.pl.length : Int), .int .i64 (t.fresh.pl.length : Int)]) ∧ ∃ n, w2 = w'.drewN n := by
  obtain ⟨bo, bf, h1, h2⟩ := h.at'
  have := h.inv.hi; have := h.inv.hi2
  exact room_any a bo bf t w' h1 (by omega) (by omega)
theorem lnew {w w1 : World} (u : Upd (fun _ => False) w w1) :
    Calls Try.prog 9 #[] w1 fun e w2 => ∃ a, e = .returned (.pointer (some ⟨a, 0, none⟩)) ∧ w1.heap.size ≤ a ∧ Lies w w2 a Tab.new 0 ∧ Lies w1 w2 a Tab.new 0 := by
  refine (new_any w1).mono ?_
  rintro e w2 ⟨a, F, rfl, ⟨bo, bf, h, rfl⟩, u2, hn⟩
  have := u.size
  exact ⟨a, rfl, hn a (Or.inl rfl), ⟨⟨bo, bf, h, fun i hi => by have := hn i hi; omega⟩, Tbl.inv_new 0, u.trans u2 (fun _ _ h => h)⟩, ⟨⟨bo, bf, h, hn⟩, Tbl.inv_new 0, u2⟩⟩

theorem encode_size (n : Int) : (Utf8.encode n).size ≤ 4 := by
  unfold Utf8.encode
  simp only
  generalize (if Utf8.valid n then n.toNat else Utf8.runeError) = c
  split
  · show 1 ≤ 4; omega
  · split
    · show 2 ≤ 4; omega
    · split
      · show 3 ≤ 4; omega
      · show 4 ≤ 4; omega

/-- What Room and Len answer, and how they stand to each other. -/
theorem lboth {w w' : World} {a m : Nat} {t : Tab} (h : Lies w w' a t m) (hm : m ≤ 10000) :
    ∃ (o f : Nat) (l : Int), Hid (Calls Try.prog 11 #[.pointer (some ⟨a, 0, none⟩)] w' fun e w2 => e = .returned (.tuple #[.int .i64 (o : Int), .int .i64 (f : Int)]) ∧ ∃ n, w2 = w'.drewN n) ∧
      Hid (∀ k, Calls Try.prog 12 #[.pointer (some ⟨a, 0, none⟩)] (w'.drewN k) fun e w2 => e = .returned (.int .i64 l) ∧ ∃ n, w2 = (w'.drewN k).drewN n) ∧
      o ≤ 100000 ∧ f ≤ 100000 ∧ 0 ≤ l ∧ ((f = 0 ∧ l < o) ∨ (0 < f ∧ l < o + f)) ∧ Hid (f = 0 ↔ t.moving = false) := by
  refine ⟨t.old.pl.length, t.fresh.pl.length, t.len, lroom h hm, fun k => llen (h.drewN k) hm, ?_⟩
  have h1 := h.inv.of; have h2 := h.inv.ff; have h3 := h.inv.hi; have h4 := h.inv.hi2
  refine ⟨by omega, by omega, by unfold Tab.len; omega, ?_, ?_⟩
  · cases hmv : t.moving
    · have hr := h.inv.rest hmv
      left
      have e : t.fresh.pl.length = 0 := by rw [hr.1]; rfl
      have e2 : t.fresh.full = 0 := by rw [hr.1]; rfl
      unfold Tab.len; omega
    · have hr := h.inv.mv hmv
      right
      unfold Tab.len; omega
  · constructor
    · intro e; cases hmv : t.moving
      · rfl
      · have hr := h.inv.mv hmv; omega
    · intro e; rw [(h.inv.rest e).1]; rfl

set_option maxRecDepth 100000 in
set_option maxHeartbeats 2000000 in
theorem lawRoom (many drops : Int) (w : World) (d1 : -9223372036854775808 ≤ drops) (d2 : drops ≤ 9223372036854775807) :
    Calls Try.prog 4 #[.int .i64 many, .int .i64 drops] w fun e w' => e = .returned (.bool true) ∧ Upd (fun _ => False) w w' := by
  by_cases hout : many < 0 ∨ 300 < many ∨ drops < 0
  · go_enter Try.func4, Try.ntmps4
    go_wp2_with fail
    refine (alive_any w).mono ?_
    rintro e w1 ⟨rfl, u1⟩
    have U1 := Lib.hid u1
    clear u1
    rcases hout with h | h | h
    · have hb : decide (many < 0) = true := by simpa using h
      go_wp2
      go_ret
      exact ⟨rfl, U1.out⟩
    · have hb : decide (many < 0) = false := by simp; omega
      have hb : decide (300 < many) = true := by simpa using h
      go_wp2
      go_ret
      exact ⟨rfl, U1.out⟩
    · go_wp2
      all_goals
        go_ret
        exact ⟨rfl, U1.out⟩
  · obtain ⟨N, rfl⟩ : ∃ N : Nat, many = N := ⟨many.toNat, by omega⟩
    have hN : N ≤ 300 := by omega
    have hd : 0 ≤ drops := by omega
    clear hout d1
    go_enter Try.func4, Try.ntmps4
    go_wp2_with fail
    refine (alive_any w).mono ?_
    rintro e w1 ⟨rfl, u1⟩
    have LN := Lib.hid (lnew u1)
    clear u1
    go_wp2_with fail
    refine LN.out.mono ?_
    rintro e w2 ⟨a, rfl, h0, h1, _⟩
    have H1 := Lib.hid h1
    clear h0 h1 LN
    go_wp2
    go_loopw [6] (fun c wr => ∃ (k : Nat) (t : Tab), k ≤ N ∧ c = .int .i64 (k : Int) ∧ Hid (Lies w wr a t k)) (fun c _ => N - (intOf c).toNat)
    case atStart => exact ⟨0, Tab.new, by omega, rfl, H1⟩
    case round =>
      obtain ⟨k, t, hk, rfl, L⟩ := hrel
      by_cases hlt : k < N
      · have k0 : (0 : Int) ≤ (k : Int) % 26 := by omega
        have k1 : (k : Int) % 26 < 26 := by omega
        have k2 : (0 : Int) ≤ (k : Int) / 26 := by omega
        have k3 : (k : Int) / 26 < 12 := by omega
        clear d2 hd
        obtain ⟨A, hA⟩ : ∃ A, A = Utf8.encode (97 + (k : Int) % 26) := ⟨_, rfl⟩
        obtain ⟨B, hB⟩ : ∃ B, B = Utf8.encode (97 + (k : Int) / 26) := ⟨_, rfl⟩
        have sA : A.size ≤ 4 := by rw [hA]; exact encode_size _
        have sB : B.size ≤ 4 := by rw [hB]; exact encode_size _
        have v1 : ∀ w, (convert 21 9 (.int .i32 (97 + (k : Int) % 26))).run Try.prog w = .ok (.string A) w := fun w => by rw [hA]; exact run_convert_int_string w _ _ _ _ (by kernel_rfl) Try.underlying9
        have v2 : ∀ w, (convert 21 9 (.int .i32 (97 + (k : Int) / 26))).run Try.prog w = .ok (.string B) w := fun w => by rw [hB]; exact run_convert_int_string w _ _ _ _ (by kernel_rfl) Try.underlying9
        have v3 := fun w : World => run_string_add_sum (P := Try.prog) w A B (by omega)
        have sAB : (A ++ B).size ≤ 100000 := by rw [ByteArray.size_append]; omega
        clear hA hB sA sB
        have PU := Lib.hid (lput L.out (A ++ B) (k : Int) (by omega) sAB)
        generalize t.put (A ++ B) (k : Int) = tp at *
        go_wp2_with fail
        refine PU.out.mono ?_
        rintro e w3 ⟨rfl, h3⟩
        have H3 := Lib.hid h3
        obtain ⟨o, f, l, RO, LE, q1, q2, q3, q4, _⟩ := lboth h3 (by omega)
        have DR := Lib.hid (fun n => ldrop (h3.drewN n) (A ++ B) (by omega) sAB)
        have x0 : (0 : Int) ≤ drops % 7 := by omega
        have x1 : drops % 7 < 7 := by omega
        clear PU h3
        rcases q4 with ⟨rfl, q4⟩ | ⟨q4, q5⟩
        · go_wp2_with fail
          refine RO.out.mono ?_
          rintro e w4 ⟨rfl, n1, rfl⟩
          go_wp2_with fail
          refine (LE.out _).mono ?_
          rintro e w4 ⟨rfl, n2, rfl⟩
          go_wp2_with fail
          · refine (DR.out _).mono ?_
            rintro e w5 ⟨rfl, h5⟩
            have H5 := Lib.hid h5
            clear h5
            go_wp2
            go_roundw
            case rel => exact ⟨k + 1, _, by omega, by go_num, H5⟩
            case measure => simp [intOf]; omega
          · go_roundw
            case rel => exact ⟨k + 1, _, by omega, by go_num, H3.out.drewN _⟩
            case measure => simp [intOf]; omega
          · go_roundw
            case rel => exact ⟨k + 1, _, by omega, by go_num, H3.out.drewN _⟩
            case measure => simp [intOf]; omega
        · have f0 : ((f : Int) == 0) = false := beq_eq_false_iff_ne.2 (by omega)
          go_wp2_with fail
          refine RO.out.mono ?_
          rintro e w4 ⟨rfl, n1, rfl⟩
          go_wp2_with fail
          refine (LE.out _).mono ?_
          rintro e w4 ⟨rfl, n2, rfl⟩
          go_wp2_with fail
          · refine (DR.out _).mono ?_
            rintro e w5 ⟨rfl, h5⟩
            have H5 := Lib.hid h5
            clear h5
            go_wp2
            go_roundw
            case rel => exact ⟨k + 1, _, by omega, by go_num, H5⟩
            case measure => simp [intOf]; omega
          · go_roundw
            case rel => exact ⟨k + 1, _, by omega, by go_num, H3.out.drewN _⟩
            case measure => simp [intOf]; omega
          · go_roundw
            case rel => exact ⟨k + 1, _, by omega, by go_num, H3.out.drewN _⟩
            case measure => simp [intOf]; omega
      · have hkN : k = N := by omega
        subst hkN
        go_wp2
        go_loopw [10] (fun c wr => ∃ (j : Nat) (t : Tab), j ≤ 400 ∧ c = .int .i64 (j : Int) ∧ Hid (Lies w wr a t k) ∧ Hid (t.moving = true → 4 * j ≤ t.next)) (fun c _ => 400 - (intOf c).toNat)
        case atStart => exact ⟨0, t, by omega, rfl, L, fun _ => by omega⟩
        case round =>
          obtain ⟨j, t, hj, rfl, L, M⟩ := hrel
          by_cases hlt : j < 400
          · have ST := Lib.hid (lstep L.out (by omega))
            go_wp2_with fail
            refine ST.out.mono ?_
            rintro e w5 ⟨rfl, h5⟩
            have H5 := Lib.hid h5
            clear h5 ST
            go_wp2
            go_roundw
            case rel =>
              refine ⟨j + 1, t.step, by omega, by go_num, H5, fun hm => ?_⟩
              obtain ⟨k1, _, k3, _⟩ := Tbl.steps_key 4 L.out.inv hm
              have := M.out k1
              show 4 * (j + 1) ≤ (t.steps 4).next
              omega
            case measure => simp [intOf]; omega
          · have hmv : t.moving = false := by
              cases hm : t.moving
              · rfl
              · have := M.out hm
                have := L.out.inv.mv hm
                omega
            obtain ⟨o, f, l, RO, LE, q1, q2, q3, q4, q5⟩ := lboth L.out (by omega)
            have hf : f = 0 := q5.out.2 hmv
            subst hf
            clear q5 q4 LE hmv
            go_wp2_with fail
            refine RO.out.mono ?_
            rintro e w4 ⟨rfl, n1, rfl⟩
            go_wp2
            go_ret
            exact ⟨rfl, L.out.upd.drewN _⟩
end Go.Proofs.Ytbkhpdmadhhdoaa
