/- Walk: words as a line. -/
import Derived.Test.YtkemjjhmabemiaaDoorK11
set_option linter.unusedVariables false
set_option linter.unusedSimpArgs false
namespace Go.Proofs.YtkemjjhmabemiaaDoor
open Go.RowKit
open Lin (Txt)

/-- The builder that began in the world w, and nothing else was written. -/
def QO (w : World) (b : Nat) (wr : World) (L : Txt) : Prop := ∃ v, Bld wr w.heap.size b v L ∧ Upd (fun _ => False) w wr
/-- .. beside a text's bytes. -/
def QI (w : World) (b g c : Nat) (t : Txt) (wr : World) (L : Txt) : Prop := ∃ v, Bld wr w.heap.size b v L ∧ BAt wr (some ⟨g, 0, none⟩) c t ∧ v.ownBlock ≠ some g ∧ g ≠ b ∧ Upd (fun _ => False) w wr
theorem QO.keep {w wr w' : World} {b : Nat} {L : Txt} (h : QO w b wr L) (u : Upd (fun _ => False) wr w') : QO w b w' L := by
  obtain ⟨v, h1, h2⟩ := h
  exact ⟨v, h1.keep0 u, upd0 h2 u⟩
theorem QI.keep {w wr w' : World} {b g c : Nat} {t L : Txt} (h : QI w b g c t wr L) (u : Upd (fun _ => False) wr w') : QI w b g c t w' L := by
  obtain ⟨v, h1, h2, h3, h4, h5⟩ := h
  exact ⟨v, h1.keep0 u, h2.keep0 u, h3, h4, upd0 h5 u⟩
theorem QI.out {w wr : World} {b g c : Nat} {t L : Txt} (h : QI w b g c t wr L) : QO w b wr L := by
  obtain ⟨v, h1, h2, h3, h4, h5⟩ := h
  exact ⟨v, h1, h5⟩
theorem QO.upd {w wr : World} {b : Nat} {L : Txt} (h : QO w b wr L) : Upd (fun _ => False) w wr := by
  obtain ⟨v, h1, h2⟩ := h
  exact h2
theorem QO.into {w wr w' : World} {b c : Nat} {t L : Txt} (h : QO w b wr L) (hB : BAt w' (some ⟨wr.heap.size, 0, none⟩) c t) (u : Upd (fun _ => False) wr w') : QI w b wr.heap.size c t w' L := by
  obtain ⟨v, h1, h2⟩ := h
  refine ⟨v, h1.keep0 u, hB, fun e => ?_, fun e => ?_, upd0 h2 u⟩
  · have := (h1.2.2.1.lt e).2.1; omega
  · have := h1.lt; omega
theorem QO.wrote {w wr w' : World} {b : Nat} {v : Value} {L L' : Txt} (h1 : Bld wr w.heap.size b v L) (h2 : Upd (fun _ => False) w wr) (hw : Wrote wr w.heap.size b v L' w') : QO w b w' L' := by
  obtain ⟨v', k1, k2, k3⟩ := hw
  refine ⟨v', k1, h2.trans k2 (fun i hi e => ?_)⟩
  rcases e with rfl | e
  · have := h1.1; omega
  · have := (h1.2.2.1.lt e).1; omega
theorem QI.wrote {w wr w' : World} {b g c : Nat} {v : Value} {t L L' : Txt} (h1 : Bld wr w.heap.size b v L) (h2 : BAt wr (some ⟨g, 0, none⟩) c t) (h3 : v.ownBlock ≠ some g) (h4 : g ≠ b) (h5 : Upd (fun _ => False) w wr) (hg : g < wr.heap.size) (hw : Wrote wr w.heap.size b v L' w') : QI w b g c t w' L' := by
  obtain ⟨v', k1, k2, k3⟩ := hw
  refine ⟨v', k1, h2.keep k2 (fun g' o e => ?_), fun e => ?_, h4, h5.trans k2 (fun i hi e => ?_)⟩
  · simp only [Option.some.injEq, Addr.mk.injEq] at e
    obtain ⟨rfl, _, _⟩ := e
    rintro (e | e)
    · exact h4 e
    · exact h3 e
  · rcases k3 g e with e | e
    · exact h3 e
    · omega
  · rcases e with rfl | e
    · have := h1.1; omega
    · have := (h1.2.2.1.lt e).1; omega
theorem qo_byte {w wr : World} {b : Nat} {L : Txt} (h : QO w b wr L) (c : UInt8) (x : Int) (hx : x = (c.toNat : Int)) (hl : L.length ≤ 100000000) :
    Calls Tryd.prog 34 #[.pointer (some ⟨b, 0, none⟩), .int .u8 x] wr fun e w' => e = .returned .nilIface ∧ QO w b w' (L ++ [c]) := by
  obtain ⟨v, h1, h2⟩ := h
  exact (wbyte_any wr _ b v L c x hx h1 (by omega) h2.size).mono fun e w' ⟨k1, k2⟩ => ⟨k1, QO.wrote h1 h2 k2⟩
theorem qo_str {w wr : World} {b : Nat} {L : Txt} (h : QO w b wr L) (s : Txt) (hl : L.length + s.length ≤ 100000000) :
    Calls Tryd.prog 36 #[.pointer (some ⟨b, 0, none⟩), .string (ofL s)] wr fun e w' => e = .returned (.tuple #[.int .i64 (s.length : Int), .nilIface]) ∧ QO w b w' (L ++ s) := by
  obtain ⟨v, h1, h2⟩ := h
  exact (wstr_any wr _ b v L s h1 (by omega) h2.size).mono fun e w' ⟨k1, k2⟩ => ⟨k1, QO.wrote h1 h2 k2⟩
theorem qi_byte {w wr : World} {b g c : Nat} {t L : Txt} (h : QI w b g c t wr L) (hg : g < wr.heap.size) (d : UInt8) (x : Int) (hx : x = (d.toNat : Int)) (hl : L.length ≤ 100000000) :
    Calls Tryd.prog 34 #[.pointer (some ⟨b, 0, none⟩), .int .u8 x] wr fun e w' => e = .returned .nilIface ∧ QI w b g c t w' (L ++ [d]) := by
  obtain ⟨v, h1, h2, h3, h4, h5⟩ := h
  exact (wbyte_any wr _ b v L d x hx h1 (by omega) h5.size).mono fun e w' ⟨k1, k2⟩ => ⟨k1, QI.wrote h1 h2 h3 h4 h5 hg k2⟩
theorem qi_write {w wr : World} {b g c : Nat} {t L : Txt} (h : QI w b g c t wr L) (hg : g < wr.heap.size) (s : Txt) (cs : List Value) (hcs : cs = s.map byc) (n : Nat) (hn : n = s.length) (hs : s.length ≤ 1000) (hl : L.length ≤ 100000000) :
    Calls Tryd.prog 37 #[.pointer (some ⟨b, 0, none⟩), .slice (some ⟨wr.heap.size, 0, none⟩) n n] (wr.alloc (.cells cs.toArray 5)) fun e w' => e = .returned (.tuple #[.int .i64 (n : Int), .nilIface]) ∧ QI w b g c t w' (L ++ s) := by
  subst hn
  obtain ⟨v, h1, h2, h3, h4, h5⟩ := h
  have u0 : Upd (fun _ => False) wr (wr.alloc (.cells cs.toArray 5)) := (Upd.refl _ _).alloc _
  have h1' := h1.keep0 u0
  have hlt := h1.lt
  refine (write_any (wr.alloc (.cells cs.toArray 5)) _ b v L s (some ⟨wr.heap.size, 0, none⟩) s.length h1' (BAt.lit wr s hs cs hcs) (fun g o e => ?_) (by omega) (Nat.le_trans h5.size u0.size)).mono fun e w' ⟨k1, k2⟩ => ⟨k1, QI.wrote h1' (h2.keep0 u0) h3 h4 (upd0 h5 u0) (Nat.lt_of_lt_of_le hg u0.size) k2⟩
  simp only [Option.some.injEq, Addr.mk.injEq] at e
  omega
theorem QI.get {w wr : World} {b g c : Nat} {t L : Txt} (h : QI w b g c t wr L) {k : Nat} {d : UInt8} (hk : t[k]? = some d) : wr.cell? ⟨g, k, none⟩ = some (.int .u8 (d.toNat : Int)) ∧ g < wr.heap.size := by
  obtain ⟨v, h1, h2, h3, h4, h5⟩ := h
  obtain ⟨g', o', e, hgl, hcl⟩ := h2.at (by rintro rfl; simp at hk)
  simp only [Option.some.injEq, Addr.mk.injEq] at e
  obtain ⟨rfl, rfl, _⟩ := e
  have := hcl k d hk
  rw [Nat.zero_add] at this
  exact ⟨this, hgl⟩
set_option maxHeartbeats 8000000 in
set_option maxRecDepth 100000 in
theorem quote_any (v0 : Value) (l : List Txt) (w : World) (hr : RowOf tcs 1 w v0 l) (h100 : l.length ≤ 100) (hz : ∀ t ∈ l, t.length ≤ 5000) :
    Calls Tryd.prog 21 #[v0] w fun e w' => e = .returned (.string (ofL (Lin.quote l))) ∧ Upd (fun _ => False) w w' := by
  obtain ⟨pv, cv, rfl, hlv⟩ := hr.len
  have HR := Lib.hid hr
  have HZ := Lib.hid hz
  clear hr hz
  have Q0 : Hid (QO w w.heap.size (w.alloc (.cells #[.pointer none, .slice none 0 0] 67)) []) := Lib.hid ⟨_, Bld.made w _ (Nat.le_refl _), (Upd.refl _ _).alloc _⟩
  obtain ⟨res, hres⟩ : ∃ res, res = Lin.quote l := ⟨_, rfl⟩
  rw [← hres]
  have HRES := Lib.hid hres
  clear hres
  go_enter Tryd.func21, Tryd.ntmps21
  go_wp2
  go_loopw [10] (fun v10 wx => ∃ (j : Nat) (L : Txt), v10 = .int .i64 (j : Int) ∧ j ≤ l.length ∧ L.length ≤ j * 30000 ∧ Hid (L = Lin.quote (l.take j)) ∧ Hid (QO w w.heap.size wx L)) (fun v10 _ => l.length - (intOf v10).toNat)
  case atStart => exact ⟨0, [], rfl, by omega, by simp, Lib.hid (by simp [Lin.quote, Lin.quoteF]), Q0⟩
  case round =>
    obtain ⟨j, L, rfl, hj, hL, HL, QL⟩ := hrel
    clear Q0
    by_cases hjl : j < l.length
    · obtain ⟨t, ht⟩ : ∃ t, l[j]? = some t := ⟨_, List.getElem?_eq_getElem hjl⟩
      have q5 : (j : Int) < (l.length : Int) := by omega
      have HR2 := HR.out.keep QL.out.upd (fun _ _ _ => id)
      obtain ⟨b7, o7, c7, e7, hb7, _, hc7⟩ : ∃ b off cap, Value.slice pv l.length cv = .slice (some ⟨b, off, none⟩) l.length cap ∧ b < wr.heap.size ∧ l.length ≤ maxLen ∧ ∀ i a, l[i]? = some a → ∀ j, j < 1 → wr.cell? ⟨b, off + (i * 1 + j), none⟩ = (tcs a)[j]? := by
        rcases HR2 with ⟨_, _, _, e⟩ | h
        · rw [e] at hjl; simp at hjl
        · exact h
      have hcell : wr.cell? ⟨b7, o7 + j, none⟩ = some (.string (ofL t)) := by have := hc7 j t ht 0 (by omega); simpa [tcs] using this
      simp only [Value.slice.injEq] at e7
      obtain ⟨rfl, _, rfl⟩ := e7
      have ht5 := HZ.out t (List.mem_of_getElem? ht)
      have hts := ofL_size t
      have HT := Lib.hid (show Lin.quote (l.take (j + 1)) = (L ++ (if 0 < j then [32] else [])) ++ Lin.qw j t from by rw [Lin.quote_take ht, ← HL.out]; simp)
      obtain ⟨wo, hwo⟩ : ∃ wo, wo = wr := ⟨_, rfl⟩
      subst hwo
      clear hc7 HR2 ht
      by_cases hj0 : 0 < j
      · have q6 : (0 : Int) < (j : Int) := by omega
        rw [if_pos hj0] at HT
        obtain ⟨L1, hL1⟩ : ∃ L1, L1 = L ++ [32] := ⟨_, rfl⟩
        have hL1l : L1.length ≤ j * 30000 + 1 := by rw [hL1, List.length_append]; simp only [List.length_cons, List.length_nil]; omega
        have SP := qo_byte QL.out 32 32 rfl (by omega)
        rw [← hL1] at HT SP
        have SP := Lib.hid SP
        have HL1 := Lib.hid hL1
        clear hL1
        go_wp2_with fail
        refine SP.out.mono ?_
        rintro e w1 ⟨rfl, q1⟩
        have QL1 := Lib.hid q1
        clear q1 SP QL
        have BA := bare_any t w1 (by omega)
        cases hbare : Lin.bare t with
        | true =>
          rw [hbare] at BA
          have BA := Lib.hid BA
          have HW : Hid (Lin.qw j t = t) := Lib.hid (by unfold Lin.qw; rw [if_pos ⟨hbare, Or.inl hj0⟩])
          clear hbare
          go_wp2_with fail
          refine BA.out.mono ?_
          rintro e w2 ⟨rfl, u2⟩
          have QL2 := Lib.hid (QL1.out.keep u2)
          clear u2
          have QS := Lib.hid (qo_str QL2.out t (by omega))
          go_wp2_with fail
          refine QS.out.mono ?_
          rintro e w3 ⟨rfl, q3⟩
          go_wp2
          go_roundw
          case rel => exact ⟨j + 1, L1 ++ t, by go_num, by omega, by rw [List.length_append]; omega, Lib.hid (by rw [HT.out, HW.out]), Lib.hid q3⟩
          case measure => simp [intOf]; omega
        | false =>
          rw [hbare] at BA
          have BA := Lib.hid BA
          have HW : Hid (Lin.qw j t = 34 :: (t.flatMap Lin.qb ++ [34])) := Lib.hid (by unfold Lin.qw; rw [if_neg (by rw [hbare]; simp)])
          clear hbare
          go_wp2_with fail
          refine BA.out.mono ?_
          rintro e w2 ⟨rfl, u2⟩
          have QL2 := Lib.hid (QL1.out.keep u2)
          clear u2
          have WA := Lib.hid (qo_byte QL2.out 34 34 rfl (by omega))
          go_wp2_with fail
          refine WA.out.mono ?_
          rintro e w3 ⟨rfl, q3⟩
          obtain ⟨cp, w4, hrc, hBc, u4⟩ := bytes_of t w3 (by unfold maxLen; omega)
          have hcp := hBc.le
          unfold maxLen at hcp
          have I4 := q3.into hBc u4
          obtain ⟨g, hg⟩ : ∃ g, g = w3.heap.size := ⟨_, rfl⟩
          rw [← hg] at hrc I4
          have I4 := Lib.hid I4
          clear q3 hBc u4 hg WA QL2
          go_wp2
          go_loopw [35] (fun v35 wy => ∃ (k : Nat) (M : Txt), v35 = .int .i64 (k : Int) ∧ k ≤ t.length ∧ M.length ≤ j * 30000 + 2 + 4 * k ∧ Hid (M = L1 ++ [34] ++ (t.take k).flatMap Lin.qb) ∧ Hid (QI w w.heap.size g cp t wy M)) (fun v35 _ => t.length - (intOf v35).toNat)
          case atStart => exact ⟨0, L1 ++ [34], rfl, by omega, by rw [List.length_append]; simp only [List.length_cons, List.length_nil]; omega, Lib.hid (by simp), I4⟩
          case round =>
            obtain ⟨k, M, rfl, hk, hM, HM, IM⟩ := hrel
            clear I4
            by_cases hkt : k < t.length
            · obtain ⟨c, hc⟩ : ∃ c, t[k]? = some c := ⟨_, List.getElem?_eq_getElem hkt⟩
              obtain ⟨hcell2, hgl⟩ := IM.out.get hc
              have HK := Lib.hid (Lin.qbs_take hc)
              clear hc
              by_cases c34 : c = 34
              · have b1 : ((c.toNat : Int) == 34) = true := u8t 34 c34 (by omega)
                have HQB : Hid (Lin.qb c = [92, c]) := Lib.hid (by unfold Lin.qb; rw [if_pos (Or.inl c34)])
                have WR := Lib.hid (qi_write IM.out hgl [92, c] [.int .u8 92, .int .u8 (c.toNat : Int)] rfl 2 rfl (by simp) (by omega))
                clear c34
                go_wp2_with fail
                refine WR.out.mono ?_
                rintro e w5 ⟨rfl, q5⟩
                go_wp2
                go_roundw
                case rel => exact ⟨k + 1, (M ++ [92, c]), by go_num, by omega, by rw [List.length_append]; simp only [List.length_cons, List.length_nil]; omega, Lib.hid (by rw [HM.out, HK.out, List.append_assoc (L1 ++ [34]), HQB.out]), Lib.hid q5⟩
                case measure => simp [intOf]; omega
              have b1 : ((c.toNat : Int) == 34) = false := u8f 34 c34 (by omega)
              by_cases c92 : c = 92
              · have b2 : ((c.toNat : Int) == 92) = true := u8t 92 c92 (by omega)
                have HQB : Hid (Lin.qb c = [92, c]) := Lib.hid (by unfold Lin.qb; rw [if_pos (Or.inr c92)])
                have WR := Lib.hid (qi_write IM.out hgl [92, c] [.int .u8 92, .int .u8 (c.toNat : Int)] rfl 2 rfl (by simp) (by omega))
                clear c34 c92
                go_wp2_with fail
                refine WR.out.mono ?_
                rintro e w5 ⟨rfl, q5⟩
                go_wp2
                go_roundw
                case rel => exact ⟨k + 1, (M ++ [92, c]), by go_num, by omega, by rw [List.length_append]; simp only [List.length_cons, List.length_nil]; omega, Lib.hid (by rw [HM.out, HK.out, List.append_assoc (L1 ++ [34]), HQB.out]), Lib.hid q5⟩
                case measure => simp [intOf]; omega
              have b2 : ((c.toNat : Int) == 92) = false := u8f 92 c92 (by omega)
              by_cases hp : c.toNat < 32 ∨ 126 < c.toNat
              · have HQB : Hid (Lin.qb c = [92, 120, Lin.digit (c.toNat / 16), Lin.digit (c.toNat % 16)]) := Lib.hid (by unfold Lin.qb; rw [if_neg (by simp [c34, c92]), if_pos hp])
                have hb3 : (c.toNat : Int) < 32 ∨ (¬ (c.toNat : Int) < 32 ∧ 126 < (c.toNat : Int)) := by omega
                have hc256 : c.toNat < 256 := c.toNat_lt
                have d1 := fun w => dig_at (c.toNat / 16) (by omega) w
                have d2 := fun w => dig_at (c.toNat % 16) (by omega) w
                have ea := and15 c
                have ed : ((c.toNat / 16 : Nat) : Int) = (c.toNat : Int) / 16 := by omega
                rw [ed] at d1
                generalize Lin.digit (c.toNat / 16) = x1 at *
                generalize Lin.digit (c.toNat % 16) = x2 at *
                generalize ((c.toNat % 16 : Nat) : Int) = y2 at *
                clear c34 c92 hp ed
                have WR : Hid (Calls Tryd.prog 37 #[.pointer (some ⟨w.heap.size, 0, none⟩), .slice (some ⟨wr.heap.size, 0, none⟩) 4 4] (wr.alloc (.cells #[.int .u8 92, .int .u8 120, .int .u8 (x1.toNat : Int), .int .u8 (x2.toNat : Int)] 5)).drew fun e w' => e = .returned (.tuple #[.int .i64 4, .nilIface]) ∧ QI w w.heap.size g cp t w' (M ++ [92, 120, x1, x2])) :=
                  Lib.hid (qi_write (IM.out.keep ((Upd.refl _ _).drew)) hgl [92, 120, x1, x2] [.int .u8 92, .int .u8 120, .int .u8 (x1.toNat : Int), .int .u8 (x2.toNat : Int)] rfl 4 rfl (by simp) (by omega))
                rcases hb3 with hb3 | ⟨hb3, hb4⟩
                all_goals
                  go_wp2
                  go_region_with (go_at_call 37; refine WR.out.mono ?_; rintro e w5 ⟨rfl, q5⟩)
                all_goals
                  go_wp2
                  go_roundw
                  case rel => exact ⟨k + 1, (M ++ [92, 120, x1, x2]), by go_num, by omega, by rw [List.length_append]; simp only [List.length_cons, List.length_nil]; omega, Lib.hid (by rw [HM.out, HK.out, List.append_assoc (L1 ++ [34]), HQB.out]), Lib.hid q5⟩
                  case measure => simp [intOf]; omega
              · have HQB : Hid (Lin.qb c = [c]) := Lib.hid (by unfold Lin.qb; rw [if_neg (by simp [c34, c92]), if_neg hp])
                have b3 : ¬ (c.toNat : Int) < 32 := by omega
                have b4 : ¬ 126 < (c.toNat : Int) := by omega
                have WR := Lib.hid (qi_byte IM.out hgl c _ rfl (by omega))
                clear c34 c92 hp
                go_wp2_with fail
                refine WR.out.mono ?_
                rintro e w5 ⟨rfl, q5⟩
                go_wp2
                go_roundw
                case rel => exact ⟨k + 1, (M ++ [c]), by go_num, by omega, by rw [List.length_append]; simp only [List.length_cons, List.length_nil]; omega, Lib.hid (by rw [HM.out, HK.out, List.append_assoc (L1 ++ [34]), HQB.out]), Lib.hid q5⟩
                case measure => simp [intOf]; omega
            · have hkl : k = t.length := by omega
              have HM2 : Hid (M = L1 ++ [34] ++ t.flatMap Lin.qb) := Lib.hid (by have := HM.out; rwa [hkl, List.take_length] at this)
              have WB := Lib.hid (qo_byte IM.out.out 34 34 rfl (by omega))
              go_wp2_with fail
              refine WB.out.mono ?_
              rintro e w6 ⟨rfl, q6⟩
              go_wp2
              go_roundw
              case rel => exact ⟨j + 1, M ++ [34], by go_num, by omega, by rw [List.length_append]; simp only [List.length_cons, List.length_nil]; omega, Lib.hid (by rw [HT.out, HW.out, HM2.out]; simp), Lib.hid q6⟩
              case measure => simp [intOf]; omega
      · have q6 : ¬ (0 : Int) < (j : Int) := by omega
        rw [if_neg hj0, List.append_nil] at HT
        obtain ⟨L1, hL1⟩ : ∃ L1, L1 = L := ⟨_, rfl⟩
        have hL1l : L1.length ≤ j * 30000 + 1 := by rw [hL1]; omega
        rw [← hL1] at HT QL
        have HL1 := Lib.hid hL1
        clear hL1
        have QL1 := QL
        have BA := bare_any t wo (by omega)
        cases hbare : Lin.bare t with
        | true =>
          rw [hbare] at BA
          have BA := Lib.hid BA
          obtain ⟨c, hc⟩ : ∃ c, t[0]? = some c := by
            cases t with
            | nil => simp [Lin.bare] at hbare
            | cons c r => exact ⟨c, rfl⟩
          have hch : t.headD 0 = c := by
            cases t with
            | nil => simp at hc
            | cons c r => simpa using hc
          have rx : ∀ w, (Instr.index 9 (.string (ofL t)) (.int .i64 0)).run Tryd.prog w = .ok (.int .u8 (c.toNat : Int)) w := fun w => run_at t 0 c hc w
          by_cases h42 : c = 42
          · have q7 : ((c.toNat : Int) != 42) = false := u8m 42 h42 (by omega)
            have q8 : ((c.toNat : Int) == 42) = true := u8t 42 h42 (by omega)
            have HW : Hid (Lin.qw j t = 34 :: (t.flatMap Lin.qb ++ [34])) := Lib.hid (by unfold Lin.qw; rw [if_neg (by rw [hch, h42]; simp; omega)])
            clear hbare hc hch h42
            generalize (c.toNat : Int) = xc at *
            go_wp2_with fail
            refine BA.out.mono ?_
            rintro e w2 ⟨rfl, u2⟩
            have QL2 := Lib.hid (QL1.out.keep u2)
            clear u2
            have WA := Lib.hid (qo_byte QL2.out 34 34 rfl (by omega))
            go_wp2_with fail
            refine WA.out.mono ?_
            rintro e w3 ⟨rfl, q3⟩
            obtain ⟨cp, w4, hrc, hBc, u4⟩ := bytes_of t w3 (by unfold maxLen; omega)
            have hcp := hBc.le
            unfold maxLen at hcp
            have I4 := q3.into hBc u4
            obtain ⟨g, hg⟩ : ∃ g, g = w3.heap.size := ⟨_, rfl⟩
            rw [← hg] at hrc I4
            have I4 := Lib.hid I4
            clear q3 hBc u4 hg WA QL2
            go_wp2
            go_loopw [35] (fun v35 wy => ∃ (k : Nat) (M : Txt), v35 = .int .i64 (k : Int) ∧ k ≤ t.length ∧ M.length ≤ j * 30000 + 2 + 4 * k ∧ Hid (M = L1 ++ [34] ++ (t.take k).flatMap Lin.qb) ∧ Hid (QI w w.heap.size g cp t wy M)) (fun v35 _ => t.length - (intOf v35).toNat)
            case atStart => exact ⟨0, L1 ++ [34], rfl, by omega, by rw [List.length_append]; simp only [List.length_cons, List.length_nil]; omega, Lib.hid (by simp), I4⟩
            case round =>
              obtain ⟨k, M, rfl, hk, hM, HM, IM⟩ := hrel
              clear I4
              by_cases hkt : k < t.length
              · obtain ⟨c, hc⟩ : ∃ c, t[k]? = some c := ⟨_, List.getElem?_eq_getElem hkt⟩
                obtain ⟨hcell2, hgl⟩ := IM.out.get hc
                have HK := Lib.hid (Lin.qbs_take hc)
                clear hc
                by_cases c34 : c = 34
                · have b1 : ((c.toNat : Int) == 34) = true := u8t 34 c34 (by omega)
                  have HQB : Hid (Lin.qb c = [92, c]) := Lib.hid (by unfold Lin.qb; rw [if_pos (Or.inl c34)])
                  have WR := Lib.hid (qi_write IM.out hgl [92, c] [.int .u8 92, .int .u8 (c.toNat : Int)] rfl 2 rfl (by simp) (by omega))
                  clear c34
                  go_wp2_with fail
                  refine WR.out.mono ?_
                  rintro e w5 ⟨rfl, q5⟩
                  go_wp2
                  go_roundw
                  case rel => exact ⟨k + 1, (M ++ [92, c]), by go_num, by omega, by rw [List.length_append]; simp only [List.length_cons, List.length_nil]; omega, Lib.hid (by rw [HM.out, HK.out, List.append_assoc (L1 ++ [34]), HQB.out]), Lib.hid q5⟩
                  case measure => simp [intOf]; omega
                have b1 : ((c.toNat : Int) == 34) = false := u8f 34 c34 (by omega)
                by_cases c92 : c = 92
                · have b2 : ((c.toNat : Int) == 92) = true := u8t 92 c92 (by omega)
                  have HQB : Hid (Lin.qb c = [92, c]) := Lib.hid (by unfold Lin.qb; rw [if_pos (Or.inr c92)])
                  have WR := Lib.hid (qi_write IM.out hgl [92, c] [.int .u8 92, .int .u8 (c.toNat : Int)] rfl 2 rfl (by simp) (by omega))
                  clear c34 c92
                  go_wp2_with fail
                  refine WR.out.mono ?_
                  rintro e w5 ⟨rfl, q5⟩
                  go_wp2
                  go_roundw
                  case rel => exact ⟨k + 1, (M ++ [92, c]), by go_num, by omega, by rw [List.length_append]; simp only [List.length_cons, List.length_nil]; omega, Lib.hid (by rw [HM.out, HK.out, List.append_assoc (L1 ++ [34]), HQB.out]), Lib.hid q5⟩
                  case measure => simp [intOf]; omega
                have b2 : ((c.toNat : Int) == 92) = false := u8f 92 c92 (by omega)
                by_cases hp : c.toNat < 32 ∨ 126 < c.toNat
                · have HQB : Hid (Lin.qb c = [92, 120, Lin.digit (c.toNat / 16), Lin.digit (c.toNat % 16)]) := Lib.hid (by unfold Lin.qb; rw [if_neg (by simp [c34, c92]), if_pos hp])
                  have hb3 : (c.toNat : Int) < 32 ∨ (¬ (c.toNat : Int) < 32 ∧ 126 < (c.toNat : Int)) := by omega
                  have hc256 : c.toNat < 256 := c.toNat_lt
                  have d1 := fun w => dig_at (c.toNat / 16) (by omega) w
                  have d2 := fun w => dig_at (c.toNat % 16) (by omega) w
                  have ea := and15 c
                  have ed : ((c.toNat / 16 : Nat) : Int) = (c.toNat : Int) / 16 := by omega
                  rw [ed] at d1
                  generalize Lin.digit (c.toNat / 16) = x1 at *
                  generalize Lin.digit (c.toNat % 16) = x2 at *
                  generalize ((c.toNat % 16 : Nat) : Int) = y2 at *
                  clear c34 c92 hp ed
                  have WR : Hid (Calls Tryd.prog 37 #[.pointer (some ⟨w.heap.size, 0, none⟩), .slice (some ⟨wr.heap.size, 0, none⟩) 4 4] (wr.alloc (.cells #[.int .u8 92, .int .u8 120, .int .u8 (x1.toNat : Int), .int .u8 (x2.toNat : Int)] 5)).drew fun e w' => e = .returned (.tuple #[.int .i64 4, .nilIface]) ∧ QI w w.heap.size g cp t w' (M ++ [92, 120, x1, x2])) :=
                    Lib.hid (qi_write (IM.out.keep ((Upd.refl _ _).drew)) hgl [92, 120, x1, x2] [.int .u8 92, .int .u8 120, .int .u8 (x1.toNat : Int), .int .u8 (x2.toNat : Int)] rfl 4 rfl (by simp) (by omega))
                  rcases hb3 with hb3 | ⟨hb3, hb4⟩
                  all_goals
                    go_wp2
                    go_region_with (go_at_call 37; refine WR.out.mono ?_; rintro e w5 ⟨rfl, q5⟩)
                  all_goals
                    go_wp2
                    go_roundw
                    case rel => exact ⟨k + 1, (M ++ [92, 120, x1, x2]), by go_num, by omega, by rw [List.length_append]; simp only [List.length_cons, List.length_nil]; omega, Lib.hid (by rw [HM.out, HK.out, List.append_assoc (L1 ++ [34]), HQB.out]), Lib.hid q5⟩
                    case measure => simp [intOf]; omega
                · have HQB : Hid (Lin.qb c = [c]) := Lib.hid (by unfold Lin.qb; rw [if_neg (by simp [c34, c92]), if_neg hp])
                  have b3 : ¬ (c.toNat : Int) < 32 := by omega
                  have b4 : ¬ 126 < (c.toNat : Int) := by omega
                  have WR := Lib.hid (qi_byte IM.out hgl c _ rfl (by omega))
                  clear c34 c92 hp
                  go_wp2_with fail
                  refine WR.out.mono ?_
                  rintro e w5 ⟨rfl, q5⟩
                  go_wp2
                  go_roundw
                  case rel => exact ⟨k + 1, (M ++ [c]), by go_num, by omega, by rw [List.length_append]; simp only [List.length_cons, List.length_nil]; omega, Lib.hid (by rw [HM.out, HK.out, List.append_assoc (L1 ++ [34]), HQB.out]), Lib.hid q5⟩
                  case measure => simp [intOf]; omega
              · have hkl : k = t.length := by omega
                have HM2 : Hid (M = L1 ++ [34] ++ t.flatMap Lin.qb) := Lib.hid (by have := HM.out; rwa [hkl, List.take_length] at this)
                have WB := Lib.hid (qo_byte IM.out.out 34 34 rfl (by omega))
                go_wp2_with fail
                refine WB.out.mono ?_
                rintro e w6 ⟨rfl, q6⟩
                go_wp2
                go_roundw
                case rel => exact ⟨j + 1, M ++ [34], by go_num, by omega, by rw [List.length_append]; simp only [List.length_cons, List.length_nil]; omega, Lib.hid (by rw [HT.out, HW.out, HM2.out]; simp), Lib.hid q6⟩
                case measure => simp [intOf]; omega
          · have q7 : ((c.toNat : Int) != 42) = true := u8n 42 h42 (by omega)
            have q8 : ((c.toNat : Int) == 42) = false := u8f 42 h42 (by omega)
            have HW : Hid (Lin.qw j t = t) := Lib.hid (by unfold Lin.qw; rw [if_pos ⟨hbare, Or.inr (by rw [hch]; exact h42)⟩])
            clear hbare hc hch h42
            generalize (c.toNat : Int) = xc at *
            go_wp2_with fail
            refine BA.out.mono ?_
            rintro e w2 ⟨rfl, u2⟩
            have QL2 := Lib.hid (QL1.out.keep u2)
            clear u2
            have QS := Lib.hid (qo_str QL2.out t (by omega))
            go_wp2_with fail
            refine QS.out.mono ?_
            rintro e w3 ⟨rfl, q3⟩
            go_wp2
            go_roundw
            case rel => exact ⟨j + 1, L1 ++ t, by go_num, by omega, by rw [List.length_append]; omega, Lib.hid (by rw [HT.out, HW.out]), Lib.hid q3⟩
            case measure => simp [intOf]; omega
        | false =>
          rw [hbare] at BA
          have BA := Lib.hid BA
          have HW : Hid (Lin.qw j t = 34 :: (t.flatMap Lin.qb ++ [34])) := Lib.hid (by unfold Lin.qw; rw [if_neg (by rw [hbare]; simp)])
          clear hbare
          go_wp2_with fail
          refine BA.out.mono ?_
          rintro e w2 ⟨rfl, u2⟩
          have QL2 := Lib.hid (QL1.out.keep u2)
          clear u2
          have WA := Lib.hid (qo_byte QL2.out 34 34 rfl (by omega))
          go_wp2_with fail
          refine WA.out.mono ?_
          rintro e w3 ⟨rfl, q3⟩
          obtain ⟨cp, w4, hrc, hBc, u4⟩ := bytes_of t w3 (by unfold maxLen; omega)
          have hcp := hBc.le
          unfold maxLen at hcp
          have I4 := q3.into hBc u4
          obtain ⟨g, hg⟩ : ∃ g, g = w3.heap.size := ⟨_, rfl⟩
          rw [← hg] at hrc I4
          have I4 := Lib.hid I4
          clear q3 hBc u4 hg WA QL2
          go_wp2
          go_loopw [35] (fun v35 wy => ∃ (k : Nat) (M : Txt), v35 = .int .i64 (k : Int) ∧ k ≤ t.length ∧ M.length ≤ j * 30000 + 2 + 4 * k ∧ Hid (M = L1 ++ [34] ++ (t.take k).flatMap Lin.qb) ∧ Hid (QI w w.heap.size g cp t wy M)) (fun v35 _ => t.length - (intOf v35).toNat)
          case atStart => exact ⟨0, L1 ++ [34], rfl, by omega, by rw [List.length_append]; simp only [List.length_cons, List.length_nil]; omega, Lib.hid (by simp), I4⟩
          case round =>
            obtain ⟨k, M, rfl, hk, hM, HM, IM⟩ := hrel
            clear I4
            by_cases hkt : k < t.length
            · obtain ⟨c, hc⟩ : ∃ c, t[k]? = some c := ⟨_, List.getElem?_eq_getElem hkt⟩
              obtain ⟨hcell2, hgl⟩ := IM.out.get hc
              have HK := Lib.hid (Lin.qbs_take hc)
              clear hc
              by_cases c34 : c = 34
              · have b1 : ((c.toNat : Int) == 34) = true := u8t 34 c34 (by omega)
                have HQB : Hid (Lin.qb c = [92, c]) := Lib.hid (by unfold Lin.qb; rw [if_pos (Or.inl c34)])
                have WR := Lib.hid (qi_write IM.out hgl [92, c] [.int .u8 92, .int .u8 (c.toNat : Int)] rfl 2 rfl (by simp) (by omega))
                clear c34
                go_wp2_with fail
                refine WR.out.mono ?_
                rintro e w5 ⟨rfl, q5⟩
                go_wp2
                go_roundw
                case rel => exact ⟨k + 1, (M ++ [92, c]), by go_num, by omega, by rw [List.length_append]; simp only [List.length_cons, List.length_nil]; omega, Lib.hid (by rw [HM.out, HK.out, List.append_assoc (L1 ++ [34]), HQB.out]), Lib.hid q5⟩
                case measure => simp [intOf]; omega
              have b1 : ((c.toNat : Int) == 34) = false := u8f 34 c34 (by omega)
              by_cases c92 : c = 92
              · have b2 : ((c.toNat : Int) == 92) = true := u8t 92 c92 (by omega)
                have HQB : Hid (Lin.qb c = [92, c]) := Lib.hid (by unfold Lin.qb; rw [if_pos (Or.inr c92)])
                have WR := Lib.hid (qi_write IM.out hgl [92, c] [.int .u8 92, .int .u8 (c.toNat : Int)] rfl 2 rfl (by simp) (by omega))
                clear c34 c92
                go_wp2_with fail
                refine WR.out.mono ?_
                rintro e w5 ⟨rfl, q5⟩
                go_wp2
                go_roundw
                case rel => exact ⟨k + 1, (M ++ [92, c]), by go_num, by omega, by rw [List.length_append]; simp only [List.length_cons, List.length_nil]; omega, Lib.hid (by rw [HM.out, HK.out, List.append_assoc (L1 ++ [34]), HQB.out]), Lib.hid q5⟩
                case measure => simp [intOf]; omega
              have b2 : ((c.toNat : Int) == 92) = false := u8f 92 c92 (by omega)
              by_cases hp : c.toNat < 32 ∨ 126 < c.toNat
              · have HQB : Hid (Lin.qb c = [92, 120, Lin.digit (c.toNat / 16), Lin.digit (c.toNat % 16)]) := Lib.hid (by unfold Lin.qb; rw [if_neg (by simp [c34, c92]), if_pos hp])
                have hb3 : (c.toNat : Int) < 32 ∨ (¬ (c.toNat : Int) < 32 ∧ 126 < (c.toNat : Int)) := by omega
                have hc256 : c.toNat < 256 := c.toNat_lt
                have d1 := fun w => dig_at (c.toNat / 16) (by omega) w
                have d2 := fun w => dig_at (c.toNat % 16) (by omega) w
                have ea := and15 c
                have ed : ((c.toNat / 16 : Nat) : Int) = (c.toNat : Int) / 16 := by omega
                rw [ed] at d1
                generalize Lin.digit (c.toNat / 16) = x1 at *
                generalize Lin.digit (c.toNat % 16) = x2 at *
                generalize ((c.toNat % 16 : Nat) : Int) = y2 at *
                clear c34 c92 hp ed
                have WR : Hid (Calls Tryd.prog 37 #[.pointer (some ⟨w.heap.size, 0, none⟩), .slice (some ⟨wr.heap.size, 0, none⟩) 4 4] (wr.alloc (.cells #[.int .u8 92, .int .u8 120, .int .u8 (x1.toNat : Int), .int .u8 (x2.toNat : Int)] 5)).drew fun e w' => e = .returned (.tuple #[.int .i64 4, .nilIface]) ∧ QI w w.heap.size g cp t w' (M ++ [92, 120, x1, x2])) :=
                  Lib.hid (qi_write (IM.out.keep ((Upd.refl _ _).drew)) hgl [92, 120, x1, x2] [.int .u8 92, .int .u8 120, .int .u8 (x1.toNat : Int), .int .u8 (x2.toNat : Int)] rfl 4 rfl (by simp) (by omega))
                rcases hb3 with hb3 | ⟨hb3, hb4⟩
                all_goals
                  go_wp2
                  go_region_with (go_at_call 37; refine WR.out.mono ?_; rintro e w5 ⟨rfl, q5⟩)
                all_goals
                  go_wp2
                  go_roundw
                  case rel => exact ⟨k + 1, (M ++ [92, 120, x1, x2]), by go_num, by omega, by rw [List.length_append]; simp only [List.length_cons, List.length_nil]; omega, Lib.hid (by rw [HM.out, HK.out, List.append_assoc (L1 ++ [34]), HQB.out]), Lib.hid q5⟩
                  case measure => simp [intOf]; omega
              · have HQB : Hid (Lin.qb c = [c]) := Lib.hid (by unfold Lin.qb; rw [if_neg (by simp [c34, c92]), if_neg hp])
                have b3 : ¬ (c.toNat : Int) < 32 := by omega
                have b4 : ¬ 126 < (c.toNat : Int) := by omega
                have WR := Lib.hid (qi_byte IM.out hgl c _ rfl (by omega))
                clear c34 c92 hp
                go_wp2_with fail
                refine WR.out.mono ?_
                rintro e w5 ⟨rfl, q5⟩
                go_wp2
                go_roundw
                case rel => exact ⟨k + 1, (M ++ [c]), by go_num, by omega, by rw [List.length_append]; simp only [List.length_cons, List.length_nil]; omega, Lib.hid (by rw [HM.out, HK.out, List.append_assoc (L1 ++ [34]), HQB.out]), Lib.hid q5⟩
                case measure => simp [intOf]; omega
            · have hkl : k = t.length := by omega
              have HM2 : Hid (M = L1 ++ [34] ++ t.flatMap Lin.qb) := Lib.hid (by have := HM.out; rwa [hkl, List.take_length] at this)
              have WB := Lib.hid (qo_byte IM.out.out 34 34 rfl (by omega))
              go_wp2_with fail
              refine WB.out.mono ?_
              rintro e w6 ⟨rfl, q6⟩
              go_wp2
              go_roundw
              case rel => exact ⟨j + 1, M ++ [34], by go_num, by omega, by rw [List.length_append]; simp only [List.length_cons, List.length_nil]; omega, Lib.hid (by rw [HT.out, HW.out, HM2.out]; simp), Lib.hid q6⟩
              case measure => simp [intOf]; omega
    · have hjl2 : j = l.length := by omega
      have HLR : L = res := by have := HL.out; rw [HRES.out]; rwa [hjl2, List.take_length] at this
      subst HLR
      have QL0 := QL
      obtain ⟨v, hBl, hU⟩ := QL0.out
      have BS := Lib.hid (bstr_any wr w.heap.size w.heap.size v L hBl hU.size)
      have HU := Lib.hid hU
      clear hBl hU QL0
      go_wp2_with fail
      refine BS.out.mono ?_
      rintro e w9 ⟨rfl, bel⟩
      have UB := Lib.hid ((HU.out.trans (Upd.of_below bel) (fun i hi h => by omega)))
      clear bel
      go_wp2
      go_ret
      exact ⟨rfl, UB.out⟩
end Go.Proofs.YtkemjjhmabemiaaDoor
