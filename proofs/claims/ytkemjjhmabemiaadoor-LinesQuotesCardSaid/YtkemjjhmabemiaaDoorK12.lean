/- Walk: words as a line, by the document. -/
import Derived.Test.YtkemjjhmabemiaaDoorK11
import Derived.Test.YtkemjjhmabemiaaDoorK09
import Derived.Deep.DeepCutAuto
set_option linter.unusedVariables false
set_option linter.unusedSimpArgs false
namespace Go.Proofs.YtkemjjhmabemiaaDoor
open Go.RowKit
open Lin (Txt)

theorem dig_cut (k : Nat) (hk : k < 16) (w : World) : (Instr.slice 9 (.string { data := #[48, 49, 50, 51, 52, 53, 54, 55, 56, 57, 97, 98, 99, 100, 101, 102] }) (some (.int .u8 (k : Int))) (some (.int .u8 ((k : Int) + 1))) none).run Tryd.prog w = .ok (.string (ofL [Lin.digit k])) w := by
  have : k = 0 ∨ k = 1 ∨ k = 2 ∨ k = 3 ∨ k = 4 ∨ k = 5 ∨ k = 6 ∨ k = 7 ∨ k = 8 ∨ k = 9 ∨ k = 10 ∨ k = 11 ∨ k = 12 ∨ k = 13 ∨ k = 14 ∨ k = 15 := by omega
  rcases this with rfl | rfl | rfl | rfl | rfl | rfl | rfl | rfl | rfl | rfl | rfl | rfl | rfl | rfl | rfl | rfl <;>
  · simp [Instr.slice, run_underlying Tryd.underlying9, Instr.sliceBounds, run_sliceBound]; rfl
/-- What the tests on a byte say. -/
theorem rcases_byte (c : UInt8) : 
    (Lin.bareB c = true ∧ Lin.qb c = [c] ∧ 32 < (c.toNat : Int) ∧ (c.toNat : Int) < 127 ∧ ((c.toNat : Int) != 34) = true ∧ ((c.toNat : Int) != 39) = true ∧ ((c.toNat : Int) != 92) = true ∧ ((c.toNat : Int) == 34) = false ∧ ((c.toNat : Int) == 92) = false ∧ ¬ (c.toNat : Int) < 32 ∧ ¬ 126 < (c.toNat : Int)) ∨
    (Lin.bareB c = false ∧ Lin.qb c = [92, c] ∧ 32 < (c.toNat : Int) ∧ (c.toNat : Int) < 127 ∧ ((c.toNat : Int) != 34) = false ∧ ((c.toNat : Int) == 34) = true ∧ ¬ (c.toNat : Int) < 32 ∧ ¬ 126 < (c.toNat : Int)) ∨
    (Lin.bareB c = false ∧ Lin.qb c = [92, c] ∧ 32 < (c.toNat : Int) ∧ (c.toNat : Int) < 127 ∧ ((c.toNat : Int) != 34) = true ∧ ((c.toNat : Int) != 39) = true ∧ ((c.toNat : Int) != 92) = false ∧ ((c.toNat : Int) == 34) = false ∧ ((c.toNat : Int) == 92) = true ∧ ¬ (c.toNat : Int) < 32 ∧ ¬ 126 < (c.toNat : Int)) ∨
    (Lin.bareB c = false ∧ Lin.qb c = [c] ∧ 32 < (c.toNat : Int) ∧ (c.toNat : Int) < 127 ∧ ((c.toNat : Int) != 34) = true ∧ ((c.toNat : Int) != 39) = false ∧ ((c.toNat : Int) == 34) = false ∧ ((c.toNat : Int) == 92) = false ∧ ¬ (c.toNat : Int) < 32 ∧ ¬ 126 < (c.toNat : Int)) ∨
    (Lin.bareB c = false ∧ Lin.qb c = [c] ∧ ¬ 32 < (c.toNat : Int) ∧ ((c.toNat : Int) == 34) = false ∧ ((c.toNat : Int) == 92) = false ∧ ¬ (c.toNat : Int) < 32 ∧ ¬ 126 < (c.toNat : Int)) ∨
    (Lin.bareB c = false ∧ Lin.qb c = [92, 120, Lin.digit (c.toNat / 16), Lin.digit (c.toNat % 16)] ∧ ¬ 32 < (c.toNat : Int) ∧ ((c.toNat : Int) == 34) = false ∧ ((c.toNat : Int) == 92) = false ∧ (c.toNat : Int) < 32) ∨
    (Lin.bareB c = false ∧ Lin.qb c = [92, 120, Lin.digit (c.toNat / 16), Lin.digit (c.toNat % 16)] ∧ 32 < (c.toNat : Int) ∧ ¬ (c.toNat : Int) < 127 ∧ ((c.toNat : Int) == 34) = false ∧ ((c.toNat : Int) == 92) = false ∧ ¬ (c.toNat : Int) < 32 ∧ 126 < (c.toNat : Int)) := by
  by_cases h34 : c = 34
  · subst h34; right; left; decide
  · by_cases h92 : c = 92
    · subst h92; right; right; left; decide
    · by_cases h39 : c = 39
      · subst h39; right; right; right; left; decide
      · have a1 := u8f 34 h34 (by omega)
        have a2 := u8f 92 h92 (by omega)
        have n1 := u8n 34 h34 (by omega)
        have n2 := u8n 92 h92 (by omega)
        have n3 := u8n 39 h39 (by omega)
        have hn : ¬ (c = 34 ∨ c = 92) := by simp [h34, h92]
        by_cases h32 : c.toNat < 32
        · right; right; right; right; right; left
          exact ⟨by unfold Lin.bareB; have : ¬ 33 ≤ c.toNat := by omega
                    simp [this], by unfold Lin.qb; rw [if_neg hn, if_pos (Or.inl h32)], by omega, a1, a2, by omega⟩
        · by_cases h126 : 126 < c.toNat
          · right; right; right; right; right; right
            exact ⟨by unfold Lin.bareB; have : ¬ c.toNat ≤ 126 := by omega
                      simp [this], by unfold Lin.qb; rw [if_neg hn, if_pos (Or.inr h126)], by omega, by omega, a1, a2, by omega, by omega⟩
          · have hq : Lin.qb c = [c] := by unfold Lin.qb; rw [if_neg hn, if_neg (by omega)]
            by_cases h33 : c.toNat = 32
            · right; right; right; right; left
              exact ⟨by unfold Lin.bareB; have : ¬ 33 ≤ c.toNat := by omega
                        simp [this], hq, by omega, a1, a2, by omega, by omega⟩
            · left
              exact ⟨by unfold Lin.bareB; have e1 : 33 ≤ c.toNat := by omega
                        have e2 : c.toNat ≤ 126 := by omega
                        simp [e1, e2, h34, h39, h92], hq, by omega, by omega, n1, n3, n2, a1, a2, by omega, by omega⟩
theorem p0_of (j : Nat) (t : Txt) (c0 : UInt8) : (Lin.bare t = true ∧ (0 < j ∨ c0 ≠ 42)) ↔ (t.all Lin.bareB && (!t.isEmpty && !(decide (j = 0) && c0 == 42))) = true := by
  unfold Lin.bare
  by_cases h : c0 = 42
  · by_cases hj : j = 0
    · simp [h, hj]
    · have : 0 < j := by omega
      simp [h, hj, this]
  · simp [h]
theorem str1 (L : Txt) (c : UInt8) (b : ByteArray) (h : b = ofL [c]) : ofL L ++ b = ofL (L ++ [c]) := by rw [h, ofL_app]
set_option maxHeartbeats 8000000 in
set_option maxRecDepth 100000 in
theorem rquote_any (v0 : Value) (l : List Txt) (w : World) (hr : RowOf tcs 1 w v0 l) (h100 : l.length ≤ 100) (hz : ∀ t ∈ l, t.length ≤ 5000) :
    Calls Tryd.prog 22 #[v0] w fun e w' => e = .returned (.string (ofL (Lin.quote l))) ∧ Upd (fun _ => False) w w' := by
  obtain ⟨pv, cv, rfl, hlv⟩ := hr.len
  have HR := Lib.hid hr
  have HZ := Lib.hid hz
  have ON : Hid (∀ (c : UInt8) (w : World), Calls Tryd.prog 30 #[.int .u8 (c.toNat : Int)] w fun e w' => e = .returned (.string (ofL [c])) ∧ Upd (fun _ => False) w w') := Lib.hid (fun c w => one_any c w)
  have O92 : Hid (∀ (w : World), Calls Tryd.prog 30 #[.int .u8 92] w fun e w' => e = .returned (.string (ofL [92])) ∧ Upd (fun _ => False) w w') := Lib.hid (fun w => one_any 92 w)
  clear hr hz
  obtain ⟨res, hres⟩ : ∃ res, res = Lin.quote l := ⟨_, rfl⟩
  rw [← hres]
  have HRES := Lib.hid hres
  clear hres
  go_enter Tryd.func22, Tryd.ntmps22
  go_wp2
  go_loopw [3, 12] (fun v3 v12 wx => ∃ (j : Nat) (L : Txt), v12 = .int .i64 (j : Int) ∧ j ≤ l.length ∧ v3 = .string (ofL L) ∧ L.length ≤ j * 30000 ∧ Hid (L = Lin.quote (l.take j)) ∧ Hid (Upd (fun _ => False) w wx)) (fun _ v12 _ => l.length - (intOf v12).toNat)
  case atStart => exact ⟨0, [], rfl, by omega, rfl, by simp, Lib.hid (by simp [Lin.quote, Lin.quoteF]), Lib.hid (Upd.refl _ _)⟩
  case round =>
    obtain ⟨j, L, rfl, hj, rfl, hL, HL, U⟩ := hrel
    by_cases hjl : j < l.length
    · obtain ⟨t, ht⟩ : ∃ t, l[j]? = some t := ⟨_, List.getElem?_eq_getElem hjl⟩
      have q5 : (j : Int) < (l.length : Int) := by omega
      have HR2 := HR.out.keep U.out (fun _ _ _ => id)
      obtain ⟨b7, o7, c7, e7, hb7, _, hc7⟩ : ∃ b off cap, Value.slice pv l.length cv = .slice (some ⟨b, off, none⟩) l.length cap ∧ b < wr.heap.size ∧ l.length ≤ maxLen ∧ ∀ i a, l[i]? = some a → ∀ j, j < 1 → wr.cell? ⟨b, off + (i * 1 + j), none⟩ = (tcs a)[j]? := by
        rcases HR2 with ⟨_, _, _, e⟩ | h
        · rw [e] at hjl; simp at hjl
        · exact h
      have hcell : wr.cell? ⟨b7, o7 + j, none⟩ = some (.string (ofL t)) := by have := hc7 j t ht 0 (by omega); simpa [tcs] using this
      simp only [Value.slice.injEq] at e7
      obtain ⟨rfl, _, rfl⟩ := e7
      have ht5 := HZ.out t (List.mem_of_getElem? ht)
      have hts := ofL_size t
      have hLs := ofL_size L
      obtain ⟨L1, hL1⟩ : ∃ L1, L1 = L ++ (if 0 < j then [32] else []) := ⟨_, rfl⟩
      have HT := Lib.hid (show Lin.quote (l.take (j + 1)) = L1 ++ Lin.qw j t from by rw [Lin.quote_take ht, ← HL.out, hL1]; simp)
      have hL1l : L1.length ≤ j * 30000 + 1 := by rw [hL1]; split <;> (rw [List.length_append]; simp only [List.length_cons, List.length_nil]; omega)
      have HL1 := Lib.hid hL1
      have hL1s := ofL_size L1
      obtain ⟨wo, hwo⟩ : ∃ wo, wo = wr := ⟨_, rfl⟩
      subst hwo
      clear hc7 HR2 ht hL1
      go_upto_if 18 with (fail)
      go_cut [3] (fun v3 wx => v3 = .string (ofL L1) ∧ wx = wo)
      case first =>
        by_cases hj0 : 0 < j
        · have q6 : (0 : Int) < (j : Int) := by omega
          have e1 : L1 = L ++ [32] := by rw [HL1.out, if_pos hj0]
          go_wp2
          go_meet
          exact ⟨congrArg Value.string (by rw [e1]; exact str1 L 32 _ rfl), rfl⟩
        · have q6 : ¬ (0 : Int) < (j : Int) := by omega
          have e1 : L1 = L := by rw [HL1.out, if_neg hj0, List.append_nil]
          go_wp2
          go_meet
          exact ⟨congrArg Value.string (by rw [e1]), rfl⟩
      case rest =>
        obtain ⟨rfl, hwc⟩ := hcut
        subst hwc
        obtain ⟨P0, hP0⟩ : ∃ P0, P0 = (!t.isEmpty && !(decide (j = 0) && t.headD 0 == 42)) := ⟨_, rfl⟩
        have HPB : Hid ((P0 && t.all Lin.bareB) = true ↔ (Lin.bare t = true ∧ (0 < j ∨ t.headD 0 ≠ 42))) := Lib.hid (by rw [p0_of j t (t.headD 0), hP0, Bool.and_comm])
        have HP0 := Lib.hid hP0
        clear hP0
        go_upto_region 7 with (fail)
        go_cut [6] (fun v6 wx => v6 = .bool P0 ∧ wx = wc)
        case first =>
          by_cases ht0 : t = []
          · have hE : (ofL t).toList.isEmpty = true := by rw [ofL_toList, ht0]; rfl
            have e0 : P0 = false := by rw [HP0.out, ht0]; rfl
            clear ht0
            go_wp2
            go_meet
            exact ⟨by rw [e0], rfl⟩
          · have hE : (ofL t).toList.isEmpty = false := by
              rw [ofL_toList]
              cases t with
              | nil => exact absurd rfl ht0
              | cons _ _ => rfl
            obtain ⟨c0, hc0⟩ : ∃ c, t[0]? = some c := by
              cases t with
              | nil => exact absurd rfl ht0
              | cons c r => exact ⟨c, rfl⟩
            have hch : t.headD 0 = c0 := by
              cases t with
              | nil => simp at hc0
              | cons c r => simpa using hc0
            have rx0 : ∀ w, (Instr.index 9 (.string (ofL t)) (.int .i64 0)).run Tryd.prog w = .ok (.int .u8 (c0.toNat : Int)) w := fun w => run_at t 0 c0 hc0 w
            have e1 : (!t.isEmpty) = true := by cases t <;> simp at ht0 ⊢
            by_cases hj0 : 0 < j
            · have q7 : ((j : Int) == 0) = false := by rw [beq_eq_false_iff_ne]; omega
              have e0 : P0 = true := by rw [HP0.out, e1, decide_eq_false (by omega : ¬ j = 0)]; rfl
              clear ht0 hc0 hch e1
              generalize (c0.toNat : Int) = xc at *
              go_wp2
              go_meet
              exact ⟨by rw [e0], rfl⟩
            · have q7 : ((j : Int) == 0) = true := by rw [beq_iff_eq]; omega
              by_cases h42 : c0 = 42
              · have q8 : ((c0.toNat : Int) == 42) = true := u8t 42 h42 (by omega)
                have e0 : P0 = false := by rw [HP0.out, e1, hch, h42, decide_eq_true (by omega : j = 0)]; rfl
                clear ht0 hc0 hch e1 h42
                generalize (c0.toNat : Int) = xc at *
                go_wp2
                go_meet
                exact ⟨by rw [e0], rfl⟩
              · have q8 : ((c0.toNat : Int) == 42) = false := u8f 42 h42 (by omega)
                have e0 : P0 = true := by rw [HP0.out, e1, hch, decide_eq_true (by omega : j = 0)]; simp [h42]
                clear ht0 hc0 hch e1 h42
                generalize (c0.toNat : Int) = xc at *
                go_wp2
                go_meet
                exact ⟨by rw [e0], rfl⟩
        case rest =>
          obtain ⟨rfl, hwc⟩ := hcut
          subst hwc
          go_wp2
          go_loopw [6, 7, 8] (fun v6 v7 v8 wy => ∃ (k : Nat) (p : Bool) (y : Txt), v8 = .int .i64 (k : Int) ∧ k ≤ t.length ∧ v6 = .bool p ∧ v7 = .string (ofL y) ∧ Hid (p = (P0 && (t.take k).all Lin.bareB)) ∧ Hid (y = (t.take k).flatMap Lin.qb) ∧ y.length ≤ 4 * k ∧ Hid (Upd (fun _ => False) w wy)) (fun _ _ v8 _ => t.length - (intOf v8).toNat)
          case atStart => exact ⟨0, P0, [], rfl, by omega, rfl, rfl, Lib.hid (by simp), Lib.hid (by simp), by simp, U⟩
          case round =>
            clear U
            obtain ⟨k, p, y, rfl, hk, rfl, rfl, PB, HY, hy, U⟩ := hrel
            by_cases hkt : k < t.length
            · obtain ⟨c, hc⟩ : ∃ c, t[k]? = some c := ⟨_, List.getElem?_eq_getElem hkt⟩
              have rx := run_at t k c hc
              have hys := ofL_size y
              have hcs : (ofL [c]).size = 1 := ofL_size _
              have h92s : (ofL [92]).size = 1 := ofL_size _
              have q9 : (k : Int) < (t.length : Int) := by omega
              have HK := Lib.hid (Lin.qbs_take hc)
              have HP3 : Hid ((t.take (k + 1)).all Lin.bareB = ((t.take k).all Lin.bareB && Lin.bareB c)) := Lib.hid (by
                obtain ⟨hj, e⟩ := List.getElem?_eq_some_iff.1 hc
                rw [List.take_succ_eq_append_getElem hj, e]; simp)
              have RC := rcases_byte c
              clear hc
              go_upto_region 13 with (fail)
              go_cut [6] (fun v6 wx => v6 = .bool (p && Lin.bareB c) ∧ wx = wr)
              case first =>
                rcases RC with ⟨hbb, hqb, g1, g2, g3, g4, g5, g6, g7, g8, g9⟩ | ⟨hbb, hqb, g1, g2, g3, g6, g8, g9⟩ | ⟨hbb, hqb, g1, g2, g3, g4, g5, g6, g7, g8, g9⟩ | ⟨hbb, hqb, g1, g2, g3, g4, g6, g7, g8, g9⟩ | ⟨hbb, hqb, g1, g6, g7, g8, g9⟩ | ⟨hbb, hqb, g1, g6, g7, g8⟩ | ⟨hbb, hqb, g1, g2, g6, g7, g8, g9⟩
                all_goals
                  have HBB := Lib.hid hbb
                  clear hbb hqb
                  cases p
                  all_goals
                    go_wp2
                    go_meet
                    exact ⟨by rw [HBB.out]; rfl, rfl⟩
              case rest =>
                obtain ⟨rfl, hwc⟩ := hcut
                subst hwc
                rcases RC with ⟨hbb, hqb, g1, g2, g3, g4, g5, g6, g7, g8, g9⟩ | ⟨hbb, hqb, g1, g2, g3, g6, g8, g9⟩ | ⟨hbb, hqb, g1, g2, g3, g4, g5, g6, g7, g8, g9⟩ | ⟨hbb, hqb, g1, g2, g3, g4, g6, g7, g8, g9⟩ | ⟨hbb, hqb, g1, g6, g7, g8, g9⟩ | ⟨hbb, hqb, g1, g6, g7, g8⟩ | ⟨hbb, hqb, g1, g2, g6, g7, g8, g9⟩
                all_goals
                  have HQB := Lib.hid hqb
                  clear hbb hqb
                · go_wp2_with (go_at_call 30; refine (ON.out c _).mono ?_; rintro e w5 ⟨rfl, u5⟩)
                  have U5 := Lib.hid (upd0 U.out u5)
                  clear u5
                  go_roundw
                  case rel => exact ⟨k + 1, _, y ++ [c], by go_num, by omega, rfl, congrArg Value.string (by simp only [ofL_app, ByteArray.append_assoc]; try rfl), Lib.hid (by rw [HP3.out, PB.out, Bool.and_assoc]), Lib.hid (by rw [HY.out, HK.out, HQB.out]), by rw [List.length_append]; simp only [List.length_cons, List.length_nil]; omega, U5⟩
                  case measure => simp [intOf]; omega
                · go_wp2_with fail
                  refine (O92.out _).mono ?_
                  rintro e w4 ⟨rfl, u4⟩
                  have U4 := Lib.hid (upd0 U.out u4)
                  clear u4
                  go_wp2_with (go_at_call 30; refine (ON.out c _).mono ?_; rintro e w5 ⟨rfl, u5⟩)
                  have U5 := Lib.hid (upd0 U4.out u5)
                  clear u5
                  go_roundw
                  case rel => exact ⟨k + 1, _, y ++ [92, c], by go_num, by omega, rfl, congrArg Value.string (by simp only [ofL_app, ByteArray.append_assoc]; try rfl), Lib.hid (by rw [HP3.out, PB.out, Bool.and_assoc]), Lib.hid (by rw [HY.out, HK.out, HQB.out]), by rw [List.length_append]; simp only [List.length_cons, List.length_nil]; omega, U5⟩
                  case measure => simp [intOf]; omega
                · go_wp2_with fail
                  refine (O92.out _).mono ?_
                  rintro e w4 ⟨rfl, u4⟩
                  have U4 := Lib.hid (upd0 U.out u4)
                  clear u4
                  go_wp2_with (go_at_call 30; refine (ON.out c _).mono ?_; rintro e w5 ⟨rfl, u5⟩)
                  have U5 := Lib.hid (upd0 U4.out u5)
                  clear u5
                  go_roundw
                  case rel => exact ⟨k + 1, _, y ++ [92, c], by go_num, by omega, rfl, congrArg Value.string (by simp only [ofL_app, ByteArray.append_assoc]; try rfl), Lib.hid (by rw [HP3.out, PB.out, Bool.and_assoc]), Lib.hid (by rw [HY.out, HK.out, HQB.out]), by rw [List.length_append]; simp only [List.length_cons, List.length_nil]; omega, U5⟩
                  case measure => simp [intOf]; omega
                · go_wp2_with (go_at_call 30; refine (ON.out c _).mono ?_; rintro e w5 ⟨rfl, u5⟩)
                  have U5 := Lib.hid (upd0 U.out u5)
                  clear u5
                  go_roundw
                  case rel => exact ⟨k + 1, _, y ++ [c], by go_num, by omega, rfl, congrArg Value.string (by simp only [ofL_app, ByteArray.append_assoc]; try rfl), Lib.hid (by rw [HP3.out, PB.out, Bool.and_assoc]), Lib.hid (by rw [HY.out, HK.out, HQB.out]), by rw [List.length_append]; simp only [List.length_cons, List.length_nil]; omega, U5⟩
                  case measure => simp [intOf]; omega
                · go_wp2_with (go_at_call 30; refine (ON.out c _).mono ?_; rintro e w5 ⟨rfl, u5⟩)
                  have U5 := Lib.hid (upd0 U.out u5)
                  clear u5
                  go_roundw
                  case rel => exact ⟨k + 1, _, y ++ [c], by go_num, by omega, rfl, congrArg Value.string (by simp only [ofL_app, ByteArray.append_assoc]; try rfl), Lib.hid (by rw [HP3.out, PB.out, Bool.and_assoc]), Lib.hid (by rw [HY.out, HK.out, HQB.out]), by rw [List.length_append]; simp only [List.length_cons, List.length_nil]; omega, U5⟩
                  case measure => simp [intOf]; omega
                · have hc256 : c.toNat < 256 := c.toNat_lt
                  have d1 := fun w => dig_cut (c.toNat / 16) (by omega) w
                  have d2 := fun w => dig_cut (c.toNat % 16) (by omega) w
                  have ed1 : (c.toNat : Int).tdiv 16 = ((c.toNat / 16 : Nat) : Int) := by rw [Int.tdiv_eq_ediv_of_nonneg (by omega)]; omega
                  have ed2 : (c.toNat : Int).tmod 16 = ((c.toNat % 16 : Nat) : Int) := by rw [Int.tmod_eq_emod_of_nonneg (by omega)]; omega
                  have hb1 : (c.toNat / 16 : Nat) < 16 := by omega
                  have hb2 : (c.toNat % 16 : Nat) < 16 := by omega
                  have hx0 : (0 : Int) ≤ (c.toNat : Int) := by omega
                  have hs1 : (ofL [Lin.digit (c.toNat / 16)]).size = 1 := ofL_size _
                  have hs2 : (ofL [Lin.digit (c.toNat % 16)]).size = 1 := ofL_size _
                  generalize Lin.digit (c.toNat / 16) = x1 at *
                  generalize Lin.digit (c.toNat % 16) = x2 at *
                  generalize c.toNat / 16 = a1 at *
                  generalize c.toNat % 16 = a2 at *
                  have ew1 : IntKind.u8.wrap (a1 : Int) = (a1 : Int) := by unfold IntKind.wrap; simp [IntKind.bits, IntKind.signed]; omega
                  have ew3 : IntKind.u8.wrap ((a1 : Int) + 1) = (a1 : Int) + 1 := by unfold IntKind.wrap; simp [IntKind.bits, IntKind.signed]; omega
                  have ew2 : IntKind.u8.wrap ((a2 : Int) + 1) = (a2 : Int) + 1 := by unfold IntKind.wrap; simp [IntKind.bits, IntKind.signed]; omega
                  have O92 : Hid (Calls Tryd.prog 30 #[.int .u8 92] wc.drew fun e w' => e = .returned (.string (ofL [92])) ∧ Upd (fun _ => False) wc w') := Lib.hid ((O92.out wc.drew).mono fun e w' ⟨h1, h2⟩ => ⟨h1, ((Upd.refl _ wc).drew).trans h2 (fun _ _ h => h)⟩)
                  go_wp2
                  go_region_with (go_at_call 30; refine O92.out.mono ?_; rintro e w4 ⟨rfl, u4⟩)
                  all_goals
                    have U5 := Lib.hid (upd0 U.out u4)
                    clear u4
                    go_wp2
                    go_roundw
                    case rel => exact ⟨k + 1, _, y ++ [92, 120, x1, x2], by go_num, by omega, rfl, congrArg Value.string (by simp only [ofL_app, ByteArray.append_assoc]; try rfl), Lib.hid (by rw [HP3.out, PB.out, Bool.and_assoc]), Lib.hid (by rw [HY.out, HK.out, HQB.out]), by rw [List.length_append]; simp only [List.length_cons, List.length_nil]; omega, U5⟩
                    case measure => simp [intOf]; omega
                · have hc256 : c.toNat < 256 := c.toNat_lt
                  have d1 := fun w => dig_cut (c.toNat / 16) (by omega) w
                  have d2 := fun w => dig_cut (c.toNat % 16) (by omega) w
                  have ed1 : (c.toNat : Int).tdiv 16 = ((c.toNat / 16 : Nat) : Int) := by rw [Int.tdiv_eq_ediv_of_nonneg (by omega)]; omega
                  have ed2 : (c.toNat : Int).tmod 16 = ((c.toNat % 16 : Nat) : Int) := by rw [Int.tmod_eq_emod_of_nonneg (by omega)]; omega
                  have hb1 : (c.toNat / 16 : Nat) < 16 := by omega
                  have hb2 : (c.toNat % 16 : Nat) < 16 := by omega
                  have hx0 : (0 : Int) ≤ (c.toNat : Int) := by omega
                  have hs1 : (ofL [Lin.digit (c.toNat / 16)]).size = 1 := ofL_size _
                  have hs2 : (ofL [Lin.digit (c.toNat % 16)]).size = 1 := ofL_size _
                  generalize Lin.digit (c.toNat / 16) = x1 at *
                  generalize Lin.digit (c.toNat % 16) = x2 at *
                  generalize c.toNat / 16 = a1 at *
                  generalize c.toNat % 16 = a2 at *
                  have ew1 : IntKind.u8.wrap (a1 : Int) = (a1 : Int) := by unfold IntKind.wrap; simp [IntKind.bits, IntKind.signed]; omega
                  have ew3 : IntKind.u8.wrap ((a1 : Int) + 1) = (a1 : Int) + 1 := by unfold IntKind.wrap; simp [IntKind.bits, IntKind.signed]; omega
                  have ew2 : IntKind.u8.wrap ((a2 : Int) + 1) = (a2 : Int) + 1 := by unfold IntKind.wrap; simp [IntKind.bits, IntKind.signed]; omega
                  have O92 : Hid (Calls Tryd.prog 30 #[.int .u8 92] wc.drew fun e w' => e = .returned (.string (ofL [92])) ∧ Upd (fun _ => False) wc w') := Lib.hid ((O92.out wc.drew).mono fun e w' ⟨h1, h2⟩ => ⟨h1, ((Upd.refl _ wc).drew).trans h2 (fun _ _ h => h)⟩)
                  go_wp2
                  go_region_with (go_at_call 30; refine O92.out.mono ?_; rintro e w4 ⟨rfl, u4⟩)
                  all_goals
                    have U5 := Lib.hid (upd0 U.out u4)
                    clear u4
                    go_wp2
                    go_roundw
                    case rel => exact ⟨k + 1, _, y ++ [92, 120, x1, x2], by go_num, by omega, rfl, congrArg Value.string (by simp only [ofL_app, ByteArray.append_assoc]; try rfl), Lib.hid (by rw [HP3.out, PB.out, Bool.and_assoc]), Lib.hid (by rw [HY.out, HK.out, HQB.out]), by rw [List.length_append]; simp only [List.length_cons, List.length_nil]; omega, U5⟩
                    case measure => simp [intOf]; omega
            · have hkl : k = t.length := by omega
              have hys := ofL_size y
              have hL1s := ofL_size L1
              have q9 : ¬ (k : Int) < (t.length : Int) := by omega
              have HY2 : Hid (y = t.flatMap Lin.qb) := Lib.hid (by have := HY.out; rwa [hkl, List.take_length] at this)
              have PB2 : Hid (p = (P0 && t.all Lin.bareB)) := Lib.hid (by have := PB.out; rwa [hkl, List.take_length] at this)
              clear HY PB
              cases p with
              | true =>
                have HW : Hid (Lin.qw j t = t) := Lib.hid (by unfold Lin.qw; rw [if_pos (HPB.out.1 PB2.out.symm)])
                go_wp2
                go_roundw
                case rel => exact ⟨j + 1, L1 ++ t, by go_num, by omega, congrArg Value.string (by simp only [ofL_app, ByteArray.append_assoc]), by rw [List.length_append]; omega, Lib.hid (by rw [HT.out, HW.out]), U⟩
                case measure => simp [intOf]; omega
              | false =>
                have HW : Hid (Lin.qw j t = 34 :: (t.flatMap Lin.qb ++ [34])) := Lib.hid (by unfold Lin.qw; rw [if_neg (fun h => by have h1 := HPB.out.2 h; rw [← PB2.out] at h1; cases h1)])
                go_wp2
                go_roundw
                case rel => exact ⟨j + 1, L1 ++ (34 :: (y ++ [34])), by go_num, by omega, congrArg Value.string (by rw [show L1 ++ (34 :: (y ++ [34])) = L1 ++ ([34] ++ y ++ [34]) by simp]; simp only [ofL_app]; rfl), by simp only [List.length_append, List.length_cons, List.length_nil]; omega, Lib.hid (by rw [HT.out, HW.out, HY2.out]), U⟩
                case measure => simp [intOf]; omega
    · have hjl2 : j = l.length := by omega
      have HLR : L = res := by have := HL.out; rw [HRES.out]; rwa [hjl2, List.take_length] at this
      subst HLR
      go_wp2
      go_ret
      exact ⟨rfl, U.out⟩
end Go.Proofs.YtkemjjhmabemiaaDoor
