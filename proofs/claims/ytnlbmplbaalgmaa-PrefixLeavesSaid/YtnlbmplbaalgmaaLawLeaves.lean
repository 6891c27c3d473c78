/- PrefixLeaves: the walk. -/
import Derived.Test.YtnlbmplbaalgmaaPfxG
set_option linter.unusedVariables false
set_option linter.unusedSimpArgs false
namespace Go.Proofs.Ytnlbmplbaalgmaa
open Go.RowKit

theorem nodes_none : NodesN [] 1 := ⟨[[]], by simp, rfl, fun t => by simp⟩
theorem keys_none {L : List MarkP} {P : Txt → Int → Prop} (h : KeysOf P L) (hP : ∀ t i, ¬ P t i) : L = [] := by
  cases L with
  | nil => rfl
  | cons m L => obtain ⟨i, hi⟩ := (h.2 m.1).1 ⟨m.2, by simp⟩; exact absurd hi (hP _ _)
/-- Who was told of what, by the acts so far. -/
def told (l : List Act15) : Txt → Int → Prop := fun t i => ∃ a ∈ l, a.key = t ∧ a.id = i
theorem told_snoc {l : List Act15} {a : Act15} (t : Txt) (i : Int) : told (l ++ [a]) t i ↔ told l t i ∨ t = a.key ∧ i = a.id := by
  unfold told
  constructor
  · rintro ⟨b, hb, e1, e2⟩
    rcases List.mem_append.1 hb with g | g
    · exact Or.inl ⟨b, g, e1, e2⟩
    · rw [List.mem_singleton] at g; subst g; exact Or.inr ⟨e1.symm, e2.symm⟩
  · rintro (⟨b, hb, e1, e2⟩ | ⟨e1, e2⟩)
    · exact ⟨b, List.mem_append_left _ hb, e1, e2⟩
    · exact ⟨a, by simp, e1.symm, e2.symm⟩
set_option maxHeartbeats 16000000 in
set_option maxRecDepth 100000 in
theorem lawLeaves (v0 : Value) (l : List Act15) (key : Txt) (w : World) (r0 : RowOf act15c 3 w v0 l) (hk : key.length ≤ maxLen) :
    Calls Try.prog 9 #[v0, .string (ofL key)] w fun e w' => e = .returned (.bool true) ∧ Upd (fun _ => False) w w' := by
  obtain ⟨p0, k0, e0, hm0⟩ := r0.len
  subst e0
  have AL := Lib.hid (alive15_any w)
  have R0 := Lib.hid r0
  have asz := ofL_size key
  obtain ⟨sk, hsk⟩ : ∃ sk, sk = ofL key := ⟨_, rfl⟩
  rw [← hsk] at asz
  rw [← hsk]
  have SK := Lib.hid hsk
  clear r0 hsk
  unfold maxLen at hm0 hk
  go_enter Try.func9, Try.ntmps9
  go_wp2_with fail
  refine (AL.out).mono ?_
  rintro e w1 ⟨rfl, u1⟩
  have U1 := Lib.hid u1
  clear u1 AL
  by_cases hgr : 60 < l.length
  · have q0 : (60 : Int) < (l.length : Int) := by omega
    generalize l.length = nl at *
    generalize key.length = nk at *
    go_wp2
    go_ret
    exact ⟨rfl, U1.out⟩
  · have q0 : ¬ (60 : Int) < (l.length : Int) := by omega
    by_cases hgk : 100 < key.length
    · have qa : (100 : Int) < (key.length : Int) := by omega
      generalize l.length = nl at *
      generalize key.length = nk at *
      go_wp2
      go_ret
      exact ⟨rfl, U1.out⟩
    · have qa : ¬ (100 : Int) < (key.length : Int) := by omega
      have NW := Lib.hid (pnew_any w1 w1.heap.size (Nat.le_refl _))
      go_wp2_with fail
      refine (NW.out).mono ?_
      rintro e w2 ⟨pb, F, rfl, h2, u2, f2⟩
      obtain ⟨base, hbase⟩ : ∃ base, base = w1.heap.size := ⟨_, rfl⟩
      rw [← hbase] at h2
      have HB : Hid (w.heap.size ≤ base) := by rw [hbase]; exact U1.out.size
      have PS2 : Hid (PSt w2 base pb (fun _ => False) (told (l.take 0)) 0) := ⟨⟨F, h2.congr (fun t i => by simp [told]), fun _ _ h => h⟩, fun _ h => h.elim, by rw [hbase]; exact u2.size⟩
      have U2 := Lib.hid (U1.out.trans u2 (fun _ _ h => h))
      clear h2 u2 f2 NW hbase
      go_wp2
      go_loopw [29] (fun x29 wr => ∃ (k : Nat), x29 = .int .i64 (k : Int) ∧ k ≤ l.length ∧ Hid (PSt wr base pb (fun _ => False) (told (l.take k)) k) ∧ Hid (Upd (fun _ => False) w wr)) (fun x29 _ => l.length - (intOf x29).toNat)
      case atStart => exact ⟨0, rfl, Nat.zero_le _, PS2, U2⟩
      case round =>
        obtain ⟨k, rfl, hkl, PS, U⟩ := hrel
        by_cases hlt : k < l.length
        · have q1 : (k : Int) < (l.length : Int) := by omega
          obtain ⟨b, off, a, ep, hb, hak, c0, c1, c2⟩ := act15_cells (R0.out.keep U.out (fun _ _ _ h => h)) hlt
          subst ep
          have tsz := ofL_size a.key
          obtain ⟨st, hst⟩ : ∃ st, st = ofL a.key := ⟨_, rfl⟩
          rw [← hst] at c2 tsz
          by_cases h30 : 100 < a.key.length
          · have q2 : (100 : Int) < (a.key.length : Int) := by omega
            clear hst hak
            generalize l.length = nl at *
            generalize a.key.length = nt at *
            generalize key.length = nk at *
            go_wp2
            go_ret
            exact ⟨rfl, U.out.alloc _⟩
          · have q2 : ¬ (100 : Int) < (a.key.length : Int) := by omega
            have TK : Hid (l.take (k + 1) = l.take k ++ [a]) := by
              obtain ⟨h1, e⟩ := List.getElem?_eq_some_iff.1 hak
              show _ = _; rw [List.take_succ_eq_append_getElem h1, e]
            have ua : Upd (fun _ => False) wr (wr.alloc (.cells #[.int .i64 a.kind, .int .i64 a.id, .string st] 54)) := (Upd.refl _ _).alloc _
            have PSA := PS.out.also (Y := fun b => b = wr.heap.size) ua (fun b hb => Or.inr ⟨by omega, by rw [World.size_alloc]; omega⟩)
            have BXA := Blk.made wr [.int .i64 a.kind, .int .i64 a.id, .string st] 54
            have AD := PSA.add a.key a.id (by omega) (by omega)
            rw [← hst] at AD
            have AD := Lib.hid AD
            have BXA := Lib.hid BXA
            have HST := Lib.hid hst
            have RT := Lib.hid (fun h => run_take key (a.key.length : Int) (by omega) h)
            have BQ0 := beq_txt (key.take a.key.length) a.key
            rw [← hst] at BQ0
            have UA : Hid (Upd (fun _ => False) w (wr.alloc (.cells #[.int .i64 a.kind, .int .i64 a.id, .string st] 54))) := U.out.alloc _
            have hDb := PS.out.bl
            clear hst hak ua PSA
            go_wp2_with fail
            refine (AD.out).mono ?_
            rintro e w4 ⟨he, ps4, u4⟩
            have PS4 : Hid (PSt w4 base pb (fun b => b = wr.heap.size) (told (l.take (k + 1))) (k + 1)) := by rw [TK.out]; exact ps4.congr (fun t i => (told_snoc t i).symm)
            have U4 : Hid (Upd (fun _ => False) w w4) := UA.out.trans u4 (fun b hb e => by have := e.1; have := HB.out; omega)
            have BX4 : Hid (Blk w4 wr.heap.size [.int .i64 a.kind, .int .i64 a.id, .string st] 54) := u4.blk BXA.out (fun e => e.2 rfl)
            have x1 := BX4.out.cellAt (i := 1) (v := .int .i64 a.id) rfl
            have x2 := BX4.out.cellAt (i := 2) (v := .string st) rfl
            obtain ⟨eb, rfl⟩ : ∃ eb : Bool, e = .returned (.bool eb) := by
              rcases he with ⟨rfl, _⟩ | ⟨rfl, _⟩
              · exact ⟨_, rfl⟩
              · exact ⟨_, rfl⟩
            clear ps4 u4 AD he c0 c1 c2
            clear q2
            by_cases hle : a.key.length ≤ key.length
            · have q3 : (a.key.length : Int) ≤ (key.length : Int) := by omega
              have rt := RT.out q3
              rw [Int.toNat_natCast, ← SK.out] at rt
              clear RT
              have HIN : Hid (told (l.take (k + 1)) a.key a.id) := by show told _ _ _; rw [TK.out]; exact (told_snoc _ _).2 (Or.inr ⟨rfl, rfl⟩)
              by_cases hp : a.key <+: key
              · rw [take_pre.2 hp, HST.out.symm, decide_eq_true rfl] at BQ0
                rw [take_pre.2 hp, HST.out.symm] at rt
                have PRE := Lib.hid hp
                clear hp
                go_wp2
                go_quiet (fail)
                have MA := (PS4.out.keep0 ((Upd.refl _ _).drewN nq)).match_ key (by omega) (by omega)
                rw [← SK.out] at MA
                have MA := Lib.hid MA
                go_wp2_with fail
                refine (MA.out).mono ?_
                rintro e w6 ⟨v4, l4, rfl, i4, r4, m4, u6⟩
                have U6 : Hid (Upd (fun _ => False) w w6) := (U4.out.drewN nq).trans u6 (fun _ _ h => h)
                have PS6 := Lib.hid ((PS4.out.keep0 ((Upd.refl _ _).drewN nq)).keep0 u6)
                have BX6 : Hid (Blk w6 wr.heap.size [.int .i64 a.kind, .int .i64 a.id, .string st] 54) := u6.blk (BX4.out.drewN nq) (fun h => h)
                have I4 := Lib.hid i4
                have M4 := Lib.hid m4
                obtain ⟨p4, c4, ev4, hm4⟩ := own_slice i4
                subst ev4
                unfold maxLen at hm4
                clear i4 r4 m4 u6 MA x1 x2
                generalize hnm : l4.length = n4 at *
                go_wp2
                go_loopw [9, 63] (fun x9 x63 wr => ∃ (j : Nat) (b : Bool), x9 = .bool b ∧ x63 = .int .i64 (j : Int) ∧ j ≤ n4 ∧ Hid (b = decide (a.id ∈ l4.take j)) ∧ Hid (Upd (fun _ => False) w6 wr)) (fun _ x63 _ => n4 - (intOf x63).toNat)
                case atStart => exact ⟨0, false, rfl, rfl, by omega, Lib.hid (by simp), Lib.hid (Upd.refl _ _)⟩
                case round =>
                  obtain ⟨j, b, rfl, rfl, hj, BB, UQ⟩ := hrel
                  by_cases hjl : j < n4
                  · have q5 : (j : Int) < (n4 : Int) := by omega
                    obtain ⟨g4, ep4, hg4, ck4⟩ := ints_get (p := p4) (c := c4) (l := l4) (IntsAt.keep (by rw [hnm]; exact I4.out) UQ.out (fun _ _ h => h)) (show j < l4.length by omega)
                    subst ep4
                    have cq := ((UQ.out.blk BX6.out (fun h => h)).cellAt (i := 1) (v := .int .i64 a.id) rfl)
                    have BB2 : Hid ((b || decide (l4[j]'(by omega) = a.id)) = decide (a.id ∈ l4.take (j + 1))) := by
                      show _ = _
                      rw [BB.out, List.take_succ_eq_append_getElem (by omega)]
                      rw [Bool.eq_iff_iff]
                      simp only [Bool.or_eq_true, decide_eq_true_eq, List.mem_append, List.mem_singleton]
                      exact or_congr Iff.rfl eq_comm
                    generalize (l4[j]'(by omega)) = y at *
                    cases b with
                    | true =>
                      go_wp2
                      go_roundw
                      case rel => exact ⟨j + 1, true, rfl, by simp, by omega, BB2, UQ⟩
                      case measure => simp [intOf]; omega
                    | false =>
                      have BB2 : Hid (decide (y = a.id) = decide (a.id ∈ l4.take (j + 1))) := by have := BB2.out; rw [Bool.false_or] at this; exact this
                      by_cases hy : y = a.id
                      · rw [decide_eq_true hy] at BB2
                        rw [hy] at ck4
                        go_wp2
                        go_roundw
                        case rel => exact ⟨j + 1, true, rfl, by simp, by omega, BB2, UQ⟩
                        case measure => simp [intOf]; omega
                      · rw [decide_eq_false hy] at BB2
                        go_wp2
                        go_roundw
                        case rel => exact ⟨j + 1, false, by simp [hy], by simp, by omega, BB2, UQ⟩
                        case measure => simp [intOf]; omega
                  · have q5 : ¬ (j : Int) < (n4 : Int) := by omega
                    have BF : Hid (b = decide (a.id ∈ l4)) := by show _ = _; rw [BB.out, List.take_of_length_le (by omega)]
                    have hsize := UQ.out.size
                    have UF : Hid (Upd (fun _ => False) w wr) := U6.out.trans UQ.out (fun _ _ h => h)
                    have PF : Hid (PSt wr base pb (fun _ => False) (told (l.take (k + 1))) (k + 1)) := (PS6.out.keep0 UQ.out).less (fun _ h => h.elim)
                    (obtain rfl : b = true := by rw [BF.out]; exact decide_eq_true ((M4.out a.id).2 ⟨a.key, PRE.out, HIN.out⟩)); go_wp2; go_roundw; (case rel => exact ⟨k + 1, by simp, by omega, PF, UF⟩); (case measure => simp [intOf]; omega)
              · rw [decide_eq_false (fun e => hp (take_pre.1 e))] at BQ0
                clear hp
                go_wp2
                go_quiet (fail)
                have MA := (PS4.out.keep0 ((Upd.refl _ _).drewN nq)).match_ key (by omega) (by omega)
                rw [← SK.out] at MA
                have MA := Lib.hid MA
                go_wp2_with fail
                refine (MA.out).mono ?_
                rintro e w6 ⟨v4, l4, rfl, i4, r4, m4, u6⟩
                have U6 : Hid (Upd (fun _ => False) w w6) := (U4.out.drewN nq).trans u6 (fun _ _ h => h)
                have PS6 := Lib.hid ((PS4.out.keep0 ((Upd.refl _ _).drewN nq)).keep0 u6)
                have BX6 : Hid (Blk w6 wr.heap.size [.int .i64 a.kind, .int .i64 a.id, .string st] 54) := u6.blk (BX4.out.drewN nq) (fun h => h)
                have I4 := Lib.hid i4
                have M4 := Lib.hid m4
                obtain ⟨p4, c4, ev4, hm4⟩ := own_slice i4
                subst ev4
                unfold maxLen at hm4
                clear i4 r4 m4 u6 MA x1 x2
                generalize hnm : l4.length = n4 at *
                go_wp2
                go_loopw [9, 63] (fun x9 x63 wr => ∃ (j : Nat) (b : Bool), x9 = .bool b ∧ x63 = .int .i64 (j : Int) ∧ j ≤ n4 ∧ Hid (b = decide (a.id ∈ l4.take j)) ∧ Hid (Upd (fun _ => False) w6 wr)) (fun _ x63 _ => n4 - (intOf x63).toNat)
                case atStart => exact ⟨0, false, rfl, rfl, by omega, Lib.hid (by simp), Lib.hid (Upd.refl _ _)⟩
                case round =>
                  obtain ⟨j, b, rfl, rfl, hj, BB, UQ⟩ := hrel
                  by_cases hjl : j < n4
                  · have q5 : (j : Int) < (n4 : Int) := by omega
                    obtain ⟨g4, ep4, hg4, ck4⟩ := ints_get (p := p4) (c := c4) (l := l4) (IntsAt.keep (by rw [hnm]; exact I4.out) UQ.out (fun _ _ h => h)) (show j < l4.length by omega)
                    subst ep4
                    have cq := ((UQ.out.blk BX6.out (fun h => h)).cellAt (i := 1) (v := .int .i64 a.id) rfl)
                    have BB2 : Hid ((b || decide (l4[j]'(by omega) = a.id)) = decide (a.id ∈ l4.take (j + 1))) := by
                      show _ = _
                      rw [BB.out, List.take_succ_eq_append_getElem (by omega)]
                      rw [Bool.eq_iff_iff]
                      simp only [Bool.or_eq_true, decide_eq_true_eq, List.mem_append, List.mem_singleton]
                      exact or_congr Iff.rfl eq_comm
                    generalize (l4[j]'(by omega)) = y at *
                    cases b with
                    | true =>
                      go_wp2
                      go_roundw
                      case rel => exact ⟨j + 1, true, rfl, by simp, by omega, BB2, UQ⟩
                      case measure => simp [intOf]; omega
                    | false =>
                      have BB2 : Hid (decide (y = a.id) = decide (a.id ∈ l4.take (j + 1))) := by have := BB2.out; rw [Bool.false_or] at this; exact this
                      by_cases hy : y = a.id
                      · rw [decide_eq_true hy] at BB2
                        rw [hy] at ck4
                        go_wp2
                        go_roundw
                        case rel => exact ⟨j + 1, true, rfl, by simp, by omega, BB2, UQ⟩
                        case measure => simp [intOf]; omega
                      · rw [decide_eq_false hy] at BB2
                        go_wp2
                        go_roundw
                        case rel => exact ⟨j + 1, false, by simp [hy], by simp, by omega, BB2, UQ⟩
                        case measure => simp [intOf]; omega
                  · have q5 : ¬ (j : Int) < (n4 : Int) := by omega
                    have BF : Hid (b = decide (a.id ∈ l4)) := by show _ = _; rw [BB.out, List.take_of_length_le (by omega)]
                    have hsize := UQ.out.size
                    have UF : Hid (Upd (fun _ => False) w wr) := U6.out.trans UQ.out (fun _ _ h => h)
                    have PF : Hid (PSt wr base pb (fun _ => False) (told (l.take (k + 1))) (k + 1)) := (PS6.out.keep0 UQ.out).less (fun _ h => h.elim)
                    go_wp2; go_roundw; (case rel => exact ⟨k + 1, by simp, by omega, PF, UF⟩); (case measure => simp [intOf]; omega)
            · have q3 : ¬ (a.key.length : Int) ≤ (key.length : Int) := by omega
              clear RT BQ0
              go_wp2
              go_quiet (fail)
              have MA := (PS4.out.keep0 ((Upd.refl _ _).drewN nq)).match_ key (by omega) (by omega)
              rw [← SK.out] at MA
              have MA := Lib.hid MA
              go_wp2_with fail
              refine (MA.out).mono ?_
              rintro e w6 ⟨v4, l4, rfl, i4, r4, m4, u6⟩
              have U6 : Hid (Upd (fun _ => False) w w6) := (U4.out.drewN nq).trans u6 (fun _ _ h => h)
              have PS6 := Lib.hid ((PS4.out.keep0 ((Upd.refl _ _).drewN nq)).keep0 u6)
              have BX6 : Hid (Blk w6 wr.heap.size [.int .i64 a.kind, .int .i64 a.id, .string st] 54) := u6.blk (BX4.out.drewN nq) (fun h => h)
              have I4 := Lib.hid i4
              have M4 := Lib.hid m4
              obtain ⟨p4, c4, ev4, hm4⟩ := own_slice i4
              subst ev4
              unfold maxLen at hm4
              clear i4 r4 m4 u6 MA x1 x2
              generalize hnm : l4.length = n4 at *
              go_wp2
              go_loopw [9, 63] (fun x9 x63 wr => ∃ (j : Nat) (b : Bool), x9 = .bool b ∧ x63 = .int .i64 (j : Int) ∧ j ≤ n4 ∧ Hid (b = decide (a.id ∈ l4.take j)) ∧ Hid (Upd (fun _ => False) w6 wr)) (fun _ x63 _ => n4 - (intOf x63).toNat)
              case atStart => exact ⟨0, false, rfl, rfl, by omega, Lib.hid (by simp), Lib.hid (Upd.refl _ _)⟩
              case round =>
                obtain ⟨j, b, rfl, rfl, hj, BB, UQ⟩ := hrel
                by_cases hjl : j < n4
                · have q5 : (j : Int) < (n4 : Int) := by omega
                  obtain ⟨g4, ep4, hg4, ck4⟩ := ints_get (p := p4) (c := c4) (l := l4) (IntsAt.keep (by rw [hnm]; exact I4.out) UQ.out (fun _ _ h => h)) (show j < l4.length by omega)
                  subst ep4
                  have cq := ((UQ.out.blk BX6.out (fun h => h)).cellAt (i := 1) (v := .int .i64 a.id) rfl)
                  have BB2 : Hid ((b || decide (l4[j]'(by omega) = a.id)) = decide (a.id ∈ l4.take (j + 1))) := by
                    show _ = _
                    rw [BB.out, List.take_succ_eq_append_getElem (by omega)]
                    rw [Bool.eq_iff_iff]
                    simp only [Bool.or_eq_true, decide_eq_true_eq, List.mem_append, List.mem_singleton]
                    exact or_congr Iff.rfl eq_comm
                  generalize (l4[j]'(by omega)) = y at *
                  cases b with
                  | true =>
                    go_wp2
                    go_roundw
                    case rel => exact ⟨j + 1, true, rfl, by simp, by omega, BB2, UQ⟩
                    case measure => simp [intOf]; omega
                  | false =>
                    have BB2 : Hid (decide (y = a.id) = decide (a.id ∈ l4.take (j + 1))) := by have := BB2.out; rw [Bool.false_or] at this; exact this
                    by_cases hy : y = a.id
                    · rw [decide_eq_true hy] at BB2
                      rw [hy] at ck4
                      go_wp2
                      go_roundw
                      case rel => exact ⟨j + 1, true, rfl, by simp, by omega, BB2, UQ⟩
                      case measure => simp [intOf]; omega
                    · rw [decide_eq_false hy] at BB2
                      go_wp2
                      go_roundw
                      case rel => exact ⟨j + 1, false, by simp [hy], by simp, by omega, BB2, UQ⟩
                      case measure => simp [intOf]; omega
                · have q5 : ¬ (j : Int) < (n4 : Int) := by omega
                  have BF : Hid (b = decide (a.id ∈ l4)) := by show _ = _; rw [BB.out, List.take_of_length_le (by omega)]
                  have hsize := UQ.out.size
                  have UF : Hid (Upd (fun _ => False) w wr) := U6.out.trans UQ.out (fun _ _ h => h)
                  have PF : Hid (PSt wr base pb (fun _ => False) (told (l.take (k + 1))) (k + 1)) := (PS6.out.keep0 UQ.out).less (fun _ h => h.elim)
                  go_wp2; go_roundw; (case rel => exact ⟨k + 1, by simp, by omega, PF, UF⟩); (case measure => simp [intOf]; omega)
        · have q1 : ¬ (k : Int) < (l.length : Int) := by omega
          have ek : k = l.length := by omega
          have PE : Hid (PSt wr base pb (fun _ => False) (fun t i => told l t i ∧ ∀ a ∈ l.take 0, i ≠ a.id) l.length) := by
            have h := PS.out; rw [ek, List.take_length] at h; exact h.congr (fun t i => ⟨fun h => ⟨h, fun a ha => by simp at ha⟩, fun h => h.1⟩)
          have UE := U
          clear PS U PS2 U2
          go_wp2
          go_loopw [83] (fun x83 wr => ∃ (k : Nat), x83 = .int .i64 (k : Int) ∧ k ≤ l.length ∧ Hid (PSt wr base pb (fun _ => False) (fun t i => told l t i ∧ ∀ a ∈ l.take k, i ≠ a.id) l.length) ∧ Hid (Upd (fun _ => False) w wr)) (fun x83 _ => l.length - (intOf x83).toNat)
          case atStart => exact ⟨0, rfl, Nat.zero_le _, PE, UE⟩
          case round =>
            clear PE UE q1 ek hkl
            obtain ⟨k, rfl, hkl, PS, U⟩ := hrel
            by_cases hlt : k < l.length
            · have q1 : (k : Int) < (l.length : Int) := by omega
              obtain ⟨b, off, a, ep, hb, hak, c0, c1, c2⟩ := act15_cells (R0.out.keep U.out (fun _ _ _ h => h)) hlt
              subst ep
              have tsz := ofL_size a.key
              obtain ⟨st, hst⟩ : ∃ st, st = ofL a.key := ⟨_, rfl⟩
              rw [← hst] at c2 tsz
              have TK : Hid (l.take (k + 1) = l.take k ++ [a]) := by
                obtain ⟨h1, e⟩ := List.getElem?_eq_some_iff.1 hak
                show _ = _; rw [List.take_succ_eq_append_getElem h1, e]
              have ua : Upd (fun _ => False) wr (wr.alloc (.cells #[.int .i64 a.kind, .int .i64 a.id, .string st] 54)) := (Upd.refl _ _).alloc _
              have PSA := PS.out.also (Y := fun b => b = wr.heap.size) ua (fun b hb => Or.inr ⟨by omega, by rw [World.size_alloc]; omega⟩)
              have BXA := Blk.made wr [.int .i64 a.kind, .int .i64 a.id, .string st] 54
              have DR := Lib.hid (PSA.drop a.id (by omega))
              have BXA := Lib.hid BXA
              have UA : Hid (Upd (fun _ => False) w (wr.alloc (.cells #[.int .i64 a.kind, .int .i64 a.id, .string st] 54))) := U.out.alloc _
              have hDb := PS.out.bl
              clear hst hak ua PSA
              go_wp2_with fail
              refine (DR.out).mono ?_
              rintro e w4 ⟨ld, rfl, _, _, ps4, u4⟩
              have PS4 : Hid (PSt w4 base pb (fun b => b = wr.heap.size) (fun t i => told l t i ∧ ∀ a ∈ l.take (k + 1), i ≠ a.id) l.length) := by
                rw [TK.out]; refine ps4.congr (fun t i => ⟨fun h => ⟨h.1.1, fun c hc => ?_⟩, fun h => ⟨⟨h.1, fun c hc => h.2 c (by simp [hc])⟩, h.2 a (by simp)⟩⟩)
                rcases List.mem_append.1 hc with g | g
                · exact h.1.2 c g
                · rw [List.mem_singleton] at g; subst g; exact h.2
              have HNO : Hid (∀ t, ¬ (told l t a.id ∧ ∀ c ∈ l.take (k + 1), a.id ≠ c.id)) := by
                intro t h; rw [TK.out] at h; exact h.2 a (by simp) rfl
              have U4 : Hid (Upd (fun _ => False) w w4) := UA.out.trans u4 (fun b hb e => by have := e.1; have := HB.out; omega)
              have BX4 : Hid (Blk w4 wr.heap.size [.int .i64 a.kind, .int .i64 a.id, .string st] 54) := u4.blk BXA.out (fun e => e.2 rfl)
              have x1 := BX4.out.cellAt (i := 1) (v := .int .i64 a.id) rfl
              have OF := Lib.hid (PS4.out.of a.id (by omega))
              clear ps4 u4 DR c0 c1 c2
              go_wp2_with fail
              refine (OF.out).mono ?_
              rintro e w5 ⟨v5, l5, rfl, i5, _, m5, u5⟩
              have e5 : l5 = [] := by
                cases l5 with
                | nil => rfl
                | cons t l => exact absurd ((m5 t).1 (by simp)) (HNO.out t)
              subst e5
              have U5 : Hid (Upd (fun _ => False) w w5) := U4.out.trans u5 (fun _ _ h => h)
              have PS5 := Lib.hid (PS4.out.keep0 u5)
              have BX5 : Hid (Blk w5 wr.heap.size [.int .i64 a.kind, .int .i64 a.id, .string st] 54) := u5.blk BX4.out (fun h => h)
              have MA := PS5.out.match_ key (by omega) (by omega)
              rw [← SK.out] at MA
              have MA := Lib.hid MA
              obtain ⟨p5, c5, ev5, _⟩ := own_slice i5
              subst ev5
              clear i5 m5 u5 OF x1
              go_wp2_with fail
              refine (MA.out).mono ?_
              rintro e w6 ⟨v6, l6, rfl, i6, _, m6, u6⟩
              have U6 : Hid (Upd (fun _ => False) w w6) := U5.out.trans u6 (fun _ _ h => h)
              have PS6 := Lib.hid (PS5.out.keep0 u6)
              have BX6 : Hid (Blk w6 wr.heap.size [.int .i64 a.kind, .int .i64 a.id, .string st] 54) := u6.blk BX5.out (fun h => h)
              have I6 := Lib.hid i6
              have M6 : Hid (∀ y ∈ l6, y ≠ a.id) := by
                intro y hy e; subst e
                obtain ⟨t, _, h⟩ := (m6 _).1 hy
                exact HNO.out t h
              obtain ⟨p6, c6, ev6, hm6⟩ := own_slice i6
              subst ev6
              unfold maxLen at hm6
              clear i6 m6 u6 MA
              generalize hnm : l6.length = n6 at *
              go_wp2
              go_loopw [101] (fun x101 wr => ∃ (j : Nat), x101 = .int .i64 (j : Int) ∧ j ≤ n6 ∧ Hid (Upd (fun _ => False) w6 wr)) (fun x101 _ => n6 - (intOf x101).toNat)
              case atStart => exact ⟨0, rfl, by omega, Lib.hid (Upd.refl _ _)⟩
              case round =>
                obtain ⟨j, rfl, hj, UQ⟩ := hrel
                by_cases hjl : j < n6
                · have q5 : (j : Int) < (n6 : Int) := by omega
                  obtain ⟨g4, ep4, hg4, ck4⟩ := ints_get (p := p6) (c := c6) (l := l6) (IntsAt.keep (by rw [hnm]; exact I6.out) UQ.out (fun _ _ h => h)) (show j < l6.length by omega)
                  subst ep4
                  have cq := ((UQ.out.blk BX6.out (fun h => h)).cellAt (i := 1) (v := .int .i64 a.id) rfl)
                  have hne : (l6[j]'(by omega)) ≠ a.id := M6.out _ (List.getElem_mem _)
                  generalize (l6[j]'(by omega)) = y at *
                  have dne : decide (y = a.id) = false := decide_eq_false hne
                  go_wp2
                  go_roundw
                  case rel => exact ⟨j + 1, by simp, by omega, UQ⟩
                  case measure => simp [intOf]; omega
                · have q5 : ¬ (j : Int) < (n6 : Int) := by omega
                  have UF : Hid (Upd (fun _ => False) w wr) := U6.out.trans UQ.out (fun _ _ h => h)
                  have PF : Hid (PSt wr base pb (fun _ => False) (fun t i => told l t i ∧ ∀ a ∈ l.take (k + 1), i ≠ a.id) l.length) := (PS6.out.keep0 UQ.out).less (fun _ h => h.elim)
                  go_wp2
                  go_roundw
                  case rel => exact ⟨k + 1, by simp, by omega, PF, UF⟩
                  case measure => simp [intOf]; omega
            · have q2 : ¬ (k : Int) < (l.length : Int) := by omega
              have ek : k = l.length := by omega
              have HNO : Hid (∀ t i, ¬ (told l t i ∧ ∀ c ∈ l.take k, i ≠ c.id)) := by
                intro t i h; rw [ek, List.take_length] at h
                obtain ⟨⟨c, hc, _, e⟩, h2⟩ := h
                exact h2 c hc e.symm
              obtain ⟨xb, L, E, cx, T, _, KO⟩ := PS.out.tree
              have eL := keys_none KO HNO.out
              subst eL
              have LE := Lib.hid (radLen_any wr base xb [] E T)
              have ND := Lib.hid (radNodes_any wr base xb [] E T (by simp))
              clear T KO
              go_wp2_with fail
              refine (LE.out).mono ?_
              rintro e w7 ⟨rfl, rfl⟩
              go_wp2_with fail
              refine (ND.out).mono ?_
              rintro e w8 ⟨n1, rfl, hn1, _, u8⟩
              have en : n1 = 1 := hn1.uniq nodes_none
              subst en
              have U8 := Lib.hid (U.out.trans u8 (fun _ _ h => h))
              have MA := (PS.out.keep0 u8).match_ key (by omega) (by omega)
              rw [← SK.out] at MA
              have MA := Lib.hid MA
              clear u8 hn1 ND LE
              go_wp2_with fail
              refine (MA.out).mono ?_
              rintro e w9 ⟨v9, l9, rfl, i9, _, m9, u9⟩
              have e9 : l9 = [] := by
                cases l9 with
                | nil => rfl
                | cons y l => obtain ⟨t, _, h⟩ := (m9 y).1 (by simp); exact absurd h (HNO.out t y)
              subst e9
              have U9 := Lib.hid (U8.out.trans u9 (fun _ _ h => h))
              obtain ⟨p9, c9, ev9, _⟩ := own_slice i9
              subst ev9
              clear i9 m9 u9 MA
              go_wp2
              go_ret
              exact ⟨rfl, U9.out⟩
end Go.Proofs.Ytnlbmplbaalgmaa
