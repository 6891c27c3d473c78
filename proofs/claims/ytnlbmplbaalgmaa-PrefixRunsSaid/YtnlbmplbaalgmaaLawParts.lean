/- RadixParts: the walk. -/
import Derived.Test.YtnlbmplbaalgmaaRadV
set_option linter.unusedVariables false
set_option linter.unusedSimpArgs false
namespace Go.Proofs.Ytnlbmplbaalgmaa
open Go.RowKit

theorem TreeAt.rise {w : World} {base xa : Nat} {L : List MarkP} {E : Nat → Prop} (h : TreeAt w base xa L E) : L.Pairwise fun a b => a.1 < b.1 := by
  obtain ⟨bs, G, T, row, h1, h2, h3, h4, rfl⟩ := h
  exact h3.rise
theorem walkL_mem {L : List MarkP} {k t : Txt} {n : Int} (h : (k, n) ∈ L) (hp : t <+: k) : (k, n) ∈ walkL L t := by
  unfold walkL; rw [List.mem_filter]; exact ⟨h, by simpa using hp⟩
theorem above_last {L : List MarkP} (hr : L.Pairwise fun a b => a.1 < b.1) {k : Txt} {n : Int} (h : (k, n) ∈ L) : ∃ l0 m, aboveL L k = l0 ++ [m] ∧ m.1 = k := by
  have hm : (k, n) ∈ aboveL L k := by unfold aboveL; rw [List.mem_filter]; exact ⟨h, by simp⟩
  have hne : aboveL L k ≠ [] := List.ne_nil_of_mem hm
  refine ⟨_, _, (List.dropLast_concat_getLast hne).symm, ?_⟩
  have hpw : (aboveL L k).Pairwise fun a b => a.1 < b.1 := hr.filter _
  have hl : (aboveL L k).getLast hne ∈ aboveL L k := List.getLast_mem hne
  have hpre : ((aboveL L k).getLast hne).1 <+: k := of_decide_eq_true (List.mem_filter.1 (show (aboveL L k).getLast hne ∈ L.filter (fun m => decide (m.1 <+: k)) from hl)).2
  rw [← List.dropLast_concat_getLast hne] at hm hpw
  rcases List.mem_append.1 hm with g | g
  · rw [List.pairwise_append] at hpw
    have := hpw.2.2 _ g _ (List.mem_singleton.2 rfl)
    by_cases e : ((aboveL L k).getLast hne).1 = k
    · exact e
    · exact absurd (List.lt_trans this (lt_of_pre hpre e)) (List.lt_irrefl _)
  · rw [List.mem_singleton] at g
    rw [← g]
theorem beq_txt (a b : Txt) : ((ofL a).toList == (ofL b).toList) = decide (a = b) := by
  rw [ofL_toList, ofL_toList]
  by_cases h : a = b
  · rw [h]; simp
  · rw [decide_eq_false h, beq_eq_false_iff_ne]; exact h
/-- The marks with one more text. -/
theorem puts_mem {L : List MarkP} {t : Txt} {i : Int} {S : List Txt} (h : ∀ s ∈ S, ∃ n, (s, n) ∈ L) : ∀ s ∈ S ++ [t], ∃ n, (s, n) ∈ putM t i L := fun s hs => by
  by_cases e : s = t
  · exact ⟨i, putM_mem.2 (Or.inl (by rw [e]))⟩
  · rcases List.mem_append.1 hs with g | g
    · obtain ⟨n, hn⟩ := h s g
      exact ⟨n, putM_mem.2 (Or.inr ⟨hn, e⟩)⟩
    · exact absurd (List.mem_singleton.1 g) e
set_option maxHeartbeats 16000000 in
set_option maxRecDepth 100000 in
theorem lawParts (v0 : Value) (l : List Txt) (w : World) (r0 : RowOf txtc 1 w v0 l) (s0 : ∀ t ∈ l, t.length ≤ maxLen) :
    Calls Try.prog 3 #[v0] w fun e w' => e = .returned (.bool true) ∧ Upd (fun _ => False) w w' := by
  obtain ⟨p0, k0, e0, hm0⟩ := r0.len
  subst e0
  have AL := Lib.hid (alive07_any w)
  have R0 := Lib.hid r0
  clear r0
  unfold maxLen at hm0
  go_enter Try.func3, Try.ntmps3
  go_wp2_with fail
  refine (AL.out).mono ?_
  rintro e w1 ⟨rfl, u1⟩
  have U1 := Lib.hid u1
  clear u1 AL
  by_cases hgr : 30 < l.length
  · have q0 : (30 : Int) < (l.length : Int) := by omega
    generalize l.length = nl at *
    go_wp2
    go_ret
    exact ⟨rfl, U1.out⟩
  · have q0 : ¬ (30 : Int) < (l.length : Int) := by omega
    have NW := Lib.hid (radNew_any w1 w1.heap.size (Nat.le_refl _))
    go_wp2_with fail
    refine (NW.out).mono ?_
    rintro e w2 ⟨xa, E, rfl, h2, u2, f2⟩
    have H2 := Lib.hid h2
    have U2 := Lib.hid (U1.out.trans u2 (fun _ _ h => h))
    have F2 := Lib.hid f2
    have S2 := Lib.hid u2.size
    clear h2 u2 f2 NW
    go_wp2
    go_loopw [21] (fun x21 wr => ∃ (k : Nat) (L : List MarkP) (E1 : Nat → Prop), x21 = .int .i64 (k : Int) ∧ k ≤ l.length ∧ L.length ≤ k ∧ Hid (TreeAt wr w1.heap.size xa L E1) ∧ Hid (∀ q, E1 q → w1.heap.size ≤ q) ∧ Hid (Upd (fun _ => False) w wr) ∧ w1.heap.size ≤ wr.heap.size ∧ Hid (∀ t ∈ l.take k, ∃ n, (t, n) ∈ L) ∧ Hid (∀ t ∈ l.take k, t.length ≤ 30)) (fun x21 _ => l.length - (intOf x21).toNat)
    case atStart => exact ⟨0, [], E, rfl, Nat.zero_le _, Nat.le_refl _, H2, F2, U2, S2.out, Lib.hid (fun t ht => by simp at ht), Lib.hid (fun t ht => by simp at ht)⟩
    case round =>
      obtain ⟨k, L, E1, rfl, hk, hLk, HT, HE, U, hsz, HK, HL⟩ := hrel
      by_cases hlt : k < l.length
      · have q1 : (k : Int) < (l.length : Int) := by omega
        obtain ⟨b, off, ep, hb, ck⟩ := txt_cell (R0.out.keep U.out (fun _ _ _ h => h)) hlt
        subst ep
        obtain ⟨t, ht⟩ : ∃ t, t = l[k] := ⟨_, rfl⟩
        have htk : l.take (k + 1) = l.take k ++ [t] := by rw [ht]; simp
        have tsz := ofL_size t
        rw [← ht] at ck
        by_cases h30 : 30 < t.length
        · have q2 : (30 : Int) < (t.length : Int) := by omega
          clear htk ht
          generalize ofL t = st at *
          generalize l.length = nl at *
          generalize t.length = nt at *
          go_wp2
          go_ret
          exact ⟨rfl, U.out⟩
        · have q2 : ¬ (30 : Int) < (t.length : Int) := by omega
          have PU := Lib.hid (radPut_any wr w1.heap.size xa L E1 HT.out (by omega) hsz t (k : Int) (by omega))
          have PLn := putM_len HT.out.rise t (k : Int)
          have HTK := Lib.hid htk
          have HH := Lib.hid h30
          obtain ⟨st, hst⟩ : ∃ st, st = ofL t := ⟨_, rfl⟩
          rw [← hst] at PU ck tsz
          clear htk hst h30 ht
          generalize hnl : l.length = nl at *
          generalize hnt : t.length = nt at *
          go_wp2_with fail
          refine (PU.out).mono ?_
          rintro e w3 ⟨rfl, u3, E3, h3, f3⟩
          have H3 := Lib.hid h3
          have F3 : Hid (∀ q, E3 q → w1.heap.size ≤ q) := fun q hq => (f3 q hq).elim (HE.out q) (fun g => Nat.le_trans hsz g)
          have U3 := Lib.hid (U.out.trans u3 (fun q hq e => by have := HE.out q e; have := U1.out.size; omega))
          have S3 := u3.size
          have HK3 : Hid (∀ s ∈ l.take (k + 1), ∃ n, (s, n) ∈ putM t (k : Int) L) := by rw [HTK.out]; exact puts_mem HK.out
          have HL3 : Hid (∀ s ∈ l.take (k + 1), s.length ≤ 30) := fun s hs => by
            rw [HTK.out] at hs
            rcases List.mem_append.1 hs with g | g
            · exact HL.out s g
            · rw [List.mem_singleton.1 g]; have := HH.out; omega
          have hln : (putM t (k : Int) L).length ≤ k + 1 := by split at PLn <;> omega
          clear h3 u3 f3 PU PLn
          go_wp2
          go_roundw
          case rel => exact ⟨k + 1, putM t (k : Int) L, E3, by simp, by omega, hln, H3, F3, U3, by omega, HK3, HL3⟩
          case measure => simp [intOf]; omega
      · have ek : k = l.length := by omega
        subst ek
        have HK := Lib.hid (show ∀ t ∈ l, ∃ n, (t, n) ∈ L by have := HK.out; rwa [List.take_length] at this)
        have HL := Lib.hid (show ∀ t ∈ l, t.length ≤ 30 by have := HL.out; rwa [List.take_length] at this)
        obtain ⟨w4, rfl⟩ : ∃ w4, w4 = wr := ⟨_, rfl⟩
        go_wp2
        go_loopw [36] (fun x36 wr => ∃ (k : Nat), x36 = .int .i64 (k : Int) ∧ k ≤ l.length ∧ Hid (Upd (fun _ => False) w4 wr)) (fun x36 _ => l.length - (intOf x36).toNat)
        case atStart => exact ⟨0, rfl, Nat.zero_le _, Lib.hid (Upd.refl _ _)⟩
        case round =>
          obtain ⟨k, rfl, hk, V⟩ := hrel
          have HT2 := Lib.hid (HT.out.keep0 V.out)
          have U2 := Lib.hid (U.out.trans V.out (fun _ _ h => h))
          by_cases hlt : k < l.length
          · have q1 : (k : Int) < (l.length : Int) := by omega
            obtain ⟨b, off, ep, hb, ck⟩ := txt_cell (R0.out.keep U2.out (fun _ _ _ h => h)) hlt
            subst ep
            obtain ⟨t, ht⟩ : ∃ t, t = l[k] := ⟨_, rfl⟩
            have htm : t ∈ l := by rw [ht]; exact List.getElem_mem hlt
            obtain ⟨i, hi⟩ := HK.out t htm
            have h30 := HL.out t htm
            have MI := Lib.hid hi
            have tsz := ofL_size t
            rw [← ht] at ck
            clear ht htm hi
            obtain ⟨w5, rfl⟩ : ∃ w5, w5 = wr := ⟨_, rfl⟩
            obtain ⟨st, hst⟩ : ∃ st, st = ofL t := ⟨_, rfl⟩
            rw [← hst] at ck tsz
            have ST := Lib.hid hst
            clear hst
            go_wp2
            go_loopw [8] (fun x8 wr => ∃ (n : Nat), x8 = .int .i64 (n : Int) ∧ n ≤ t.length + 1 ∧ Hid (Upd (fun _ => False) w4 wr)) (fun x8 _ => t.length + 1 - (intOf x8).toNat)
            case atStart => exact ⟨0, rfl, Nat.zero_le _, V⟩
            case round =>
              obtain ⟨n, rfl, hn, V2⟩ := hrel
              by_cases hnl : n ≤ t.length
              · have q2 : (n : Int) ≤ (t.length : Int) := by omega
                have rt := run_take t (n : Int) (by omega) q2
                rw [← ST.out, Int.toNat_natCast] at rt
                have HT3 := Lib.hid (HT.out.keep0 V2.out)
                have WA := Lib.hid (radWalk_any wr w1.heap.size xa L E1 HT3.out (by omega) (t.take n) (by rw [List.length_take]; omega))
                have OV : Hid (∀ v, Upd (fun _ => False) wr v → Calls Try.prog 14 #[.pointer (some ⟨xa, 0, none⟩), .string (ofL (t.take n))] v fun e w' => e = .returned (.bool (overB L (t.take n))) ∧ Upd (fun _ => False) v w') := fun v u => radOver_any v w1.heap.size xa L E1 (HT3.out.keep0 u) (by omega) (t.take n) (by rw [List.length_take]; omega)
                have MW : Hid ((t, i) ∈ walkL L (t.take n)) := walkL_mem MI.out (List.take_prefix _ _)
                have OB : Hid (overB L (t.take n) = true) := by unfold overB; exact decide_eq_true (Or.inl (List.ne_nil_of_mem MW.out))
                have WL : (walkL L (t.take n)).length ≤ 30 := by have : (walkL L (t.take n)).length ≤ L.length := List.length_filter_le _ _; omega
                rw [OB.out] at OV
                clear OB
                generalize walkL L (t.take n) = M at *
                obtain ⟨sn, hsn⟩ : ∃ sn, sn = ofL (t.take n) := ⟨_, rfl⟩
                rw [← hsn] at rt WA OV
                clear hsn
                go_wp2_with fail
                refine (WA.out).mono ?_
                rintro e w6 ⟨v, rfl, hv, u6⟩
                obtain ⟨pv, cv, ev, _⟩ := own_slice hv
                subst ev
                have V6 := Lib.hid (V2.out.trans u6 (fun _ _ h => h))
                have U6 := Lib.hid u6
                have HV := Lib.hid hv
                clear hv u6 WA
                obtain ⟨w6', rfl⟩ : ∃ w6', w6' = w6 := ⟨_, rfl⟩
                go_wp2
                go_loopw [9, 52] (fun x9 x52 wq => ∃ (j : Nat), x52 = .int .i64 (j : Int) ∧ j ≤ M.length ∧ x9 = .bool ((M.take j).any fun m => decide (m.1 = t)) ∧ Hid (Upd (fun _ => False) w6' wq)) (fun _ x52 _ => M.length - (intOf x52).toNat)
                case atStart => exact ⟨0, rfl, Nat.zero_le _, by simp, Lib.hid (Upd.refl _ _)⟩
                case round =>
                  obtain ⟨j, rfl, hj, rfl, VJ⟩ := hrel
                  by_cases hjl : j < M.length
                  · have q3 : (j : Int) < (M.length : Int) := by omega
                    obtain ⟨_, ⟨_, e0⟩ | ⟨g, cap, cs, ev, hg, hB, hc, hm, hle⟩⟩ := own2_blk (HV.out.keep VJ.out (fun _ _ h => h))
                    · omega
                    have ev1 : pv = some ⟨g, 0, none⟩ := by injection ev
                    subst ev1
                    obtain ⟨m, hmj⟩ : ∃ m, M[j]? = some m := ⟨_, List.getElem?_eq_getElem hjl⟩
                    have fl : ∀ q, q < 2 → (flat mkc M ++ cs)[j * 2 + q]? = (mkc m)[q]? := fun q hq => by
                      rw [List.getElem?_append_left (by rw [flat_length mkc 2 (fun _ => rfl)]; omega), flat_get mkc 2 (fun _ => rfl) M j q hq, hmj]; rfl
                    have c0 := hB.cellAt (i := j * 2) (v := .string (ofL m.1)) (by have := fl 0 (by omega); rw [Nat.add_zero] at this; exact this)
                    have c1 := hB.cellAt (i := j * 2 + 1) (v := .int .i64 m.2) (fl 1 (by omega))
                    have BQ := beq_txt m.1 t
                    rw [← ST.out] at BQ
                    have TK : Hid (((M.take (j + 1)).any fun m => decide (m.1 = t)) = (((M.take j).any fun m => decide (m.1 = t)) || decide (m.1 = t))) := by
                      show _ = _
                      rw [List.take_add_one, hmj, List.any_append]; simp
                    generalize ofL m.1 = sm at *
                    generalize hd1 : ((M.take j).any fun m => decide (m.1 = t)) = d1 at *
                    generalize decide (m.1 = t) = d2 at *
                    clear hB ev fl hmj hd1
                    cases d1 with
                    | true =>
                      go_wp2
                      go_roundw
                      case rel => exact ⟨j + 1, by simp, by omega, by rw [TK.out]; rfl, Lib.hid (VJ.out.alloc _)⟩
                      case measure => simp [intOf]; omega
                    | false =>
                      go_wp2
                      go_roundw
                      case rel => exact ⟨j + 1, by simp, by omega, by rw [TK.out]; rfl, Lib.hid (VJ.out.alloc _)⟩
                      case measure => simp [intOf]; omega
                  · have ej : j = M.length := by omega
                    have FT : ((M.take j).any fun m => decide (m.1 = t)) = true := by
                      rw [ej, List.take_length, List.any_eq_true]; exact ⟨_, MW.out, decide_eq_true rfl⟩
                    rw [FT]
                    have q3 : ¬ (j : Int) < (M.length : Int) := by omega
                    have OW := Lib.hid (OV.out _ (U6.out.trans VJ.out (fun _ _ h => h)))
                    clear FT ej
                    go_wp2_with fail
                    refine (OW.out).mono ?_
                    rintro e w8 ⟨rfl, u8⟩
                    have V8 := Lib.hid ((V6.out.trans VJ.out (fun _ _ h => h)).trans u8 (fun _ _ h => h))
                    clear u8 OW
                    go_wp2
                    go_roundw
                    case rel => exact ⟨n + 1, by simp, by omega, V8⟩
                    case measure => simp [intOf]; omega
              · have q2 : ¬ (n : Int) ≤ (t.length : Int) := by omega
                have HT3 := HT.out.keep0 V2.out
                have AB := Lib.hid (radAbove_any wr w1.heap.size xa L E1 HT3 (by omega) t (by omega))
                obtain ⟨l0, m, hal, hmt⟩ := above_last HT3.rise MI.out
                rw [hal, ← ST.out] at AB
                go_wp2_with fail
                refine (AB.out).mono ?_
                rintro e w6 ⟨v, rfl, hv, u6⟩
                obtain ⟨hfl, ⟨_, e0⟩ | ⟨g, cap, cs, ev, hg, hB, hc, hm, hle⟩⟩ := own2_blk hv
                · simp at e0
                subst ev
                have hf0 : (flat mkc l0).length = l0.length * 2 := flat_length _ 2 (fun _ => rfl) _
                have c0 : w6.cell? ⟨g, l0.length * 2, none⟩ = some (.string st) := hB.cellAt (by
                  have : flat mkc (l0 ++ [m]) ++ cs = flat mkc l0 ++ (mkc m ++ cs) := by unfold flat; rw [List.flatMap_append, List.append_assoc]; simp
                  rw [this, List.getElem?_append_right (by omega), hf0, Nat.sub_self, ST.out, ← hmt]; rfl)
                have el : (l0 ++ [m]).length = l0.length + 1 := by simp
                have AL30 : l0.length + 1 ≤ 30 := by
                  have : (aboveL L t).length ≤ L.length := List.length_filter_le _ _
                  rw [hal, el] at this; omega
                have V6 := Lib.hid (V2.out.trans u6 (fun _ _ h => h))
                clear hv hfl hB hc hm hle hf0 u6 AB hal hmt HT3
                generalize l0.length = q at *
                generalize (l0 ++ [m]).length = nq at *
                subst el
                have qa : (q : Int) < ((q + 1 : Nat) : Int) := by omega
                have qb : ((q + 1 : Nat) : Int) - 1 = (q : Int) := by omega
                have qc : IntKind.i64.wrap (((q + 1 : Nat) : Int) - 1) = (q : Int) := by rw [qb]; exact IntWalk.i64_in _ (by omega)
                have qd : IntKind.i64.wrap (q : Int) = (q : Int) := IntWalk.i64_in _ (by omega)
                have qe : ¬ q + 1 = 0 := by omega
                have qf : (st.toList == st.toList) = true := by simp
                go_wp2
                go_roundw
                case rel => exact ⟨k + 1, by simp, by omega, V6⟩
                case measure => simp [intOf]; omega
          · have ek2 : k = l.length := by omega
            have ND := Lib.hid (radNodes_any wr w1.heap.size xa L E1 HT2.out (by omega))
            have q1 : ¬ (k : Int) < (l.length : Int) := by omega
            go_wp2_with fail
            refine (ND.out).mono ?_
            rintro e w6 ⟨n, rfl, _, hn, u6⟩
            have LE := Lib.hid (radLen_any w6 w1.heap.size xa L E1 (HT2.out.keep0 u6))
            have U6 := Lib.hid (U2.out.trans u6 (fun _ _ h => h))
            clear u6
            go_wp2_with fail
            refine (LE.out).mono ?_
            rintro e w7 ⟨rfl, rfl⟩
            have qm : IntKind.i64.wrap ((2 : Int) * (L.length : Int)) = (2 : Int) * (L.length : Int) := IntWalk.i64_in _ (by omega)
            have qn : IntKind.i64.wrap ((2 : Int) * (L.length : Int) + 1) = (2 : Int) * (L.length : Int) + 1 := IntWalk.i64_in _ (by omega)
            have qo : (n : Int) ≤ (2 : Int) * (L.length : Int) + 1 := by omega
            go_wp2
            go_ret
            exact ⟨by first | rfl | simp [qo], U6.out⟩
end Go.Proofs.Ytnlbmplbaalgmaa
