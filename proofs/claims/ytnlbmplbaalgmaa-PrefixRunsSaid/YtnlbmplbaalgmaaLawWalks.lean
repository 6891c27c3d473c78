/- RadixWalks: the walk. -/
import Derived.Test.YtnlbmplbaalgmaaLawParts
import Derived.Test.YtnlbmplbaalgmaaRadY
set_option linter.unusedVariables false
set_option linter.unusedSimpArgs false
namespace Go.Proofs.Ytnlbmplbaalgmaa
open Go.RowKit

theorem bytesLess_lt (a b : List UInt8) : Op.bytesLess a b = decide (a < b) := by
  induction a generalizing b with
  | nil =>
    cases b with
    | nil => simp [Op.bytesLess]
    | cons y b => simp [Op.bytesLess]
  | cons x a ih =>
    cases b with
    | nil => simp [Op.bytesLess]
    | cons y b =>
      unfold Op.bytesLess
      rw [ih, Bool.eq_iff_iff]
      simp [List.cons_lt_cons_iff]
theorem less_txt (a b : Txt) : Op.bytesLess (ofL a).toList (ofL b).toList = decide (a < b) := by rw [ofL_toList, ofL_toList, bytesLess_lt]
theorem walkL_nil (L : List MarkP) : walkL L [] = L := by unfold walkL; rw [List.filter_eq_self]; intro m _; simp
theorem cut_put {L : List MarkP} (h : L.Pairwise fun a b => a.1 < b.1) (k : Txt) (n : Int) : cutM k (putM k n L) = cutM k L := by
  refine marks_ext ((putM_rise h).filter _) (h.filter _) fun m => ?_
  show m ∈ cutM k (putM k n L) ↔ m ∈ cutM k L
  rw [cutM_mem, putM_mem, cutM_mem]
  constructor
  · rintro ⟨rfl | h1, h2⟩
    · exact absurd rfl h2
    · exact h1
  · rintro ⟨h1, h2⟩; exact ⟨Or.inr ⟨h1, h2⟩, h2⟩
theorem walks_apart {L : List MarkP} {a b : Txt} (h1 : ¬ a <+: b) (h2 : ¬ b <+: a) : ∀ m ∈ walkL L a, ∀ n ∈ walkL L b, m.1 ≠ n.1 := fun m hm n hn e => by
  unfold walkL at hm hn
  rw [List.mem_filter] at hm hn
  have p1 : a <+: m.1 := by simpa using hm.2
  have p2 : b <+: m.1 := by rw [e]; simpa using hn.2
  rcases Nat.le_total a.length b.length with g | g
  · exact h1 (List.prefix_of_prefix_length_le p1 p2 g)
  · exact h2 (List.prefix_of_prefix_length_le p2 p1 g)
/-- The cells of a mark in a row. -/
theorem mark_cells {w : World} {base : Nat} {p : Option Addr} {c : Nat} {M : List MarkP} (h : MarksAt w base (.slice p M.length c) M) {j : Nat} (hj : j < M.length) :
    ∃ g, p = some ⟨g, 0, none⟩ ∧ g < w.heap.size ∧ w.cell? ⟨g, j * 2, none⟩ = some (.string (ofL (M[j]).1)) ∧ w.cell? ⟨g, j * 2 + 1, none⟩ = some (.int .i64 (M[j]).2) := by
  obtain ⟨_, ⟨_, e0⟩ | ⟨g, cap, cs, ev, hg, hB, hc, hm, hle⟩⟩ := own2_blk h
  · omega
  have fl : ∀ q, q < 2 → (flat mkc M ++ cs)[j * 2 + q]? = (mkc (M[j]))[q]? := fun q hq => by
    rw [List.getElem?_append_left (by rw [flat_length mkc 2 (fun _ => rfl)]; omega), flat_get mkc 2 (fun _ => rfl) M j q hq, List.getElem?_eq_getElem hj]; rfl
  refine ⟨g, by injection ev, hB.lt, hB.cellAt ?_, hB.cellAt ?_⟩
  · have := fl 0 (by omega); rw [Nat.add_zero] at this; exact this
  · exact fl 1 (by omega)
set_option maxHeartbeats 16000000 in
set_option maxRecDepth 100000 in
theorem lawWalks (v0 : Value) (l : List Txt) (a b : Txt) (w : World) (r0 : RowOf txtc 1 w v0 l) (s0 : ∀ t ∈ l, t.length ≤ maxLen) (ha : a.length ≤ maxLen) (hb : b.length ≤ maxLen) :
    Calls Try.prog 5 #[v0, .string (ofL a), .string (ofL b)] w fun e w' => e = .returned (.bool true) ∧ Upd (fun _ => False) w w' := by
  obtain ⟨p0, k0, e0, hm0⟩ := r0.len
  subst e0
  have AL := Lib.hid (alive07_any w)
  have R0 := Lib.hid r0
  have asz := ofL_size a
  have bsz := ofL_size b
  obtain ⟨sa, hsa⟩ : ∃ sa, sa = ofL a := ⟨_, rfl⟩
  obtain ⟨sb, hsb⟩ : ∃ sb, sb = ofL b := ⟨_, rfl⟩
  rw [← hsa] at asz
  rw [← hsb] at bsz
  rw [← hsa, ← hsb]
  have SA := Lib.hid hsa
  have SB := Lib.hid hsb
  clear r0 hsa hsb
  unfold maxLen at hm0 ha hb
  go_enter Try.func5, Try.ntmps5
  go_wp2_with fail
  refine (AL.out).mono ?_
  rintro e w1 ⟨rfl, u1⟩
  have U1 := Lib.hid u1
  clear u1 AL
  by_cases hgr : 40 < l.length
  · have q0 : (40 : Int) < (l.length : Int) := by omega
    generalize l.length = nl at *
    go_wp2
    go_ret
    exact ⟨rfl, U1.out⟩
  · have q0 : ¬ (40 : Int) < (l.length : Int) := by omega
    by_cases hga : 60 < a.length
    · have qa : (60 : Int) < (a.length : Int) := by omega
      generalize l.length = nl at *
      generalize a.length = na at *
      go_wp2
      go_ret
      exact ⟨rfl, U1.out⟩
    · have qa : ¬ (60 : Int) < (a.length : Int) := by omega
      by_cases hgb : 60 < b.length
      · have qb : (60 : Int) < (b.length : Int) := by omega
        generalize l.length = nl at *
        generalize a.length = na at *
        generalize b.length = nb at *
        go_wp2
        go_ret
        exact ⟨rfl, U1.out⟩
      · have qb : ¬ (60 : Int) < (b.length : Int) := by omega
        have NW := Lib.hid (radNew_any w1 w1.heap.size (Nat.le_refl _))
        go_wp2_with fail
        refine (NW.out).mono ?_
        rintro e w2 ⟨xa, E, rfl, h2, u2, f2⟩
        have H2 := Lib.hid h2
        have U2 := Lib.hid (U1.out.trans u2 (fun _ _ h => h))
        have F2 := Lib.hid f2
        have S2 := Lib.hid u2.size
        clear h2 u2 f2 NW
        go_wp2
        go_loopw [40] (fun x40 wr => ∃ (k : Nat) (L : List MarkP) (E1 : Nat → Prop), x40 = .int .i64 (k : Int) ∧ k ≤ l.length ∧ L.length ≤ k ∧ Hid (TreeAt wr w1.heap.size xa L E1) ∧ Hid (∀ q, E1 q → w1.heap.size ≤ q) ∧ Hid (Upd (fun _ => False) w wr) ∧ w1.heap.size ≤ wr.heap.size) (fun x40 _ => l.length - (intOf x40).toNat)
        case atStart => exact ⟨0, [], E, rfl, Nat.zero_le _, Nat.le_refl _, H2, F2, U2, S2.out⟩
        case round =>
          obtain ⟨k, L, E1, rfl, hk, hLk, HT, HE, U, hsz⟩ := hrel
          by_cases hlt : k < l.length
          · have q1 : (k : Int) < (l.length : Int) := by omega
            obtain ⟨b1, off, ep, hb1, ck⟩ := txt_cell (R0.out.keep U.out (fun _ _ _ h => h)) hlt
            subst ep
            obtain ⟨t, ht⟩ : ∃ t, t = l[k] := ⟨_, rfl⟩
            have tsz := ofL_size t
            rw [← ht] at ck
            by_cases h30 : 60 < t.length
            · have q2 : (60 : Int) < (t.length : Int) := by omega
              clear ht
              generalize ofL t = st at *
              generalize l.length = nl at *
              generalize t.length = nt at *
              go_wp2
              go_ret
              exact ⟨rfl, U.out⟩
            · have q2 : ¬ (60 : Int) < (t.length : Int) := by omega
              have PU := Lib.hid (radPut_any wr w1.heap.size xa L E1 HT.out (by omega) hsz t 1 (by omega))
              have PLn := putM_len HT.out.rise t 1
              have HH := Lib.hid h30
              obtain ⟨st, hst⟩ : ∃ st, st = ofL t := ⟨_, rfl⟩
              rw [← hst] at PU ck tsz
              clear hst h30 ht
              generalize hnl : l.length = nl at *
              generalize hnt : t.length = nt at *
              go_wp2_with fail
              refine (PU.out).mono ?_
              rintro e w3 ⟨rfl, u3, E3, h3, f3⟩
              have H3 := Lib.hid h3
              have F3 : Hid (∀ q, E3 q → w1.heap.size ≤ q) := fun q hq => (f3 q hq).elim (HE.out q) (fun g => Nat.le_trans hsz g)
              have U3 := Lib.hid (U.out.trans u3 (fun q hq e => by have := HE.out q e; have := U1.out.size; omega))
              have S3 := u3.size
              have hln : (putM t 1 L).length ≤ k + 1 := by split at PLn <;> omega
              clear h3 u3 f3 PU PLn
              go_wp2
              go_roundw
              case rel => exact ⟨k + 1, putM t 1 L, E3, by simp, by omega, hln, H3, F3, U3, by omega⟩
              case measure => simp [intOf]; omega
          · have q1 : ¬ (k : Int) < (l.length : Int) := by omega
            have hL40 : L.length ≤ 40 := by omega
            clear hLk
            obtain ⟨w4, rfl⟩ : ∃ w4, w4 = wr := ⟨_, rfl⟩
            have U4 := U
            have WA := radWalk_any w4 w1.heap.size xa L E1 HT.out (by omega) [] (by decide)
            rw [walkL_nil, show ofL [] = ⟨#[]⟩ from rfl] at WA
            have WA := Lib.hid WA
            have LS := Lib.hid HT.out.rise
            go_wp2_with fail
            refine (WA.out).mono ?_
            rintro e w5 ⟨va, rfl, hva, u5⟩
            obtain ⟨pa, ca, eva, _⟩ := own_slice hva
            subst eva
            have MA := Lib.hid hva
            have V5 := Lib.hid u5
            have PAF : Hid (∀ k, (Value.slice pa L.length ca).ownBlock = some k → w4.heap.size ≤ k) := fun k hk => (own2_lt hva hk).2.1
            clear hva u5 WA
            go_wp2
            go_loopw [11] (fun x11 wq => ∃ (j : Nat), x11 = .int .i64 ((j : Int) + 1) ∧ j + 1 ≤ L.length + 1 ∧ Hid (Upd (fun _ => False) w5 wq)) (fun x11 _ => L.length + 1 - (intOf x11).toNat)
            case atStart => exact ⟨0, rfl, by omega, Lib.hid (Upd.refl _ _)⟩
            case round =>
              obtain ⟨j, rfl, hj, VJ⟩ := hrel
              by_cases hjl : j + 1 < L.length
              · have q3 : (j : Int) + 1 < (L.length : Int) := by omega
                have MAJ := MA.out.keep VJ.out (fun _ _ h => h)
                obtain ⟨g, ep, hg, c0, c1⟩ := mark_cells MAJ (show j < L.length by omega)
                obtain ⟨g', ep', _, d0, d1⟩ := mark_cells MAJ hjl
                subst ep
                have eg : g = g' := by injection ep' with e; injection e
                subst eg
                have LT : L[j].1 < L[j + 1].1 := List.pairwise_iff_getElem.1 LS.out j (j + 1) (by omega) hjl (by omega)
                have BL := less_txt L[j].1 L[j + 1].1
                rw [decide_eq_true LT] at BL
                generalize ofL L[j].1 = s1 at *
                generalize ofL L[j + 1].1 = s2 at *
                have qs : (j : Int) + 1 - 1 = (j : Int) := by omega
                have qw : IntKind.i64.wrap (j : Int) = (j : Int) := IntWalk.i64_in _ (by omega)
                have qw2 : IntKind.i64.wrap ((j : Int) + 1 + 1) = (j : Int) + 1 + 1 := IntWalk.i64_in _ (by omega)
                have qb1 : (j : Int) < (L.length : Int) := by omega
                have qb3 : (0 : Int) ≤ (j : Int) + 1 := by omega
                have qtn : ((j : Int) + 1).toNat = j + 1 := by omega
                clear MAJ ep' c1 d1 LT hjl
                generalize hnl : L.length = nL at *
                go_wp2
                go_quiet (fail)
                go_wp2
                go_roundw
                case rel => exact ⟨j + 1, by simp, by omega, Lib.hid (VJ.out.drewN nq)⟩
                case measure => simp [intOf]; omega
              · have q3 : ¬ (j : Int) + 1 < (L.length : Int) := by omega
                have V6 := Lib.hid (V5.out.trans VJ.out (fun _ _ h => h))
                have HT6 := Lib.hid (HT.out.keep0 V6.out)
                obtain ⟨w6, rfl⟩ : ∃ w6, w6 = wr := ⟨_, rfl⟩
                have WX := radWalk_any w6 w1.heap.size xa L E1 HT6.out (by omega) a (by omega)
                rw [← SA.out] at WX
                have WX := Lib.hid WX
                go_wp2_with fail
                refine (WX.out).mono ?_
                rintro e w6b ⟨vx, rfl, hvx, ux⟩
                have WY := radWalk_any w6b w1.heap.size xa L E1 (HT6.out.keep0 ux) (by omega) b (by omega)
                rw [← SB.out] at WY
                have WY := Lib.hid WY
                obtain ⟨px, cx, evx, _⟩ := own_slice hvx
                subst evx
                have HVX := Lib.hid hvx
                have V6b := Lib.hid (V6.out.trans ux (fun _ _ h => h))
                clear hvx ux WX
                go_wp2_with fail
                refine (WY.out).mono ?_
                rintro e w7 ⟨vy, rfl, hvy, uy⟩
                obtain ⟨py, cy, evy, _⟩ := own_slice hvy
                subst evy
                have MX := Lib.hid (HVX.out.keep uy (fun _ _ h => h))
                have MY := Lib.hid hvy
                have V7 := Lib.hid (V6b.out.trans uy (fun _ _ h => h))
                have APX := Lib.hid (fun (h1 : ¬ a <+: b) (h2 : ¬ b <+: a) => walks_apart (L := L) h1 h2)
                clear hvy uy WY
                have hXL : (walkL L a).length ≤ 40 := Nat.le_trans (List.length_filter_le _ _) hL40
                have hYL : (walkL L b).length ≤ 40 := Nat.le_trans (List.length_filter_le _ _) hL40
                generalize walkL L a = X at *
                generalize walkL L b = Y at *
                have hla : a.length ≤ 60 := by omega
                have hlb : b.length ≤ 60 := by omega
                by_cases hab : a.length ≤ b.length
                · have qc : (a.length : Int) ≤ (b.length : Int) := by omega
                  have qd : ¬ (b.length : Int) < (a.length : Int) := by omega
                  have rt := run_take b (a.length : Int) (by omega) qc
                  rw [← SB.out, Int.toNat_natCast] at rt
                  have BQ0 := beq_txt (b.take a.length) a
                  rw [← SA.out] at BQ0
                  generalize ofL (b.take a.length) = sbt at *
                  by_cases hp : a <+: b
                  · rw [take_pre.2 hp, decide_eq_true rfl] at BQ0
                    go_wp2
                    go_loopw [107] (fun x107 wq => ∃ (i : Nat), x107 = .int .i64 (i : Int) ∧ i ≤ X.length ∧ Hid (Upd (fun _ => False) w7 wq)) (fun x107 _ => X.length - (intOf x107).toNat)
                    case atStart => exact ⟨0, rfl, Nat.zero_le _, Lib.hid (Upd.refl _ _)⟩
                    case round =>
                      obtain ⟨i, rfl, hi, V⟩ := hrel
                      by_cases hil : i < X.length
                      · have q1 : (i : Int) < (X.length : Int) := by omega
                        obtain ⟨gx, epx, hgx, cx0, cx1⟩ := mark_cells (MX.out.keep V.out (fun _ _ h => h)) hil
                        subst epx
                        obtain ⟨m, hmx⟩ : ∃ m, m = X[i] := ⟨_, rfl⟩
                        have MM : Hid (m ∈ X) := by show m ∈ _; rw [hmx]; exact List.getElem_mem hil
                        rw [← hmx] at cx0 cx1
                        obtain ⟨sm, hsm⟩ : ∃ sm, sm = ofL m.1 := ⟨_, rfl⟩
                        rw [← hsm] at cx0
                        have SM := Lib.hid hsm
                        clear hmx hsm
                        have BXA := Lib.hid (Blk.made wr [.string sm, .int .i64 m.2] 30)
                        have VA : Hid (Upd (fun _ => False) w7 (wr.alloc (.cells #[.string sm, .int .i64 m.2] 30))) := V.out.alloc _
                        generalize hnx : X.length = nX at *
                        go_wp2
                        go_loopw [113] (fun x113 wq => ∃ (j : Nat), x113 = .int .i64 (j : Int) ∧ j ≤ Y.length ∧ Hid (Upd (fun _ => False) (wr.alloc (.cells #[.string sm, .int .i64 m.2] 30)) wq)) (fun x113 _ => Y.length - (intOf x113).toNat)
                        case atStart => exact ⟨0, rfl, Nat.zero_le _, Lib.hid (Upd.refl _ _)⟩
                        case round =>
                          rename_i wq _
                          obtain ⟨j, rfl, hj, VJ⟩ := hrel
                          by_cases hjl : j < Y.length
                          · have q3 : (j : Int) < (Y.length : Int) := by omega
                            obtain ⟨gy, epy, hgy, cy0, cy1⟩ := mark_cells (MY.out.keep (VA.out.trans VJ.out (fun _ _ h => h)) (fun _ _ h => h)) hjl
                            subst epy
                            obtain ⟨n, hny⟩ : ∃ n, n = Y[j] := ⟨_, rfl⟩
                            have NM : Hid (n ∈ Y) := by show n ∈ _; rw [hny]; exact List.getElem_mem hjl
                            rw [← hny] at cy0 cy1
                            have BX := VJ.out.blk BXA.out id
                            have bx0 := BX.cellAt (i := 0) (v := .string sm) rfl
                            have hbx := BX.lt
                            have BQ := beq_txt m.1 n.1
                            rw [← SM.out] at BQ
                            clear BQ
                            generalize ofL n.1 = sn at *
                            clear hny BX
                            generalize hnY : Y.length = nY at *
                            go_wp2
                            go_roundw
                            case rel => exact ⟨j + 1, by simp, by omega, Lib.hid (VJ.out.alloc _)⟩
                            case measure => simp [intOf]; omega
                          · have q3 : ¬ (j : Int) < (Y.length : Int) := by omega
                            have VR := Lib.hid (VA.out.trans VJ.out (fun _ _ h => h))
                            go_wp2
                            go_roundw
                            case rel => exact ⟨i + 1, by simp, by omega, VR⟩
                            case measure => simp [intOf]; omega
                      · have q1 : ¬ (i : Int) < (X.length : Int) := by omega
                        have V5 := Lib.hid (V7.out.trans V.out (fun _ _ h => h))
                        obtain ⟨w5', rfl⟩ : ∃ w5', w5' = wr := ⟨_, rfl⟩
                        have HT5 := Lib.hid (HT.out.keep0 V5.out)
                        have ND := Lib.hid (radNodes_any w5' w1.heap.size xa L E1 HT5.out (by omega))
                        go_wp2_with fail
                        refine (ND.out).mono ?_
                        rintro e w6 ⟨nn, rfl, hnn, hnb, u6⟩
                        have HT6 := Lib.hid (HT5.out.keep0 u6)
                        have V6 := Lib.hid (V5.out.trans u6 (fun _ _ h => h))
                        have NN := Lib.hid hnn
                        have hnn64 : (nn : Int) ≤ 100 := by omega
                        have GE := radGet_any w6 w1.heap.size xa L E1 a HT6.out (by omega)
                        rw [← SA.out] at GE
                        have GE := Lib.hid GE
                        clear u6 hnn ND HT5
                        go_wp2_with fail
                        refine (GE.out).mono ?_
                        rintro e w7 ⟨rfl, u7⟩
                        have HT7 := Lib.hid (HT6.out.keep0 u7)
                        have V7 := Lib.hid (V6.out.trans u7 (fun _ _ h => h))
                        clear u7 GE HT6 V6 V5
                        cases hth : (getL L a).2 with
                        | true =>
                          have ND2 := Lib.hid (radNodes_any w7 w1.heap.size xa L E1 HT7.out (by omega))
                          go_wp2_with fail
                          refine (ND2.out).mono ?_
                          rintro e w8 ⟨n2, rfl, hn2, _, u8⟩
                          have en : n2 = nn := hn2.uniq NN.out
                          subst en
                          have HT8 := Lib.hid (HT7.out.keep0 u8)
                          have WA8 := radWalk_any w8 w1.heap.size xa L E1 HT8.out (by omega) [] (by decide)
                          rw [walkL_nil, show ofL [] = ⟨#[]⟩ from rfl] at WA8
                          have WA8 := Lib.hid WA8
                          have V8 := Lib.hid (V7.out.trans u8 (fun _ _ h => h))
                          clear u8 hn2 ND2
                          go_wp2_with fail
                          refine (WA8.out).mono ?_
                          rintro e w9 ⟨v9, rfl, hv9, u9⟩
                          obtain ⟨p9, c9, ev9, _⟩ := own_slice hv9
                          subst ev9
                          have LE := Lib.hid (radLen_any w9 w1.heap.size xa L E1 (HT8.out.keep0 u9))
                          have V9 := Lib.hid (V8.out.trans u9 (fun _ _ h => h))
                          clear u9 hv9 WA8
                          go_wp2_with fail
                          refine (LE.out).mono ?_
                          rintro e w10 ⟨rfl, rfl⟩
                          go_wp2
                          go_ret
                          exact ⟨by first | rfl | simp, U4.out.trans V9.out (fun _ _ h => h)⟩
                        | false =>
                          have PU := radPut_any w7 w1.heap.size xa L E1 HT7.out (by omega) (by have h1 := U4.out.size; have h2 := V7.out.size; omega) a 5 (by omega)
                          have PLn := putM_len HT7.out.rise a 5
                          have RI7 := HT7.out.rise
                          rw [hth] at PLn
                          rw [if_neg (by decide)] at PLn
                          rw [← SA.out] at PU
                          have PU := Lib.hid PU
                          go_wp2_with fail
                          refine (PU.out).mono ?_
                          rintro e w8 ⟨rfl, u8, E8, h8, f8⟩
                          have DR := radDrop_any w8 w1.heap.size xa _ E8 h8 (by omega) a (by omega)
                          have CP : cutM a (putM a 5 L) = L := by
                            rw [cut_put RI7]
                            exact cutM_none RI7 (by rw [hth]; decide)
                          rw [CP, ← SA.out] at DR
                          have DR := Lib.hid DR
                          have F8 : Hid (∀ q, E8 q → w1.heap.size ≤ q) := fun q hq => (f8 q hq).elim (HE.out q) (fun g => by have h1 := U4.out.size; have h2 := V7.out.size; omega)
                          have U8 : Hid (Upd (fun _ => False) w w8) := (U4.out.trans V7.out (fun _ _ h => h)).trans u8 (fun q hq e => by have := HE.out q e; have := U1.out.size; omega)
                          clear h8 u8 f8 PU PLn CP
                          go_wp2_with fail
                          refine (DR.out).mono ?_
                          rintro e w9 ⟨rfl, u9, E9, h9, f9⟩
                          have U9 : Hid (Upd (fun _ => False) w w9) := U8.out.trans u9 (fun q hq e => by have := F8.out q e; have := U1.out.size; omega)
                          have H9 := Lib.hid h9
                          clear h9 u9 f9 DR
                          have ND2 := Lib.hid (radNodes_any w9 w1.heap.size xa L E9 H9.out (by omega))
                          go_wp2_with fail
                          refine (ND2.out).mono ?_
                          rintro e w10 ⟨n2, rfl, hn2, _, u10⟩
                          have en : n2 = nn := hn2.uniq NN.out
                          subst en
                          have HT10 := Lib.hid (H9.out.keep0 u10)
                          have WA8 := radWalk_any w10 w1.heap.size xa L E9 HT10.out (by omega) [] (by decide)
                          rw [walkL_nil, show ofL [] = ⟨#[]⟩ from rfl] at WA8
                          have WA8 := Lib.hid WA8
                          have U10 := Lib.hid (U9.out.trans u10 (fun _ _ h => h))
                          clear u10 hn2 ND2
                          go_wp2_with fail
                          refine (WA8.out).mono ?_
                          rintro e w11 ⟨v9, rfl, hv9, u9⟩
                          obtain ⟨p9, c9, ev9, _⟩ := own_slice hv9
                          subst ev9
                          have LE := Lib.hid (radLen_any w11 w1.heap.size xa L E9 (HT10.out.keep0 u9))
                          have U11 := Lib.hid (U10.out.trans u9 (fun _ _ h => h))
                          clear u9 hv9 WA8
                          go_wp2_with fail
                          refine (LE.out).mono ?_
                          rintro e w12 ⟨rfl, rfl⟩
                          go_wp2
                          go_ret
                          exact ⟨by first | rfl | simp, U11.out⟩
                  · rw [decide_eq_false (fun e => hp (take_pre.1 e))] at BQ0
                    have DJ := Lib.hid (APX.out hp (fun h => hp (by have := h.eq_of_length (by have := h.length_le; omega); rw [this]; exact List.prefix_refl _)))
                    go_wp2
                    go_loopw [107] (fun x107 wq => ∃ (i : Nat), x107 = .int .i64 (i : Int) ∧ i ≤ X.length ∧ Hid (Upd (fun _ => False) w7 wq)) (fun x107 _ => X.length - (intOf x107).toNat)
                    case atStart => exact ⟨0, rfl, Nat.zero_le _, Lib.hid (Upd.refl _ _)⟩
                    case round =>
                      obtain ⟨i, rfl, hi, V⟩ := hrel
                      by_cases hil : i < X.length
                      · have q1 : (i : Int) < (X.length : Int) := by omega
                        obtain ⟨gx, epx, hgx, cx0, cx1⟩ := mark_cells (MX.out.keep V.out (fun _ _ h => h)) hil
                        subst epx
                        obtain ⟨m, hmx⟩ : ∃ m, m = X[i] := ⟨_, rfl⟩
                        have MM : Hid (m ∈ X) := by show m ∈ _; rw [hmx]; exact List.getElem_mem hil
                        rw [← hmx] at cx0 cx1
                        obtain ⟨sm, hsm⟩ : ∃ sm, sm = ofL m.1 := ⟨_, rfl⟩
                        rw [← hsm] at cx0
                        have SM := Lib.hid hsm
                        clear hmx hsm
                        have BXA := Lib.hid (Blk.made wr [.string sm, .int .i64 m.2] 30)
                        have VA : Hid (Upd (fun _ => False) w7 (wr.alloc (.cells #[.string sm, .int .i64 m.2] 30))) := V.out.alloc _
                        generalize hnx : X.length = nX at *
                        go_wp2
                        go_loopw [113] (fun x113 wq => ∃ (j : Nat), x113 = .int .i64 (j : Int) ∧ j ≤ Y.length ∧ Hid (Upd (fun _ => False) (wr.alloc (.cells #[.string sm, .int .i64 m.2] 30)) wq)) (fun x113 _ => Y.length - (intOf x113).toNat)
                        case atStart => exact ⟨0, rfl, Nat.zero_le _, Lib.hid (Upd.refl _ _)⟩
                        case round =>
                          rename_i wq _
                          obtain ⟨j, rfl, hj, VJ⟩ := hrel
                          by_cases hjl : j < Y.length
                          · have q3 : (j : Int) < (Y.length : Int) := by omega
                            obtain ⟨gy, epy, hgy, cy0, cy1⟩ := mark_cells (MY.out.keep (VA.out.trans VJ.out (fun _ _ h => h)) (fun _ _ h => h)) hjl
                            subst epy
                            obtain ⟨n, hny⟩ : ∃ n, n = Y[j] := ⟨_, rfl⟩
                            have NM : Hid (n ∈ Y) := by show n ∈ _; rw [hny]; exact List.getElem_mem hjl
                            rw [← hny] at cy0 cy1
                            have BX := VJ.out.blk BXA.out id
                            have bx0 := BX.cellAt (i := 0) (v := .string sm) rfl
                            have hbx := BX.lt
                            have BQ := beq_txt m.1 n.1
                            rw [← SM.out] at BQ
                            rw [decide_eq_false (DJ.out m MM.out n NM.out)] at BQ
                            generalize ofL n.1 = sn at *
                            clear hny BX
                            generalize hnY : Y.length = nY at *
                            go_wp2
                            go_roundw
                            case rel => exact ⟨j + 1, by simp, by omega, Lib.hid (VJ.out.alloc _)⟩
                            case measure => simp [intOf]; omega
                          · have q3 : ¬ (j : Int) < (Y.length : Int) := by omega
                            have VR := Lib.hid (VA.out.trans VJ.out (fun _ _ h => h))
                            go_wp2
                            go_roundw
                            case rel => exact ⟨i + 1, by simp, by omega, VR⟩
                            case measure => simp [intOf]; omega
                      · have q1 : ¬ (i : Int) < (X.length : Int) := by omega
                        have V5 := Lib.hid (V7.out.trans V.out (fun _ _ h => h))
                        obtain ⟨w5', rfl⟩ : ∃ w5', w5' = wr := ⟨_, rfl⟩
                        have HT5 := Lib.hid (HT.out.keep0 V5.out)
                        have ND := Lib.hid (radNodes_any w5' w1.heap.size xa L E1 HT5.out (by omega))
                        go_wp2_with fail
                        refine (ND.out).mono ?_
                        rintro e w6 ⟨nn, rfl, hnn, hnb, u6⟩
                        have HT6 := Lib.hid (HT5.out.keep0 u6)
                        have V6 := Lib.hid (V5.out.trans u6 (fun _ _ h => h))
                        have NN := Lib.hid hnn
                        have hnn64 : (nn : Int) ≤ 100 := by omega
                        have GE := radGet_any w6 w1.heap.size xa L E1 a HT6.out (by omega)
                        rw [← SA.out] at GE
                        have GE := Lib.hid GE
                        clear u6 hnn ND HT5
                        go_wp2_with fail
                        refine (GE.out).mono ?_
                        rintro e w7 ⟨rfl, u7⟩
                        have HT7 := Lib.hid (HT6.out.keep0 u7)
                        have V7 := Lib.hid (V6.out.trans u7 (fun _ _ h => h))
                        clear u7 GE HT6 V6 V5
                        cases hth : (getL L a).2 with
                        | true =>
                          have ND2 := Lib.hid (radNodes_any w7 w1.heap.size xa L E1 HT7.out (by omega))
                          go_wp2_with fail
                          refine (ND2.out).mono ?_
                          rintro e w8 ⟨n2, rfl, hn2, _, u8⟩
                          have en : n2 = nn := hn2.uniq NN.out
                          subst en
                          have HT8 := Lib.hid (HT7.out.keep0 u8)
                          have WA8 := radWalk_any w8 w1.heap.size xa L E1 HT8.out (by omega) [] (by decide)
                          rw [walkL_nil, show ofL [] = ⟨#[]⟩ from rfl] at WA8
                          have WA8 := Lib.hid WA8
                          have V8 := Lib.hid (V7.out.trans u8 (fun _ _ h => h))
                          clear u8 hn2 ND2
                          go_wp2_with fail
                          refine (WA8.out).mono ?_
                          rintro e w9 ⟨v9, rfl, hv9, u9⟩
                          obtain ⟨p9, c9, ev9, _⟩ := own_slice hv9
                          subst ev9
                          have LE := Lib.hid (radLen_any w9 w1.heap.size xa L E1 (HT8.out.keep0 u9))
                          have V9 := Lib.hid (V8.out.trans u9 (fun _ _ h => h))
                          clear u9 hv9 WA8
                          go_wp2_with fail
                          refine (LE.out).mono ?_
                          rintro e w10 ⟨rfl, rfl⟩
                          go_wp2
                          go_ret
                          exact ⟨by first | rfl | simp, U4.out.trans V9.out (fun _ _ h => h)⟩
                        | false =>
                          have PU := radPut_any w7 w1.heap.size xa L E1 HT7.out (by omega) (by have h1 := U4.out.size; have h2 := V7.out.size; omega) a 5 (by omega)
                          have PLn := putM_len HT7.out.rise a 5
                          have RI7 := HT7.out.rise
                          rw [hth] at PLn
                          rw [if_neg (by decide)] at PLn
                          rw [← SA.out] at PU
                          have PU := Lib.hid PU
                          go_wp2_with fail
                          refine (PU.out).mono ?_
                          rintro e w8 ⟨rfl, u8, E8, h8, f8⟩
                          have DR := radDrop_any w8 w1.heap.size xa _ E8 h8 (by omega) a (by omega)
                          have CP : cutM a (putM a 5 L) = L := by
                            rw [cut_put RI7]
                            exact cutM_none RI7 (by rw [hth]; decide)
                          rw [CP, ← SA.out] at DR
                          have DR := Lib.hid DR
                          have F8 : Hid (∀ q, E8 q → w1.heap.size ≤ q) := fun q hq => (f8 q hq).elim (HE.out q) (fun g => by have h1 := U4.out.size; have h2 := V7.out.size; omega)
                          have U8 : Hid (Upd (fun _ => False) w w8) := (U4.out.trans V7.out (fun _ _ h => h)).trans u8 (fun q hq e => by have := HE.out q e; have := U1.out.size; omega)
                          clear h8 u8 f8 PU PLn CP
                          go_wp2_with fail
                          refine (DR.out).mono ?_
                          rintro e w9 ⟨rfl, u9, E9, h9, f9⟩
                          have U9 : Hid (Upd (fun _ => False) w w9) := U8.out.trans u9 (fun q hq e => by have := F8.out q e; have := U1.out.size; omega)
                          have H9 := Lib.hid h9
                          clear h9 u9 f9 DR
                          have ND2 := Lib.hid (radNodes_any w9 w1.heap.size xa L E9 H9.out (by omega))
                          go_wp2_with fail
                          refine (ND2.out).mono ?_
                          rintro e w10 ⟨n2, rfl, hn2, _, u10⟩
                          have en : n2 = nn := hn2.uniq NN.out
                          subst en
                          have HT10 := Lib.hid (H9.out.keep0 u10)
                          have WA8 := radWalk_any w10 w1.heap.size xa L E9 HT10.out (by omega) [] (by decide)
                          rw [walkL_nil, show ofL [] = ⟨#[]⟩ from rfl] at WA8
                          have WA8 := Lib.hid WA8
                          have U10 := Lib.hid (U9.out.trans u10 (fun _ _ h => h))
                          clear u10 hn2 ND2
                          go_wp2_with fail
                          refine (WA8.out).mono ?_
                          rintro e w11 ⟨v9, rfl, hv9, u9⟩
                          obtain ⟨p9, c9, ev9, _⟩ := own_slice hv9
                          subst ev9
                          have LE := Lib.hid (radLen_any w11 w1.heap.size xa L E9 (HT10.out.keep0 u9))
                          have U11 := Lib.hid (U10.out.trans u9 (fun _ _ h => h))
                          clear u9 hv9 WA8
                          go_wp2_with fail
                          refine (LE.out).mono ?_
                          rintro e w12 ⟨rfl, rfl⟩
                          go_wp2
                          go_ret
                          exact ⟨by first | rfl | simp, U11.out⟩
                · have qc : ¬ (a.length : Int) ≤ (b.length : Int) := by omega
                  have qd : (b.length : Int) < (a.length : Int) := by omega
                  have qe : (b.length : Int) ≤ (a.length : Int) := by omega
                  have rt := run_take a (b.length : Int) (by omega) qe
                  rw [← SA.out, Int.toNat_natCast] at rt
                  have BQ0 := beq_txt (a.take b.length) b
                  rw [← SB.out] at BQ0
                  generalize ofL (a.take b.length) = sat at *
                  by_cases hp : b <+: a
                  · rw [take_pre.2 hp, decide_eq_true rfl] at BQ0
                    go_wp2
                    go_loopw [107] (fun x107 wq => ∃ (i : Nat), x107 = .int .i64 (i : Int) ∧ i ≤ X.length ∧ Hid (Upd (fun _ => False) w7 wq)) (fun x107 _ => X.length - (intOf x107).toNat)
                    case atStart => exact ⟨0, rfl, Nat.zero_le _, Lib.hid (Upd.refl _ _)⟩
                    case round =>
                      obtain ⟨i, rfl, hi, V⟩ := hrel
                      by_cases hil : i < X.length
                      · have q1 : (i : Int) < (X.length : Int) := by omega
                        obtain ⟨gx, epx, hgx, cx0, cx1⟩ := mark_cells (MX.out.keep V.out (fun _ _ h => h)) hil
                        subst epx
                        obtain ⟨m, hmx⟩ : ∃ m, m = X[i] := ⟨_, rfl⟩
                        have MM : Hid (m ∈ X) := by show m ∈ _; rw [hmx]; exact List.getElem_mem hil
                        rw [← hmx] at cx0 cx1
                        obtain ⟨sm, hsm⟩ : ∃ sm, sm = ofL m.1 := ⟨_, rfl⟩
                        rw [← hsm] at cx0
                        have SM := Lib.hid hsm
                        clear hmx hsm
                        have BXA := Lib.hid (Blk.made wr [.string sm, .int .i64 m.2] 30)
                        have VA : Hid (Upd (fun _ => False) w7 (wr.alloc (.cells #[.string sm, .int .i64 m.2] 30))) := V.out.alloc _
                        generalize hnx : X.length = nX at *
                        go_wp2
                        go_loopw [113] (fun x113 wq => ∃ (j : Nat), x113 = .int .i64 (j : Int) ∧ j ≤ Y.length ∧ Hid (Upd (fun _ => False) (wr.alloc (.cells #[.string sm, .int .i64 m.2] 30)) wq)) (fun x113 _ => Y.length - (intOf x113).toNat)
                        case atStart => exact ⟨0, rfl, Nat.zero_le _, Lib.hid (Upd.refl _ _)⟩
                        case round =>
                          rename_i wq _
                          obtain ⟨j, rfl, hj, VJ⟩ := hrel
                          by_cases hjl : j < Y.length
                          · have q3 : (j : Int) < (Y.length : Int) := by omega
                            obtain ⟨gy, epy, hgy, cy0, cy1⟩ := mark_cells (MY.out.keep (VA.out.trans VJ.out (fun _ _ h => h)) (fun _ _ h => h)) hjl
                            subst epy
                            obtain ⟨n, hny⟩ : ∃ n, n = Y[j] := ⟨_, rfl⟩
                            have NM : Hid (n ∈ Y) := by show n ∈ _; rw [hny]; exact List.getElem_mem hjl
                            rw [← hny] at cy0 cy1
                            have BX := VJ.out.blk BXA.out id
                            have bx0 := BX.cellAt (i := 0) (v := .string sm) rfl
                            have hbx := BX.lt
                            have BQ := beq_txt m.1 n.1
                            rw [← SM.out] at BQ
                            clear BQ
                            generalize ofL n.1 = sn at *
                            clear hny BX
                            generalize hnY : Y.length = nY at *
                            go_wp2
                            go_roundw
                            case rel => exact ⟨j + 1, by simp, by omega, Lib.hid (VJ.out.alloc _)⟩
                            case measure => simp [intOf]; omega
                          · have q3 : ¬ (j : Int) < (Y.length : Int) := by omega
                            have VR := Lib.hid (VA.out.trans VJ.out (fun _ _ h => h))
                            go_wp2
                            go_roundw
                            case rel => exact ⟨i + 1, by simp, by omega, VR⟩
                            case measure => simp [intOf]; omega
                      · have q1 : ¬ (i : Int) < (X.length : Int) := by omega
                        have V5 := Lib.hid (V7.out.trans V.out (fun _ _ h => h))
                        obtain ⟨w5', rfl⟩ : ∃ w5', w5' = wr := ⟨_, rfl⟩
                        have HT5 := Lib.hid (HT.out.keep0 V5.out)
                        have ND := Lib.hid (radNodes_any w5' w1.heap.size xa L E1 HT5.out (by omega))
                        go_wp2_with fail
                        refine (ND.out).mono ?_
                        rintro e w6 ⟨nn, rfl, hnn, hnb, u6⟩
                        have HT6 := Lib.hid (HT5.out.keep0 u6)
                        have V6 := Lib.hid (V5.out.trans u6 (fun _ _ h => h))
                        have NN := Lib.hid hnn
                        have hnn64 : (nn : Int) ≤ 100 := by omega
                        have GE := radGet_any w6 w1.heap.size xa L E1 a HT6.out (by omega)
                        rw [← SA.out] at GE
                        have GE := Lib.hid GE
                        clear u6 hnn ND HT5
                        go_wp2_with fail
                        refine (GE.out).mono ?_
                        rintro e w7 ⟨rfl, u7⟩
                        have HT7 := Lib.hid (HT6.out.keep0 u7)
                        have V7 := Lib.hid (V6.out.trans u7 (fun _ _ h => h))
                        clear u7 GE HT6 V6 V5
                        cases hth : (getL L a).2 with
                        | true =>
                          have ND2 := Lib.hid (radNodes_any w7 w1.heap.size xa L E1 HT7.out (by omega))
                          go_wp2_with fail
                          refine (ND2.out).mono ?_
                          rintro e w8 ⟨n2, rfl, hn2, _, u8⟩
                          have en : n2 = nn := hn2.uniq NN.out
                          subst en
                          have HT8 := Lib.hid (HT7.out.keep0 u8)
                          have WA8 := radWalk_any w8 w1.heap.size xa L E1 HT8.out (by omega) [] (by decide)
                          rw [walkL_nil, show ofL [] = ⟨#[]⟩ from rfl] at WA8
                          have WA8 := Lib.hid WA8
                          have V8 := Lib.hid (V7.out.trans u8 (fun _ _ h => h))
                          clear u8 hn2 ND2
                          go_wp2_with fail
                          refine (WA8.out).mono ?_
                          rintro e w9 ⟨v9, rfl, hv9, u9⟩
                          obtain ⟨p9, c9, ev9, _⟩ := own_slice hv9
                          subst ev9
                          have LE := Lib.hid (radLen_any w9 w1.heap.size xa L E1 (HT8.out.keep0 u9))
                          have V9 := Lib.hid (V8.out.trans u9 (fun _ _ h => h))
                          clear u9 hv9 WA8
                          go_wp2_with fail
                          refine (LE.out).mono ?_
                          rintro e w10 ⟨rfl, rfl⟩
                          go_wp2
                          go_ret
                          exact ⟨by first | rfl | simp, U4.out.trans V9.out (fun _ _ h => h)⟩
                        | false =>
                          have PU := radPut_any w7 w1.heap.size xa L E1 HT7.out (by omega) (by have h1 := U4.out.size; have h2 := V7.out.size; omega) a 5 (by omega)
                          have PLn := putM_len HT7.out.rise a 5
                          have RI7 := HT7.out.rise
                          rw [hth] at PLn
                          rw [if_neg (by decide)] at PLn
                          rw [← SA.out] at PU
                          have PU := Lib.hid PU
                          go_wp2_with fail
                          refine (PU.out).mono ?_
                          rintro e w8 ⟨rfl, u8, E8, h8, f8⟩
                          have DR := radDrop_any w8 w1.heap.size xa _ E8 h8 (by omega) a (by omega)
                          have CP : cutM a (putM a 5 L) = L := by
                            rw [cut_put RI7]
                            exact cutM_none RI7 (by rw [hth]; decide)
                          rw [CP, ← SA.out] at DR
                          have DR := Lib.hid DR
                          have F8 : Hid (∀ q, E8 q → w1.heap.size ≤ q) := fun q hq => (f8 q hq).elim (HE.out q) (fun g => by have h1 := U4.out.size; have h2 := V7.out.size; omega)
                          have U8 : Hid (Upd (fun _ => False) w w8) := (U4.out.trans V7.out (fun _ _ h => h)).trans u8 (fun q hq e => by have := HE.out q e; have := U1.out.size; omega)
                          clear h8 u8 f8 PU PLn CP
                          go_wp2_with fail
                          refine (DR.out).mono ?_
                          rintro e w9 ⟨rfl, u9, E9, h9, f9⟩
                          have U9 : Hid (Upd (fun _ => False) w w9) := U8.out.trans u9 (fun q hq e => by have := F8.out q e; have := U1.out.size; omega)
                          have H9 := Lib.hid h9
                          clear h9 u9 f9 DR
                          have ND2 := Lib.hid (radNodes_any w9 w1.heap.size xa L E9 H9.out (by omega))
                          go_wp2_with fail
                          refine (ND2.out).mono ?_
                          rintro e w10 ⟨n2, rfl, hn2, _, u10⟩
                          have en : n2 = nn := hn2.uniq NN.out
                          subst en
                          have HT10 := Lib.hid (H9.out.keep0 u10)
                          have WA8 := radWalk_any w10 w1.heap.size xa L E9 HT10.out (by omega) [] (by decide)
                          rw [walkL_nil, show ofL [] = ⟨#[]⟩ from rfl] at WA8
                          have WA8 := Lib.hid WA8
                          have U10 := Lib.hid (U9.out.trans u10 (fun _ _ h => h))
                          clear u10 hn2 ND2
                          go_wp2_with fail
                          refine (WA8.out).mono ?_
                          rintro e w11 ⟨v9, rfl, hv9, u9⟩
                          obtain ⟨p9, c9, ev9, _⟩ := own_slice hv9
                          subst ev9
                          have LE := Lib.hid (radLen_any w11 w1.heap.size xa L E9 (HT10.out.keep0 u9))
                          have U11 := Lib.hid (U10.out.trans u9 (fun _ _ h => h))
                          clear u9 hv9 WA8
                          go_wp2_with fail
                          refine (LE.out).mono ?_
                          rintro e w12 ⟨rfl, rfl⟩
                          go_wp2
                          go_ret
                          exact ⟨by first | rfl | simp, U11.out⟩
                  · rw [decide_eq_false (fun e => hp (take_pre.1 e))] at BQ0
                    have DJ := Lib.hid (APX.out (fun h => by have := h.length_le; omega) hp)
                    go_wp2
                    go_loopw [107] (fun x107 wq => ∃ (i : Nat), x107 = .int .i64 (i : Int) ∧ i ≤ X.length ∧ Hid (Upd (fun _ => False) w7 wq)) (fun x107 _ => X.length - (intOf x107).toNat)
                    case atStart => exact ⟨0, rfl, Nat.zero_le _, Lib.hid (Upd.refl _ _)⟩
                    case round =>
                      obtain ⟨i, rfl, hi, V⟩ := hrel
                      by_cases hil : i < X.length
                      · have q1 : (i : Int) < (X.length : Int) := by omega
                        obtain ⟨gx, epx, hgx, cx0, cx1⟩ := mark_cells (MX.out.keep V.out (fun _ _ h => h)) hil
                        subst epx
                        obtain ⟨m, hmx⟩ : ∃ m, m = X[i] := ⟨_, rfl⟩
                        have MM : Hid (m ∈ X) := by show m ∈ _; rw [hmx]; exact List.getElem_mem hil
                        rw [← hmx] at cx0 cx1
                        obtain ⟨sm, hsm⟩ : ∃ sm, sm = ofL m.1 := ⟨_, rfl⟩
                        rw [← hsm] at cx0
                        have SM := Lib.hid hsm
                        clear hmx hsm
                        have BXA := Lib.hid (Blk.made wr [.string sm, .int .i64 m.2] 30)
                        have VA : Hid (Upd (fun _ => False) w7 (wr.alloc (.cells #[.string sm, .int .i64 m.2] 30))) := V.out.alloc _
                        generalize hnx : X.length = nX at *
                        go_wp2
                        go_loopw [113] (fun x113 wq => ∃ (j : Nat), x113 = .int .i64 (j : Int) ∧ j ≤ Y.length ∧ Hid (Upd (fun _ => False) (wr.alloc (.cells #[.string sm, .int .i64 m.2] 30)) wq)) (fun x113 _ => Y.length - (intOf x113).toNat)
                        case atStart => exact ⟨0, rfl, Nat.zero_le _, Lib.hid (Upd.refl _ _)⟩
                        case round =>
                          rename_i wq _
                          obtain ⟨j, rfl, hj, VJ⟩ := hrel
                          by_cases hjl : j < Y.length
                          · have q3 : (j : Int) < (Y.length : Int) := by omega
                            obtain ⟨gy, epy, hgy, cy0, cy1⟩ := mark_cells (MY.out.keep (VA.out.trans VJ.out (fun _ _ h => h)) (fun _ _ h => h)) hjl
                            subst epy
                            obtain ⟨n, hny⟩ : ∃ n, n = Y[j] := ⟨_, rfl⟩
                            have NM : Hid (n ∈ Y) := by show n ∈ _; rw [hny]; exact List.getElem_mem hjl
                            rw [← hny] at cy0 cy1
                            have BX := VJ.out.blk BXA.out id
                            have bx0 := BX.cellAt (i := 0) (v := .string sm) rfl
                            have hbx := BX.lt
                            have BQ := beq_txt m.1 n.1
                            rw [← SM.out] at BQ
                            rw [decide_eq_false (DJ.out m MM.out n NM.out)] at BQ
                            generalize ofL n.1 = sn at *
                            clear hny BX
                            generalize hnY : Y.length = nY at *
                            go_wp2
                            go_roundw
                            case rel => exact ⟨j + 1, by simp, by omega, Lib.hid (VJ.out.alloc _)⟩
                            case measure => simp [intOf]; omega
                          · have q3 : ¬ (j : Int) < (Y.length : Int) := by omega
                            have VR := Lib.hid (VA.out.trans VJ.out (fun _ _ h => h))
                            go_wp2
                            go_roundw
                            case rel => exact ⟨i + 1, by simp, by omega, VR⟩
                            case measure => simp [intOf]; omega
                      · have q1 : ¬ (i : Int) < (X.length : Int) := by omega
                        have V5 := Lib.hid (V7.out.trans V.out (fun _ _ h => h))
                        obtain ⟨w5', rfl⟩ : ∃ w5', w5' = wr := ⟨_, rfl⟩
                        have HT5 := Lib.hid (HT.out.keep0 V5.out)
                        have ND := Lib.hid (radNodes_any w5' w1.heap.size xa L E1 HT5.out (by omega))
                        go_wp2_with fail
                        refine (ND.out).mono ?_
                        rintro e w6 ⟨nn, rfl, hnn, hnb, u6⟩
                        have HT6 := Lib.hid (HT5.out.keep0 u6)
                        have V6 := Lib.hid (V5.out.trans u6 (fun _ _ h => h))
                        have NN := Lib.hid hnn
                        have hnn64 : (nn : Int) ≤ 100 := by omega
                        have GE := radGet_any w6 w1.heap.size xa L E1 a HT6.out (by omega)
                        rw [← SA.out] at GE
                        have GE := Lib.hid GE
                        clear u6 hnn ND HT5
                        go_wp2_with fail
                        refine (GE.out).mono ?_
                        rintro e w7 ⟨rfl, u7⟩
                        have HT7 := Lib.hid (HT6.out.keep0 u7)
                        have V7 := Lib.hid (V6.out.trans u7 (fun _ _ h => h))
                        clear u7 GE HT6 V6 V5
                        cases hth : (getL L a).2 with
                        | true =>
                          have ND2 := Lib.hid (radNodes_any w7 w1.heap.size xa L E1 HT7.out (by omega))
                          go_wp2_with fail
                          refine (ND2.out).mono ?_
                          rintro e w8 ⟨n2, rfl, hn2, _, u8⟩
                          have en : n2 = nn := hn2.uniq NN.out
                          subst en
                          have HT8 := Lib.hid (HT7.out.keep0 u8)
                          have WA8 := radWalk_any w8 w1.heap.size xa L E1 HT8.out (by omega) [] (by decide)
                          rw [walkL_nil, show ofL [] = ⟨#[]⟩ from rfl] at WA8
                          have WA8 := Lib.hid WA8
                          have V8 := Lib.hid (V7.out.trans u8 (fun _ _ h => h))
                          clear u8 hn2 ND2
                          go_wp2_with fail
                          refine (WA8.out).mono ?_
                          rintro e w9 ⟨v9, rfl, hv9, u9⟩
                          obtain ⟨p9, c9, ev9, _⟩ := own_slice hv9
                          subst ev9
                          have LE := Lib.hid (radLen_any w9 w1.heap.size xa L E1 (HT8.out.keep0 u9))
                          have V9 := Lib.hid (V8.out.trans u9 (fun _ _ h => h))
                          clear u9 hv9 WA8
                          go_wp2_with fail
                          refine (LE.out).mono ?_
                          rintro e w10 ⟨rfl, rfl⟩
                          go_wp2
                          go_ret
                          exact ⟨by first | rfl | simp, U4.out.trans V9.out (fun _ _ h => h)⟩
                        | false =>
                          have PU := radPut_any w7 w1.heap.size xa L E1 HT7.out (by omega) (by have h1 := U4.out.size; have h2 := V7.out.size; omega) a 5 (by omega)
                          have PLn := putM_len HT7.out.rise a 5
                          have RI7 := HT7.out.rise
                          rw [hth] at PLn
                          rw [if_neg (by decide)] at PLn
                          rw [← SA.out] at PU
                          have PU := Lib.hid PU
                          go_wp2_with fail
                          refine (PU.out).mono ?_
                          rintro e w8 ⟨rfl, u8, E8, h8, f8⟩
                          have DR := radDrop_any w8 w1.heap.size xa _ E8 h8 (by omega) a (by omega)
                          have CP : cutM a (putM a 5 L) = L := by
                            rw [cut_put RI7]
                            exact cutM_none RI7 (by rw [hth]; decide)
                          rw [CP, ← SA.out] at DR
                          have DR := Lib.hid DR
                          have F8 : Hid (∀ q, E8 q → w1.heap.size ≤ q) := fun q hq => (f8 q hq).elim (HE.out q) (fun g => by have h1 := U4.out.size; have h2 := V7.out.size; omega)
                          have U8 : Hid (Upd (fun _ => False) w w8) := (U4.out.trans V7.out (fun _ _ h => h)).trans u8 (fun q hq e => by have := HE.out q e; have := U1.out.size; omega)
                          clear h8 u8 f8 PU PLn CP
                          go_wp2_with fail
                          refine (DR.out).mono ?_
                          rintro e w9 ⟨rfl, u9, E9, h9, f9⟩
                          have U9 : Hid (Upd (fun _ => False) w w9) := U8.out.trans u9 (fun q hq e => by have := F8.out q e; have := U1.out.size; omega)
                          have H9 := Lib.hid h9
                          clear h9 u9 f9 DR
                          have ND2 := Lib.hid (radNodes_any w9 w1.heap.size xa L E9 H9.out (by omega))
                          go_wp2_with fail
                          refine (ND2.out).mono ?_
                          rintro e w10 ⟨n2, rfl, hn2, _, u10⟩
                          have en : n2 = nn := hn2.uniq NN.out
                          subst en
                          have HT10 := Lib.hid (H9.out.keep0 u10)
                          have WA8 := radWalk_any w10 w1.heap.size xa L E9 HT10.out (by omega) [] (by decide)
                          rw [walkL_nil, show ofL [] = ⟨#[]⟩ from rfl] at WA8
                          have WA8 := Lib.hid WA8
                          have U10 := Lib.hid (U9.out.trans u10 (fun _ _ h => h))
                          clear u10 hn2 ND2
                          go_wp2_with fail
                          refine (WA8.out).mono ?_
                          rintro e w11 ⟨v9, rfl, hv9, u9⟩
                          obtain ⟨p9, c9, ev9, _⟩ := own_slice hv9
                          subst ev9
                          have LE := Lib.hid (radLen_any w11 w1.heap.size xa L E9 (HT10.out.keep0 u9))
                          have U11 := Lib.hid (U10.out.trans u9 (fun _ _ h => h))
                          clear u9 hv9 WA8
                          go_wp2_with fail
                          refine (LE.out).mono ?_
                          rintro e w12 ⟨rfl, rfl⟩
                          go_wp2
                          go_ret
                          exact ⟨by first | rfl | simp, U11.out⟩
end Go.Proofs.Ytnlbmplbaalgmaa
