/- The document's marks: Nodes, walked. -/
import Derived.Test.YtnlbmplbaalgmaaRefC
set_option linter.unusedVariables false
set_option linter.unusedSimpArgs false
namespace Go.Proofs.Ytnlbmplbaalgmaa
open Go.RowKit
set_option maxHeartbeats 16000000 in
set_option maxRecDepth 100000 in
theorem rnodes_any (v : Value) (l : List MarkP) (w : World) (base : Nat) (h : MarksAt w base v l) (hl : l.length ≤ 90) (hk : ∀ m ∈ l, m.1.length ≤ 1000000) :
    Calls Try.prog 24 #[v] w fun e w' => ∃ n : Nat, e = .returned (.int .i64 (n : Int)) ∧ NodesN l n ∧ Upd (fun _ => False) w w' := by
  obtain ⟨p, c, ev, hm⟩ := own_slice h
  subst ev
  have hlc : l.length ≤ c := by
    obtain ⟨_, ⟨e1, e2⟩ | ⟨g, cap, cs, ev, _, _, _, _, hle⟩⟩ := own2_blk h
    · injection e1 with e1 e3 e4; omega
    · injection ev with e1 e3 e4; omega
  have H := Lib.hid h
  have KS := Lib.hid hk
  have TX0 : Hid (TxtsAt (w.alloc (.cells #[.string ⟨#[]⟩] 9)) w.heap.size (.slice (some ⟨w.heap.size, 0, none⟩) 1 1) [[]]) := own_of (cs := []) (Nat.le_refl _) (Blk.made w [.string ⟨#[]⟩] _) rfl rfl (by unfold maxLen; omega)
  clear h hk
  go_enter Try.func24, Try.ntmps24
  go_wp2
  go_loopw [3, 12] (fun x3 x12 wr => ∃ (i : Nat) (X : List Txt), x12 = .int .i64 (i : Int) ∧ i ≤ l.length ∧ X.length ≤ 1 + i * 1001 ∧ Hid (X.Nodup ∧ ∀ t, t ∈ X ↔ MemP (l.take i) t) ∧ Hid (TxtsAt wr w.heap.size x3 X) ∧ Hid (Upd (fun _ => False) w wr)) (fun _ x12 _ => l.length - (intOf x12).toNat)
  case atStart => exact ⟨0, [[]], rfl, by omega, by simp, Lib.hid ⟨by simp, fun t => by simp [MemP]⟩, TX0, Lib.hid ((Upd.refl _ _).alloc _)⟩
  case round =>
    obtain ⟨i, X, rfl, hi, hX, XM, TX, U⟩ := hrel
    obtain ⟨px, cx, ex, _⟩ := own_slice TX.out
    subst ex
    by_cases hil : i < l.length
    · have q1 : (i : Int) < (l.length : Int) := by omega
      obtain ⟨g, ep, hg, c0, c1⟩ := mark_cells (H.out.keep U.out (fun _ _ h => h)) hil
      subst ep
      obtain ⟨a, ha⟩ : ∃ a, a = l[i] := ⟨_, rfl⟩
      rw [← ha] at c0 c1
      have ham : a ∈ l := by rw [ha]; exact List.getElem_mem hil
      have hal := KS.out a ham
      have TKI := Lib.hid (show l.take (i + 1) = l.take i ++ [a] by rw [ha]; exact List.take_succ_eq_append_getElem hil)
      have asz := ofL_size a.1
      obtain ⟨sa, hsa⟩ : ∃ sa, sa = ofL a.1 := ⟨_, rfl⟩
      rw [← hsa] at c0 asz
      have SA := Lib.hid hsa
      have hwl := U.out.size
      have AD := radd_any (.slice px X.length cx) X a.1 (wr.alloc (.cells #[.string sa, .int .i64 a.2] 30)) w.heap.size (own_keep TX.out ((Upd.refl (fun _ => False) wr).alloc _) (fun _ _ h => h)) (by omega) (by simp; omega)
      rw [← hsa] at AD
      have AD := Lib.hid AD
      have BXA := Lib.hid (Blk.made wr [.string sa, .int .i64 a.2] 30)
      have UA : Hid (Upd (fun _ => False) w (wr.alloc (.cells #[.string sa, .int .i64 a.2] 30))) := U.out.alloc _
      clear ha ham hsa
      have qi : (i : Int) ≤ (c : Int) := by omega
      have qi2 : i ≤ c := by omega
      generalize hnl : l.length = nl at *
      go_wp2_with fail
      refine (AD.out).mono ?_
      rintro e w4 ⟨v4, rfl, hv4, u4⟩
      have TX4 := Lib.hid hv4
      have U4 := Lib.hid (UA.out.trans u4 (fun _ _ h => h))
      have BX4 := Lib.hid (u4.blk BXA.out id)
      have XM4 : Hid ((addT X a.1).Nodup ∧ ∀ t, t ∈ addT X a.1 ↔ (MemP (l.take i) t ∨ t = a.1)) := ⟨addT_nodup XM.out.1, fun t => by rw [addT_mem, XM.out.2]⟩
      have hX4 : (addT X a.1).length ≤ 2 + i * 1001 := by have := addT_len (l := X) (s := a.1); omega
      obtain ⟨w4', rfl⟩ : ∃ w4', w4' = w4 := ⟨_, rfl⟩
      generalize addT X a.1 = X4 at *
      clear hv4 u4 AD
      go_wp2
      go_loopw [3, 25] (fun x3 x25 wq => ∃ (j : Nat) (Y : List Txt), x25 = .int .i64 (j : Int) ∧ j ≤ i ∧ Y.length ≤ 2 + i * 1001 + j ∧ Hid (Y.Nodup ∧ ∀ t, t ∈ Y ↔ ((MemP (l.take i) t ∨ t = a.1) ∨ ∃ b ∈ l.take j, lcp a.1 b.1 = t)) ∧ Hid (TxtsAt wq w.heap.size x3 Y) ∧ Hid (Upd (fun _ => False) w4' wq)) (fun _ x25 _ => i - (intOf x25).toNat)
      case atStart => exact ⟨0, X4, rfl, by omega, by omega, Lib.hid ⟨XM4.out.1, fun t => by rw [XM4.out.2]; simp⟩, TX4, Lib.hid (Upd.refl _ _)⟩
      case round =>
        obtain ⟨j, Y, rfl, hj, hY, YM, TY, V⟩ := hrel
        obtain ⟨py, cy, ey, _⟩ := own_slice TY.out
        subst ey
        have U5 := Lib.hid (U4.out.trans V.out (fun _ _ h => h))
        by_cases hji : j < i
        · have q2 : (j : Int) < (i : Int) := by omega
          have hjl : j < l.length := by omega
          obtain ⟨g', ep', hg', d0, d1⟩ := mark_cells (hnl ▸ H.out.keep U5.out (fun _ _ h => h)) hjl
          have eg : g = g' := by injection ep' with e; injection e
          subst eg
          obtain ⟨b, hb⟩ : ∃ b, b = l[j] := ⟨_, rfl⟩
          rw [← hb] at d0 d1
          have hbm : b ∈ l := by rw [hb]; exact List.getElem_mem hjl
          have hbl := KS.out b hbm
          have TKJ := Lib.hid (show l.take (j + 1) = l.take j ++ [b] by rw [hb]; exact List.take_succ_eq_append_getElem hjl)
          have bsz := ofL_size b.1
          obtain ⟨sb, hsb⟩ : ∃ sb, sb = ofL b.1 := ⟨_, rfl⟩
          rw [← hsb] at d0 bsz
          have SB := Lib.hid hsb
          have BXB := Lib.hid (Blk.made wr [.string sb, .int .i64 b.2] 30)
          have BX5 := Lib.hid ((V.out.blk BX4.out id).alloc (.cells #[.string sb, .int .i64 b.2] 30))
          have TY5 : Hid (TxtsAt (wr.alloc (.cells #[.string sb, .int .i64 b.2] 30)) w.heap.size (.slice py Y.length cy) Y) := own_keep TY.out ((Upd.refl (fun _ => False) wr).alloc _) (fun _ _ h => h)
          have V5 : Hid (Upd (fun _ => False) w4' (wr.alloc (.cells #[.string sb, .int .i64 b.2] 30))) := V.out.alloc _
          clear hb hbm hsb ep' hjl
          obtain ⟨w6, hw6⟩ : ∃ w6, w6 = wr.alloc (.cells #[.string sb, .int .i64 b.2] 30) := ⟨_, rfl⟩
          have HW6 := Lib.hid hw6
          clear hw6
          go_wp2
          rw [← HW6.out] at BXB BX5 TY5 V5 ⊢
          have xa := BX5.out.cellAt (i := 0) (v := .string sa) rfl
          have xb := BXB.out.cellAt (i := 0) (v := .string sb) rfl
          clear HW6
          go_loopw [8] (fun x8 wq => ∃ (n m : Nat), x8 = .int .i64 (n : Int) ∧ n ≤ (lcp a.1 b.1).length ∧ Hid (wq = w6.drewN m)) (fun x8 _ => (lcp a.1 b.1).length - (intOf x8).toNat)
          case atStart => exact ⟨0, 0, rfl, by omega, Lib.hid rfl⟩
          case round =>
            obtain ⟨n, m, rfl, hn, HWM⟩ := hrel
            have hwm := HWM.out
            subst hwm
            clear HWM
            have NX := lcp_next a.1 b.1 n hn
            by_cases h1 : n < a.1.length
            · have q3 : (n : Int) < (a.1.length : Int) := by omega
              by_cases h2 : n < b.1.length
              · have q4 : (n : Int) < (b.1.length : Int) := by omega
                obtain ⟨x, hx⟩ : ∃ x, a.1[n]? = some x := ⟨_, List.getElem?_eq_getElem h1⟩
                obtain ⟨y, hy⟩ : ∃ y, b.1[n]? = some y := ⟨_, List.getElem?_eq_getElem h2⟩
                have rx := run_at a.1 n x hx
                have ry := run_at b.1 n y hy
                rw [← SA.out] at rx
                rw [← SB.out] at ry
                by_cases e : x = y
                · subst e
                  have hk2 := NX.2 ⟨_, hx, hy⟩
                  clear NX hx hy
                  generalize hla : a.1.length = la at *
                  generalize hlb : b.1.length = lb at *
                  go_wp2
                  go_quiet (fail)
                  go_wp2
                  go_roundw
                  case rel => exact ⟨n + 1, m + nq, by go_num, by omega, Lib.hid rfl⟩
                  case measure => simp [intOf]; omega
                · have hk2 : (lcp a.1 b.1).length = n := by
                    by_cases h : n < (lcp a.1 b.1).length
                    · obtain ⟨z, h3, h4⟩ := NX.1 h
                      rw [hx] at h3; rw [hy] at h4
                      cases h3; cases h4; exact absurd rfl e
                    · omega
                  have e2 : ¬ (x.toNat : Int) = (y.toNat : Int) := fun h => e (UInt8.toNat_inj.1 (by omega))
                  clear NX hx hy
                  have hla := (lcp_left a.1 b.1).length_le
                  have rt := run_take a.1 (n : Int) (by omega) (by omega)
                  have hlt0 : a.1.take n = lcp a.1 b.1 := by rw [← hk2]; exact take_pre.2 (lcp_left _ _)
                  rw [Int.toNat_natCast, hlt0, ← SA.out] at rt
                  have AD2 : Hid (∀ v, Upd (fun _ => False) w6 v → Calls Try.prog 49 #[.slice py Y.length cy, .string (ofL (lcp a.1 b.1))] v fun e w' => ∃ v', e = .returned v' ∧ TxtsAt w' w.heap.size v' (addT Y (lcp a.1 b.1)) ∧ Upd (fun _ => False) v w') := fun v u => radd_any (.slice py Y.length cy) Y (lcp a.1 b.1) v w.heap.size (own_keep TY5.out u (fun _ _ h => h)) (by omega) (by have h1 := U4.out.size; have h2 := V5.out.size; have h3 := u.size; omega)
                  have YM2 : Hid ((addT Y (lcp a.1 b.1)).Nodup ∧ ∀ t, t ∈ addT Y (lcp a.1 b.1) ↔ ((MemP (l.take i) t ∨ t = a.1) ∨ ∃ b ∈ l.take (j + 1), lcp a.1 b.1 = t)) := ⟨addT_nodup YM.out.1, fun t => by
                    rw [addT_mem, YM.out.2, TKJ.out]
                    constructor
                    · rintro ((h | ⟨b', hb', e⟩) | h)
                      · exact Or.inl h
                      · exact Or.inr ⟨b', List.mem_append_left _ hb', e⟩
                      · exact Or.inr ⟨b, by simp, h.symm⟩
                    · rintro (h | ⟨b', hb', e⟩)
                      · exact Or.inl (Or.inl h)
                      · rcases List.mem_append.1 hb' with g | g
                        · exact Or.inl (Or.inr ⟨b', g, e⟩)
                        · rw [List.mem_singleton.1 g] at e; exact Or.inr e.symm⟩
                  have YL := addT_len (l := Y) (s := lcp a.1 b.1)
                  clear hlt0
                  generalize addT Y (lcp a.1 b.1) = Y2 at *
                  generalize ofL (lcp a.1 b.1) = sl at *
                  generalize hLL : (lcp a.1 b.1).length = nL at *
                  generalize hla2 : a.1.length = la at *
                  generalize hlb2 : b.1.length = lb at *
                  go_wp2
                  go_quiet (fail)
                  go_wp2_with fail
                  refine (AD2.out _ ((Upd.refl _ _).drewN _)).mono ?_
                  rintro e w9 ⟨v9, rfl, hv9, u9⟩
                  have TY9 := Lib.hid hv9
                  have V9 : Hid (Upd (fun _ => False) w4' w9) := V5.out.trans (((Upd.refl (fun _ => False) w6).drewN _).trans u9 (fun _ _ h => h)) (fun _ _ h => h)
                  clear hv9 u9 AD2
                  go_wp2
                  go_roundw
                  case rel => exact ⟨j + 1, Y2, by simp, by omega, by omega, YM2, TY9, V9⟩
                  case measure => simp [intOf]; omega
              · have q4 : ¬ (n : Int) < (b.1.length : Int) := by omega
                have hk2 : (lcp a.1 b.1).length = n := by
                  have := (lcp_right a.1 b.1).length_le
                  omega
                clear NX
                have hla := (lcp_left a.1 b.1).length_le
                have rt := run_take a.1 (n : Int) (by omega) (by omega)
                have hlt0 : a.1.take n = lcp a.1 b.1 := by rw [← hk2]; exact take_pre.2 (lcp_left _ _)
                rw [Int.toNat_natCast, hlt0, ← SA.out] at rt
                have AD2 : Hid (∀ v, Upd (fun _ => False) w6 v → Calls Try.prog 49 #[.slice py Y.length cy, .string (ofL (lcp a.1 b.1))] v fun e w' => ∃ v', e = .returned v' ∧ TxtsAt w' w.heap.size v' (addT Y (lcp a.1 b.1)) ∧ Upd (fun _ => False) v w') := fun v u => radd_any (.slice py Y.length cy) Y (lcp a.1 b.1) v w.heap.size (own_keep TY5.out u (fun _ _ h => h)) (by omega) (by have h1 := U4.out.size; have h2 := V5.out.size; have h3 := u.size; omega)
                have YM2 : Hid ((addT Y (lcp a.1 b.1)).Nodup ∧ ∀ t, t ∈ addT Y (lcp a.1 b.1) ↔ ((MemP (l.take i) t ∨ t = a.1) ∨ ∃ b ∈ l.take (j + 1), lcp a.1 b.1 = t)) := ⟨addT_nodup YM.out.1, fun t => by
                  rw [addT_mem, YM.out.2, TKJ.out]
                  constructor
                  · rintro ((h | ⟨b', hb', e⟩) | h)
                    · exact Or.inl h
                    · exact Or.inr ⟨b', List.mem_append_left _ hb', e⟩
                    · exact Or.inr ⟨b, by simp, h.symm⟩
                  · rintro (h | ⟨b', hb', e⟩)
                    · exact Or.inl (Or.inl h)
                    · rcases List.mem_append.1 hb' with g | g
                      · exact Or.inl (Or.inr ⟨b', g, e⟩)
                      · rw [List.mem_singleton.1 g] at e; exact Or.inr e.symm⟩
                have YL := addT_len (l := Y) (s := lcp a.1 b.1)
                clear hlt0
                generalize addT Y (lcp a.1 b.1) = Y2 at *
                generalize ofL (lcp a.1 b.1) = sl at *
                generalize hLL : (lcp a.1 b.1).length = nL at *
                generalize hla2 : a.1.length = la at *
                generalize hlb2 : b.1.length = lb at *
                go_wp2
                go_quiet (fail)
                go_wp2_with fail
                refine (AD2.out _ ((Upd.refl _ _).drewN _)).mono ?_
                rintro e w9 ⟨v9, rfl, hv9, u9⟩
                have TY9 := Lib.hid hv9
                have V9 : Hid (Upd (fun _ => False) w4' w9) := V5.out.trans (((Upd.refl (fun _ => False) w6).drewN _).trans u9 (fun _ _ h => h)) (fun _ _ h => h)
                clear hv9 u9 AD2
                go_wp2
                go_roundw
                case rel => exact ⟨j + 1, Y2, by simp, by omega, by omega, YM2, TY9, V9⟩
                case measure => simp [intOf]; omega
            · have q3 : ¬ (n : Int) < (a.1.length : Int) := by omega
              have hk2 : (lcp a.1 b.1).length = n := by
                have := (lcp_left a.1 b.1).length_le
                omega
              clear NX
              have hla := (lcp_left a.1 b.1).length_le
              have rt := run_take a.1 (n : Int) (by omega) (by omega)
              have hlt0 : a.1.take n = lcp a.1 b.1 := by rw [← hk2]; exact take_pre.2 (lcp_left _ _)
              rw [Int.toNat_natCast, hlt0, ← SA.out] at rt
              have AD2 : Hid (∀ v, Upd (fun _ => False) w6 v → Calls Try.prog 49 #[.slice py Y.length cy, .string (ofL (lcp a.1 b.1))] v fun e w' => ∃ v', e = .returned v' ∧ TxtsAt w' w.heap.size v' (addT Y (lcp a.1 b.1)) ∧ Upd (fun _ => False) v w') := fun v u => radd_any (.slice py Y.length cy) Y (lcp a.1 b.1) v w.heap.size (own_keep TY5.out u (fun _ _ h => h)) (by omega) (by have h1 := U4.out.size; have h2 := V5.out.size; have h3 := u.size; omega)
              have YM2 : Hid ((addT Y (lcp a.1 b.1)).Nodup ∧ ∀ t, t ∈ addT Y (lcp a.1 b.1) ↔ ((MemP (l.take i) t ∨ t = a.1) ∨ ∃ b ∈ l.take (j + 1), lcp a.1 b.1 = t)) := ⟨addT_nodup YM.out.1, fun t => by
                rw [addT_mem, YM.out.2, TKJ.out]
                constructor
                · rintro ((h | ⟨b', hb', e⟩) | h)
                  · exact Or.inl h
                  · exact Or.inr ⟨b', List.mem_append_left _ hb', e⟩
                  · exact Or.inr ⟨b, by simp, h.symm⟩
                · rintro (h | ⟨b', hb', e⟩)
                  · exact Or.inl (Or.inl h)
                  · rcases List.mem_append.1 hb' with g | g
                    · exact Or.inl (Or.inr ⟨b', g, e⟩)
                    · rw [List.mem_singleton.1 g] at e; exact Or.inr e.symm⟩
              have YL := addT_len (l := Y) (s := lcp a.1 b.1)
              clear hlt0
              generalize addT Y (lcp a.1 b.1) = Y2 at *
              generalize ofL (lcp a.1 b.1) = sl at *
              generalize hLL : (lcp a.1 b.1).length = nL at *
              generalize hla2 : a.1.length = la at *
              generalize hlb2 : b.1.length = lb at *
              go_wp2
              go_quiet (fail)
              go_wp2_with fail
              refine (AD2.out _ ((Upd.refl _ _).drewN _)).mono ?_
              rintro e w9 ⟨v9, rfl, hv9, u9⟩
              have TY9 := Lib.hid hv9
              have V9 : Hid (Upd (fun _ => False) w4' w9) := V5.out.trans (((Upd.refl (fun _ => False) w6).drewN _).trans u9 (fun _ _ h => h)) (fun _ _ h => h)
              clear hv9 u9 AD2
              go_wp2
              go_roundw
              case rel => exact ⟨j + 1, Y2, by simp, by omega, by omega, YM2, TY9, V9⟩
              case measure => simp [intOf]; omega
        · have ej : j = i := by omega
          subst ej
          have q2 : ¬ (j : Int) < (j : Int) := by omega
          have YF : Hid (Y.Nodup ∧ ∀ t, t ∈ Y ↔ MemP (l.take (j + 1)) t) := ⟨YM.out.1, fun t => by rw [YM.out.2, TKI.out, memP_snoc]⟩
          go_wp2
          go_roundw
          case rel => exact ⟨j + 1, Y, by simp, by omega, by omega, YF, TY, U5⟩
          case measure => simp [intOf]; omega
    · have q1 : ¬ (i : Int) < (l.length : Int) := by omega
      have NN : Hid (NodesN l X.length) := ⟨X, XM.out.1, rfl, fun t => by have := XM.out.2 t; rw [List.take_of_length_le (by omega)] at this; exact this⟩
      generalize l.length = nl at *
      generalize hxl : X.length = nx at *
      go_wp2
      go_ret
      exact ⟨nx, rfl, NN.out, U.out⟩
end Go.Proofs.Ytnlbmplbaalgmaa
