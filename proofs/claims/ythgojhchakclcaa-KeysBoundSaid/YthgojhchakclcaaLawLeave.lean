/- KeysLeave, walked. -/
import Derived.Test.YthgojhchakclcaaLeaveP
import Derived.Test.YthgojhchakclcaaRange
set_option linter.unusedVariables false
set_option linter.unusedSimpArgs false
namespace Go.Proofs.Ythgojhchakclcaa
open Go.RowKit

/-- The texts and slices that the map 'was' holds. -/
structure WasAt (wr : World) (base wb : Nat) (L : Rows14) (E : Nat → Prop) (ks : List ByteArray) (wm : List (ByteArray × Value)) : Prop where
  mp : MapAt strEnc wr wb wm
  nd : (akeys wm).Nodup
  keys : ∀ k, k ∈ akeys wm ↔ k ∈ ks
  rows : ∀ k v, aget wm k = some v → IntsAt wr base v ((aget L k).getD []) ∧ ∀ b, v.ownBlock = some b → ¬ E b
  nE : ¬ E wb
  lo : base ≤ wb
theorem WasAt.keep {w w' : World} {base wb : Nat} {L : Rows14} {E : Nat → Prop} {ks : List ByteArray} {wm : List (ByteArray × Value)} {G : Nat → Prop} (h : WasAt w base wb L E ks wm) (u : Upd G w w') (hG : ∀ b, G b → E b ∨ w.heap.size ≤ b) : WasAt w' base wb L E ks wm :=
  ⟨h.mp.keep u (fun hg => by rcases hG _ hg with g | g; exact h.nE g; have := h.mp.lt; omega), h.nd, h.keys, fun k v hk => ⟨(h.rows k v hk).1.keep u (fun b hb hg => by
    rcases hG _ hg with g | g
    · exact (h.rows k v hk).2 b hb g
    · have := (ints_block (h.rows k v hk).1 hb).2.1; omega), (h.rows k v hk).2⟩, h.nE, h.lo⟩

theorem RangeAt.iter {P : Program} {K : TypeId} {w : World} {b r : Nat} {m : List (ByteArray × Value)} {done : List ByteArray} {cnt : Nat} (h : RangeAt P K w b r m done cnt) {cs : Array Value} {T : TypeId} {r' : Nat} (hc : w.heap[r']? = some (.cells cs T (0, 0))) : r' ≠ r := by
  obtain ⟨D, left, h1, h2⟩ := h
  obtain ⟨es, clock, since, seen, c0, x1, x2, x3, x4, x5, x6⟩ := h1
  rintro rfl
  rw [x5] at hc; injection hc with hc; cases hc
theorem WasAt.keepR {w w' : World} {base wb r : Nat} {L : Rows14} {E : Nat → Prop} {ks : List ByteArray} {wm : List (ByteArray × Value)} {done : List ByteArray} {cnt : Nat} {P : Program} {K : TypeId} (h : WasAt w base wb L E ks wm) (hr : RangeAt P K w wb r wm done cnt) (u : Upd (fun b => b = r) w w') : WasAt w' base wb L E ks wm :=
  ⟨h.mp.keep u (fun e => hr.lt.2.2 e.symm), h.nd, h.keys, fun k v hk => ⟨(h.rows k v hk).1.keep u (fun b hb e => by
    obtain ⟨_, _, cs, hc⟩ := ints_block (h.rows k v hk).1 hb
    exact hr.iter hc e), (h.rows k v hk).2⟩, h.nE, h.lo⟩

theorem nodup_sub_le {l : List ByteArray} : ∀ {m : List ByteArray}, l.Nodup → (∀ x ∈ l, x ∈ m) → l.length ≤ m.length := by
  induction l with
  | nil => intros; simp
  | cons a l ih =>
    intro m h hs
    have h2 := List.nodup_cons.1 h
    have ha := hs a (by simp)
    have := ih (m := m.erase a) h2.2 (fun x hx => (List.mem_erase_of_ne (fun e => h2.1 (by rw [← e]; exact hx))).2 (hs x (by simp [hx])))
    rw [List.length_erase_of_mem ha] at this
    have := List.length_pos_of_mem ha
    simp; omega

set_option maxRecDepth 100000 in
set_option maxHeartbeats 8000000 in
theorem lawLeave (v : Value) (l : List Act14) (who : Int) (w : World) (h : RowOf act14c 3 w v l) (s : ∀ a ∈ l, a.key.size ≤ maxLen) :
    Calls Try.prog 5 #[v, .int .i64 who] w fun e w' => e = .returned (.bool true) ∧ Upd (fun _ => False) w w' := by
  obtain ⟨p1, k1, rfl, b1⟩ := h.len
  unfold maxLen at b1
  have H1 := Lib.hid h
  have S1 := Lib.hid s
  have A := Lib.hid (alive_any w)
  clear h s
  by_cases hz : 60 < l.length
  · have hd : decide ((60 : Int) < (l.length : Int)) = true := by simp; omega
    clear hz
    go_enter Try.func5, Try.ntmps5
    go_wp2_with fail
    refine (A.out).mono ?_
    rintro e w1 ⟨rfl, u1⟩
    have U1 := Lib.hid u1
    clear u1
    go_wp2
    go_ret
    exact ⟨rfl, U1.out⟩
  · have hd : decide ((60 : Int) < (l.length : Int)) = false := by simp; omega
    clear b1
    go_enter Try.func5, Try.ntmps5
    go_wp2_with fail
    refine (A.out).mono ?_
    rintro e w1 ⟨rfl, u1⟩
    have N := Lib.hid (knew_any 1000 w1 (by omega) (by omega) w.heap.size u1.size)
    have U1 := Lib.hid u1
    clear u1
    go_wp2_with fail
    refine (N.out).mono ?_
    rintro e w2 ⟨kb, E0, rfl, k0, u2, f2⟩
    have K0 := Lib.hid k0
    have U2 := Lib.hid (U1.out.trans u2 (fun _ _ h => h))
    clear k0 u2 f2 N
    go_wp2
    go_loopw [29] (fun x wr => ∃ (j : Nat) (L : Rows14) (E : Nat → Prop), j ≤ l.length ∧ x = .int .i64 (j : Int) ∧ Hid (KAt wr w.heap.size kb 1000 L j E) ∧ Hid (Upd (fun _ => False) w wr) ∧ Hid (Held L ((l.take j).map (·.id)))) (fun x _ => l.length - (intOf x).toNat)
    case atStart => exact ⟨0, [], E0, by omega, rfl, K0, U2, Lib.hid ⟨fun k hk => by simp [akeys] at hk, fun k l hk => by simp [aget] at hk⟩⟩
    case round =>
      obtain ⟨j, L, E, hj, rfl, K, U, HL⟩ := hrel
      by_cases hlt : j < l.length
      · obtain ⟨b, off, a, rfl, hb, ha, c0, c1, c2⟩ := act14_cells (H1.out.keep U.out (fun _ _ _ => id)) hlt
        have hsz := S1.out a (List.mem_of_getElem? ha)
        have uA : Upd (fun _ => False) wr (wr.alloc (.cells #[.int .i64 a.kind, .int .i64 a.id, .string a.key] 28)) := (Upd.refl _ _).alloc _
        have hKL := K.out.inv.len
        have AD := kadd_any w.heap.size kb 1000 L j E a.key a.id _ (K.out.keep uA (fun _ _ h => h)) (by omega) (by omega)
        rw [add_none (by omega)] at AD
        have AD := Lib.hid AD
        have UA := Lib.hid uA
        have HA := Lib.hid ha
        clear ha uA hKL
        go_wp2_with fail
        refine (AD.out).mono ?_
        rintro e w5 ⟨v5, rfl, _, E', k5, u5, f5, _⟩
        have K5 := Lib.hid k5
        have U5 := Lib.hid (K.out.fresh U.out (((UA.out.weaken (F := E) (fun _ _ h => h.elim)).trans u5 (fun _ _ h => h))))
        clear k5 u5 f5 AD c0 c1 c2
        go_wp2
        go_roundw
        case rel =>
          refine ⟨j + 1, _, E', by omega, rfl, K5, U5, Lib.hid ?_⟩
          have ht : (l.take (j + 1)).map (·.id) = (l.take j).map (·.id) ++ [a.id] := by
            obtain ⟨_, r1⟩ := List.getElem?_eq_some_iff.1 HA.out
            rw [List.take_succ_eq_append_getElem hlt, r1]; simp
          rw [ht]
          exact HL.out.add hsz
        case measure => simp [intOf]; omega
      · have hj2 : j = l.length := by omega
        subst hj2
        have HL' := HL.out
        rw [List.take_length] at HL'
        have HLD := Lib.hid HL'
        have hKI := K.out.inv
        have hlen := hKI.len
        obtain ⟨rb, F, c0, hr⟩ := K.out.rec
        have kbl : kb < wr.heap.size := by
          obtain ⟨_, _, _, _, _, _, _, _, _, hh, _⟩ := K.out; exact hh.blk.lt
        have mk := run_makeMap (P := Try.prog) 35 wr
        have uM : Upd (fun _ => False) wr (wr.alloc (.map #[] 0)) := (Upd.refl _ _).alloc _
        have hkl : (akeys L).length ≤ 60 := by simp only [akeys, List.length_map]; omega
        have AL := Lib.hid (all_any rb (akeys L) F _ (hr.keep uM (fun _ _ h => h)) (by omega))
        have c0' : (wr.alloc (.map #[] 0)).cell? ⟨kb, 0, none⟩ = some (.pointer (some ⟨rb, 0, none⟩)) := (alloc_old kbl).trans c0
        have W0 : Hid (WasAt (wr.alloc (.map #[] 0)) w.heap.size wr.heap.size L E [] []) := ⟨MapAt.made wr, by simp [akeys], fun k => by simp [akeys], fun k v hk => by simp [aget] at hk, fun hh => by have := (K.out.lt _ hh).2; omega, U.out.size⟩
        have UM := Lib.hid uM
        have HND := Lib.hid hr.nodup
        have HKI := Lib.hid hKI
        clear c0 hr uM HL' hKI
        go_wp2_with fail
        refine (AL.out).mono ?_
        rintro e w6 ⟨kv, rfl, hs, u6⟩
        have W6 := Lib.hid (W0.out.keep u6 (fun _ h => h.elim))
        have U6 := Lib.hid ((U.out.trans UM.out (fun _ _ h => h)).trans u6 (fun _ _ h => h))
        have K6 := Lib.hid ((K.out.keep UM.out (fun _ _ h => h)).keep u6 (fun _ _ h => h))
        have HS := Lib.hid hs
        obtain ⟨kp, kc, ekv, _⟩ := own_slice hs
        subst ekv
        have hwbs : Hid (wr.heap.size < w6.heap.size ∧ (wr.alloc (.map #[] 0)).heap.size = wr.heap.size + 1) := ⟨by have := u6.size; simp at this; omega, by simp⟩
        have KL : Hid ((akeys L).length = (akeys L).length) := rfl
        obtain ⟨ks, eks⟩ : ∃ x, akeys L = x := ⟨_, rfl⟩
        rw [eks] at HS hkl KL HND
        have EKS := Lib.hid eks
        clear u6 hs AL c0' W0 K UM HL mk eks
        generalize wr.heap.size = wb at *
        have hkk : (akeys L).length = ks.length := by rw [EKS.out]
        simp only [hkk]
        clear hkk
        go_wp2
        go_loopw [47] (fun x wr2 => ∃ (j : Nat) (wm : List (ByteArray × Value)), j ≤ ks.length ∧ x = .int .i64 (j : Int) ∧ Hid (WasAt wr2 w.heap.size wb L E (ks.take j) wm) ∧ Hid (KAt wr2 w.heap.size kb 1000 L l.length E) ∧ Hid (Upd (fun _ => False) w wr2) ∧ Hid (Upd (fun b => b = wb) w6 wr2)) (fun x _ => ks.length - (intOf x).toNat)
        case atStart => exact ⟨0, [], by omega, rfl, Lib.hid (by simpa using W6.out), K6, U6, Lib.hid (Upd.refl _ _)⟩
        case round =>
          obtain ⟨j, wm, hj, rfl, WA, K, U, UW⟩ := hrel
          by_cases hlt : j < ks.length
          · obtain ⟨b, cap, e1, e2, _, hbl⟩ := strs_cell (HS.out.keep UW.out (fun b hb e => by have := (strs_block HS.out hb).1; have := hwbs.out.2; have : b = wb := e; omega)) hlt
            injection e1 with e1 _ e4
            subst e1 e4
            have KI := Lib.hid (kids_any w.heap.size kb 1000 L l.length E ks[j] _ K.out (by omega))
            have hksz : ks[j].size ≤ maxLen := HLD.out.1 _ (by rw [EKS.out]; exact List.getElem_mem hlt)
            obtain ⟨key, hkey⟩ : ∃ x, ks[j] = x := ⟨_, rfl⟩
            rw [hkey] at e2 KI
            have HKY := Lib.hid hkey
            clear hkey
            go_wp2_with fail
            refine (KI.out).mono ?_
            rintro e w8 ⟨v8, rfl, i8, u8⟩
            have wa8 := WA.out.keep u8 (fun _ h => h.elim)
            obtain ⟨w9, de, m9, u9⟩ := wa8.mp.put keyS Try.underlying35 key v8
            have I8 := Lib.hid i8
            have U8 := Lib.hid u8
            have U9 := Lib.hid u9
            have M9 := Lib.hid m9
            have WA8 := Lib.hid wa8
            unfold strEnc at de
            clear i8 u8 u9 m9 wa8 KI
            go_wp2
            go_roundw
            case rel =>
              have uall : Upd (fun b => b = wb) _ w9 := (U8.out.weaken (F := fun b => b = wb) (fun _ _ h => h.elim)).trans U9.out (fun _ _ h => h)
              have hlo := WA.out.lo
              refine ⟨j + 1, aset wm key v8, by omega, rfl, Lib.hid ?_, Lib.hid (K.out.keep uall (fun b hb e => WA.out.nE (by have : b = wb := e; rw [← this]; exact hb))), Lib.hid (U.out.trans uall (fun i hi e => by have : i = wb := e; omega)), Lib.hid (UW.out.trans uall (fun i hi e => e))⟩
              · refine ⟨M9.out, nodup_aset WA.out.nd key v8, fun k => ?_, fun k v hk => ?_, WA.out.nE, hlo⟩
                · rw [mem_aset, WA.out.keys, List.take_succ_eq_append_getElem hlt, HKY.out]; simp
                · rw [aget_aset] at hk
                  split at hk
                  · next e =>
                    subst e
                    cases hk
                    refine ⟨own_mono (I8.out.keep U9.out (fun b hb e => ?_)) (by have := U.out.size; omega), fun b hb hE => ?_⟩
                    · have := (ints_block I8.out hb).1
                      have := WA.out.mp.lt
                      have : b = wb := e; omega
                    · have := (ints_block I8.out hb).1
                      have := (K.out.lt _ hE).2; omega
                  · refine ⟨(WA8.out.rows k v hk).1.keep U9.out (fun b hb e => ?_), (WA8.out.rows k v hk).2⟩
                    obtain ⟨_, _, cs, hc⟩ := ints_block (WA8.out.rows k v hk).1 hb
                    exact WA8.out.mp.notCells hc (Eq.symm (show b = wb from e))
            case measure => simp [intOf]; omega
          · have hj2 : j = ks.length := by omega
            subst hj2
            have wa := WA.out
            rw [List.take_length] at wa
            have hszk : ∀ k ∈ akeys L, k.size ≤ maxLen := HLD.out.1
            have DR := Lib.hid (kdrop_any w.heap.size kb 1000 L l.length E who _ K.out (by omega) hszk)
            have WA1 := Lib.hid wa
            clear wa WA W6
            go_wp2_with fail
            refine (DR.out).mono ?_
            rintro e w10 ⟨rfl, E2, k10, u10, f10⟩
            have WA2 : Hid (WasAt w10 w.heap.size wb L E2 ks wm) := by
              have h1 := WA1.out.keep u10 (fun b hb => Or.inl hb)
              refine ⟨h1.mp, h1.nd, h1.keys, fun k v hk => ⟨(h1.rows k v hk).1, fun b hb hE => ?_⟩, fun hE => ?_, h1.lo⟩
              · rcases f10 b hE with g | g
                · exact (h1.rows k v hk).2 b hb g
                · have := (ints_block (WA1.out.rows k v hk).1 hb).2.1; omega
              · rcases f10 wb hE with g | g
                · exact WA1.out.nE g
                · have := WA1.out.mp.lt; omega
            have K10 := Lib.hid k10
            have U10 := Lib.hid (K.out.fresh U.out u10)
            have KSP : Hid (ks.Perm (akeys wm)) := (List.perm_ext_iff_of_nodup HND.out WA1.out.nd).2 (fun k => (WA1.out.keys k).symm)
            have hwl : wm.length ≤ 60 := by have := KSP.out.length_eq; simp only [akeys, List.length_map] at this; omega
            have SZW : Hid (∀ k ∈ akeys wm, k.size ≤ maxLen) := fun k hk => HLD.out.1 k (by rw [EKS.out]; exact (WA1.out.keys k).1 hk)
            have GL : Hid (alone L who ks + (drop14 L who).length = L.length) := alone_all (by rw [EKS.out]; exact HND.out) who (by rw [EKS.out])
            have hgone : ((L.length : Int) - ((drop14 L who).length : Int)) = ((alone L who ks : Nat) : Int) := by have := GL.out; omega
            have HAL : Hid (alone L who ks ≤ 60) := by have := alone_le L who ks; exact Lib.hid (by omega)
            rw [hgone]
            have LEN : Hid (wm.length ≤ maxLen) := by unfold maxLen; exact Lib.hid (by omega)
            clear k10 u10 f10 DR hgone K U UW
            go_wp2_with (first
              | (at_range; refine wpList_range_at _ rfl _ 35 rfl 9 29 Try.underlying9 Try.underlying35 wb wm rfl WA2.out.mp WA2.out.nd SZW.out LEN.out ?_; intro w11 cnt hra hu hs11)
              | go_in)
            go_frame
            have WA3 := Lib.hid (WA2.out.keep hu (fun _ h => h.elim))
            have K11 := Lib.hid (K10.out.keep hu (fun _ _ h => h))
            have U11 := Lib.hid (U10.out.trans hu (fun _ _ h => h))
            have RA := Lib.hid hra
            have RNE : Hid (¬ E2 w10.heap.size ∧ w10.heap.size < w11.heap.size) := ⟨fun hh => by have := (K10.out.lt _ hh).2; omega, by omega⟩
            have RB : Hid (w.heap.size ≤ w10.heap.size) := U10.out.size
            clear hra hu hs11 WA2 K10
            generalize w10.heap.size = r at *
            go_loopw [4, 12] (fun x4 x12 wr3 => x4 = .bool false ∧ ∃ (done : List ByteArray) (cnt c : Nat), x12 = .int .i64 (c : Int) ∧ Hid (c = alone L who done) ∧ Hid (done.Nodup ∧ ∀ k ∈ done, k ∈ ks) ∧ Hid (RangeAt Try.prog 9 wr3 wb r wm done cnt) ∧ Hid (WasAt wr3 w.heap.size wb L E2 ks wm) ∧
              Hid (KAt wr3 w.heap.size kb 1000 (drop14 L who) l.length E2) ∧ Hid (Upd (fun _ => False) w wr3)) (fun _ _ wr3 => wr3.rangeLeft wb r)
            case atStart => exact ⟨rfl, [], cnt, 0, rfl, Lib.hid rfl, Lib.hid ⟨by simp, by simp⟩, RA, WA3, K11, U11⟩
            case round =>
              obtain ⟨rfl, done, cnt, c, rfl, HC, HDN, RA, WA, K, U⟩ := hrel
              go_wp2_with (first
                | (at_next; refine wpList_next_at _ rfl _ rfl 9 Try.underlying9 wb r wm done cnt rfl RA.out ?_ ?_)
                | go_in)
              · intro hperm
                have hcc : c = alone L who ks := by
                  rw [HC.out]
                  exact (((hperm.trans KSP.out.symm).filter _).length_eq)
                subst hcc
                have FL := Lib.hid (H1.out.keep (U.out) (fun _ _ _ => id))
                have U0 := Lib.hid (Upd.refl (fun _ => False) wr)
                have HDL : Hid (Held (drop14 L who) (l.map (·.id))) := (HLD.out.drop (by rw [EKS.out]; exact HND.out) who).weaken (fun x hx => (List.mem_filter.1 hx).1)
                have K0' : Hid (∃ E3, KAt wr w.heap.size kb 1000 (drop14 L who) l.length E3) := ⟨E2, K.out⟩
                have K := K0'
                clear HC RA WA FL U0 K0' K11 U11 WA3
                go_wp2
                go_loopw [96] (fun x96 wr5 => ∃ (j : Nat) (L2 : Rows14) (E3 : Nat → Prop), j ≤ l.length ∧ x96 = .int .i64 (j : Int) ∧ Hid (KAt wr5 w.heap.size kb 1000 L2 l.length E3) ∧ Hid (Upd (fun _ => False) w wr5) ∧ Hid (Held L2 ((l.drop j).map (·.id)))) (fun x96 _ => l.length - (intOf x96).toNat)
                case atStart =>
                  obtain ⟨E3, k3⟩ := K.out
                  exact ⟨0, drop14 L who, E3, by omega, rfl, Lib.hid k3, U, Lib.hid (by simpa using HDL.out)⟩
                case round =>
                  obtain ⟨j, L2, E3, hj, rfl, K, U, HL⟩ := hrel
                  by_cases hlt : j < l.length
                  · obtain ⟨b, off, a, rfl, hb, ha, c0, c1, c2⟩ := act14_cells (H1.out.keep U.out (fun _ _ _ => id)) hlt
                    have uA : Upd (fun _ => False) wr (wr.alloc (.cells #[.int .i64 a.kind, .int .i64 a.id, .string a.key] 28)) := (Upd.refl _ _).alloc _
                    have DR := Lib.hid (kdrop_any w.heap.size kb 1000 L2 l.length E3 a.id _ (K.out.keep uA (fun _ _ h => h)) (by omega) HL.out.1)
                    have UA := Lib.hid uA
                    have HA := Lib.hid ha
                    clear ha uA
                    go_wp2_with fail
                    refine (DR.out).mono ?_
                    rintro e w15 ⟨rfl, E4, k15, u15, f15⟩
                    have HL2 := HL.out.drop K.out.nodup a.id
                    have K15 := Lib.hid k15
                    have U15 := Lib.hid (K.out.fresh U.out (((UA.out.weaken (F := E3) (fun _ _ h => h.elim)).trans u15 (fun _ _ h => h))))
                    have HL3 : Hid (Held (drop14 L2 a.id) ((l.drop (j + 1)).map (·.id))) := HL2.weaken (fun x hx => by
                      obtain ⟨_, r1⟩ := List.getElem?_eq_some_iff.1 HA.out
                      rw [List.drop_eq_getElem_cons hlt, r1] at hx
                      have h1 := List.mem_filter.1 hx
                      simp at h1
                      rcases h1.1 with h2 | h2
                      · exact absurd h2 h1.2
                      · simpa using h2)
                    clear k15 u15 f15 DR HL2
                    go_wp2
                    go_roundw
                    case rel => exact ⟨j + 1, drop14 L2 a.id, E4, by omega, rfl, K15, U15, HL3⟩
                    case measure => simp [intOf]; omega
                  · have hj2 : j = l.length := by omega
                    subst hj2
                    have HLn := HL.out
                    rw [List.drop_length] at HLn
                    have e0 := HLn.none K.out.inv
                    subst e0
                    obtain ⟨rb5, F5, c5, hr5⟩ := K.out.rec
                    have RL := Lib.hid (fun (v : World) (u : Upd (fun _ => False) wr v) => rlen_any rb5 (akeys []) F5 v (hr5.keep u (fun _ _ h => h)) (by simp [akeys]))
                    have DR := Lib.hid (fun (v : World) (u : Upd (fun _ => False) wr v) => kdrop_any w.heap.size kb 1000 [] l.length E3 who v (K.out.keep u (fun _ _ h => h)) (by omega) (fun k hk => by simp [akeys] at hk))
                    have C5 := Lib.hid (fun (v : World) (u : Upd (fun _ => False) wr v) => (show v.cell? ⟨kb, 0, none⟩ = some (.pointer (some ⟨rb5, 0, none⟩)) from (u.cell (by obtain ⟨_, _, _, _, _, _, _, _, _, hh, _⟩ := K.out; exact hh.blk.lt) (fun h => h)).trans c5))
                    go_wp2_with (first
                      | (go_at_call 9; refine (RL.out _ (by first | exact Upd.refl _ _ | exact (Upd.refl _ _).drew | exact ((Upd.refl _ _).drew).drew)).mono ?_; rintro e _ ⟨rfl, rfl⟩)
                      | (go_at_call 10; refine (DR.out _ (by first | exact Upd.refl _ _ | exact (Upd.refl _ _).drew | exact ((Upd.refl _ _).drew).drew)).mono ?_; rintro e w16 ⟨rfl, E6, k16, u16, f16⟩))
                    go_ret
                    exact ⟨by simp [drop14], K.out.fresh U.out (by first | exact u16 | exact ((Upd.refl _ wr).drew).trans u16 (fun _ _ h => h) | exact (((Upd.refl _ wr).drew).drew).trans u16 (fun _ _ h => h))⟩
              · intro key v w12 cnt' hnew hg hra hlt hu hs12 hen
                have WA12 := Lib.hid (WA.out.keepR RA.out hu)
                have K12 := Lib.hid (K.out.keep hu (fun b hb e => RNE.out.1 (by have : b = r := e; rw [← this]; exact hb)))
                have U12 := Lib.hid (U.out.trans hu (fun i hi e => by have : i = r := e; have := RB.out; omega))
                have RA12 := Lib.hid hra
                have hlm := WA12.out.rows key v hg
                have hkin : key ∈ ks := (WA12.out.keys key).1 (aget_mem.2 (by rw [hg]; simp))
                obtain ⟨il, eil⟩ : ∃ x, (aget L key).getD [] = x := ⟨_, rfl⟩
                rw [eil] at hlm
                have hill : il.length ≤ 60 := by
                  rw [← eil]
                  cases hk : aget L key with
                  | none => simp
                  | some l' => have := (HKI.out.rise key l' hk).2.2; simp; omega
                obtain ⟨vp, vc, ev, _⟩ := own_slice hlm.1
                subst ev
                have IV := Lib.hid hlm.1
                have KI := kids_any w.heap.size kb 1000 (drop14 L who) l.length E2 key w12 K12.out (by omega)
                rw [ids_drop (by rw [EKS.out]; exact HND.out), eil] at KI
                have KI := Lib.hid KI
                have EIL := Lib.hid eil
                have HIN := Lib.hid (And.intro hnew hkin)
                have HLT := Lib.hid hlt
                have CM := Lib.hid RA.out.left
                have hws := hs12
                clear hra hu hlm hkin eil hnew hlt hg RA WA K U hs12
                go_wp2_with fail
                refine (KI.out).mono ?_
                rintro e w13 ⟨v13, rfl, i13, u13⟩
                have WA13 := Lib.hid (WA12.out.keep u13 (fun _ h => h.elim))
                have K13 := Lib.hid (K12.out.keep u13 (fun _ _ h => h))
                have U13 := Lib.hid (U12.out.trans u13 (fun _ _ h => h))
                have RA13 := Lib.hid (RA12.out.keep u13 (fun h => h) (fun h => h))
                have IV13 := Lib.hid (IV.out.keep u13 (fun _ _ h => h))
                obtain ⟨np, nc, en, _⟩ := own_slice i13
                subst en
                have I13 := Lib.hid i13
                have MO := World.ownsRow_made (base := w13.heap.size) (e := 3) (size := 1) w13 #[] 0 (Nat.le_refl _) (by unfold maxLen; omega) rfl
                have MO : Hid (IntsAt (w13.alloc (.cells #[] 3)) w13.heap.size (.slice (some ⟨w13.heap.size, 0, none⟩) 0 0) []) := MO
                have UO : Hid (Upd (fun _ => False) w13 (w13.alloc (.cells #[] 3))) := (Upd.refl _ _).alloc _
                obtain ⟨i0, hi0, hz0, hz1, hz2⟩ := info_parts int_info
                clear i13 u13 KI WA12 K12 U12 RA12 IV
                go_wp2
                go_loopw [16, 73] (fun x16 x73 wr4 => ∃ j : Nat, j ≤ il.length ∧ x73 = .int .i64 (j : Int) ∧ Hid (IntsAt wr4 w13.heap.size x16 (cutId who (il.take j))) ∧ Hid (Upd (fun _ => False) w13 wr4)) (fun _ x73 _ => il.length - (intOf x73).toNat)
                case atStart => exact ⟨0, by omega, rfl, MO, UO⟩
                case round =>
                  obtain ⟨j, hj, rfl, OW, UR⟩ := hrel
                  by_cases hlt : j < il.length
                  · obtain ⟨b, cap, e1, e2, _⟩ := ints_cell (IV13.out.keep UR.out (fun _ _ h => h)) hlt
                    injection e1 with e1 _ e4
                    subst e1 e4
                    have hcut : cutId who (il.take (j + 1)) = cutId who (il.take j) ++ cutId who [il[j]] := by
                      rw [List.take_succ_eq_append_getElem hlt]; unfold cutId; rw [List.filter_append]
                    have hcl : (cutId who (il.take j)).length ≤ 60 := by
                      unfold cutId; exact Nat.le_trans (List.length_filter_le _ _) (by rw [List.length_take]; omega)
                    obtain ⟨x, hx⟩ : ∃ x, il[j] = x := ⟨_, rfl⟩
                    rw [hx] at e2 hcut
                    have HCUT := Lib.hid hcut
                    generalize cutId who (il.take j) = acc at *
                    clear hx hcut
                    by_cases hw : x = who
                    · subst hw
                      have HX : cutId x [x] = [] := by simp [cutId]
                      rw [HX, List.append_nil] at HCUT
                      go_wp2
                      go_roundw
                      case rel => exact ⟨j + 1, by omega, rfl, by rw [HCUT.out]; exact OW, UR⟩
                      case measure => simp [intOf]; omega
                    · have HX : cutId who [x] = [x] := by simp [cutId, hw]
                      rw [HX] at HCUT
                      clear HX
                      obtain ⟨p3, c3, e3, _⟩ := own_slice OW.out
                      have OWN : Hid (wr.ownsRow w13.heap.size 3 1 u16 acc.length (acc.map (Value.int .i64))) := OW.out
                      have U1' := Lib.hid (UR.out.alloc (.cells #[.int .i64 x] 3))
                      have hwl := UR.out.size
                      subst e3
                      go_wp2_with (at_builtin; refine wpList_append_own _ rfl _ _ 29 rfl (w13.heap.size) 3 i0 (.int .i64 0) 1 8 Try.underlying29 hi0 hz0 hz1 hz2 rfl (by decide) _ _ _ rfl (OWN.out.alloc _) ⟨wr.heap.size, 0, none⟩ 1 1 [.int .i64 x] rfl rfl ?c1 ?c2 ?c3 ?c4 ?c5 ?_)
                      case c2 => rfl
                      case c3 => unfold maxLen; omega
                      case c4 => omega
                      case c5 => omega
                      intro v' w' hown' hgrow _
                      have U' : Upd (fun _ => False) w13 w' := U1'.out.trans (Upd.of_grown hgrow) (fun i hi hh => by
                        have hh2 : (Value.slice p3 acc.length c3).ownBlock = some i := by simpa using hh.symm
                        have := OWN.out.lt i hh2; omega)
                      have OW' : Hid (IntsAt w' w13.heap.size v' (cutId who (il.take (j + 1)))) := by
                        rw [HCUT.out]
                        show IntsAt _ _ _ _
                        unfold IntsAt
                        simpa using hown'
                      have UQ := Lib.hid U'
                      clear hown' hgrow U' OWN OW
                      obtain ⟨p4, c4, e4, _⟩ := own_slice OW'.out
                      subst e4
                      go_wp2
                      go_roundw
                      case rel => exact ⟨j + 1, by omega, rfl, OW', UQ⟩
                      case measure => simp [intOf]; omega
                  · have hj2 : j = il.length := by omega
                    subst hj2
                    have OW2 := OW.out
                    rw [List.take_length] at OW2
                    obtain ⟨p4, c4, e4, _⟩ := own_slice OW2
                    subst e4
                    have OW3 := Lib.hid OW2
                    have hcl : (cutId who il).length ≤ 60 := by unfold cutId; exact Nat.le_trans (List.length_filter_le _ _) (by omega)
                    clear OW OW2
                    have WAr := Lib.hid (WA13.out.keep UR.out (fun _ h => h.elim))
                    have Kr := Lib.hid (K13.out.keep UR.out (fun _ _ h => h))
                    have Ur := Lib.hid (U13.out.trans UR.out (fun _ _ h => h))
                    have RAr := Lib.hid (RA13.out.keep UR.out (fun h => h) (fun h => h))
                    have SM := Lib.hid (same14_any _ _ (cutId who il) (cutId who il) wr (I13.out.keep UR.out (fun _ _ h => h)).row OW3.out.row)
                    have HND2 : Hid ((done ++ [key]).Nodup ∧ ∀ k ∈ done ++ [key], k ∈ ks) := by
                      refine ⟨List.nodup_append.2 ⟨HDN.out.1, by simp, fun a ha b hb => ?_⟩, fun k hk => ?_⟩
                      · rintro rfl
                        rw [List.mem_singleton] at hb
                        subst hb
                        exact HIN.out.1 ha
                      · rcases List.mem_append.1 hk with h | h
                        · exact HDN.out.2 k h
                        · rw [List.mem_singleton] at h; subst h; exact HIN.out.2
                    have HC2 := Lib.hid (alone_snoc L who done key)
                    have hcb : c ≤ 60 := by rw [HC.out]; have := alone_le L who done; have := nodup_sub_le HDN.out.1 HDN.out.2; omega
                    rw [EIL.out] at HC2
                    have GON := Lib.hid (And.intro HIN.out HLT.out)
                    clear OW3 HIN HLT
                    have STEP : ∀ (w15 : World) (c' : Nat), Upd (fun _ => False) wr w15 → c' = alone L who (done ++ [key]) → (c' = alone L who (done ++ [key])) ∧ ((done ++ [key]).Nodup ∧ ∀ k ∈ done ++ [key], k ∈ ks) ∧ RangeAt Try.prog 9 w15 wb r wm (done ++ [key]) cnt' ∧ WasAt w15 w.heap.size wb L E2 ks wm ∧ KAt w15 w.heap.size kb 1000 (drop14 L who) l.length E2 ∧ Upd (fun _ => False) w w15 := fun w15 c' u hc => ⟨hc, HND2.out, RAr.out.keep u (fun h => h) (fun h => h), WAr.out.keep u (fun _ h => h.elim), Kr.out.keep u (fun _ _ h => h), Ur.out.trans u (fun _ _ h => h)⟩
                    have STEP := Lib.hid STEP
                    by_cases hce : cutId who il = []
                    · have hcl0 : (((cutId who il).length : Int) == 0) = true := by rw [hce]; rfl
                      have HCE := Lib.hid hce
                      clear hce
                      go_wp2_with fail
                      refine (SM.out).mono ?_
                      rintro e w14 ⟨rfl, n14, rfl⟩
                      have ST := STEP.out (wr.drewN n14) (c + 1) ((Upd.refl _ _).drewN _) (by rw [HC2.out, if_pos HCE.out, HC.out])
                      have ST := Lib.hid ST
                      clear STEP
                      go_wp2
                      go_roundw
                      case rel => 
                        obtain ⟨t1, t2, t3, t4, t5, t6⟩ := ST.out
                        exact ⟨rfl, done ++ [key], cnt', c + 1, by simp, Lib.hid t1, Lib.hid t2, Lib.hid t3, Lib.hid t4, Lib.hid t5, Lib.hid t6⟩
                      case measure => 
                        obtain ⟨t1, t2, t3, t4, t5, t6⟩ := ST.out
                        rw [t3.left, CM.out]; exact GON.out.2
                    · have hcl0 : (((cutId who il).length : Int) == 0) = false := by
                        cases hq : cutId who il with
                        | nil => exact absurd hq hce
                        | cons x y => simp; omega
                      have HCE := Lib.hid hce
                      clear hce
                      go_wp2_with fail
                      refine (SM.out).mono ?_
                      rintro e w14 ⟨rfl, n14, rfl⟩
                      have ST := STEP.out (wr.drewN n14) c ((Upd.refl _ _).drewN _) (by rw [HC2.out, if_neg HCE.out, HC.out, Nat.add_zero])
                      have ST := Lib.hid ST
                      clear STEP
                      go_wp2
                      go_roundw
                      case rel => 
                        obtain ⟨t1, t2, t3, t4, t5, t6⟩ := ST.out
                        exact ⟨rfl, done ++ [key], cnt', _, rfl, Lib.hid (by first | exact t1 | rfl), Lib.hid t2, Lib.hid t3, Lib.hid t4, Lib.hid t5, Lib.hid t6⟩
                      case measure => 
                        obtain ⟨t1, t2, t3, t4, t5, t6⟩ := ST.out
                        rw [t3.left, CM.out]; exact GON.out.2
end Go.Proofs.Ythgojhchakclcaa
