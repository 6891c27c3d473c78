/- KeysBound, walked. -/
import Derived.Test.YthgojhchakclcaaBoundP
set_option linter.unusedVariables false
set_option linter.unusedSimpArgs false
namespace Go.Proofs.Ythgojhchakclcaa
open Go.RowKit

theorem zeroMI (w : World) : (zeroValue 32).run Try.prog w = .ok (.map none) w := by rfl

theorem Upd.first7 {w w1 w2 : World} {nb : Nat} (u : Upd (fun _ => False) w w1) (u2 : Upd (fun i => i = nb) w1 w2) : Upd (fun i => i = nb) w w2 := (u.weaken (F := fun i => i = nb) (fun _ _ h => h.elim)).trans u2 (fun _ _ h => h)

set_option maxRecDepth 100000 in
set_option maxHeartbeats 8000000 in
theorem lawBound (most : Int) (hm1 : -9223372036854775808 ≤ most) (hm2 : most ≤ 9223372036854775807) (v : Value) (l : List Act14) (who : Int) (w : World) (h : RowOf act14c 3 w v l) (s : ∀ a ∈ l, a.key.size ≤ maxLen) :
    Calls Try.prog 3 #[.int .i64 most, v, .int .i64 who] w fun e w' => e = .returned (.bool true) ∧ Upd (fun _ => False) w w' := by
  obtain ⟨p1, k1, rfl, b1⟩ := h.len
  unfold maxLen at b1
  have H1 := Lib.hid h
  have S1 := Lib.hid s
  have A := Lib.hid (alive_any w)
  clear h s
  by_cases hz : 60 < l.length
  · have hd : decide ((60 : Int) < (l.length : Int)) = true := by simp; omega
    clear hz
    go_enter Try.func3, Try.ntmps3
    go_wp2_with fail
    refine (A.out).mono ?_
    rintro e w1 ⟨rfl, u1⟩
    have U1 := Lib.hid u1
    clear u1
    go_wp2
    go_ret
    exact ⟨rfl, U1.out⟩
  · have hd : decide ((60 : Int) < (l.length : Int)) = false := by simp; omega
    clear b1
    go_enter Try.func3, Try.ntmps3
    go_wp2_with fail
    refine (A.out).mono ?_
    rintro e w1 ⟨rfl, u1⟩
    have N := Lib.hid (knew_any most w1 hm1 hm2 w.heap.size u1.size)
    have U1 := Lib.hid u1
    clear u1
    go_wp2_with fail
    refine (N.out).mono ?_
    rintro e w2 ⟨kb, E0, rfl, k0, u2, f2⟩
    have mk := run_makeMap (P := Try.prog) 26 w2
    obtain ⟨B, hB⟩ : ∃ x, max most 1 = x := ⟨_, rfl⟩
    rw [hB] at k0
    have HB : Hid (max most 1 = B ∧ 1 ≤ B) := ⟨hB, by rw [← hB]; exact Int.le_max_right _ _⟩
    have uM : Upd (fun _ => False) w2 (w2.alloc (.map #[] 0)) := (Upd.refl _ _).alloc _
    have K0 := Lib.hid (k0.keep uM (fun _ _ h => h))
    have U2 := Lib.hid ((U1.out.trans u2 (fun _ _ h => h)).trans uM (fun _ _ h => h))
    have N0 : Hid (NowAt (w2.alloc (.map #[] 0)) w.heap.size w2.heap.size (aget []) E0 [] (fun _ => 0) (fun _ => [])) := ⟨MapAt.made w2, by simp [akeys], fun k => by simp [akeys, aget], fun k v hk => by simp [aget] at hk, fun k l hk => by simp [aget] at hk, fun k k' h1 h2 => by simp [aget] at h1, fun hh => by have := (k0.lt _ hh).2; omega, by have := (U1.out.trans u2 (fun _ _ h => h)).size; omega⟩
    clear k0 u2 f2 N uM hB
    go_wp2
    generalize w2.heap.size = nb at *
    go_loopw [26] (fun x wr => ∃ (j : Nat) (L : Rows14) (E : Nat → Prop) (nm : List (ByteArray × Value)) (bo : ByteArray → Nat) (mo : ByteArray → List (Int × Value)), j ≤ l.length ∧ x = .int .i64 (j : Int) ∧ Hid (KAt wr w.heap.size kb B L j E) ∧ Hid (NowAt wr w.heap.size nb (aget L) E nm bo mo) ∧ Hid (Upd (fun _ => False) w wr) ∧ Hid (∀ k ∈ akeys L, k.size ≤ maxLen) ∧ Hid ((L.length : Int) ≤ B)) (fun x _ => l.length - (intOf x).toNat)
    case atStart => exact ⟨0, [], E0, [], _, _, by omega, rfl, K0, N0, U2, Lib.hid (fun k hk => by simp [akeys] at hk), Lib.hid (by have := HB.out.2; simp; omega)⟩
    case round =>
      obtain ⟨j, L, E, nm, bo, mo, hj, rfl, K, NW, U, SZ, LB⟩ := hrel
      by_cases hlt : j < l.length
      · obtain ⟨b, off, a, rfl, hb, ha, c0, c1, c2⟩ := act14_cells (H1.out.keep U.out (fun _ _ _ => id)) hlt
        have hsz := S1.out a (List.mem_of_getElem? ha)
        have uA : Upd (fun _ => False) wr (wr.alloc (.cells #[.int .i64 a.kind, .int .i64 a.id, .string a.key] 28)) := (Upd.refl _ _).alloc _
        have hKL := K.out.inv.len
        have AD := kadd_any w.heap.size kb B L j E a.key a.id _ (K.out.keep uA (fun _ _ h => h)) (by omega) HB.out.2
        have AR := fun k => add_row (key := a.key) (id := a.id) K.out.nodup HB.out.2 k
        have AL := add_len (key := a.key) (id := a.id) HB.out.2 LB.out
        have AF := fun h => add_full (most := B) (L := L) (key := a.key) (id := a.id) h
        obtain ⟨t, ht⟩ : ∃ t, add14 B L a.key a.id = t := ⟨_, rfl⟩
        rw [ht] at AD AL
        simp only [ht] at AR AF
        clear ht
        obtain ⟨ka, ia, fu, L'⟩ := t
        simp only at AD AL AR AF
        have AD := Lib.hid AD
        have AR := Lib.hid AR
        have AL := Lib.hid AL
        have AF := Lib.hid AF
        have SZ' : Hid (∀ k ∈ akeys L', k.size ≤ maxLen) := fun k hk => by
          by_cases e : k = a.key
          · rw [e]; exact hsz
          · refine SZ.out k (Classical.byContradiction fun hx => ?_)
            have h1 := AR.out k
            rw [aget_none.2 hx] at h1
            simp only [e, if_false] at h1
            exact (aget_none.1 (by rw [h1]; split <;> rfl)) hk
        have UA := Lib.hid uA
        have HA := Lib.hid ha
        have NW1 := Lib.hid (NW.out.keep uA (fun _ h => h.elim))
        have NQ : Hid (nb ≠ wr.heap.size ∧ ∀ k l, aget L k = some l → bo k ≠ wr.heap.size) := ⟨by have := NW.out.mp.lt; omega, fun k l hk => by have := (NW.out.inn k l hk).1.lt; omega⟩
        have cq : wr.heap.size < (wr.alloc (.cells #[.int .i64 a.kind, .int .i64 a.id, .string a.key] 28)).heap.size := by simp
        have CQ : Hid (((wr.alloc (.cells #[.int .i64 a.kind, .int .i64 a.id, .string a.key] 28)).cell? ⟨wr.heap.size, 1, none⟩ = some (.int .i64 a.id) ∧ (wr.alloc (.cells #[.int .i64 a.kind, .int .i64 a.id, .string a.key] 28)).cell? ⟨wr.heap.size, 2, none⟩ = some (.string a.key)) ∧ ¬ E wr.heap.size ∧ wr.heap.size < (wr.alloc (.cells #[.int .i64 a.kind, .int .i64 a.id, .string a.key] 28)).heap.size) := ⟨⟨by simp [World.cell?_alloc_at], by simp [World.cell?_alloc_at]⟩, fun hE => by have := (K.out.lt _ hE).2; omega, cq⟩
        have BL : Hid (∀ b, E b → b < wr.heap.size) := fun b hb => (K.out.lt b hb).2
        clear ha uA hKL cq NW
        go_wp2_with fail
        refine (AD.out).mono ?_
        rintro e w5 ⟨v5, rfl, i5, E', k5, u5, f5, o5⟩
        have CQ5 : Hid (w5.cell? ⟨wr.heap.size, 1, none⟩ = some (.int .i64 a.id) ∧ w5.cell? ⟨wr.heap.size, 2, none⟩ = some (.string a.key) ∧ ¬ E' wr.heap.size) := ⟨(u5.cell CQ.out.2.2 CQ.out.2.1).trans CQ.out.1.1, (u5.cell CQ.out.2.2 CQ.out.2.1).trans CQ.out.1.2, fun hE => by
          rcases f5 _ hE with g | g
          · exact CQ.out.2.1 g
          · have := CQ.out.2.2; omega⟩
        have NW5 := Lib.hid (NW1.out.foot u5 f5)
        have K5 := Lib.hid k5
        have U5 := Lib.hid (K.out.fresh U.out (((UA.out.weaken (F := E) (fun _ _ h => h.elim)).trans u5 (fun _ _ h => h))))
        have WSZ : Hid (wr.heap.size < w5.heap.size) := by have := CQ.out.2.2; have := u5.size; exact Lib.hid (by omega)
        obtain ⟨p5, q5, e5, _⟩ := own_slice i5
        subst e5
        clear k5 u5 f5 AD c0 c1 c2 i5 o5 CQ NW1
        generalize wr.heap.size = q at *
        cases fu with
        | true =>
          obtain ⟨hnk, p, r, hL, e1, e2⟩ := AF.out rfl
          subst hL e1 e2
          have hro : aget (p :: r) p.1 = some p.2 := by simp [aget]
          have hrise := (K.out.inv.rise _ _ hro)
          have lk := NW5.out.mp.look keyS Try.underlying26 (zeroMI w5) p.1 false
          rw [NW5.out.some hro] at lk
          simp only [Option.getD_some, Bool.false_eq_true, if_false] at lk
          unfold strEnc at lk
          have ln := (NW5.out.inn _ _ hro).1.len 3 Try.underlying32 (by have := NW5.out.ilen hro hrise.1; omega)
          rw [NW5.out.ilen hro hrise.1] at ln
          obtain ⟨w6, de, m6, u6⟩ := NW5.out.mp.del keyS Try.underlying26 p.1 0
          unfold strEnc at de
          have M6 := Lib.hid m6
          have U6 := Lib.hid u6
          clear m6 u6 hrise
          have hno6 : (fun k' => if k' = p.1 then none else aget (p :: r) k') a.key = none := by
            show (if a.key = p.1 then none else aget (p :: r) a.key) = none
            rw [hnk]; split <;> rfl
          obtain ⟨rox, hrox⟩ : ∃ x, (fun k' => if k' = p.1 then none else aget (p :: r) k') = x := ⟨_, rfl⟩
          have NX := NW5.out.gone M6.out U6.out
          rw [hrox] at NX hno6
          have HNO : Hid (rox a.key = none) := hno6
          have NX := Lib.hid NX
          have KX := Lib.hid (K5.out.keep U6.out (fun b hb e => NW5.out.nE (by have : b = nb := e; rw [← this]; exact hb)))
          have UX := Lib.hid (U5.out.trans U6.out (fun i hi e => by have : i = nb := e; have := NW5.out.lo; omega))
          have x1 := (U6.out.cell (p := ⟨q, 1, none⟩) WSZ.out (fun e => NQ.out.1 e.symm)).trans CQ5.out.1
          have x2 := (U6.out.cell (p := ⟨q, 2, none⟩) WSZ.out (fun e => NQ.out.1 e.symm)).trans CQ5.out.2.1
          have QX : Hid (w6.cell? ⟨q, 1, none⟩ = some (.int .i64 a.id) ∧ w6.cell? ⟨q, 2, none⟩ = some (.string a.key) ∧ q < w6.heap.size) := ⟨x1, x2, by have := WSZ.out; have := U6.out.size; omega⟩
          have HXE : Hid (∀ k, aget L' k = if k = a.key then some (wth [] a.id) else rox k) := fun k => by
            rw [AR.out k, hnk, ← hrox]
            by_cases e : k = a.key
            · simp [e]
            · by_cases e2 : k = p.1 <;> simp [e, e2]
          clear hrox hno6
          have hno := HNO.out
          have lk1 := NX.out.mp.look keyS Try.underlying26 (zeroMI w6) a.key false
          rw [NX.out.none HNO.out] at lk1
          simp only [Option.getD_none, Bool.false_eq_true, if_false] at lk1
          unfold strEnc at lk1
          have eqn := run_eql_map_nil (P := Try.prog) w6 32 _ _ none Try.underlying32
          simp only [Option.isNone_none] at eqn
          have mk := run_makeMap (P := Try.prog) 32 w6
          have uB : Upd (fun _ => False) w6 (w6.alloc (.map #[] 0)) := (Upd.refl _ _).alloc _
          obtain ⟨wz, de7, m7, u7⟩ := (NX.out.mp.keep uB (fun h => h)).put keyS Try.underlying26 a.key (.map (some w6.heap.size))
          unfold strEnc at de7
          have NZ := NX.out.first HNO.out (b := w6.heap.size) (Nat.le_refl _) (fun i hi => (KX.out.lt i hi).2) UX.out.size m7 ((MapAt.made w6).keep u7 (fun e => by have := NX.out.mp.lt; have e2 : w6.heap.size = nb := e; omega)) (Upd.first7 uB u7)
          have KZ := Lib.hid ((KX.out.keep uB (fun _ _ h => h)).keep u7 (fun b hb e => NX.out.nE (by have : b = nb := e; rw [← this]; exact hb)))
          have UZ := Lib.hid ((UX.out.trans uB (fun _ _ h => h)).trans u7 (fun i hi e => by have : i = nb := e; have := NX.out.lo; omega))
          have z1 := (u7.cell (p := ⟨q, 1, none⟩) (Nat.lt_of_lt_of_le QX.out.2.2 uB.size) (fun e => NQ.out.1 e.symm)).trans ((uB.cell (p := ⟨q, 1, none⟩) QX.out.2.2 (fun h => h)).trans QX.out.1)
          have z2 := (u7.cell (p := ⟨q, 2, none⟩) (Nat.lt_of_lt_of_le QX.out.2.2 uB.size) (fun e => NQ.out.1 e.symm)).trans ((uB.cell (p := ⟨q, 2, none⟩) QX.out.2.2 (fun h => h)).trans QX.out.2.1)
          obtain ⟨roz, hroz⟩ : ∃ x, (fun k' => if k' = a.key then some [] else rox k') = x := ⟨_, rfl⟩
          obtain ⟨boz, hboz⟩ : ∃ x, (fun k' => if k' = a.key then w6.heap.size else bo k') = x := ⟨_, rfl⟩
          obtain ⟨moz, hmoz⟩ : ∃ x, (fun k' => if k' = a.key then [] else mo k') = x := ⟨_, rfl⟩
          rw [hroz, hboz, hmoz] at NZ
          have NZ := Lib.hid NZ
          obtain ⟨l0, hl0⟩ : ∃ x : List Int, x = [] := ⟨_, rfl⟩
          have HRO : Hid (roz a.key = some l0) := by rw [← hroz, hl0]; simp; exact Lib.hid trivial
          have HEND : Hid (∀ k, aget L' k = (fun k' => if k' = a.key then some (wth l0 a.id) else roz k') k) := fun k => by
            have h1 := HXE.out k
            rw [h1, hl0]
            by_cases e : k = a.key
            · simp [e]
            · simp only [e, if_false]; rw [← hroz]; simp [e]
          clear hroz hboz hmoz hl0 m7 u7 uB
          have lk2 := NZ.out.mp.look keyS Try.underlying26 (zeroMI wz) a.key false
          rw [NZ.out.some HRO.out] at lk2
          simp only [Option.getD_some, Bool.false_eq_true, if_false] at lk2
          unfold strEnc at lk2
          obtain ⟨w8, de8, m8, u8⟩ := (NZ.out.inn _ _ HRO.out).1.put keyI Try.underlying32 a.id (.int .i64 1)
          unfold intEnc at de8
          have NI := NZ.out.inner HRO.out (l' := wth l0 a.id) m8 (nodup_aset (NZ.out.inn _ _ HRO.out).2.1 a.id _) (fun x => by rw [mem_aset, (NZ.out.inn _ _ HRO.out).2.2.1, wth_mem]; exact Or.comm) u8
          have NE := NI.congr HEND.out
          have K8 := KZ.out.keep u8 (fun b hb e => (NZ.out.inn _ _ HRO.out).2.2.2.1 (by have : b = boz a.key := e; rw [← this]; exact hb))
          have U8 := UZ.out.trans u8 (fun i hi e => by have : i = boz a.key := e; have := (NZ.out.inn _ _ HRO.out).2.2.2.2.1; omega)
          obtain ⟨rb8, F8, c8, hr8⟩ := K8.rec
          have hkl8 := K8.inv.len
          have ln8 := NE.mp.len 3 Try.underlying26 (by rw [NE.len K8.nodup]; omega)
          rw [NE.len K8.nodup] at ln8
          have RL := Lib.hid (fun (v : World) (u : Upd (fun _ => False) w8 v) => rlen_any rb8 (akeys L') F8 v (hr8.keep u (fun _ _ h => h)) (by simp [akeys]; omega))
          have hmx : decide (max most 1 < (L'.length : Int)) = false := by rw [HB.out.1]; simp; exact AL.out
          have hal : ((akeys L').length : Int) = (L'.length : Int) := by simp [akeys]
          have KK := Lib.hid K8
          have NN := Lib.hid NE
          have UU := Lib.hid U8
          clear NI m8 u8 K8 NE U8 hr8
          go_wp2_with (first | (go_at_call 9; refine (RL.out _ (by first | exact Upd.refl _ _ | exact (Upd.refl _ _).drew | exact ((Upd.refl _ _).drew).drew)).mono ?_; rintro e _ ⟨rfl, rfl⟩))
          go_roundw
          case rel => exact ⟨j + 1, L', E', _, _, _, by omega, rfl, KK, NN, UU, SZ', AL⟩
          case measure => simp [intOf]; omega
        | false =>
          clear AF
          have x1 := CQ5.out.1
          have x2 := CQ5.out.2.1
          have QX : Hid (w5.cell? ⟨q, 1, none⟩ = some (.int .i64 a.id) ∧ w5.cell? ⟨q, 2, none⟩ = some (.string a.key) ∧ q < w5.heap.size) := ⟨x1, x2, WSZ.out⟩
          cases hk : aget L a.key with
          | none =>
            have NX := NW5
            have KX := K5
            have UX := U5
            have HXE : Hid (∀ k, aget L' k = if k = a.key then some (wth [] a.id) else (aget L) k) := fun k => by
              rw [AR.out k, hk]
              by_cases e : k = a.key <;> simp [e]
            have HNO : Hid (aget L a.key = none) := hk
            clear hk
            have hno := HNO.out
            have lk1 := NX.out.mp.look keyS Try.underlying26 (zeroMI w5) a.key false
            rw [NX.out.none HNO.out] at lk1
            simp only [Option.getD_none, Bool.false_eq_true, if_false] at lk1
            unfold strEnc at lk1
            have eqn := run_eql_map_nil (P := Try.prog) w5 32 _ _ none Try.underlying32
            simp only [Option.isNone_none] at eqn
            have mk := run_makeMap (P := Try.prog) 32 w5
            have uB : Upd (fun _ => False) w5 (w5.alloc (.map #[] 0)) := (Upd.refl _ _).alloc _
            obtain ⟨wz, de7, m7, u7⟩ := (NX.out.mp.keep uB (fun h => h)).put keyS Try.underlying26 a.key (.map (some w5.heap.size))
            unfold strEnc at de7
            have NZ := NX.out.first HNO.out (b := w5.heap.size) (Nat.le_refl _) (fun i hi => (KX.out.lt i hi).2) UX.out.size m7 ((MapAt.made w5).keep u7 (fun e => by have := NX.out.mp.lt; have e2 : w5.heap.size = nb := e; omega)) (Upd.first7 uB u7)
            have KZ := Lib.hid ((KX.out.keep uB (fun _ _ h => h)).keep u7 (fun b hb e => NX.out.nE (by have : b = nb := e; rw [← this]; exact hb)))
            have UZ := Lib.hid ((UX.out.trans uB (fun _ _ h => h)).trans u7 (fun i hi e => by have : i = nb := e; have := NX.out.lo; omega))
            have z1 := (u7.cell (p := ⟨q, 1, none⟩) (Nat.lt_of_lt_of_le QX.out.2.2 uB.size) (fun e => NQ.out.1 e.symm)).trans ((uB.cell (p := ⟨q, 1, none⟩) QX.out.2.2 (fun h => h)).trans QX.out.1)
            have z2 := (u7.cell (p := ⟨q, 2, none⟩) (Nat.lt_of_lt_of_le QX.out.2.2 uB.size) (fun e => NQ.out.1 e.symm)).trans ((uB.cell (p := ⟨q, 2, none⟩) QX.out.2.2 (fun h => h)).trans QX.out.2.1)
            obtain ⟨roz, hroz⟩ : ∃ x, (fun k' => if k' = a.key then some [] else aget L k') = x := ⟨_, rfl⟩
            obtain ⟨boz, hboz⟩ : ∃ x, (fun k' => if k' = a.key then w5.heap.size else bo k') = x := ⟨_, rfl⟩
            obtain ⟨moz, hmoz⟩ : ∃ x, (fun k' => if k' = a.key then [] else mo k') = x := ⟨_, rfl⟩
            rw [hroz, hboz, hmoz] at NZ
            have NZ := Lib.hid NZ
            obtain ⟨l0, hl0⟩ : ∃ x : List Int, x = [] := ⟨_, rfl⟩
            have HRO : Hid (roz a.key = some l0) := by rw [← hroz, hl0]; simp; exact Lib.hid trivial
            have HEND : Hid (∀ k, aget L' k = (fun k' => if k' = a.key then some (wth l0 a.id) else roz k') k) := fun k => by
              have h1 := HXE.out k
              rw [h1, hl0]
              by_cases e : k = a.key
              · simp [e]
              · simp only [e, if_false]; rw [← hroz]; simp [e]
            clear hroz hboz hmoz hl0 m7 u7 uB
            have lk2 := NZ.out.mp.look keyS Try.underlying26 (zeroMI wz) a.key false
            rw [NZ.out.some HRO.out] at lk2
            simp only [Option.getD_some, Bool.false_eq_true, if_false] at lk2
            unfold strEnc at lk2
            obtain ⟨w8, de8, m8, u8⟩ := (NZ.out.inn _ _ HRO.out).1.put keyI Try.underlying32 a.id (.int .i64 1)
            unfold intEnc at de8
            have NI := NZ.out.inner HRO.out (l' := wth l0 a.id) m8 (nodup_aset (NZ.out.inn _ _ HRO.out).2.1 a.id _) (fun x => by rw [mem_aset, (NZ.out.inn _ _ HRO.out).2.2.1, wth_mem]; exact Or.comm) u8
            have NE := NI.congr HEND.out
            have K8 := KZ.out.keep u8 (fun b hb e => (NZ.out.inn _ _ HRO.out).2.2.2.1 (by have : b = boz a.key := e; rw [← this]; exact hb))
            have U8 := UZ.out.trans u8 (fun i hi e => by have : i = boz a.key := e; have := (NZ.out.inn _ _ HRO.out).2.2.2.2.1; omega)
            obtain ⟨rb8, F8, c8, hr8⟩ := K8.rec
            have hkl8 := K8.inv.len
            have ln8 := NE.mp.len 3 Try.underlying26 (by rw [NE.len K8.nodup]; omega)
            rw [NE.len K8.nodup] at ln8
            have RL := Lib.hid (fun (v : World) (u : Upd (fun _ => False) w8 v) => rlen_any rb8 (akeys L') F8 v (hr8.keep u (fun _ _ h => h)) (by simp [akeys]; omega))
            have hmx : decide (max most 1 < (L'.length : Int)) = false := by rw [HB.out.1]; simp; exact AL.out
            have hal : ((akeys L').length : Int) = (L'.length : Int) := by simp [akeys]
            have KK := Lib.hid K8
            have NN := Lib.hid NE
            have UU := Lib.hid U8
            clear NI m8 u8 K8 NE U8 hr8
            go_wp2_with (first | (go_at_call 9; refine (RL.out _ (by first | exact Upd.refl _ _ | exact (Upd.refl _ _).drew | exact ((Upd.refl _ _).drew).drew)).mono ?_; rintro e _ ⟨rfl, rfl⟩))
            go_roundw
            case rel => exact ⟨j + 1, L', E', _, _, _, by omega, rfl, KK, NN, UU, SZ', AL⟩
            case measure => simp [intOf]; omega
          | some l0 =>
            have lk1 := NW5.out.mp.look keyS Try.underlying26 (zeroMI w5) a.key false
            rw [NW5.out.some hk] at lk1
            simp only [Option.getD_some, Bool.false_eq_true, if_false] at lk1
            unfold strEnc at lk1
            have eqn := run_eql_map_nil (P := Try.prog) w5 32 _ _ (some (bo a.key)) Try.underlying32
            simp only [Option.isNone_some] at eqn
            have HRO : Hid (aget L a.key = some l0) := hk
            have HEND : Hid (∀ k, aget L' k = (fun k' => if k' = a.key then some (wth l0 a.id) else aget L k') k) := fun k => by
              rw [AR.out k, hk]
              by_cases e : k = a.key <;> simp [e]
            clear hk
            obtain ⟨w8, de8, m8, u8⟩ := (NW5.out.inn _ _ HRO.out).1.put keyI Try.underlying32 a.id (.int .i64 1)
            unfold intEnc at de8
            have NI := NW5.out.inner HRO.out (l' := wth l0 a.id) m8 (nodup_aset (NW5.out.inn _ _ HRO.out).2.1 a.id _) (fun x => by rw [mem_aset, (NW5.out.inn _ _ HRO.out).2.2.1, wth_mem]; exact Or.comm) u8
            have NE := NI.congr HEND.out
            have K8 := K5.out.keep u8 (fun b hb e => (NW5.out.inn _ _ HRO.out).2.2.2.1 (by have : b = bo a.key := e; rw [← this]; exact hb))
            have U8 := U5.out.trans u8 (fun i hi e => by have : i = bo a.key := e; have := (NW5.out.inn _ _ HRO.out).2.2.2.2.1; omega)
            obtain ⟨rb8, F8, c8, hr8⟩ := K8.rec
            have hkl8 := K8.inv.len
            have ln8 := NE.mp.len 3 Try.underlying26 (by rw [NE.len K8.nodup]; omega)
            rw [NE.len K8.nodup] at ln8
            have RL := Lib.hid (fun (v : World) (u : Upd (fun _ => False) w8 v) => rlen_any rb8 (akeys L') F8 v (hr8.keep u (fun _ _ h => h)) (by simp [akeys]; omega))
            have hmx : decide (max most 1 < (L'.length : Int)) = false := by rw [HB.out.1]; simp; exact AL.out
            have hal : ((akeys L').length : Int) = (L'.length : Int) := by simp [akeys]
            have KK := Lib.hid K8
            have NN := Lib.hid NE
            have UU := Lib.hid U8
            clear NI m8 u8 K8 NE U8 hr8
            go_wp2_with (first | (go_at_call 9; refine (RL.out _ (by first | exact Upd.refl _ _ | exact (Upd.refl _ _).drew | exact ((Upd.refl _ _).drew).drew)).mono ?_; rintro e _ ⟨rfl, rfl⟩))
            go_roundw
            case rel => exact ⟨j + 1, L', E', _, _, _, by omega, rfl, KK, NN, UU, SZ', AL⟩
            case measure => simp [intOf]; omega
      · have hj2 : j = l.length := by omega
        subst hj2
        have DR := Lib.hid (kdrop_any w.heap.size kb B L l.length E who wr K.out (by omega) SZ.out)
        have HND : Hid (akeys L).Nodup := K.out.nodup
        have HKI : Hid (KInv L l.length) := K.out.inv
        have hlen := HKI.out.len
        go_wp2_with fail
        refine (DR.out).mono ?_
        rintro e w10 ⟨rfl, E2, k10, u10, f10⟩
        have NW10 := Lib.hid (NW.out.foot u10 f10)
        have K10 := Lib.hid k10
        have U10 := Lib.hid (K.out.fresh U.out u10)
        have hnl : nm.length ≤ 60 := by rw [NW10.out.len HND.out]; omega
        have LEN : Hid (nm.length ≤ maxLen) := by unfold maxLen; exact Lib.hid (by omega)
        have SZN : Hid (∀ k ∈ akeys nm, k.size ≤ maxLen) := fun k hk => SZ.out k (Classical.byContradiction fun hx => (NW10.out.keys k).1 hk (aget_none.2 hx))
        clear k10 u10 f10 DR K U NW
        go_wp2_with (first
          | (at_range; refine wpList_range_at _ rfl _ 26 rfl 9 32 Try.underlying9 Try.underlying26 nb nm rfl NW10.out.mp NW10.out.nd SZN.out LEN.out ?_; intro w11 cnt hra hu hs11)
          | go_in)
        go_frame
        have NW11 := Lib.hid (NW10.out.keep hu (fun _ h => h.elim))
        have K11 := Lib.hid (K10.out.keep hu (fun _ _ h => h))
        have U11 := Lib.hid (U10.out.trans hu (fun _ _ h => h))
        have RA := Lib.hid hra
        have RNE : Hid (¬ E2 w10.heap.size ∧ w10.heap.size < w11.heap.size) := ⟨fun hh => by have := (K10.out.lt _ hh).2; omega, by omega⟩
        have RB : Hid (w.heap.size ≤ w10.heap.size) := U10.out.size
        clear hra hu hs11 NW10 K10
        generalize w10.heap.size = r at *
        go_loopw [6] (fun x6 wr3 => ∃ (done : List ByteArray) (cnt : Nat) (mo2 : ByteArray → List (Int × Value)), Hid (RangeAt Try.prog 9 wr3 nb r nm done cnt) ∧ Hid (NowAt wr3 w.heap.size nb (fun k => if k ∈ done then (aget L k).map (cutId who) else aget L k) E2 nm bo mo2) ∧
          Hid (KAt wr3 w.heap.size kb B (drop14 L who) l.length E2) ∧ Hid (Upd (fun _ => False) w wr3)) (fun _ wr3 => wr3.rangeLeft nb r)
        case atStart => exact ⟨[], cnt, mo, RA, Lib.hid (NW11.out.congr (fun k => by simp)), K11, U11⟩
        case round =>
          obtain ⟨done, cnt, mo2, RA, NW, K, U⟩ := hrel
          go_wp2_with (first
            | (at_next; refine wpList_next_at _ rfl _ rfl 9 Try.underlying9 nb r nm done cnt rfl RA.out ?_ ?_)
            | go_in)
          · intro hperm
            have U0 := U
            clear RA NW K
            go_wp2
            go_ret
            exact ⟨rfl, U0.out⟩
          · intro key v w12 cnt' hnew hg hra hlt hu hs12 hen
            have nw12 := NW.out.keepR RA.out hu
            have hv := nw12.val key v hg
            subst hv
            have hkm : key ∈ akeys nm := Classical.byContradiction fun hx => by rw [aget_none.2 hx] at hg; cases hg
            obtain ⟨l0, hl0⟩ : ∃ l0, aget L key = some l0 := by
              have := (nw12.keys key).1 hkm
              simp only [hnew, if_false] at this
              cases hq : aget L key with
              | none => exact absurd hq this
              | some l0 => exact ⟨l0, rfl⟩
            obtain ⟨roz, hroz⟩ : ∃ x, (fun k => if k ∈ done then (aget L k).map (cutId who) else aget L k) = x := ⟨_, rfl⟩
            rw [hroz] at nw12
            have hro : roz key = some l0 := by rw [← hroz]; simp [hnew, hl0]
            have inn := nw12.inn key l0 hro
            have hrise := (HKI.out.rise _ _ hl0)
            obtain ⟨w13, de, m13, u13⟩ := inn.1.del keyI Try.underlying32 who 0
            unfold intEnc at de
            have ni := nw12.inner hro (l' := cutId who l0) m13 (nodup_adel inn.2.1 who) (fun x => by rw [akeys_adel, inn.2.1.mem_erase_iff, inn.2.2.1]; unfold cutId; rw [List.mem_filter]; simp [and_comm]) u13
            have ni2 := ni.congr (ro' := fun k => if k ∈ done ++ [key] then (aget L k).map (cutId who) else aget L k) (fun k => by
              show _ = (if k = key then some (cutId who l0) else roz k)
              rw [← hroz]
              by_cases e : k = key
              · subst e; simp [hl0]
              · simp [e])
            have K13 := Lib.hid ((K.out.keep hu (fun b hb e => RNE.out.1 (by have : b = r := e; rw [← this]; exact hb))).keep u13 (fun b hb e => inn.2.2.2.1 (by have : b = bo key := e; rw [← this]; exact hb)))
            have U13 := Lib.hid ((U.out.trans hu (fun i hi e => by have : i = r := e; have := RB.out; omega)).trans u13 (fun i hi e => by have : i = bo key := e; have := inn.2.2.2.2.1; omega))
            have RA13 := Lib.hid (hra.keep u13 (fun e => inn.2.2.2.2.2 e.symm) (fun e => hra.noMap inn.1 e.symm))
            have KI := kids_any w.heap.size kb B (drop14 L who) l.length E2 key w13 K13.out (by omega)
            rw [ids_drop HND.out, hl0] at KI
            have KI := Lib.hid KI
            have hrc : Rising (cutId who l0) := hrise.1.filter _
            have hmm : (if key = key then adel (mo2 key) who else mo2 key).length = (cutId who l0).length := ni.ilen (k := key) (by simp) hrc
            simp only [if_true] at hmm
            have hcl : (cutId who l0).length ≤ 60 := by unfold cutId; exact Nat.le_trans (List.length_filter_le _ _) (by have := hrise.2.2; omega)
            have NI := Lib.hid ni2
            have M13 := Lib.hid m13
            have HMM := Lib.hid hmm
            have HLT := Lib.hid hlt
            have CM := Lib.hid RA.out.left
            have HNI : Hid (bo key ≠ nb) := inn.2.2.2.2.2
            clear ni ni2 m13 u13 hra hu hlt inn hrise hrc hmm nw12 hkm hnew hg NW K U RA hro hroz hl0 hs12
            go_wp2_with fail
            refine (KI.out).mono ?_
            rintro e w14 ⟨v14, rfl, i14, u14⟩
            have ln := (M13.out.keep u14 (fun h => h)).len 3 Try.underlying32 (by rw [HMM.out]; omega)
            rw [HMM.out] at ln
            have NI14 := Lib.hid (NI.out.keep u14 (fun _ h => h.elim))
            have K14 := Lib.hid (K13.out.keep u14 (fun _ _ h => h))
            have U14 := Lib.hid (U13.out.trans u14 (fun _ _ h => h))
            have RA14 := Lib.hid (RA13.out.keep u14 (fun h => h) (fun h => h))
            obtain ⟨np, nc, en, _⟩ := own_slice i14
            subst en
            clear i14 u14 KI
            go_wp2
            go_roundw
            case rel => exact ⟨_, _, _, RA14, NI14, K14, U14⟩
            case measure => rw [RA14.out.left, CM.out]; exact HLT.out
end Go.Proofs.Ythgojhchakclcaa
