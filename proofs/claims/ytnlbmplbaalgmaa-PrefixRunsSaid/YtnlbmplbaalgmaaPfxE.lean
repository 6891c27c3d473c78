/- Match, Of: the clients that are told of a key; a client's beginnings. -/
import Derived.Test.YtnlbmplbaalgmaaPfxD
import Derived.Test.YtnlbmplbaalgmaaAppR
import Derived.Test.YtnlbmplbaalgmaaLawWalks
set_option linter.unusedVariables false
set_option linter.unusedSimpArgs false
set_option linter.unusedSectionVars false
namespace Go.Proofs.Ytnlbmplbaalgmaa
open Go.RowKit

theorem ints_one {l : List Int} : ∀ u ∈ l.map (Value.int .i64), u.oneCell' = true := by intro u hu; obtain ⟨_, _, rfl⟩ := List.mem_map.1 hu; rfl
theorem ints_append (w : World) (base base2 : Nat) (ty : TypeId) (v v2 : Value) (xs ys : List Int) (h : IntsAt w base v xs) (h2 : IntsAt w base2 v2 ys) (hl : xs.length + ys.length ≤ 1000000) (hb : base ≤ w.heap.size) :
    ∃ v' w', (Builtin.append_ #[56, 56] ty #[v, v2]).run Try.prog w = .ok v' w' ∧ IntsAt w' base v' (xs ++ ys) ∧ Upd (fun k => v.ownBlock = some k) w w' := by
  obtain ⟨i0, hi0, hz0, hz1, hz2⟩ := rinfo_parts int_info
  obtain ⟨v', w', a, b, c, _⟩ := append_row w base base2 56 ty 3 i0 (.int .i64 0) 8 Try.underlying56 hi0 hz0 hz1 hz2 rfl v v2 xs.length ys.length _ _ h h2 ints_one (by unfold maxLen; omega) (by omega) hb
  refine ⟨v', w', a, ?_, c⟩
  unfold IntsAt
  rw [List.length_append, List.map_append]; exact b
theorem sort_rising (xs : List Int) : Rising (Lib.compact (xs.mergeSort fun x y => decide (x ≤ y))) ∧ ∀ x, x ∈ Lib.compact (xs.mergeSort fun x y => decide (x ≤ y)) ↔ x ∈ xs := by
  have hs : (xs.mergeSort fun x y => decide (x ≤ y)).Pairwise (· ≤ ·) := by
    have := List.pairwise_mergeSort (le := fun x y : Int => decide (x ≤ y)) (fun a b c h1 h2 => by simp only [decide_eq_true_eq] at *; omega) (fun a b => by simp only [Bool.or_eq_true, decide_eq_true_eq]; omega) xs
    exact this.imp (fun h => by simpa using h)
  obtain ⟨h1, h2⟩ := compact_rising hs
  exact ⟨h1, fun x => by rw [h2]; exact (List.mergeSort_perm xs _).mem_iff⟩

set_option maxHeartbeats 4000000 in
set_option maxRecDepth 100000 in
theorem pmatch_raw {base pb xb rm om : Nat} {lab : Nat → Lb} {L : List MarkP} {E : Nat → Prop} {nx : Int} {R : List (Int × Value)} {rv : Int → Value} {ri : Int → Option (List Int)} {Q : List (Int × Value)} {qv : Int → Value} {qi : Int → Option (List Txt)}
    {P : Txt → Int → Prop} {N : Nat} (key : Txt) (w : World) (h : PRaw w base pb xb rm om lab L E nx R rv ri Q qv qi) (hR : RowsOk P N L ri nx) (hN : N ≤ 900) (hk : key.length ≤ 1000000) :
    Calls Try.prog 31 #[.pointer (some ⟨pb, 0, none⟩), .string (ofL key)] w fun e w' => ∃ v l, e = .returned v ∧ IntsAt w' w.heap.size v l ∧ Rising l ∧ (∀ id, id ∈ l ↔ ∃ t, t <+: key ∧ P t id) ∧ Upd (fun _ => False) w w' := by
  have AB := radAbove_any w base xb L E h.tree (by have := hR.len; omega) key hk
  obtain ⟨sk, hsk⟩ : ∃ sk, sk = ofL key := ⟨_, rfl⟩
  rw [← hsk] at AB ⊢
  have c0 : w.cell? ⟨pb, 0, none⟩ = some (.pointer (some ⟨xb, 0, none⟩)) := h.blk.cellAt rfl
  have H := Lib.hid h
  have HR := Lib.hid hR
  have AB := Lib.hid AB
  have LEN := hR.len
  have LA0 : (aboveL L key).length ≤ L.length := List.length_filter_le _ _
  have LAM : Hid (∀ m, m ∈ aboveL L key ↔ m ∈ L ∧ m.1 <+: key) := fun m => by unfold aboveL; rw [List.mem_filter, decide_eq_true_eq]
  generalize aboveL L key = LA at *
  clear h hR hsk
  go_enter Try.func31, Try.ntmps31
  go_wp2_with fail
  refine (AB.out).mono ?_
  rintro e w1 ⟨va, rfl, ha, u1⟩
  obtain ⟨pa, ca, ea, _⟩ := own_slice ha
  subst ea
  have HA := Lib.hid ha
  have U1 := Lib.hid u1
  clear AB ha u1
  go_wp2
  go_loopw [5, 15] (fun out x wr => ∃ (j : Nat) (xs : List Int), x = .int .i64 (j : Int) ∧ j ≤ LA.length ∧ Hid (IntsAt wr w1.heap.size out xs) ∧ xs.length ≤ j * N ∧ Hid (∀ id, id ∈ xs ↔ ∃ m ∈ LA.take j, P m.1 id) ∧ Hid (Upd (fun _ => False) w1 wr)) (fun _ x _ => LA.length - (intOf x).toNat)
  case atStart => exact ⟨0, [], rfl, by omega, World.ownsRow_nil _ _ _ _, by simp, Lib.hid (fun id => by simp), Lib.hid (Upd.refl _ _)⟩
  case round =>
    obtain ⟨j, xs, rfl, hj, XS, hxl, XM, UJ⟩ := hrel
    obtain ⟨px, cx, ex, _⟩ := own_slice XS.out
    subst ex
    have hjN : j * N ≤ 900 * 900 := Nat.mul_le_mul (by omega) hN
    by_cases hlt : j < LA.length
    · have q1 : (j : Int) < (LA.length : Int) := by omega
      obtain ⟨g, ep, hg, ck0, ck1⟩ := mark_cells (HA.out.keep UJ.out (fun _ _ h => h)) hlt
      subst ep
      obtain ⟨m, hm⟩ : ∃ m, m = LA[j] := ⟨_, rfl⟩
      rw [← hm] at ck0 ck1
      obtain ⟨hmL, hmk⟩ := (LAM.out m).1 (hm ▸ List.getElem_mem hlt)
      obtain ⟨l0, hr, hrl, hne, hlN, hmem⟩ := HR.out.row m.1 m.2 hmL
      have XM2 : Hid (∀ id, id ∈ xs ++ l0 ↔ ∃ m ∈ LA.take (j + 1), P m.1 id) := fun id => by
        rw [List.mem_append, XM.out, hmem, List.take_succ_eq_append_getElem hlt, ← hm]
        constructor
        · rintro (⟨a, ha, hp⟩ | hp)
          · exact ⟨a, List.mem_append_left _ ha, hp⟩
          · exact ⟨m, by simp, hp⟩
        · rintro ⟨a, ha, hp⟩
          rcases List.mem_append.1 ha with ha | ha
          · exact Or.inl ⟨a, ha, hp⟩
          · rw [List.mem_singleton] at ha; rw [ha] at hp; exact Or.inr hp
      have hjN2 : (xs ++ l0).length ≤ (j + 1) * N := by rw [List.length_append, Nat.add_mul]; omega
      have hxl2 : (xs ++ l0).length = xs.length + l0.length := List.length_append ..
      obtain ⟨sm, hsm⟩ : ∃ sm, sm = ofL m.1 := ⟨_, rfl⟩
      obtain ⟨r, hrr⟩ : ∃ r, r = m.2 := ⟨_, rfl⟩
      rw [← hsm] at ck0
      rw [← hrr] at ck1 hr
      have uN : Upd (fun _ => False) w1 (wr.alloc (.cells #[.string sm, .int .i64 r] 30)).drew := (UJ.out.alloc _).drew
      have HN := H.out.keep0 (U1.out.trans uN (fun _ _ h => h))
      have lk := HN.rowLook r
      obtain ⟨hra, _⟩ := HN.rowAt r
      rw [HN.rget, hr] at lk hra
      simp only [Option.map_some, Option.getD_some] at lk hra
      have d1 : (wr.alloc (.cells #[.string sm, .int .i64 r] 30)).cell? ⟨pb, 1, none⟩ = some (.map (some rm)) := (H.out.keep0 ((U1.out.trans UJ.out (fun _ _ h => h)).alloc _)).blk.cellAt rfl
      have BN := Blk.made wr [.string sm, .int .i64 r] 30
      have e0 := BN.cellAt (i := 0) (v := .string sm) rfl
      have e1 := BN.cellAt (i := 1) (v := .int .i64 r) rfl
      obtain ⟨v2, w2, hap, hi2, hu2⟩ := ints_append (wr.alloc (.cells #[.string sm, .int .i64 r] 30)).drew w1.heap.size base 56 _ (rv r) xs l0 (XS.out.keep (((Upd.refl (fun _ => False) wr).alloc _).drew) (fun _ _ h => h)) hra (by omega) (by have := UJ.out.size; simp; omega)
      have U2 : Hid (Upd (fun _ => False) w1 w2) := uN.trans hu2 (fun b hb e => by have := (ints_block XS.out e).1; omega)
      obtain ⟨p0, c0', e0', _⟩ := own_slice hra
      rw [e0'] at lk hap
      have I2 := Lib.hid hi2
      obtain ⟨p2, c2, e2, _⟩ := own_slice hi2
      subst e2
      have y1 : w2.cell? ⟨pb, 1, none⟩ = some (.map (some rm)) := (H.out.keep0 (U1.out.trans U2.out (fun _ _ h => h))).blk.cellAt rfl
      have y2 : w2.cell? ⟨wr.heap.size, 1, none⟩ = some (.int .i64 r) := (hu2.blk (BN.drew) (fun e => by have := (ints_block XS.out e).2.1; omega)).cellAt rfl
      clear hsm hrr hm hmL hmk hr hrl hne hmem HN hra hi2 hu2 uN BN e0' hlt
      have HJN2 := Lib.hid hjN2
      clear hxl2 hjN2
      generalize (xs ++ l0).length = n2 at I2 hap ⊢
      generalize hnl : LA.length = nl at *
      generalize xs.length = nx' at *
      go_wp2
      go_region_held3 (fun w' => w'.cell? ⟨pb, 1, none⟩ = some (.map (some rm)) ∧ w'.cell? ⟨wr.heap.size, 1, none⟩ = some (.int .i64 r)) (go_keep) (first
        | (refine step_builtin rfl _ _ 56 rfl _ _ rfl rfl hap ?_))
      go_wp2
      go_roundw
      case rel => exact ⟨j + 1, xs ++ l0, by simp, by omega, I2, HJN2.out, XM2, U2⟩
      case measure => simp [intOf]; omega
    · have q1 : ¬ (j : Int) < (LA.length : Int) := by omega
      have hjl : j = LA.length := by omega
      subst hjl
      have XF : Hid (∀ id, id ∈ xs ↔ ∃ t, t <+: key ∧ P t id) := fun id => by
        rw [XM.out, List.take_length]
        constructor
        · rintro ⟨m, hm, hp⟩; exact ⟨m.1, ((LAM.out m).1 hm).2, hp⟩
        · rintro ⟨t, ht, hp⟩
          obtain ⟨n, hn⟩ := HR.out.key t id hp
          exact ⟨(t, n), (LAM.out _).2 ⟨hn, ht⟩, hp⟩
      have SO := Lib.hid (sorti_any w1.heap.size _ xs wr XS.out (by omega))
      have hO : Hid (∀ b, (Value.slice px xs.length cx).ownBlock = some b → w1.heap.size ≤ b) := fun b hb => (ints_block XS.out hb).1
      have hml : (xs.mergeSort fun x y => decide (x ≤ y)).length = xs.length := List.length_mergeSort _
      generalize hnl : LA.length = nl at *
      go_wp2_with fail
      refine (SO.out).mono ?_
      rintro e w4 ⟨rfl, i4, u4⟩
      have U4 : Hid (Upd (fun _ => False) w1 w4) := UJ.out.trans u4 (fun b hb e => by have := hO.out b e; omega)
      have CO := Lib.hid (compacti_any w1.heap.size _ _ w4 i4 (by omega))
      clear u4 SO
      go_wp2_with fail
      refine (CO.out).mono ?_
      rintro e w5 ⟨v5, rfl, i5, u5⟩
      have U5 : Hid (Upd (fun _ => False) w1 w5) := U4.out.trans u5 (fun b hb e => by have := hO.out b e; omega)
      have I5 := Lib.hid i5
      obtain ⟨p5, c5, e5, _⟩ := own_slice i5
      subst e5
      clear u5 i5 i4 CO
      obtain ⟨s1, s2⟩ := sort_rising xs
      have S1 := Lib.hid s1
      have S2 := Lib.hid s2
      clear s1 s2
      generalize Lib.compact (xs.mergeSort fun x y => decide (x ≤ y)) = ls at *
      go_wp2
      go_ret
      exact ⟨_, ls, rfl, own_mono I5.out U1.out.size, S1.out, fun id => (S2.out id).trans (XF.out id), U1.out.trans U5.out (fun _ _ h => h)⟩
set_option maxHeartbeats 4000000 in
set_option maxRecDepth 100000 in
theorem pof_raw {base pb xb rm om : Nat} {lab : Nat → Lb} {L : List MarkP} {E : Nat → Prop} {nx : Int} {R : List (Int × Value)} {rv : Int → Value} {ri : Int → Option (List Int)} {Q : List (Int × Value)} {qv : Int → Value} {qi : Int → Option (List Txt)}
    {P : Txt → Int → Prop} {N : Nat} (id : Int) (w : World) (h : PRaw w base pb xb rm om lab L E nx R rv ri Q qv qi) (hO : OfOk P N qi) (hN : N ≤ 100000) :
    Calls Try.prog 39 #[.pointer (some ⟨pb, 0, none⟩), .int .i64 id] w fun e w' => ∃ v l, e = .returned v ∧ TxtsAt w' w.heap.size v l ∧ Rising l ∧ (∀ t, t ∈ l ↔ P t id) ∧ Upd (fun _ => False) w w' := by
  have c3 : w.cell? ⟨pb, 3, none⟩ = some (.map (some om)) := h.blk.cellAt rfl
  have lc := h.clLook id
  obtain ⟨hca, _⟩ := h.clAt id
  obtain ⟨hor, hol, hom⟩ := hO.at_ id
  have CL := cloneT_any base _ _ w hca (by omega)
  obtain ⟨p, c, ec, _⟩ := own_slice hca
  rw [ec] at lc CL
  have CL := Lib.hid CL
  have HOR := Lib.hid hor
  have HOM := Lib.hid hom
  generalize (qi id).getD [] = l at *
  clear h hO hca hol hor hom ec
  go_enter Try.func39, Try.ntmps39
  go_wp2_with fail
  refine (CL.out).mono ?_
  rintro e w1 ⟨v, rfl, t1, u1⟩
  have T1 := Lib.hid t1
  have U1 := Lib.hid u1
  obtain ⟨p5, c5, e5, _⟩ := own_slice t1
  subst e5
  clear CL t1 u1
  go_wp2
  go_ret
  exact ⟨_, l, rfl, T1.out, HOR.out, HOM.out, U1.out⟩
end Go.Proofs.Ytnlbmplbaalgmaa
