/- Match, Of: the clients that are told of a key; a client's beginnings. -/
import Derived.Test.YtmlojbfcmebboaaGreatK12
import Derived.Test.YtmlojbfcmebboaaGreatK06
import Derived.Test.YtmlojbfcmebboaaGreatK01
set_option linter.unusedVariables false
set_option linter.unusedSimpArgs false
set_option linter.unusedSectionVars false
namespace Go.Proofs.YtmlojbfcmebboaaGreat
open Go.RowKit

theorem ints_one {l : List Int} : ∀ u ∈ l.map (Value.int .i64), u.oneCell' = true := by intro u hu; obtain ⟨_, _, rfl⟩ := List.mem_map.1 hu; rfl
theorem ints_append (w : World) (base base2 : Nat) (ty : TypeId) (v v2 : Value) (xs ys : List Int) (h : IntsAt w base v xs) (h2 : IntsAt w base2 v2 ys) (hl : xs.length + ys.length ≤ 1000000000) (hb : base ≤ w.heap.size) :
    ∃ v' w', (Builtin.append_ #[85, 85] ty #[v, v2]).run Tryz.prog w = .ok v' w' ∧ IntsAt w' base v' (xs ++ ys) ∧ Upd (fun k => v.ownBlock = some k) w w' := by
  obtain ⟨i0, hi0, hz0, hz1, hz2⟩ := rinfo_parts int_info
  obtain ⟨v', w', a, b, c, _⟩ := append_row w base base2 85 ty 3 i0 (.int .i64 0) 8 Tryz.underlying85 hi0 hz0 hz1 hz2 rfl v v2 xs.length ys.length _ _ h h2 ints_one (by unfold maxLen; omega) (by omega) hb
  refine ⟨v', w', a, ?_, c⟩
  unfold IntsAt
  rw [List.length_append, List.map_append]; exact b
theorem sort_rising (xs : List Int) : Rising (Lib.compact (xs.mergeSort fun x y => decide (x ≤ y))) ∧ ∀ x, x ∈ Lib.compact (xs.mergeSort fun x y => decide (x ≤ y)) ↔ x ∈ xs := by
  have hs : (xs.mergeSort fun x y => decide (x ≤ y)).Pairwise (· ≤ ·) := by
    have := List.pairwise_mergeSort (le := fun x y : Int => decide (x ≤ y)) (fun a b c h1 h2 => by simp only [decide_eq_true_eq] at *; omega) (fun a b => by simp only [Bool.or_eq_true, decide_eq_true_eq]; omega) xs
    exact this.imp (fun h => by simpa using h)
  obtain ⟨h1, h2⟩ := compact_rising hs
  exact ⟨h1, fun x => by rw [h2]; exact (List.mergeSort_perm xs _).mem_iff⟩

set_option maxHeartbeats 4000000 in
set_option maxRecDepth 100000 in
theorem pmatch_rawL {base pb xb rm om : Nat} {lab : Nat → Lb} {L : List MarkP} {E : Nat → Prop} {nx : Int} {R : List (Int × Value)} {rv : Int → Value} {ri : Int → Option (List Int)} {Q : List (Int × Value)} {qv : Int → Value} {qi : Int → Option (List Txt)}
    {P : Txt → Int → Prop} {N : Nat} (key : Txt) (w : World) (h : PRaw w base pb xb rm om lab L E nx R rv ri Q qv qi) (hR : RowsOk P N L ri nx) (hN : N ≤ 9000) (hk : key.length ≤ 1000000) :
    Calls Tryz.prog 55 #[.pointer (some ⟨pb, 0, none⟩), .string (ofL key)] w fun e w' => ∃ v l, e = .returned v ∧ IntsAt w' w.heap.size v l ∧ Rising l ∧ (∀ id, id ∈ l ↔ ∃ t, t <+: key ∧ P t id) ∧ l.length ≤ 90000000 ∧ Upd (fun _ => False) w w' := by
  have AB := radAbove_any w base xb L E h.tree (by have := hR.len; omega) key hk
  obtain ⟨sk, hsk⟩ : ∃ sk, sk = ofL key := ⟨_, rfl⟩
  rw [← hsk] at AB ⊢
  have c0 : w.cell? ⟨pb, 0, none⟩ = some (.pointer (some ⟨xb, 0, none⟩)) := h.blk.cellAt rfl
  have H := Lib.hid h
  have HR := Lib.hid hR
  have AB := Lib.hid AB
  have LEN := hR.len
  have LA0 : (aboveL L key).length ≤ L.length := List.length_filter_le _ _
  have LAM : Hid (∀ m, m ∈ aboveL L key ↔ m ∈ L ∧ m.1 <+: key) := fun m => by unfold aboveL; rw [List.mem_filter, decide_eq_true_eq]
  generalize aboveL L key = LA at *
  clear h hR hsk
  go_enter Tryz.func55, Tryz.ntmps55
  go_wp2_with fail
  refine (AB.out).mono ?_
  rintro e w1 ⟨va, rfl, ha, u1⟩
  obtain ⟨pa, ca, ea, _⟩ := own_slice ha
  subst ea
  have HA := Lib.hid ha
  have U1 := Lib.hid u1
  clear AB ha u1
  go_wp2
  go_loopw [5, 15] (fun out x wr => ∃ (j : Nat) (xs : List Int), x = .int .i64 (j : Int) ∧ j ≤ LA.length ∧ Hid (IntsAt wr w1.heap.size out xs) ∧ xs.length ≤ j * N ∧ Hid (∀ id, id ∈ xs ↔ ∃ m ∈ LA.take j, P m.1 id) ∧ Hid (Upd (fun _ => False) w1 wr)) (fun _ x _ => LA.length - (intOf x).toNat)
  case atStart => exact ⟨0, [], rfl, by omega, World.ownsRow_nil _ _ _ _, by simp, Lib.hid (fun id => by simp), Lib.hid (Upd.refl _ _)⟩
  case round =>
    obtain ⟨j, xs, rfl, hj, XS, hxl, XM, UJ⟩ := hrel
    obtain ⟨px, cx, ex, _⟩ := own_slice XS.out
    subst ex
    have hjN : j * N ≤ 9000 * 9000 := Nat.mul_le_mul (by omega) hN
    by_cases hlt : j < LA.length
    · have q1 : (j : Int) < (LA.length : Int) := by omega
      obtain ⟨g, ep, hg, ck0, ck1⟩ := mark_cells (HA.out.keep UJ.out (fun _ _ h => h)) hlt
      subst ep
      obtain ⟨m, hm⟩ : ∃ m, m = LA[j] := ⟨_, rfl⟩
      rw [← hm] at ck0 ck1
      obtain ⟨hmL, hmk⟩ := (LAM.out m).1 (hm ▸ List.getElem_mem hlt)
      obtain ⟨l0, hr, hrl, hne, hlN, hmem⟩ := HR.out.row m.1 m.2 hmL
      have XM2 : Hid (∀ id, id ∈ xs ++ l0 ↔ ∃ m ∈ LA.take (j + 1), P m.1 id) := fun id => by
        rw [List.mem_append, XM.out, hmem, List.take_succ_eq_append_getElem hlt, ← hm]
        constructor
        · rintro (⟨a, ha, hp⟩ | hp)
          · exact ⟨a, List.mem_append_left _ ha, hp⟩
          · exact ⟨m, by simp, hp⟩
        · rintro ⟨a, ha, hp⟩
          rcases List.mem_append.1 ha with ha | ha
          · exact Or.inl ⟨a, ha, hp⟩
          · rw [List.mem_singleton] at ha; rw [ha] at hp; exact Or.inr hp
      have hjN2 : (xs ++ l0).length ≤ (j + 1) * N := by rw [List.length_append, Nat.add_mul]; omega
      have hxl2 : (xs ++ l0).length = xs.length + l0.length := List.length_append ..
      obtain ⟨sm, hsm⟩ : ∃ sm, sm = ofL m.1 := ⟨_, rfl⟩
      obtain ⟨r, hrr⟩ : ∃ r, r = m.2 := ⟨_, rfl⟩
      rw [← hsm] at ck0
      rw [← hrr] at ck1 hr
      have uN : Upd (fun _ => False) w1 (wr.alloc (.cells #[.string sm, .int .i64 r] 172)).drew := (UJ.out.alloc _).drew
      have HN := H.out.keep0 (U1.out.trans uN (fun _ _ h => h))
      have lk := HN.rowLook r
      obtain ⟨hra, _⟩ := HN.rowAt r
      rw [HN.rget, hr] at lk hra
      simp only [Option.map_some, Option.getD_some] at lk hra
      have d1 : (wr.alloc (.cells #[.string sm, .int .i64 r] 172)).cell? ⟨pb, 1, none⟩ = some (.map (some rm)) := (H.out.keep0 ((U1.out.trans UJ.out (fun _ _ h => h)).alloc _)).blk.cellAt rfl
      have BN := Blk.made wr [.string sm, .int .i64 r] 172
      have e0 := BN.cellAt (i := 0) (v := .string sm) rfl
      have e1 := BN.cellAt (i := 1) (v := .int .i64 r) rfl
      obtain ⟨v2, w2, hap, hi2, hu2⟩ := ints_append (wr.alloc (.cells #[.string sm, .int .i64 r] 172)).drew w1.heap.size base 85 _ (rv r) xs l0 (XS.out.keep (((Upd.refl (fun _ => False) wr).alloc _).drew) (fun _ _ h => h)) hra (by omega) (by have := UJ.out.size; simp; omega)
      have U2 : Hid (Upd (fun _ => False) w1 w2) := uN.trans hu2 (fun b hb e => by have := (ints_block XS.out e).1; omega)
      obtain ⟨p0, c0', e0', _⟩ := own_slice hra
      rw [e0'] at lk hap
      have I2 := Lib.hid hi2
      obtain ⟨p2, c2, e2, _⟩ := own_slice hi2
      subst e2
      have y1 : w2.cell? ⟨pb, 1, none⟩ = some (.map (some rm)) := (H.out.keep0 (U1.out.trans U2.out (fun _ _ h => h))).blk.cellAt rfl
      have y2 : w2.cell? ⟨wr.heap.size, 1, none⟩ = some (.int .i64 r) := (hu2.blk (BN.drew) (fun e => by have := (ints_block XS.out e).2.1; omega)).cellAt rfl
      clear hsm hrr hm hmL hmk hr hrl hne hmem HN hra hi2 hu2 uN BN e0' hlt
      have HJN2 := Lib.hid hjN2
      clear hxl2 hjN2
      generalize (xs ++ l0).length = n2 at I2 hap ⊢
      generalize hnl : LA.length = nl at *
      generalize xs.length = nx' at *
      go_wp2
      go_region_held3 (fun w' => w'.cell? ⟨pb, 1, none⟩ = some (.map (some rm)) ∧ w'.cell? ⟨wr.heap.size, 1, none⟩ = some (.int .i64 r)) (go_keep) (first
        | (refine step_builtin rfl _ _ 85 rfl _ _ rfl rfl hap ?_))
      go_wp2
      go_roundw
      case rel => exact ⟨j + 1, xs ++ l0, by simp, by omega, I2, HJN2.out, XM2, U2⟩
      case measure => simp [intOf]; omega
    · have q1 : ¬ (j : Int) < (LA.length : Int) := by omega
      have hjl : j = LA.length := by omega
      subst hjl
      have XF : Hid (∀ id, id ∈ xs ↔ ∃ t, t <+: key ∧ P t id) := fun id => by
        rw [XM.out, List.take_length]
        constructor
        · rintro ⟨m, hm, hp⟩; exact ⟨m.1, ((LAM.out m).1 hm).2, hp⟩
        · rintro ⟨t, ht, hp⟩
          obtain ⟨n, hn⟩ := HR.out.key t id hp
          exact ⟨(t, n), (LAM.out _).2 ⟨hn, ht⟩, hp⟩
      have SO := Lib.hid (sorti_any w1.heap.size _ xs wr XS.out (by omega))
      have hO : Hid (∀ b, (Value.slice px xs.length cx).ownBlock = some b → w1.heap.size ≤ b) := fun b hb => (ints_block XS.out hb).1
      have hml : (xs.mergeSort fun x y => decide (x ≤ y)).length = xs.length := List.length_mergeSort _
      generalize hnl : LA.length = nl at *
      go_wp2_with fail
      refine (SO.out).mono ?_
      rintro e w4 ⟨rfl, i4, u4⟩
      have U4 : Hid (Upd (fun _ => False) w1 w4) := UJ.out.trans u4 (fun b hb e => by have := hO.out b e; omega)
      have CO := Lib.hid (compacti_any w1.heap.size _ _ w4 i4 (by omega))
      clear u4 SO
      go_wp2_with fail
      refine (CO.out).mono ?_
      rintro e w5 ⟨v5, rfl, i5, u5⟩
      have U5 : Hid (Upd (fun _ => False) w1 w5) := U4.out.trans u5 (fun b hb e => by have := hO.out b e; omega)
      have I5 := Lib.hid i5
      obtain ⟨p5, c5, e5, _⟩ := own_slice i5
      subst e5
      clear u5 i5 i4 CO
      obtain ⟨s1, s2⟩ := sort_rising xs
      have S1 := Lib.hid s1
      have S2 := Lib.hid s2
      clear s1 s2
      have HLC : Hid ((Lib.compact (xs.mergeSort fun x y => decide (x ≤ y))).length ≤ 90000000) := by
        have := Lib.compact_length_le (xs.mergeSort fun x y => decide (x ≤ y))
        show _ ≤ _
        omega
      generalize Lib.compact (xs.mergeSort fun x y => decide (x ≤ y)) = ls at *
      go_wp2
      go_ret
      exact ⟨_, ls, rfl, own_mono I5.out U1.out.size, S1.out, fun id => (S2.out id).trans (XF.out id), HLC.out, U1.out.trans U5.out (fun _ _ h => h)⟩
theorem pmatch_raw {base pb xb rm om : Nat} {lab : Nat → Lb} {L : List MarkP} {E : Nat → Prop} {nx : Int} {R : List (Int × Value)} {rv : Int → Value} {ri : Int → Option (List Int)} {Q : List (Int × Value)} {qv : Int → Value} {qi : Int → Option (List Txt)}
    {P : Txt → Int → Prop} {N : Nat} (key : Txt) (w : World) (h : PRaw w base pb xb rm om lab L E nx R rv ri Q qv qi) (hR : RowsOk P N L ri nx) (hN : N ≤ 9000) (hk : key.length ≤ 1000000) :
    Calls Tryz.prog 55 #[.pointer (some ⟨pb, 0, none⟩), .string (ofL key)] w fun e w' => ∃ v l, e = .returned v ∧ IntsAt w' w.heap.size v l ∧ Rising l ∧ (∀ id, id ∈ l ↔ ∃ t, t <+: key ∧ P t id) ∧ Upd (fun _ => False) w w' :=
  (pmatch_rawL key w h hR hN hk).mono fun e w' ⟨v, l, h1, h2, h3, h4, _, h5⟩ => ⟨v, l, h1, h2, h3, h4, h5⟩
set_option maxHeartbeats 4000000 in
set_option maxRecDepth 100000 in
theorem pof_raw {base pb xb rm om : Nat} {lab : Nat → Lb} {L : List MarkP} {E : Nat → Prop} {nx : Int} {R : List (Int × Value)} {rv : Int → Value} {ri : Int → Option (List Int)} {Q : List (Int × Value)} {qv : Int → Value} {qi : Int → Option (List Txt)}
    {P : Txt → Int → Prop} {N : Nat} (id : Int) (w : World) (h : PRaw w base pb xb rm om lab L E nx R rv ri Q qv qi) (hO : OfOk P N qi) (hN : N ≤ 100000) :
    Calls Tryz.prog 76 #[.pointer (some ⟨pb, 0, none⟩), .int .i64 id] w fun e w' => ∃ v l, e = .returned v ∧ TxtsAt w' w.heap.size v l ∧ Rising l ∧ (∀ t, t ∈ l ↔ P t id) ∧ Upd (fun _ => False) w w' := by
  have c3 : w.cell? ⟨pb, 3, none⟩ = some (.map (some om)) := h.blk.cellAt rfl
  have lc := h.clLook id
  obtain ⟨hca, _⟩ := h.clAt id
  obtain ⟨hor, hol, hom⟩ := hO.at_ id
  have CL := cloneT_any base _ _ w hca (by omega)
  obtain ⟨p, c, ec, _⟩ := own_slice hca
  rw [ec] at lc CL
  have CL := Lib.hid CL
  have HOR := Lib.hid hor
  have HOM := Lib.hid hom
  generalize (qi id).getD [] = l at *
  clear h hO hca hol hor hom ec
  go_enter Tryz.func76, Tryz.ntmps76
  go_wp2_with fail
  refine (CL.out).mono ?_
  rintro e w1 ⟨v, rfl, t1, u1⟩
  have T1 := Lib.hid t1
  have U1 := Lib.hid u1
  obtain ⟨p5, c5, e5, _⟩ := own_slice t1
  subst e5
  clear CL t1 u1
  go_wp2
  go_ret
  exact ⟨_, l, rfl, T1.out, HOR.out, HOM.out, U1.out⟩
end Go.Proofs.YtmlojbfcmebboaaGreat
/- Prefixes whole: New, Add, Drop, Match, Of over PAt; the chapter's example. -/
set_option linter.unusedVariables false
set_option linter.unusedSimpArgs false
set_option linter.unusedSectionVars false
namespace Go.Proofs.YtmlojbfcmebboaaGreat
open Go.RowKit

section
variable {w : World} {base pb : Nat} {P : Txt → Int → Prop} {N : Nat} {F : Nat → Prop}
theorem padd_any (h : PAt w base pb P N F) (s : Txt) (id : Int) (hN : N ≤ 9000) (hs : s.length ≤ 9223372036854775807) :
    Calls Tryz.prog 47 #[.pointer (some ⟨pb, 0, none⟩), .string (ofL s), .int .i64 id] w fun e w' => ((e = .returned (.bool false) ∧ P s id) ∨ (e = .returned (.bool true) ∧ ¬ P s id)) ∧
      ∃ F', PAt w' base pb (fun t i => P t i ∨ t = s ∧ i = id) (N + 1) F' ∧ Upd F w w' ∧ ∀ b, F' b → F b ∨ w.heap.size ≤ b := by
  obtain ⟨xb, rm, om, lab, L, E, nx, R, rv, ri, Q, qv, qi, h1, h2, h3, rfl⟩ := h
  exact padd_raw s id w h1 h2 h3 hN hs
theorem pdrop_any (h : PAt w base pb P N F) (id : Int) (hN : N ≤ 9000) :
    Calls Tryz.prog 46 #[.pointer (some ⟨pb, 0, none⟩), .int .i64 id] w fun e w' => ∃ l : List Txt, e = .returned (.int .i64 (l.length : Int)) ∧ Rising l ∧ (∀ t, t ∈ l ↔ P t id) ∧
      ∃ F', PAt w' base pb (fun t i => P t i ∧ i ≠ id) N F' ∧ Upd F w w' ∧ ∀ b, F' b → F b ∨ w.heap.size ≤ b := by
  obtain ⟨xb, rm, om, lab, L, E, nx, R, rv, ri, Q, qv, qi, h1, h2, h3, rfl⟩ := h
  exact pdrop_raw id w h1 h2 h3 hN
theorem pmatch_any (h : PAt w base pb P N F) (key : Txt) (hN : N ≤ 9000) (hk : key.length ≤ 1000000) :
    Calls Tryz.prog 55 #[.pointer (some ⟨pb, 0, none⟩), .string (ofL key)] w fun e w' => ∃ v l, e = .returned v ∧ IntsAt w' w.heap.size v l ∧ Rising l ∧ (∀ id, id ∈ l ↔ ∃ t, t <+: key ∧ P t id) ∧ Upd (fun _ => False) w w' := by
  obtain ⟨xb, rm, om, lab, L, E, nx, R, rv, ri, Q, qv, qi, h1, h2, h3, rfl⟩ := h
  exact pmatch_raw key w h1 h2 hN hk
theorem pmatch_anyL (h : PAt w base pb P N F) (key : Txt) (hN : N ≤ 9000) (hk : key.length ≤ 1000000) :
    Calls Tryz.prog 55 #[.pointer (some ⟨pb, 0, none⟩), .string (ofL key)] w fun e w' => ∃ v l, e = .returned v ∧ IntsAt w' w.heap.size v l ∧ Rising l ∧ (∀ id, id ∈ l ↔ ∃ t, t <+: key ∧ P t id) ∧ l.length ≤ 90000000 ∧ Upd (fun _ => False) w w' := by
  obtain ⟨xb, rm, om, lab, L, E, nx, R, rv, ri, Q, qv, qi, h1, h2, h3, rfl⟩ := h
  exact pmatch_rawL key w h1 h2 hN hk
theorem pof_any (h : PAt w base pb P N F) (id : Int) (hN : N ≤ 9000) :
    Calls Tryz.prog 76 #[.pointer (some ⟨pb, 0, none⟩), .int .i64 id] w fun e w' => ∃ v l, e = .returned v ∧ TxtsAt w' w.heap.size v l ∧ Rising l ∧ (∀ t, t ∈ l ↔ P t id) ∧ Upd (fun _ => False) w w' := by
  obtain ⟨xb, rm, om, lab, L, E, nx, R, rv, ri, Q, qv, qi, h1, h2, h3, rfl⟩ := h
  exact pof_raw id w h1 h3 (by omega)
/-- The marks' keys are the beginnings. -/
def KeysOf (P : Txt → Int → Prop) (L : List MarkP) : Prop := (L.Pairwise fun a b => a.1 < b.1) ∧ ∀ t, (∃ n, (t, n) ∈ L) ↔ ∃ id, P t id
theorem PAt.tree (h : PAt w base pb P N F) : ∃ xb L E, w.cell? ⟨pb, 0, none⟩ = some (.pointer (some ⟨xb, 0, none⟩)) ∧ TreeAt w base xb L E ∧ L.length ≤ N ∧ KeysOf P L := by
  obtain ⟨xb, rm, om, lab, L, E, nx, R, rv, ri, Q, qv, qi, h1, h2, h3, rfl⟩ := h
  refine ⟨xb, L, E, h1.blk.cellAt rfl, h1.tree, h2.len, h2.rise, fun t => ⟨fun ⟨n, hn⟩ => ?_, fun ⟨id, hp⟩ => h2.key t id hp⟩⟩
  obtain ⟨l, _, _, hne, _, hm⟩ := h2.row t n hn
  cases l with
  | nil => exact absurd rfl hne
  | cons x l => exact ⟨x, (hm x).1 (by simp)⟩
theorem KeysOf.len {L M : List MarkP} (h1 : KeysOf P L) (h2 : KeysOf P M) : L.map (·.1) = M.map (·.1) := by
  refine rising_ext (List.pairwise_map.2 h1.1) (List.pairwise_map.2 h2.1) (fun t => ?_)
  have e : ∀ K : List MarkP, t ∈ K.map (·.1) ↔ ∃ n, (t, n) ∈ K := fun K => by
    rw [List.mem_map]
    exact ⟨fun ⟨m, hm, e⟩ => ⟨m.2, by rw [← e]; exact hm⟩, fun ⟨n, hn⟩ => ⟨(t, n), hn, rfl⟩⟩
  rw [e, e, h1.2, h2.2]
theorem KeysOf.nodes {L M : List MarkP} (e : L.map (·.1) = M.map (·.1)) {n : Nat} (h : NodesN L n) : NodesN M n := by
  have e1 : ∀ t, (∃ a ∈ L, a.1 = t) ↔ ∃ a ∈ M, a.1 = t := fun t => by
    have : ∀ K : List MarkP, (∃ a ∈ K, a.1 = t) ↔ t ∈ K.map (·.1) := fun K => by rw [List.mem_map]
    rw [this, this, e]
  obtain ⟨l, a, b, c⟩ := h
  refine ⟨l, a, b, fun t => ?_⟩
  rw [c]
  refine or_congr Iff.rfl (or_congr (e1 t) ⟨?_, ?_⟩)
  · rintro ⟨a, ha, b, hb, e⟩
    obtain ⟨a', ha', ea⟩ := (e1 a.1).1 ⟨a, ha, rfl⟩
    obtain ⟨b', hb', eb⟩ := (e1 b.1).1 ⟨b, hb, rfl⟩
    exact ⟨a', ha', b', hb', by rw [ea, eb]; exact e⟩
  · rintro ⟨a, ha, b, hb, e⟩
    obtain ⟨a', ha', ea⟩ := (e1 a.1).2 ⟨a, ha, rfl⟩
    obtain ⟨b', hb', eb⟩ := (e1 b.1).2 ⟨b, hb, rfl⟩
    exact ⟨a', ha', b', hb', by rw [ea, eb]; exact e⟩
end
open Classical in
noncomputable def lab0 (E : Nat → Prop) (n : Nat) : Nat → Lb := fun b => if b = n then .rm else if b = n + 1 then .om else if b = n + 2 then .blk else if E b then .tree else .no
open Classical in
theorem pnew_at {w w1 : World} {base xb : Nat} {E : Nat → Prop} (hb : base ≤ w.heap.size) (t : TreeAt w1 base xb [] E) (hs : w.heap.size ≤ w1.heap.size) (f : ∀ k, E k → w.heap.size ≤ k) :
    PAt (((w1.alloc (.map #[] 0)).alloc (.map #[] 0)).alloc (.cells #[.pointer (some ⟨xb, 0, none⟩), .map (some w1.heap.size), .int .i64 0, .map (some (w1.heap.size + 1))] 148)) base (w1.heap.size + 2) (fun _ _ => False) 0 (fun b => lab0 E w1.heap.size b ≠ .no) ∧
    ∀ b, lab0 E w1.heap.size b ≠ .no → w.heap.size ≤ b := by
  have ua : Upd (fun _ => False) w1 (w1.alloc (.map #[] 0)) := (Upd.refl _ _).alloc _
  have ub := ua.alloc (.map #[] 0)
  have uc := ub.alloc (.cells #[.pointer (some ⟨xb, 0, none⟩), .map (some w1.heap.size), .int .i64 0, .map (some (w1.heap.size + 1))] 148)
  have hE : ∀ b, E b → b < w1.heap.size := fun b hb => (t.ge hb).2
  have m1 : MapAt intEnc (w1.alloc (.map #[] 0)) w1.heap.size [] := MapAt.made w1
  have m2 : MapAt intEnc ((w1.alloc (.map #[] 0)).alloc (.map #[] 0)) (w1.heap.size + 1) [] := by
    have := MapAt.made (enc := intEnc) (w1.alloc (.map #[] 0))
    rw [World.size_alloc] at this; exact this
  have bk : Blk (((w1.alloc (.map #[] 0)).alloc (.map #[] 0)).alloc (.cells #[.pointer (some ⟨xb, 0, none⟩), .map (some w1.heap.size), .int .i64 0, .map (some (w1.heap.size + 1))] 148)) (w1.heap.size + 2) [ptr xb, .map (some w1.heap.size), .int .i64 0, .map (some (w1.heap.size + 1))] 148 := by
    have := Blk.made ((w1.alloc (.map #[] 0)).alloc (.map #[] 0)) [.pointer (some ⟨xb, 0, none⟩), .map (some w1.heap.size), .int .i64 0, .map (some (w1.heap.size + 1))] 148
    rw [World.size_alloc, World.size_alloc] at this; exact this
  have hlab : ∀ b, lab0 E w1.heap.size b ≠ .no → w.heap.size ≤ b ∧ b < w1.heap.size + 3 := fun b hb => by
    unfold lab0 at hb
    split at hb
    · omega
    · split at hb
      · omega
      · split at hb
        · omega
        · split at hb
          · rename_i h; have := hE b h; have := f b h; omega
          · exact absurd rfl hb
  refine ⟨⟨xb, w1.heap.size, w1.heap.size + 1, lab0 E w1.heap.size, [], E, 0, [], fun _ => .slice none 0 0, fun _ => none, [], fun _ => .slice none 0 0, fun _ => none, ?_, ?_, ?_, rfl⟩, fun b hb => (hlab b hb).1⟩
  · refine ⟨bk, ?_, t.keep0 uc, fun b hb => ?_, (m1.keep ((Upd.refl (fun _ => False) _).alloc _) (fun h => h)).keep ((Upd.refl (fun _ => False) _).alloc _) (fun h => h), ?_, List.nodup_nil, fun n => rfl, fun n l h => (by cases h), m2.keep ((Upd.refl (fun _ => False) _).alloc _) (fun h => h), ?_, List.nodup_nil, fun n => rfl, fun n l h => (by cases h), fun b hb => ⟨Nat.le_trans (by omega) (hlab b hb).1, ?_⟩, Nat.le_trans (by omega) uc.size⟩
    · unfold lab0; rw [if_neg (by omega), if_neg (by omega), if_pos rfl]
    · have := hE b hb
      unfold lab0; rw [if_neg (by omega), if_neg (by omega), if_neg (by omega), if_pos hb]
    · unfold lab0; rw [if_pos rfl]
    · unfold lab0; rw [if_neg (by omega), if_pos rfl]
    · have := (hlab b hb).2; simp; omega
  · exact ⟨List.Pairwise.nil, fun t id h => h.elim, fun t n h => (by simp at h), fun t t' n h => (by simp at h), fun n l h => (by cases h), fun t n h => (by simp at h), ⟨Int.le_refl _, Int.le_refl _⟩, Nat.le_refl _, fun t n h => by simp at h⟩
  · exact ⟨fun id l h => (by cases h), fun id _ t h => h⟩
set_option maxHeartbeats 4000000 in
set_option maxRecDepth 100000 in
theorem pnew_any (w : World) (base : Nat) (hb : base ≤ w.heap.size) :
    Calls Tryz.prog 43 #[] w fun e w' => ∃ pb F, e = .returned (.pointer (some ⟨pb, 0, none⟩)) ∧ PAt w' base pb (fun _ _ => False) 0 F ∧ Upd (fun _ => False) w w' ∧ ∀ b, F b → w.heap.size ≤ b := by
  have NW := Lib.hid (radNew_any w base hb)
  go_enter Tryz.func43, Tryz.ntmps43
  go_wp2_with fail
  refine (NW.out).mono ?_
  rintro e w1 ⟨xb, E, rfl, t1, u1, f1⟩
  have T1 := Lib.hid t1
  have U1 := Lib.hid u1
  have F1 := Lib.hid f1
  have mk := run_makeMap (P := Tryz.prog) 145 w1
  have mk2 := run_makeMap (P := Tryz.prog) 146 (w1.alloc (.map #[] 0))
  clear NW t1 u1 f1
  go_wp2
  go_ret
  have ua : Upd (fun _ => False) w1 (w1.alloc (.map #[] 0)) := (Upd.refl _ _).alloc _
  have ub := ua.alloc (.map #[] 0)
  have uc := ub.alloc (.cells #[.pointer (some ⟨xb, 0, none⟩), .map (some w1.heap.size), .int .i64 0, .map (some (w1.heap.size + 1))] 148)
  have us := U1.out.size
  obtain ⟨p1, p2⟩ := pnew_at hb T1.out us F1.out
  exact ⟨_, _, rfl, p1, U1.out.trans uc (fun _ _ h => h), p2⟩
end Go.Proofs.YtmlojbfcmebboaaGreat
/- Prefixes beside other things: what they leave alone. -/
set_option linter.unusedVariables false
set_option linter.unusedSimpArgs false
set_option linter.unusedSectionVars false
namespace Go.Proofs.YtmlojbfcmebboaaGreat
open Go.RowKit

/-- At pb lies who is told of what; it takes no block of X, and none below base. -/
structure PSt (wr : World) (base pb : Nat) (X : Nat → Prop) (P : Txt → Int → Prop) (N : Nat) : Prop where
  ex : ∃ F, PAt wr base pb P N F ∧ ∀ b, F b → ¬ X b
  xlt : ∀ b, X b → b < wr.heap.size
  bl : base ≤ wr.heap.size
abbrev Fr (base : Nat) (X : Nat → Prop) : Nat → Prop := fun b => base ≤ b ∧ ¬ X b
section
variable {wr w' : World} {base pb : Nat} {X Y : Nat → Prop} {P Q : Txt → Int → Prop} {N : Nat}
theorem PSt.keep0 (h : PSt wr base pb X P N) (u : Upd (fun _ => False) wr w') : PSt w' base pb X P N := by
  obtain ⟨F, h1, h2⟩ := h.ex
  exact ⟨⟨F, h1.keep u (fun _ _ h => h), h2⟩, fun b hb => Nat.lt_of_lt_of_le (h.xlt b hb) u.size, Nat.le_trans h.bl u.size⟩
/-- What writes in X alone. -/
theorem PSt.keepX (h : PSt wr base pb X P N) (u : Upd X wr w') : PSt w' base pb X P N := by
  obtain ⟨F, h1, h2⟩ := h.ex
  exact ⟨⟨F, h1.keep u (fun b hb hx => h2 b hb hx), h2⟩, fun b hb => Nat.lt_of_lt_of_le (h.xlt b hb) u.size, Nat.le_trans h.bl u.size⟩
theorem PSt.less (h : PSt wr base pb X P N) (hY : ∀ b, Y b → X b) : PSt wr base pb Y P N := by
  obtain ⟨F, h1, h2⟩ := h.ex
  exact ⟨⟨F, h1, fun b hb hy => h2 b hb (hY b hy)⟩, fun b hb => h.xlt b (hY b hb), h.bl⟩
theorem PSt.congr (h : PSt wr base pb X P N) (e : ∀ t i, P t i ↔ Q t i) : PSt wr base pb X Q N := by
  obtain ⟨F, h1, h2⟩ := h.ex; exact ⟨⟨F, h1.congr e, h2⟩, h.xlt, h.bl⟩
theorem PSt.more (h : PSt wr base pb X P N) {M : Nat} (hm : N ≤ M) : PSt wr base pb X P M := by
  obtain ⟨F, h1, h2⟩ := h.ex; exact ⟨⟨F, h1.more hm, h2⟩, h.xlt, h.bl⟩
/-- Blocks that came since are nobody's. -/
theorem PSt.also (h : PSt wr base pb X P N) (u : Upd (fun _ => False) wr w') (hY : ∀ b, Y b → X b ∨ (wr.heap.size ≤ b ∧ b < w'.heap.size)) : PSt w' base pb Y P N := by
  obtain ⟨F, h1, h2⟩ := h.ex
  refine ⟨⟨F, h1.keep u (fun _ _ h => h), fun b hb hy => ?_⟩, fun b hb => ?_, Nat.le_trans h.bl u.size⟩
  · rcases hY b hy with g | g
    · exact h2 b hb g
    · have := (h1.lt b hb).2; omega
  · rcases hY b hb with g | g
    · exact Nat.lt_of_lt_of_le (h.xlt b g) u.size
    · exact g.2
theorem PSt.add (h : PSt wr base pb X P N) (s : Txt) (id : Int) (hN : N ≤ 9000) (hs : s.length ≤ 9223372036854775807) :
    Calls Tryz.prog 47 #[.pointer (some ⟨pb, 0, none⟩), .string (ofL s), .int .i64 id] wr fun e w' => ((e = .returned (.bool false) ∧ P s id) ∨ (e = .returned (.bool true) ∧ ¬ P s id)) ∧
      PSt w' base pb X (fun t i => P t i ∨ t = s ∧ i = id) (N + 1) ∧ Upd (Fr base X) wr w' := by
  obtain ⟨F, h1, h2⟩ := h.ex
  refine (padd_any h1 s id hN hs).mono ?_
  rintro e w' ⟨he, F', h3, u, f⟩
  exact ⟨he, ⟨⟨F', h3, fun b hb hx => (f b hb).elim (fun g => h2 b g hx) (fun g => by have := h.xlt b hx; omega)⟩, fun b hb => Nat.lt_of_lt_of_le (h.xlt b hb) u.size, Nat.le_trans h.bl u.size⟩, u.weaken (fun b _ hb => ⟨(h1.lt b hb).1, h2 b hb⟩)⟩
theorem PSt.drop (h : PSt wr base pb X P N) (id : Int) (hN : N ≤ 9000) :
    Calls Tryz.prog 46 #[.pointer (some ⟨pb, 0, none⟩), .int .i64 id] wr fun e w' => ∃ l : List Txt, e = .returned (.int .i64 (l.length : Int)) ∧ Rising l ∧ (∀ t, t ∈ l ↔ P t id) ∧
      PSt w' base pb X (fun t i => P t i ∧ i ≠ id) N ∧ Upd (Fr base X) wr w' := by
  obtain ⟨F, h1, h2⟩ := h.ex
  refine (pdrop_any h1 id hN).mono ?_
  rintro e w' ⟨l, he, hr, hm, F', h3, u, f⟩
  exact ⟨l, he, hr, hm, ⟨⟨F', h3, fun b hb hx => (f b hb).elim (fun g => h2 b g hx) (fun g => by have := h.xlt b hx; omega)⟩, fun b hb => Nat.lt_of_lt_of_le (h.xlt b hb) u.size, Nat.le_trans h.bl u.size⟩, u.weaken (fun b _ hb => ⟨(h1.lt b hb).1, h2 b hb⟩)⟩
theorem PSt.match_ (h : PSt wr base pb X P N) (key : Txt) (hN : N ≤ 9000) (hk : key.length ≤ 1000000) :
    Calls Tryz.prog 55 #[.pointer (some ⟨pb, 0, none⟩), .string (ofL key)] wr fun e w' => ∃ v l, e = .returned v ∧ IntsAt w' wr.heap.size v l ∧ Rising l ∧ (∀ id, id ∈ l ↔ ∃ t, t <+: key ∧ P t id) ∧ Upd (fun _ => False) wr w' := by
  obtain ⟨F, h1, h2⟩ := h.ex
  exact pmatch_any h1 key hN hk
theorem PSt.of (h : PSt wr base pb X P N) (id : Int) (hN : N ≤ 9000) :
    Calls Tryz.prog 76 #[.pointer (some ⟨pb, 0, none⟩), .int .i64 id] wr fun e w' => ∃ v l, e = .returned v ∧ TxtsAt w' wr.heap.size v l ∧ Rising l ∧ (∀ t, t ∈ l ↔ P t id) ∧ Upd (fun _ => False) wr w' := by
  obtain ⟨F, h1, h2⟩ := h.ex
  exact pof_any h1 id hN
theorem PSt.tree (h : PSt wr base pb X P N) : ∃ xb L E, wr.cell? ⟨pb, 0, none⟩ = some (.pointer (some ⟨xb, 0, none⟩)) ∧ TreeAt wr base xb L E ∧ L.length ≤ N ∧ KeysOf P L := by
  obtain ⟨F, h1, h2⟩ := h.ex
  exact h1.tree
end
/-- A number of a row of numbers. -/
theorem ints_get {w : World} {base : Nat} {p : Option Addr} {c : Nat} {l : List Int} (h : IntsAt w base (.slice p l.length c) l) {k : Nat} (hk : k < l.length) :
    ∃ g, p = some ⟨g, 0, none⟩ ∧ g < w.heap.size ∧ w.cell? ⟨g, k, none⟩ = some (.int .i64 l[k]) := by
  rcases ints_blk h with ⟨_, e0⟩ | ⟨g, cap, cs, ev, hg, hB, hc, hm⟩
  · rw [e0] at hk; simp at hk
  · refine ⟨g, by injection ev, hB.lt, hB.cellAt ?_⟩
    rw [List.getElem?_append_left (by simpa using hk), List.getElem?_map, List.getElem?_eq_getElem hk]; rfl
end Go.Proofs.YtmlojbfcmebboaaGreat
/- A ring of links, plain: keys between the one ahead and the next. -/
set_option linter.unusedVariables false
set_option linter.unusedSimpArgs false
namespace Ring

structure Lk where
  key : ByteArray
  ahead : Nat
  next : Nat
def setNext (G : Nat → Lk) (x y : Nat) : Nat → Lk := fun b => if b = x then { G b with next := y } else G b
def setAhead (G : Nat → Lk) (x y : Nat) : Nat → Lk := fun b => if b = x then { G b with ahead := y } else G b
@[simp] theorem setNext_key (G : Nat → Lk) (x y b : Nat) : (setNext G x y b).key = (G b).key := by unfold setNext; split <;> rfl
@[simp] theorem setAhead_key (G : Nat → Lk) (x y b : Nat) : (setAhead G x y b).key = (G b).key := by unfold setAhead; split <;> rfl
@[simp] theorem setNext_ahead (G : Nat → Lk) (x y b : Nat) : (setNext G x y b).ahead = (G b).ahead := by unfold setNext; split <;> rfl
@[simp] theorem setAhead_next (G : Nat → Lk) (x y b : Nat) : (setAhead G x y b).next = (G b).next := by unfold setAhead; split <;> rfl
theorem setNext_next (G : Nat → Lk) (x y b : Nat) : (setNext G x y b).next = if b = x then y else (G b).next := by unfold setNext; split <;> rfl
theorem setAhead_ahead (G : Nat → Lk) (x y b : Nat) : (setAhead G x y b).ahead = if b = x then y else (G b).ahead := by unfold setAhead; split <;> rfl

/-- From x over the blocks of l to z, each next to the one ahead of it. -/
def chain (G : Nat → Lk) (x : Nat) : List Nat → Nat → Prop
  | [], z => (G x).next = z ∧ (G z).ahead = x
  | b :: r, z => (G x).next = b ∧ (G b).ahead = x ∧ chain G b r z
theorem chain_app {G : Nat → Lk} {x z b : Nat} {l r : List Nat} : chain G x (l ++ b :: r) z ↔ chain G x l b ∧ chain G b r z := by
  induction l generalizing x with
  | nil => simp only [List.nil_append, chain]; constructor
           · rintro ⟨h1, h2, h3⟩; exact ⟨⟨h1, h2⟩, h3⟩
           · rintro ⟨⟨h1, h2⟩, h3⟩; exact ⟨h1, h2, h3⟩
  | cons c l ih => simp only [List.cons_append, chain, ih]; constructor
                   · rintro ⟨h1, h2, h3, h4⟩; exact ⟨⟨h1, h2, h3⟩, h4⟩
                   · rintro ⟨⟨h1, h2, h3⟩, h4⟩; exact ⟨h1, h2, h3, h4⟩
/-- What is first, what is last. -/
def first (l : List Nat) (z : Nat) : Nat := l.headD z
def last (x : Nat) (l : List Nat) : Nat := l.getLastD x
theorem chain_next {G : Nat → Lk} {x z : Nat} {l : List Nat} (h : chain G x l z) : (G x).next = first l z := by
  cases l with
  | nil => exact h.1
  | cons b r => exact h.1
theorem chain_ahead {G : Nat → Lk} {x z : Nat} {l : List Nat} (h : chain G x l z) : (G z).ahead = last x l := by
  induction l generalizing x with
  | nil => exact h.2
  | cons b r ih =>
    rw [ih h.2.2]
    cases r <;> rfl
theorem chain_congr {G H : Nat → Lk} {x z : Nat} {l : List Nat} (h : chain G x l z) (hx : (H x).next = (G x).next) (hz : (H z).ahead = (G z).ahead) (hl : ∀ b ∈ l, (H b).next = (G b).next ∧ (H b).ahead = (G b).ahead) : chain H x l z := by
  induction l generalizing x with
  | nil => exact ⟨hx.trans h.1, hz.trans h.2⟩
  | cons b r ih =>
    have := hl b (by simp)
    exact ⟨hx.trans h.1, this.2.trans h.2.1, ih h.2.2 this.1 (fun c hc => hl c (by simp [hc]))⟩
/-- The end of a chain is turned to another block. -/
theorem chain_end {G : Nat → Lk} {x z z' : Nat} {l : List Nat} (h : chain G x l z) (hn : (x :: l).Nodup) (hz : z' ∉ l) :
    chain (setAhead (setNext G (last x l) z') z' (last x l)) x l z' := by
  induction l generalizing x with
  | nil => simp [chain, last, setNext_next, setAhead_ahead]
  | cons b r ih =>
    simp only [List.mem_cons, not_or] at hz
    have hn2 : (b :: r).Nodup := (List.nodup_cons.1 hn).2
    have hl : last x (b :: r) = last b r := by cases r <;> rfl
    have hin : last b r ∈ b :: r := by
      unfold last; rw [List.getLastD_eq_getLast?]
      cases hr : r.getLast? with
      | none => simp
      | some c => simp [List.mem_of_getLast? hr]
    have hne : x ≠ last b r := fun e => (List.nodup_cons.1 hn).1 (by rw [e]; exact hin)
    rw [hl]
    refine ⟨?_, ?_, ih h.2.2 hn2 hz.2⟩
    · simp only [setAhead_next, setNext_next, if_neg hne]; exact h.1
    · simp only [setAhead_ahead, setNext_ahead, if_neg (Ne.symm hz.1)]; exact h.2.1
theorem last_app (x b : Nat) (l r : List Nat) : last x (l ++ b :: r) = last b r := by
  unfold last; rw [List.getLastD_eq_getLast?, List.getLastD_eq_getLast?]; simp [List.getLast?_append, List.getLast?_cons]
theorem last_mem (x : Nat) (l : List Nat) : last x l ∈ x :: l := by
  unfold last; rw [List.getLastD_eq_getLast?]
  cases hr : l.getLast? with
  | none => simp
  | some c => simp [List.mem_of_getLast? hr]
theorem first_mem (z : Nat) (l : List Nat) : first l z ∈ z :: l := by
  unfold first; cases l <;> simp
/-- a link leaves the ring -/
theorem chain_out0 {G : Nat → Lk} {a b : Nat} {l r : List Nat} (h : chain G a (l ++ b :: r) a) (hn : (a :: (l ++ b :: r)).Nodup) :
    chain (setAhead (setNext G (G b).ahead (G b).next) (G b).next (G b).ahead) a (l ++ r) a := by
  obtain ⟨h1, h2⟩ := chain_app.1 h
  rw [chain_ahead h1, chain_next h2]
  have hn1 : (a :: l).Nodup := by
    have := hn.sublist (l₁ := a :: l) (by simp)
    exact this
  cases r with
  | nil =>
    rw [List.append_nil]
    exact chain_end h1 hn1 (fun hm => (List.nodup_cons.1 hn).1 (List.mem_append_left _ hm))
  | cons c r =>
    have hcl : c ∉ l := fun hm => by
      have := (List.nodup_append.1 (List.nodup_cons.1 hn).2).2.2 c hm c (by simp)
      exact this rfl
    rw [chain_app]
    refine ⟨chain_end h1 hn1 hcl, ?_⟩
    have h3 := h2.2.2
    have hcr : c ∉ r := fun hm => by
      have := (List.nodup_append.1 (List.nodup_cons.1 hn).2).2.1
      simp only [List.nodup_cons, List.mem_cons, not_or] at this
      exact this.2.1 hm
    have hlr : ∀ x ∈ c :: r, last a l ≠ x := fun x hx e => by
      have hm := last_mem a l
      rw [e, List.mem_cons] at hm
      rcases hm with rfl | hm
      · exact (List.nodup_cons.1 hn).1 (List.mem_append_right _ (List.mem_cons_of_mem _ hx))
      · have := (List.nodup_append.1 (List.nodup_cons.1 hn).2).2.2 x hm x (List.mem_cons_of_mem _ hx)
        exact this rfl
    refine chain_congr h3 ?_ ?_ ?_
    · simp only [first, List.headD_cons, setAhead_next, setNext_next, if_neg (Ne.symm (hlr c (by simp)))]
    · have : a ≠ c := fun e => (List.nodup_cons.1 hn).1 (by simp [e])
      simp only [first, List.headD_cons, setAhead_ahead, if_neg this, setNext_ahead]
    · intro x hx
      have h5 := hlr x (by simp [hx])
      have h6 : x ≠ c := fun e => hcr (e ▸ hx)
      simp only [first, List.headD_cons, setAhead_next, setNext_next, if_neg (Ne.symm h5), setAhead_ahead, if_neg h6, setNext_ahead, and_self]
/-- a link is the last one -/
theorem chain_last {G : Nat → Lk} {a b : Nat} {l : List Nat} (h : chain G a l a) (hn : (a :: l).Nodup) (hb : b ∉ a :: l) :
    chain (setAhead (setNext (setNext (setAhead G b (G a).ahead) b a) (G a).ahead b) a b) a (l ++ [b]) a := by
  simp only [List.mem_cons, not_or] at hb
  rw [chain_app, chain_ahead h]
  have hlb : last a l ≠ b := fun e => by
    have := last_mem a l
    rw [e, List.mem_cons] at this
    rcases this with g | g
    · exact hb.1 g
    · exact hb.2 g
  constructor
  · have h1 := chain_end (z' := b) h hn hb.2
    refine chain_congr h1 ?_ ?_ ?_
    · by_cases e : a = last a l
      · simp only [setAhead_next, setNext_next, if_pos e]
      · simp only [setAhead_next, setNext_next, if_neg e, if_neg (Ne.symm hb.1)]
    · simp only [setAhead_ahead, if_neg hb.1, setNext_ahead, if_true]
    · intro x hx
      have e1 : x ≠ b := fun e => hb.2 (e ▸ hx)
      have e2 : x ≠ a := fun e => (List.nodup_cons.1 hn).1 (e ▸ hx)
      simp only [setAhead_next, setNext_next, setAhead_ahead, setNext_ahead, if_neg e1, if_neg e2, and_self]
  · simp only [chain, setAhead_next, setNext_next, setAhead_ahead, if_neg (Ne.symm hlb), if_true, and_self]
theorem chain_out {G : Nat → Lk} {a b : Nat} {l r : List Nat} (h : chain G a (l ++ b :: r) a) (hn : (a :: (l ++ b :: r)).Nodup) :
    (G b).ahead ∈ a :: (l ++ r) ∧ (G b).next ∈ a :: (l ++ r) := by
  obtain ⟨h1, h2⟩ := chain_app.1 h
  rw [chain_ahead h1, chain_next h2]
  constructor
  · have := last_mem a l
    simp only [List.mem_cons, List.mem_append] at this ⊢
    rcases this with h | h
    · exact Or.inl h
    · exact Or.inr (Or.inl h)
  · have := first_mem a r
    simp only [List.mem_cons, List.mem_append] at this ⊢
    rcases this with h | h
    · exact Or.inl h
    · exact Or.inr (Or.inr h)
/-- one more block's link -/
def put (G : Nat → Lk) (b : Nat) (k : ByteArray) (x y : Nat) : Nat → Lk := fun i => if i = b then ⟨k, x, y⟩ else G i
theorem put_at (G : Nat → Lk) (b : Nat) (k : ByteArray) (x y : Nat) : put G b k x y b = ⟨k, x, y⟩ := by unfold put; rw [if_pos rfl]
theorem put_ne (G : Nat → Lk) {b i : Nat} (k : ByteArray) (x y : Nat) (h : i ≠ b) : put G b k x y i = G i := by unfold put; rw [if_neg h]
/-- The ring with the link b as the last one. -/
def withLast (G : Nat → Lk) (a b : Nat) (k : ByteArray) : Nat → Lk := setAhead (setNext (put G b k (G a).ahead a) (G a).ahead b) a b
theorem chain_with {G : Nat → Lk} {a b : Nat} {k : ByteArray} {l : List Nat} (h : chain G a l a) (hn : (a :: l).Nodup) (hb : b ∉ a :: l) : chain (withLast G a b k) a (l ++ [b]) a := by
  have h2 := chain_last h hn hb
  have e : ∀ i, (withLast G a b k i).next = (setAhead (setNext (setNext (setAhead G b (G a).ahead) b a) (G a).ahead b) a b i).next ∧ (withLast G a b k i).ahead = (setAhead (setNext (setNext (setAhead G b (G a).ahead) b a) (G a).ahead b) a b i).ahead := by
    intro i
    unfold withLast
    by_cases hi : i = b
    · subst hi; simp [setAhead_next, setNext_next, setAhead_ahead, put_at]
    · simp [setAhead_next, setNext_next, setAhead_ahead, put_ne G k _ _ hi, hi]
  exact chain_congr h2 (e _).1 (e _).2 (fun b _ => e b)
theorem with_key_at (G : Nat → Lk) (a b : Nat) (k : ByteArray) : (withLast G a b k b).key = k := by unfold withLast; simp [put_at]
theorem with_key (G : Nat → Lk) {a b i : Nat} (k : ByteArray) (h : i ≠ b) : (withLast G a b k i).key = (G i).key := by unfold withLast; simp [put_ne G k _ _ h]
/-- The ring without the link b. -/
def without (G : Nat → Lk) (b : Nat) : Nat → Lk := setAhead (setNext G (G b).ahead (G b).next) (G b).next (G b).ahead
theorem without_key (G : Nat → Lk) (b i : Nat) : (without G b i).key = (G i).key := by unfold without; simp
theorem chain_without {G : Nat → Lk} {a b : Nat} {l r : List Nat} (h : chain G a (l ++ b :: r) a) (hn : (a :: (l ++ b :: r)).Nodup) : chain (without G b) a (l ++ r) a := chain_out0 h hn
end Ring
