/- Walk: ExpiryMoves. -/
import Derived.Test.YtokkhddbdjflhaaLawExpOrd
set_option linter.unusedVariables false
set_option linter.unusedSimpArgs false
namespace Go.Proofs.Ytokkhddbdjflhaa
open Go.RowKit

/-- One of them, made by the call. -/
def One11 (w w' : World) (xa : Nat) (L : List DueP) : Prop := ∃ E, ExpAt w' w.heap.size xa L E ∧ (∀ k, E k → w.heap.size ≤ k) ∧ Upd (fun _ => False) w w'
section
variable {w w1 w' : World} {xa : Nat} {L L' : List DueP}
theorem One11.upd (h : One11 w w1 xa L) : Upd (fun _ => False) w w1 := by obtain ⟨_, _, _, u⟩ := h; exact u
theorem One11.keep0 (h : One11 w w1 xa L) (u : Upd (fun _ => False) w1 w') : One11 w w' xa L := by
  obtain ⟨E, h1, h2, h3⟩ := h
  exact ⟨E, h1.keep u (fun _ _ h => h), h2, h3.trans u (fun _ _ h => h)⟩
theorem One11.to {E : Nat → Prop} (h2 : ∀ k, E k → w.heap.size ≤ k) (h3 : Upd (fun _ => False) w w1) (t : ExpTo w1 w' w.heap.size xa E L') : One11 w w' xa L' := by
  obtain ⟨E3, k1, k2, k3⟩ := t
  refine ⟨E3, k1, fun k a => ?_, h3.trans k2 (fun i hi e => by have := h2 i e; omega)⟩
  rcases k3 k a with g | g
  · exact h2 k g
  · exact Nat.le_trans h3.size g
/-- What an operation leaves as it is: rows of the call's own and pairs. -/
def Stay11 (w w' : World) : Prop := (∀ b cs, Blk w b cs 32 → Blk w' b cs 32) ∧ (∀ b0 x l, DuesAt w b0 x l → DuesAt w' b0 x l) ∧ (∀ b0 x l, StrsAt w b0 x l → StrsAt w' b0 x l)
theorem Stay11.of {base : Nat} {E : Nat → Prop} (h1 : ExpAt w1 base xa L E) (t : ExpTo w1 w' base xa E L') : Stay11 w1 w' := by
  obtain ⟨E3, _, k2, _⟩ := t
  exact ⟨fun b cs hb => k2.blk hb (h1.apartB hb (by decide) (by decide) (by decide)), fun b0 x l hx => DuesAt.keep hx k2 (h1.apart hx (by decide) (by decide) (by decide)), fun b0 x l hx => hx.keep k2 (h1.apart hx (by decide) (by decide) (by decide))⟩
theorem Stay11.ofUpd (u : Upd (fun _ => False) w1 w') : Stay11 w1 w' :=
  ⟨fun b cs hb => u.blk hb (fun h => h), fun b0 x l hx => DuesAt.keep hx u (fun _ _ h => h), fun b0 x l hx => hx.keep u (fun _ _ h => h)⟩
theorem one_put (h : One11 w w1 xa L) (key : ByteArray) (t : Int) (hl : L.length ≤ 10000) :
    Calls Try.prog 10 #[.pointer (some ⟨xa, 0, none⟩), .string key, .int .i64 t] w1 fun e w' => ∃ r : Int, e = .returned (.int .i64 r) ∧ One11 w w' xa (putV L (t, key)) ∧ Stay11 w1 w' := by
  obtain ⟨E, h1, h2, h3⟩ := h
  refine (xputV_any w1 w.heap.size xa L E key t h1 h3.size hl).mono ?_
  rintro e w' ⟨r, rfl, t⟩
  exact ⟨r, rfl, One11.to h2 h3 t, Stay11.of h1 t⟩
theorem one_put0 (h : One11 w w1 xa L) (key : ByteArray) (t : Int) (hl : L.length ≤ 10000) (hv : vld t) :
    Calls Try.prog 10 #[.pointer (some ⟨xa, 0, none⟩), .string key, .int .i64 t] w1 fun e w' => e = .returned (.int .i64 0) ∧ One11 w w' xa (putD key t L) ∧ Stay11 w1 w' := by
  obtain ⟨E, h1, h2, h3⟩ := h
  refine (xput_any w1 w.heap.size xa L E key t h1 h3.size hl hv.1 hv.2).mono ?_
  rintro e w' ⟨rfl, t⟩
  exact ⟨rfl, One11.to h2 h3 t, Stay11.of h1 t⟩
theorem one_drop (h : One11 w w1 xa L) (key : ByteArray) (hl : L.length ≤ 10000) :
    Calls Try.prog 15 #[.pointer (some ⟨xa, 0, none⟩), .string key] w1 fun e w' => ∃ b : Bool, e = .returned (.bool b) ∧ One11 w w' xa (dropD key L) ∧ Stay11 w1 w' := by
  obtain ⟨E, h1, h2, h3⟩ := h
  refine (xdrop_any w1 w.heap.size xa L E key h1 hl).mono ?_
  rintro e w' ⟨rfl, t⟩
  exact ⟨_, rfl, One11.to h2 h3 t, Stay11.of h1 t⟩
theorem one_due (h : One11 w w1 xa L) (now most : Int) (hl : L.length ≤ 10000) :
    Calls Try.prog 13 #[.pointer (some ⟨xa, 0, none⟩), .int .i64 now, .int .i64 most] w1 fun e w' => ∃ v, e = .returned v ∧ StrsAt w' w1.heap.size v (((dueD now L).take most.toNat).map (·.2)) ∧ One11 w w' xa L ∧ Stay11 w1 w' := by
  obtain ⟨E, h1, h2, h3⟩ := h
  refine (xdue_any w1 w.heap.size xa L E now most h1 h3.size hl).mono ?_
  rintro e w' ⟨v, rfl, s, t⟩
  exact ⟨v, rfl, s, One11.to h2 h3 t, Stay11.of h1 t⟩
theorem one_all (h : One11 w w1 xa L) (hl : L.length ≤ 10000) (hs : ∀ d ∈ L, d.2.size ≤ maxLen) :
    Calls Try.prog 11 #[.pointer (some ⟨xa, 0, none⟩)] w1 fun e w' => ∃ v, e = .returned v ∧ DuesAt w' w1.heap.size v L ∧ One11 w w' xa L ∧ Stay11 w1 w' := by
  obtain ⟨E, h1, h2, h3⟩ := id h
  refine (xall_any w1 w.heap.size xa L E h1 hl hs).mono ?_
  rintro e w' ⟨v, rfl, d, u⟩
  exact ⟨v, rfl, d, h.keep0 u, Stay11.ofUpd u⟩
theorem one_get (h : One11 w w1 xa L) (key : ByteArray) :
    Calls Try.prog 16 #[.pointer (some ⟨xa, 0, none⟩), .string key] w1 fun e w' => e = .returned (.tuple #[.int .i64 (getV L key).1, .bool (getV L key).2]) ∧ w' = w1 := by
  obtain ⟨E, h1, h2, h3⟩ := h
  exact xget_any w1 w.heap.size xa L E key h1
end
/-! ### The plain law -/
theorem dropD_ins (k : ByteArray) (t : Int) (M : List DueP) : dropD k (insD (t, k) M) = dropD k M := by
  induction M with
  | nil => simp [insD, dropD]
  | cons d r ih =>
    unfold insD
    split
    · simp [dropD]
    · unfold dropD at *
      rw [List.filter_cons, List.filter_cons, ih]
theorem dropD_put (k : ByteArray) (t : Int) (M : List DueP) : dropD k (putD k t M) = dropD k M := by
  unfold putD; rw [dropD_ins]; unfold dropD; rw [List.filter_filter]; simp
theorem dropD_idem (k : ByteArray) (M : List DueP) : dropD k (dropD k M) = dropD k M := by
  unfold dropD; rw [List.filter_filter]; simp
theorem getV_ins (k : ByteArray) (t : Int) (M : List DueP) (h : ∀ d ∈ M, d.2 ≠ k) : getV (insD (t, k) M) k = (t, true) := by
  have key : (insD (t, k) M).find? (fun d => decide (d.2 = k)) = some (t, k) := by
    induction M with
    | nil => simp [insD]
    | cons d r ih =>
      unfold insD
      split
      · simp
      · have hd := h d (List.mem_cons_self ..)
        rw [List.find?_cons]
        simp only [hd, decide_false]
        exact ih (fun d hd => h d (List.mem_cons_of_mem _ hd))
  unfold getV; rw [key]
def hits (k : ByteArray) (M : List DueP) : Nat := M.countP (fun d => decide (d.2 = k))
theorem hits_ins (k : ByteArray) (t : Int) (M : List DueP) (h : ∀ d ∈ M, d.2 ≠ k) : hits k (insD (t, k) M) = 1 := by
  unfold hits
  rw [(insD_perm (t, k) M).countP_eq, List.countP_cons]
  have : M.countP (fun d => decide (d.2 = k)) = 0 := by rw [List.countP_eq_zero]; intro d hd; simpa using h d hd
  rw [this]; simp
theorem hits_snoc (k : ByteArray) (M : List DueP) (d : DueP) : hits k (M ++ [d]) = hits k M + (if d.2 = k then 1 else 0) := by
  unfold hits; rw [List.countP_append]; simp [List.countP_cons]
theorem hits_le (k : ByteArray) (M : List DueP) : hits k M ≤ M.length := List.countP_le_length
theorem dropM_len (l : List DueP) (k : ByteArray) : (dropD k l).length ≤ l.length := List.length_filter_le _ _
theorem putM_len (l : List DueP) (k : ByteArray) (t : Int) : (putD k t l).length ≤ l.length + 1 := by
  have := (putD_perm l k t).length_eq
  have h2 := dropM_len l k
  simp at this; omega
theorem putM_size {l : List DueP} {k : ByteArray} {t : Int} (h : ∀ d ∈ l, d.2.size ≤ maxLen) (hk : k.size ≤ maxLen) : ∀ d ∈ putD k t l, d.2.size ≤ maxLen := fun d hd => by
  rcases List.mem_cons.1 ((putD_perm l k t).mem_iff.1 hd) with e | e
  · rw [e]; exact hk
  · exact h d (dropD_mem.1 e).1
theorem dropM_size {l : List DueP} {k : ByteArray} (h : ∀ d ∈ l, d.2.size ≤ maxLen) : ∀ d ∈ dropD k l, d.2.size ≤ maxLen := fun d hd => h d (dropD_mem.1 hd).1
/-- The row behind the two puts. -/
theorem moved (k : ByteArray) (t0 t1 : Int) (M : List DueP) : putD k t1 (putD k t0 (dropD k M)) = insD (t1, k) (dropD k M) := by
  show insD (t1, k) (dropD k (putD k t0 (dropD k M))) = _
  rw [dropD_put, dropD_idem]
set_option maxHeartbeats 16000000 in
set_option maxRecDepth 100000 in
theorem lawExpMoves (v : Value) (l : List DueP) (key : ByteArray) (n0 n1 : Int) (w : World) (h : RowOf duec 2 w v l) (hcap : ∃ p c, v = .slice p l.length c ∧ l.length ≤ c) (hs : ∀ d ∈ l, d.2.size ≤ maxLen) (hk0 : Hid (key.size ≤ maxLen)) :
    Calls Try.prog 5 #[v, .string key, .agg #[.int .i64 n0, .int .i64 n1]] w fun e w' => e = .returned (.bool true) ∧ Upd (fun _ => False) w w' := by
  obtain ⟨p, c, ev, hcl⟩ := hcap
  subst ev
  have ub : Upd (fun _ => False) w (w.alloc (.cells #[.int .i64 n0, .int .i64 n1] 32)) := (Upd.refl _ _).alloc _
  have bn := Blk.made w [.int .i64 n0, .int .i64 n1] 32
  have AL := Lib.hid (alive11_any (w.alloc (.cells #[.int .i64 n0, .int .i64 n1] 32)))
  by_cases h60 : 60 < l.length
  · have t1 : decide ((60 : Int) < (l.length : Int)) = true := decide_eq_true (by omega)
    have UB := Lib.hid ub
    clear h ub bn
    go_enter Try.func5, Try.ntmps5
    go_wp2_with fail
    refine (AL.out).mono ?_
    rintro e w1 ⟨rfl, u1⟩
    have U1 := Lib.hid u1
    clear u1
    go_wp2
    go_ret
    exact ⟨rfl, UB.out.trans U1.out (fun _ _ h => h)⟩
  · have t1 : decide ((60 : Int) < (l.length : Int)) = false := decide_eq_false (by omega)
    have hl60 : l.length ≤ 60 := by omega
    have H := Lib.hid h
    have HS := Lib.hid hs
    have UB := Lib.hid ub
    have BN := Lib.hid bn
    clear h hs h60 ub bn
    go_enter Try.func5, Try.ntmps5
    go_wp2_with fail
    refine (AL.out).mono ?_
    rintro e w1 ⟨rfl, u1⟩
    have NA := Lib.hid (xnew_any w1 w.heap.size)
    have BN1 := Lib.hid (u1.blk BN.out (fun h => h))
    have U1 := Lib.hid (UB.out.trans u1 (fun _ _ h => h))
    clear u1 AL
    go_wp2_with fail
    refine (NA.out).mono ?_
    rintro e w2 ⟨xa, E1, rfl, h2, u2, f2⟩
    have BN2 := Lib.hid (u2.blk BN1.out (fun h => h))
    have T2 : Hid (One11 w w2 xa []) := ⟨E1, h2, fun k hk => Nat.le_trans U1.out.size (f2 k hk), U1.out.trans u2 (fun _ _ h => h)⟩
    clear h2 u2 f2 NA U1 BN1
    go_wp2
    go_loopw [25] (fun x25 wr => ∃ (k : Nat), k ≤ l.length ∧ x25 = .int .i64 (k : Int) ∧ Hid (One11 w wr xa (putsV (l.take k))) ∧ Hid (Blk wr w.heap.size [.int .i64 n0, .int .i64 n1] 32)) (fun x25 _ => l.length - (intOf x25).toNat)
    case atStart => exact ⟨0, by omega, rfl, by rw [List.take_zero]; exact T2, BN2⟩
    case round =>
      clear T2 BN2
      obtain ⟨k, hk, rfl, T, BK⟩ := hrel
      have U := Lib.hid T.out.upd
      by_cases hlt : k < l.length
      · obtain ⟨d, hd⟩ : ∃ d, l[k]? = some d := ⟨_, List.getElem?_eq_getElem hlt⟩
        obtain ⟨b, off, cap, ev, hb, c0, c1⟩ := due_cells H.out hd
        injection ev with ev1 _ ev3
        subst ev1 ev3
        have c0 := (U.out.cell (p := ⟨b, off + k * 2, none⟩) hb (fun h => h)).trans c0
        have c1 := (U.out.cell (p := ⟨b, off + k * 2 + 1, none⟩) hb (fun h => h)).trans c1
        have TA := Lib.hid (take_snocD hd)
        have LA := putsV_len (l.take k)
        rw [List.length_take] at LA
        have hq : (k : Int) < (l.length : Int) := by omega
        obtain ⟨dw, dk⟩ := d
        simp only at c0 c1
        have PA := Lib.hid (one_put (T.out.keep0 ((Upd.refl (fun _ => False) wr).alloc (.cells #[.int .i64 dw, .string dk] 26))) dk dw (by omega))
        have BA := Lib.hid (((Upd.refl (fun _ => False) wr).alloc (.cells #[.int .i64 dw, .string dk] 26)).blk BK.out (fun h => h))
        clear hd T U BK LA
        go_wp2_with fail
        refine (PA.out).mono ?_
        rintro e w5 ⟨r5, rfl, t5, k5⟩
        have K5 := Lib.hid (k5.1 _ _ BA.out)
        have T5 := Lib.hid t5
        clear t5 k5 PA BA
        go_wp2
        go_roundw
        case rel => exact ⟨k + 1, by omega, by go_num, by rw [TA.out, putsV_snoc]; exact T5, K5⟩
        case measure => simp [intOf]; omega
      · obtain rfl : k = l.length := by omega
        have T5 := T.out
        rw [List.take_length] at T5
        have LN := putsV_len l
        have SZ := Lib.hid (putsV_size HS.out)
        generalize putsV l = L0 at *
        clear T U
        have DP := Lib.hid (one_drop T5 key (by omega))
        clear T5
        obtain ⟨wa, rfl⟩ : ∃ wa, wa = wr := ⟨_, rfl⟩
        go_wp2_with fail
        refine (DP.out).mono ?_
        rintro e w6 ⟨b6, rfl, t6, k6⟩
        have K6 := Lib.hid (k6.1 _ _ BK.out)
        have LD := dropM_len L0 key
        have SZ2 := Lib.hid (dropM_size (k := key) SZ.out)
        have NK : Hid (∀ d ∈ dropD key L0, d.2 ≠ key) := fun d hd => (dropD_mem.1 hd).2
        have MV := moved key n0 n1 L0
        have DI := dropD_idem key L0
        have DJ := dropD_ins key n1 (dropD key L0)
        rw [DI] at DJ
        have SZ3 := putM_size (k := key) (t := n1) (putM_size (k := key) (t := n0) SZ2.out hk0.out) hk0.out
        have LP := putM_len (putD key n0 (dropD key L0)) key n1
        have LP0 := putM_len (dropD key L0) key n0
        rw [MV] at SZ3 LP
        have MV := Lib.hid MV
        have SZ3 := Lib.hid SZ3
        have DJ := Lib.hid DJ
        generalize dropD key L0 = M at *
        have A6 := Lib.hid (one_all t6 (by omega) SZ2.out)
        clear t6 k6 DP DI
        go_wp2_with fail
        refine (A6.out).mono ?_
        rintro e w7 ⟨v7, rfl, d7, t7, k7⟩
        have K7 := Lib.hid (k7.1 _ _ K6.out)
        have D7 := Lib.hid d7
        have T7 := Lib.hid t7
        have z0 := K7.out.cellAt (i := 0) rfl
        have z1 := K7.out.cellAt (i := 1) rfl
        clear d7 t7 k7 A6 K6
        by_cases v0 : vld n0
        · have P0 := Lib.hid (one_put0 T7.out key n0 (by omega) v0)
          clear T7
          go_wp2_with fail
          refine (P0.out).mono ?_
          rintro e w8 ⟨rfl, t8, k8⟩
          have K8 := Lib.hid (k8.1 _ _ K7.out)
          have D8 := Lib.hid (k8.2.1 _ _ _ D7.out)
          have z0 := K8.out.cellAt (i := 0) rfl
          have z1 := K8.out.cellAt (i := 1) rfl
          by_cases v1 : vld n1
          · have P1 := Lib.hid (one_put0 t8 key n1 (by omega) v1)
            clear t8 k8 P0 D7 K7
            go_wp2_with fail
            refine (P1.out).mono ?_
            rintro e w9 ⟨rfl, t9, k9⟩
            have K9 := Lib.hid (k9.1 _ _ K8.out)
            have D9 := Lib.hid (k9.2.1 _ _ _ D8.out)
            have z0 := K9.out.cellAt (i := 0) rfl
            have z1 := K9.out.cellAt (i := 1) rfl
            rw [MV.out] at t9
            have GT := one_get t9 key
            rw [getV_ins key n1 M NK.out] at GT
            have HI := Lib.hid (hits_ins key n1 M NK.out)
            generalize insD (n1, key) M = Z at *
            have GT := Lib.hid GT
            have AZ := Lib.hid (one_all t9 (by omega) SZ3.out)
            clear t9 k9 P1 D8 K8
            go_wp2_with fail
            refine (GT.out).mono ?_
            rintro e w10 ⟨rfl, rfl⟩
            go_wp2_with fail
            refine (AZ.out).mono ?_
            rintro e w11 ⟨v11, rfl, d11, t11, k11⟩
            have K11 := Lib.hid (k11.1 _ _ K9.out)
            have D119 := Lib.hid (k11.2.1 _ _ _ D9.out)
            have D11 := Lib.hid d11
            have T11 := Lib.hid t11
            obtain ⟨p11, c11, e11, _⟩ := own_slice D11.out
            subst e11
            have hb11 : ∀ {b off cap n}, Value.slice p11 Z.length c11 = .slice (some ⟨b, off, none⟩) n cap → True := fun _ => trivial
            clear d11 t11 k11 AZ GT D9 K9 z0 z1 hb11
            go_wp2
            go_loopw [13, 64] (fun x13 x64 wr => ∃ (j : Nat), j ≤ Z.length ∧ x64 = .int .i64 (j : Int) ∧ x13 = .int .i64 (hits key (Z.take j) : Int) ∧ Hid (Upd (fun _ => False) w11 wr)) (fun _ x64 _ => Z.length - (intOf x64).toNat)
            case atStart => exact ⟨0, by omega, rfl, by simp [hits], Lib.hid (Upd.refl _ _)⟩
            case round =>
              obtain ⟨j, hj, rfl, rfl, UI⟩ := hrel
              by_cases hjz : j < Z.length
              · obtain ⟨d, hd⟩ : ∃ d, Z[j]? = some d := ⟨_, List.getElem?_eq_getElem hjz⟩
                obtain ⟨b, off, cap, ev, hb, c0, c1⟩ := due_cells D11.out.row hd
                injection ev with ev1 _ ev3
                subst ev1 ev3
                have c0 := (UI.out.cell (p := ⟨b, off + j * 2, none⟩) hb (fun h => h)).trans c0
                have c1 := (UI.out.cell (p := ⟨b, off + j * 2 + 1, none⟩) hb (fun h => h)).trans c1
                have TA := take_snocD hd
                have HN := hits_snoc key (Z.take j) d
                rw [← TA] at HN
                have hq : (j : Int) < (Z.length : Int) := by omega
                obtain ⟨dw, dk⟩ := d
                simp only at c0 c1 HN
                have UI2 : Hid (Upd (fun _ => False) w11 (wr.alloc (.cells #[.int .i64 dw, .string dk] 26))) := UI.out.alloc _
                have hlz := hits_le key (Z.take j)
                rw [List.length_take] at hlz
                have hl1 : (hits key (Z.take j) : Int) ≤ 100 := by omega
                clear hd TA UI
                by_cases hkk : dk = key
                · have hbe := beq_of hkk
                  rw [if_pos hkk] at HN
                  clear hkk
                  go_wp2
                  go_roundw
                  case rel => exact ⟨j + 1, by omega, by go_num, by rw [HN]; go_num, UI2⟩
                  case measure => simp [intOf]; omega
                · have hbe := nbeq_of hkk
                  rw [if_neg hkk] at HN
                  clear hkk
                  go_wp2
                  go_roundw
                  case rel => exact ⟨j + 1, by omega, by go_num, by rw [HN]; simp, UI2⟩
                  case measure => simp [intOf]; omega
              · obtain rfl : j = Z.length := by omega
                rw [List.take_length, HI.out]
                have K12 := Lib.hid (UI.out.blk K11.out (fun h => h))
                have D12 := Lib.hid (DuesAt.keep D119.out UI.out (fun _ _ h => h))
                have DU := Lib.hid (one_due (T11.out.keep0 UI.out) n0 1000 (by omega))
                have z0 := K12.out.cellAt (i := 0) rfl
                have z1 := K12.out.cellAt (i := 1) rfl
                clear UI T11 K11 D119 D11
                obtain ⟨wb, rfl⟩ : ∃ wb, wb = wr := ⟨_, rfl⟩
                go_wp2_with fail
                refine (DU.out).mono ?_
                rintro e w13 ⟨v13, rfl, s13, t13, k13⟩
                have K13 := Lib.hid (k13.1 _ _ K12.out)
                have D13 := Lib.hid (k13.2.1 _ _ _ D12.out)
                have S13 := Lib.hid s13
                have DU2 := Lib.hid (one_due t13 n0 1000 (by omega))
                have z0 := K13.out.cellAt (i := 0) rfl
                have z1 := K13.out.cellAt (i := 1) rfl
                clear s13 t13 k13 DU K12 D12
                go_wp2_with fail
                refine (DU2.out).mono ?_
                rintro e w14 ⟨v14, rfl, s14, t14, k14⟩
                have K14 := Lib.hid (k14.1 _ _ K13.out)
                have D14 := Lib.hid (k14.2.1 _ _ _ D13.out)
                have S134 := k14.2.2 _ _ _ S13.out
                have z0 := K14.out.cellAt (i := 0) rfl
                have z1 := K14.out.cellAt (i := 1) rfl
                have SM := Lib.hid (same06_any v13 v14 _ _ w14 S134.row s14.row)
                have T14 := Lib.hid t14
                rw [decide_eq_true rfl] at SM
                clear s14 t14 k14 DU2 K13 D13 S134 S13
                have DP2 := Lib.hid (fun (v : World) (u : Upd (fun _ => False) w14 v) => one_drop (T14.out.keep0 u) key (by omega))
                clear T14
                go_wp2_with fail
                refine (SM.out).mono ?_
                rintro e w15 ⟨rfl, n15, rfl⟩
                have D15 := Lib.hid (DuesAt.keep D14.out ((Upd.refl (fun _ => False) w14).drewN n15) (fun _ _ h => h))
                have K15 := Lib.hid (((Upd.refl (fun _ => False) w14).drewN n15).blk K14.out (fun h => h))
                have DP3 := Lib.hid (DP2.out _ ((Upd.refl (fun _ => False) w14).drewN n15))
                clear DP2 SM D14 K14
                generalize w14.drewN n15 = w16 at *
                have z1 := K15.out.cellAt (i := 1) rfl
                go_wp2_with fail
                refine (DP3.out).mono ?_
                rintro e w17 ⟨b17, rfl, t17, k17⟩
                have D17 := Lib.hid (k17.2.1 _ _ _ D15.out)
                rw [DJ.out] at t17
                have A17 := Lib.hid (one_all t17 (by omega) SZ2.out)
                clear t17 k17 D15 DP3 z1 K15
                go_wp2_with fail
                refine (A17.out).mono ?_
                rintro e w18 ⟨v18, rfl, d18, t18, k18⟩
                have SN := same11_any v18 _ M M w18 d18.row (k18.2.1 _ _ _ D17.out).row
                have U18 := Lib.hid t18.upd
                have DT : decide (M = M) = true := decide_eq_true rfl
                rw [DT] at SN
                have SN := Lib.hid SN
                clear d18 t18 k18 A17 DT D17
                go_wp2_with fail
                refine (SN.out).mono ?_
                rintro e w19 ⟨rfl, n19, rfl⟩
                go_wp2
                go_ret
                exact ⟨rfl, U18.out.drewN n19⟩
          · have P1 := Lib.hid (xput_bad w8 xa key n1 (by unfold vld at v1; omega))
            have U8 := Lib.hid t8.upd
            clear t8 k8 P0 D7 K7
            go_wp2_with fail
            refine (P1.out).mono ?_
            rintro e w9 ⟨rfl, rfl⟩
            go_wp2
            go_ret
            exact ⟨rfl, U8.out⟩
        · have P0 := Lib.hid (xput_bad w7 xa key n0 (by unfold vld at v0; omega))
          have U7 := Lib.hid T7.out.upd
          clear T7
          go_wp2_with fail
          refine (P0.out).mono ?_
          rintro e w8 ⟨rfl, rfl⟩
          go_wp2
          go_ret
          exact ⟨rfl, U7.out⟩
end Go.Proofs.Ytokkhddbdjflhaa
