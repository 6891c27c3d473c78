/- Walk: ExpiryRuns. -/
import Derived.Test.YtokkhddbdjflhaaActs11
import Derived.Test.YtokkhddbdjflhaaExpN
import Derived.Test.YtokkhddbdjflhaaExpL
import Derived.Deep.RegionHeld3
import Derived.Deep.DeepCutAuto
import Derived.Deep.CutBlock
set_option linter.unusedVariables false
set_option linter.unusedSimpArgs false
namespace Go.Proofs.Ytokkhddbdjflhaa
open Go.RowKit

theorem dropD_lt (l : List DueP) (k : ByteArray) : decide ((dropD k l).length < l.length) = decide (k ∈ l.map (·.2)) := by
  rw [Bool.eq_iff_iff, decide_eq_true_eq, decide_eq_true_eq]
  constructor
  · intro h
    exact Decidable.not_not.1 fun hh => by rw [dropD_none hh] at h; omega
  · intro h
    obtain ⟨d, hd, e⟩ := List.mem_map.1 h
    refine Nat.lt_of_le_of_ne (List.length_filter_le _ _) fun hh => ?_
    have := List.length_filter_eq_length_iff.1 hh d hd
    simp at this; exact this e
theorem dropD_len (l : List DueP) (k : ByteArray) : (dropD k l).length ≤ l.length := List.length_filter_le _ _
theorem putD_len (l : List DueP) (k : ByteArray) (t : Int) : (putD k t l).length ≤ l.length + 1 := by
  have := (putD_perm l k t).length_eq
  have h2 := dropD_len l k
  simp only [List.length_cons] at this; omega
theorem putD_size {l : List DueP} {k : ByteArray} {t : Int} (h : ∀ d ∈ l, d.2.size ≤ maxLen) (hk : k.size ≤ maxLen) : ∀ d ∈ putD k t l, d.2.size ≤ maxLen := fun d hd => by
  rcases List.mem_cons.1 ((putD_perm l k t).mem_iff.1 hd) with e | e
  · rw [e]; exact hk
  · exact h d (dropD_mem.1 e).1
theorem dropD_size {l : List DueP} {k : ByteArray} (h : ∀ d ∈ l, d.2.size ≤ maxLen) : ∀ d ∈ dropD k l, d.2.size ≤ maxLen := fun d hd => h d (dropD_mem.1 hd).1
/-- What stands while the answers are held beside one another. -/
def RunsPk (w : World) (xa : Nat) (L : List DueP) (dv : Value) (db : Nat) (dd : DueP) (w' : World) : Prop := ∃ E', ExpAt w' w.heap.size xa L E' ∧ (∀ b, E' b → w.heap.size ≤ b) ∧ DuesAt w' w.heap.size dv L ∧ Upd (fun _ => False) w w' ∧ Blk w' db [.int .i64 dd.1, .string dd.2] 26
theorem ExpAt.apartB {w : World} {base xa : Nat} {l : List DueP} {E : Nat → Prop} (h : ExpAt w base xa l E) {b : Nat} {cs : List Value} {T : TypeId} (hb : Blk w b cs T) (h1 : T ≠ 58) (h2 : T ≠ 61) (h3 : T ≠ 60) : ¬ E b := by
  obtain ⟨mb, v, bs, ent, m, h, rfl⟩ := h
  exact h.apart hb h1 h2 h3
section
variable {w wq w' : World} {xa db : Nat} {L : List DueP} {dv : Value} {dd : DueP} {now most : Int}
theorem RunsPk.keep0 (h : RunsPk w xa L dv db dd wq) (u : Upd (fun _ => False) wq w') : RunsPk w xa L dv db dd w' := by
  obtain ⟨E, h1, h2, h3, h4, h5⟩ := h
  exact ⟨E, h1.keep u (fun _ _ h => h), h2, h3.keep u (fun _ _ h => h), h4.trans u (fun _ _ h => h), u.blk h5 (fun h => h)⟩
theorem RunsPk.toE (h : RunsPk w xa L dv db dd wq) {E : Nat → Prop} (hX : ExpAt wq w.heap.size xa L E) (hF : ∀ b, E b → w.heap.size ≤ b) (t : ExpTo wq w' w.heap.size xa E L) : RunsPk w xa L dv db dd w' := by
  obtain ⟨_, _, _, h3, h4, h5⟩ := h
  obtain ⟨E2, k1, k2, k3⟩ := t
  refine ⟨E2, k1, fun b hb => ?_, h3.keep k2 (hX.apart h3 (by decide) (by decide) (by decide)), h4.trans k2 (fun i hi e => by have := hF i e; omega), k2.blk h5 (hX.apartB h5 (by decide) (by decide) (by decide))⟩
  rcases k3 b hb with g | g
  · exact hF b g
  · exact Nat.le_trans h4.size g
theorem pkLen (h : RunsPk w xa L dv db dd wq) (hl : L.length ≤ 1000) : Calls Try.prog 21 #[.pointer (some ⟨xa, 0, none⟩)] wq fun e w' => e = .returned (.int .i64 (L.length : Int)) ∧ w' = wq := by
  obtain ⟨E, h1, _⟩ := h
  exact xlen_any wq _ xa L E h1 (by omega)
theorem pkDue (h : RunsPk w xa L dv db dd wq) (hl : L.length ≤ 1000) : Calls Try.prog 13 #[.pointer (some ⟨xa, 0, none⟩), .int .i64 now, .int .i64 most] wq fun e w' => ∃ v, e = .returned v ∧ StrsAt w' wq.heap.size v (dueL now most L) ∧ RunsPk w xa L dv db dd w' := by
  obtain ⟨E, h1, h2, h3, h4, h5⟩ := id h
  refine (xdue_any wq _ xa L E now most h1 h4.size (by omega)).mono ?_
  rintro e w' ⟨v, rfl, s, t⟩
  rw [← dueL_rise h1.rise] at s
  exact ⟨v, rfl, s, h.toE h1 h2 t⟩
theorem pkRdue {v1 : Value} {b1 : Nat} (h : RunsPk w xa L dv db dd wq) (hl : L.length ≤ 1000) (s1 : StrsAt wq b1 v1 (dueL now most L)) : Calls Try.prog 22 #[dv, .int .i64 now, .int .i64 most] wq fun e w' => ∃ v2, e = .returned v2 ∧ StrsAt w' wq.heap.size v2 (dueL now most L) ∧ StrsAt w' b1 v1 (dueL now most L) ∧ RunsPk w xa L dv db dd w' := by
  obtain ⟨E, h1, h2, h3, h4, h5⟩ := id h
  refine (rdue_any dv L now most wq h3.row (by omega)).mono ?_
  rintro e w' ⟨v, rfl, s, u⟩
  exact ⟨v, rfl, s, s1.keep u (fun _ _ h => h), h.keep0 u⟩
theorem pkSame {v1 v2 : Value} {b1 b2 : Nat} {ks : List ByteArray} (h : RunsPk w xa L dv db dd wq) (s1 : StrsAt wq b1 v1 ks) (s2 : StrsAt wq b2 v2 ks) : Calls Try.prog 14 #[v1, v2] wq fun e w' => e = .returned (.bool true) ∧ RunsPk w xa L dv db dd w' := by
  refine (same06_any v1 v2 ks ks wq s1.row s2.row).mono ?_
  rintro e w' ⟨rfl, n, rfl⟩
  exact ⟨by simp, h.keep0 ((Upd.refl _ _).drewN n)⟩
end
theorem dues_head {w : World} {base n c : Nat} {p : Option Addr} {d : DueP} {r : List DueP} (h : DuesAt w base (.slice p n c) (d :: r)) : ∃ g, p = some ⟨g, 0, none⟩ := by
  rcases h.2 with ⟨_, e⟩ | ⟨g, cap, cur, e, _⟩
  · simp at e
  · cases e; exact ⟨g, rfl⟩
theorem dues_head2 {w : World} {base n c g : Nat} {d : DueP} {r : List DueP} (h : DuesAt w base (.slice (some ⟨g, 0, none⟩) n c) (d :: r)) : w.cell? ⟨g, 0, none⟩ = some (.int .i64 d.1) ∧ w.cell? ⟨g, 1, none⟩ = some (.string d.2) := by
  obtain ⟨b, off, cap, e, _, c0, c1⟩ := due_cells h.row (k := 0) (d := d) rfl
  injection e with e1 e2 e3
  injection e1 with e1
  injection e1 with e1 e4
  subst e1 e4
  simp at c0 c1
  exact ⟨c0, c1⟩
theorem dues_lt {w : World} {base n c g : Nat} {l : List DueP} (h : DuesAt w base (.slice (some ⟨g, 0, none⟩) n c) l) : g < w.heap.size := (World.ownsRow.lt h g rfl).2
set_option maxHeartbeats 16000000 in
set_option maxRecDepth 100000 in
theorem lawExpRuns (v : Value) (l : List Act11) (now most : Int) (w : World) (h : RowOf act11c 3 w v l) (hs : ∀ a ∈ l, a.key.size ≤ maxLen) :
    Calls Try.prog 6 #[v, .int .i64 now, .int .i64 most] w fun e w' => e = .returned (.bool true) ∧ Upd (fun _ => False) w w' := by
  obtain ⟨p, c, ev, hm⟩ := h.len
  subst ev
  have AL := Lib.hid (alive11_any w)
  by_cases h80 : 80 < l.length
  · have t1 : decide ((80 : Int) < (l.length : Int)) = true := decide_eq_true (by omega)
    clear h
    go_enter Try.func6, Try.ntmps6
    go_wp2_with fail
    refine (AL.out).mono ?_
    rintro e w1 ⟨rfl, u1⟩
    have U1 := Lib.hid u1
    clear u1
    go_wp2
    go_ret
    exact ⟨rfl, U1.out⟩
  · have t1 : decide ((80 : Int) < (l.length : Int)) = false := decide_eq_false (by omega)
    have hl80 : l.length ≤ 80 := by omega
    have H := Lib.hid h
    have HS := Lib.hid hs
    clear h hs h80
    go_enter Try.func6, Try.ntmps6
    go_wp2_with fail
    refine (AL.out).mono ?_
    rintro e w1 ⟨rfl, u1⟩
    have NW := Lib.hid (xnew_any w1 w.heap.size)
    have U1 := Lib.hid u1
    clear u1 AL
    go_wp2_with fail
    refine (NW.out).mono ?_
    rintro e w2 ⟨xa, E, rfl, h2, u2, f2⟩
    have u3 : Upd (fun _ => False) w2 (w2.alloc (.cells #[] 26)) := (Upd.refl _ _).alloc _
    have H3 := Lib.hid (h2.keep u3 (fun _ _ h => h))
    have F3 := Lib.hid (fun k hk => Nat.le_trans U1.out.size (f2 k hk))
    have U3 := Lib.hid ((U1.out.trans u2 (fun _ _ h => h)).trans u3 (fun _ _ h => h))
    have MO : Hid (DuesAt (w2.alloc (.cells #[] 26)) w.heap.size (.slice (some ⟨w2.heap.size, 0, none⟩) 0 0) []) := World.ownsRow_made (e := 26) (size := 2) w2 #[] 0 (Nat.le_trans U1.out.size u2.size) (by unfold maxLen; omega) rfl
    clear h2 u2 f2 u3 NW U1
    go_wp2
    go_loopw [8, 30] (fun x8 x30 wr => ∃ (k : Nat) (L : List DueP) (E : Nat → Prop), k ≤ l.length ∧ x30 = .int .i64 (k : Int) ∧ Hid (ExpAt wr w.heap.size xa L E) ∧ Hid (∀ b, E b → w.heap.size ≤ b) ∧ Hid (DuesAt wr w.heap.size x8 L) ∧ Hid (∀ d ∈ L, d.2.size ≤ maxLen) ∧ L.length ≤ k ∧ Hid (Upd (fun _ => False) w wr)) (fun _ x30 _ => l.length - (intOf x30).toNat)
    case atStart => exact ⟨0, [], E, by omega, rfl, H3, F3, MO, Lib.hid (fun d hd => by simp at hd), by simp, U3⟩
    case round =>
      clear H3 F3 MO U3
      obtain ⟨k, L, E, hk, rfl, X, F, D, SZ, hLk, U⟩ := hrel
      obtain ⟨dp, dc, ed, _⟩ := own_slice D.out
      subst ed
      by_cases hlt : k < l.length
      · obtain ⟨b, off, a, ep, hb, ha, c0, c1, c2⟩ := act11_cells H.out hlt
        subst ep
        have c0 := (U.out.cell (p := ⟨b, off + k * 3, none⟩) hb (fun h => h)).trans c0
        have c1 := (U.out.cell (p := ⟨b, off + k * 3 + 1, none⟩) hb (fun h => h)).trans c1
        have c2 := (U.out.cell (p := ⟨b, off + k * 3 + 2, none⟩) hb (fun h => h)).trans c2
        have hq : (k : Int) < (l.length : Int) := by omega
        have AS := Lib.hid (HS.out a (List.mem_of_getElem? ha))
        obtain ⟨kind, key, time⟩ := a
        simp only at c0 c1 c2 AS
        have ba := Blk.made wr [.int .i64 kind, .string key, .int .i64 time] 45
        have ua : Upd (fun _ => False) wr (wr.alloc (.cells #[.int .i64 kind, .string key, .int .i64 time] 45)) := (Upd.refl _ _).alloc _
        go_upto_block 2 with fail
        go_cut [8] (fun x8 w4 => ∃ (L4 : List DueP) (E4 : Nat → Prop), Hid (ExpAt w4 w.heap.size xa L4 E4) ∧ Hid (∀ b, E4 b → w.heap.size ≤ b) ∧ Hid (DuesAt w4 w.heap.size x8 L4) ∧ Hid (∀ d ∈ L4, d.2.size ≤ maxLen) ∧ L4.length ≤ k + 1 ∧ Hid (Upd (fun _ => False) w w4) ∧ Hid (Blk w4 wr.heap.size [.int .i64 kind, .string key, .int .i64 time] 45))
        case first =>
          as_aux_lemma =>
            have BA := Lib.hid ba
            have UA := Lib.hid ua
            have XA := Lib.hid (X.out.keep ua (fun _ _ h => h))
            have DA := Lib.hid (D.out.keep ua (fun _ _ h => h))
            have UW := Lib.hid (U.out.trans ua (fun _ _ h => h))
            generalize wr.alloc (.cells #[.int .i64 kind, .string key, .int .i64 time] 45) = wa at *
            have b1 := BA.out.cellAt (i := 1) rfl
            have b2 := BA.out.cellAt (i := 2) rfl
            have hba := BA.out.lt
            clear ba ua ha c0 c1 c2 X D U
            by_cases k0 : kind = 0
            · have kk0 : (kind == 0) = true := by simpa using k0
              by_cases ht : 0 ≤ time ∧ time ≤ 4611686018427387904
              · have RP := Lib.hid (rput_any _ L key time wa DA.out.row (by omega) ht.1 ht.2)
                clear k0
                go_wp2_with fail
                refine (RP.out).mono ?_
                rintro e wb ⟨vb, rfl, db, ub⟩
                have XB := XA.out.keep ub (fun _ _ h => h)
                have BB := ub.blk BA.out (fun h => h)
                have XP := Lib.hid (xput_any wb w.heap.size xa L E key time XB (Nat.le_trans UW.out.size ub.size) (by omega) ht.1 ht.2)
                have DB := Lib.hid (own_mono db UW.out.size)
                have UB := Lib.hid (UW.out.trans ub (fun _ _ h => h))
                have BB2 := Lib.hid BB
                have XB2 := Lib.hid XB
                have bb1 := BB.cellAt (i := 1) rfl
                have bb2 := BB.cellAt (i := 2) rfl
                have hsb := ub.size
                obtain ⟨pb, cb, eb, _⟩ := own_slice db
                subst eb
                clear db ub XB BB RP XA DA BA
                go_wp2_with fail
                refine (XP.out).mono ?_
                rintro e w4 ⟨rfl, E4, h4, u4, f4⟩
                have D4 : Hid (DuesAt w4 w.heap.size _ (putD key time L)) := DuesAt.keep DB.out u4 (XB2.out.apart DB.out (by decide) (by decide) (by decide))
                have U4 := Lib.hid (UB.out.trans u4 (fun i hi e => by have := F.out i e; omega))
                have F4 : Hid (∀ b, E4 b → w.heap.size ≤ b) := fun b hb => by
                  rcases f4 b hb with g | g
                  · exact F.out b g
                  · exact Nat.le_trans UB.out.size g
                have B4 := Lib.hid (u4.blk BB2.out (XB2.out.apartB BB2.out (by decide) (by decide) (by decide)))
                have X4 := Lib.hid h4
                clear h4 u4 f4 XP
                go_wp2_with fail
                go_meet
                exact ⟨_, E4, X4, F4, D4, Lib.hid (putD_size SZ.out AS.out), by have := putD_len L key time; omega, U4, B4⟩
              · have RP := Lib.hid (rput_bad (.slice dp L.length dc) key time wa (by omega))
                have XP := Lib.hid (xput_bad wa xa key time (by omega))
                clear k0
                go_wp2_with fail
                refine (RP.out).mono ?_
                rintro e wb ⟨rfl, rfl⟩
                go_wp2_with fail
                refine (XP.out).mono ?_
                rintro e wb ⟨rfl, rfl⟩
                go_wp2_with fail
                go_meet
                exact ⟨L, E, XA, F, DA, SZ, by omega, UW, BA⟩
            · have kk0 : (kind == 0) = false := by simpa using k0
              by_cases k2 : kind = 2
              · have kk2 : (kind == 2) = true := by simpa using k2
                have CL := Lib.hid (xclear_any wa w.heap.size xa L E XA.out)
                clear k0 k2
                go_wp2_with fail
                refine (CL.out).mono ?_
                rintro e w4 ⟨rfl, E4, h4, u4, f4⟩
                have X4 := Lib.hid h4
                have U4 := Lib.hid (UW.out.trans u4 (fun i hi e => by have := F.out i e; omega))
                have F4 : Hid (∀ b, E4 b → w.heap.size ≤ b) := fun b hb => by
                  rcases f4 b hb with g | g
                  · exact F.out b g
                  · exact Nat.le_trans UW.out.size g
                have B4 := Lib.hid (u4.blk BA.out (XA.out.apartB BA.out (by decide) (by decide) (by decide)))
                clear h4 u4 f4 CL
                go_wp2_with fail
                go_meet
                exact ⟨[], E4, X4, F4, Lib.hid (World.ownsRow_nil _ _ _ _), Lib.hid (fun d hd => by simp at hd), by simp, U4, B4⟩
              · have kk2 : (kind == 2) = false := by simpa using k2
                have RP := rdrop_any _ L key wa DA.out.row (by omega)
                rw [dropD_lt] at RP
                have RP := Lib.hid RP
                clear k0 k2
                go_wp2_with fail
                refine (RP.out).mono ?_
                rintro e wb ⟨vb, rfl, db, ub⟩
                have XB := XA.out.keep ub (fun _ _ h => h)
                have BB := ub.blk BA.out (fun h => h)
                have XP := Lib.hid (xdrop_any wb w.heap.size xa L E key XB (by omega))
                generalize decide (key ∈ L.map (·.2)) = bo at *
                have DB := Lib.hid (own_mono db UW.out.size)
                have UB := Lib.hid (UW.out.trans ub (fun _ _ h => h))
                have BB2 := Lib.hid BB
                have XB2 := Lib.hid XB
                have bb1 := BB.cellAt (i := 1) rfl
                have hsb := ub.size
                obtain ⟨pb, cb, eb, _⟩ := own_slice db
                subst eb
                clear db ub XB BB RP XA DA BA
                go_wp2_with fail
                refine (XP.out).mono ?_
                rintro e w4 ⟨rfl, E4, h4, u4, f4⟩
                have D4 : Hid (DuesAt w4 w.heap.size _ (dropD key L)) := DuesAt.keep DB.out u4 (XB2.out.apart DB.out (by decide) (by decide) (by decide))
                have U4 := Lib.hid (UB.out.trans u4 (fun i hi e => by have := F.out i e; omega))
                have F4 : Hid (∀ b, E4 b → w.heap.size ≤ b) := fun b hb => by
                  rcases f4 b hb with g | g
                  · exact F.out b g
                  · exact Nat.le_trans UB.out.size g
                have B4 := Lib.hid (u4.blk BB2.out (XB2.out.apartB BB2.out (by decide) (by decide) (by decide)))
                have X4 := Lib.hid h4
                clear h4 u4 f4 XP
                go_wp2_with fail
                go_meet
                exact ⟨_, E4, X4, F4, D4, Lib.hid (dropD_size SZ.out), by have := dropD_len L key; omega, U4, B4⟩
        case rest =>
          clear ba ua ha c0 c1 c2 X F D SZ U
          obtain ⟨L4, E4, X4, F4, D4, SZ4, hL4, U4, BA⟩ := hcut
          obtain ⟨p4, c4, e4, _⟩ := own_slice D4.out
          subst e4
          cases L4 with
          | nil =>
            have ck := BA.out.cellAt (i := 1) rfl
            have hkb : wr.heap.size < wc.heap.size := BA.out.lt
            have XG := Lib.hid (xget_any wc w.heap.size xa (([] : List DueP)) _ key X4.out)
            have RG := Lib.hid (rget_any _ (([] : List DueP)) key wc D4.out.row (by omega))
            generalize getV (([] : List DueP)) key = gv at XG RG
            obtain ⟨gn, gb⟩ := gv
            go_wp2_with fail
            refine (XG.out).mono ?_
            rintro e w5 ⟨rfl, rfl⟩
            go_wp2_with fail
            refine (RG.out).mono ?_
            rintro e w6 ⟨rfl, u6⟩
            have SZ6 := Lib.hid u6.size
            have X6 := Lib.hid (X4.out.keep u6 (fun _ _ h => h))
            have D6 := Lib.hid (D4.out.keep u6 (fun _ _ h => h))
            have U6 := Lib.hid (U4.out.trans u6 (fun _ _ h => h))
            have NX := xnext_any w6 w.heap.size xa (([] : List DueP)) _ X6.out (by omega)
            unfold dueV at NX
            simp only [List.head?_nil, List.head?_cons, Option.isSome_none, Option.isSome_some] at NX
            have NX := Lib.hid NX
            clear u6 XG RG X4 D4 U4 BA ck
            go_wp2_with fail
            refine (NX.out).mono ?_
            rintro e w7 ⟨rfl, u7⟩
            have SZ7 := Lib.hid u7.size
            have X7 := Lib.hid (X6.out.keep u7 (fun _ _ h => h))
            have D7 := Lib.hid (D6.out.keep u7 (fun _ _ h => h))
            have U7 := Lib.hid (U6.out.trans u7 (fun _ _ h => h))
            clear u7 NX X6 D6 U6
            have HW6 := Lib.hid (show w5.heap.size ≤ w7.heap.size from Nat.le_trans (by first | exact SZ6.out | exact Nat.le_refl _) SZ7.out)
            have PK := Lib.hid (fun (v : World) (u : Upd (fun _ => False) (w7.alloc (.cells #[.int .i64 (0), .string (ByteArray.empty)] 26)) v) => (show RunsPk w xa (([] : List DueP)) (.slice p4 ([] : List DueP).length c4) w7.heap.size (0, ByteArray.empty) v from RunsPk.keep0 ⟨_, X7.out.keep ((Upd.refl _ _).alloc _) (fun _ _ h => h), F4.out, D7.out.keep ((Upd.refl (fun _ => False) _).alloc _) (fun _ _ h => h), U7.out.alloc _, Blk.made w7 [.int .i64 (0), .string (ByteArray.empty)] _⟩ u))
            clear X7 D7 U7 F4
            have HLN := Lib.hid (show (([] : List DueP)).length ≤ 1000 by omega)
            go_upto_region 26 with fail
            go_cut [145] (fun x w' => x = .bool false ∧ Hid (RunsPk w xa (([] : List DueP)) (.slice p4 ([] : List DueP).length c4) w7.heap.size (0, ByteArray.empty) w'))
            case rest =>
              obtain ⟨rfl, PK9⟩ := hcut
              go_wp2
              go_roundw
              case rel =>
                obtain ⟨E9, x9, f9, d9, u9, _⟩ := PK9.out
                exact ⟨k + 1, _, E9, by omega, by go_num, Lib.hid x9, Lib.hid f9, Lib.hid d9, SZ4, hL4, Lib.hid u9⟩
              case measure => simp [intOf]; omega
            case first =>
              as_aux_lemma =>
                have PS : Hid (∀ v, RunsPk w xa [] (.slice p4 ([] : List DueP).length c4) w7.heap.size (0, ByteArray.empty) v → v.cell? ⟨w7.heap.size, 0, none⟩ = some (.int .i64 0) ∧ v.cell? ⟨w7.heap.size, 1, none⟩ = some (.string ByteArray.empty)) := fun v hp => by
                  obtain ⟨_, _, _, _, _, hb⟩ := hp
                  exact ⟨hb.cellAt (i := 0) rfl, hb.cellAt (i := 1) rfl⟩
                refine wp_region_held_drew (S := (fun w' => w'.cell? ⟨w7.heap.size, 0, none⟩ = some (.int .i64 0) ∧ w'.cell? ⟨w7.heap.size, 1, none⟩ = some (.string ByteArray.empty))) (by kernel_rfl) ?_ (fun hHeld => ?_)
                · (try dsimp only); go_keep
                try simp only [Array.replicate, Act.put, List.setIfInBounds_toArray]
                refine' wpAnyH_take (i := 0) (oi := _) (v := _) ?hiN1 (by kernel_rfl) (by kernel_rfl) (by kernel_rfl) ?hQN1 ?hyN1 (by assumption) ?restN1
                case' hiN1 => (first | (simp only [List.getElem?_toArray, List.getElem?_cons_succ, List.getElem?_cons_zero]; done) | (simp only [List.getElem?_toArray, List.getElem?_cons_succ, List.getElem?_cons_zero]; rfl))
                case' hQN1 => exact fun _ _ _ h => h
                case' hyN1 => refine Or.inl ⟨by rfl, ?_⟩
                (intro w hSw; (try dsimp only at hSw); go_simp; try with_reducible rfl)
                try simp only [Act.put, List.setIfInBounds_toArray, List.set_cons_zero, List.set_cons_succ]
                refine' wpAnyH_take (i := 1) (oi := _) (v := _) ?hiN2 (by kernel_rfl) (by kernel_rfl) (by kernel_rfl) ?hQN2 ?hyN2 (by assumption) ?restN2
                case' hiN2 => (first | (simp only [List.getElem?_toArray, List.getElem?_cons_succ, List.getElem?_cons_zero]; done) | (simp only [List.getElem?_toArray, List.getElem?_cons_succ, List.getElem?_cons_zero]; rfl))
                case' hQN2 => exact fun _ _ _ h => h
                case' hyN2 => refine Or.inl ⟨by rfl, ?_⟩
                (intro w hSw; (try dsimp only at hSw); go_simp; try with_reducible rfl)
                try simp only [Act.put, List.setIfInBounds_toArray, List.set_cons_zero, List.set_cons_succ]
                refine' wpAnyH_take (i := 2) (oi := _) (v := _) ?hiN3 (by kernel_rfl) (by kernel_rfl) (by kernel_rfl) ?hQN3 ?hyN3 (by assumption) ?restN3
                case' hiN3 => (first | (simp only [List.getElem?_toArray, List.getElem?_cons_succ, List.getElem?_cons_zero]; done) | (simp only [List.getElem?_toArray, List.getElem?_cons_succ, List.getElem?_cons_zero]; rfl))
                case' hQN3 => exact fun _ _ _ h => h
                case' hyN3 => refine Or.inl ⟨by rfl, ?_⟩
                (intro w hSw; (try dsimp only at hSw); go_simp; try with_reducible rfl)
                try simp only [Act.put, List.setIfInBounds_toArray, List.set_cons_zero, List.set_cons_succ]
                refine' wpAnyH_take (i := 3) (oi := _) (v := _) ?hiN4 (by kernel_rfl) (by kernel_rfl) (by kernel_rfl) ?hQN4 ?hyN4 (by assumption) ?restN4
                case' hiN4 => (first | (simp only [List.getElem?_toArray, List.getElem?_cons_succ, List.getElem?_cons_zero]; done) | (simp only [List.getElem?_toArray, List.getElem?_cons_succ, List.getElem?_cons_zero]; rfl))
                case' hQN4 => exact fun _ _ _ h => h
                case' hyN4 => refine Or.inl ⟨by rfl, ?_⟩
                (intro w hSw; (try dsimp only at hSw); go_simp; try with_reducible rfl)
                try simp only [Act.put, List.setIfInBounds_toArray, List.set_cons_zero, List.set_cons_succ]
                refine' wpAnyH_take (i := 4) (oi := _) (v := _) ?hiN5 (by kernel_rfl) (by kernel_rfl) (by kernel_rfl) ?hQN5 ?hyN5 (by assumption) ?restN5
                case' hiN5 => (first | (simp only [List.getElem?_toArray, List.getElem?_cons_succ, List.getElem?_cons_zero]; done) | (simp only [List.getElem?_toArray, List.getElem?_cons_succ, List.getElem?_cons_zero]; rfl))
                case' hQN5 => exact fun _ _ _ h => h
                case' hyN5 => refine Or.inl ⟨by rfl, ?_⟩
                (intro w hSw; (try dsimp only at hSw); go_simp; try with_reducible rfl)
                try simp only [Act.put, List.setIfInBounds_toArray, List.set_cons_zero, List.set_cons_succ]
                refine' wpAnyH_take (i := 5) (oi := _) (v := _) ?hiN6 (by kernel_rfl) (by kernel_rfl) (by kernel_rfl) ?hQN6 ?hyN6 (by assumption) ?restN6
                case' hiN6 => (first | (simp only [List.getElem?_toArray, List.getElem?_cons_succ, List.getElem?_cons_zero]; done) | (simp only [List.getElem?_toArray, List.getElem?_cons_succ, List.getElem?_cons_zero]; rfl))
                case' hQN6 => exact fun _ _ _ h => h
                case' hyN6 => refine Or.inl ⟨by rfl, ?_⟩
                (intro w hSw; (try dsimp only at hSw); go_simp; try with_reducible rfl)
                try simp only [Act.put, List.setIfInBounds_toArray, List.set_cons_zero, List.set_cons_succ]
                refine' wpAnyH_take (i := 6) (oi := _) (v := _) ?hiN7 (by kernel_rfl) (by kernel_rfl) (by kernel_rfl) ?hQN7 ?hyN7 (by assumption) ?restN7
                case' hiN7 => (first | (simp only [List.getElem?_toArray, List.getElem?_cons_succ, List.getElem?_cons_zero]; done) | (simp only [List.getElem?_toArray, List.getElem?_cons_succ, List.getElem?_cons_zero]; rfl))
                case' hQN7 => exact fun _ _ _ h => h
                case' hyN7 => refine Or.inl ⟨by rfl, ?_⟩
                (intro w hSw; (try dsimp only at hSw); go_simp; try with_reducible rfl)
                try simp only [Act.put, List.setIfInBounds_toArray, List.set_cons_zero, List.set_cons_succ]
                refine' wpAnyH_take (i := 7) (oi := _) (v := _) ?hiN8 (by kernel_rfl) (by kernel_rfl) (by kernel_rfl) ?hQN8 ?hyN8 (by assumption) ?restN8
                case' hiN8 => (first | (simp only [List.getElem?_toArray, List.getElem?_cons_succ, List.getElem?_cons_zero]; done) | (simp only [List.getElem?_toArray, List.getElem?_cons_succ, List.getElem?_cons_zero]; rfl))
                case' hQN8 => exact fun _ _ _ h => h
                case' hyN8 => refine Or.inl ⟨by rfl, ?_⟩
                (intro w hSw; (try dsimp only at hSw); go_simp; try with_reducible rfl)
                try simp only [Act.put, List.setIfInBounds_toArray, List.set_cons_zero, List.set_cons_succ]
                refine' wpAnyH_take (i := 8) (oi := _) (v := _) ?hiN9 (by kernel_rfl) (by kernel_rfl) (by kernel_rfl) ?hQN9 ?hyN9 (by assumption) ?restN9
                case' hiN9 => (first | (simp only [List.getElem?_toArray, List.getElem?_cons_succ, List.getElem?_cons_zero]; done) | (simp only [List.getElem?_toArray, List.getElem?_cons_succ, List.getElem?_cons_zero]; rfl))
                case' hQN9 => exact fun _ _ _ h => h
                case' hyN9 => refine Or.inl ⟨by rfl, ?_⟩
                (intro w hSw; (try dsimp only at hSw); go_simp; try with_reducible rfl)
                try simp only [Act.put, List.setIfInBounds_toArray, List.set_cons_zero, List.set_cons_succ]
                refine' wpAnyH_take (i := 9) (oi := _) (v := _) ?hiN10 (by kernel_rfl) (by kernel_rfl) (by kernel_rfl) ?hQN10 ?hyN10 (by assumption) ?restN10
                case' hiN10 => (first | (simp only [List.getElem?_toArray, List.getElem?_cons_succ, List.getElem?_cons_zero]; done) | (simp only [List.getElem?_toArray, List.getElem?_cons_succ, List.getElem?_cons_zero]; rfl))
                case' hQN10 => exact fun _ _ _ h => h
                case' hyN10 => refine Or.inl ⟨by rfl, ?_⟩
                (intro w hSw; (try dsimp only at hSw); go_simp; try with_reducible rfl)
                try simp only [Act.put, List.setIfInBounds_toArray, List.set_cons_zero, List.set_cons_succ]
                refine' wpAnyH_take (i := 11) (oi := _) (v := _) ?hiN11 (by kernel_rfl) (by kernel_rfl) (by kernel_rfl) ?hQN11 ?hyN11 (by assumption) ?restN11
                case' hiN11 => (first | (simp only [List.getElem?_toArray, List.getElem?_cons_succ, List.getElem?_cons_zero]; done) | (simp only [List.getElem?_toArray, List.getElem?_cons_succ, List.getElem?_cons_zero]; rfl))
                case' hQN11 => exact fun _ _ _ h => h
                case' hyN11 => refine Or.inl ⟨by rfl, ?_⟩
                (intro w hSw; (try dsimp only at hSw); go_simp; try with_reducible rfl)
                try simp only [Act.put, List.setIfInBounds_toArray, List.set_cons_zero, List.set_cons_succ]
                refine' wpAnyH_take (i := 12) (oi := _) (v := _) ?hiN12 (by kernel_rfl) (by kernel_rfl) (by kernel_rfl) ?hQN12 ?hyN12 (by assumption) ?restN12
                case' hiN12 => (first | (simp only [List.getElem?_toArray, List.getElem?_cons_succ, List.getElem?_cons_zero]; done) | (simp only [List.getElem?_toArray, List.getElem?_cons_succ, List.getElem?_cons_zero]; rfl))
                case' hQN12 => exact fun _ _ _ h => h
                case' hyN12 => refine Or.inl ⟨by rfl, ?_⟩
                (intro w hSw; (try dsimp only at hSw); go_simp; try with_reducible rfl)
                try simp only [Act.put, List.setIfInBounds_toArray, List.set_cons_zero, List.set_cons_succ]
                refine wpAnyH_ready (rs := [10]) (by kernel_rfl) (by simp) ?_
                refine' AllReadyH.cons (o := _) ?hiN13 (fun K hK => ?hKN13) AllReadyH.nil
                case' hiN13 => (first | (simp only [List.getElem?_toArray, List.getElem?_cons_succ, List.getElem?_cons_zero]; done) | (simp only [List.getElem?_toArray, List.getElem?_cons_succ, List.getElem?_cons_zero]; rfl))
                go_simp
                (go_at_call 21; refine (pkLen (PK.out _ (by first | exact Upd.refl _ _ | exact (Upd.refl _ _).drew)) HLN.out).mono ?_; rintro e w' ⟨rfl, rfl⟩)
                refine hK.out _ _ ?_ (fun hHeld => ?_)
                · (try dsimp only); go_keep
                clear hK K
                try simp only [Act.put, List.setIfInBounds_toArray, List.set_cons_zero, List.set_cons_succ]
                refine' wpAnyH_take (i := 13) (oi := _) (v := _) ?hiN14 (by kernel_rfl) (by kernel_rfl) (by kernel_rfl) ?hQN14 ?hyN14 (by assumption) ?restN14
                case' hiN14 => (first | (simp only [List.getElem?_toArray, List.getElem?_cons_succ, List.getElem?_cons_zero]; done) | (simp only [List.getElem?_toArray, List.getElem?_cons_succ, List.getElem?_cons_zero]; rfl))
                case' hQN14 => exact fun _ _ _ h => h
                case' hyN14 => refine Or.inl ⟨by rfl, ?_⟩
                (intro w hSw; (try dsimp only at hSw); go_simp; try with_reducible rfl)
                try simp only [Act.put, List.setIfInBounds_toArray, List.set_cons_zero, List.set_cons_succ]
                refine' wpAnyH_take (i := 14) (oi := _) (v := _) ?hiN15 (by kernel_rfl) (by kernel_rfl) (by kernel_rfl) ?hQN15 ?hyN15 (by assumption) ?restN15
                case' hiN15 => (first | (simp only [List.getElem?_toArray, List.getElem?_cons_succ, List.getElem?_cons_zero]; done) | (simp only [List.getElem?_toArray, List.getElem?_cons_succ, List.getElem?_cons_zero]; rfl))
                case' hQN15 => exact fun _ _ _ h => h
                case' hyN15 => refine Or.inl ⟨by rfl, ?_⟩
                (intro w hSw; (try dsimp only at hSw); go_simp; try with_reducible rfl)
                try simp only [Act.put, List.setIfInBounds_toArray, List.set_cons_zero, List.set_cons_succ]
                refine' wpAnyH_take (i := 15) (oi := _) (v := _) ?hiN16 (by kernel_rfl) (by kernel_rfl) (by kernel_rfl) ?hQN16 ?hyN16 (by assumption) ?restN16
                case' hiN16 => (first | (simp only [List.getElem?_toArray, List.getElem?_cons_succ, List.getElem?_cons_zero]; done) | (simp only [List.getElem?_toArray, List.getElem?_cons_succ, List.getElem?_cons_zero]; rfl))
                case' hQN16 => exact fun _ _ _ h => h
                case' hyN16 => refine Or.inl ⟨by rfl, ?_⟩
                (intro w hSw; (try dsimp only at hSw); go_simp; try with_reducible rfl)
                try simp only [Act.put, List.setIfInBounds_toArray, List.set_cons_zero, List.set_cons_succ]
                refine' wpAnyH_take (i := 16) (oi := _) (v := _) ?hiN17 (by kernel_rfl) (by kernel_rfl) (by kernel_rfl) ?hQN17 ?hyN17 (by assumption) ?restN17
                case' hiN17 => (first | (simp only [List.getElem?_toArray, List.getElem?_cons_succ, List.getElem?_cons_zero]; done) | (simp only [List.getElem?_toArray, List.getElem?_cons_succ, List.getElem?_cons_zero]; rfl))
                case' hQN17 => exact fun _ _ _ h => h
                case' hyN17 => refine Or.inl ⟨by rfl, ?_⟩
                (intro w hSw; (try dsimp only at hSw); go_simp; try with_reducible rfl)
                try simp only [Act.put, List.setIfInBounds_toArray, List.set_cons_zero, List.set_cons_succ]
                refine' wpAnyH_take (i := 17) (oi := _) (v := _) ?hiN18 (by kernel_rfl) (by kernel_rfl) (by kernel_rfl) ?hQN18 ?hyN18 (by assumption) ?restN18
                case' hiN18 => (first | (simp only [List.getElem?_toArray, List.getElem?_cons_succ, List.getElem?_cons_zero]; done) | (simp only [List.getElem?_toArray, List.getElem?_cons_succ, List.getElem?_cons_zero]; rfl))
                case' hQN18 => exact fun _ _ _ h => h
                case' hyN18 => refine Or.inl ⟨by rfl, ?_⟩
                (intro w hSw; (try dsimp only at hSw); go_simp; try with_reducible rfl)
                try simp only [Act.put, List.setIfInBounds_toArray, List.set_cons_zero, List.set_cons_succ]
                refine' wpAnyH_take (i := 18) (oi := _) (v := _) ?hiN19 (by kernel_rfl) (by kernel_rfl) (by kernel_rfl) ?hQN19 ?hyN19 (by assumption) ?restN19
                case' hiN19 => (first | (simp only [List.getElem?_toArray, List.getElem?_cons_succ, List.getElem?_cons_zero]; done) | (simp only [List.getElem?_toArray, List.getElem?_cons_succ, List.getElem?_cons_zero]; rfl))
                case' hQN19 => exact fun _ _ _ h => h
                case' hyN19 => refine Or.inl ⟨by rfl, ?_⟩
                (intro w hSw; (try dsimp only at hSw); go_simp; try with_reducible rfl)
                try simp only [Act.put, List.setIfInBounds_toArray, List.set_cons_zero, List.set_cons_succ]
                refine' wpAnyH_take (i := 19) (oi := _) (v := _) ?hiN20 (by kernel_rfl) (by kernel_rfl) (by kernel_rfl) ?hQN20 ?hyN20 (by assumption) ?restN20
                case' hiN20 => (first | (simp only [List.getElem?_toArray, List.getElem?_cons_succ, List.getElem?_cons_zero]; done) | (simp only [List.getElem?_toArray, List.getElem?_cons_succ, List.getElem?_cons_zero]; rfl))
                case' hQN20 => exact fun _ _ _ h => h
                case' hyN20 => refine Or.inl ⟨by rfl, ?_⟩
                (intro w hSw; (try dsimp only at hSw); go_simp; try with_reducible rfl)
                try simp only [Act.put, List.setIfInBounds_toArray, List.set_cons_zero, List.set_cons_succ]
                refine' wpAnyH_take (i := 20) (oi := _) (v := _) ?hiN21 (by kernel_rfl) (by kernel_rfl) (by kernel_rfl) ?hQN21 ?hyN21 (by assumption) ?restN21
                case' hiN21 => (first | (simp only [List.getElem?_toArray, List.getElem?_cons_succ, List.getElem?_cons_zero]; done) | (simp only [List.getElem?_toArray, List.getElem?_cons_succ, List.getElem?_cons_zero]; rfl))
                case' hQN21 => exact fun _ _ _ h => h
                case' hyN21 => refine Or.inl ⟨by rfl, ?_⟩
                (intro w hSw; (try dsimp only at hSw); go_simp; try with_reducible rfl)
                try simp only [Act.put, List.setIfInBounds_toArray, List.set_cons_zero, List.set_cons_succ]
                refine' wpAnyH_take (i := 21) (oi := _) (v := _) ?hiN22 (by kernel_rfl) (by kernel_rfl) (by kernel_rfl) ?hQN22 ?hyN22 (by assumption) ?restN22
                case' hiN22 => (first | (simp only [List.getElem?_toArray, List.getElem?_cons_succ, List.getElem?_cons_zero]; done) | (simp only [List.getElem?_toArray, List.getElem?_cons_succ, List.getElem?_cons_zero]; rfl))
                case' hQN22 => exact fun _ _ _ h => h
                case' hyN22 => refine Or.inl ⟨by rfl, ?_⟩
                (intro w hSw; (try dsimp only at hSw); go_simp; try with_reducible rfl)
                try simp only [Act.put, List.setIfInBounds_toArray, List.set_cons_zero, List.set_cons_succ]
                refine' wpAnyH_take (i := 22) (oi := _) (v := _) ?hiN23 (by kernel_rfl) (by kernel_rfl) (by kernel_rfl) ?hQN23 ?hyN23 (by assumption) ?restN23
                case' hiN23 => (first | (simp only [List.getElem?_toArray, List.getElem?_cons_succ, List.getElem?_cons_zero]; done) | (simp only [List.getElem?_toArray, List.getElem?_cons_succ, List.getElem?_cons_zero]; rfl))
                case' hQN23 => exact fun _ _ _ h => h
                case' hyN23 => refine Or.inl ⟨by rfl, ?_⟩
                (intro w hSw; (try dsimp only at hSw); go_simp; try with_reducible rfl)
                try simp only [Act.put, List.setIfInBounds_toArray, List.set_cons_zero, List.set_cons_succ]
                refine' wpAnyH_take (i := 23) (oi := _) (v := _) ?hiN24 (by kernel_rfl) (by kernel_rfl) (by kernel_rfl) ?hQN24 ?hyN24 (by assumption) ?restN24
                case' hiN24 => (first | (simp only [List.getElem?_toArray, List.getElem?_cons_succ, List.getElem?_cons_zero]; done) | (simp only [List.getElem?_toArray, List.getElem?_cons_succ, List.getElem?_cons_zero]; rfl))
                case' hQN24 => exact fun _ _ _ h => h
                case' hyN24 => refine Or.inl ⟨by rfl, ?_⟩
                (intro w hSw; (try dsimp only at hSw); go_simp; try with_reducible rfl)
                try simp only [Act.put, List.setIfInBounds_toArray, List.set_cons_zero, List.set_cons_succ]
                refine' wpAnyH_take (i := 24) (oi := _) (v := _) ?hiN25 (by kernel_rfl) (by kernel_rfl) (by kernel_rfl) ?hQN25 ?hyN25 (by assumption) ?restN25
                case' hiN25 => (first | (simp only [List.getElem?_toArray, List.getElem?_cons_succ, List.getElem?_cons_zero]; done) | (simp only [List.getElem?_toArray, List.getElem?_cons_succ, List.getElem?_cons_zero]; rfl))
                case' hQN25 => exact fun _ _ _ h => h
                case' hyN25 => refine Or.inl ⟨by rfl, ?_⟩
                (intro w hSw; (try dsimp only at hSw); go_simp; try with_reducible rfl)
                try simp only [Act.put, List.setIfInBounds_toArray, List.set_cons_zero, List.set_cons_succ]
                refine' wpAnyH_take (i := 25) (oi := _) (v := undef) ?hiN26 (by kernel_rfl) (by kernel_rfl) (by kernel_rfl) ?hQN26 ?hyN26 (by assumption) ?restN26
                case' hiN26 => (first | (simp only [List.getElem?_toArray, List.getElem?_cons_succ, List.getElem?_cons_zero]; done) | (simp only [List.getElem?_toArray, List.getElem?_cons_succ, List.getElem?_cons_zero]; rfl))
                case' hQN26 => exact fun _ _ _ h => h
                case' hyN26 => exact Or.inr ⟨by rfl, rfl⟩
                try simp only [Act.put, List.setIfInBounds_toArray, List.set_cons_zero, List.set_cons_succ]
                refine' wpAnyH_take (i := 26) (oi := _) (v := undef) ?hiN27 (by kernel_rfl) (by kernel_rfl) (by kernel_rfl) ?hQN27 ?hyN27 (by assumption) ?restN27
                case' hiN27 => (first | (simp only [List.getElem?_toArray, List.getElem?_cons_succ, List.getElem?_cons_zero]; done) | (simp only [List.getElem?_toArray, List.getElem?_cons_succ, List.getElem?_cons_zero]; rfl))
                case' hQN27 => exact fun _ _ _ h => h
                case' hyN27 => exact Or.inr ⟨by rfl, rfl⟩
                try simp only [Act.put, List.setIfInBounds_toArray, List.set_cons_zero, List.set_cons_succ]
                refine' wpAnyH_take (i := 27) (oi := _) (v := undef) ?hiN28 (by kernel_rfl) (by kernel_rfl) (by kernel_rfl) ?hQN28 ?hyN28 (by assumption) ?restN28
                case' hiN28 => (first | (simp only [List.getElem?_toArray, List.getElem?_cons_succ, List.getElem?_cons_zero]; done) | (simp only [List.getElem?_toArray, List.getElem?_cons_succ, List.getElem?_cons_zero]; rfl))
                case' hQN28 => exact fun _ _ _ h => h
                case' hyN28 => exact Or.inr ⟨by rfl, rfl⟩
                try simp only [Act.put, List.setIfInBounds_toArray, List.set_cons_zero, List.set_cons_succ]
                refine' wpAnyH_take (i := 28) (oi := _) (v := undef) ?hiN29 (by kernel_rfl) (by kernel_rfl) (by kernel_rfl) ?hQN29 ?hyN29 (by assumption) ?restN29
                case' hiN29 => (first | (simp only [List.getElem?_toArray, List.getElem?_cons_succ, List.getElem?_cons_zero]; done) | (simp only [List.getElem?_toArray, List.getElem?_cons_succ, List.getElem?_cons_zero]; rfl))
                case' hQN29 => exact fun _ _ _ h => h
                case' hyN29 => exact Or.inr ⟨by rfl, rfl⟩
                try simp only [Act.put, List.setIfInBounds_toArray, List.set_cons_zero, List.set_cons_succ]
                refine' wpAnyH_take (i := 29) (oi := _) (v := undef) ?hiN30 (by kernel_rfl) (by kernel_rfl) (by kernel_rfl) ?hQN30 ?hyN30 (by assumption) ?restN30
                case' hiN30 => (first | (simp only [List.getElem?_toArray, List.getElem?_cons_succ, List.getElem?_cons_zero]; done) | (simp only [List.getElem?_toArray, List.getElem?_cons_succ, List.getElem?_cons_zero]; rfl))
                case' hQN30 => exact fun _ _ _ h => h
                case' hyN30 => exact Or.inr ⟨by rfl, rfl⟩
                try simp only [Act.put, List.setIfInBounds_toArray, List.set_cons_zero, List.set_cons_succ]
                refine' wpAnyH_take (i := 30) (oi := _) (v := _) ?hiN31 (by kernel_rfl) (by kernel_rfl) (by kernel_rfl) ?hQN31 ?hyN31 (by assumption) ?restN31
                case' hiN31 => (first | (simp only [List.getElem?_toArray, List.getElem?_cons_succ, List.getElem?_cons_zero]; done) | (simp only [List.getElem?_toArray, List.getElem?_cons_succ, List.getElem?_cons_zero]; rfl))
                case' hQN31 => exact fun _ _ _ h => h
                case' hyN31 => refine Or.inl ⟨by rfl, ?_⟩
                (intro w hSw; (try dsimp only at hSw); go_simp; try with_reducible rfl)
                try simp only [Act.put, List.setIfInBounds_toArray, List.set_cons_zero, List.set_cons_succ]
                refine' wpAnyH_take (i := 31) (oi := _) (v := _) ?hiN32 (by kernel_rfl) (by kernel_rfl) (by kernel_rfl) ?hQN32 ?hyN32 (by assumption) ?restN32
                case' hiN32 => (first | (simp only [List.getElem?_toArray, List.getElem?_cons_succ, List.getElem?_cons_zero]; done) | (simp only [List.getElem?_toArray, List.getElem?_cons_succ, List.getElem?_cons_zero]; rfl))
                case' hQN32 => exact fun _ _ _ h => h
                case' hyN32 => refine Or.inl ⟨by rfl, ?_⟩
                (intro w hSw; (try dsimp only at hSw); go_simp; try with_reducible rfl)
                try simp only [Act.put, List.setIfInBounds_toArray, List.set_cons_zero, List.set_cons_succ]
                refine' wpAnyH_take (i := 32) (oi := _) (v := _) ?hiN33 (by kernel_rfl) (by kernel_rfl) (by kernel_rfl) ?hQN33 ?hyN33 (by assumption) ?restN33
                case' hiN33 => (first | (simp only [List.getElem?_toArray, List.getElem?_cons_succ, List.getElem?_cons_zero]; done) | (simp only [List.getElem?_toArray, List.getElem?_cons_succ, List.getElem?_cons_zero]; rfl))
                case' hQN33 => exact fun _ _ _ h => h
                case' hyN33 => refine Or.inl ⟨by rfl, ?_⟩
                (intro w hSw; (try dsimp only at hSw); go_simp; try with_reducible rfl)
                try simp only [Act.put, List.setIfInBounds_toArray, List.set_cons_zero, List.set_cons_succ]
                refine' wpAnyH_take (i := 33) (oi := _) (v := _) ?hiN34 (by kernel_rfl) (by kernel_rfl) (by kernel_rfl) ?hQN34 ?hyN34 (by assumption) ?restN34
                case' hiN34 => (first | (simp only [List.getElem?_toArray, List.getElem?_cons_succ, List.getElem?_cons_zero]; done) | (simp only [List.getElem?_toArray, List.getElem?_cons_succ, List.getElem?_cons_zero]; rfl))
                case' hQN34 => exact fun _ _ _ h => h
                case' hyN34 => refine Or.inl ⟨by rfl, ?_⟩
                (intro w hSw; (try dsimp only at hSw); go_simp; try with_reducible rfl)
                try simp only [Act.put, List.setIfInBounds_toArray, List.set_cons_zero, List.set_cons_succ]
                refine' wpAnyH_take (i := 34) (oi := _) (v := _) ?hiN35 (by kernel_rfl) (by kernel_rfl) (by kernel_rfl) ?hQN35 ?hyN35 (by assumption) ?restN35
                case' hiN35 => (first | (simp only [List.getElem?_toArray, List.getElem?_cons_succ, List.getElem?_cons_zero]; done) | (simp only [List.getElem?_toArray, List.getElem?_cons_succ, List.getElem?_cons_zero]; rfl))
                case' hQN35 => exact fun _ _ _ h => h
                case' hyN35 => refine Or.inl ⟨by rfl, ?_⟩
                (intro w hSw; (try dsimp only at hSw); go_simp; try with_reducible rfl)
                try simp only [Act.put, List.setIfInBounds_toArray, List.set_cons_zero, List.set_cons_succ]
                refine' wpAnyH_take (i := 35) (oi := _) (v := _) ?hiN36 (by kernel_rfl) (by kernel_rfl) (by kernel_rfl) ?hQN36 ?hyN36 (by assumption) ?restN36
                case' hiN36 => (first | (simp only [List.getElem?_toArray, List.getElem?_cons_succ, List.getElem?_cons_zero]; done) | (simp only [List.getElem?_toArray, List.getElem?_cons_succ, List.getElem?_cons_zero]; rfl))
                case' hQN36 => exact fun _ _ _ h => h
                case' hyN36 => refine Or.inl ⟨by rfl, ?_⟩
                (intro w hSw; (try dsimp only at hSw); go_simp; try with_reducible rfl)
                try simp only [Act.put, List.setIfInBounds_toArray, List.set_cons_zero, List.set_cons_succ]
                refine' wpAnyH_take (i := 36) (oi := _) (v := _) ?hiN37 (by kernel_rfl) (by kernel_rfl) (by kernel_rfl) ?hQN37 ?hyN37 (by assumption) ?restN37
                case' hiN37 => (first | (simp only [List.getElem?_toArray, List.getElem?_cons_succ, List.getElem?_cons_zero]; done) | (simp only [List.getElem?_toArray, List.getElem?_cons_succ, List.getElem?_cons_zero]; rfl))
                case' hQN37 => exact fun _ _ _ h => h
                case' hyN37 => refine Or.inl ⟨by rfl, ?_⟩
                (intro w hSw; (try dsimp only at hSw); go_simp; try with_reducible rfl)
                try simp only [Act.put, List.setIfInBounds_toArray, List.set_cons_zero, List.set_cons_succ]
                refine' wpAnyH_take (i := 37) (oi := _) (v := _) ?hiN38 (by kernel_rfl) (by kernel_rfl) (by kernel_rfl) ?hQN38 ?hyN38 (by assumption) ?restN38
                case' hiN38 => (first | (simp only [List.getElem?_toArray, List.getElem?_cons_succ, List.getElem?_cons_zero]; done) | (simp only [List.getElem?_toArray, List.getElem?_cons_succ, List.getElem?_cons_zero]; rfl))
                case' hQN38 => exact fun _ _ _ h => h
                case' hyN38 => refine Or.inl ⟨by rfl, ?_⟩
                (intro w hSw; (try dsimp only at hSw); go_simp; try with_reducible rfl)
                try simp only [Act.put, List.setIfInBounds_toArray, List.set_cons_zero, List.set_cons_succ]
                refine' wpAnyH_take (i := 38) (oi := _) (v := _) ?hiN39 (by kernel_rfl) (by kernel_rfl) (by kernel_rfl) ?hQN39 ?hyN39 (by assumption) ?restN39
                case' hiN39 => (first | (simp only [List.getElem?_toArray, List.getElem?_cons_succ, List.getElem?_cons_zero]; done) | (simp only [List.getElem?_toArray, List.getElem?_cons_succ, List.getElem?_cons_zero]; rfl))
                case' hQN39 => exact fun _ _ _ h => h
                case' hyN39 => refine Or.inl ⟨by rfl, ?_⟩
                (intro w hSw; (try dsimp only at hSw); go_simp; try with_reducible rfl)
                try simp only [Act.put, List.setIfInBounds_toArray, List.set_cons_zero, List.set_cons_succ]
                refine' wpAnyH_take (i := 39) (oi := _) (v := _) ?hiN40 (by kernel_rfl) (by kernel_rfl) (by kernel_rfl) ?hQN40 ?hyN40 (by assumption) ?restN40
                case' hiN40 => (first | (simp only [List.getElem?_toArray, List.getElem?_cons_succ, List.getElem?_cons_zero]; done) | (simp only [List.getElem?_toArray, List.getElem?_cons_succ, List.getElem?_cons_zero]; rfl))
                case' hQN40 => exact fun _ _ _ h => h
                case' hyN40 => refine Or.inl ⟨by rfl, ?_⟩
                (intro w hSw; (try dsimp only at hSw); go_simp; try with_reducible rfl)
                try simp only [Act.put, List.setIfInBounds_toArray, List.set_cons_zero, List.set_cons_succ]
                refine' wpAnyH_take (i := 40) (oi := _) (v := _) ?hiN41 (by kernel_rfl) (by kernel_rfl) (by kernel_rfl) ?hQN41 ?hyN41 (by assumption) ?restN41
                case' hiN41 => (first | (simp only [List.getElem?_toArray, List.getElem?_cons_succ, List.getElem?_cons_zero]; done) | (simp only [List.getElem?_toArray, List.getElem?_cons_succ, List.getElem?_cons_zero]; rfl))
                case' hQN41 => exact fun _ _ _ h => h
                case' hyN41 => refine Or.inl ⟨by rfl, ?_⟩
                (intro w hSw; (try dsimp only at hSw); go_simp; try with_reducible rfl)
                try simp only [Act.put, List.setIfInBounds_toArray, List.set_cons_zero, List.set_cons_succ]
                refine' wpAnyH_take (i := 41) (oi := _) (v := _) ?hiN42 (by kernel_rfl) (by kernel_rfl) (by kernel_rfl) ?hQN42 ?hyN42 (by assumption) ?restN42
                case' hiN42 => (first | (simp only [List.getElem?_toArray, List.getElem?_cons_succ, List.getElem?_cons_zero]; done) | (simp only [List.getElem?_toArray, List.getElem?_cons_succ, List.getElem?_cons_zero]; rfl))
                case' hQN42 => exact fun _ _ _ h => h
                case' hyN42 => refine Or.inl ⟨by rfl, ?_⟩
                (intro w hSw; (try dsimp only at hSw); go_simp; try with_reducible rfl)
                try simp only [Act.put, List.setIfInBounds_toArray, List.set_cons_zero, List.set_cons_succ]
                refine' wpAnyH_take (i := 42) (oi := _) (v := _) ?hiN43 (by kernel_rfl) (by kernel_rfl) (by kernel_rfl) ?hQN43 ?hyN43 (by assumption) ?restN43
                case' hiN43 => (first | (simp only [List.getElem?_toArray, List.getElem?_cons_succ, List.getElem?_cons_zero]; done) | (simp only [List.getElem?_toArray, List.getElem?_cons_succ, List.getElem?_cons_zero]; rfl))
                case' hQN43 => exact fun _ _ _ h => h
                case' hyN43 => refine Or.inl ⟨by rfl, ?_⟩
                (intro w hSw; (try dsimp only at hSw); go_simp; try with_reducible rfl)
                try simp only [Act.put, List.setIfInBounds_toArray, List.set_cons_zero, List.set_cons_succ]
                refine' wpAnyH_take (i := 43) (oi := _) (v := _) ?hiN44 (by kernel_rfl) (by kernel_rfl) (by kernel_rfl) ?hQN44 ?hyN44 (by assumption) ?restN44
                case' hiN44 => (first | (simp only [List.getElem?_toArray, List.getElem?_cons_succ, List.getElem?_cons_zero]; done) | (simp only [List.getElem?_toArray, List.getElem?_cons_succ, List.getElem?_cons_zero]; rfl))
                case' hQN44 => exact fun _ _ _ h => h
                case' hyN44 => refine Or.inl ⟨by rfl, ?_⟩
                (intro w hSw; (try dsimp only at hSw); go_simp; try with_reducible rfl)
                try simp only [Act.put, List.setIfInBounds_toArray, List.set_cons_zero, List.set_cons_succ]
                refine' wpAnyH_take (i := 44) (oi := _) (v := _) ?hiN45 (by kernel_rfl) (by kernel_rfl) (by kernel_rfl) ?hQN45 ?hyN45 (by assumption) ?restN45
                case' hiN45 => (first | (simp only [List.getElem?_toArray, List.getElem?_cons_succ, List.getElem?_cons_zero]; done) | (simp only [List.getElem?_toArray, List.getElem?_cons_succ, List.getElem?_cons_zero]; rfl))
                case' hQN45 => exact fun _ _ _ h => h
                case' hyN45 => refine Or.inl ⟨by rfl, ?_⟩
                (intro w hSw; (try dsimp only at hSw); go_simp; try with_reducible rfl)
                try simp only [Act.put, List.setIfInBounds_toArray, List.set_cons_zero, List.set_cons_succ]
                refine' wpAnyH_take (i := 46) (oi := _) (v := _) ?hiN46 (by kernel_rfl) (by kernel_rfl) (by kernel_rfl) ?hQN46 ?hyN46 (by assumption) ?restN46
                case' hiN46 => (first | (simp only [List.getElem?_toArray, List.getElem?_cons_succ, List.getElem?_cons_zero]; done) | (simp only [List.getElem?_toArray, List.getElem?_cons_succ, List.getElem?_cons_zero]; rfl))
                case' hQN46 => exact fun _ _ _ h => h
                case' hyN46 => refine Or.inl ⟨by rfl, ?_⟩
                (intro w hSw; (try dsimp only at hSw); go_simp; try with_reducible rfl)
                try simp only [Act.put, List.setIfInBounds_toArray, List.set_cons_zero, List.set_cons_succ]
                refine' wpAnyH_take (i := 47) (oi := _) (v := _) ?hiN47 (by kernel_rfl) (by kernel_rfl) (by kernel_rfl) ?hQN47 ?hyN47 (by assumption) ?restN47
                case' hiN47 => (first | (simp only [List.getElem?_toArray, List.getElem?_cons_succ, List.getElem?_cons_zero]; done) | (simp only [List.getElem?_toArray, List.getElem?_cons_succ, List.getElem?_cons_zero]; rfl))
                case' hQN47 => exact fun _ _ _ h => h
                case' hyN47 => refine Or.inl ⟨by rfl, ?_⟩
                (intro w hSw; (try dsimp only at hSw); go_simp; try with_reducible rfl)
                try simp only [Act.put, List.setIfInBounds_toArray, List.set_cons_zero, List.set_cons_succ]
                refine' wpAnyH_take (i := 48) (oi := _) (v := _) ?hiN48 (by kernel_rfl) (by kernel_rfl) (by kernel_rfl) ?hQN48 ?hyN48 (by assumption) ?restN48
                case' hiN48 => (first | (simp only [List.getElem?_toArray, List.getElem?_cons_succ, List.getElem?_cons_zero]; done) | (simp only [List.getElem?_toArray, List.getElem?_cons_succ, List.getElem?_cons_zero]; rfl))
                case' hQN48 => exact fun _ _ _ h => h
                case' hyN48 => refine Or.inl ⟨by rfl, ?_⟩
                (intro w hSw; (try dsimp only at hSw); go_simp; try with_reducible rfl)
                try simp only [Act.put, List.setIfInBounds_toArray, List.set_cons_zero, List.set_cons_succ]
                refine wpAnyH_ready (rs := [45]) (by kernel_rfl) (by simp) ?_
                refine' AllReadyH.cons (o := _) ?hiN49 (fun K hK => ?hKN49) AllReadyH.nil
                case' hiN49 => (first | (simp only [List.getElem?_toArray, List.getElem?_cons_succ, List.getElem?_cons_zero]; done) | (simp only [List.getElem?_toArray, List.getElem?_cons_succ, List.getElem?_cons_zero]; rfl))
                go_simp
                (go_at_call 13; refine (pkDue (PK.out _ (by first | exact Upd.refl _ _ | exact (Upd.refl _ _).drew)) HLN.out).mono ?_; rintro e w8 ⟨v8, rfl, s8, p8⟩; (have y8 := PS.out _ p8); (have S8 := Lib.hid s8); (have P8 := Lib.hid p8); clear s8 p8)
                refine hK.out _ _ ?_ (fun hHeld => ?_)
                · (try dsimp only); go_keep
                clear hK K
                try simp only [Act.put, List.setIfInBounds_toArray, List.set_cons_zero, List.set_cons_succ]
                refine wpAnyH_ready (rs := [49]) (by kernel_rfl) (by simp) ?_
                refine' AllReadyH.cons (o := _) ?hiN50 (fun K hK => ?hKN50) AllReadyH.nil
                case' hiN50 => (first | (simp only [List.getElem?_toArray, List.getElem?_cons_succ, List.getElem?_cons_zero]; done) | (simp only [List.getElem?_toArray, List.getElem?_cons_succ, List.getElem?_cons_zero]; rfl))
                go_simp
                (go_at_call 22; refine (pkRdue P8.out HLN.out S8.out).mono ?_; rintro e w9 ⟨v9, rfl, s9, s89, p9⟩; (have y9 := PS.out _ p9); (have S9 := Lib.hid s9); (have S89 := Lib.hid s89); (have P9 := Lib.hid p9); clear s9 s89 p9)
                refine hK.out _ _ ?_ (fun hHeld => ?_)
                · (try dsimp only); go_keep
                clear hK K
                try simp only [Act.put, List.setIfInBounds_toArray, List.set_cons_zero, List.set_cons_succ]
                refine wpAnyH_ready (rs := [50]) (by kernel_rfl) (by simp) ?_
                refine' AllReadyH.cons (o := _) ?hiN51 (fun K hK => ?hKN51) AllReadyH.nil
                case' hiN51 => (first | (simp only [List.getElem?_toArray, List.getElem?_cons_succ, List.getElem?_cons_zero]; done) | (simp only [List.getElem?_toArray, List.getElem?_cons_succ, List.getElem?_cons_zero]; rfl))
                go_simp
                (go_at_call 14; refine (pkSame P9.out S89.out S9.out).mono ?_; rintro e w10 ⟨rfl, p10⟩; (have y10 := PS.out _ p10); (have P10 := Lib.hid p10); clear p10)
                refine hK.out _ _ ?_ (fun hHeld => ?_)
                · (try dsimp only); go_keep
                clear hK K
                try simp only [Act.put, List.setIfInBounds_toArray, List.set_cons_zero, List.set_cons_succ]
                refine' wpAnyH_take (i := 51) (oi := _) (v := _) ?hiN52 (by kernel_rfl) (by kernel_rfl) (by kernel_rfl) ?hQN52 ?hyN52 (by assumption) ?restN52
                case' hiN52 => (first | (simp only [List.getElem?_toArray, List.getElem?_cons_succ, List.getElem?_cons_zero]; done) | (simp only [List.getElem?_toArray, List.getElem?_cons_succ, List.getElem?_cons_zero]; rfl))
                case' hQN52 => exact fun _ _ _ h => h
                case' hyN52 => refine Or.inl ⟨by rfl, ?_⟩
                (intro w hSw; (try dsimp only at hSw); go_simp; try with_reducible rfl)
                try simp only [Act.put, List.setIfInBounds_toArray, List.set_cons_zero, List.set_cons_succ]
                refine' wpAnyH_take (i := 52) (oi := _) (v := _) ?hiN53 (by kernel_rfl) (by kernel_rfl) (by kernel_rfl) ?hQN53 ?hyN53 (by assumption) ?restN53
                case' hiN53 => (first | (simp only [List.getElem?_toArray, List.getElem?_cons_succ, List.getElem?_cons_zero]; done) | (simp only [List.getElem?_toArray, List.getElem?_cons_succ, List.getElem?_cons_zero]; rfl))
                case' hQN53 => exact fun _ _ _ h => h
                case' hyN53 => refine Or.inl ⟨by rfl, ?_⟩
                (intro w hSw; (try dsimp only at hSw); go_simp; try with_reducible rfl)
                try simp only [Act.put, List.setIfInBounds_toArray, List.set_cons_zero, List.set_cons_succ]
                refine wpAnyH_done (by kernel_rfl) ?_ _
                all_goals (go_wp2_with fail; go_meet; exact ⟨by simp, P10⟩)
          | cons d r =>
            obtain ⟨dw, dk⟩ := d
            obtain ⟨g, rfl⟩ := dues_head D4.out
            have hg0 := dues_lt D4.out
            have GW : g < wc.heap.size := hg0
            clear hg0
            have ck := BA.out.cellAt (i := 1) rfl
            have hkb : wr.heap.size < wc.heap.size := BA.out.lt
            have XG := Lib.hid (xget_any wc w.heap.size xa ((dw, dk) :: r) _ key X4.out)
            have RG := Lib.hid (rget_any _ ((dw, dk) :: r) key wc D4.out.row (by omega))
            generalize getV ((dw, dk) :: r) key = gv at XG RG
            obtain ⟨gn, gb⟩ := gv
            go_wp2_with fail
            refine (XG.out).mono ?_
            rintro e w5 ⟨rfl, rfl⟩
            go_wp2_with fail
            refine (RG.out).mono ?_
            rintro e w6 ⟨rfl, u6⟩
            have SZ6 := Lib.hid u6.size
            have X6 := Lib.hid (X4.out.keep u6 (fun _ _ h => h))
            have D6 := Lib.hid (D4.out.keep u6 (fun _ _ h => h))
            have U6 := Lib.hid (U4.out.trans u6 (fun _ _ h => h))
            have NX := xnext_any w6 w.heap.size xa ((dw, dk) :: r) _ X6.out (by omega)
            unfold dueV at NX
            simp only [List.head?_nil, List.head?_cons, Option.isSome_none, Option.isSome_some] at NX
            have NX := Lib.hid NX
            clear u6 XG RG X4 D4 U4 BA ck
            go_wp2_with fail
            refine (NX.out).mono ?_
            rintro e w7 ⟨rfl, u7⟩
            have SZ7 := Lib.hid u7.size
            have X7 := Lib.hid (X6.out.keep u7 (fun _ _ h => h))
            have D7 := Lib.hid (D6.out.keep u7 (fun _ _ h => h))
            have U7 := Lib.hid (U6.out.trans u7 (fun _ _ h => h))
            clear u7 NX X6 D6 U6
            have HW6 := Lib.hid (show w5.heap.size ≤ w7.heap.size from Nat.le_trans (by first | exact SZ6.out | exact Nat.le_refl _) SZ7.out)
            have PK := Lib.hid (fun (v : World) (u : Upd (fun _ => False) (w7.alloc (.cells #[.int .i64 (dw), .string (dk)] 26)) v) => (show RunsPk w xa ((dw, dk) :: r) (.slice (some ⟨g, 0, none⟩) ((dw, dk) :: r).length c4) w7.heap.size (dw, dk) v from RunsPk.keep0 ⟨_, X7.out.keep ((Upd.refl _ _).alloc _) (fun _ _ h => h), F4.out, D7.out.keep ((Upd.refl (fun _ => False) _).alloc _) (fun _ _ h => h), U7.out.alloc _, Blk.made w7 [.int .i64 (dw), .string (dk)] _⟩ u))
            clear X7 D7 U7 F4
            have HLN := Lib.hid (show ((dw, dk) :: r).length ≤ 1000 by omega)
            go_upto_region 26 with fail
            go_cut [145] (fun x w' => x = .bool false ∧ Hid (RunsPk w xa ((dw, dk) :: r) (.slice (some ⟨g, 0, none⟩) ((dw, dk) :: r).length c4) w7.heap.size (dw, dk) w'))
            case rest =>
              obtain ⟨rfl, PK9⟩ := hcut
              go_wp2
              go_roundw
              case rel =>
                obtain ⟨E9, x9, f9, d9, u9, _⟩ := PK9.out
                exact ⟨k + 1, _, E9, by omega, by go_num, Lib.hid x9, Lib.hid f9, Lib.hid d9, SZ4, hL4, Lib.hid u9⟩
              case measure => simp [intOf]; omega
            case first =>
              as_aux_lemma =>
                have PS : Hid (∀ v, RunsPk w xa ((dw, dk) :: r) (.slice (some ⟨g, 0, none⟩) ((dw, dk) :: r).length c4) w7.heap.size (dw, dk) v → v.cell? ⟨w7.heap.size, 0, none⟩ = some (.int .i64 dw) ∧ v.cell? ⟨w7.heap.size, 1, none⟩ = some (.string dk) ∧ v.cell? ⟨g, 0, none⟩ = some (.int .i64 dw) ∧ v.cell? ⟨g, 1, none⟩ = some (.string dk)) := fun v hp => by
                  obtain ⟨_, _, _, hd, _, hb⟩ := hp
                  obtain ⟨e1, e2⟩ := dues_head2 hd
                  exact ⟨hb.cellAt (i := 0) rfl, hb.cellAt (i := 1) rfl, e1, e2⟩
                have yy := PS.out _ (PK.out _ (Upd.refl _ _))
                obtain ⟨_, _, yy1, yy2⟩ := yy
                have hgl : g < w7.heap.size := Nat.lt_of_lt_of_le GW HW6.out
                refine wp_region_held_drew (S := (fun w' => w'.cell? ⟨w7.heap.size, 0, none⟩ = some (.int .i64 dw) ∧ w'.cell? ⟨w7.heap.size, 1, none⟩ = some (.string dk) ∧ w'.cell? ⟨g, 0, none⟩ = some (.int .i64 dw) ∧ w'.cell? ⟨g, 1, none⟩ = some (.string dk))) (by kernel_rfl) ?_ (fun hHeld => ?_)
                · (try dsimp only); go_keep
                try simp only [Array.replicate, Act.put, List.setIfInBounds_toArray]
                refine' wpAnyH_take (i := 0) (oi := _) (v := _) ?hiC1 (by kernel_rfl) (by kernel_rfl) (by kernel_rfl) ?hQC1 ?hyC1 (by assumption) ?restC1
                case' hiC1 => (first | (simp only [List.getElem?_toArray, List.getElem?_cons_succ, List.getElem?_cons_zero]; done) | (simp only [List.getElem?_toArray, List.getElem?_cons_succ, List.getElem?_cons_zero]; rfl))
                case' hQC1 => exact fun _ _ _ h => h
                case' hyC1 => refine Or.inl ⟨by rfl, ?_⟩
                (intro w hSw; (try dsimp only at hSw); go_simp; try with_reducible rfl)
                try simp only [Act.put, List.setIfInBounds_toArray, List.set_cons_zero, List.set_cons_succ]
                refine' wpAnyH_take (i := 1) (oi := _) (v := _) ?hiC2 (by kernel_rfl) (by kernel_rfl) (by kernel_rfl) ?hQC2 ?hyC2 (by assumption) ?restC2
                case' hiC2 => (first | (simp only [List.getElem?_toArray, List.getElem?_cons_succ, List.getElem?_cons_zero]; done) | (simp only [List.getElem?_toArray, List.getElem?_cons_succ, List.getElem?_cons_zero]; rfl))
                case' hQC2 => exact fun _ _ _ h => h
                case' hyC2 => refine Or.inl ⟨by rfl, ?_⟩
                (intro w hSw; (try dsimp only at hSw); go_simp; try with_reducible rfl)
                try simp only [Act.put, List.setIfInBounds_toArray, List.set_cons_zero, List.set_cons_succ]
                refine' wpAnyH_take (i := 2) (oi := _) (v := _) ?hiC3 (by kernel_rfl) (by kernel_rfl) (by kernel_rfl) ?hQC3 ?hyC3 (by assumption) ?restC3
                case' hiC3 => (first | (simp only [List.getElem?_toArray, List.getElem?_cons_succ, List.getElem?_cons_zero]; done) | (simp only [List.getElem?_toArray, List.getElem?_cons_succ, List.getElem?_cons_zero]; rfl))
                case' hQC3 => exact fun _ _ _ h => h
                case' hyC3 => refine Or.inl ⟨by rfl, ?_⟩
                (intro w hSw; (try dsimp only at hSw); go_simp; try with_reducible rfl)
                try simp only [Act.put, List.setIfInBounds_toArray, List.set_cons_zero, List.set_cons_succ]
                refine' wpAnyH_take (i := 3) (oi := _) (v := _) ?hiC4 (by kernel_rfl) (by kernel_rfl) (by kernel_rfl) ?hQC4 ?hyC4 (by assumption) ?restC4
                case' hiC4 => (first | (simp only [List.getElem?_toArray, List.getElem?_cons_succ, List.getElem?_cons_zero]; done) | (simp only [List.getElem?_toArray, List.getElem?_cons_succ, List.getElem?_cons_zero]; rfl))
                case' hQC4 => exact fun _ _ _ h => h
                case' hyC4 => refine Or.inl ⟨by rfl, ?_⟩
                (intro w hSw; (try dsimp only at hSw); go_simp; try with_reducible rfl)
                try simp only [Act.put, List.setIfInBounds_toArray, List.set_cons_zero, List.set_cons_succ]
                refine' wpAnyH_take (i := 4) (oi := _) (v := _) ?hiC5 (by kernel_rfl) (by kernel_rfl) (by kernel_rfl) ?hQC5 ?hyC5 (by assumption) ?restC5
                case' hiC5 => (first | (simp only [List.getElem?_toArray, List.getElem?_cons_succ, List.getElem?_cons_zero]; done) | (simp only [List.getElem?_toArray, List.getElem?_cons_succ, List.getElem?_cons_zero]; rfl))
                case' hQC5 => exact fun _ _ _ h => h
                case' hyC5 => refine Or.inl ⟨by rfl, ?_⟩
                (intro w hSw; (try dsimp only at hSw); go_simp; try with_reducible rfl)
                try simp only [Act.put, List.setIfInBounds_toArray, List.set_cons_zero, List.set_cons_succ]
                refine' wpAnyH_take (i := 5) (oi := _) (v := _) ?hiC6 (by kernel_rfl) (by kernel_rfl) (by kernel_rfl) ?hQC6 ?hyC6 (by assumption) ?restC6
                case' hiC6 => (first | (simp only [List.getElem?_toArray, List.getElem?_cons_succ, List.getElem?_cons_zero]; done) | (simp only [List.getElem?_toArray, List.getElem?_cons_succ, List.getElem?_cons_zero]; rfl))
                case' hQC6 => exact fun _ _ _ h => h
                case' hyC6 => refine Or.inl ⟨by rfl, ?_⟩
                (intro w hSw; (try dsimp only at hSw); go_simp; try with_reducible rfl)
                try simp only [Act.put, List.setIfInBounds_toArray, List.set_cons_zero, List.set_cons_succ]
                refine' wpAnyH_take (i := 6) (oi := _) (v := _) ?hiC7 (by kernel_rfl) (by kernel_rfl) (by kernel_rfl) ?hQC7 ?hyC7 (by assumption) ?restC7
                case' hiC7 => (first | (simp only [List.getElem?_toArray, List.getElem?_cons_succ, List.getElem?_cons_zero]; done) | (simp only [List.getElem?_toArray, List.getElem?_cons_succ, List.getElem?_cons_zero]; rfl))
                case' hQC7 => exact fun _ _ _ h => h
                case' hyC7 => refine Or.inl ⟨by rfl, ?_⟩
                (intro w hSw; (try dsimp only at hSw); go_simp; try with_reducible rfl)
                try simp only [Act.put, List.setIfInBounds_toArray, List.set_cons_zero, List.set_cons_succ]
                refine' wpAnyH_take (i := 7) (oi := _) (v := _) ?hiC8 (by kernel_rfl) (by kernel_rfl) (by kernel_rfl) ?hQC8 ?hyC8 (by assumption) ?restC8
                case' hiC8 => (first | (simp only [List.getElem?_toArray, List.getElem?_cons_succ, List.getElem?_cons_zero]; done) | (simp only [List.getElem?_toArray, List.getElem?_cons_succ, List.getElem?_cons_zero]; rfl))
                case' hQC8 => exact fun _ _ _ h => h
                case' hyC8 => refine Or.inl ⟨by rfl, ?_⟩
                (intro w hSw; (try dsimp only at hSw); go_simp; try with_reducible rfl)
                try simp only [Act.put, List.setIfInBounds_toArray, List.set_cons_zero, List.set_cons_succ]
                refine' wpAnyH_take (i := 8) (oi := _) (v := _) ?hiC9 (by kernel_rfl) (by kernel_rfl) (by kernel_rfl) ?hQC9 ?hyC9 (by assumption) ?restC9
                case' hiC9 => (first | (simp only [List.getElem?_toArray, List.getElem?_cons_succ, List.getElem?_cons_zero]; done) | (simp only [List.getElem?_toArray, List.getElem?_cons_succ, List.getElem?_cons_zero]; rfl))
                case' hQC9 => exact fun _ _ _ h => h
                case' hyC9 => refine Or.inl ⟨by rfl, ?_⟩
                (intro w hSw; (try dsimp only at hSw); go_simp; try with_reducible rfl)
                try simp only [Act.put, List.setIfInBounds_toArray, List.set_cons_zero, List.set_cons_succ]
                refine' wpAnyH_take (i := 9) (oi := _) (v := _) ?hiC10 (by kernel_rfl) (by kernel_rfl) (by kernel_rfl) ?hQC10 ?hyC10 (by assumption) ?restC10
                case' hiC10 => (first | (simp only [List.getElem?_toArray, List.getElem?_cons_succ, List.getElem?_cons_zero]; done) | (simp only [List.getElem?_toArray, List.getElem?_cons_succ, List.getElem?_cons_zero]; rfl))
                case' hQC10 => exact fun _ _ _ h => h
                case' hyC10 => refine Or.inl ⟨by rfl, ?_⟩
                (intro w hSw; (try dsimp only at hSw); go_simp; try with_reducible rfl)
                try simp only [Act.put, List.setIfInBounds_toArray, List.set_cons_zero, List.set_cons_succ]
                refine' wpAnyH_take (i := 11) (oi := _) (v := _) ?hiC11 (by kernel_rfl) (by kernel_rfl) (by kernel_rfl) ?hQC11 ?hyC11 (by assumption) ?restC11
                case' hiC11 => (first | (simp only [List.getElem?_toArray, List.getElem?_cons_succ, List.getElem?_cons_zero]; done) | (simp only [List.getElem?_toArray, List.getElem?_cons_succ, List.getElem?_cons_zero]; rfl))
                case' hQC11 => exact fun _ _ _ h => h
                case' hyC11 => refine Or.inl ⟨by rfl, ?_⟩
                (intro w hSw; (try dsimp only at hSw); go_simp; try with_reducible rfl)
                try simp only [Act.put, List.setIfInBounds_toArray, List.set_cons_zero, List.set_cons_succ]
                refine' wpAnyH_take (i := 12) (oi := _) (v := _) ?hiC12 (by kernel_rfl) (by kernel_rfl) (by kernel_rfl) ?hQC12 ?hyC12 (by assumption) ?restC12
                case' hiC12 => (first | (simp only [List.getElem?_toArray, List.getElem?_cons_succ, List.getElem?_cons_zero]; done) | (simp only [List.getElem?_toArray, List.getElem?_cons_succ, List.getElem?_cons_zero]; rfl))
                case' hQC12 => exact fun _ _ _ h => h
                case' hyC12 => refine Or.inl ⟨by rfl, ?_⟩
                (intro w hSw; (try dsimp only at hSw); go_simp; try with_reducible rfl)
                try simp only [Act.put, List.setIfInBounds_toArray, List.set_cons_zero, List.set_cons_succ]
                refine wpAnyH_ready (rs := [10]) (by kernel_rfl) (by simp) ?_
                refine' AllReadyH.cons (o := _) ?hiC13 (fun K hK => ?hKC13) AllReadyH.nil
                case' hiC13 => (first | (simp only [List.getElem?_toArray, List.getElem?_cons_succ, List.getElem?_cons_zero]; done) | (simp only [List.getElem?_toArray, List.getElem?_cons_succ, List.getElem?_cons_zero]; rfl))
                go_simp
                (go_at_call 21; refine (pkLen (PK.out _ (by first | exact Upd.refl _ _ | exact (Upd.refl _ _).drew)) HLN.out).mono ?_; rintro e w' ⟨rfl, rfl⟩)
                refine hK.out _ _ ?_ (fun hHeld => ?_)
                · (try dsimp only); go_keep
                clear hK K
                try simp only [Act.put, List.setIfInBounds_toArray, List.set_cons_zero, List.set_cons_succ]
                refine' wpAnyH_take (i := 13) (oi := _) (v := _) ?hiC14 (by kernel_rfl) (by kernel_rfl) (by kernel_rfl) ?hQC14 ?hyC14 (by assumption) ?restC14
                case' hiC14 => (first | (simp only [List.getElem?_toArray, List.getElem?_cons_succ, List.getElem?_cons_zero]; done) | (simp only [List.getElem?_toArray, List.getElem?_cons_succ, List.getElem?_cons_zero]; rfl))
                case' hQC14 => exact fun _ _ _ h => h
                case' hyC14 => refine Or.inl ⟨by rfl, ?_⟩
                (intro w hSw; (try dsimp only at hSw); go_simp; try with_reducible rfl)
                try simp only [Act.put, List.setIfInBounds_toArray, List.set_cons_zero, List.set_cons_succ]
                refine' wpAnyH_take (i := 14) (oi := _) (v := _) ?hiC15 (by kernel_rfl) (by kernel_rfl) (by kernel_rfl) ?hQC15 ?hyC15 (by assumption) ?restC15
                case' hiC15 => (first | (simp only [List.getElem?_toArray, List.getElem?_cons_succ, List.getElem?_cons_zero]; done) | (simp only [List.getElem?_toArray, List.getElem?_cons_succ, List.getElem?_cons_zero]; rfl))
                case' hQC15 => exact fun _ _ _ h => h
                case' hyC15 => refine Or.inl ⟨by rfl, ?_⟩
                (intro w hSw; (try dsimp only at hSw); go_simp; try with_reducible rfl)
                try simp only [Act.put, List.setIfInBounds_toArray, List.set_cons_zero, List.set_cons_succ]
                refine' wpAnyH_take (i := 15) (oi := _) (v := _) ?hiC16 (by kernel_rfl) (by kernel_rfl) (by kernel_rfl) ?hQC16 ?hyC16 (by assumption) ?restC16
                case' hiC16 => (first | (simp only [List.getElem?_toArray, List.getElem?_cons_succ, List.getElem?_cons_zero]; done) | (simp only [List.getElem?_toArray, List.getElem?_cons_succ, List.getElem?_cons_zero]; rfl))
                case' hQC16 => exact fun _ _ _ h => h
                case' hyC16 => refine Or.inl ⟨by rfl, ?_⟩
                (intro w hSw; (try dsimp only at hSw); go_simp; try with_reducible rfl)
                try simp only [Act.put, List.setIfInBounds_toArray, List.set_cons_zero, List.set_cons_succ]
                refine' wpAnyH_take (i := 16) (oi := _) (v := _) ?hiC17 (by kernel_rfl) (by kernel_rfl) (by kernel_rfl) ?hQC17 ?hyC17 (by assumption) ?restC17
                case' hiC17 => (first | (simp only [List.getElem?_toArray, List.getElem?_cons_succ, List.getElem?_cons_zero]; done) | (simp only [List.getElem?_toArray, List.getElem?_cons_succ, List.getElem?_cons_zero]; rfl))
                case' hQC17 => exact fun _ _ _ h => h
                case' hyC17 => refine Or.inl ⟨by rfl, ?_⟩
                (intro w hSw; (try dsimp only at hSw); go_simp; try with_reducible rfl)
                try simp only [Act.put, List.setIfInBounds_toArray, List.set_cons_zero, List.set_cons_succ]
                refine' wpAnyH_take (i := 17) (oi := _) (v := _) ?hiC18 (by kernel_rfl) (by kernel_rfl) (by kernel_rfl) ?hQC18 ?hyC18 (by assumption) ?restC18
                case' hiC18 => (first | (simp only [List.getElem?_toArray, List.getElem?_cons_succ, List.getElem?_cons_zero]; done) | (simp only [List.getElem?_toArray, List.getElem?_cons_succ, List.getElem?_cons_zero]; rfl))
                case' hQC18 => exact fun _ _ _ h => h
                case' hyC18 => refine Or.inl ⟨by rfl, ?_⟩
                (intro w hSw; (try dsimp only at hSw); go_simp; try with_reducible rfl)
                try simp only [Act.put, List.setIfInBounds_toArray, List.set_cons_zero, List.set_cons_succ]
                refine' wpAnyH_take (i := 18) (oi := _) (v := _) ?hiC19 (by kernel_rfl) (by kernel_rfl) (by kernel_rfl) ?hQC19 ?hyC19 (by assumption) ?restC19
                case' hiC19 => (first | (simp only [List.getElem?_toArray, List.getElem?_cons_succ, List.getElem?_cons_zero]; done) | (simp only [List.getElem?_toArray, List.getElem?_cons_succ, List.getElem?_cons_zero]; rfl))
                case' hQC19 => exact fun _ _ _ h => h
                case' hyC19 => refine Or.inl ⟨by rfl, ?_⟩
                (intro w hSw; (try dsimp only at hSw); go_simp; try with_reducible rfl)
                try simp only [Act.put, List.setIfInBounds_toArray, List.set_cons_zero, List.set_cons_succ]
                refine' wpAnyH_take (i := 19) (oi := _) (v := _) ?hiC20 (by kernel_rfl) (by kernel_rfl) (by kernel_rfl) ?hQC20 ?hyC20 (by assumption) ?restC20
                case' hiC20 => (first | (simp only [List.getElem?_toArray, List.getElem?_cons_succ, List.getElem?_cons_zero]; done) | (simp only [List.getElem?_toArray, List.getElem?_cons_succ, List.getElem?_cons_zero]; rfl))
                case' hQC20 => exact fun _ _ _ h => h
                case' hyC20 => refine Or.inl ⟨by rfl, ?_⟩
                (intro w hSw; (try dsimp only at hSw); go_simp; try with_reducible rfl)
                try simp only [Act.put, List.setIfInBounds_toArray, List.set_cons_zero, List.set_cons_succ]
                refine' wpAnyH_take (i := 20) (oi := _) (v := _) ?hiC21 (by kernel_rfl) (by kernel_rfl) (by kernel_rfl) ?hQC21 ?hyC21 (by assumption) ?restC21
                case' hiC21 => (first | (simp only [List.getElem?_toArray, List.getElem?_cons_succ, List.getElem?_cons_zero]; done) | (simp only [List.getElem?_toArray, List.getElem?_cons_succ, List.getElem?_cons_zero]; rfl))
                case' hQC21 => exact fun _ _ _ h => h
                case' hyC21 => refine Or.inl ⟨by rfl, ?_⟩
                (intro w hSw; (try dsimp only at hSw); go_simp; try with_reducible rfl)
                try simp only [Act.put, List.setIfInBounds_toArray, List.set_cons_zero, List.set_cons_succ]
                refine' wpAnyH_take (i := 21) (oi := _) (v := _) ?hiC22 (by kernel_rfl) (by kernel_rfl) (by kernel_rfl) ?hQC22 ?hyC22 (by assumption) ?restC22
                case' hiC22 => (first | (simp only [List.getElem?_toArray, List.getElem?_cons_succ, List.getElem?_cons_zero]; done) | (simp only [List.getElem?_toArray, List.getElem?_cons_succ, List.getElem?_cons_zero]; rfl))
                case' hQC22 => exact fun _ _ _ h => h
                case' hyC22 => refine Or.inl ⟨by rfl, ?_⟩
                (intro w hSw; (try dsimp only at hSw); go_simp; try with_reducible rfl)
                try simp only [Act.put, List.setIfInBounds_toArray, List.set_cons_zero, List.set_cons_succ]
                refine' wpAnyH_take (i := 22) (oi := _) (v := _) ?hiC23 (by kernel_rfl) (by kernel_rfl) (by kernel_rfl) ?hQC23 ?hyC23 (by assumption) ?restC23
                case' hiC23 => (first | (simp only [List.getElem?_toArray, List.getElem?_cons_succ, List.getElem?_cons_zero]; done) | (simp only [List.getElem?_toArray, List.getElem?_cons_succ, List.getElem?_cons_zero]; rfl))
                case' hQC23 => exact fun _ _ _ h => h
                case' hyC23 => refine Or.inl ⟨by rfl, ?_⟩
                (intro w hSw; (try dsimp only at hSw); go_simp; try with_reducible rfl)
                try simp only [Act.put, List.setIfInBounds_toArray, List.set_cons_zero, List.set_cons_succ]
                refine' wpAnyH_take (i := 23) (oi := _) (v := _) ?hiC24 (by kernel_rfl) (by kernel_rfl) (by kernel_rfl) ?hQC24 ?hyC24 (by assumption) ?restC24
                case' hiC24 => (first | (simp only [List.getElem?_toArray, List.getElem?_cons_succ, List.getElem?_cons_zero]; done) | (simp only [List.getElem?_toArray, List.getElem?_cons_succ, List.getElem?_cons_zero]; rfl))
                case' hQC24 => exact fun _ _ _ h => h
                case' hyC24 => refine Or.inl ⟨by rfl, ?_⟩
                (intro w hSw; (try dsimp only at hSw); go_simp; try with_reducible rfl)
                try simp only [Act.put, List.setIfInBounds_toArray, List.set_cons_zero, List.set_cons_succ]
                refine' wpAnyH_take (i := 24) (oi := _) (v := _) ?hiC25 (by kernel_rfl) (by kernel_rfl) (by kernel_rfl) ?hQC25 ?hyC25 (by assumption) ?restC25
                case' hiC25 => (first | (simp only [List.getElem?_toArray, List.getElem?_cons_succ, List.getElem?_cons_zero]; done) | (simp only [List.getElem?_toArray, List.getElem?_cons_succ, List.getElem?_cons_zero]; rfl))
                case' hQC25 => exact fun _ _ _ h => h
                case' hyC25 => refine Or.inl ⟨by rfl, ?_⟩
                (intro w hSw; (try dsimp only at hSw); go_simp; try with_reducible rfl)
                try simp only [Act.put, List.setIfInBounds_toArray, List.set_cons_zero, List.set_cons_succ]
                refine' wpAnyH_take (i := 25) (oi := _) (v := _) ?hiC26 (by kernel_rfl) (by kernel_rfl) (by kernel_rfl) ?hQC26 ?hyC26 (by assumption) ?restC26
                case' hiC26 => (first | (simp only [List.getElem?_toArray, List.getElem?_cons_succ, List.getElem?_cons_zero]; done) | (simp only [List.getElem?_toArray, List.getElem?_cons_succ, List.getElem?_cons_zero]; rfl))
                case' hQC26 => exact fun _ _ _ h => h
                case' hyC26 => refine Or.inl ⟨by rfl, ?_⟩
                (intro w hSw; (try dsimp only at hSw); go_simp; try with_reducible rfl)
                try simp only [Act.put, List.setIfInBounds_toArray, List.set_cons_zero, List.set_cons_succ]
                refine' wpAnyH_take (i := 26) (oi := _) (v := _) ?hiC27 (by kernel_rfl) (by kernel_rfl) (by kernel_rfl) ?hQC27 ?hyC27 (by assumption) ?restC27
                case' hiC27 => (first | (simp only [List.getElem?_toArray, List.getElem?_cons_succ, List.getElem?_cons_zero]; done) | (simp only [List.getElem?_toArray, List.getElem?_cons_succ, List.getElem?_cons_zero]; rfl))
                case' hQC27 => exact fun _ _ _ h => h
                case' hyC27 => refine Or.inl ⟨by rfl, ?_⟩
                (intro w hSw; (try dsimp only at hSw); go_simp; try with_reducible rfl)
                try simp only [Act.put, List.setIfInBounds_toArray, List.set_cons_zero, List.set_cons_succ]
                refine' wpAnyH_take (i := 27) (oi := _) (v := _) ?hiC28 (by kernel_rfl) (by kernel_rfl) (by kernel_rfl) ?hQC28 ?hyC28 (by assumption) ?restC28
                case' hiC28 => (first | (simp only [List.getElem?_toArray, List.getElem?_cons_succ, List.getElem?_cons_zero]; done) | (simp only [List.getElem?_toArray, List.getElem?_cons_succ, List.getElem?_cons_zero]; rfl))
                case' hQC28 => exact fun _ _ _ h => h
                case' hyC28 => refine Or.inl ⟨by rfl, ?_⟩
                (intro w hSw; (try dsimp only at hSw); go_simp; try with_reducible rfl)
                try simp only [Act.put, List.setIfInBounds_toArray, List.set_cons_zero, List.set_cons_succ]
                refine' wpAnyH_take (i := 28) (oi := _) (v := _) ?hiC29 (by kernel_rfl) (by kernel_rfl) (by kernel_rfl) ?hQC29 ?hyC29 (by assumption) ?restC29
                case' hiC29 => (first | (simp only [List.getElem?_toArray, List.getElem?_cons_succ, List.getElem?_cons_zero]; done) | (simp only [List.getElem?_toArray, List.getElem?_cons_succ, List.getElem?_cons_zero]; rfl))
                case' hQC29 => exact fun _ _ _ h => h
                case' hyC29 => refine Or.inl ⟨by rfl, ?_⟩
                (intro w hSw; (try dsimp only at hSw); go_simp; try with_reducible rfl)
                try simp only [Act.put, List.setIfInBounds_toArray, List.set_cons_zero, List.set_cons_succ]
                refine' wpAnyH_take (i := 29) (oi := _) (v := _) ?hiC30 (by kernel_rfl) (by kernel_rfl) (by kernel_rfl) ?hQC30 ?hyC30 (by assumption) ?restC30
                case' hiC30 => (first | (simp only [List.getElem?_toArray, List.getElem?_cons_succ, List.getElem?_cons_zero]; done) | (simp only [List.getElem?_toArray, List.getElem?_cons_succ, List.getElem?_cons_zero]; rfl))
                case' hQC30 => exact fun _ _ _ h => h
                case' hyC30 => refine Or.inl ⟨by rfl, ?_⟩
                (intro w hSw; (try dsimp only at hSw); go_simp; try with_reducible rfl)
                try simp only [Act.put, List.setIfInBounds_toArray, List.set_cons_zero, List.set_cons_succ]
                refine' wpAnyH_take (i := 30) (oi := _) (v := _) ?hiC31 (by kernel_rfl) (by kernel_rfl) (by kernel_rfl) ?hQC31 ?hyC31 (by assumption) ?restC31
                case' hiC31 => (first | (simp only [List.getElem?_toArray, List.getElem?_cons_succ, List.getElem?_cons_zero]; done) | (simp only [List.getElem?_toArray, List.getElem?_cons_succ, List.getElem?_cons_zero]; rfl))
                case' hQC31 => exact fun _ _ _ h => h
                case' hyC31 => refine Or.inl ⟨by rfl, ?_⟩
                (intro w hSw; (try dsimp only at hSw); go_simp; try with_reducible rfl)
                try simp only [Act.put, List.setIfInBounds_toArray, List.set_cons_zero, List.set_cons_succ]
                refine' wpAnyH_take (i := 31) (oi := _) (v := _) ?hiC32 (by kernel_rfl) (by kernel_rfl) (by kernel_rfl) ?hQC32 ?hyC32 (by assumption) ?restC32
                case' hiC32 => (first | (simp only [List.getElem?_toArray, List.getElem?_cons_succ, List.getElem?_cons_zero]; done) | (simp only [List.getElem?_toArray, List.getElem?_cons_succ, List.getElem?_cons_zero]; rfl))
                case' hQC32 => exact fun _ _ _ h => h
                case' hyC32 => refine Or.inl ⟨by rfl, ?_⟩
                (intro w hSw; (try dsimp only at hSw); go_simp; try with_reducible rfl)
                try simp only [Act.put, List.setIfInBounds_toArray, List.set_cons_zero, List.set_cons_succ]
                refine' wpAnyH_take (i := 32) (oi := _) (v := _) ?hiC33 (by kernel_rfl) (by kernel_rfl) (by kernel_rfl) ?hQC33 ?hyC33 (by assumption) ?restC33
                case' hiC33 => (first | (simp only [List.getElem?_toArray, List.getElem?_cons_succ, List.getElem?_cons_zero]; done) | (simp only [List.getElem?_toArray, List.getElem?_cons_succ, List.getElem?_cons_zero]; rfl))
                case' hQC33 => exact fun _ _ _ h => h
                case' hyC33 => refine Or.inl ⟨by rfl, ?_⟩
                (intro w hSw; (try dsimp only at hSw); go_simp; try with_reducible rfl)
                try simp only [Act.put, List.setIfInBounds_toArray, List.set_cons_zero, List.set_cons_succ]
                refine' wpAnyH_take (i := 33) (oi := _) (v := _) ?hiC34 (by kernel_rfl) (by kernel_rfl) (by kernel_rfl) ?hQC34 ?hyC34 (by assumption) ?restC34
                case' hiC34 => (first | (simp only [List.getElem?_toArray, List.getElem?_cons_succ, List.getElem?_cons_zero]; done) | (simp only [List.getElem?_toArray, List.getElem?_cons_succ, List.getElem?_cons_zero]; rfl))
                case' hQC34 => exact fun _ _ _ h => h
                case' hyC34 => refine Or.inl ⟨by rfl, ?_⟩
                (intro w hSw; (try dsimp only at hSw); go_simp; try with_reducible rfl)
                try simp only [Act.put, List.setIfInBounds_toArray, List.set_cons_zero, List.set_cons_succ]
                refine' wpAnyH_take (i := 34) (oi := _) (v := _) ?hiC35 (by kernel_rfl) (by kernel_rfl) (by kernel_rfl) ?hQC35 ?hyC35 (by assumption) ?restC35
                case' hiC35 => (first | (simp only [List.getElem?_toArray, List.getElem?_cons_succ, List.getElem?_cons_zero]; done) | (simp only [List.getElem?_toArray, List.getElem?_cons_succ, List.getElem?_cons_zero]; rfl))
                case' hQC35 => exact fun _ _ _ h => h
                case' hyC35 => refine Or.inl ⟨by rfl, ?_⟩
                (intro w hSw; (try dsimp only at hSw); go_simp; try with_reducible rfl)
                try simp only [Act.put, List.setIfInBounds_toArray, List.set_cons_zero, List.set_cons_succ]
                refine' wpAnyH_take (i := 35) (oi := _) (v := _) ?hiC36 (by kernel_rfl) (by kernel_rfl) (by kernel_rfl) ?hQC36 ?hyC36 (by assumption) ?restC36
                case' hiC36 => (first | (simp only [List.getElem?_toArray, List.getElem?_cons_succ, List.getElem?_cons_zero]; done) | (simp only [List.getElem?_toArray, List.getElem?_cons_succ, List.getElem?_cons_zero]; rfl))
                case' hQC36 => exact fun _ _ _ h => h
                case' hyC36 => refine Or.inl ⟨by rfl, ?_⟩
                (intro w hSw; (try dsimp only at hSw); go_simp; try with_reducible rfl)
                try simp only [Act.put, List.setIfInBounds_toArray, List.set_cons_zero, List.set_cons_succ]
                refine' wpAnyH_take (i := 36) (oi := _) (v := undef) ?hiC37 (by kernel_rfl) (by kernel_rfl) (by kernel_rfl) ?hQC37 ?hyC37 (by assumption) ?restC37
                case' hiC37 => (first | (simp only [List.getElem?_toArray, List.getElem?_cons_succ, List.getElem?_cons_zero]; done) | (simp only [List.getElem?_toArray, List.getElem?_cons_succ, List.getElem?_cons_zero]; rfl))
                case' hQC37 => exact fun _ _ _ h => h
                case' hyC37 => exact Or.inr ⟨by rfl, rfl⟩
                try simp only [Act.put, List.setIfInBounds_toArray, List.set_cons_zero, List.set_cons_succ]
                refine' wpAnyH_take (i := 37) (oi := _) (v := undef) ?hiC38 (by kernel_rfl) (by kernel_rfl) (by kernel_rfl) ?hQC38 ?hyC38 (by assumption) ?restC38
                case' hiC38 => (first | (simp only [List.getElem?_toArray, List.getElem?_cons_succ, List.getElem?_cons_zero]; done) | (simp only [List.getElem?_toArray, List.getElem?_cons_succ, List.getElem?_cons_zero]; rfl))
                case' hQC38 => exact fun _ _ _ h => h
                case' hyC38 => exact Or.inr ⟨by rfl, rfl⟩
                try simp only [Act.put, List.setIfInBounds_toArray, List.set_cons_zero, List.set_cons_succ]
                refine' wpAnyH_take (i := 38) (oi := _) (v := undef) ?hiC39 (by kernel_rfl) (by kernel_rfl) (by kernel_rfl) ?hQC39 ?hyC39 (by assumption) ?restC39
                case' hiC39 => (first | (simp only [List.getElem?_toArray, List.getElem?_cons_succ, List.getElem?_cons_zero]; done) | (simp only [List.getElem?_toArray, List.getElem?_cons_succ, List.getElem?_cons_zero]; rfl))
                case' hQC39 => exact fun _ _ _ h => h
                case' hyC39 => exact Or.inr ⟨by rfl, rfl⟩
                try simp only [Act.put, List.setIfInBounds_toArray, List.set_cons_zero, List.set_cons_succ]
                refine' wpAnyH_take (i := 39) (oi := _) (v := _) ?hiC40 (by kernel_rfl) (by kernel_rfl) (by kernel_rfl) ?hQC40 ?hyC40 (by assumption) ?restC40
                case' hiC40 => (first | (simp only [List.getElem?_toArray, List.getElem?_cons_succ, List.getElem?_cons_zero]; done) | (simp only [List.getElem?_toArray, List.getElem?_cons_succ, List.getElem?_cons_zero]; rfl))
                case' hQC40 => exact fun _ _ _ h => h
                case' hyC40 => refine Or.inl ⟨by rfl, ?_⟩
                (intro w hSw; (try dsimp only at hSw); go_simp; try with_reducible rfl)
                try simp only [Act.put, List.setIfInBounds_toArray, List.set_cons_zero, List.set_cons_succ]
                refine' wpAnyH_take (i := 40) (oi := _) (v := _) ?hiC41 (by kernel_rfl) (by kernel_rfl) (by kernel_rfl) ?hQC41 ?hyC41 (by assumption) ?restC41
                case' hiC41 => (first | (simp only [List.getElem?_toArray, List.getElem?_cons_succ, List.getElem?_cons_zero]; done) | (simp only [List.getElem?_toArray, List.getElem?_cons_succ, List.getElem?_cons_zero]; rfl))
                case' hQC41 => exact fun _ _ _ h => h
                case' hyC41 => refine Or.inl ⟨by rfl, ?_⟩
                (intro w hSw; (try dsimp only at hSw); go_simp; try with_reducible rfl)
                try simp only [Act.put, List.setIfInBounds_toArray, List.set_cons_zero, List.set_cons_succ]
                refine' wpAnyH_take (i := 41) (oi := _) (v := _) ?hiC42 (by kernel_rfl) (by kernel_rfl) (by kernel_rfl) ?hQC42 ?hyC42 (by assumption) ?restC42
                case' hiC42 => (first | (simp only [List.getElem?_toArray, List.getElem?_cons_succ, List.getElem?_cons_zero]; done) | (simp only [List.getElem?_toArray, List.getElem?_cons_succ, List.getElem?_cons_zero]; rfl))
                case' hQC42 => exact fun _ _ _ h => h
                case' hyC42 => refine Or.inl ⟨by rfl, ?_⟩
                (intro w hSw; (try dsimp only at hSw); go_simp; try with_reducible rfl)
                try simp only [Act.put, List.setIfInBounds_toArray, List.set_cons_zero, List.set_cons_succ]
                refine' wpAnyH_take (i := 42) (oi := _) (v := _) ?hiC43 (by kernel_rfl) (by kernel_rfl) (by kernel_rfl) ?hQC43 ?hyC43 (by assumption) ?restC43
                case' hiC43 => (first | (simp only [List.getElem?_toArray, List.getElem?_cons_succ, List.getElem?_cons_zero]; done) | (simp only [List.getElem?_toArray, List.getElem?_cons_succ, List.getElem?_cons_zero]; rfl))
                case' hQC43 => exact fun _ _ _ h => h
                case' hyC43 => refine Or.inl ⟨by rfl, ?_⟩
                (intro w hSw; (try dsimp only at hSw); go_simp; try with_reducible rfl)
                try simp only [Act.put, List.setIfInBounds_toArray, List.set_cons_zero, List.set_cons_succ]
                refine' wpAnyH_take (i := 43) (oi := _) (v := _) ?hiC44 (by kernel_rfl) (by kernel_rfl) (by kernel_rfl) ?hQC44 ?hyC44 (by assumption) ?restC44
                case' hiC44 => (first | (simp only [List.getElem?_toArray, List.getElem?_cons_succ, List.getElem?_cons_zero]; done) | (simp only [List.getElem?_toArray, List.getElem?_cons_succ, List.getElem?_cons_zero]; rfl))
                case' hQC44 => exact fun _ _ _ h => h
                case' hyC44 => refine Or.inl ⟨by rfl, ?_⟩
                (intro w hSw; (try dsimp only at hSw); go_simp; try with_reducible rfl)
                try simp only [Act.put, List.setIfInBounds_toArray, List.set_cons_zero, List.set_cons_succ]
                refine' wpAnyH_take (i := 44) (oi := _) (v := _) ?hiC45 (by kernel_rfl) (by kernel_rfl) (by kernel_rfl) ?hQC45 ?hyC45 (by assumption) ?restC45
                case' hiC45 => (first | (simp only [List.getElem?_toArray, List.getElem?_cons_succ, List.getElem?_cons_zero]; done) | (simp only [List.getElem?_toArray, List.getElem?_cons_succ, List.getElem?_cons_zero]; rfl))
                case' hQC45 => exact fun _ _ _ h => h
                case' hyC45 => refine Or.inl ⟨by rfl, ?_⟩
                (intro w hSw; (try dsimp only at hSw); go_simp; try with_reducible rfl)
                try simp only [Act.put, List.setIfInBounds_toArray, List.set_cons_zero, List.set_cons_succ]
                refine' wpAnyH_take (i := 46) (oi := _) (v := _) ?hiC46 (by kernel_rfl) (by kernel_rfl) (by kernel_rfl) ?hQC46 ?hyC46 (by assumption) ?restC46
                case' hiC46 => (first | (simp only [List.getElem?_toArray, List.getElem?_cons_succ, List.getElem?_cons_zero]; done) | (simp only [List.getElem?_toArray, List.getElem?_cons_succ, List.getElem?_cons_zero]; rfl))
                case' hQC46 => exact fun _ _ _ h => h
                case' hyC46 => refine Or.inl ⟨by rfl, ?_⟩
                (intro w hSw; (try dsimp only at hSw); go_simp; try with_reducible rfl)
                try simp only [Act.put, List.setIfInBounds_toArray, List.set_cons_zero, List.set_cons_succ]
                refine' wpAnyH_take (i := 47) (oi := _) (v := _) ?hiC47 (by kernel_rfl) (by kernel_rfl) (by kernel_rfl) ?hQC47 ?hyC47 (by assumption) ?restC47
                case' hiC47 => (first | (simp only [List.getElem?_toArray, List.getElem?_cons_succ, List.getElem?_cons_zero]; done) | (simp only [List.getElem?_toArray, List.getElem?_cons_succ, List.getElem?_cons_zero]; rfl))
                case' hQC47 => exact fun _ _ _ h => h
                case' hyC47 => refine Or.inl ⟨by rfl, ?_⟩
                (intro w hSw; (try dsimp only at hSw); go_simp; try with_reducible rfl)
                try simp only [Act.put, List.setIfInBounds_toArray, List.set_cons_zero, List.set_cons_succ]
                refine' wpAnyH_take (i := 48) (oi := _) (v := _) ?hiC48 (by kernel_rfl) (by kernel_rfl) (by kernel_rfl) ?hQC48 ?hyC48 (by assumption) ?restC48
                case' hiC48 => (first | (simp only [List.getElem?_toArray, List.getElem?_cons_succ, List.getElem?_cons_zero]; done) | (simp only [List.getElem?_toArray, List.getElem?_cons_succ, List.getElem?_cons_zero]; rfl))
                case' hQC48 => exact fun _ _ _ h => h
                case' hyC48 => refine Or.inl ⟨by rfl, ?_⟩
                (intro w hSw; (try dsimp only at hSw); go_simp; try with_reducible rfl)
                try simp only [Act.put, List.setIfInBounds_toArray, List.set_cons_zero, List.set_cons_succ]
                refine wpAnyH_ready (rs := [45]) (by kernel_rfl) (by simp) ?_
                refine' AllReadyH.cons (o := _) ?hiC49 (fun K hK => ?hKC49) AllReadyH.nil
                case' hiC49 => (first | (simp only [List.getElem?_toArray, List.getElem?_cons_succ, List.getElem?_cons_zero]; done) | (simp only [List.getElem?_toArray, List.getElem?_cons_succ, List.getElem?_cons_zero]; rfl))
                go_simp
                (go_at_call 13; refine (pkDue (PK.out _ (by first | exact Upd.refl _ _ | exact (Upd.refl _ _).drew)) HLN.out).mono ?_; rintro e w8 ⟨v8, rfl, s8, p8⟩; (have y8 := PS.out _ p8); (have S8 := Lib.hid s8); (have P8 := Lib.hid p8); clear s8 p8)
                refine hK.out _ _ ?_ (fun hHeld => ?_)
                · (try dsimp only); go_keep
                clear hK K
                try simp only [Act.put, List.setIfInBounds_toArray, List.set_cons_zero, List.set_cons_succ]
                refine wpAnyH_ready (rs := [49]) (by kernel_rfl) (by simp) ?_
                refine' AllReadyH.cons (o := _) ?hiC50 (fun K hK => ?hKC50) AllReadyH.nil
                case' hiC50 => (first | (simp only [List.getElem?_toArray, List.getElem?_cons_succ, List.getElem?_cons_zero]; done) | (simp only [List.getElem?_toArray, List.getElem?_cons_succ, List.getElem?_cons_zero]; rfl))
                go_simp
                (go_at_call 22; refine (pkRdue P8.out HLN.out S8.out).mono ?_; rintro e w9 ⟨v9, rfl, s9, s89, p9⟩; (have y9 := PS.out _ p9); (have S9 := Lib.hid s9); (have S89 := Lib.hid s89); (have P9 := Lib.hid p9); clear s9 s89 p9)
                refine hK.out _ _ ?_ (fun hHeld => ?_)
                · (try dsimp only); go_keep
                clear hK K
                try simp only [Act.put, List.setIfInBounds_toArray, List.set_cons_zero, List.set_cons_succ]
                refine wpAnyH_ready (rs := [50]) (by kernel_rfl) (by simp) ?_
                refine' AllReadyH.cons (o := _) ?hiC51 (fun K hK => ?hKC51) AllReadyH.nil
                case' hiC51 => (first | (simp only [List.getElem?_toArray, List.getElem?_cons_succ, List.getElem?_cons_zero]; done) | (simp only [List.getElem?_toArray, List.getElem?_cons_succ, List.getElem?_cons_zero]; rfl))
                go_simp
                (go_at_call 14; refine (pkSame P9.out S89.out S9.out).mono ?_; rintro e w10 ⟨rfl, p10⟩; (have y10 := PS.out _ p10); (have P10 := Lib.hid p10); clear p10)
                refine hK.out _ _ ?_ (fun hHeld => ?_)
                · (try dsimp only); go_keep
                clear hK K
                try simp only [Act.put, List.setIfInBounds_toArray, List.set_cons_zero, List.set_cons_succ]
                refine' wpAnyH_take (i := 51) (oi := _) (v := _) ?hiC52 (by kernel_rfl) (by kernel_rfl) (by kernel_rfl) ?hQC52 ?hyC52 (by assumption) ?restC52
                case' hiC52 => (first | (simp only [List.getElem?_toArray, List.getElem?_cons_succ, List.getElem?_cons_zero]; done) | (simp only [List.getElem?_toArray, List.getElem?_cons_succ, List.getElem?_cons_zero]; rfl))
                case' hQC52 => exact fun _ _ _ h => h
                case' hyC52 => refine Or.inl ⟨by rfl, ?_⟩
                (intro w hSw; (try dsimp only at hSw); go_simp; try with_reducible rfl)
                try simp only [Act.put, List.setIfInBounds_toArray, List.set_cons_zero, List.set_cons_succ]
                refine' wpAnyH_take (i := 52) (oi := _) (v := _) ?hiC53 (by kernel_rfl) (by kernel_rfl) (by kernel_rfl) ?hQC53 ?hyC53 (by assumption) ?restC53
                case' hiC53 => (first | (simp only [List.getElem?_toArray, List.getElem?_cons_succ, List.getElem?_cons_zero]; done) | (simp only [List.getElem?_toArray, List.getElem?_cons_succ, List.getElem?_cons_zero]; rfl))
                case' hQC53 => exact fun _ _ _ h => h
                case' hyC53 => refine Or.inl ⟨by rfl, ?_⟩
                (intro w hSw; (try dsimp only at hSw); go_simp; try with_reducible rfl)
                try simp only [Act.put, List.setIfInBounds_toArray, List.set_cons_zero, List.set_cons_succ]
                refine wpAnyH_done (by kernel_rfl) ?_ _
                all_goals (go_wp2_with fail; go_meet; exact ⟨by simp, P10⟩)
      · obtain rfl : k = l.length := by omega
        have XA := Lib.hid (xall_any wr w.heap.size xa L E X.out (by omega) SZ.out)
        have DR := Lib.hid D.out
        have UR := Lib.hid U.out
        clear X D
        go_wp2_with fail
        refine (XA.out).mono ?_
        rintro e w9 ⟨v9, rfl, d9, u9⟩
        have SM := Lib.hid (same11_any v9 _ L L w9 d9.row (DR.out.keep u9 (fun _ _ h => h)).row)
        obtain ⟨p9, c9, e9, _⟩ := own_slice d9
        subst e9
        have U9 := Lib.hid (UR.out.trans u9 (fun _ _ h => h))
        have DT : decide (L = L) = true := decide_eq_true rfl
        rw [DT] at SM
        clear d9 u9 XA DT
        go_wp2_with fail
        refine (SM.out).mono ?_
        rintro e w10 ⟨rfl, n10, rfl⟩
        go_wp2
        go_ret
        exact ⟨rfl, U9.out.drewN n10⟩
end Go.Proofs.Ytokkhddbdjflhaa
