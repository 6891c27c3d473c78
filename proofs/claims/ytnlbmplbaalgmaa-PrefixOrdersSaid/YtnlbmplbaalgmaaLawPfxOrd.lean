/- PrefixOrders: the walk. -/
import Derived.Test.YtnlbmplbaalgmaaTwoP
set_option linter.unusedVariables false
set_option linter.unusedSimpArgs false
namespace Go.Proofs.Ytnlbmplbaalgmaa
open Go.RowKit

theorem told15_snoc {l : List Act15} {a : Act15} {P : Txt → Int → Prop} (hP : ∀ t i, P t i ↔ ∃ b ∈ l, b.key = t ∧ b.id = i) (t : Txt) (i : Int) : (P t i ∨ t = a.key ∧ i = a.id) ↔ ∃ b ∈ l ++ [a], b.key = t ∧ b.id = i := by
  rw [hP]
  constructor
  · rintro (⟨b, hb, e1, e2⟩ | ⟨e1, e2⟩)
    · exact ⟨b, List.mem_append_left _ hb, e1, e2⟩
    · exact ⟨a, by simp, e1.symm, e2.symm⟩
  · rintro ⟨b, hb, e1, e2⟩
    rcases List.mem_append.1 hb with g | g
    · exact Or.inl ⟨b, g, e1, e2⟩
    · rw [List.mem_singleton] at g; subst g; exact Or.inr ⟨e1.symm, e2.symm⟩
theorem told15_cons {l : List Act15} {a : Act15} {P : Txt → Int → Prop} (hP : ∀ t i, P t i ↔ ∃ b ∈ l, b.key = t ∧ b.id = i) (t : Txt) (i : Int) : (P t i ∨ t = a.key ∧ i = a.id) ↔ ∃ b ∈ a :: l, b.key = t ∧ b.id = i := by
  rw [hP]
  constructor
  · rintro (⟨b, hb, e1, e2⟩ | ⟨e1, e2⟩)
    · exact ⟨b, List.mem_cons_of_mem _ hb, e1, e2⟩
    · exact ⟨a, by simp, e1.symm, e2.symm⟩
  · rintro ⟨b, hb, e1, e2⟩
    rcases List.mem_cons.1 hb with g | g
    · subst g; exact Or.inr ⟨e1.symm, e2.symm⟩
    · exact Or.inl ⟨b, g, e1, e2⟩
/-- Who was told of what, by these acts. -/
def told2 (l : List Act15) : Txt → Int → Prop := fun t i => ∃ b ∈ l, b.key = t ∧ b.id = i
set_option maxHeartbeats 16000000 in
set_option maxRecDepth 100000 in
theorem lawPfxOrd (v0 : Value) (l : List Act15) (key more : Txt) (w : World) (r0 : RowOf act15c 3 w v0 l) (hk : key.length ≤ maxLen) (hm : more.length ≤ maxLen) (hks : ∀ a ∈ l, a.key.length ≤ maxLen) :
    Calls Try.prog 7 #[v0, .string (ofL key), .string (ofL more)] w fun e w' => e = .returned (.bool true) ∧ Upd (fun _ => False) w w' := by
  obtain ⟨p0, k0, e0, hm0⟩ := r0.len
  subst e0
  have AL := Lib.hid (alive15_any w)
  have R0 := Lib.hid r0
  have asz := ofL_size key
  have msz := ofL_size more
  have HKM := Lib.hid (ofL_append key more)
  have KS := Lib.hid hks
  clear hks
  obtain ⟨sk, hsk⟩ : ∃ sk, sk = ofL key := ⟨_, rfl⟩
  obtain ⟨sm, hsm⟩ : ∃ sm, sm = ofL more := ⟨_, rfl⟩
  rw [← hsk] at asz
  rw [← hsm] at msz
  rw [← hsk, ← hsm]
  have SK := Lib.hid hsk
  have SM := Lib.hid hsm
  clear r0 hsk hsm
  unfold maxLen at hm0 hk hm
  go_enter Try.func7, Try.ntmps7
  go_wp2_with fail
  refine (AL.out).mono ?_
  rintro e w1 ⟨rfl, u1⟩
  have U1 := Lib.hid u1
  clear u1 AL
  by_cases hgr : 40 < l.length
  · have q0 : (40 : Int) < (l.length : Int) := by omega
    generalize l.length = nl at *
    generalize key.length = nk at *
    generalize more.length = nm at *
    go_wp2
    go_ret
    exact ⟨rfl, U1.out⟩
  · have q0 : ¬ (40 : Int) < (l.length : Int) := by omega
    by_cases hgk : 100 < key.length
    · have qa : (100 : Int) < (key.length : Int) := by omega
      generalize l.length = nl at *
      generalize key.length = nk at *
      generalize more.length = nm at *
      go_wp2
      go_ret
      exact ⟨rfl, U1.out⟩
    · have qa : ¬ (100 : Int) < (key.length : Int) := by omega
      by_cases hgm : 100 < more.length
      · have qb : (100 : Int) < (more.length : Int) := by omega
        generalize l.length = nl at *
        generalize key.length = nk at *
        generalize more.length = nm at *
        go_wp2
        go_ret
        exact ⟨rfl, U1.out⟩
      · have qb : ¬ (100 : Int) < (more.length : Int) := by omega
        have NW := Lib.hid (pnew_any w1 w1.heap.size (Nat.le_refl _))
        go_wp2_with fail
        refine (NW.out).mono ?_
        rintro e w2 ⟨pa, Fa, rfl, h2, u2, f2⟩
        have NX := Lib.hid (pnew_any w2 w1.heap.size u2.size)
        have H2 := Lib.hid h2
        have U2 := Lib.hid u2
        clear h2 u2 f2 NW
        go_wp2_with fail
        refine (NX.out).mono ?_
        rintro e w3 ⟨pb, Fb, rfl, h3, u3, f3⟩
        have TT : Hid (TwoP w w3 w1.heap.size pa pb (told2 []) (told2 []) 0) := ⟨⟨Fa, Fb, (H2.out.keep u3 (fun _ _ h => h)).congr (fun t i => by simp [told2]), h3.congr (fun t i => by simp [told2]), fun k hk hk2 => by have := (H2.out.lt k hk).2; have := f3 k hk2; omega⟩, (U1.out.trans U2.out (fun _ _ h => h)).trans u3 (fun _ _ h => h), U1.out.size, Nat.le_trans U2.out.size u3.size⟩
        clear h3 u3 f3 NX
        go_wp2
        go_loopw [37] (fun x37 wr => ∃ (k : Nat), x37 = .int .i64 (k : Int) ∧ k ≤ l.length ∧ Hid (TwoP w wr w1.heap.size pa pb (told2 (l.take k)) (told2 (l.drop (l.length - k))) (2 * k))) (fun x37 _ => l.length - (intOf x37).toNat)
        case atStart => exact ⟨0, rfl, Nat.zero_le _, by show TwoP _ _ _ _ _ _ _ _; simpa using TT.out⟩
        case round =>
          clear TT
          obtain ⟨k, rfl, hkl, TW⟩ := hrel
          by_cases hlt : k < l.length
          · have q1 : (k : Int) < (l.length : Int) := by omega
            obtain ⟨q, hq⟩ : ∃ q, q = l.length - (k + 1) := ⟨_, rfl⟩
            have hql : q < l.length := by omega
            obtain ⟨b, off, a, ep, hb, hak, c0, c1, c2⟩ := act15_cells R0.out hlt
            obtain ⟨b', off', z, ep', hb', hzk, d0, d1, d2⟩ := act15_cells R0.out hql
            obtain ⟨rfl, rfl⟩ : b = b' ∧ off = off' := by rw [ep] at ep'; injection ep' with e; injection e with e1 e2; exact ⟨e1, e2⟩
            subst ep
            have tsz := ofL_size a.key
            have zsz := ofL_size z.key
            have hz := KS.out z (List.mem_of_getElem? hzk)
            unfold maxLen at hz
            obtain ⟨st, hst⟩ : ∃ st, st = ofL a.key := ⟨_, rfl⟩
            obtain ⟨sz, hsz⟩ : ∃ sz, sz = ofL z.key := ⟨_, rfl⟩
            rw [← hst] at c2 tsz
            rw [← hsz] at d2 zsz
            have TK : Hid (l.take (k + 1) = l.take k ++ [a]) := by
              obtain ⟨h1, e⟩ := List.getElem?_eq_some_iff.1 hak
              show _ = _; rw [List.take_succ_eq_append_getElem h1, e]
            have DK : Hid (l.drop (l.length - (k + 1)) = z :: l.drop (l.length - k)) := by
              obtain ⟨h1, e⟩ := List.getElem?_eq_some_iff.1 hzk
              show _ = _; rw [← hq, List.drop_eq_getElem_cons h1, e, show q + 1 = l.length - k by omega]
            have ua : Upd (fun _ => False) wr (wr.alloc (.cells #[.int .i64 z.kind, .int .i64 z.id, .string sz] 54)) := (Upd.refl _ _).alloc _
            have KC : Hid (∀ v, Upd (fun _ => False) w v → v.cell? ⟨b, off + k * 3 + 1, none⟩ = some (.int .i64 a.id) ∧ v.cell? ⟨b, off + k * 3 + 2, none⟩ = some (.string st)) := fun v u => ⟨(u.cell (p := ⟨b, off + k * 3 + 1, none⟩) hb id).trans c1, (u.cell (p := ⟨b, off + k * 3 + 2, none⟩) hb id).trans c2⟩
            have UA := Lib.hid (TW.out.upd.trans ua (fun _ _ h => h))
            obtain ⟨x1, x2⟩ := KC.out _ UA.out
            have d0 := (TW.out.upd.cell (p := ⟨b, off + q * 3, none⟩) hb id).trans d0
            have d1 := (TW.out.upd.cell (p := ⟨b, off + q * 3 + 1, none⟩) hb id).trans d1
            have d2 := (TW.out.upd.cell (p := ⟨b, off + q * 3 + 2, none⟩) hb id).trans d2
            clear c0 c1 c2
            have qd : (l.length : Int) - 1 - (k : Int) = (q : Int) := by omega
            have qe : IntKind.i64.wrap ((l.length : Int) - 1) = (l.length : Int) - 1 := IntWalk.i64_in _ (by omega)
            have qf : IntKind.i64.wrap ((l.length : Int) - 1 - (k : Int)) = (q : Int) := by rw [qd]; exact IntWalk.i64_in _ (by omega)
            have qf2 : IntKind.i64.wrap (q : Int) = (q : Int) := IntWalk.i64_in _ (by omega)
            have qg : (q : Int) < (l.length : Int) := by omega
            have HST := Lib.hid hst
            have HSZ := Lib.hid hsz
            clear ep' hak hzk hq ua hst hsz hb hb'
            by_cases h30 : 100 < a.key.length
            · have q2 : (100 : Int) < (a.key.length : Int) := by omega
              clear TW
              generalize l.length = nl at *
              generalize a.key.length = nt at *
              generalize z.key.length = nz at *
              go_wp2
              go_ret
              exact ⟨rfl, UA.out⟩
            · have q2 : ¬ (100 : Int) < (a.key.length : Int) := by omega
              have AD := TW.out.addD a.key a.id (by omega) (by omega) [.int .i64 z.kind, .int .i64 z.id, .string sz] 54 _ (Upd.refl _ _).drew
              rw [← HST.out] at AD
              have AD := Lib.hid AD
              go_wp2
              go_region_held3 (fun w' => w'.cell? ⟨b, off + k * 3 + 1, none⟩ = some (.int .i64 a.id) ∧ w'.cell? ⟨b, off + k * 3 + 2, none⟩ = some (.string st)) (go_keep) (first
                | (go_at_call 30; refine AD.out.mono ?_; rintro e w4 ⟨⟨eb, rfl⟩, tw, bx⟩; (obtain ⟨x1', x2'⟩ := KC.out w4 tw.upd)))
              have TW4 : Hid (TwoP w w4 w1.heap.size pa pb (told2 (l.take (k + 1))) (told2 (l.drop (l.length - k))) (2 * k + 1)) := tw.congr (fun t i => by rw [TK.out]; exact told15_snoc (fun _ _ => Iff.rfl) t i) (fun _ _ => Iff.rfl)
              have y1 := bx.cellAt (i := 1) (v := .int .i64 z.id) rfl
              have y2 := bx.cellAt (i := 2) (v := .string sz) rfl
              have BD := TW4.out.symm.add z.key z.id (by omega) (by omega)
              rw [← HSZ.out] at BD
              have BD := Lib.hid BD
              clear tw bx AD d0 d1 d2 TW
              go_wp2_with fail
              refine (BD.out).mono ?_
              rintro e w5 ⟨⟨ec, rfl⟩, tw⟩
              have TW5 : Hid (TwoP w w5 w1.heap.size pa pb (told2 (l.take (k + 1))) (told2 (l.drop (l.length - (k + 1)))) (2 * (k + 1))) := by
                have h := tw.symm.congr (Q' := told2 (l.drop (l.length - (k + 1)))) (fun _ _ => Iff.rfl) (fun t i => by rw [DK.out]; exact told15_cons (fun _ _ => Iff.rfl) t i)
                show TwoP _ _ _ _ _ _ _ _; rw [show 2 * (k + 1) = 2 * k + 1 + 1 by omega]; exact h
              clear tw BD TW4 y1 y2
              go_wp2
              go_roundw
              case rel => exact ⟨k + 1, by simp, by omega, TW5⟩
              case measure => simp [intOf]; omega
          · have q1 : ¬ (k : Int) < (l.length : Int) := by omega
            have ek : k = l.length := by omega
            have TE : Hid (TwoP w wr w1.heap.size pa pb (told2 l) (told2 l) 100) := by
              obtain ⟨⟨Ea, Eb, h1, h2, h3⟩, h4, h5, h6⟩ := TW.out
              rw [ek, List.take_length] at h1
              rw [ek, Nat.sub_self, List.drop_zero] at h2
              exact ⟨⟨Ea, Eb, h1.more (by omega), h2.more (by omega), h3⟩, h4, h5, h6⟩
            clear TW q1 ek hkl
            have sv := fun w : World => run_string_add_sum (P := Try.prog) w sk sm (by omega)
            have M1 := TE.out.match_ key (by omega) (by omega)
            rw [← SK.out] at M1
            have M1 := Lib.hid M1
            have M2 := Lib.hid (fun v (t : TwoP w v w1.heap.size pa pb (told2 l) (told2 l) 100) => t.match_ (key ++ more) (by omega) (by rw [List.length_append]; omega))
            rw [← HKM.out, ← SK.out, ← SM.out] at M2
            go_wp2_with fail
            refine (M1.out).mono ?_
            rintro e w4 ⟨v1, l1, rfl, i1, r1, m1, u1⟩
            have TW4 := Lib.hid (TE.out.keep0 u1)
            have M2a := Lib.hid (M2.out w4 TW4.out)
            have I1 := Lib.hid i1
            have R1 := Lib.hid r1
            have N1 := Lib.hid m1
            obtain ⟨p1, c1, e1, hm1⟩ := own_slice i1
            subst e1
            clear i1 r1 m1 u1 M1 TE
            go_wp2_with fail
            refine (M2a.out).mono ?_
            rintro e w5 ⟨v2, l2, rfl, i2, r2, m2, u2⟩
            have TW5 := Lib.hid (TW4.out.keep0 u2)
            have I1 := Lib.hid (I1.out.keep u2 (fun _ _ h => h))
            have I2 := Lib.hid i2
            have R2 := Lib.hid r2
            have N2 := Lib.hid m2
            have SUB : Hid (∀ y ∈ l1, y ∈ l2) := fun y hy => by
              obtain ⟨t, h1, h2⟩ := (N1.out y).1 hy
              exact (m2 y).2 ⟨t, pfx_append more h1, h2⟩
            obtain ⟨p2, c2, e2, hm2⟩ := own_slice i2
            subst e2
            clear i2 r2 m2 u2 M2a TW4
            unfold maxLen at hm1 hm2
            generalize hn1 : l1.length = n1 at *
            generalize hn2 : l2.length = n2 at *
            go_wp2
            go_loopw [84] (fun x84 wr => ∃ (k : Nat), x84 = .int .i64 (k : Int) ∧ k ≤ n1 ∧ Hid (Upd (fun _ => False) w5 wr)) (fun x84 _ => n1 - (intOf x84).toNat)
            case atStart => exact ⟨0, rfl, Nat.zero_le _, Lib.hid (Upd.refl _ _)⟩
            case round =>
              obtain ⟨k, rfl, hkl, U⟩ := hrel
              by_cases hlt : k < n1
              · have q1 : (k : Int) < (n1 : Int) := by omega
                obtain ⟨g1, ep1, hg1, ck1⟩ := ints_get (p := p1) (c := c1) (l := l1) (IntsAt.keep (by rw [hn1]; exact I1.out) U.out (fun _ _ h => h)) (show k < l1.length by omega)
                subst ep1
                have HIN : Hid ((l1[k]'(by omega)) ∈ l2) := SUB.out _ (List.getElem_mem _)
                generalize (l1[k]'(by omega)) = y at *
                have U0 := U
                clear U
                go_wp2
                go_loopw [15, 90] (fun x15 x90 wr => ∃ (j : Nat) (f : Bool), x15 = .bool f ∧ x90 = .int .i64 (j : Int) ∧ j ≤ n2 ∧ Hid (f = decide (y ∈ l2.take j)) ∧ Hid (Upd (fun _ => False) w5 wr)) (fun _ x90 _ => n2 - (intOf x90).toNat)
                case atStart => exact ⟨0, false, rfl, rfl, by omega, Lib.hid (by simp), U0⟩
                case round =>
                  clear U0 ck1 hg1
                  obtain ⟨j, f, rfl, rfl, hj, BB, UQ⟩ := hrel
                  by_cases hjl : j < n2
                  · have q5 : (j : Int) < (n2 : Int) := by omega
                    obtain ⟨g4, ep4, hg4, ck4⟩ := ints_get (p := p2) (c := c2) (l := l2) (IntsAt.keep (by rw [hn2]; exact I2.out) UQ.out (fun _ _ h => h)) (show j < l2.length by omega)
                    subst ep4
                    have BB2 : Hid ((f || decide (l2[j]'(by omega) = y)) = decide (y ∈ l2.take (j + 1))) := by
                      show _ = _
                      rw [BB.out, List.take_succ_eq_append_getElem (by omega)]
                      rw [Bool.eq_iff_iff]
                      simp only [Bool.or_eq_true, decide_eq_true_eq, List.mem_append, List.mem_singleton]
                      exact or_congr Iff.rfl eq_comm
                    generalize (l2[j]'(by omega)) = x at *
                    cases f with
                    | true =>
                      go_wp2
                      go_roundw
                      case rel => exact ⟨j + 1, true, rfl, by simp, by omega, BB2, UQ⟩
                      case measure => simp [intOf]; omega
                    | false =>
                      have BB2 : Hid (decide (x = y) = decide (y ∈ l2.take (j + 1))) := by have := BB2.out; rw [Bool.false_or] at this; exact this
                      by_cases hy : x = y
                      · rw [decide_eq_true hy] at BB2
                        rw [hy] at ck4
                        go_wp2
                        go_roundw
                        case rel => exact ⟨j + 1, true, rfl, by simp, by omega, BB2, UQ⟩
                        case measure => simp [intOf]; omega
                      · rw [decide_eq_false hy] at BB2
                        go_wp2
                        go_roundw
                        case rel => exact ⟨j + 1, false, by simp [hy], by simp, by omega, BB2, UQ⟩
                        case measure => simp [intOf]; omega
                  · have q5 : ¬ (j : Int) < (n2 : Int) := by omega
                    obtain rfl : f = true := by rw [BB.out, List.take_of_length_le (by omega)]; exact decide_eq_true HIN.out
                    go_wp2
                    go_roundw
                    case rel => exact ⟨k + 1, by simp, by omega, UQ⟩
                    case measure => simp [intOf]; omega
              · have q1 : ¬ (k : Int) < (n1 : Int) := by omega
                have TW6 := Lib.hid (TW5.out.keep0 U.out)
                have I1 := Lib.hid (I1.out.keep U.out (fun _ _ h => h))
                have I2 := Lib.hid (I2.out.keep U.out (fun _ _ h => h))
                clear TW5 U SUB
                have M3 : Hid (∀ v, Upd (fun _ => False) wr v → Calls Try.prog 31 #[.pointer (some ⟨pb, 0, none⟩), .string sk] v fun e w' => ∃ v3, e = .returned v3 ∧ RowOf intc 1 w' v3 l1 ∧ Upd (fun _ => False) wr w') := by
                  intro v u
                  have h := (TW6.out.keep0 u).symm.match_ key (by omega) (by omega)
                  rw [← SK.out] at h
                  refine h.mono ?_
                  rintro e w' ⟨v3, l3, rfl, i3, r3, m3, u3⟩
                  have el : l3 = l1 := rising_ext r3 R1.out (fun y => (m3 y).trans (N1.out y).symm)
                  subst el
                  exact ⟨v3, rfl, i3.row, u.trans u3 (fun _ _ h => h)⟩
                have M4 : Hid (∀ v, Upd (fun _ => False) wr v → Calls Try.prog 31 #[.pointer (some ⟨pb, 0, none⟩), .string (sk ++ sm)] v fun e w' => ∃ v3, e = .returned v3 ∧ RowOf intc 1 w' v3 l2 ∧ Upd (fun _ => False) wr w') := by
                  intro v u
                  have h := (TW6.out.keep0 u).symm.match_ (key ++ more) (by omega) (by rw [List.length_append]; omega)
                  rw [← HKM.out, ← SK.out, ← SM.out] at h
                  refine h.mono ?_
                  rintro e w' ⟨v3, l3, rfl, i3, r3, m3, u3⟩
                  have el : l3 = l2 := rising_ext r3 R2.out (fun y => (m3 y).trans (N2.out y).symm)
                  subst el
                  exact ⟨v3, rfl, i3.row, u.trans u3 (fun _ _ h => h)⟩
                have S1 : Hid (∀ v3 v, RowOf intc 1 v v3 l1 → Upd (fun _ => False) wr v → Calls Try.prog 32 #[.slice p1 n1 c1, v3] v fun e w' => e = .returned (.bool true) ∧ Upd (fun _ => False) wr w') := by
                  intro v3 v r u
                  refine (same14_any _ v3 l1 l1 v (IntsAt.keep I1.out u (fun _ _ h => h)).row r).mono ?_
                  rintro e w' ⟨rfl, n, rfl⟩
                  exact ⟨by rw [decide_eq_true rfl], u.drewN n⟩
                have S2 : Hid (∀ v3 v, RowOf intc 1 v v3 l2 → Upd (fun _ => False) wr v → Calls Try.prog 32 #[.slice p2 n2 c2, v3] v fun e w' => e = .returned (.bool true) ∧ Upd (fun _ => False) wr w') := by
                  intro v3 v r u
                  refine (same14_any _ v3 l2 l2 v (IntsAt.keep I2.out u (fun _ _ h => h)).row r).mono ?_
                  rintro e w' ⟨rfl, n, rfl⟩
                  exact ⟨by rw [decide_eq_true rfl], u.drewN n⟩
                obtain ⟨xa, xb, La, Lb, Ea, Eb, ps, ta, tb, na, nb, ka, kb⟩ := TW6.out.tree2
                have PS := Lib.hid ps
                have emap := ka.len kb
                have elen : La.length = Lb.length := by have := congrArg List.length emap; simpa using this
                obtain ⟨n0, hn0⟩ := nodes_num wr _ xb Lb Eb tb (by omega)
                have LA : Hid (∀ v, Upd (fun _ => False) wr v → Calls Try.prog 17 #[.pointer (some ⟨xa, 0, none⟩)] v fun e w' => e = .returned (.int .i64 (Lb.length : Int)) ∧ Upd (fun _ => False) wr w') := by
                  intro v u
                  refine (radLen_any v _ xa La Ea (ta.keep0 u)).mono ?_
                  rintro e w' ⟨rfl, rfl⟩
                  exact ⟨by rw [elen], u⟩
                have LB : Hid (∀ v, Upd (fun _ => False) wr v → Calls Try.prog 17 #[.pointer (some ⟨xb, 0, none⟩)] v fun e w' => e = .returned (.int .i64 (Lb.length : Int)) ∧ Upd (fun _ => False) wr w') := by
                  intro v u
                  refine (radLen_any v _ xb Lb Eb (tb.keep0 u)).mono ?_
                  rintro e w' ⟨rfl, rfl⟩
                  exact ⟨rfl, u⟩
                have NA : Hid (∀ v, Upd (fun _ => False) wr v → Calls Try.prog 16 #[.pointer (some ⟨xa, 0, none⟩)] v fun e w' => e = .returned (.int .i64 (n0 : Int)) ∧ Upd (fun _ => False) wr w') := by
                  intro v u
                  refine (radNodes_any v _ xa La Ea (ta.keep0 u) (by omega)).mono ?_
                  rintro e w' ⟨n, rfl, hn, _, u2⟩
                  exact ⟨by rw [hn0 n (KeysOf.nodes emap hn)], u.trans u2 (fun _ _ h => h)⟩
                have NB : Hid (∀ v, Upd (fun _ => False) wr v → Calls Try.prog 16 #[.pointer (some ⟨xb, 0, none⟩)] v fun e w' => e = .returned (.int .i64 (n0 : Int)) ∧ Upd (fun _ => False) wr w') := by
                  intro v u
                  refine (radNodes_any v _ xb Lb Eb (tb.keep0 u) (by omega)).mono ?_
                  rintro e w' ⟨n, rfl, hn, _, u2⟩
                  exact ⟨by rw [hn0 n hn], u.trans u2 (fun _ _ h => h)⟩
                have UW := Lib.hid TW6.out.upd
                obtain ⟨y0, y1⟩ := PS.out wr (Upd.refl _ _)
                generalize Lb.length = nl at *
                clear ps ta tb na nb ka kb emap elen hn0 TW6 I1 I2 R1 R2 N1 N2
                go_wp2_with fail
                refine wp_region_held_drew (S := (fun w' => w'.cell? ⟨pa, 0, none⟩ = some (.pointer (some ⟨xa, 0, none⟩)) ∧ w'.cell? ⟨pb, 0, none⟩ = some (.pointer (some ⟨xb, 0, none⟩)))) (by kernel_rfl) ?_ (fun hHeld => ?_)
                · (try dsimp only); go_keep
                try simp only [Array.replicate, Act.put, List.setIfInBounds_toArray]
                refine' wpAnyH_take (i := 0) (oi := _) (v := _) ?hiZ1 (by kernel_rfl) (by kernel_rfl) (by kernel_rfl) ?hQZ1 ?hyZ1 (by assumption) ?restZ1
                case' hiZ1 => (first | (simp only [List.getElem?_toArray, List.getElem?_cons_succ, List.getElem?_cons_zero]; done) | (simp only [List.getElem?_toArray, List.getElem?_cons_succ, List.getElem?_cons_zero]; rfl))
                case' hQZ1 => exact fun _ _ _ h => h
                case' hyZ1 => refine Or.inl ⟨by rfl, ?_⟩
                (intro w hSw; (try dsimp only at hSw); go_simp; try with_reducible rfl)
                try simp only [Act.put, List.setIfInBounds_toArray, List.set_cons_zero, List.set_cons_succ]
                refine' wpAnyH_take (i := 1) (oi := _) (v := _) ?hiZ2 (by kernel_rfl) (by kernel_rfl) (by kernel_rfl) ?hQZ2 ?hyZ2 (by assumption) ?restZ2
                case' hiZ2 => (first | (simp only [List.getElem?_toArray, List.getElem?_cons_succ, List.getElem?_cons_zero]; done) | (simp only [List.getElem?_toArray, List.getElem?_cons_succ, List.getElem?_cons_zero]; rfl))
                case' hQZ2 => exact fun _ _ _ h => h
                case' hyZ2 => refine Or.inl ⟨by rfl, ?_⟩
                (intro w hSw; (try dsimp only at hSw); go_simp; try with_reducible rfl)
                try simp only [Act.put, List.setIfInBounds_toArray, List.set_cons_zero, List.set_cons_succ]
                refine' wpAnyH_take (i := 2) (oi := _) (v := _) ?hiZ3 (by kernel_rfl) (by kernel_rfl) (by kernel_rfl) ?hQZ3 ?hyZ3 (by assumption) ?restZ3
                case' hiZ3 => (first | (simp only [List.getElem?_toArray, List.getElem?_cons_succ, List.getElem?_cons_zero]; done) | (simp only [List.getElem?_toArray, List.getElem?_cons_succ, List.getElem?_cons_zero]; rfl))
                case' hQZ3 => exact fun _ _ _ h => h
                case' hyZ3 => refine Or.inl ⟨by rfl, ?_⟩
                (intro w hSw; (try dsimp only at hSw); go_simp; try with_reducible rfl)
                try simp only [Act.put, List.setIfInBounds_toArray, List.set_cons_zero, List.set_cons_succ]
                refine wpAnyH_ready (rs := [3]) (by kernel_rfl) (by simp) ?_
                refine' AllReadyH.cons (o := _) ?hiZ4 (fun K hK => ?hKZ4) AllReadyH.nil
                case' hiZ4 => (first | (simp only [List.getElem?_toArray, List.getElem?_cons_succ, List.getElem?_cons_zero]; done) | (simp only [List.getElem?_toArray, List.getElem?_cons_succ, List.getElem?_cons_zero]; rfl))
                go_simp
                (go_at_call 31; refine (M3.out _ (by first | exact Upd.refl _ _ | exact (Upd.refl _ _).drew)).mono ?_; rintro e w7 ⟨v3, rfl, i3, u7⟩; (have y7 := PS.out _ u7))
                refine hK.out _ _ ?_ (fun hHeld => ?_)
                · (try dsimp only); go_keep
                clear hK K
                try simp only [Act.put, List.setIfInBounds_toArray, List.set_cons_zero, List.set_cons_succ]
                refine wpAnyH_ready (rs := [4]) (by kernel_rfl) (by simp) ?_
                refine' AllReadyH.cons (o := _) ?hiZ5 (fun K hK => ?hKZ5) AllReadyH.nil
                case' hiZ5 => (first | (simp only [List.getElem?_toArray, List.getElem?_cons_succ, List.getElem?_cons_zero]; done) | (simp only [List.getElem?_toArray, List.getElem?_cons_succ, List.getElem?_cons_zero]; rfl))
                go_simp
                (go_at_call 32; refine (S1.out v3 w7 i3 u7).mono ?_; rintro e w8 ⟨rfl, u8⟩; (have y8 := PS.out _ u8))
                refine hK.out _ _ ?_ (fun hHeld => ?_)
                · (try dsimp only); go_keep
                clear hK K
                try simp only [Act.put, List.setIfInBounds_toArray, List.set_cons_zero, List.set_cons_succ]
                refine' wpAnyH_take (i := 5) (oi := _) (v := _) ?hiZ6 (by kernel_rfl) (by kernel_rfl) (by kernel_rfl) ?hQZ6 ?hyZ6 (by assumption) ?restZ6
                case' hiZ6 => (first | (simp only [List.getElem?_toArray, List.getElem?_cons_succ, List.getElem?_cons_zero]; done) | (simp only [List.getElem?_toArray, List.getElem?_cons_succ, List.getElem?_cons_zero]; rfl))
                case' hQZ6 => exact fun _ _ _ h => h
                case' hyZ6 => refine Or.inl ⟨by rfl, ?_⟩
                (intro w hSw; (try dsimp only at hSw); go_simp; try with_reducible rfl)
                try simp only [Act.put, List.setIfInBounds_toArray, List.set_cons_zero, List.set_cons_succ]
                refine' wpAnyH_take (i := 6) (oi := _) (v := _) ?hiZ7 (by kernel_rfl) (by kernel_rfl) (by kernel_rfl) ?hQZ7 ?hyZ7 (by assumption) ?restZ7
                case' hiZ7 => (first | (simp only [List.getElem?_toArray, List.getElem?_cons_succ, List.getElem?_cons_zero]; done) | (simp only [List.getElem?_toArray, List.getElem?_cons_succ, List.getElem?_cons_zero]; rfl))
                case' hQZ7 => exact fun _ _ _ h => h
                case' hyZ7 => refine Or.inl ⟨by rfl, ?_⟩
                (intro w hSw; (try dsimp only at hSw); go_simp; try with_reducible rfl)
                try simp only [Act.put, List.setIfInBounds_toArray, List.set_cons_zero, List.set_cons_succ]
                refine' wpAnyH_take (i := 7) (oi := _) (v := _) ?hiZ8 (by kernel_rfl) (by kernel_rfl) (by kernel_rfl) ?hQZ8 ?hyZ8 (by assumption) ?restZ8
                case' hiZ8 => (first | (simp only [List.getElem?_toArray, List.getElem?_cons_succ, List.getElem?_cons_zero]; done) | (simp only [List.getElem?_toArray, List.getElem?_cons_succ, List.getElem?_cons_zero]; rfl))
                case' hQZ8 => exact fun _ _ _ h => h
                case' hyZ8 => refine Or.inl ⟨by rfl, ?_⟩
                (intro w hSw; (try dsimp only at hSw); go_simp; try with_reducible rfl)
                try simp only [Act.put, List.setIfInBounds_toArray, List.set_cons_zero, List.set_cons_succ]
                refine' wpAnyH_take (i := 8) (oi := _) (v := _) ?hiZ9 (by kernel_rfl) (by kernel_rfl) (by kernel_rfl) ?hQZ9 ?hyZ9 (by assumption) ?restZ9
                case' hiZ9 => (first | (simp only [List.getElem?_toArray, List.getElem?_cons_succ, List.getElem?_cons_zero]; done) | (simp only [List.getElem?_toArray, List.getElem?_cons_succ, List.getElem?_cons_zero]; rfl))
                case' hQZ9 => exact fun _ _ _ h => h
                case' hyZ9 => refine Or.inl ⟨by rfl, ?_⟩
                (intro w hSw; (try dsimp only at hSw); go_simp; try with_reducible rfl)
                try simp only [Act.put, List.setIfInBounds_toArray, List.set_cons_zero, List.set_cons_succ]
                refine' wpAnyH_take (i := 9) (oi := _) (v := _) ?hiZ10 (by kernel_rfl) (by kernel_rfl) (by kernel_rfl) ?hQZ10 ?hyZ10 (by assumption) ?restZ10
                case' hiZ10 => (first | (simp only [List.getElem?_toArray, List.getElem?_cons_succ, List.getElem?_cons_zero]; done) | (simp only [List.getElem?_toArray, List.getElem?_cons_succ, List.getElem?_cons_zero]; rfl))
                case' hQZ10 => exact fun _ _ _ h => h
                case' hyZ10 => refine Or.inl ⟨by rfl, ?_⟩
                (intro w hSw; (try dsimp only at hSw); go_simp; try with_reducible rfl)
                try simp only [Act.put, List.setIfInBounds_toArray, List.set_cons_zero, List.set_cons_succ]
                refine' wpAnyH_take (i := 10) (oi := _) (v := _) ?hiZ11 (by kernel_rfl) (by kernel_rfl) (by kernel_rfl) ?hQZ11 ?hyZ11 (by assumption) ?restZ11
                case' hiZ11 => (first | (simp only [List.getElem?_toArray, List.getElem?_cons_succ, List.getElem?_cons_zero]; done) | (simp only [List.getElem?_toArray, List.getElem?_cons_succ, List.getElem?_cons_zero]; rfl))
                case' hQZ11 => exact fun _ _ _ h => h
                case' hyZ11 => refine Or.inl ⟨by rfl, ?_⟩
                (intro w hSw; (try dsimp only at hSw); go_simp; try with_reducible rfl)
                try simp only [Act.put, List.setIfInBounds_toArray, List.set_cons_zero, List.set_cons_succ]
                refine wpAnyH_ready (rs := [11]) (by kernel_rfl) (by simp) ?_
                refine' AllReadyH.cons (o := _) ?hiZ12 (fun K hK => ?hKZ12) AllReadyH.nil
                case' hiZ12 => (first | (simp only [List.getElem?_toArray, List.getElem?_cons_succ, List.getElem?_cons_zero]; done) | (simp only [List.getElem?_toArray, List.getElem?_cons_succ, List.getElem?_cons_zero]; rfl))
                go_simp
                (go_at_call 31; refine (M4.out _ u8).mono ?_; rintro e w9 ⟨v4, rfl, i4, u9⟩; (have y9 := PS.out _ u9))
                refine hK.out _ _ ?_ (fun hHeld => ?_)
                · (try dsimp only); go_keep
                clear hK K
                try simp only [Act.put, List.setIfInBounds_toArray, List.set_cons_zero, List.set_cons_succ]
                refine wpAnyH_ready (rs := [12]) (by kernel_rfl) (by simp) ?_
                refine' AllReadyH.cons (o := _) ?hiZ13 (fun K hK => ?hKZ13) AllReadyH.nil
                case' hiZ13 => (first | (simp only [List.getElem?_toArray, List.getElem?_cons_succ, List.getElem?_cons_zero]; done) | (simp only [List.getElem?_toArray, List.getElem?_cons_succ, List.getElem?_cons_zero]; rfl))
                go_simp
                (go_at_call 32; refine (S2.out v4 w9 i4 u9).mono ?_; rintro e w10 ⟨rfl, u10⟩; (have y10 := PS.out _ u10))
                refine hK.out _ _ ?_ (fun hHeld => ?_)
                · (try dsimp only); go_keep
                clear hK K
                try simp only [Act.put, List.setIfInBounds_toArray, List.set_cons_zero, List.set_cons_succ]
                refine' wpAnyH_take (i := 13) (oi := _) (v := _) ?hiZ14 (by kernel_rfl) (by kernel_rfl) (by kernel_rfl) ?hQZ14 ?hyZ14 (by assumption) ?restZ14
                case' hiZ14 => (first | (simp only [List.getElem?_toArray, List.getElem?_cons_succ, List.getElem?_cons_zero]; done) | (simp only [List.getElem?_toArray, List.getElem?_cons_succ, List.getElem?_cons_zero]; rfl))
                case' hQZ14 => exact fun _ _ _ h => h
                case' hyZ14 => refine Or.inl ⟨by rfl, ?_⟩
                (intro w hSw; (try dsimp only at hSw); go_simp; try with_reducible rfl)
                try simp only [Act.put, List.setIfInBounds_toArray, List.set_cons_zero, List.set_cons_succ]
                refine' wpAnyH_take (i := 14) (oi := _) (v := _) ?hiZ15 (by kernel_rfl) (by kernel_rfl) (by kernel_rfl) ?hQZ15 ?hyZ15 (by assumption) ?restZ15
                case' hiZ15 => (first | (simp only [List.getElem?_toArray, List.getElem?_cons_succ, List.getElem?_cons_zero]; done) | (simp only [List.getElem?_toArray, List.getElem?_cons_succ, List.getElem?_cons_zero]; rfl))
                case' hQZ15 => exact fun _ _ _ h => h
                case' hyZ15 => refine Or.inl ⟨by rfl, ?_⟩
                (intro w hSw; (try dsimp only at hSw); go_simp; try with_reducible rfl)
                try simp only [Act.put, List.setIfInBounds_toArray, List.set_cons_zero, List.set_cons_succ]
                refine' wpAnyH_take (i := 15) (oi := _) (v := _) ?hiZ16 (by kernel_rfl) (by kernel_rfl) (by kernel_rfl) ?hQZ16 ?hyZ16 (by assumption) ?restZ16
                case' hiZ16 => (first | (simp only [List.getElem?_toArray, List.getElem?_cons_succ, List.getElem?_cons_zero]; done) | (simp only [List.getElem?_toArray, List.getElem?_cons_succ, List.getElem?_cons_zero]; rfl))
                case' hQZ16 => exact fun _ _ _ h => h
                case' hyZ16 => refine Or.inl ⟨by rfl, ?_⟩
                (intro w hSw; (try dsimp only at hSw); go_simp; try with_reducible rfl)
                try simp only [Act.put, List.setIfInBounds_toArray, List.set_cons_zero, List.set_cons_succ]
                refine' wpAnyH_take (i := 16) (oi := _) (v := _) ?hiZ17 (by kernel_rfl) (by kernel_rfl) (by kernel_rfl) ?hQZ17 ?hyZ17 (by assumption) ?restZ17
                case' hiZ17 => (first | (simp only [List.getElem?_toArray, List.getElem?_cons_succ, List.getElem?_cons_zero]; done) | (simp only [List.getElem?_toArray, List.getElem?_cons_succ, List.getElem?_cons_zero]; rfl))
                case' hQZ17 => exact fun _ _ _ h => h
                case' hyZ17 => refine Or.inl ⟨by rfl, ?_⟩
                (intro w hSw; (try dsimp only at hSw); go_simp; try with_reducible rfl)
                try simp only [Act.put, List.setIfInBounds_toArray, List.set_cons_zero, List.set_cons_succ]
                refine' wpAnyH_take (i := 17) (oi := _) (v := _) ?hiZ18 (by kernel_rfl) (by kernel_rfl) (by kernel_rfl) ?hQZ18 ?hyZ18 (by assumption) ?restZ18
                case' hiZ18 => (first | (simp only [List.getElem?_toArray, List.getElem?_cons_succ, List.getElem?_cons_zero]; done) | (simp only [List.getElem?_toArray, List.getElem?_cons_succ, List.getElem?_cons_zero]; rfl))
                case' hQZ18 => exact fun _ _ _ h => h
                case' hyZ18 => refine Or.inl ⟨by rfl, ?_⟩
                (intro w hSw; (try dsimp only at hSw); go_simp; try with_reducible rfl)
                try simp only [Act.put, List.setIfInBounds_toArray, List.set_cons_zero, List.set_cons_succ]
                refine' wpAnyH_take (i := 18) (oi := _) (v := _) ?hiZ19 (by kernel_rfl) (by kernel_rfl) (by kernel_rfl) ?hQZ19 ?hyZ19 (by assumption) ?restZ19
                case' hiZ19 => (first | (simp only [List.getElem?_toArray, List.getElem?_cons_succ, List.getElem?_cons_zero]; done) | (simp only [List.getElem?_toArray, List.getElem?_cons_succ, List.getElem?_cons_zero]; rfl))
                case' hQZ19 => exact fun _ _ _ h => h
                case' hyZ19 => refine Or.inl ⟨by rfl, ?_⟩
                (intro w hSw; (try dsimp only at hSw); go_simp; try with_reducible rfl)
                try simp only [Act.put, List.setIfInBounds_toArray, List.set_cons_zero, List.set_cons_succ]
                refine' wpAnyH_take (i := 20) (oi := _) (v := _) ?hiZ20 (by kernel_rfl) (by kernel_rfl) (by kernel_rfl) ?hQZ20 ?hyZ20 (by assumption) ?restZ20
                case' hiZ20 => (first | (simp only [List.getElem?_toArray, List.getElem?_cons_succ, List.getElem?_cons_zero]; done) | (simp only [List.getElem?_toArray, List.getElem?_cons_succ, List.getElem?_cons_zero]; rfl))
                case' hQZ20 => exact fun _ _ _ h => h
                case' hyZ20 => refine Or.inl ⟨by rfl, ?_⟩
                (intro w hSw; (try dsimp only at hSw); go_simp; try with_reducible rfl)
                try simp only [Act.put, List.setIfInBounds_toArray, List.set_cons_zero, List.set_cons_succ]
                refine' wpAnyH_take (i := 21) (oi := _) (v := _) ?hiZ21 (by kernel_rfl) (by kernel_rfl) (by kernel_rfl) ?hQZ21 ?hyZ21 (by assumption) ?restZ21
                case' hiZ21 => (first | (simp only [List.getElem?_toArray, List.getElem?_cons_succ, List.getElem?_cons_zero]; done) | (simp only [List.getElem?_toArray, List.getElem?_cons_succ, List.getElem?_cons_zero]; rfl))
                case' hQZ21 => exact fun _ _ _ h => h
                case' hyZ21 => refine Or.inl ⟨by rfl, ?_⟩
                (intro w hSw; (try dsimp only at hSw); go_simp; try with_reducible rfl)
                try simp only [Act.put, List.setIfInBounds_toArray, List.set_cons_zero, List.set_cons_succ]
                refine' wpAnyH_take (i := 22) (oi := _) (v := _) ?hiZ22 (by kernel_rfl) (by kernel_rfl) (by kernel_rfl) ?hQZ22 ?hyZ22 (by assumption) ?restZ22
                case' hiZ22 => (first | (simp only [List.getElem?_toArray, List.getElem?_cons_succ, List.getElem?_cons_zero]; done) | (simp only [List.getElem?_toArray, List.getElem?_cons_succ, List.getElem?_cons_zero]; rfl))
                case' hQZ22 => exact fun _ _ _ h => h
                case' hyZ22 => refine Or.inl ⟨by rfl, ?_⟩
                (intro w hSw; (try dsimp only at hSw); go_simp; try with_reducible rfl)
                try simp only [Act.put, List.setIfInBounds_toArray, List.set_cons_zero, List.set_cons_succ]
                refine' wpAnyH_take (i := 23) (oi := _) (v := _) ?hiZ23 (by kernel_rfl) (by kernel_rfl) (by kernel_rfl) ?hQZ23 ?hyZ23 (by assumption) ?restZ23
                case' hiZ23 => (first | (simp only [List.getElem?_toArray, List.getElem?_cons_succ, List.getElem?_cons_zero]; done) | (simp only [List.getElem?_toArray, List.getElem?_cons_succ, List.getElem?_cons_zero]; rfl))
                case' hQZ23 => exact fun _ _ _ h => h
                case' hyZ23 => refine Or.inl ⟨by rfl, ?_⟩
                (intro w hSw; (try dsimp only at hSw); go_simp; try with_reducible rfl)
                try simp only [Act.put, List.setIfInBounds_toArray, List.set_cons_zero, List.set_cons_succ]
                refine wpAnyH_ready (rs := [19]) (by kernel_rfl) (by simp) ?_
                refine' AllReadyH.cons (o := _) ?hiZ24 (fun K hK => ?hKZ24) AllReadyH.nil
                case' hiZ24 => (first | (simp only [List.getElem?_toArray, List.getElem?_cons_succ, List.getElem?_cons_zero]; done) | (simp only [List.getElem?_toArray, List.getElem?_cons_succ, List.getElem?_cons_zero]; rfl))
                go_simp
                (go_at_call 17; refine (LA.out w10 u10).mono ?_; rintro e w11 ⟨rfl, u11⟩; (have y11 := PS.out _ u11))
                refine hK.out _ _ ?_ (fun hHeld => ?_)
                · (try dsimp only); go_keep
                clear hK K
                try simp only [Act.put, List.setIfInBounds_toArray, List.set_cons_zero, List.set_cons_succ]
                refine wpAnyH_ready (rs := [24]) (by kernel_rfl) (by simp) ?_
                refine' AllReadyH.cons (o := _) ?hiZ25 (fun K hK => ?hKZ25) AllReadyH.nil
                case' hiZ25 => (first | (simp only [List.getElem?_toArray, List.getElem?_cons_succ, List.getElem?_cons_zero]; done) | (simp only [List.getElem?_toArray, List.getElem?_cons_succ, List.getElem?_cons_zero]; rfl))
                go_simp
                (go_at_call 17; refine (LB.out w11 u11).mono ?_; rintro e w12 ⟨rfl, u12⟩; (have y12 := PS.out _ u12))
                refine hK.out _ _ ?_ (fun hHeld => ?_)
                · (try dsimp only); go_keep
                clear hK K
                try simp only [Act.put, List.setIfInBounds_toArray, List.set_cons_zero, List.set_cons_succ]
                refine' wpAnyH_take (i := 25) (oi := _) (v := _) ?hiZ26 (by kernel_rfl) (by kernel_rfl) (by kernel_rfl) ?hQZ26 ?hyZ26 (by assumption) ?restZ26
                case' hiZ26 => (first | (simp only [List.getElem?_toArray, List.getElem?_cons_succ, List.getElem?_cons_zero]; done) | (simp only [List.getElem?_toArray, List.getElem?_cons_succ, List.getElem?_cons_zero]; rfl))
                case' hQZ26 => exact fun _ _ _ h => h
                case' hyZ26 => refine Or.inl ⟨by rfl, ?_⟩
                (intro w hSw; (try dsimp only at hSw); go_simp; try with_reducible rfl)
                try simp only [Act.put, List.setIfInBounds_toArray, List.set_cons_zero, List.set_cons_succ]
                refine' wpAnyH_take (i := 26) (oi := _) (v := _) ?hiZ27 (by kernel_rfl) (by kernel_rfl) (by kernel_rfl) ?hQZ27 ?hyZ27 (by assumption) ?restZ27
                case' hiZ27 => (first | (simp only [List.getElem?_toArray, List.getElem?_cons_succ, List.getElem?_cons_zero]; done) | (simp only [List.getElem?_toArray, List.getElem?_cons_succ, List.getElem?_cons_zero]; rfl))
                case' hQZ27 => exact fun _ _ _ h => h
                case' hyZ27 => refine Or.inl ⟨by rfl, ?_⟩
                (intro w hSw; (try dsimp only at hSw); go_simp; try with_reducible rfl)
                try simp only [Act.put, List.setIfInBounds_toArray, List.set_cons_zero, List.set_cons_succ]
                refine' wpAnyH_take (i := 27) (oi := _) (v := _) ?hiZ28 (by kernel_rfl) (by kernel_rfl) (by kernel_rfl) ?hQZ28 ?hyZ28 (by assumption) ?restZ28
                case' hiZ28 => (first | (simp only [List.getElem?_toArray, List.getElem?_cons_succ, List.getElem?_cons_zero]; done) | (simp only [List.getElem?_toArray, List.getElem?_cons_succ, List.getElem?_cons_zero]; rfl))
                case' hQZ28 => exact fun _ _ _ h => h
                case' hyZ28 => refine Or.inl ⟨by rfl, ?_⟩
                (intro w hSw; (try dsimp only at hSw); go_simp; try with_reducible rfl)
                try simp only [Act.put, List.setIfInBounds_toArray, List.set_cons_zero, List.set_cons_succ]
                refine' wpAnyH_take (i := 28) (oi := _) (v := _) ?hiZ29 (by kernel_rfl) (by kernel_rfl) (by kernel_rfl) ?hQZ29 ?hyZ29 (by assumption) ?restZ29
                case' hiZ29 => (first | (simp only [List.getElem?_toArray, List.getElem?_cons_succ, List.getElem?_cons_zero]; done) | (simp only [List.getElem?_toArray, List.getElem?_cons_succ, List.getElem?_cons_zero]; rfl))
                case' hQZ29 => exact fun _ _ _ h => h
                case' hyZ29 => refine Or.inl ⟨by rfl, ?_⟩
                (intro w hSw; (try dsimp only at hSw); go_simp; try with_reducible rfl)
                try simp only [Act.put, List.setIfInBounds_toArray, List.set_cons_zero, List.set_cons_succ]
                refine' wpAnyH_take (i := 29) (oi := _) (v := _) ?hiZ30 (by kernel_rfl) (by kernel_rfl) (by kernel_rfl) ?hQZ30 ?hyZ30 (by assumption) ?restZ30
                case' hiZ30 => (first | (simp only [List.getElem?_toArray, List.getElem?_cons_succ, List.getElem?_cons_zero]; done) | (simp only [List.getElem?_toArray, List.getElem?_cons_succ, List.getElem?_cons_zero]; rfl))
                case' hQZ30 => exact fun _ _ _ h => h
                case' hyZ30 => refine Or.inl ⟨by rfl, ?_⟩
                (intro w hSw; (try dsimp only at hSw); go_simp; try with_reducible rfl)
                try simp only [Act.put, List.setIfInBounds_toArray, List.set_cons_zero, List.set_cons_succ]
                refine' wpAnyH_take (i := 30) (oi := _) (v := _) ?hiZ31 (by kernel_rfl) (by kernel_rfl) (by kernel_rfl) ?hQZ31 ?hyZ31 (by assumption) ?restZ31
                case' hiZ31 => (first | (simp only [List.getElem?_toArray, List.getElem?_cons_succ, List.getElem?_cons_zero]; done) | (simp only [List.getElem?_toArray, List.getElem?_cons_succ, List.getElem?_cons_zero]; rfl))
                case' hQZ31 => exact fun _ _ _ h => h
                case' hyZ31 => refine Or.inl ⟨by rfl, ?_⟩
                (intro w hSw; (try dsimp only at hSw); go_simp; try with_reducible rfl)
                try simp only [Act.put, List.setIfInBounds_toArray, List.set_cons_zero, List.set_cons_succ]
                refine' wpAnyH_take (i := 31) (oi := _) (v := _) ?hiZ32 (by kernel_rfl) (by kernel_rfl) (by kernel_rfl) ?hQZ32 ?hyZ32 (by assumption) ?restZ32
                case' hiZ32 => (first | (simp only [List.getElem?_toArray, List.getElem?_cons_succ, List.getElem?_cons_zero]; done) | (simp only [List.getElem?_toArray, List.getElem?_cons_succ, List.getElem?_cons_zero]; rfl))
                case' hQZ32 => exact fun _ _ _ h => h
                case' hyZ32 => refine Or.inl ⟨by rfl, ?_⟩
                (intro w hSw; (try dsimp only at hSw); go_simp; try with_reducible rfl)
                try simp only [Act.put, List.setIfInBounds_toArray, List.set_cons_zero, List.set_cons_succ]
                refine' wpAnyH_take (i := 33) (oi := _) (v := _) ?hiZ33 (by kernel_rfl) (by kernel_rfl) (by kernel_rfl) ?hQZ33 ?hyZ33 (by assumption) ?restZ33
                case' hiZ33 => (first | (simp only [List.getElem?_toArray, List.getElem?_cons_succ, List.getElem?_cons_zero]; done) | (simp only [List.getElem?_toArray, List.getElem?_cons_succ, List.getElem?_cons_zero]; rfl))
                case' hQZ33 => exact fun _ _ _ h => h
                case' hyZ33 => refine Or.inl ⟨by rfl, ?_⟩
                (intro w hSw; (try dsimp only at hSw); go_simp; try with_reducible rfl)
                try simp only [Act.put, List.setIfInBounds_toArray, List.set_cons_zero, List.set_cons_succ]
                refine' wpAnyH_take (i := 34) (oi := _) (v := _) ?hiZ34 (by kernel_rfl) (by kernel_rfl) (by kernel_rfl) ?hQZ34 ?hyZ34 (by assumption) ?restZ34
                case' hiZ34 => (first | (simp only [List.getElem?_toArray, List.getElem?_cons_succ, List.getElem?_cons_zero]; done) | (simp only [List.getElem?_toArray, List.getElem?_cons_succ, List.getElem?_cons_zero]; rfl))
                case' hQZ34 => exact fun _ _ _ h => h
                case' hyZ34 => refine Or.inl ⟨by rfl, ?_⟩
                (intro w hSw; (try dsimp only at hSw); go_simp; try with_reducible rfl)
                try simp only [Act.put, List.setIfInBounds_toArray, List.set_cons_zero, List.set_cons_succ]
                refine' wpAnyH_take (i := 35) (oi := _) (v := _) ?hiZ35 (by kernel_rfl) (by kernel_rfl) (by kernel_rfl) ?hQZ35 ?hyZ35 (by assumption) ?restZ35
                case' hiZ35 => (first | (simp only [List.getElem?_toArray, List.getElem?_cons_succ, List.getElem?_cons_zero]; done) | (simp only [List.getElem?_toArray, List.getElem?_cons_succ, List.getElem?_cons_zero]; rfl))
                case' hQZ35 => exact fun _ _ _ h => h
                case' hyZ35 => refine Or.inl ⟨by rfl, ?_⟩
                (intro w hSw; (try dsimp only at hSw); go_simp; try with_reducible rfl)
                try simp only [Act.put, List.setIfInBounds_toArray, List.set_cons_zero, List.set_cons_succ]
                refine' wpAnyH_take (i := 36) (oi := _) (v := _) ?hiZ36 (by kernel_rfl) (by kernel_rfl) (by kernel_rfl) ?hQZ36 ?hyZ36 (by assumption) ?restZ36
                case' hiZ36 => (first | (simp only [List.getElem?_toArray, List.getElem?_cons_succ, List.getElem?_cons_zero]; done) | (simp only [List.getElem?_toArray, List.getElem?_cons_succ, List.getElem?_cons_zero]; rfl))
                case' hQZ36 => exact fun _ _ _ h => h
                case' hyZ36 => refine Or.inl ⟨by rfl, ?_⟩
                (intro w hSw; (try dsimp only at hSw); go_simp; try with_reducible rfl)
                try simp only [Act.put, List.setIfInBounds_toArray, List.set_cons_zero, List.set_cons_succ]
                refine wpAnyH_ready (rs := [32]) (by kernel_rfl) (by simp) ?_
                refine' AllReadyH.cons (o := _) ?hiZ37 (fun K hK => ?hKZ37) AllReadyH.nil
                case' hiZ37 => (first | (simp only [List.getElem?_toArray, List.getElem?_cons_succ, List.getElem?_cons_zero]; done) | (simp only [List.getElem?_toArray, List.getElem?_cons_succ, List.getElem?_cons_zero]; rfl))
                go_simp
                (go_at_call 16; refine (NA.out w12 u12).mono ?_; rintro e w13 ⟨rfl, u13⟩; (have y13 := PS.out _ u13))
                refine hK.out _ _ ?_ (fun hHeld => ?_)
                · (try dsimp only); go_keep
                clear hK K
                try simp only [Act.put, List.setIfInBounds_toArray, List.set_cons_zero, List.set_cons_succ]
                refine wpAnyH_ready (rs := [37]) (by kernel_rfl) (by simp) ?_
                refine' AllReadyH.cons (o := _) ?hiZ38 (fun K hK => ?hKZ38) AllReadyH.nil
                case' hiZ38 => (first | (simp only [List.getElem?_toArray, List.getElem?_cons_succ, List.getElem?_cons_zero]; done) | (simp only [List.getElem?_toArray, List.getElem?_cons_succ, List.getElem?_cons_zero]; rfl))
                go_simp
                (go_at_call 16; refine (NB.out w13 u13).mono ?_; rintro e w14 ⟨rfl, u14⟩; (have y14 := PS.out _ u14))
                refine hK.out _ _ ?_ (fun hHeld => ?_)
                · (try dsimp only); go_keep
                clear hK K
                try simp only [Act.put, List.setIfInBounds_toArray, List.set_cons_zero, List.set_cons_succ]
                refine' wpAnyH_take (i := 38) (oi := _) (v := _) ?hiZ39 (by kernel_rfl) (by kernel_rfl) (by kernel_rfl) ?hQZ39 ?hyZ39 (by assumption) ?restZ39
                case' hiZ39 => (first | (simp only [List.getElem?_toArray, List.getElem?_cons_succ, List.getElem?_cons_zero]; done) | (simp only [List.getElem?_toArray, List.getElem?_cons_succ, List.getElem?_cons_zero]; rfl))
                case' hQZ39 => exact fun _ _ _ h => h
                case' hyZ39 => refine Or.inl ⟨by rfl, ?_⟩
                (intro w hSw; (try dsimp only at hSw); go_simp; try with_reducible rfl)
                try simp only [Act.put, List.setIfInBounds_toArray, List.set_cons_zero, List.set_cons_succ]
                refine' wpAnyH_take (i := 39) (oi := _) (v := _) ?hiZ40 (by kernel_rfl) (by kernel_rfl) (by kernel_rfl) ?hQZ40 ?hyZ40 (by assumption) ?restZ40
                case' hiZ40 => (first | (simp only [List.getElem?_toArray, List.getElem?_cons_succ, List.getElem?_cons_zero]; done) | (simp only [List.getElem?_toArray, List.getElem?_cons_succ, List.getElem?_cons_zero]; rfl))
                case' hQZ40 => exact fun _ _ _ h => h
                case' hyZ40 => refine Or.inl ⟨by rfl, ?_⟩
                (intro w hSw; (try dsimp only at hSw); go_simp; try with_reducible rfl)
                try simp only [Act.put, List.setIfInBounds_toArray, List.set_cons_zero, List.set_cons_succ]
                refine' wpAnyH_take (i := 40) (oi := _) (v := _) ?hiZ41 (by kernel_rfl) (by kernel_rfl) (by kernel_rfl) ?hQZ41 ?hyZ41 (by assumption) ?restZ41
                case' hiZ41 => (first | (simp only [List.getElem?_toArray, List.getElem?_cons_succ, List.getElem?_cons_zero]; done) | (simp only [List.getElem?_toArray, List.getElem?_cons_succ, List.getElem?_cons_zero]; rfl))
                case' hQZ41 => exact fun _ _ _ h => h
                case' hyZ41 => refine Or.inl ⟨by rfl, ?_⟩
                (intro w hSw; (try dsimp only at hSw); go_simp; try with_reducible rfl)
                try simp only [Act.put, List.setIfInBounds_toArray, List.set_cons_zero, List.set_cons_succ]
                refine wpAnyH_done (by kernel_rfl) ?_ _
                go_wp2
                go_ret
                exact ⟨rfl, UW.out.trans u14 (fun _ _ h => h)⟩
end Go.Proofs.Ytnlbmplbaalgmaa
