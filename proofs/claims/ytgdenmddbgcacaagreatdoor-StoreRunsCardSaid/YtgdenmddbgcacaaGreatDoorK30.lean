/- Walk: StoreRuns. -/
import Derived.Test.YtgdenmddbgcacaaGreatDoorK29
set_option linter.unusedVariables false
set_option linter.unusedSimpArgs false
set_option linter.unusedSectionVars false
namespace Go.Proofs.YtgdenmddbgcacaaGreatDoor
open Go.RowKit

theorem row_fld0 {w : World} {v : Value} {l : List Fd} {base : Nat} (h : RowOf fdc 2 w v l) (hb : w.heap.size ≤ base) : FldAt w (fun b => b < base) v l := by
  refine ⟨h, ?_⟩
  rcases h with ⟨_, _, _, e⟩ | ⟨b, off, c, rfl, hl, _⟩
  · exact Or.inl e
  · exact Or.inr fun q hq => by
      have e2 : b = q := Option.some.inj hq
      omega
set_option maxHeartbeats 4000000 in
set_option maxRecDepth 100000 in
theorem sevents2_any {w : World} {base sb : Nat} {X : Nat → Prop} {S : PS} {N : Nat} (h : SSt w base sb X S N) :
    Calls Tryz.prog 14 #[.pointer (some ⟨sb, 0, none⟩)] w fun e w' => ∃ v, e = .returned v ∧ OwnN evc 2 63 w' base v S.events ∧ SSt w' base sb (fun q => X q ∨ fOf v q) { S with events := [] } N ∧ Upd (Fr base X) w w' ∧ ∀ q, fOf v q → ¬ X q := by
  obtain ⟨s, Z, m, hz, r, hn⟩ := h
  have hsb := m.blk.lt
  obtain ⟨p0, c0, e0, _⟩ := m.evs.slice
  have x7 : w.cell? ⟨sb, 7, none⟩ = some (.slice p0 s.ev.length c0) := by rw [m.blk.cellAt (i := 7) rfl]; exact congrArg some e0
  have f7 := m.blk.free 7
  have EV := Lib.hid m.evs
  have NB := Lib.hid (m.nsb (b := sb)).2.2
  have hs := m.blk.set 7 (.slice none 0 0)
  have u2 : Upd (fun b => b = sb) w (w.setCell ⟨sb, 7, none⟩ (.slice none 0 0)) := (Upd.refl (fun b => b = sb) w).set (b := sb) (o := 7) (v := .slice none 0 0) (fun _ => rfl)
  have hzz : ∀ b, Z b → ¬ fOf s.evv b := by
    obtain ⟨F, mr, d, x⟩ := m
    exact fun b hb g => d 6 b (mr.f6 b g) (Or.inr hb)
  have NX : Hid (∀ b, fOf s.evv b → ¬ X b) := by
    obtain ⟨F, mr, d, x⟩ := m
    exact fun b g hb => d 6 b (mr.f6 b g) (Or.inl hb)
  have Q := Lib.hid (m.evsOff (Y := Or2 (fun q => X q ∨ fOf s.evv q) Z) u2 hs (fun b hb => by
    rcases hb with (g | g) | g
    · exact Or.inl (Or.inl g)
    · exact Or.inr g
    · exact Or.inl (Or.inr g)))
  have R := Lib.hid r
  have HN := Lib.hid hn
  have HZ := Lib.hid hz
  have HZZ := Lib.hid hzz
  have RE := Lib.hid r.ev
  have U2 := Lib.hid u2
  clear m r hn hz hs hzz u2
  rw [e0] at EV Q HZZ NB NX
  generalize s.ev.length = n at *
  go_enter Tryz.func14, Tryz.ntmps14
  go_wp2
  go_ret
  have rr := R.out.keepF Q.out.2
  refine ⟨_, rfl, ?_, ⟨_, Z, Q.out.1, ?_, ⟨⟨rr.ok.nd, rr.ok.small, rr.ok.whens, rr.ok.bud, rr.ok.fit⟩, rr.km, rr.nd, rr.at_, rr.inj, rr.frOk, rr.frnd, rr.ks, rr.l, rr.byt, rr.bud, rfl, rr.sln, rr.cln⟩, HN.out⟩, Fr.sub Q.out.2 fun k _ hk => Or.inl hk, NX.out⟩
  · rw [← RE.out]
    exact EV.out.keep U2.out fun b hb e => NB.out (by rw [← e]; exact hb) rfl
  · rintro b hb (g | g)
    · exact HZ.out b hb g
    · exact HZZ.out b hb g
/-- Both stores with the same in them, behind an act. -/
def RunN (w1 : World) (base sb wb N : Nat) (wx : World) : Prop := ∃ Y X S, Duo wx base sb wb Y X S S N ∧ Upd (fun b => base ≤ b) w1 wx
section
variable {w1 w w' wx : World} {base sb wb N : Nat} {Y X : Nat → Prop} {S : PS}
theorem RunN.of {a : Act12} {now : Int} (u : Upd (fun b => base ≤ b) w1 w) (h : DGo w base sb wb Y X wx (stepP S a now) (stepP S a now) N) : RunN w1 base sb wb N wx := by
  obtain ⟨X', d, _, u2⟩ := h
  exact ⟨_, X', _, d, u.trans u2 fun b _ hb => hb.1⟩
theorem RunN.after (h : RunN w1 base sb wb N w) (u : Upd (fun _ => False) w w') : RunN w1 base sb wb N w' := by
  obtain ⟨Y, X, S, d, u2⟩ := h
  exact ⟨Y, X, S, d.keep0 u, u2.trans u fun _ _ h => h.elim⟩
theorem RunN.look (h : RunN w1 base sb wb N w) (hN : N ≤ 9000) : ∃ (tb nl : Nat) (pc : Option Addr) (cc : Nat), w.cell? ⟨sb, 0, none⟩ = some (.pointer (some ⟨tb, 0, none⟩)) ∧ sb < w.heap.size ∧ w.cell? ⟨wb, 0, none⟩ = some (.slice pc nl cc) ∧ wb < w.heap.size ∧
    Hid (Calls Tryz.prog 10 #[.pointer (some ⟨tb, 0, none⟩)] w fun e w' => e = .returned (.int .i64 (nl : Int)) ∧ Upd (fun _ => False) w w') ∧
    ∃ by_ : Int, Hid (∀ w2, Upd (fun _ => False) w w2 → Calls Tryz.prog 11 #[.pointer (some ⟨sb, 0, none⟩)] w2 fun e w' => e = .returned (.int .i64 by_) ∧ w' = w2) ∧
    Hid (∀ w2, Upd (fun _ => False) w w2 → Calls Tryz.prog 12 #[.pointer (some ⟨wb, 0, none⟩)] w2 fun e w' => e = .returned (.int .i64 by_) ∧ Upd (fun _ => False) w2 w') := by
  obtain ⟨Y, X, S, d, _⟩ := h
  obtain ⟨tb, h1, h2, h3⟩ := d.s.tlenAt (by omega)
  have hl := d.s.len
  have d0 := d
  obtain ⟨_, ⟨vs, ve, C, m, ok, _⟩, _⟩ := d
  obtain ⟨p, c, ev, _⟩ := m.cells.slice
  refine ⟨tb, S.cells.length, p, c, h1, h2, ?_, m.blk.lt, Lib.hid (h3 _ (Upd.refl _ _)), bytesC S.cells, Lib.hid fun w2 u => sbytes_any (d0.s.keep0 u), Lib.hid fun w2 u => qbytes_any (m.keep0 u) ok (by omega)⟩
  rw [m.blk.cellAt (i := 0) rfl, ev, m.len]
end
/-- So far. -/
def RunI (w1 : World) (base sb wb N : Nat) (wx : World) : Prop := ∃ Y X S, Duo wx base sb wb Y X S S N ∧ S.events = [] ∧ Upd (fun b => base ≤ b) w1 wx
set_option maxHeartbeats 16000000 in
set_option maxRecDepth 100000 in
theorem lawSRuns (bud : Int) (v : Value) (l : List Act12) (w : World) (hs : Std w) (hv : RowOf a12c 9 w v l) (hf : ∀ a ∈ l, RowOf fdc 2 w a.fv a.item.flds) (hwt : ∀ a ∈ l, 0 ≤ a.wait ∧ a.wait < 65536) :
    Calls Tryz.prog 3 #[.int .i64 bud, v] w fun e w' => e = .returned (.bool true) ∧ Upd (fun _ => False) w w' := by
  obtain ⟨p, c, ev, hm⟩ := hv.len
  subst ev
  unfold maxLen at hm
  have AL := Lib.hid (alive12_any w hs)
  have HS := Lib.hid hs
  have HV := Lib.hid hv
  have HF := Lib.hid hf
  have HW := Lib.hid hwt
  obtain ⟨nl, hnl⟩ : ∃ nl, nl = l.length := ⟨_, rfl⟩
  have NL := Lib.hid hnl
  rw [← hnl] at HV hm ⊢
  clear hs hv hf hwt hnl
  go_enter Tryz.func3, Tryz.ntmps3
  go_wp2_with fail
  refine (AL.out).mono ?_
  rintro e w0 ⟨rfl, u0⟩
  have GR := Lib.hid (great12_any _ l w0 (HV.out.keep u0 (fun _ _ _ h => h)) (fun a ha => (HF.out a ha).keep u0 (fun _ _ _ h => h)))
  have U0 := Lib.hid u0
  clear u0 AL
  go_wp2_with fail
  refine (GR.out).mono ?_
  rintro e w1 ⟨r, rfl, hgr, u1⟩
  have U1 := Lib.hid (U0.out.trans u1 (fun _ _ h => h))
  clear u1 GR U0
  cases r with
  | true =>
    go_wp2
    go_ret
    exact ⟨rfl, U1.out⟩
  | false =>
    obtain ⟨hl80, hgood⟩ := hgr rfl
    have HG := Lib.hid hgood
    rw [← NL.out] at hl80
    have NW := Lib.hid (snew_any bud w1 (HS.out.keep U1.out))
    clear hgr hgood
    go_wp2_with fail
    refine (NW.out).mono ?_
    rintro e w2 ⟨sb, rfl, s2, u2⟩
    have NQ := Lib.hid (qnew_any w2 w1.heap.size bud u2.size)
    have S2 := Lib.hid s2
    have U2 := Lib.hid u2
    clear s2 u2 NW
    go_wp2_with fail
    refine (NQ.out).mono ?_
    rintro e w3 ⟨rfl, r3, u3, z3⟩
    have I0 : Hid (RunI w1 w1.heap.size sb w2.heap.size 0 w3) := ⟨_, _, newP bud, ⟨S2.out.also (Y := fun b => b = w2.heap.size) u3 (fun b hb => Or.inr ⟨by omega, by omega⟩), r3, fun _ h => h⟩, rfl, ((U2.out.trans u3 (fun _ _ h => h)).weaken fun _ _ h => h.elim)⟩
    obtain ⟨base, hbase⟩ : ∃ base, base = w1.heap.size := ⟨_, rfl⟩
    have HBASE := Lib.hid hbase
    rw [← hbase] at I0
    clear r3 u3 z3 S2 U2 NQ hbase
    generalize w2.heap.size = wb at *
    go_wp2
    go_loopw [7, 20] (fun v7 x wr => ∃ (k : Nat) (now : Int), k ≤ nl ∧ x = .int .i64 (k : Int) ∧ v7 = .int .i64 now ∧ 0 ≤ now ∧ now ≤ 65536 * (k : Int) ∧ Hid (RunI w1 base sb wb k wr)) (fun _ x _ => nl - (intOf x).toNat)
    case atStart => exact ⟨0, 0, by omega, rfl, rfl, by omega, by omega, I0⟩
    case round =>
      clear I0
      obtain ⟨k, now, hkl, rfl, rfl, hn0, hn1, I⟩ := hrel
      by_cases hlt : k < nl
      · obtain ⟨Y, X, S, d, hev, u⟩ := I.out
        have hkl2 : k < l.length := by rw [← NL.out]; exact hlt
        obtain ⟨a, ha⟩ : ∃ a, l[k]? = some a := ⟨_, List.getElem?_eq_getElem hkl2⟩
        have hrow := ((HV.out.keep U1.out (fun _ _ _ h => h)).keep u (fun b hb _ g => by have := HBASE.out; omega))
        rw [NL.out] at hrow
        obtain ⟨b, off, cap, ev, hb, hc⟩ := a12_cells hrow ha
        injection ev with ev1 ev2 ev3
        subst ev1 ev3
        have ham := List.mem_of_getElem? ha
        have hfd := row_fld0 (base := base) ((HF.out a ham).keep U1.out (fun _ _ _ h => h)) (by have := HBASE.out; omega)
        have hfd := hfd.keep u (fun b hb g => by omega)
        obtain ⟨hk6, _⟩ := HG.out a ham
        obtain ⟨hw0, hw1⟩ := HW.out a ham
        obtain ⟨ak, an, key, ⟨ik, it, il⟩, fv, keep, when, wait⟩ := a
        obtain ⟨pf, cf, ef, hmf⟩ := hfd.1.len
        simp only at ef hmf hfd hk6 hw0 hw1
        subst ef
        have cc : ∀ j v, j < 9 → (a12c ⟨ak, an, key, ⟨ik, it, il⟩, .slice pf il.length cf, keep, when, wait⟩)[j]? = some v → wr.cell? ⟨b, off + k * 9 + j, none⟩ = some v := fun j v hj hv => by
          have := (hc j hj).trans hv
          rw [← Nat.add_assoc] at this; exact this
        have c0 := cc 0 _ (by omega) rfl
        rw [Nat.add_zero] at c0
        have c1 := cc 1 _ (by omega) rfl
        have c2 := cc 2 _ (by omega) rfl
        have c3 := cc 3 _ (by omega) rfl
        have c4 := cc 4 _ (by omega) rfl
        have c5 := cc 5 _ (by omega) rfl
        have c6 := cc 6 _ (by omega) rfl
        have c7 := cc 7 _ (by omega) rfl
        have c8 := cc 8 _ (by omega) rfl
        have hq : (k : Int) < (nl : Int) := by omega
        have UA : Upd (fun _ => False) wr (wr.alloc (.cells #[.int .i64 ak, .int .i64 an, .string key, .int .i64 ik, .string it, .slice pf il.length cf, .bool keep, .int .i64 when, .int .u16 wait] 34)) := (Upd.refl _ _).alloc _
        have BQ := Blk.made wr [.int .i64 ak, .int .i64 an, .string key, .int .i64 ik, .string it, .slice pf il.length cf, .bool keep, .int .i64 when, .int .u16 wait] 34
        have UD := UA.drew
        have U0 : Hid (Upd (fun b => base ≤ b) w1 (wr.alloc (.cells #[.int .i64 ak, .int .i64 an, .string key, .int .i64 ik, .string it, .slice pf il.length cf, .bool keep, .int .i64 when, .int .u16 wait] 34)).drew) := u.trans UD (fun _ _ h => h.elim)
        have ONE := Lib.hid (one12_any (d.keep0 UD) ⟨ak, an, key, ⟨ik, it, il⟩, .slice pf il.length cf, keep, when, wait⟩ (now + wait) (hfd.keep UD (fun _ _ h => h)) (by omega) (by rw [hev]; simp) (by have := d.s.len; omega) (by rw [hev]; simp) (by simp only; omega) (by omega) (by omega))
        unfold actV at ONE
        simp only at ONE
        have HK : Hid (k + 1 ≤ 9000) := by show _ ≤ _; omega
        clear cc hc ha d hev u hrow hfd I hkl2 ham UD
        generalize il.length = nf at *
        go_upto_region 11 with (fail)
        generalize hqq : wr.heap.size = q at *
        generalize hwa : wr.alloc (.cells #[.int .i64 ak, .int .i64 an, .string key, .int .i64 ik, .string it, .slice pf nf cf, .bool keep, .int .i64 when, .int .u16 wait] 34) = wa at *
        have BQ : Blk wa q [.int .i64 ak, .int .i64 an, .string key, .int .i64 ik, .string it, .slice pf nf cf, .bool keep, .int .i64 when, .int .u16 wait] 34 := BQ
        have z0 := BQ.cellAt (i := 0) rfl
        have z1 := BQ.cellAt (i := 1) rfl
        have z2 := BQ.cellAt (i := 2) rfl
        have z3 := BQ.cellAt (i := 3) rfl
        have z4 := BQ.cellAt (i := 4) rfl
        have z5 := BQ.cellAt (i := 5) rfl
        have z6 := BQ.cellAt (i := 6) rfl
        have z7 := BQ.cellAt (i := 7) rfl
        have z8 := BQ.cellAt (i := 8) rfl
        have zl := BQ.lt
        clear hwa hqq c0 c1 c2 c3 c4 c5 c6 c7 c8 hb UA BQ
        go_cut [54] (fun v54 wx => v54 = .bool false ∧ Hid (RunN w1 base sb wb (k + 1) wx))
        case first =>
          refine wp_region_held_drew (S := fun _ => Hid True) (by kernel_rfl) ?_ (fun hHeld => ?_)
          · exact (trivial : True)
          try simp only [Array.replicate, Act.put, List.setIfInBounds_toArray]
          refine' wpAnyH_take (i := 0) (oi := _) (v := _) ?hiRRUN0x1 (by kernel_rfl) (by kernel_rfl) (by kernel_rfl) ?hQRRUN0x1 ?hyRRUN0x1 (by assumption) ?restRRUN0x1
          case' hiRRUN0x1 => (first | (simp only [List.getElem?_toArray, List.getElem?_cons_succ, List.getElem?_cons_zero]; done) | (simp only [List.getElem?_toArray, List.getElem?_cons_succ, List.getElem?_cons_zero]; rfl))
          case' hQRRUN0x1 => exact fun _ _ _ h => h
          case' hyRRUN0x1 => refine Or.inl ⟨by rfl, ?_⟩
          (intro w hSw; (try dsimp only at hSw); go_simp; try with_reducible rfl)
          try simp only [Act.put, List.setIfInBounds_toArray, List.set_cons_zero, List.set_cons_succ]
          refine' wpAnyH_take (i := 1) (oi := _) (v := _) ?hiRRUN0x2 (by kernel_rfl) (by kernel_rfl) (by kernel_rfl) ?hQRRUN0x2 ?hyRRUN0x2 (by assumption) ?restRRUN0x2
          case' hiRRUN0x2 => (first | (simp only [List.getElem?_toArray, List.getElem?_cons_succ, List.getElem?_cons_zero]; done) | (simp only [List.getElem?_toArray, List.getElem?_cons_succ, List.getElem?_cons_zero]; rfl))
          case' hQRRUN0x2 => exact fun _ _ _ h => h
          case' hyRRUN0x2 => refine Or.inl ⟨by rfl, ?_⟩
          (intro w hSw; (try dsimp only at hSw); go_simp; try with_reducible rfl)
          try simp only [Act.put, List.setIfInBounds_toArray, List.set_cons_zero, List.set_cons_succ]
          refine' wpAnyH_take (i := 3) (oi := _) (v := _) ?hiRRUN0x3 (by kernel_rfl) (by kernel_rfl) (by kernel_rfl) ?hQRRUN0x3 ?hyRRUN0x3 (by assumption) ?restRRUN0x3
          case' hiRRUN0x3 => (first | (simp only [List.getElem?_toArray, List.getElem?_cons_succ, List.getElem?_cons_zero]; done) | (simp only [List.getElem?_toArray, List.getElem?_cons_succ, List.getElem?_cons_zero]; rfl))
          case' hQRRUN0x3 => exact fun _ _ _ h => h
          case' hyRRUN0x3 => refine Or.inl ⟨by rfl, ?_⟩
          (intro w hSw; (try dsimp only at hSw); go_simp; try with_reducible rfl)
          try simp only [Act.put, List.setIfInBounds_toArray, List.set_cons_zero, List.set_cons_succ]
          refine wpAnyH_ready (rs := [2]) (by kernel_rfl) (by simp) ?_
          refine' AllReadyH.cons (o := _) ?hiRRUN0x4 (fun K hK => ?hKRRUN0x4) AllReadyH.nil
          case' hiRRUN0x4 => (first | (simp only [List.getElem?_toArray, List.getElem?_cons_succ, List.getElem?_cons_zero]; done) | (simp only [List.getElem?_toArray, List.getElem?_cons_succ, List.getElem?_cons_zero]; rfl))
          go_simp
          skip
          refine hK.out _ _ ?_ (fun hHeld => ?_)
          · exact (trivial : True)
          clear hK K
          try simp only [Act.put, List.setIfInBounds_toArray, List.set_cons_zero, List.set_cons_succ]
          refine wpAnyH_ready (rs := [4]) (by kernel_rfl) (by simp) ?_
          refine' AllReadyH.cons (o := _) ?hiRRUN0x5 (fun K hK => ?hKRRUN0x5) AllReadyH.nil
          case' hiRRUN0x5 => (first | (simp only [List.getElem?_toArray, List.getElem?_cons_succ, List.getElem?_cons_zero]; done) | (simp only [List.getElem?_toArray, List.getElem?_cons_succ, List.getElem?_cons_zero]; rfl))
          go_simp
          (go_at_call 9; refine ONE.out.mono ?_; rintro e w5 ⟨r, rfl, hr, hd5⟩; have NX := Lib.hid (RunN.of U0.out hd5); obtain rfl := hr rfl; clear hd5; obtain ⟨tb, nl, pc, cc, xs, xl, ys, yl, LN, byt, BY, QB⟩ := NX.out.look HK.out)
          refine hK.out _ _ ?_ (fun hHeld => ?_)
          · exact (trivial : True)
          clear hK K
          try simp only [Act.put, List.setIfInBounds_toArray, List.set_cons_zero, List.set_cons_succ]
          refine' wpAnyH_take (i := 5) (oi := _) (v := _) ?hiRRUN0x6 (by kernel_rfl) (by kernel_rfl) (by kernel_rfl) ?hQRRUN0x6 ?hyRRUN0x6 (by assumption) ?restRRUN0x6
          case' hiRRUN0x6 => (first | (simp only [List.getElem?_toArray, List.getElem?_cons_succ, List.getElem?_cons_zero]; done) | (simp only [List.getElem?_toArray, List.getElem?_cons_succ, List.getElem?_cons_zero]; rfl))
          case' hQRRUN0x6 => exact fun _ _ _ h => h
          case' hyRRUN0x6 => refine Or.inl ⟨by rfl, ?_⟩
          (intro w hSw; (try dsimp only at hSw); go_simp; try with_reducible rfl)
          try simp only [Act.put, List.setIfInBounds_toArray, List.set_cons_zero, List.set_cons_succ]
          refine' wpAnyH_take (i := 6) (oi := _) (v := _) ?hiRRUN0x7 (by kernel_rfl) (by kernel_rfl) (by kernel_rfl) ?hQRRUN0x7 ?hyRRUN0x7 (by assumption) ?restRRUN0x7
          case' hiRRUN0x7 => (first | (simp only [List.getElem?_toArray, List.getElem?_cons_succ, List.getElem?_cons_zero]; done) | (simp only [List.getElem?_toArray, List.getElem?_cons_succ, List.getElem?_cons_zero]; rfl))
          case' hQRRUN0x7 => exact fun _ _ _ h => h
          case' hyRRUN0x7 => refine Or.inl ⟨by rfl, ?_⟩
          (intro w hSw; (try dsimp only at hSw); go_simp; try with_reducible rfl)
          try simp only [Act.put, List.setIfInBounds_toArray, List.set_cons_zero, List.set_cons_succ]
          refine' wpAnyH_take (i := 7) (oi := _) (v := _) ?hiRRUN0x8 (by kernel_rfl) (by kernel_rfl) (by kernel_rfl) ?hQRRUN0x8 ?hyRRUN0x8 (by assumption) ?restRRUN0x8
          case' hiRRUN0x8 => (first | (simp only [List.getElem?_toArray, List.getElem?_cons_succ, List.getElem?_cons_zero]; done) | (simp only [List.getElem?_toArray, List.getElem?_cons_succ, List.getElem?_cons_zero]; rfl))
          case' hQRRUN0x8 => exact fun _ _ _ h => h
          case' hyRRUN0x8 => refine Or.inl ⟨by rfl, ?_⟩
          (intro w hSw; (try dsimp only at hSw); go_simp; try with_reducible rfl)
          try simp only [Act.put, List.setIfInBounds_toArray, List.set_cons_zero, List.set_cons_succ]
          refine' wpAnyH_take (i := 8) (oi := _) (v := _) ?hiRRUN0x9 (by kernel_rfl) (by kernel_rfl) (by kernel_rfl) ?hQRRUN0x9 ?hyRRUN0x9 (by assumption) ?restRRUN0x9
          case' hiRRUN0x9 => (first | (simp only [List.getElem?_toArray, List.getElem?_cons_succ, List.getElem?_cons_zero]; done) | (simp only [List.getElem?_toArray, List.getElem?_cons_succ, List.getElem?_cons_zero]; rfl))
          case' hQRRUN0x9 => exact fun _ _ _ h => h
          case' hyRRUN0x9 => refine Or.inl ⟨by rfl, ?_⟩
          (intro w hSw; (try dsimp only at hSw); go_simp; try with_reducible rfl)
          try simp only [Act.put, List.setIfInBounds_toArray, List.set_cons_zero, List.set_cons_succ]
          refine' wpAnyH_take (i := 9) (oi := _) (v := _) ?hiRRUN0x10 (by kernel_rfl) (by kernel_rfl) (by kernel_rfl) ?hQRRUN0x10 ?hyRRUN0x10 (by assumption) ?restRRUN0x10
          case' hiRRUN0x10 => (first | (simp only [List.getElem?_toArray, List.getElem?_cons_succ, List.getElem?_cons_zero]; done) | (simp only [List.getElem?_toArray, List.getElem?_cons_succ, List.getElem?_cons_zero]; rfl))
          case' hQRRUN0x10 => exact fun _ _ _ h => h
          case' hyRRUN0x10 => refine Or.inl ⟨by rfl, ?_⟩
          (intro w hSw; (try dsimp only at hSw); go_simp; try with_reducible rfl)
          try simp only [Act.put, List.setIfInBounds_toArray, List.set_cons_zero, List.set_cons_succ]
          refine' wpAnyH_take (i := 12) (oi := _) (v := _) ?hiRRUN0x11 (by kernel_rfl) (by kernel_rfl) (by kernel_rfl) ?hQRRUN0x11 ?hyRRUN0x11 (by assumption) ?restRRUN0x11
          case' hiRRUN0x11 => (first | (simp only [List.getElem?_toArray, List.getElem?_cons_succ, List.getElem?_cons_zero]; done) | (simp only [List.getElem?_toArray, List.getElem?_cons_succ, List.getElem?_cons_zero]; rfl))
          case' hQRRUN0x11 => exact fun _ _ _ h => h
          case' hyRRUN0x11 => refine Or.inl ⟨by rfl, ?_⟩
          (intro w hSw; (try dsimp only at hSw); go_simp; try with_reducible rfl)
          try simp only [Act.put, List.setIfInBounds_toArray, List.set_cons_zero, List.set_cons_succ]
          refine' wpAnyH_take (i := 13) (oi := _) (v := _) ?hiRRUN0x12 (by kernel_rfl) (by kernel_rfl) (by kernel_rfl) ?hQRRUN0x12 ?hyRRUN0x12 (by assumption) ?restRRUN0x12
          case' hiRRUN0x12 => (first | (simp only [List.getElem?_toArray, List.getElem?_cons_succ, List.getElem?_cons_zero]; done) | (simp only [List.getElem?_toArray, List.getElem?_cons_succ, List.getElem?_cons_zero]; rfl))
          case' hQRRUN0x12 => exact fun _ _ _ h => h
          case' hyRRUN0x12 => refine Or.inl ⟨by rfl, ?_⟩
          (intro w hSw; (try dsimp only at hSw); go_simp; try with_reducible rfl)
          try simp only [Act.put, List.setIfInBounds_toArray, List.set_cons_zero, List.set_cons_succ]
          refine' wpAnyH_take (i := 14) (oi := _) (v := _) ?hiRRUN0x13 (by kernel_rfl) (by kernel_rfl) (by kernel_rfl) ?hQRRUN0x13 ?hyRRUN0x13 (by assumption) ?restRRUN0x13
          case' hiRRUN0x13 => (first | (simp only [List.getElem?_toArray, List.getElem?_cons_succ, List.getElem?_cons_zero]; done) | (simp only [List.getElem?_toArray, List.getElem?_cons_succ, List.getElem?_cons_zero]; rfl))
          case' hQRRUN0x13 => exact fun _ _ _ h => h
          case' hyRRUN0x13 => refine Or.inl ⟨by rfl, ?_⟩
          (intro w hSw; (try dsimp only at hSw); go_simp; try with_reducible rfl)
          try simp only [Act.put, List.setIfInBounds_toArray, List.set_cons_zero, List.set_cons_succ]
          refine wpAnyH_ready (rs := [10, 15]) (by kernel_rfl) (by simp) ?_
          refine' AllReadyH.cons (o := _) ?hiRRUN0x14 (fun K hK => ?hKRRUN0x14) (AllReadyH.cons (o := _) ?hiRRUN0x15 (fun K hK => ?hKRRUN0x15) AllReadyH.nil)
          case' hiRRUN0x14 => (first | (simp only [List.getElem?_toArray, List.getElem?_cons_succ, List.getElem?_cons_zero]; done) | (simp only [List.getElem?_toArray, List.getElem?_cons_succ, List.getElem?_cons_zero]; rfl))
          case' hiRRUN0x15 => (first | (simp only [List.getElem?_toArray, List.getElem?_cons_succ, List.getElem?_cons_zero]; done) | (simp only [List.getElem?_toArray, List.getElem?_cons_succ, List.getElem?_cons_zero]; rfl))
          case' hKRRUN0x14 =>
            go_simp
            skip
            refine hK.out _ _ ?_ (fun hHeld => ?_)
            · exact (trivial : True)
            clear hK K
            try simp only [Act.put, List.setIfInBounds_toArray, List.set_cons_zero, List.set_cons_succ]
            refine wpAnyH_ready (rs := [11, 15]) (by kernel_rfl) (by simp) ?_
            refine' AllReadyH.cons (o := _) ?hiRRUN0x16 (fun K hK => ?hKRRUN0x16) (AllReadyH.cons (o := _) ?hiRRUN0x17 (fun K hK => ?hKRRUN0x17) AllReadyH.nil)
            case' hiRRUN0x16 => (first | (simp only [List.getElem?_toArray, List.getElem?_cons_succ, List.getElem?_cons_zero]; done) | (simp only [List.getElem?_toArray, List.getElem?_cons_succ, List.getElem?_cons_zero]; rfl))
            case' hiRRUN0x17 => (first | (simp only [List.getElem?_toArray, List.getElem?_cons_succ, List.getElem?_cons_zero]; done) | (simp only [List.getElem?_toArray, List.getElem?_cons_succ, List.getElem?_cons_zero]; rfl))
            case' hKRRUN0x16 =>
              go_simp
              (go_at_call 10; refine LN.out.mono ?_; rintro e w6 ⟨rfl, u6⟩; have hy6 := (u6.cell (p := ⟨wb, 0, none⟩) yl (fun h => h)).trans ys; have hl6 := Nat.lt_of_lt_of_le yl u6.size; have U6 := Lib.hid u6; clear u6)
              refine hK.out _ _ ?_ (fun hHeld => ?_)
              · exact (trivial : True)
              clear hK K
              try simp only [Act.put, List.setIfInBounds_toArray, List.set_cons_zero, List.set_cons_succ]
              refine wpAnyH_ready (rs := [15]) (by kernel_rfl) (by simp) ?_
              refine' AllReadyH.cons (o := _) ?hiRRUN0x18 (fun K hK => ?hKRRUN0x18) AllReadyH.nil
              case' hiRRUN0x18 => (first | (simp only [List.getElem?_toArray, List.getElem?_cons_succ, List.getElem?_cons_zero]; done) | (simp only [List.getElem?_toArray, List.getElem?_cons_succ, List.getElem?_cons_zero]; rfl))
              go_simp
              skip
              refine hK.out _ _ ?_ (fun hHeld => ?_)
              · exact (trivial : True)
              clear hK K
              try simp only [Act.put, List.setIfInBounds_toArray, List.set_cons_zero, List.set_cons_succ]
              refine' wpAnyH_take (i := 16) (oi := _) (v := _) ?hiRRUN0x19 (by kernel_rfl) (by kernel_rfl) (by kernel_rfl) ?hQRRUN0x19 ?hyRRUN0x19 (by assumption) ?restRRUN0x19
              case' hiRRUN0x19 => (first | (simp only [List.getElem?_toArray, List.getElem?_cons_succ, List.getElem?_cons_zero]; done) | (simp only [List.getElem?_toArray, List.getElem?_cons_succ, List.getElem?_cons_zero]; rfl))
              case' hQRRUN0x19 => exact fun _ _ _ h => h
              case' hyRRUN0x19 => refine Or.inl ⟨by rfl, ?_⟩
              (intro w hSw; (try dsimp only at hSw); go_simp; try with_reducible rfl)
              try simp only [Act.put, List.setIfInBounds_toArray, List.set_cons_zero, List.set_cons_succ]
              refine' wpAnyH_take (i := 17) (oi := _) (v := _) ?hiRRUN0x20 (by kernel_rfl) (by kernel_rfl) (by kernel_rfl) ?hQRRUN0x20 ?hyRRUN0x20 (by assumption) ?restRRUN0x20
              case' hiRRUN0x20 => (first | (simp only [List.getElem?_toArray, List.getElem?_cons_succ, List.getElem?_cons_zero]; done) | (simp only [List.getElem?_toArray, List.getElem?_cons_succ, List.getElem?_cons_zero]; rfl))
              case' hQRRUN0x20 => exact fun _ _ _ h => h
              case' hyRRUN0x20 => refine Or.inl ⟨by rfl, ?_⟩
              (intro w hSw; (try dsimp only at hSw); go_simp; try with_reducible rfl)
              try simp only [Act.put, List.setIfInBounds_toArray, List.set_cons_zero, List.set_cons_succ]
              refine' wpAnyH_take (i := 18) (oi := _) (v := _) ?hiRRUN0x21 (by kernel_rfl) (by kernel_rfl) (by kernel_rfl) ?hQRRUN0x21 ?hyRRUN0x21 (by assumption) ?restRRUN0x21
              case' hiRRUN0x21 => (first | (simp only [List.getElem?_toArray, List.getElem?_cons_succ, List.getElem?_cons_zero]; done) | (simp only [List.getElem?_toArray, List.getElem?_cons_succ, List.getElem?_cons_zero]; rfl))
              case' hQRRUN0x21 => exact fun _ _ _ h => h
              case' hyRRUN0x21 => refine Or.inl ⟨by rfl, ?_⟩
              (intro w hSw; (try dsimp only at hSw); go_simp; try with_reducible rfl)
              try simp only [Act.put, List.setIfInBounds_toArray, List.set_cons_zero, List.set_cons_succ]
              refine' wpAnyH_take (i := 19) (oi := _) (v := _) ?hiRRUN0x22 (by kernel_rfl) (by kernel_rfl) (by kernel_rfl) ?hQRRUN0x22 ?hyRRUN0x22 (by assumption) ?restRRUN0x22
              case' hiRRUN0x22 => (first | (simp only [List.getElem?_toArray, List.getElem?_cons_succ, List.getElem?_cons_zero]; done) | (simp only [List.getElem?_toArray, List.getElem?_cons_succ, List.getElem?_cons_zero]; rfl))
              case' hQRRUN0x22 => exact fun _ _ _ h => h
              case' hyRRUN0x22 => refine Or.inl ⟨by rfl, ?_⟩
              (intro w hSw; (try dsimp only at hSw); go_simp; try with_reducible rfl)
              try simp only [Act.put, List.setIfInBounds_toArray, List.set_cons_zero, List.set_cons_succ]
              refine' wpAnyH_take (i := 20) (oi := _) (v := _) ?hiRRUN0x23 (by kernel_rfl) (by kernel_rfl) (by kernel_rfl) ?hQRRUN0x23 ?hyRRUN0x23 (by assumption) ?restRRUN0x23
              case' hiRRUN0x23 => (first | (simp only [List.getElem?_toArray, List.getElem?_cons_succ, List.getElem?_cons_zero]; done) | (simp only [List.getElem?_toArray, List.getElem?_cons_succ, List.getElem?_cons_zero]; rfl))
              case' hQRRUN0x23 => exact fun _ _ _ h => h
              case' hyRRUN0x23 => refine Or.inl ⟨by rfl, ?_⟩
              (intro w hSw; (try dsimp only at hSw); go_simp; try with_reducible rfl)
              try simp only [Act.put, List.setIfInBounds_toArray, List.set_cons_zero, List.set_cons_succ]
              refine' wpAnyH_take (i := 22) (oi := _) (v := _) ?hiRRUN0x24 (by kernel_rfl) (by kernel_rfl) (by kernel_rfl) ?hQRRUN0x24 ?hyRRUN0x24 (by assumption) ?restRRUN0x24
              case' hiRRUN0x24 => (first | (simp only [List.getElem?_toArray, List.getElem?_cons_succ, List.getElem?_cons_zero]; done) | (simp only [List.getElem?_toArray, List.getElem?_cons_succ, List.getElem?_cons_zero]; rfl))
              case' hQRRUN0x24 => exact fun _ _ _ h => h
              case' hyRRUN0x24 => refine Or.inl ⟨by rfl, ?_⟩
              (intro w hSw; (try dsimp only at hSw); go_simp; try with_reducible rfl)
              try simp only [Act.put, List.setIfInBounds_toArray, List.set_cons_zero, List.set_cons_succ]
              refine wpAnyH_ready (rs := [21]) (by kernel_rfl) (by simp) ?_
              refine' AllReadyH.cons (o := _) ?hiRRUN0x25 (fun K hK => ?hKRRUN0x25) AllReadyH.nil
              case' hiRRUN0x25 => (first | (simp only [List.getElem?_toArray, List.getElem?_cons_succ, List.getElem?_cons_zero]; done) | (simp only [List.getElem?_toArray, List.getElem?_cons_succ, List.getElem?_cons_zero]; rfl))
              go_simp
              (go_at_call 11; refine (BY.out _ U6.out).mono ?_; rintro e w7 ⟨rfl, rfl⟩)
              refine hK.out _ _ ?_ (fun hHeld => ?_)
              · exact (trivial : True)
              clear hK K
              try simp only [Act.put, List.setIfInBounds_toArray, List.set_cons_zero, List.set_cons_succ]
              refine wpAnyH_ready (rs := [23]) (by kernel_rfl) (by simp) ?_
              refine' AllReadyH.cons (o := _) ?hiRRUN0x26 (fun K hK => ?hKRRUN0x26) AllReadyH.nil
              case' hiRRUN0x26 => (first | (simp only [List.getElem?_toArray, List.getElem?_cons_succ, List.getElem?_cons_zero]; done) | (simp only [List.getElem?_toArray, List.getElem?_cons_succ, List.getElem?_cons_zero]; rfl))
              go_simp
              (go_at_call 12; refine (QB.out _ U6.out).mono ?_; rintro e w8 ⟨rfl, u8⟩; have NY := Lib.hid (NX.out.after (U6.out.trans u8 (fun _ _ h => h))); clear u8)
              refine hK.out _ _ ?_ (fun hHeld => ?_)
              · exact (trivial : True)
              clear hK K
              try simp only [Act.put, List.setIfInBounds_toArray, List.set_cons_zero, List.set_cons_succ]
              refine' wpAnyH_take (i := 24) (oi := _) (v := _) ?hiRRUN0x27 (by kernel_rfl) (by kernel_rfl) (by kernel_rfl) ?hQRRUN0x27 ?hyRRUN0x27 (by assumption) ?restRRUN0x27
              case' hiRRUN0x27 => (first | (simp only [List.getElem?_toArray, List.getElem?_cons_succ, List.getElem?_cons_zero]; done) | (simp only [List.getElem?_toArray, List.getElem?_cons_succ, List.getElem?_cons_zero]; rfl))
              case' hQRRUN0x27 => exact fun _ _ _ h => h
              case' hyRRUN0x27 => refine Or.inl ⟨by rfl, ?_⟩
              (intro w hSw; (try dsimp only at hSw); go_simp; try with_reducible rfl)
              try simp only [Act.put, List.setIfInBounds_toArray, List.set_cons_zero, List.set_cons_succ]
              refine' wpAnyH_take (i := 25) (oi := _) (v := _) ?hiRRUN0x28 (by kernel_rfl) (by kernel_rfl) (by kernel_rfl) ?hQRRUN0x28 ?hyRRUN0x28 (by assumption) ?restRRUN0x28
              case' hiRRUN0x28 => (first | (simp only [List.getElem?_toArray, List.getElem?_cons_succ, List.getElem?_cons_zero]; done) | (simp only [List.getElem?_toArray, List.getElem?_cons_succ, List.getElem?_cons_zero]; rfl))
              case' hQRRUN0x28 => exact fun _ _ _ h => h
              case' hyRRUN0x28 => refine Or.inl ⟨by rfl, ?_⟩
              (intro w hSw; (try dsimp only at hSw); go_simp; try with_reducible rfl)
              try simp only [Act.put, List.setIfInBounds_toArray, List.set_cons_zero, List.set_cons_succ]
              refine wpAnyH_done (by kernel_rfl) ?_ _
              go_wp2_with fail
              go_meet
              exact ⟨rfl, NY⟩
            case' hKRRUN0x17 =>
              go_simp
              skip
              refine hK.out _ _ ?_ (fun hHeld => ?_)
              · exact (trivial : True)
              clear hK K
              try simp only [Act.put, List.setIfInBounds_toArray, List.set_cons_zero, List.set_cons_succ]
              refine' wpAnyH_take (i := 16) (oi := _) (v := _) ?hiRRUN0x29 (by kernel_rfl) (by kernel_rfl) (by kernel_rfl) ?hQRRUN0x29 ?hyRRUN0x29 (by assumption) ?restRRUN0x29
              case' hiRRUN0x29 => (first | (simp only [List.getElem?_toArray, List.getElem?_cons_succ, List.getElem?_cons_zero]; done) | (simp only [List.getElem?_toArray, List.getElem?_cons_succ, List.getElem?_cons_zero]; rfl))
              case' hQRRUN0x29 => exact fun _ _ _ h => h
              case' hyRRUN0x29 => refine Or.inl ⟨by rfl, ?_⟩
              (intro w hSw; (try dsimp only at hSw); go_simp; try with_reducible rfl)
              try simp only [Act.put, List.setIfInBounds_toArray, List.set_cons_zero, List.set_cons_succ]
              refine wpAnyH_ready (rs := [11]) (by kernel_rfl) (by simp) ?_
              refine' AllReadyH.cons (o := _) ?hiRRUN0x30 (fun K hK => ?hKRRUN0x30) AllReadyH.nil
              case' hiRRUN0x30 => (first | (simp only [List.getElem?_toArray, List.getElem?_cons_succ, List.getElem?_cons_zero]; done) | (simp only [List.getElem?_toArray, List.getElem?_cons_succ, List.getElem?_cons_zero]; rfl))
              go_simp
              (go_at_call 10; refine LN.out.mono ?_; rintro e w6 ⟨rfl, u6⟩; have hy6 := (u6.cell (p := ⟨wb, 0, none⟩) yl (fun h => h)).trans ys; have hl6 := Nat.lt_of_lt_of_le yl u6.size; have U6 := Lib.hid u6; clear u6)
              refine hK.out _ _ ?_ (fun hHeld => ?_)
              · exact (trivial : True)
              clear hK K
              try simp only [Act.put, List.setIfInBounds_toArray, List.set_cons_zero, List.set_cons_succ]
              refine' wpAnyH_take (i := 17) (oi := _) (v := _) ?hiRRUN0x31 (by kernel_rfl) (by kernel_rfl) (by kernel_rfl) ?hQRRUN0x31 ?hyRRUN0x31 (by assumption) ?restRRUN0x31
              case' hiRRUN0x31 => (first | (simp only [List.getElem?_toArray, List.getElem?_cons_succ, List.getElem?_cons_zero]; done) | (simp only [List.getElem?_toArray, List.getElem?_cons_succ, List.getElem?_cons_zero]; rfl))
              case' hQRRUN0x31 => exact fun _ _ _ h => h
              case' hyRRUN0x31 => refine Or.inl ⟨by rfl, ?_⟩
              (intro w hSw; (try dsimp only at hSw); go_simp; try with_reducible rfl)
              try simp only [Act.put, List.setIfInBounds_toArray, List.set_cons_zero, List.set_cons_succ]
              refine' wpAnyH_take (i := 18) (oi := _) (v := _) ?hiRRUN0x32 (by kernel_rfl) (by kernel_rfl) (by kernel_rfl) ?hQRRUN0x32 ?hyRRUN0x32 (by assumption) ?restRRUN0x32
              case' hiRRUN0x32 => (first | (simp only [List.getElem?_toArray, List.getElem?_cons_succ, List.getElem?_cons_zero]; done) | (simp only [List.getElem?_toArray, List.getElem?_cons_succ, List.getElem?_cons_zero]; rfl))
              case' hQRRUN0x32 => exact fun _ _ _ h => h
              case' hyRRUN0x32 => refine Or.inl ⟨by rfl, ?_⟩
              (intro w hSw; (try dsimp only at hSw); go_simp; try with_reducible rfl)
              try simp only [Act.put, List.setIfInBounds_toArray, List.set_cons_zero, List.set_cons_succ]
              refine' wpAnyH_take (i := 19) (oi := _) (v := _) ?hiRRUN0x33 (by kernel_rfl) (by kernel_rfl) (by kernel_rfl) ?hQRRUN0x33 ?hyRRUN0x33 (by assumption) ?restRRUN0x33
              case' hiRRUN0x33 => (first | (simp only [List.getElem?_toArray, List.getElem?_cons_succ, List.getElem?_cons_zero]; done) | (simp only [List.getElem?_toArray, List.getElem?_cons_succ, List.getElem?_cons_zero]; rfl))
              case' hQRRUN0x33 => exact fun _ _ _ h => h
              case' hyRRUN0x33 => refine Or.inl ⟨by rfl, ?_⟩
              (intro w hSw; (try dsimp only at hSw); go_simp; try with_reducible rfl)
              try simp only [Act.put, List.setIfInBounds_toArray, List.set_cons_zero, List.set_cons_succ]
              refine' wpAnyH_take (i := 20) (oi := _) (v := _) ?hiRRUN0x34 (by kernel_rfl) (by kernel_rfl) (by kernel_rfl) ?hQRRUN0x34 ?hyRRUN0x34 (by assumption) ?restRRUN0x34
              case' hiRRUN0x34 => (first | (simp only [List.getElem?_toArray, List.getElem?_cons_succ, List.getElem?_cons_zero]; done) | (simp only [List.getElem?_toArray, List.getElem?_cons_succ, List.getElem?_cons_zero]; rfl))
              case' hQRRUN0x34 => exact fun _ _ _ h => h
              case' hyRRUN0x34 => refine Or.inl ⟨by rfl, ?_⟩
              (intro w hSw; (try dsimp only at hSw); go_simp; try with_reducible rfl)
              try simp only [Act.put, List.setIfInBounds_toArray, List.set_cons_zero, List.set_cons_succ]
              refine' wpAnyH_take (i := 22) (oi := _) (v := _) ?hiRRUN0x35 (by kernel_rfl) (by kernel_rfl) (by kernel_rfl) ?hQRRUN0x35 ?hyRRUN0x35 (by assumption) ?restRRUN0x35
              case' hiRRUN0x35 => (first | (simp only [List.getElem?_toArray, List.getElem?_cons_succ, List.getElem?_cons_zero]; done) | (simp only [List.getElem?_toArray, List.getElem?_cons_succ, List.getElem?_cons_zero]; rfl))
              case' hQRRUN0x35 => exact fun _ _ _ h => h
              case' hyRRUN0x35 => refine Or.inl ⟨by rfl, ?_⟩
              (intro w hSw; (try dsimp only at hSw); go_simp; try with_reducible rfl)
              try simp only [Act.put, List.setIfInBounds_toArray, List.set_cons_zero, List.set_cons_succ]
              refine wpAnyH_ready (rs := [21]) (by kernel_rfl) (by simp) ?_
              refine' AllReadyH.cons (o := _) ?hiRRUN0x36 (fun K hK => ?hKRRUN0x36) AllReadyH.nil
              case' hiRRUN0x36 => (first | (simp only [List.getElem?_toArray, List.getElem?_cons_succ, List.getElem?_cons_zero]; done) | (simp only [List.getElem?_toArray, List.getElem?_cons_succ, List.getElem?_cons_zero]; rfl))
              go_simp
              (go_at_call 11; refine (BY.out _ U6.out).mono ?_; rintro e w7 ⟨rfl, rfl⟩)
              refine hK.out _ _ ?_ (fun hHeld => ?_)
              · exact (trivial : True)
              clear hK K
              try simp only [Act.put, List.setIfInBounds_toArray, List.set_cons_zero, List.set_cons_succ]
              refine wpAnyH_ready (rs := [23]) (by kernel_rfl) (by simp) ?_
              refine' AllReadyH.cons (o := _) ?hiRRUN0x37 (fun K hK => ?hKRRUN0x37) AllReadyH.nil
              case' hiRRUN0x37 => (first | (simp only [List.getElem?_toArray, List.getElem?_cons_succ, List.getElem?_cons_zero]; done) | (simp only [List.getElem?_toArray, List.getElem?_cons_succ, List.getElem?_cons_zero]; rfl))
              go_simp
              (go_at_call 12; refine (QB.out _ U6.out).mono ?_; rintro e w8 ⟨rfl, u8⟩; have NY := Lib.hid (NX.out.after (U6.out.trans u8 (fun _ _ h => h))); clear u8)
              refine hK.out _ _ ?_ (fun hHeld => ?_)
              · exact (trivial : True)
              clear hK K
              try simp only [Act.put, List.setIfInBounds_toArray, List.set_cons_zero, List.set_cons_succ]
              refine' wpAnyH_take (i := 24) (oi := _) (v := _) ?hiRRUN0x38 (by kernel_rfl) (by kernel_rfl) (by kernel_rfl) ?hQRRUN0x38 ?hyRRUN0x38 (by assumption) ?restRRUN0x38
              case' hiRRUN0x38 => (first | (simp only [List.getElem?_toArray, List.getElem?_cons_succ, List.getElem?_cons_zero]; done) | (simp only [List.getElem?_toArray, List.getElem?_cons_succ, List.getElem?_cons_zero]; rfl))
              case' hQRRUN0x38 => exact fun _ _ _ h => h
              case' hyRRUN0x38 => refine Or.inl ⟨by rfl, ?_⟩
              (intro w hSw; (try dsimp only at hSw); go_simp; try with_reducible rfl)
              try simp only [Act.put, List.setIfInBounds_toArray, List.set_cons_zero, List.set_cons_succ]
              refine' wpAnyH_take (i := 25) (oi := _) (v := _) ?hiRRUN0x39 (by kernel_rfl) (by kernel_rfl) (by kernel_rfl) ?hQRRUN0x39 ?hyRRUN0x39 (by assumption) ?restRRUN0x39
              case' hiRRUN0x39 => (first | (simp only [List.getElem?_toArray, List.getElem?_cons_succ, List.getElem?_cons_zero]; done) | (simp only [List.getElem?_toArray, List.getElem?_cons_succ, List.getElem?_cons_zero]; rfl))
              case' hQRRUN0x39 => exact fun _ _ _ h => h
              case' hyRRUN0x39 => refine Or.inl ⟨by rfl, ?_⟩
              (intro w hSw; (try dsimp only at hSw); go_simp; try with_reducible rfl)
              try simp only [Act.put, List.setIfInBounds_toArray, List.set_cons_zero, List.set_cons_succ]
              refine wpAnyH_done (by kernel_rfl) ?_ _
              go_wp2_with fail
              go_meet
              exact ⟨rfl, NY⟩
          case' hKRRUN0x15 =>
            go_simp
            skip
            refine hK.out _ _ ?_ (fun hHeld => ?_)
            · exact (trivial : True)
            clear hK K
            try simp only [Act.put, List.setIfInBounds_toArray, List.set_cons_zero, List.set_cons_succ]
            refine' wpAnyH_take (i := 16) (oi := _) (v := _) ?hiRRUN0x40 (by kernel_rfl) (by kernel_rfl) (by kernel_rfl) ?hQRRUN0x40 ?hyRRUN0x40 (by assumption) ?restRRUN0x40
            case' hiRRUN0x40 => (first | (simp only [List.getElem?_toArray, List.getElem?_cons_succ, List.getElem?_cons_zero]; done) | (simp only [List.getElem?_toArray, List.getElem?_cons_succ, List.getElem?_cons_zero]; rfl))
            case' hQRRUN0x40 => exact fun _ _ _ h => h
            case' hyRRUN0x40 => refine Or.inl ⟨by rfl, ?_⟩
            (intro w hSw; (try dsimp only at hSw); go_simp; try with_reducible rfl)
            try simp only [Act.put, List.setIfInBounds_toArray, List.set_cons_zero, List.set_cons_succ]
            refine wpAnyH_ready (rs := [10]) (by kernel_rfl) (by simp) ?_
            refine' AllReadyH.cons (o := _) ?hiRRUN0x41 (fun K hK => ?hKRRUN0x41) AllReadyH.nil
            case' hiRRUN0x41 => (first | (simp only [List.getElem?_toArray, List.getElem?_cons_succ, List.getElem?_cons_zero]; done) | (simp only [List.getElem?_toArray, List.getElem?_cons_succ, List.getElem?_cons_zero]; rfl))
            go_simp
            skip
            refine hK.out _ _ ?_ (fun hHeld => ?_)
            · exact (trivial : True)
            clear hK K
            try simp only [Act.put, List.setIfInBounds_toArray, List.set_cons_zero, List.set_cons_succ]
            refine wpAnyH_ready (rs := [11]) (by kernel_rfl) (by simp) ?_
            refine' AllReadyH.cons (o := _) ?hiRRUN0x42 (fun K hK => ?hKRRUN0x42) AllReadyH.nil
            case' hiRRUN0x42 => (first | (simp only [List.getElem?_toArray, List.getElem?_cons_succ, List.getElem?_cons_zero]; done) | (simp only [List.getElem?_toArray, List.getElem?_cons_succ, List.getElem?_cons_zero]; rfl))
            go_simp
            (go_at_call 10; refine LN.out.mono ?_; rintro e w6 ⟨rfl, u6⟩; have hy6 := (u6.cell (p := ⟨wb, 0, none⟩) yl (fun h => h)).trans ys; have hl6 := Nat.lt_of_lt_of_le yl u6.size; have U6 := Lib.hid u6; clear u6)
            refine hK.out _ _ ?_ (fun hHeld => ?_)
            · exact (trivial : True)
            clear hK K
            try simp only [Act.put, List.setIfInBounds_toArray, List.set_cons_zero, List.set_cons_succ]
            refine' wpAnyH_take (i := 17) (oi := _) (v := _) ?hiRRUN0x43 (by kernel_rfl) (by kernel_rfl) (by kernel_rfl) ?hQRRUN0x43 ?hyRRUN0x43 (by assumption) ?restRRUN0x43
            case' hiRRUN0x43 => (first | (simp only [List.getElem?_toArray, List.getElem?_cons_succ, List.getElem?_cons_zero]; done) | (simp only [List.getElem?_toArray, List.getElem?_cons_succ, List.getElem?_cons_zero]; rfl))
            case' hQRRUN0x43 => exact fun _ _ _ h => h
            case' hyRRUN0x43 => refine Or.inl ⟨by rfl, ?_⟩
            (intro w hSw; (try dsimp only at hSw); go_simp; try with_reducible rfl)
            try simp only [Act.put, List.setIfInBounds_toArray, List.set_cons_zero, List.set_cons_succ]
            refine' wpAnyH_take (i := 18) (oi := _) (v := _) ?hiRRUN0x44 (by kernel_rfl) (by kernel_rfl) (by kernel_rfl) ?hQRRUN0x44 ?hyRRUN0x44 (by assumption) ?restRRUN0x44
            case' hiRRUN0x44 => (first | (simp only [List.getElem?_toArray, List.getElem?_cons_succ, List.getElem?_cons_zero]; done) | (simp only [List.getElem?_toArray, List.getElem?_cons_succ, List.getElem?_cons_zero]; rfl))
            case' hQRRUN0x44 => exact fun _ _ _ h => h
            case' hyRRUN0x44 => refine Or.inl ⟨by rfl, ?_⟩
            (intro w hSw; (try dsimp only at hSw); go_simp; try with_reducible rfl)
            try simp only [Act.put, List.setIfInBounds_toArray, List.set_cons_zero, List.set_cons_succ]
            refine' wpAnyH_take (i := 19) (oi := _) (v := _) ?hiRRUN0x45 (by kernel_rfl) (by kernel_rfl) (by kernel_rfl) ?hQRRUN0x45 ?hyRRUN0x45 (by assumption) ?restRRUN0x45
            case' hiRRUN0x45 => (first | (simp only [List.getElem?_toArray, List.getElem?_cons_succ, List.getElem?_cons_zero]; done) | (simp only [List.getElem?_toArray, List.getElem?_cons_succ, List.getElem?_cons_zero]; rfl))
            case' hQRRUN0x45 => exact fun _ _ _ h => h
            case' hyRRUN0x45 => refine Or.inl ⟨by rfl, ?_⟩
            (intro w hSw; (try dsimp only at hSw); go_simp; try with_reducible rfl)
            try simp only [Act.put, List.setIfInBounds_toArray, List.set_cons_zero, List.set_cons_succ]
            refine' wpAnyH_take (i := 20) (oi := _) (v := _) ?hiRRUN0x46 (by kernel_rfl) (by kernel_rfl) (by kernel_rfl) ?hQRRUN0x46 ?hyRRUN0x46 (by assumption) ?restRRUN0x46
            case' hiRRUN0x46 => (first | (simp only [List.getElem?_toArray, List.getElem?_cons_succ, List.getElem?_cons_zero]; done) | (simp only [List.getElem?_toArray, List.getElem?_cons_succ, List.getElem?_cons_zero]; rfl))
            case' hQRRUN0x46 => exact fun _ _ _ h => h
            case' hyRRUN0x46 => refine Or.inl ⟨by rfl, ?_⟩
            (intro w hSw; (try dsimp only at hSw); go_simp; try with_reducible rfl)
            try simp only [Act.put, List.setIfInBounds_toArray, List.set_cons_zero, List.set_cons_succ]
            refine' wpAnyH_take (i := 22) (oi := _) (v := _) ?hiRRUN0x47 (by kernel_rfl) (by kernel_rfl) (by kernel_rfl) ?hQRRUN0x47 ?hyRRUN0x47 (by assumption) ?restRRUN0x47
            case' hiRRUN0x47 => (first | (simp only [List.getElem?_toArray, List.getElem?_cons_succ, List.getElem?_cons_zero]; done) | (simp only [List.getElem?_toArray, List.getElem?_cons_succ, List.getElem?_cons_zero]; rfl))
            case' hQRRUN0x47 => exact fun _ _ _ h => h
            case' hyRRUN0x47 => refine Or.inl ⟨by rfl, ?_⟩
            (intro w hSw; (try dsimp only at hSw); go_simp; try with_reducible rfl)
            try simp only [Act.put, List.setIfInBounds_toArray, List.set_cons_zero, List.set_cons_succ]
            refine wpAnyH_ready (rs := [21]) (by kernel_rfl) (by simp) ?_
            refine' AllReadyH.cons (o := _) ?hiRRUN0x48 (fun K hK => ?hKRRUN0x48) AllReadyH.nil
            case' hiRRUN0x48 => (first | (simp only [List.getElem?_toArray, List.getElem?_cons_succ, List.getElem?_cons_zero]; done) | (simp only [List.getElem?_toArray, List.getElem?_cons_succ, List.getElem?_cons_zero]; rfl))
            go_simp
            (go_at_call 11; refine (BY.out _ U6.out).mono ?_; rintro e w7 ⟨rfl, rfl⟩)
            refine hK.out _ _ ?_ (fun hHeld => ?_)
            · exact (trivial : True)
            clear hK K
            try simp only [Act.put, List.setIfInBounds_toArray, List.set_cons_zero, List.set_cons_succ]
            refine wpAnyH_ready (rs := [23]) (by kernel_rfl) (by simp) ?_
            refine' AllReadyH.cons (o := _) ?hiRRUN0x49 (fun K hK => ?hKRRUN0x49) AllReadyH.nil
            case' hiRRUN0x49 => (first | (simp only [List.getElem?_toArray, List.getElem?_cons_succ, List.getElem?_cons_zero]; done) | (simp only [List.getElem?_toArray, List.getElem?_cons_succ, List.getElem?_cons_zero]; rfl))
            go_simp
            (go_at_call 12; refine (QB.out _ U6.out).mono ?_; rintro e w8 ⟨rfl, u8⟩; have NY := Lib.hid (NX.out.after (U6.out.trans u8 (fun _ _ h => h))); clear u8)
            refine hK.out _ _ ?_ (fun hHeld => ?_)
            · exact (trivial : True)
            clear hK K
            try simp only [Act.put, List.setIfInBounds_toArray, List.set_cons_zero, List.set_cons_succ]
            refine' wpAnyH_take (i := 24) (oi := _) (v := _) ?hiRRUN0x50 (by kernel_rfl) (by kernel_rfl) (by kernel_rfl) ?hQRRUN0x50 ?hyRRUN0x50 (by assumption) ?restRRUN0x50
            case' hiRRUN0x50 => (first | (simp only [List.getElem?_toArray, List.getElem?_cons_succ, List.getElem?_cons_zero]; done) | (simp only [List.getElem?_toArray, List.getElem?_cons_succ, List.getElem?_cons_zero]; rfl))
            case' hQRRUN0x50 => exact fun _ _ _ h => h
            case' hyRRUN0x50 => refine Or.inl ⟨by rfl, ?_⟩
            (intro w hSw; (try dsimp only at hSw); go_simp; try with_reducible rfl)
            try simp only [Act.put, List.setIfInBounds_toArray, List.set_cons_zero, List.set_cons_succ]
            refine' wpAnyH_take (i := 25) (oi := _) (v := _) ?hiRRUN0x51 (by kernel_rfl) (by kernel_rfl) (by kernel_rfl) ?hQRRUN0x51 ?hyRRUN0x51 (by assumption) ?restRRUN0x51
            case' hiRRUN0x51 => (first | (simp only [List.getElem?_toArray, List.getElem?_cons_succ, List.getElem?_cons_zero]; done) | (simp only [List.getElem?_toArray, List.getElem?_cons_succ, List.getElem?_cons_zero]; rfl))
            case' hQRRUN0x51 => exact fun _ _ _ h => h
            case' hyRRUN0x51 => refine Or.inl ⟨by rfl, ?_⟩
            (intro w hSw; (try dsimp only at hSw); go_simp; try with_reducible rfl)
            try simp only [Act.put, List.setIfInBounds_toArray, List.set_cons_zero, List.set_cons_succ]
            refine wpAnyH_done (by kernel_rfl) ?_ _
            go_wp2_with fail
            go_meet
            exact ⟨rfl, NY⟩
        case rest =>
        obtain ⟨rfl, PO⟩ := hcut
        clear z0 z1 z2 z3 z4 z5 z6 z7 z8 zl ONE U0
        obtain ⟨Y1, X1, S1, d1, u5⟩ := PO.out
        have EV := Lib.hid (sevents2_any d1.s)
        have D1 := Lib.hid d1
        have U5 := Lib.hid u5
        clear d1 u5 PO
        go_wp2_with fail
        refine (EV.out).mono ?_
        rintro e w8 ⟨v8, rfl, ow8, s8, u8, nx⟩
        have TL := Lib.hid (qtell_any (D1.out.rkeep u8))
        have OW8 := Lib.hid ow8
        have S8 := Lib.hid s8
        have U8 := Lib.hid (And.intro u8 nx)
        clear ow8 s8 u8 nx EV
        go_wp2_with fail
        refine (TL.out).mono ?_
        rintro e w9 ⟨v9, rfl, ow9, r9, u9⟩
        have SE := Lib.hid (sameEv_any v8 v9 S1.events (OW8.out.keep u9 (fun b hb g => U8.out.2 b hb (D1.out.sub b g))) ow9)
        have R9 := Lib.hid r9
        have U9 := Lib.hid u9
        clear ow9 r9 u9 TL
        go_wp2_with fail
        refine (SE.out).mono ?_
        rintro e w10 ⟨rfl, u10⟩
        have NI : Hid (RunI w1 base sb wb (k + 1) w10) := by
          have hx := D1.out.r.lt
          refine ⟨_, X1, { S1 with events := [] }, ⟨(S8.out.keepG U9.out fun b hb => ⟨Or.inl (D1.out.sub b hb), Nat.le_trans S8.out.six (hx b hb).1⟩).keep0 u10, R9.out.keep0 u10, fun b hb => Or.inl (D1.out.sub b hb)⟩, rfl, ?_⟩
          exact ((U5.out.trans U8.out.1 (fun b _ hb => hb.1)).trans U9.out (fun b _ hb => (hx b hb).1)).trans u10 (fun _ _ h => h.elim)
        clear SE u10 R9 U9 S8 U8 OW8 D1 U5
        go_wp2
        go_roundw
        case rel => exact ⟨k + 1, now + wait, by omega, by simp, rfl, by omega, by omega, NI⟩
        case measure => simp [intOf]; omega
      · obtain rfl : k = nl := by omega
        obtain ⟨Y, X, S, d, hev, u⟩ := I.out
        obtain ⟨tb, x0, hsb, KS⟩ := d.s.tkeysAt (by omega)
        have hl := d.s.len
        have K1 := Lib.hid (KS _ (Upd.refl _ _))
        have D := Lib.hid d
        have FIN : Hid (Upd (fun _ => False) w wr) := U1.out.trans (u.weaken (F := fun _ => False) fun b hb g => by have := HBASE.out; omega) (fun _ _ h => h)
        clear KS d u hev I
        go_wp2_with fail
        refine (K1.out).mono ?_
        rintro e w11 ⟨v11, rfl, st1, u11⟩
        obtain ⟨_, ⟨vs, ve, C, m, ok, _⟩, _⟩ := D.out.keep0 u11
        have K2 := Lib.hid (qkeys_any m (by omega))
        have ST1 := Lib.hid st1
        have U11 := Lib.hid u11
        clear m st1 u11 K1 x0 hsb
        go_wp2_with fail
        refine (K2.out).mono ?_
        rintro e w12 ⟨v12, rfl, st2, u12⟩
        have SM := Lib.hid (same06_any v11 v12 _ _ w12 (ST1.out.row.keep u12 (fun _ _ _ h => h)) st2.row)
        have U12 := Lib.hid (U11.out.trans u12 (fun _ _ h => h))
        clear st2 u12 K2
        go_wp2_with fail
        refine (SM.out).mono ?_
        rintro e w13 ⟨rfl, n, rfl⟩
        go_wp2
        go_ret
        exact ⟨by simp, FIN.out.trans (U12.out.trans ((Upd.refl _ _).drewN n) (fun _ _ h => h)) (fun _ _ h => h)⟩
end Go.Proofs.YtgdenmddbgcacaaGreatDoor
