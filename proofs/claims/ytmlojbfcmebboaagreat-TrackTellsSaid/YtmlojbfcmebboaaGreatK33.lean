/- Notices that are heard: of keys that were read; what is told isn't read any more. -/
import Derived.Test.YtmlojbfcmebboaaGreatK32
import Derived.Test.YtmlojbfcmebboaaGreatK30
import Derived.Test.YtmlojbfcmebboaaGreatK31
set_option linter.unusedVariables false
set_option linter.unusedSimpArgs false
set_option linter.unusedSectionVars false
set_option maxRecDepth 100000
namespace Go.Proofs.YtmlojbfcmebboaaGreat
open Go.RowKit

abbrev RM := List (NT × Value)
def ownN (n : NT) : NT := ⟨0, 0, n.who, n.key⟩
/-- What is left of what was read; none: something was told amiss. -/
def hearR : RM → List NT → Option RM
  | R, [] => some R
  | R, n :: r => if (n.kd = 1 ∧ aget R (ownN n) = none) ∨ (n.dst ≠ n.who ∧ n.who ≠ 4) then none else hearR (if n.kd = 1 then adel R (ownN n) else R) r
def V1 (R : RM) : Prop := ∀ p ∈ R, p.2 = .int .i64 1
theorem mem_adelG {κ ν : Type} [DecidableEq κ] {M : List (κ × ν)} {k : κ} {p : κ × ν} (h : p ∈ adel M k) : p ∈ M := by
  induction M with
  | nil => exact h
  | cons q r ih =>
    unfold adel at h
    split at h
    · exact List.mem_cons_of_mem _ h
    · rcases List.mem_cons.1 h with g | g
      · rw [g]; simp
      · exact List.mem_cons_of_mem _ (ih g)
theorem agetV {κ ν : Type} [DecidableEq κ] {M : List (κ × ν)} {k : κ} {v : ν} (h : aget M k = some v) : (k, v) ∈ M := by
  induction M with
  | nil => cases h
  | cons p r ih =>
    simp only [aget] at h
    split at h
    · next e => injection h with h; subst h; subst e; simp
    · exact List.mem_cons_of_mem _ (ih h)
theorem V1.del {R : RM} (h : V1 R) (k : NT) : V1 (adel R k) := fun p hp => h p (mem_adelG hp)
theorem V1.get {R : RM} (h : V1 R) {k : NT} (hk : aget R k ≠ none) : aget R k = some (.int .i64 1) := by
  cases hq : aget R k with
  | none => exact absurd hq hk
  | some v =>
    have e : v = .int .i64 1 := h _ (agetV hq)
    rw [e]
theorem zeroNI (w : World) : (zeroValue 3).run Tryz.prog w = .ok (.int .i64 0) w := Tryz.zeroValue3 w
set_option maxHeartbeats 16000000 in
theorem heard_any (mb base : Nat) (v : Value) (R R' : RM) (nts : List NT) (w : World) (hM : MapAt ntEnc w mb R) (hV : V1 R) (hN : NtsAt w base v nts) (hh : hearR R nts = some R') (hmb : ∀ b, v.ownBlock = some b → b ≠ mb) :
    Calls Tryz.prog 13 #[.map (some mb), v] w fun e w' => e = .returned (.bool true) ∧ MapAt ntEnc w' mb R' ∧ Upd (fun b => b = mb) w w' := by
  obtain ⟨pv, cv, ev, hmv, _⟩ := hN.slice
  subst ev
  obtain ⟨ln, hln⟩ : ∃ ln, ln = nts.length := ⟨_, rfl⟩
  have LN := Lib.hid hln
  rw [← hln] at hmv hN hmb ⊢
  unfold maxLen at hmv
  have HM := Lib.hid hM
  have HV := Lib.hid hV
  have HN := Lib.hid hN
  have HE : Hid (hearR R (nts.drop 0) = some R') := hh
  have MB := Lib.hid hmb
  clear hM hV hN hh hln hmb
  go_enter Tryz.func13, Tryz.ntmps13
  go_wp2
  go_loopw [10] (fun x10 wr => ∃ (j : Nat) (Rj : RM), j ≤ ln ∧ x10 = .int .i64 (j : Int) ∧ Hid (hearR Rj (nts.drop j) = some R') ∧ Hid (V1 Rj) ∧ Hid (MapAt ntEnc wr mb Rj) ∧ Hid (NtsAt wr base (.slice pv ln cv) nts) ∧ Hid (Upd (fun b => b = mb) w wr)) (fun x10 _ => ln - (intOf x10).toNat)
  case atStart => exact ⟨0, R, by omega, rfl, HE, HV, HM, HN, Lib.hid (Upd.refl _ _)⟩
  case round =>
    clear HE HV HM HN
    obtain ⟨j, Rj, hj, rfl, HE, HV, HM, HN, U⟩ := hrel
    by_cases hlj : j < ln
    · have q5 : (j : Int) < (ln : Int) := by omega
      have hjl : j < nts.length := by rw [← LN.out]; exact hlj
      have nt0 := HN.out
      rw [LN.out] at nt0
      obtain ⟨g, eg, hgw, hg, d0, d1, d2, d3⟩ := nts_cells nt0 hjl
      subst eg
      obtain ⟨x, hx⟩ : ∃ x, x = nts[j] := ⟨_, rfl⟩
      rw [← hx] at d0 d1 d2 d3
      have HE1 := HE.out
      rw [List.drop_eq_getElem_cons hjl, ← hx] at HE1
      unfold hearR at HE1
      clear hx nt0 hjl HE
      obtain ⟨kd, dst, who, key⟩ := x
      dsimp only at d0 d1 d2 d3 HE1
      split at HE1
      · cases HE1
      next hno =>
      have UA : Upd (fun _ => False) wr ((wr.alloc (.cells #[.int .i64 kd, .int .i64 dst, .int .i64 who, .string key] 40)).alloc (.cells #[.int .i64 0, .int .i64 0, .int .i64 who, .string key] 40)) := ((Upd.refl _ _).alloc _).alloc _
      have M1 := HM.out.keep UA (fun h => h)
      have NT1 := HN.out.keep0 UA
      have U1 : Upd (fun b => b = mb) w _ := U.out.trans UA (fun _ _ h => h.elim)
      have dw : dst = who ∨ who = 4 := by
        by_cases e : dst = who
        · exact Or.inl e
        · exact Or.inr (Classical.byContradiction fun h => hno (Or.inr ⟨e, h⟩))
      by_cases hk : kd = 1
      · subst hk
        have hg1 := HV.out.get (k := ownN ⟨1, dst, who, key⟩) (fun h => hno (Or.inl ⟨rfl, h⟩))
        rw [if_pos rfl] at HE1
        have HE2 := Lib.hid HE1
        have V2 := Lib.hid (HV.out.del (ownN ⟨1, dst, who, key⟩))
        have lk := M1.lookW (P := Tryz.prog) (K := 40) (E := 3) (T := 33) ntKey Tryz.underlying33 (zeroNI _) (ownN ⟨1, dst, who, key⟩) false
        rw [hg1] at lk
        simp only [Option.getD_some, Bool.false_eq_true, if_false] at lk
        obtain ⟨w2, dr, m2, u2⟩ := M1.delW (P := Tryz.prog) (K := 40) (E := 3) (T := 33) ntKey Tryz.underlying33 (ownN ⟨1, dst, who, key⟩) 0
        unfold ntEnc ownN at lk dr
        dsimp only at lk dr
        have M2 := Lib.hid m2
        have NT2 : Hid (NtsAt w2 base (.slice (some ⟨g, 0, none⟩) ln cv) nts) := NT1.keep u2 (fun b hb e => MB.out b hb e)
        have U2 : Hid (Upd (fun b => b = mb) w w2) := U1.trans u2 (fun _ _ h => h)
        clear hno HE1 HV HM HN U UA M1 NT1 U1 hg1 m2 u2
        by_cases e : dst = who
        · subst e
          go_wp2
          go_roundw
          case rel => exact ⟨j + 1, _, by omega, by go_num, HE2, V2, M2, NT2, U2⟩
          case measure => simp [intOf]; omega
        · obtain rfl : who = 4 := dw.resolve_left e
          have qe : (dst != 4) = true := bne_iff_ne.2 e
          clear e dw
          go_wp2
          go_roundw
          case rel => exact ⟨j + 1, _, by omega, by go_num, HE2, V2, M2, NT2, U2⟩
          case measure => simp [intOf]; omega
      · have qk : (kd == 1) = false := beq_eq_false_iff_ne.2 hk
        rw [if_neg hk] at HE1
        have HE2 := Lib.hid HE1
        have V2 := HV
        have M2 := Lib.hid M1
        have NT2 := Lib.hid NT1
        have U2 := Lib.hid U1
        clear hno HE1 HV HM HN U UA M1 NT1 U1 hk
        by_cases e : dst = who
        · subst e
          go_wp2
          go_roundw
          case rel => exact ⟨j + 1, _, by omega, by go_num, HE2, V2, M2, NT2, U2⟩
          case measure => simp [intOf]; omega
        · obtain rfl : who = 4 := dw.resolve_left e
          have qe : (dst != 4) = true := bne_iff_ne.2 e
          clear e dw
          go_wp2
          go_roundw
          case rel => exact ⟨j + 1, _, by omega, by go_num, HE2, V2, M2, NT2, U2⟩
          case measure => simp [intOf]; omega
    · have q5 : ¬ (j : Int) < (ln : Int) := by omega
      have ej : nts.drop j = [] := List.drop_eq_nil_of_le (by rw [← LN.out]; omega)
      have HE1 := HE.out
      rw [ej] at HE1
      have ER : Rj = R' := Option.some.inj HE1
      have M2 : Hid (MapAt ntEnc wr mb R') := by rw [← ER]; exact HM
      clear HE HE1 ER ej HM
      go_wp2
      go_ret
      exact ⟨rfl, M2.out, U.out⟩
end Go.Proofs.YtmlojbfcmebboaaGreat
/- The events of an act. -/
set_option linter.unusedVariables false
set_option linter.unusedSimpArgs false
set_option linter.unusedSectionVars false
set_option maxRecDepth 100000
namespace Go.Proofs.YtmlojbfcmebboaaGreat
open Go.RowKit

theorem ev_info : (Tryz.prog.info? 45).map (fun i => (i.zero, i.size, i.bytes)) = some (some (.agg #[.int .i64 0, .string ByteArray.empty]), 2, 24) := by kernel_rfl
abbrev EvsAt (w : World) (base : Nat) (v : Value) (l : List (Int × Txt)) : Prop := OwnN evc 2 45 w base v l
theorem evc_len (e : Int × Txt) : (evc e).length = 2 := rfl
theorem evc_one (e : Int × Txt) : ∀ u ∈ evc e, u.oneCell' = true := by intro u hu; simp [evc] at hu; rcases hu with rfl | rfl <;> rfl
theorem evs_app (w : World) (base : Nat) (v : Value) (l : List (Int × Txt)) (t : Int × Txt) (h : EvsAt w base v l) (hl : l.length ≤ 1000000) (hb : base ≤ w.heap.size) :
    ∃ p c w', (Builtin.append_ #[42, 42] 42 #[v, .slice (some ⟨w.heap.size, 0, none⟩) 1 1]).run Tryz.prog (w.alloc (.cells #[.int .i64 t.1, .string (ofL t.2)] 45)) = .ok (.slice p (l.length + 1) c) w' ∧ EvsAt w' base (.slice p (l.length + 1) c) (l ++ [t]) ∧ Upd (fun k => v.ownBlock = some k) w w' := by
  obtain ⟨i0, hi0, hz0, hz1, hz2⟩ := info_parts ev_info
  have u0 : Upd (fun _ => False) w (w.alloc (.cells #[.int .i64 t.1, .string (ofL t.2)] 45)) := (Upd.refl _ _).alloc _
  obtain ⟨v', w', a, b, c, d⟩ := OwnN.append (P := Tryz.prog) 42 42 i0 (.agg #[.int .i64 0, .string ByteArray.empty]) 24 Tryz.underlying42 hi0 hz0 hz1 hz2 rfl (by decide) evc_len (fun a _ => evc_one a) (h.keep0 u0) (RowOf.lit (f := evc) w t [.int .i64 t.1, .string (ofL t.2)] _ rfl rfl) (by unfold maxLen; simp; omega) (by simp; omega) (Nat.le_trans hb u0.size)
  obtain ⟨p, k, e, _⟩ := b.slice
  rw [List.length_append, List.length_singleton] at e
  subst e
  exact ⟨p, k, w', a, b, (u0.weaken (F := fun k => v.ownBlock = some k) (fun _ _ h => h.elim)).trans c (fun _ _ h => h)⟩
/-- An act's kind of events. -/
def evK (ev : Int) : Int := max 1 (min ev 5)
def evOf (ev : Int) (t : Txt) : Int × Txt := (evK ev, if evK ev = 5 then [] else t)
def evsOf (ev : Int) (ks : List Txt) : List (Int × Txt) := ks.map (evOf ev)
theorem evK_in (ev : Int) : 1 ≤ evK ev ∧ evK ev ≤ 5 := by unfold evK; omega
def EvPost (a : Act16) (w : World) (e : Ending) (w' : World) : Prop := ∃ p c, e = .returned (.slice p a.keys.length c) ∧ EvsAt w' w.heap.size (.slice p a.keys.length c) (evsOf a.ev a.keys) ∧ Upd (fun _ => False) w w'
set_option maxHeartbeats 16000000 in
theorem events_any (a : Act16) (w : World) (ha : A16 w a) (hl : a.keys.length ≤ 1000) :
    Calls Tryz.prog 16 #[.agg (act16c a).toArray] w (EvPost a w) := by
  obtain ⟨pk, ck, ek, hmk⟩ := ha.ks.len
  obtain ⟨pp, cp, ep, _⟩ := ha.ps.len
  obtain ⟨kd, id, ⟨on, bc, oi, oo, nlp, rd, ps⟩, pv, yes, kv, keys, ev⟩ := a
  dsimp only at ek ep hl hmk ⊢
  subst ek ep
  have RK := Lib.hid ha.ks
  have EW := ha.evw
  dsimp only at RK EW
  clear ha
  obtain ⟨nk, hnk⟩ : ∃ nk, nk = keys.length := ⟨_, rfl⟩
  rw [← hnk] at RK hl hmk ⊢
  have NK := Lib.hid hnk
  clear hnk
  generalize ps.length = np at *
  have ew : -9223372036854775808 ≤ ev ∧ ev ≤ 9223372036854775807 := by
    simp [Lit.wf, IntKind.min, IntKind.max, IntKind.bits, IntKind.signed] at EW
    exact EW
  obtain ⟨ew1, ew2⟩ := ew
  clear EW
  show Calls Tryz.prog _ #[.agg #[.int .i64 kd, .int .i64 id, .bool on, .bool bc, .bool oi, .bool oo, .bool nlp, .int .i64 rd, .slice pp np cp, .bool yes, .slice pk nk ck, .int .i64 ev]] w _
  have UA : Hid (Upd (fun _ => False) w (w.alloc (.cells #[.int .i64 kd, .int .i64 id, .bool on, .bool bc, .bool oi, .bool oo, .bool nlp, .int .i64 rd, .slice pp np cp, .bool yes, .slice pk nk ck, .int .i64 ev] 35))) := (Upd.refl _ _).alloc _
  have BA : Hid (Blk (w.alloc (.cells #[.int .i64 kd, .int .i64 id, .bool on, .bool bc, .bool oi, .bool oo, .bool nlp, .int .i64 rd, .slice pp np cp, .bool yes, .slice pk nk ck, .int .i64 ev] 35)) w.heap.size [.int .i64 kd, .int .i64 id, .bool on, .bool bc, .bool oi, .bool oo, .bool nlp, .int .i64 rd, .slice pp np cp, .bool yes, .slice pk nk ck, .int .i64 ev] 35) := Blk.made w _ _
  have E0 : Hid (EvsAt ((w.alloc (.cells #[.int .i64 kd, .int .i64 id, .bool on, .bool bc, .bool oi, .bool oo, .bool nlp, .int .i64 rd, .slice pp np cp, .bool yes, .slice pk nk ck, .int .i64 ev] 35)).alloc (.cells #[] 45)) w.heap.size (.slice (some ⟨w.heap.size + 1, 0, none⟩) 0 0) []) := by
    have := (OwnN.made (f := evc) (k := 2) (w.alloc (.cells #[.int .i64 kd, .int .i64 id, .bool on, .bool bc, .bool oi, .bool oo, .bool nlp, .int .i64 rd, .slice pp np cp, .bool yes, .slice pk nk ck, .int .i64 ev] 35)) 45).mono (b2 := w.heap.size) (by simp)
    rw [World.size_alloc] at this
    exact this
  have UB : Hid (Upd (fun _ => False) w ((w.alloc (.cells #[.int .i64 kd, .int .i64 id, .bool on, .bool bc, .bool oi, .bool oo, .bool nlp, .int .i64 rd, .slice pp np cp, .bool yes, .slice pk nk ck, .int .i64 ev] 35)).alloc (.cells #[] 45))) := UA.out.alloc _
  have BB : Hid (Blk ((w.alloc (.cells #[.int .i64 kd, .int .i64 id, .bool on, .bool bc, .bool oi, .bool oo, .bool nlp, .int .i64 rd, .slice pp np cp, .bool yes, .slice pk nk ck, .int .i64 ev] 35)).alloc (.cells #[] 45)) w.heap.size [.int .i64 kd, .int .i64 id, .bool on, .bool bc, .bool oi, .bool oo, .bool nlp, .int .i64 rd, .slice pp np cp, .bool yes, .slice pk nk ck, .int .i64 ev] 35) := BA.out.alloc _
  clear UA BA
  go_enter Tryz.func16, Tryz.ntmps16
  go_wp2
  go_loopw [3, 11] (fun x3 x11 wr => ∃ (j : Nat) (p9 : Option Addr) (n9 c9 : Nat), j ≤ nk ∧ x11 = .int .i64 (j : Int) ∧ x3 = .slice p9 n9 c9 ∧ Hid (n9 = j) ∧ Hid (EvsAt wr w.heap.size (.slice p9 n9 c9) (evsOf ev (keys.take j))) ∧ Hid (Blk wr w.heap.size [.int .i64 kd, .int .i64 id, .bool on, .bool bc, .bool oi, .bool oo, .bool nlp, .int .i64 rd, .slice pp np cp, .bool yes, .slice pk nk ck, .int .i64 ev] 35) ∧ Hid (Upd (fun _ => False) w wr)) (fun _ x11 _ => nk - (intOf x11).toNat)
  case atStart => exact ⟨0, _, 0, 0, by omega, rfl, rfl, Lib.hid rfl, Lib.hid (by simpa [evsOf] using E0.out), BB, UB⟩
  case round =>
    clear E0 BB UB
    obtain ⟨j, p9, n9, c9, hj, rfl, rfl, N9, EV, BB, U⟩ := hrel
    by_cases hlt : j < nk
    · have q1 : (j : Int) < (nk : Int) := by omega
      have hkl : j < keys.length := by rw [← NK.out]; exact hlt
      have rk := RK.out.keep U.out (fun _ _ _ h => h)
      rw [NK.out] at rk
      obtain ⟨bx, off, epx, hbx, c0⟩ := txt_rcell rk hkl
      obtain ⟨t, ht⟩ : ∃ t, t = keys[j] := ⟨_, rfl⟩
      rw [← ht] at c0
      have TK : Hid (evsOf ev (keys.take (j + 1)) = evsOf ev (keys.take j) ++ [evOf ev t]) := by
        show _ = _
        unfold evsOf
        rw [List.take_succ_eq_append_getElem hkl, ← ht, List.map_append]; rfl
      have LE9 : (evsOf ev (keys.take j)).length = j := by unfold evsOf; simp; omega
      have b11 := BB.out.cellAt (i := 11) (v := .int .i64 ev) rfl
      have b0 := BB.out.lt
      subst epx
      clear ht hkl rk
      by_cases h5 : max 1 (min ev 5) = 5
      · have eo : evOf ev t = (5, []) := by unfold evOf evK; rw [h5, if_pos rfl]
        rw [eo] at TK
        have UA : Upd (fun _ => False) wr (wr.alloc (.cells #[.int .i64 5, .string { data := #[] }] 45)) := (Upd.refl _ _).alloc _
        obtain ⟨p5, c5, w5, hr5, E5, u5⟩ := evs_app _ w.heap.size _ _ (5, []) (EV.out.keep0 UA) (by omega) (Nat.le_trans U.out.size UA.size)
        rw [← TK.out] at E5
        rw [LE9] at hr5 E5
        have hown : ∀ b, (Value.slice p9 n9 c9).ownBlock = some b → ∃ cs, Blk wr b cs 45 ∧ w.heap.size ≤ b := fun b hb => by obtain ⟨h1, _, cs, h3⟩ := EV.out.lt hb; exact ⟨cs, h3, h1⟩
        have BB5 : Hid (Blk w5 w.heap.size [.int .i64 kd, .int .i64 id, .bool on, .bool bc, .bool oi, .bool oo, .bool nlp, .int .i64 rd, .slice pp np cp, .bool yes, .slice (some ⟨bx, off, none⟩) nk ck, .int .i64 ev] 35) := u5.blk (UA.blk BB.out (fun h => h)) (fun e => by
          obtain ⟨cs, h3, _⟩ := hown _ e
          exact absurd (BB.out.ty h3) (by decide))
        have U5 : Hid (Upd (fun _ => False) w w5) := (U.out.trans UA (fun _ _ h => h)).trans u5 (fun b hb e => by
          obtain ⟨cs, _, h4⟩ := hown _ e; omega)
        have E5 := Lib.hid E5
        have hr5 : (Builtin.append_ #[42, 42] 42 #[.slice p9 n9 c9, .slice (some ⟨wr.heap.size + 1, 0, none⟩) 1 1]).run Tryz.prog ((wr.alloc (.cells #[.int .i64 5, .string { data := #[] }] 45)).alloc (.cells #[.int .i64 5, .string { data := #[] }] 45)) = .ok (.slice p5 (j + 1) c5) w5 := by
          have := hr5; rw [World.size_alloc] at this; exact this
        clear EV BB U UA u5 hown TK eo LE9
        generalize ofL t = st at *
        go_wp2_with (at_builtin; refine wpList_builtinN rfl _ _ 42 rfl _ _ rfl rfl hr5 ?_)
        go_roundw
        case rel => exact ⟨j + 1, p5, _, c5, by omega, by go_num, rfl, Lib.hid rfl, E5, BB5, U5⟩
        case measure => simp [intOf]; omega
      · have q5 : (max 1 (min ev 5) == 5) = false := beq_eq_false_iff_ne.2 h5
        have eo : evOf ev t = (max 1 (min ev 5), t) := by unfold evOf evK; rw [if_neg h5]
        rw [eo] at TK
        have UA : Upd (fun _ => False) wr (wr.alloc (.cells #[.int .i64 (max 1 (min ev 5)), .string (ofL t)] 45)) := (Upd.refl _ _).alloc _
        obtain ⟨p5, c5, w5, hr5, E5, u5⟩ := evs_app _ w.heap.size _ _ (max 1 (min ev 5), t) (EV.out.keep0 UA) (by omega) (Nat.le_trans U.out.size UA.size)
        rw [← TK.out] at E5
        rw [LE9] at hr5 E5
        have hown : ∀ b, (Value.slice p9 n9 c9).ownBlock = some b → ∃ cs, Blk wr b cs 45 ∧ w.heap.size ≤ b := fun b hb => by obtain ⟨h1, _, cs, h3⟩ := EV.out.lt hb; exact ⟨cs, h3, h1⟩
        have BB5 : Hid (Blk w5 w.heap.size [.int .i64 kd, .int .i64 id, .bool on, .bool bc, .bool oi, .bool oo, .bool nlp, .int .i64 rd, .slice pp np cp, .bool yes, .slice (some ⟨bx, off, none⟩) nk ck, .int .i64 ev] 35) := u5.blk (UA.blk BB.out (fun h => h)) (fun e => by
          obtain ⟨cs, h3, _⟩ := hown _ e
          exact absurd (BB.out.ty h3) (by decide))
        have U5 : Hid (Upd (fun _ => False) w w5) := (U.out.trans UA (fun _ _ h => h)).trans u5 (fun b hb e => by
          obtain ⟨cs, _, h4⟩ := hown _ e; omega)
        have E5 := Lib.hid E5
        have hr5 : (Builtin.append_ #[42, 42] 42 #[.slice p9 n9 c9, .slice (some ⟨wr.heap.size + 1, 0, none⟩) 1 1]).run Tryz.prog ((wr.alloc (.cells #[.int .i64 (max 1 (min ev 5)), .string (ofL t)] 45)).alloc (.cells #[.int .i64 (max 1 (min ev 5)), .string (ofL t)] 45)) = .ok (.slice p5 (j + 1) c5) w5 := by
          have := hr5; rw [World.size_alloc] at this; exact this
        clear EV BB U UA u5 hown TK eo LE9 h5
        generalize ofL t = st at *
        go_wp2_with (at_builtin; refine wpList_builtinN rfl _ _ 42 rfl _ _ rfl rfl hr5 ?_)
        go_roundw
        case rel => exact ⟨j + 1, p5, _, c5, by omega, by go_num, rfl, Lib.hid rfl, E5, BB5, U5⟩
        case measure => simp [intOf]; omega
    · have q1 : ¬ (j : Int) < (nk : Int) := by omega
      obtain rfl : j = nk := by omega
      have ek : keys.take j = keys := List.take_of_length_le (by rw [← NK.out]; omega)
      rw [ek, N9.out] at EV
      obtain rfl := N9.out
      go_wp2
      go_ret
      exact ⟨_, _, by rw [← NK.out]; rfl, by rw [← NK.out]; exact EV.out, U.out⟩
end Go.Proofs.YtmlojbfcmebboaaGreat
/- Who read it is told: what is read, plain. -/
set_option linter.unusedVariables false
set_option linter.unusedSimpArgs false
set_option linter.unusedSectionVars false
set_option maxRecDepth 100000
namespace Go.Proofs.YtmlojbfcmebboaaGreat
open Go.RowKit

def onN2 : MD := ⟨true, false, false, false, true, 0, []⟩
abbrev MT : List (Int × CL) := [(1, ⟨onM, 0⟩), (2, ⟨onN2, 0⟩), (3, ⟨onM, 0⟩), (4, ⟨mR 1, 0⟩)]
def KN (who : Int) (key : ByteArray) : NT := ⟨0, 0, who, key⟩
def i14 (x : Int) : Prop := 1 ≤ x ∧ x ≤ 4
theorem i14_cases {x : Int} (h : i14 x) : x = 1 ∨ x = 2 ∨ x = 3 ∨ x = 4 := by unfold i14 at h; omega
theorem told14 {x : Int} (h : i14 x) (k : Int) (key : ByteArray) : toldP (aget MT) k x key = ⟨k, if x = 4 then 1 else x, x, key⟩ := by
  rcases i14_cases h with rfl | rfl | rfl | rfl <;> rfl
theorem hear_app (R : RM) (a b : List NT) : hearR R (a ++ b) = (hearR R a).bind (fun R' => hearR R' b) := by
  induction a generalizing R with
  | nil => rfl
  | cons n r ih =>
    simp only [List.cons_append, hearR]
    split
    · rfl
    · exact ih _
structure TQ (R : RM) (L : Rows14) (left : NT → Prop) : Prop where
  v1 : V1 R
  nd : (akeys R).Nodup
  sub : ∀ n, aget R n ≠ none → n.kd = 0 ∧ n.dst = 0 ∧ ((∃ l, aget L n.key = some l ∧ n.who ∈ l) ∨ left n)
  sup : ∀ who key l, aget L key = some l → who ∈ l → aget R (KN who key) ≠ none
  ndL : (akeys L).Nodup
  s14 : InS i14 L
theorem nodup_adelG {κ ν : Type} [DecidableEq κ] {m : List (κ × ν)} (h : (akeys m).Nodup) (k : κ) : (akeys (adel m k)).Nodup := by
  induction m with
  | nil => exact h
  | cons p r ih =>
    simp only [akeys, List.map_cons, List.nodup_cons] at h
    unfold adel
    split
    · exact h.2
    · have e : akeys (p :: adel r k) = p.1 :: akeys (adel r k) := rfl
      rw [e, List.nodup_cons]
      refine ⟨fun hin => h.1 ?_, ih h.2⟩
      obtain ⟨q, hq, e2⟩ := List.mem_map.1 hin
      exact List.mem_map.2 ⟨q, mem_adelG hq, e2⟩
theorem hear_ids (key : ByteArray) : ∀ (ids : List Int) (R : RM), V1 R → (akeys R).Nodup → ids.Nodup → (∀ x ∈ ids, i14 x ∧ aget R (KN x key) ≠ none) →
    ∃ R', hearR R (ids.map fun x => toldP (aget MT) 1 x key) = some R' ∧ V1 R' ∧ (akeys R').Nodup ∧ ∀ n, aget R' n = if n.kd = 0 ∧ n.dst = 0 ∧ n.who ∈ ids ∧ n.key = key then none else aget R n
  | [], R, hv, hn, _, _ => ⟨R, rfl, hv, hn, fun n => by simp⟩
  | x :: r, R, hv, hn, hd, hx => by
    obtain ⟨hx1, hx2⟩ := hx x (by simp)
    have ho : ownN (toldP (aget MT) 1 x key) = KN x key := by rw [told14 hx1]; rfl
    obtain ⟨hd1, hd2⟩ := List.nodup_cons.1 hd
    obtain ⟨R', h1, h2, h3, h4⟩ := hear_ids key r (adel R (KN x key)) (hv.del _) (nodup_adelG hn _) hd2 (fun y hy => by
      obtain ⟨a, b⟩ := hx y (List.mem_cons_of_mem _ hy)
      refine ⟨a, ?_⟩
      rw [aget_adel hn, if_neg (fun e => ?_)]
      · exact b
      · simp only [KN, NT.mk.injEq] at e
        exact hd1 (e.2.2.1 ▸ hy))
    refine ⟨R', ?_, h2, h3, fun n => ?_⟩
    · simp only [List.map_cons, hearR]
      rw [ho, told14 hx1]
      have hc : ¬ (((1 : Int) = 1 ∧ aget R (KN x key) = none) ∨ ((if x = 4 then 1 else x) ≠ x ∧ x ≠ 4)) := by
        rintro (⟨_, g⟩ | ⟨g, g2⟩)
        · exact hx2 g
        · rw [if_neg g2] at g; exact g rfl
      rw [if_neg hc, if_pos rfl]
      exact h1
    · rw [h4, aget_adel hn]
      by_cases e : n.kd = 0 ∧ n.dst = 0 ∧ n.key = key
      · obtain ⟨e1, e2, e3⟩ := e
        by_cases e4 : n.who = x
        · have en : KN x key = n := by obtain ⟨a, b, c, d⟩ := n; simp [KN] at *; exact ⟨e1.symm, e2.symm, e4.symm, e3.symm⟩
          rw [if_pos en]
          simp [e1, e2, e3, e4]
        · have en : ¬ KN x key = n := fun h => e4 (by rw [← h]; rfl)
          rw [if_neg en]
          simp [e1, e2, e3, e4]
      · have en : ¬ KN x key = n := fun h => e (by rw [← h]; exact ⟨rfl, rfl, rfl⟩)
        rw [if_neg en, if_neg (fun h => e ⟨h.1, h.2.1, h.2.2.2⟩), if_neg (fun h => e ⟨h.1, h.2.1, h.2.2.2⟩)]
theorem V1.set {R : RM} (h : V1 R) (k : NT) : V1 (aset R k (.int .i64 1)) := fun p hp => by
  rcases mem_asetG hp with rfl | g
  · rfl
  · exact h p g
theorem TQ.ofSet {R1 : RM} {L' : Rows14} {id : Int} {key : ByteArray} (v1 : V1 R1) (nd : (akeys R1).Nodup) (hb : ∀ n, aget R1 n ≠ none → n.kd = 0 ∧ n.dst = 0 ∧ ∃ l, aget L' n.key = some l ∧ n.who ∈ l)
    (hc : ∀ who k l, aget L' k = some l → who ∈ l → ¬ (who = id ∧ k = key) → aget R1 (KN who k) ≠ none) (hd : ∃ l, aget L' key = some l ∧ id ∈ l) (ndL : (akeys L').Nodup) (s14 : InS i14 L') : TQ (aset R1 (KN id key) (.int .i64 1)) L' (fun _ => False) where
  v1 := v1.set _
  nd := nodup_aset nd _ _
  sub := fun n hn => by
    rw [aget_aset] at hn
    by_cases e : KN id key = n
    · subst e; exact ⟨rfl, rfl, Or.inl hd⟩
    · rw [if_neg e] at hn
      obtain ⟨h1, h2, h3⟩ := hb n hn
      exact ⟨h1, h2, Or.inl h3⟩
  sup := fun who k l h1 h2 => by
    rw [aget_aset]
    by_cases e : KN id key = KN who k
    · rw [if_pos e]; simp
    · rw [if_neg e]
      exact hc who k l h1 h2 (fun g => e (by rw [g.1, g.2]))
  ndL := ndL
  s14 := s14
theorem TQ.in_ {R : RM} {L : Rows14} (h : TQ R L (fun _ => False)) {n : NT} (hn : aget R n ≠ none) : n.kd = 0 ∧ n.dst = 0 ∧ ∃ l, aget L n.key = some l ∧ n.who ∈ l := by
  obtain ⟨a, b, c⟩ := h.sub n hn
  exact ⟨a, b, c.resolve_right id⟩
theorem tells_read {most : Int} {R : RM} {L : Rows14} {n : Nat} (h : TQ R L (fun _ => False)) (hI : KInv L n) (hl : (L.length : Int) ≤ most) (h1 : 1 ≤ most) {id : Int} (hid : i14 id) (t : Txt) (hnd : (akeys (readP MT most L id [t]).2).Nodup) :
    ∃ R1, hearR R (readP MT most L id [t]).1 = some R1 ∧ V1 R1 ∧ TQ (aset R1 (KN id (ofL t)) (.int .i64 1)) (readP MT most L id [t]).2 (fun _ => False) ∧ ((readP MT most L id [t]).2.length : Int) ≤ most := by
  have e0 : readP MT most L id [t] = readL (aget MT) most id [t] L := by rcases i14_cases hid with rfl | rfl | rfl | rfl <;> rfl
  rw [e0] at hnd ⊢
  have e1 : readL (aget MT) most id [t] L = (((add14 most L (ofL t) id).2.1.map fun x => toldP (aget MT) 1 x (add14 most L (ofL t) id).1), (add14 most L (ofL t) id).2.2.2) := by
    unfold readL readL; simp
  rw [e1] at hnd ⊢
  obtain ⟨key, hkey⟩ : ∃ key, key = ofL t := ⟨_, rfl⟩
  rw [← hkey] at hnd ⊢
  obtain ⟨hS, hE⟩ := add14_in (most := most) (key := key) h.s14 hid
  dsimp only at hnd ⊢
  have hadd : add14 most L key id = add14 most L key id := rfl
  unfold add14 at hnd hS hE ⊢
  cases hk : aget L key with
  | some l =>
    rw [hk] at hnd hS hE
    dsimp only at hnd hS hE ⊢
    refine ⟨R, rfl, h.v1, TQ.ofSet h.v1 h.nd (fun n hn => ?_) (fun who k l' a b g => ?_) hE hnd hS, ?_⟩
    · obtain ⟨a, b, l0, c, d⟩ := h.in_ hn
      refine ⟨a, b, ?_⟩
      rw [aget_aset]
      by_cases e : key = n.key
      · rw [if_pos e]
        rw [← e, hk] at c; injection c with c; subst c
        exact ⟨_, rfl, wth_mem.2 (Or.inr d)⟩
      · rw [if_neg e]; exact ⟨l0, c, d⟩
    · rw [aget_aset] at a
      by_cases e : key = k
      · rw [if_pos e] at a; injection a with a; subst a
        rcases wth_mem.1 b with g2 | g2
        · exact absurd ⟨g2, e.symm⟩ g
        · rw [← e]; exact h.sup who key l hk g2
      · rw [if_neg e] at a
        exact h.sup who k l' a b
    · have hin : key ∈ akeys L := by rw [← Decidable.not_not (p := key ∈ akeys L), ← aget_none, hk]; simp
      have := congrArg List.length (akeys_aset L key (wth l id))
      rw [if_pos hin] at this
      simp only [akeys, List.length_map] at this
      rw [this]; exact hl
  | none =>
    rw [hk] at hnd hS hE
    dsimp only at hnd hS hE ⊢
    by_cases hm : most ≤ (L.length : Int)
    · rw [if_pos hm] at hnd hS hE ⊢
      match L, h, hI, hl, hk, hm, hnd, hS, hE with
      | [], _, _, _, _, hm, _, _, _ => simp at hm; omega
      | p :: r, h, hI, hl, hk, hm, hnd, hS, hE =>
        dsimp only at hnd hS hE ⊢
        have hp : aget (p :: r) p.1 = some p.2 := by simp [aget]
        have hpk : ¬ p.1 = key := fun e => by simp [aget, e] at hk
        have hkr : aget r key = none := by simpa [aget, hpk] using hk
        obtain ⟨R1, q1, q2, q3, q4⟩ := hear_ids p.1 p.2 R h.v1 h.nd (nodup_of_rising (hI.rise p.1 p.2 hp).1) (fun x hx => ⟨h.s14 p (by simp) x hx, h.sup x p.1 p.2 hp hx⟩)
        have gr : ∀ k, aget r k = if p.1 = k then none else aget (p :: r) k := fun k => by
          by_cases e : p.1 = k
          · rw [if_pos e]
            have := h.ndL
            simp only [akeys, List.map_cons, List.nodup_cons] at this
            rw [aget_none, ← e]; exact this.1
          · rw [if_neg e]; simp [aget, e]
        have ga : ∀ k, aget (r ++ [(key, [id])]) k = if key = k then some [id] else aget r k := fun k => by rw [← aset_out hkr, aget_aset]
        refine ⟨R1, q1, q2, TQ.ofSet q2 q3 (fun n hn => ?_) (fun who k l' a b g => ?_) hE hnd hS, by simp at hl ⊢; exact hl⟩
        · rw [q4] at hn
          split at hn
          · exact absurd rfl hn
          · next hno =>
            obtain ⟨a, b, l0, c, d⟩ := h.in_ hn
            refine ⟨a, b, ?_⟩
            have hne : ¬ p.1 = n.key := fun e => by
              rw [← e, hp] at c; injection c with c; subst c
              exact hno ⟨a, b, d, e.symm⟩
            have hne2 : ¬ key = n.key := fun e => by rw [← e, hk] at c; cases c
            rw [ga, if_neg hne2, gr, if_neg hne]
            exact ⟨l0, c, d⟩
        · rw [ga] at a
          by_cases e : key = k
          · rw [if_pos e] at a; injection a with a; subst a
            rw [List.mem_singleton] at b
            exact absurd ⟨b, e.symm⟩ g
          · rw [if_neg e, gr] at a
            by_cases e2 : p.1 = k
            · rw [if_pos e2] at a; cases a
            · rw [if_neg e2] at a
              rw [q4, if_neg (fun g2 => e2 g2.2.2.2.symm)]
              exact h.sup who k l' a b
    · rw [if_neg hm] at hnd hS hE ⊢
      dsimp only at hnd hS hE ⊢
      have ga : ∀ k, aget (L ++ [(key, [id])]) k = if key = k then some [id] else aget L k := fun k => by rw [← aset_out hk, aget_aset]
      refine ⟨R, rfl, h.v1, TQ.ofSet h.v1 h.nd (fun n hn => ?_) (fun who k l' a b g => ?_) hE hnd hS, by simp; omega⟩
      · obtain ⟨a, b, l0, c, d⟩ := h.in_ hn
        refine ⟨a, b, ?_⟩
        have hne2 : ¬ key = n.key := fun e => by rw [← e, hk] at c; cases c
        rw [ga, if_neg hne2]
        exact ⟨l0, c, d⟩
      · rw [ga] at a
        by_cases e : key = k
        · rw [if_pos e] at a; injection a with a; subst a
          rw [List.mem_singleton] at b
          exact absurd ⟨b, e.symm⟩ g
        · rw [if_neg e] at a
          exact h.sup who k l' a b
theorem kinv_adel {L : Rows14} {n : Nat} (h : KInv L n) (hn : (akeys L).Nodup) (key : ByteArray) : KInv (adel L key) n :=
  ⟨fun k l hk => by
    rw [aget_adel hn] at hk
    split at hk
    · cases hk
    · exact h.rise k l hk, Nat.le_trans (adel_len L key) h.len⟩
/-- Who did it himself and isn't told stays in the map. -/
def lf (id kd : Int) (ks : List ByteArray) (n : NT) : Prop := n.who = 2 ∧ id = 2 ∧ kd < 3 ∧ n.key ∈ ks
theorem lf_mono {id kd : Int} {ks ks' : List ByteArray} (h : ∀ k ∈ ks, k ∈ ks') {n : NT} (hn : lf id kd ks n) : lf id kd ks' n := ⟨hn.1, hn.2.1, hn.2.2.1, h _ hn.2.2.2⟩
theorem own14 {id kd x : Int} (hid : i14 id) (h : ownB MT id kd x = true) : x = 2 ∧ id = 2 ∧ kd < 3 := by
  unfold ownB at h
  simp only [Bool.and_eq_true, decide_eq_true_eq] at h
  obtain ⟨rfl, h2⟩ := h
  rcases i14_cases hid with rfl | rfl | rfl | rfl
  · exact absurd h2 (by unfold quietP; simp [aget, onM])
  · refine ⟨rfl, rfl, ?_⟩
    unfold quietP at h2
    simp [aget, onN2] at h2
    omega
  · exact absurd h2 (by unfold quietP; simp [aget, onM])
  · exact absurd h2 (by unfold quietP; simp [aget, mR])
theorem tells_chg {P : Txt → Int → Prop} (hP : ∀ t i, ¬ P t i) {id kd : Int} (hid : i14 id) (hk5 : kd ≠ 5) {n : Nat} : ∀ (ts : List Txt) (R : RM) (L : Rows14) (ks : List ByteArray), TQ R L (lf id kd ks) → KInv L n →
    ∃ R', hearR R (changeP MT P id (ts.map fun t => (kd, t)) L).1 = some R' ∧ TQ R' (changeP MT P id (ts.map fun t => (kd, t)) L).2 (lf id kd (ks ++ ts.map ofL)) ∧ (∀ t ∈ ts, aget (changeP MT P id (ts.map fun t => (kd, t)) L).2 (ofL t) = none) ∧
      (∀ k, aget L k = none → aget (changeP MT P id (ts.map fun t => (kd, t)) L).2 k = none) ∧ (changeP MT P id (ts.map fun t => (kd, t)) L).2.length ≤ L.length
  | [], R, L, ks, h, _ => ⟨R, rfl, by simpa [changeP] using h, by simp, fun k hk => hk, Nat.le_refl _⟩
  | t :: ts, R, L, ks, h, hI => by
    have es : chStep MT P id L (kd, t) = ((((aget L (ofL t)).getD []).filter fun x => !ownB MT id kd x).map (fun x => toldP (aget MT) 1 x (ofL t)), adel L (ofL t)) := by
      unfold chStep; rw [if_neg hk5, ch_none hP hI]
    have ec : changeP MT P id ((t :: ts).map fun t => (kd, t)) L = ((chStep MT P id L (kd, t)).1 ++ (changeP MT P id (ts.map fun t => (kd, t)) (chStep MT P id L (kd, t)).2).1, (changeP MT P id (ts.map fun t => (kd, t)) (chStep MT P id L (kd, t)).2).2) := rfl
    rw [es] at ec
    dsimp only at ec
    rw [ec]
    obtain ⟨key, hkey⟩ : ∃ key, key = ofL t := ⟨_, rfl⟩
    rw [← hkey]
    have ga := aget_adel h.ndL key
    have first : ∃ R1, hearR R ((((aget L key).getD []).filter fun x => !ownB MT id kd x).map (fun x => toldP (aget MT) 1 x key)) = some R1 ∧ TQ R1 (adel L key) (lf id kd (ks ++ [key])) := by
      cases hk : aget L key with
      | none =>
        refine ⟨R, by simp [hearR], ⟨h.v1, h.nd, fun n hn => ?_, fun who k l a b => ?_, nodup_adelG h.ndL _, fun p hp => h.s14 p (mem_adelG hp)⟩⟩
        · obtain ⟨a, b, c⟩ := h.sub n hn
          refine ⟨a, b, c.imp (fun ⟨l, c, d⟩ => ⟨l, ?_, d⟩) (lf_mono (fun k hk => List.mem_append_left _ hk))⟩
          rw [ga, if_neg (fun e => by rw [← e, hk] at c; cases c)]; exact c
        · rw [ga] at a
          split at a
          · cases a
          · exact h.sup who k l a b
      | some l =>
        have hnd : (l.filter fun x => !ownB MT id kd x).Nodup := (nodup_of_rising (hI.rise key l hk).1).sublist List.filter_sublist
        obtain ⟨R1, q1, q2, q3, q4⟩ := hear_ids key (l.filter fun x => !ownB MT id kd x) R h.v1 h.nd hnd (fun x hx => ⟨h.s14 _ (mem_agetG hk) x (List.mem_filter.1 hx).1, h.sup x key l hk (List.mem_filter.1 hx).1⟩)
        refine ⟨R1, q1, ⟨q2, q3, fun n hn => ?_, fun who k l' a b => ?_, nodup_adelG h.ndL _, fun p hp => h.s14 p (mem_adelG hp)⟩⟩
        · rw [q4] at hn
          split at hn
          · exact absurd rfl hn
          · next hno =>
            obtain ⟨a, b, c⟩ := h.sub n hn
            refine ⟨a, b, ?_⟩
            rcases c with ⟨l0, c, d⟩ | c
            · by_cases e : key = n.key
              · right
                rw [← e, hk] at c; injection c with c; subst c
                have ho : ownB MT id kd n.who = true := by
                  cases hq : ownB MT id kd n.who with
                  | true => rfl
                  | false => exact absurd ⟨a, b, List.mem_filter.2 ⟨d, by rw [hq]; rfl⟩, e.symm⟩ hno
                obtain ⟨o1, o2, o3⟩ := own14 hid ho
                exact ⟨o1, o2, o3, by rw [← e]; simp⟩
              · left
                rw [ga, if_neg e]; exact ⟨l0, c, d⟩
            · exact Or.inr (lf_mono (fun k hk => List.mem_append_left _ hk) c)
        · rw [ga] at a
          split at a
          · cases a
          · next e =>
            rw [q4, if_neg (fun g => e g.2.2.2.symm)]
            exact h.sup who k l' a b
    obtain ⟨R1, q1, q2⟩ := first
    obtain ⟨R', p1, p2, p3, p4, p5⟩ := tells_chg hP hid hk5 ts R1 (adel L key) (ks ++ [key]) q2 (kinv_adel hI h.ndL key)
    refine ⟨R', ?_, ?_, fun t' ht' => ?_, fun k hk => p4 k (by rw [ga]; split; rfl; exact hk), Nat.le_trans p5 (adel_len L key)⟩
    · rw [hear_app, q1]; exact p1
    · have e : ks ++ [key] ++ ts.map ofL = ks ++ (t :: ts).map ofL := by rw [List.append_assoc, List.map_cons, hkey]; rfl
      rw [← e]; exact p2
    · rcases List.mem_cons.1 ht' with e | g
      · exact p4 _ (by rw [ga, if_pos (by rw [hkey, e])])
      · exact p3 t' g
theorem hear_flush (R : RM) : hearR R (flushP MT) = some R := by
  have e : flushP MT = [⟨2, 1, 1, emp⟩, ⟨2, 2, 2, emp⟩, ⟨2, 3, 3, emp⟩, ⟨2, 1, 4, emp⟩] := by decide +kernel
  rw [e]
  simp [hearR]
theorem tells_flush {P : Txt → Int → Prop} {id : Int} : ∀ (es : List (Int × Txt)) (R : RM) (L : Rows14), (∀ e ∈ es, e.1 = 5) → hearR R (changeP MT P id es L).1 = some R ∧ (changeP MT P id es L).2 = if es = [] then L else []
  | [], R, L, _ => ⟨rfl, rfl⟩
  | e :: es, R, L, h => by
    have es5 : chStep MT P id L e = (flushP MT, []) := by unfold chStep; rw [if_pos (h e (by simp))]
    obtain ⟨a, b⟩ := tells_flush (P := P) (id := id) es R [] (fun x hx => h x (List.mem_cons_of_mem _ hx))
    have ec : changeP MT P id (e :: es) L = ((chStep MT P id L e).1 ++ (changeP MT P id es (chStep MT P id L e).2).1, (changeP MT P id es (chStep MT P id L e).2).2) := rfl
    rw [es5] at ec
    rw [ec]
    refine ⟨by rw [hear_app, hear_flush]; exact a, ?_⟩
    dsimp only
    rw [b]; split <;> simp
/-- A number and a key leave what is read. -/
theorem TQ.del {R : RM} {L : Rows14} {left : NT → Prop} (h : TQ R L left) {who : Int} {key : ByteArray} (hk : aget L key = none) : TQ (adel R (KN who key)) L (fun n => left n ∧ n ≠ KN who key) where
  v1 := h.v1.del _
  nd := nodup_adelG h.nd _
  sub := fun n hn => by
    rw [aget_adel h.nd] at hn
    split at hn
    · exact absurd rfl hn
    · next e =>
      obtain ⟨a, b, c⟩ := h.sub n hn
      exact ⟨a, b, c.imp id (fun g => ⟨g, fun e2 => e e2.symm⟩)⟩
  sup := fun w2 k l a b => by
    rw [aget_adel h.nd, if_neg (fun e => by simp only [KN, NT.mk.injEq] at e; rw [← e.2.2.2, hk] at a; cases a)]
    exact h.sup w2 k l a b
  ndL := h.ndL
  s14 := h.s14
theorem TQ.mono {R : RM} {L : Rows14} {left left' : NT → Prop} (h : TQ R L left) (hl : ∀ n, left n → left' n) : TQ R L left' :=
  { h with sub := fun n hn => by obtain ⟨a, b, c⟩ := h.sub n hn; exact ⟨a, b, c.imp id (hl n)⟩ }
theorem TQ.mono2 {R : RM} {L : Rows14} {left left' : NT → Prop} (h : TQ R L left) (hl : ∀ n, n.kd = 0 → n.dst = 0 → left n → left' n) : TQ R L left' :=
  { h with sub := fun n hn => by obtain ⟨a, b, c⟩ := h.sub n hn; exact ⟨a, b, c.imp id (hl n a b)⟩ }
theorem TQ.nil : TQ [] [] (fun _ => False) := ⟨fun p hp => by simp at hp, List.nodup_nil, fun n hn => by simp [aget] at hn, fun who key l h => by simp [aget] at h, List.nodup_nil, fun p hp => by simp at hp⟩
/-- What stands in the map of a key that has no row is one's own. -/
theorem TQ.own {R : RM} {L : Rows14} {left : NT → Prop} (h : TQ R L left) {who : Int} {key : ByteArray} (hk : aget L key = none) (hn : aget R (KN who key) ≠ none) : left (KN who key) := by
  obtain ⟨_, _, c⟩ := h.sub _ hn
  rcases c with ⟨l, c, _⟩ | c
  · exact absurd c (by show ¬ aget L key = some l; rw [hk]; simp)
  · exact c
end Go.Proofs.YtmlojbfcmebboaaGreat
