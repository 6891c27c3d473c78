/- Walk: a key's item is taken out. -/
import Derived.Test.YtgdenmddbgcacaaGreatDoorK16
import Derived.Deep.DeepCutAuto
import Derived.RegionTactic
set_option linter.unusedVariables false
set_option linter.unusedSimpArgs false
namespace Go.Proofs.YtgdenmddbgcacaaGreatDoor
open Go.RowKit

theorem adel_none {κ ν : Type} [DecidableEq κ] {m : List (κ × ν)} {k : κ} (h : aget m k = none) : adel m k = m := by
  induction m with
  | nil => rfl
  | cons p r ih =>
    simp only [aget] at h
    split at h
    · cases h
    · next hp => unfold adel; rw [if_neg hp, ih h]
theorem itV_eta (i : It) (v : Value) : Value.agg #[.int .i64 i.kind, .string i.text, v] = itV i v := rfl
set_option maxHeartbeats 8000000 in
set_option maxRecDepth 100000 in
theorem take_any {w : World} {base sb : Nat} {s : SV} {X Z : Nat → Prop} {S : PS} (m : SMem w base sb (Or2 X Z) s) (r : SRel w Z s S) (key : ByteArray) (hn : s.n ≤ 10000) (hk : key.size ≤ 100000) :
    Calls Tryz.prog 84 #[.pointer (some ⟨sb, 0, none⟩), .string key] w fun e w' => e = .returned (.bool (wasP S key)) ∧ ∃ s', SMem w' base sb (Or2 X Z) s' ∧ SRel w' Z s' { S with cells := delC S.cells key } ∧ s'.n = s.n ∧ Upd (Fr base (Or2 X Z)) w w' := by
  have hsb := m.blk.lt
  have a0 := m.blk.cellAt (i := 0) rfl
  have D := Lib.hid (m.tdrop key hn hk)
  by_cases hw : key ∈ keysC S.cells
  · have hwas : wasP S key = true := decide_eq_true hw
    obtain ⟨c, hlc, hc, rfl, i, v, hg, hsl, hf⟩ := r.get_some hw
    rw [hg] at D
    have R := Lib.hid r
    have HW := Lib.hid hw
    have HG := Lib.hid hg
    have HSL := Lib.hid hsl
    have HF := Lib.hid hf
    have HL := Lib.hid hlc
    have HC := Lib.hid hc
    have HSZ := Lib.hid (small_of_right (r.ok.small c hc).1)
    rw [hwas]
    clear r hw hg hsl hf hlc hc hwas m
    go_enter Tryz.func84, Tryz.ntmps84
    go_wp2_with fail
    refine (D.out).mono ?_
    rintro e w1 ⟨rfl, P1⟩
    simp only [Option.getD_some, Option.isSome_some]
    have m1 := P1.1
    have U1 := Lib.hid P1.2
    obtain ⟨b, cp, e, hb, hne, c0, c1, c2, fr, hm⟩ := m1.slot HSL.out
    have f1 := HF.out.keep U1.out (fun b hb g => g.2 (Or.inr hb))
    have CO := Lib.hid (fun W (u : Upd (fun _ => False) w1 W) => cost_any c.key c.item v W (m1.std.keep u) (f1.1.keep u (fun _ _ _ h => h)) HSZ.out hk)
    have x1 : w1.cell? ⟨sb, 1, none⟩ = some (.slice (some ⟨b, 0, none⟩) s.sl.length cp) := by rw [m1.blk.cellAt (i := 1) rfl]; exact congrArg some e
    have x5 : w1.cell? ⟨sb, 5, none⟩ = some (.int .i64 s.byt) := m1.blk.cellAt (i := 5) rfl
    have l1 := m1.blk.lt
    have fx := m1.blk.free 5
    have HB := Lib.hid m1.blk
    have M1 := Lib.hid m1
    have hil := (List.getElem?_eq_some_iff.1 HSL.out).1
    have q0 := costI_pos c.key c.item
    have q1 := costI_le HSZ.out hk
    have q2 := R.out.byt_range hn
    simp only at c0 c1 c2
    clear P1 m1 D e
    generalize hco : costI c.key c.item = co at *
    have HCO := Lib.hid hco
    have HWR : Hid (IntKind.i64.wrap (s.byt - co) = s.byt - co) := i64w (by omega) (by omega)
    clear hco
    go_upto_region 4 with (fail)
    go_cut [5] (fun v5 wx => v5 = .int .i64 (i : Int) ∧ Hid (PartTo w1 base sb (Or2 X Z) wx { s with m := adel s.m c.key, byt := s.byt - co }))
    case first =>
      go_region_with (go_at_call 48; refine (CO.out _ (by first | exact Upd.refl _ _ | exact (Upd.refl _ _).drew)).mono ?_; rintro e2 w2 ⟨rfl, u2⟩; have B2 := u2.blk HB.out (fun h => h); have y5 : w2.cell? ⟨sb, 5, none⟩ = some (.int .i64 s.byt) := B2.cellAt (i := 5) rfl; have y1 : w2.cell? ⟨sb, 1, none⟩ = some (.slice (some ⟨b, 0, none⟩) s.sl.length cp) := (u2.cell (p := ⟨sb, 1, none⟩) l1 (fun h => h)).trans x1; have l2 := B2.lt; have g5 := B2.free 5; have UU : Hid (Upd (fun _ => False) w1 w2) := (by first | exact u2 | exact ((Upd.refl _ _).drew).trans u2 (fun _ _ h => h)))
      all_goals (go_wp2_with fail; go_meet; rw [HWR.out]; exact ⟨rfl, (PartTo.of0 M1.out UU.out).trans ((M1.out.keep0 UU.out).bytSet _)⟩)
    case rest =>
    obtain ⟨rfl, P2⟩ := hcut
    clear x1 x5 l1 fx c0 c1 c2 fr hb
    have l1 := P2.out.1.blk.lt
    obtain ⟨b, cp, e, hb, hne, c0, c1, c2, fr, hm⟩ := P2.out.1.slot HSL.out
    have x1 : wc.cell? ⟨sb, 1, none⟩ = some (.slice (some ⟨b, 0, none⟩) s.sl.length cp) := by rw [P2.out.1.blk.cellAt (i := 1) rfl]; exact congrArg some e
    have fr0 := fr (i * 3)
    have fr1 := fr (i * 3 + 1)
    have fr2 := fr (i * 3 + 2)
    have P3 := P2.out.1.slotTo HSL.out (y := (0, ByteArray.empty, .slice none 0 0)) e
    have PP3 := Lib.hid (P2.out.trans P3)
    simp only at c0 c1 c2
    clear e P3 fr
    go_upto_region 5 with (fail)
    go_cut [5] (fun v5 wx => v5 = .int .i64 (i : Int) ∧ Hid (PartTo w1 base sb (Or2 X Z) wx { s with m := adel s.m c.key, byt := s.byt - co, sl := s.sl.set i (0, ByteArray.empty, .slice none 0 0) }))
    case first =>
      go_wp2_with fail
      go_meet
      exact ⟨rfl, PP3.out⟩
    case rest =>
    obtain ⟨rfl, P4⟩ := hcut
    clear PP3 P2 x1 l1 fr0 fr1 fr2 c0 c1 c2 hb
    have hfl : s.fr.length ≤ 1000000 := by have := R.out.fr_len; have := R.out.sln; omega
    have lx := P4.out.1.blk.lt
    obtain ⟨p0, c0, e0, _⟩ := (IntsAt.ownS.1 P4.out.1.free).slice
    obtain ⟨p, cq, w3, hr1, hB1, P5⟩ := P4.out.1.free_app (i : Int) hfl
    have d2 := P4.out.1.blk.cellAt (i := 2) rfl
    have k2 := hB1.cellAt (i := 2) rfl
    have l3 := hB1.lt
    have f2 := hB1.free 2
    have PP5 := Lib.hid (P4.out.trans P5)
    simp only at e0 hr1 d2 k2
    rw [e0] at hr1 d2 k2
    clear P4 P5 hB1 e0 hfl
    go_upto_region 6 with (fail)
    go_cut [5] (fun v5 wx => v5 = .int .i64 (i : Int) ∧ Hid (∃ v, PartTo w1 base sb (Or2 X Z) wx { s with m := adel s.m c.key, byt := s.byt - co, sl := s.sl.set i (0, ByteArray.empty, .slice none 0 0), frv := v, fr := s.fr ++ [(i : Int)] }))
    case first =>
      go_wp2_with (at_builtin; refine wpList_builtinN rfl _ _ 39 rfl _ _ rfl rfl hr1 ?_)
      go_wp2_with fail
      go_meet
      exact ⟨rfl, _, PP5.out⟩
    case rest =>
    obtain ⟨rfl, HQ⟩ := hcut
    obtain ⟨v6, P6⟩ := HQ.out
    clear PP5 d2 k2 l3 f2 hr1 HQ
    have l6 := P6.1.blk.lt
    have d3 := P6.1.blk.cellAt (i := 3) rfl
    have RD := Lib.hid (P6.1.rdrop c.key)
    have PP6 := Lib.hid P6
    simp only at d3 RD
    clear P6
    go_wp2_with fail
    refine (RD.out).mono ?_
    rintro e w7 ⟨rfl, P7⟩
    have PP7 := Lib.hid (PP6.out.trans P7)
    have l7 := P7.1.blk.lt
    have d4 := P7.1.blk.cellAt (i := 4) rfl
    have XD := Lib.hid (P7.1.xdrop c.key (by have := R.out.l_len; exact Nat.le_trans this hn))
    simp only at d4 XD
    clear P7 RD PP6
    go_wp2_with fail
    refine (XD.out).mono ?_
    rintro e w8 ⟨rfl, P8⟩
    have PP8 := Lib.hid (PP7.out.trans P8)
    clear P8 XD PP7
    go_wp2
    go_ret
    have rr := (R.out.keepF (U1.out.trans PP8.out.2 (fun _ _ h => h))).del HW.out HG.out (z := (0, ByteArray.empty, .slice none 0 0)) (ev := s.ev) (cost := co) (fun c2 h2 => by rw [HL.out] at h2; cases h2; exact HCO.out.symm)
    refine ⟨rfl, _, PP8.out.1, ?_, rfl, Fr.trans U1.out PP8.out.2⟩
    have re := R.out.ev
    rw [re] at rr
    exact ⟨rr.ok, rr.km, rr.nd, rr.at_, rr.inj, rr.frOk, rr.frnd, rr.ks, rr.l, rr.byt, rr.bud, re, rr.sln, rr.cln⟩
  · have hwas : wasP S key = false := decide_eq_false hw
    have hg := r.get_none hw
    rw [hg] at D
    rw [hwas, delC_none hw]
    have R := Lib.hid r
    have HG := Lib.hid hg
    clear r hw hwas hg m
    go_enter Tryz.func84, Tryz.ntmps84
    go_wp2_with fail
    refine (D.out).mono ?_
    rintro e w1 ⟨rfl, P1⟩
    simp only [Option.getD_none, Option.isSome_none]
    have PP := Lib.hid P1
    clear P1 D
    go_wp2
    go_ret
    refine ⟨rfl, _, PP.out.1, ?_, rfl, PP.out.2⟩
    rw [adel_none HG.out]
    exact R.out.keepF PP.out.2
end Go.Proofs.YtgdenmddbgcacaaGreatDoor
/- Walks: a key goes, a key is due; where a key stands; evictions. -/
set_option linter.unusedVariables false
set_option linter.unusedSimpArgs false
namespace Go.Proofs.YtgdenmddbgcacaaGreatDoor
open Go.RowKit

/-- From one state of the store to the next. -/
def SGo (w : World) (base sb : Nat) (X Z : Nat → Prop) (w' : World) (S' : PS) (n : Nat) : Prop := ∃ s', SMem w' base sb (Or2 X Z) s' ∧ SRel w' Z s' S' ∧ s'.n ≤ n ∧ Upd (Fr base (Or2 X Z)) w w'
section
variable {w w1 w' : World} {base sb : Nat} {s : SV} {X Z : Nat → Prop} {S S1 : PS} {n : Nat}
theorem PS.ev_same (S : PS) : ({ S with events := S.events } : PS) = S := rfl
theorem SGo.tell (h : SGo w base sb X Z w1 S1 n) (ev : Ev) (hl : S1.events.length ≤ 1000000) : Hid (Calls Tryz.prog 53 #[.pointer (some ⟨sb, 0, none⟩), .int .i64 ev.1, .string ev.2] w1 fun e w' => e = .returned (.tuple #[]) ∧ SGo w base sb X Z w' { S1 with events := S1.events ++ [ev] } n) := by
  obtain ⟨s', m, r, hn, u⟩ := h
  have re := r.ev
  refine (tell_any m ev.1 ev.2 (by rw [re]; exact hl)).mono ?_
  rintro e w' ⟨rfl, v, p⟩
  have r2 := r.keepF p.2
  exact ⟨rfl, _, p.1, ⟨⟨r2.ok.nd, r2.ok.small, r2.ok.whens, r2.ok.bud, r2.ok.fit⟩, r2.km, r2.nd, r2.at_, r2.inj, r2.frOk, r2.frnd, r2.ks, r2.l, r2.byt, r2.bud, by show s'.ev ++ [_] = _; rw [re], r2.sln, r2.cln⟩, hn, Fr.trans u p.2⟩
end
set_option maxHeartbeats 4000000 in
set_option maxRecDepth 100000 in
theorem gone_any {w : World} {base sb : Nat} {s : SV} {X Z : Nat → Prop} {S : PS} (m : SMem w base sb (Or2 X Z) s) (r : SRel w Z s S) (key : ByteArray) (kind : Int) (hn : s.n ≤ 10000) (hk : key.size ≤ 100000) (hl : S.events.length ≤ 1000000) :
    Calls Tryz.prog 61 #[.pointer (some ⟨sb, 0, none⟩), .string key, .int .i64 kind] w fun e w' => e = .returned (.bool (wasP S key)) ∧ SGo w base sb X Z w' (goneP S key kind) s.n := by
  have T := Lib.hid (take_any m r key hn hk)
  by_cases hw : key ∈ keysC S.cells
  · have hwas : wasP S key = true := decide_eq_true hw
    have hg : goneP S key kind = { S with cells := delC S.cells key, events := S.events ++ [(kind, key)] } := if_pos hw
    rw [hwas] at T
    rw [hwas, hg]
    clear m r hwas hg hw
    go_enter Tryz.func61, Tryz.ntmps61
    go_wp2_with fail
    refine (T.out).mono ?_
    rintro e w1 ⟨rfl, s1, m1, r1, n1, u1⟩
    have G : Hid (SGo w base sb X Z w1 { S with cells := delC S.cells key } s.n) := ⟨s1, m1, r1, Nat.le_of_eq n1, u1⟩
    clear m1 r1 n1 u1 T
    go_wp2_with fail
    refine ((G.out.tell (kind, key) hl).out).mono ?_
    rintro e w2 ⟨rfl, G2⟩
    have GG := Lib.hid G2
    clear G2
    go_wp2
    go_ret
    exact ⟨rfl, GG.out⟩
  · have hwas : wasP S key = false := decide_eq_false hw
    have hg : goneP S key kind = S := if_neg hw
    have hd : ({ S with cells := delC S.cells key } : PS) = S := by rw [delC_none hw]
    rw [hwas, hd] at T
    rw [hwas, hg]
    clear m r hwas hg hd hw
    go_enter Tryz.func61, Tryz.ntmps61
    go_wp2_with fail
    refine (T.out).mono ?_
    rintro e w1 ⟨rfl, s1, m1, r1, n1, u1⟩
    have G : Hid (SGo w base sb X Z w1 S s.n) := ⟨s1, m1, r1, Nat.le_of_eq n1, u1⟩
    clear m1 r1 n1 u1 T
    go_wp2
    go_ret
    exact ⟨rfl, G.out⟩
theorem isDue_eq {w : World} {s : SV} {Z : Nat → Prop} {S : PS} (r : SRel w Z s S) (key : ByteArray) (now : Int) : isDue S.cells key now = ((getV s.l key).2 && decide ((getV s.l key).1 ≤ now)) := by
  rw [r.getV key]
  unfold isDue
  cases lookC S.cells key with
  | none => rfl
  | some c => simp only; split <;> rename_i h <;> simp [h]
set_option maxHeartbeats 4000000 in
set_option maxRecDepth 100000 in
theorem due_any {w : World} {base sb : Nat} {s : SV} {X Z : Nat → Prop} {S : PS} (m : SMem w base sb (Or2 X Z) s) (r : SRel w Z s S) (key : ByteArray) (now : Int) (hn : s.n ≤ 10000) (hk : key.size ≤ 100000) (hl : S.events.length ≤ 1000000) :
    Calls Tryz.prog 46 #[.pointer (some ⟨sb, 0, none⟩), .string key, .int .i64 now] w fun e w' => e = .returned (.tuple #[]) ∧ SGo w base sb X Z w' (dueP S key now) s.n := by
  have hsb := m.blk.lt
  have a4 := m.blk.cellAt (i := 4) rfl
  have D := Lib.hid (m.xget key)
  have E := isDue_eq r key now
  have G := Lib.hid (gone_any m r key 3 hn hk hl)
  have G0 : Hid (SGo w base sb X Z w S s.n) := ⟨s, m, r, Nat.le_refl _, Upd.refl _ _⟩
  generalize (getV s.l key).2 = there at *
  generalize (getV s.l key).1 = t at *
  unfold dueP
  clear m r
  cases there with
  | false =>
    have E2 : isDue S.cells key now = false := by rw [E]; rfl
    rw [E2, if_neg (by simp)]
    clear E E2 G
    go_enter Tryz.func46, Tryz.ntmps46
    go_wp2_with fail
    refine (D.out).mono ?_
    rintro e w1 ⟨rfl, rfl⟩
    clear D
    go_wp2
    go_end0
    exact ⟨rfl, G0.out⟩
  | true =>
    cases hd : decide (t ≤ now) with
    | false =>
      have E2 : isDue S.cells key now = false := by rw [E, hd]; rfl
      rw [E2, if_neg (by simp)]
      clear E E2 G
      go_enter Tryz.func46, Tryz.ntmps46
      go_wp2_with fail
      refine (D.out).mono ?_
      rintro e w1 ⟨rfl, rfl⟩
      clear D
      go_wp2
      go_end0
      exact ⟨rfl, G0.out⟩
    | true =>
      have E2 : isDue S.cells key now = true := by rw [E, hd]; rfl
      rw [E2, if_pos rfl]
      clear E E2 G0
      go_enter Tryz.func46, Tryz.ntmps46
      go_wp2_with fail
      refine (D.out).mono ?_
      rintro e w1 ⟨rfl, rfl⟩
      clear D
      go_wp2_with fail
      refine (G.out).mono ?_
      rintro e w2 ⟨rfl, G2⟩
      have GG := Lib.hid G2
      clear G2 G
      go_wp2
      go_end0
      exact ⟨rfl, GG.out⟩
set_option maxHeartbeats 4000000 in
set_option maxRecDepth 100000 in
theorem slot_any {w : World} {base sb : Nat} {s : SV} {X Z : Nat → Prop} {S : PS} (m : SMem w base sb (Or2 X Z) s) (r : SRel w Z s S) (key : ByteArray) (now : Int) (hn : s.n ≤ 10000) (hk : key.size ≤ 100000) (hl : S.events.length ≤ 1000000) :
    Calls Tryz.prog 44 #[.pointer (some ⟨sb, 0, none⟩), .string key, .int .i64 now] w fun e w' => ∃ s' i, e = .returned (.tuple #[.int .i64 i, .bool (wasP (dueP S key now) key)]) ∧ SMem w' base sb (Or2 X Z) s' ∧ SRel w' Z s' (dueP S key now) ∧ s'.n ≤ s.n ∧ Upd (Fr base (Or2 X Z)) w w' ∧ i = (aget s'.m key).getD 0 := by
  have G := Lib.hid (due_any m r key now hn hk hl)
  have HN := Lib.hid hn
  clear m r hn
  go_enter Tryz.func44, Tryz.ntmps44
  go_wp2_with fail
  refine (G.out).mono ?_
  rintro e w1 ⟨rfl, s1, m1, r1, n1, u1⟩
  have hsb := m1.blk.lt
  have a0 := m1.blk.cellAt (i := 0) rfl
  have D := Lib.hid (m1.tget key (Nat.le_trans n1 HN.out) hk)
  have RE := r1.km key
  have R1 := Lib.hid r1
  have N1 := Lib.hid n1
  have U1 := Lib.hid u1
  rw [RE] at D
  clear m1 r1 n1 u1 G RE
  go_wp2_with fail
  refine (D.out).mono ?_
  rintro e w2 ⟨rfl, P2⟩
  have PP := Lib.hid P2
  clear P2 D a0 hsb
  go_wp2
  go_ret2
  exact ⟨_, _, rfl, PP.out.1, R1.out.keepF PP.out.2, N1.out, Fr.trans U1.out PP.out.2, rfl⟩
end Go.Proofs.YtgdenmddbgcacaaGreatDoor
/- Walks: evictions. -/
set_option linter.unusedVariables false
set_option linter.unusedSimpArgs false
namespace Go.Proofs.YtgdenmddbgcacaaGreatDoor
open Go.RowKit

def bytOf (w : World) (sb : Nat) : Nat := match w.cell? ⟨sb, 5, none⟩ with | some v => (intOf v).toNat | none => 0
theorem bytOf_of {w : World} {base sb : Nat} {s : SV} {X : Nat → Prop} (m : SMem w base sb X s) : bytOf w sb = s.byt.toNat := by
  unfold bytOf; rw [m.blk.cellAt (i := 5) rfl]; rfl
theorem evict_stop {S : PS} (h : bytesC S.cells ≤ S.budget) : evictP S = S := by
  obtain ⟨cells, bud, ev⟩ := S
  unfold evictP
  simp only at h ⊢
  match cells, h with
  | [], _ => rfl
  | [c], _ => rfl
  | c :: d :: r, h => unfold evictL; rw [if_neg (by omega)]
theorem evict_one {c : Ce} {bud : Int} {ev : List Ev} : evictP ⟨[c], bud, ev⟩ = ⟨[c], bud, ev⟩ := rfl
theorem evict_step {x : Ce} {a : List Ce} {c : Ce} {bud : Int} {ev : List Ev} (h : bud < bytesC (x :: (a ++ [c]))) : evictP ⟨x :: (a ++ [c]), bud, ev⟩ = evictP ⟨a ++ [c], bud, ev ++ [(4, x.key)]⟩ := by
  unfold evictP
  cases a with
  | nil =>
    simp only [List.nil_append] at h ⊢
    have : evictL bud [x, c] ev = evictL bud [c] (ev ++ [(4, x.key)]) := by
      show (if bud < bytesC [x, c] then _ else _) = _
      rw [if_pos h]
    rw [this]
  | cons y r => simp only [List.cons_append] at h ⊢; rw [evictL, if_pos h]
theorem gone_head {x : Ce} {r : List Ce} {bud : Int} {ev : List Ev} (h : (keysC (x :: r)).Nodup) (kind : Int) : goneP ⟨x :: r, bud, ev⟩ x.key kind = ⟨r, bud, ev ++ [(kind, x.key)]⟩ := by
  unfold goneP
  rw [if_pos (by simp [keysC])]
  have hx := keysC_cons h
  have : delC (x :: r) x.key = r := by
    have h2 := delC_none hx.1
    unfold delC at h2 ⊢
    simp only [List.filter_cons, ne_eq, not_true_eq_false, decide_false, Bool.false_eq_true, if_false]; exact h2
  simp only [this]
theorem oldest_one (k : ByteArray) : oldest k [k] = (ByteArray.empty, false) := by unfold oldest; simp
theorem oldest_more {k x : ByteArray} {r : List ByteArray} (h : x ≠ k) : oldest k (x :: r) = (x, true) := by unfold oldest; simp [h]
/-- Where an eviction stands. -/
structure EvI (w : World) (base sb : Nat) (X Z : Nat → Prop) (S : PS) (n : Nat) (but : ByteArray) (wr : World) (S1 : PS) (s1 : SV) (a : List Ce) (c : Ce) : Prop where
  mem : SMem wr base sb (Or2 X Z) s1
  rel : SRel wr Z s1 S1
  n : s1.n ≤ n
  u : Upd (Fr base (Or2 X Z)) w wr
  cells : S1.cells = a ++ [c]
  but : c.key = but
  ev : evictP S = evictP S1
  len : S1.events.length + S1.cells.length ≤ S.events.length + S.cells.length
set_option maxHeartbeats 8000000 in
set_option maxRecDepth 100000 in
theorem evict_any {w : World} {base sb : Nat} {s : SV} {X Z : Nat → Prop} {S : PS} (m : SMem w base sb (Or2 X Z) s) (r : SRel w Z s S) (but : ByteArray) (hn : s.n ≤ 10000) {a0 : List Ce} {c0 : Ce} (hc : S.cells = a0 ++ [c0]) (hb : c0.key = but) (hl : S.events.length ≤ 900000) :
    Calls Tryz.prog 54 #[.pointer (some ⟨sb, 0, none⟩), .string but] w fun e w' => e = .returned (.tuple #[]) ∧ SGo w base sb X Z w' (evictP S) s.n := by
  have I0 : Hid (∃ S1 s1 a c, EvI w base sb X Z S s.n but w S1 s1 a c) := ⟨S, s, a0, c0, m, r, Nat.le_refl _, Upd.refl _ _, hc, hb, rfl, Nat.le_refl _⟩
  have LL : Hid (S.events.length + S.cells.length ≤ 1000000) := by show _ ≤ _; have := r.cln; omega
  have HN := Lib.hid hn
  clear m r hc hb hl hn
  go_enter Tryz.func54, Tryz.ntmps54
  go_wp2
  go_loopw [5] (fun v5 wr => (∃ x, v5 = x) ∧ Hid (∃ S1 s1 a c, EvI w base sb X Z S s.n but wr S1 s1 a c)) (fun _ wr => bytOf wr sb)
  case atStart => exact ⟨⟨_, rfl⟩, I0⟩
  case round =>
    clear I0
    obtain ⟨_, I⟩ := hrel
    obtain ⟨S1, s1, a, c, i⟩ := I.out
    have hsb := i.mem.blk.lt
    have x5 : wr.cell? ⟨sb, 5, none⟩ = some (.int .i64 s1.byt) := i.mem.blk.cellAt (i := 5) rfl
    have x6 : wr.cell? ⟨sb, 6, none⟩ = some (.int .i64 s1.bud) := i.mem.blk.cellAt (i := 6) rfl
    have x3 : wr.cell? ⟨sb, 3, none⟩ = some (.pointer (some ⟨s1.rb, 0, none⟩)) := i.mem.blk.cellAt (i := 3) rfl
    have E := Lib.hid i
    clear i I
    by_cases hgt : s1.bud < s1.byt
    · have t : decide (s1.byt > s1.bud) = true := decide_eq_true hgt
      have HG := Lib.hid hgt
      clear hgt
      have EI := E.out
      have hne : S1.cells ≠ [] := by rw [EI.cells]; simp
      have hks : s1.ks = keysC (a ++ [c]) := by rw [EI.rel.ks, EI.cells]
      have hnd := EI.rel.ok.nd
      rw [EI.cells] at hnd
      have mD := EI.mem.keep0 ((Upd.refl (fun _ => False) wr).drew)
      have rD := EI.rel.keep0 ((Upd.refl (fun _ => False) wr).drew)
      have O := Lib.hid (mD.roldest but)
      cases a with
      | nil =>
        have h1 : oldest but s1.ks = (ByteArray.empty, false) := by rw [hks, ← EI.but]; exact oldest_one _
        rw [h1] at O
        simp only at O
        clear EI hks hnd h1 hne mD rD
        go_wp2
        go_region
        go_wp2_with fail
        refine (O.out).mono ?_
        rintro e w1 ⟨rfl, k, rfl⟩
        go_wp2
        refine bodyPost_ret (v := .tuple #[]) (by simp [results, Tryz.results54, go_sem]) rfl ?_
        have i := E.out
        have e1 : evictP S = S1 := by
          rw [i.ev]
          obtain ⟨cells, bud, ev⟩ := S1
          have := i.cells
          simp only [List.nil_append] at this
          subst this
          exact evict_one
        rw [e1]
        have uu : Upd (fun _ => False) wr (wr.drewN (1 + k)) := (Upd.refl _ _).drewN (1 + k)
        exact ⟨rfl, s1, i.mem.keep0 uu, i.rel.keep0 uu, i.n, Fr.trans i.u (Fr.of0 uu)⟩
      | cons x a =>
        have hx : x.key ≠ but := by
          intro e
          have := keysC_cons hnd
          exact this.1 (by rw [e, ← EI.but]; simp [keysC])
        have h1 : oldest but s1.ks = (x.key, true) := by rw [hks]; exact oldest_more hx
        rw [h1] at O
        simp only at O
        have hl0 := LL.out
        have hl1 := EI.len
        have hxs := EI.rel.ok.small x (by rw [EI.cells]; simp)
        have GO := Lib.hid (fun (k : Nat) => gone_any (EI.mem.keep0 ((Upd.refl (fun _ => False) _).drewN k)) (EI.rel.keep0 ((Upd.refl (fun _ => False) _).drewN k)) x.key 4 (Nat.le_trans EI.n HN.out) (by omega) (by omega))
        have EV : Hid (goneP S1 x.key 4 = ⟨a ++ [c], S1.budget, S1.events ++ [(4, x.key)]⟩ ∧ evictP S1 = evictP ⟨a ++ [c], S1.budget, S1.events ++ [(4, x.key)]⟩ ∧ bytesC (a ++ [c]) < bytesC S1.cells ∧ S1.cells.length = (a ++ [c]).length + 1) := by
          have q1 := EI.rel.byt
          have q2 := EI.rel.bud
          have q3 := HG.out
          have q4 := EI.cells
          obtain ⟨cells, bud, ev⟩ := S1
          simp only at q1 q2 q4
          subst q4
          refine ⟨gone_head hnd 4, evict_step (by rw [← q2]; rw [q1] at q3; exact q3), ?_, by simp⟩
          simp only [List.cons_append, bytesC]
          have := costI_pos x.key x.item; omega
        clear EI hks hnd h1 hne mD rD hx hl0 hl1 hxs
        go_wp2
        go_region
        go_wp2_with fail
        refine (O.out).mono ?_
        rintro e w1 ⟨rfl, k, rfl⟩
        go_wp2_with fail
        refine ((GO.out (1 + k))).mono ?_
        rintro e w2 ⟨rfl, s2, m2, r2, n2, u2⟩
        rw [EV.out.1] at r2
        have m2h := Lib.hid m2
        have r2h := Lib.hid r2
        have u2h := Lib.hid u2
        have n2h := Lib.hid n2
        have EY : Hid (bytOf w2 sb < bytOf wr sb) := by
          show _ < _
          rw [bytOf_of m2, bytOf_of E.out.mem, r2.byt, E.out.rel.byt]
          have q1 := EV.out.2.2.1
          have q2 := bytesC_nonneg (a ++ [c])
          simp only
          omega
        clear m2 r2 u2 n2 GO O
        go_wp2
        go_roundw
        case rel =>
          refine ⟨⟨_, rfl⟩, _, s2, a, c, m2h.out, r2h.out, Nat.le_trans n2h.out E.out.n, ?_, rfl, E.out.but, by rw [E.out.ev]; exact EV.out.2.1, ?_⟩
          · exact Fr.trans E.out.u (Fr.trans (Fr.of0 ((Upd.refl (fun _ => False) wr).drewN (1 + k))) u2h.out)
          · have q1 := E.out.len
            have q2 := EV.out.2.2.2
            simp only [List.length_append, List.length_cons, List.length_nil] at q2 ⊢
            omega
        case measure => exact EY.out
    · have t : decide (s1.byt > s1.bud) = false := decide_eq_false hgt
      have HG := Lib.hid hgt
      clear hgt
      go_wp2
      go_region
      go_wp2
      go_end0
      have i := E.out
      have e1 : evictP S = S1 := by
        rw [i.ev]
        refine evict_stop ?_
        have q := HG.out
        rw [i.rel.byt, i.rel.bud] at q
        omega
      rw [e1]
      have uu : Upd (fun _ => False) wr wr.drew := (Upd.refl _ _).drew
      exact ⟨rfl, s1, i.mem.keep0 uu, i.rel.keep0 uu, i.n, Fr.trans i.u (Fr.of0 uu)⟩
end Go.Proofs.YtgdenmddbgcacaaGreatDoor
/- Walks: Drop, Expire, Persist, Ttl; how the store is handed on. -/
set_option linter.unusedVariables false
set_option linter.unusedSimpArgs false
namespace Go.Proofs.YtgdenmddbgcacaaGreatDoor
open Go.RowKit

section
variable {w w1 w' : World} {base sb : Nat} {s : SV} {X Z : Nat → Prop} {S S1 : PS} {n N : Nat} {key : ByteArray}
theorem SGo.st (g : SGo w base sb X Z w' S1 n) (hz : ∀ b, Z b → ¬ X b) (hn : n ≤ N) : SSt w' base sb X S1 N ∧ Upd (Fr base X) w w' := by
  obtain ⟨s', m, r, h, u⟩ := g
  exact ⟨⟨s', Z, m, hz, r, Nat.le_trans h hn⟩, Fr.sub u fun k _ hk => Or.inl hk⟩
theorem SGo.then (g : SGo w base sb X Z w1 S n) {S2 : PS} (h : ∀ s1, SMem w1 base sb (Or2 X Z) s1 → SRel w1 Z s1 S → s1.n ≤ n → SGo w1 base sb X Z w' S2 s1.n) : SGo w base sb X Z w' S2 n := by
  obtain ⟨s1, m, r, hn, u⟩ := g
  obtain ⟨s2, m2, r2, hn2, u2⟩ := h s1 m r hn
  exact ⟨s2, m2, r2, Nat.le_trans hn2 hn, Fr.trans u u2⟩
theorem gone_len (S : PS) (k : ByteArray) (kind : Int) : (goneP S k kind).events.length ≤ S.events.length + 1 := by
  unfold goneP; split <;> simp
theorem due_len (S : PS) (k : ByteArray) (now : Int) : (dueP S k now).events.length ≤ S.events.length + 1 := by
  unfold dueP; split
  · exact gone_len S k 3
  · omega
theorem SRel.setW (r : SRel w Z s S) (hk : key ∈ keysC S.cells) {t : Int} (h0 : 0 ≤ t) (h1 : t ≤ 4611686018427387904) : SRel w Z { s with l := putD key t s.l } { S with cells := setC S.cells key t } := by
  refine ⟨r.ok.setW (ev := S.events) (by omega) h1, fun k => ?_, r.nd, fun c hc => ?_, r.inj, r.frOk, r.frnd, ?_, ?_, ?_, r.bud, r.ev, r.sln, ?_⟩
  · show _ = decide (k ∈ keysC (setC S.cells key t))
    rw [setC_keys]; exact r.km k
  · rcases setC_mem.1 hc with ⟨a, _⟩ | ⟨e1, e2, d, hd, e3, e4⟩
    · exact r.at_ c a
    · obtain ⟨i, v, a, b, f⟩ := r.at_ d hd
      rw [e4] at b f
      rw [e3, ← e1] at a
      exact ⟨i, v, a, b, f⟩
  · show s.ks = keysC (setC _ _ _); rw [setC_keys]; exact r.ks
  · show putD key t s.l = duesC (setC _ _ _); rw [duesC_setC r.ok.nd h0 hk, r.l]
  · show s.byt = bytesC (setC _ _ _); rw [bytesC_setC]; exact r.byt
  · show (setC _ _ _).length ≤ s.n; unfold setC; rw [List.length_map]; exact r.cln
theorem SRel.unset (r : SRel w Z s S) : SRel w Z { s with l := dropD key s.l } { S with cells := setC S.cells key (-1) } := by
  refine ⟨r.ok.setW (ev := S.events) (by omega) (by omega), fun k => ?_, r.nd, fun c hc => ?_, r.inj, r.frOk, r.frnd, ?_, ?_, ?_, r.bud, r.ev, r.sln, ?_⟩
  · show _ = decide (k ∈ keysC (setC S.cells key (-1)))
    rw [setC_keys]; exact r.km k
  · rcases setC_mem.1 hc with ⟨a, _⟩ | ⟨e1, e2, d, hd, e3, e4⟩
    · exact r.at_ c a
    · obtain ⟨i, v, a, b, f⟩ := r.at_ d hd
      rw [e4] at b f
      rw [e3, ← e1] at a
      exact ⟨i, v, a, b, f⟩
  · show s.ks = keysC (setC _ _ _); rw [setC_keys]; exact r.ks
  · show dropD key s.l = duesC (setC _ _ _); rw [duesC_unset r.ok.nd (by omega), r.l]
  · show s.byt = bytesC (setC _ _ _); rw [bytesC_setC]; exact r.byt
  · show (setC _ _ _).length ≤ s.n; unfold setC; rw [List.length_map]; exact r.cln
end
set_option maxHeartbeats 4000000 in
set_option maxRecDepth 100000 in
theorem sdrop_any {w : World} {base sb : Nat} {X : Nat → Prop} {S : PS} {N : Nat} (h : SSt w base sb X S N) (key : ByteArray) (now : Int) (hN : N ≤ 10000) (hk : key.size ≤ 100000) (hl : S.events.length ≤ 900000) :
    Calls Tryz.prog 30 #[.pointer (some ⟨sb, 0, none⟩), .string key, .int .i64 now] w fun e w' => e = .returned (.bool (wasP (dueP S key now) key)) ∧ SSt w' base sb X (dropP S key now) N ∧ Upd (Fr base X) w w' := by
  obtain ⟨s, Z, m, hz, r, hn⟩ := h
  have D := Lib.hid (due_any m r key now (by omega) hk (by omega))
  have DL := Lib.hid (due_len S key now)
  have HN := Lib.hid hn
  have HNN := Lib.hid hN
  have HL := Lib.hid hl
  have HK := Lib.hid hk
  have HZ := Lib.hid hz
  clear m r hn hN hl hk hz
  unfold dropP
  go_enter Tryz.func30, Tryz.ntmps30
  go_wp2_with fail
  refine (D.out).mono ?_
  rintro e w1 ⟨rfl, G1⟩
  obtain ⟨s1, m1, r1, n1, u1⟩ := G1
  have G := Lib.hid (gone_any m1 r1 key 2 (by have := HN.out; have := HNN.out; omega) HK.out (by have := DL.out; have := HL.out; omega))
  have U1 := Lib.hid u1
  have N1 := Lib.hid n1
  clear m1 r1 n1 u1 D
  go_wp2_with fail
  refine (G.out).mono ?_
  rintro e w2 ⟨rfl, G2⟩
  have GG := Lib.hid G2
  clear G2 G
  go_wp2
  go_ret
  obtain ⟨s2, m2, r2, n2, u2⟩ := GG.out
  have n3 : s2.n ≤ s.n := Nat.le_trans n2 N1.out
  have S3 : SGo w base sb X Z _ _ s.n := ⟨s2, m2, r2, n3, Fr.trans U1.out u2⟩
  exact ⟨rfl, S3.st HZ.out HN.out⟩
set_option maxHeartbeats 4000000 in
set_option maxRecDepth 100000 in
theorem sexpire_any {w : World} {base sb : Nat} {X : Nat → Prop} {S : PS} {N : Nat} (h : SSt w base sb X S N) (key : ByteArray) (t now : Int) (hN : N ≤ 10000) (hk : key.size ≤ 100000) (hl : S.events.length ≤ 900000) (hnow : 0 ≤ now) :
    Calls Tryz.prog 32 #[.pointer (some ⟨sb, 0, none⟩), .string key, .int .i64 t, .int .i64 now] w fun e w' => e = .returned (.bool (wasP (dueP S key now) key)) ∧ SSt w' base sb X (expireP S key t now) N ∧ Upd (Fr base X) w w' := by
  obtain ⟨s, Z, m, hz, r, hn⟩ := h
  have D := Lib.hid (slot_any m r key now (by omega) hk (by omega))
  have DL := Lib.hid (due_len S key now)
  have HN := Lib.hid hn
  have HNN := Lib.hid hN
  have HL := Lib.hid hl
  have HK := Lib.hid hk
  have HZ := Lib.hid hz
  clear m r hn hN hl hk hz
  unfold expireP
  generalize dueP S key now = S1 at *
  cases hw : wasP S1 key with
  | false =>
    rw [hw] at D
    rw [if_neg (by simp)]
    clear hw
    go_enter Tryz.func32, Tryz.ntmps32
    go_wp2_with fail
    refine (D.out).mono ?_
    rintro e w1 ⟨s1, i, rfl, m1, r1, n1, u1, hi⟩
    have G : Hid (SGo w base sb X Z w1 S1 s.n) := ⟨s1, m1, r1, n1, u1⟩
    clear m1 r1 n1 u1 D
    go_wp2
    go_ret
    exact ⟨rfl, G.out.st HZ.out HN.out⟩
  | true =>
    rw [hw] at D
    rw [if_pos rfl]
    have hkk : key ∈ keysC S1.cells := of_decide_eq_true hw
    by_cases ht : t ≤ now
    · have td : decide (t ≤ now) = true := decide_eq_true ht
      rw [if_pos ht]
      clear hw ht
      go_enter Tryz.func32, Tryz.ntmps32
      go_wp2_with fail
      refine (D.out).mono ?_
      rintro e w1 ⟨s1, i, rfl, m1, r1, n1, u1, hi⟩
      have G := Lib.hid (gone_any m1 r1 key 2 (by have := HN.out; have := HNN.out; omega) HK.out (by have := DL.out; have := HL.out; omega))
      have hwas : wasP S1 key = true := decide_eq_true hkk
      rw [hwas] at G
      have U1 := Lib.hid u1
      have N1 := Lib.hid n1
      clear m1 r1 n1 u1 D hi hwas hkk
      go_wp2_with fail
      refine (G.out).mono ?_
      rintro e w2 ⟨rfl, G2⟩
      have GG := Lib.hid G2
      clear G2 G
      go_wp2
      go_ret
      obtain ⟨s2, m2, r2, n2, u2⟩ := GG.out
      have n3 : s2.n ≤ s.n := Nat.le_trans n2 N1.out
      have S3 : SGo w base sb X Z _ _ s.n := ⟨s2, m2, r2, n3, Fr.trans U1.out u2⟩
      exact ⟨rfl, S3.st HZ.out HN.out⟩
    · have td : decide (t ≤ now) = false := decide_eq_false ht
      rw [if_neg ht]
      obtain ⟨t2, ht2⟩ : ∃ t2, min t 4611686018427387904 = t2 := ⟨_, rfl⟩
      have h0 : 0 ≤ t2 := by omega
      have h1 : t2 ≤ 4611686018427387904 := by omega
      have HT := Lib.hid ht2
      have H0 := Lib.hid (And.intro h0 h1)
      have HKK := Lib.hid hkk
      rw [ht2]
      clear hw ht ht2 h0 h1 hkk
      go_enter Tryz.func32, Tryz.ntmps32
      go_wp2_with fail
      refine (D.out).mono ?_
      rintro e w1 ⟨s1, i, rfl, m1, r1, n1, u1, hi⟩
      have hsb := m1.blk.lt
      have x4 : w1.cell? ⟨sb, 4, none⟩ = some (.pointer (some ⟨s1.xb, 0, none⟩)) := m1.blk.cellAt (i := 4) rfl
      have XP := Lib.hid (m1.xput key t2 (by have := r1.l_len; have := HN.out; have := HNN.out; omega) H0.out.1 H0.out.2)
      rw [← HT.out] at XP
      have R1 := Lib.hid r1
      have U1 := Lib.hid u1
      have N1 := Lib.hid n1
      clear m1 r1 n1 u1 D hi
      go_wp2_with fail
      refine (XP.out).mono ?_
      rintro e w2 ⟨rfl, P2⟩
      rw [HT.out] at P2
      have G : Hid (SGo w base sb X Z w2 { S1 with cells := setC S1.cells key t2 } s.n) := ⟨_, P2.1, (R1.out.keepF P2.2).setW HKK.out H0.out.1 H0.out.2, N1.out, Fr.trans U1.out P2.2⟩
      clear P2 XP hsb x4
      go_wp2_with fail
      refine ((G.out.tell (1, key) (by have := DL.out; have := HL.out; show S1.events.length ≤ _; omega)).out).mono ?_
      rintro e w3 ⟨rfl, G3⟩
      have GG := Lib.hid G3
      clear G3
      go_wp2
      go_ret
      exact ⟨rfl, GG.out.st HZ.out HN.out⟩
set_option maxHeartbeats 4000000 in
set_option maxRecDepth 100000 in
theorem spersist_any {w : World} {base sb : Nat} {X : Nat → Prop} {S : PS} {N : Nat} (h : SSt w base sb X S N) (key : ByteArray) (now : Int) (hN : N ≤ 10000) (hk : key.size ≤ 100000) (hl : S.events.length ≤ 900000) :
    Calls Tryz.prog 34 #[.pointer (some ⟨sb, 0, none⟩), .string key, .int .i64 now] w fun e w' => e = .returned (.bool (endsP (dueP S key now) key)) ∧ SSt w' base sb X (persistP S key now) N ∧ Upd (Fr base X) w w' := by
  obtain ⟨s, Z, m, hz, r, hn⟩ := h
  have D := Lib.hid (due_any m r key now (by omega) hk (by omega))
  have DL := Lib.hid (due_len S key now)
  have HN := Lib.hid hn
  have HNN := Lib.hid hN
  have HL := Lib.hid hl
  have HZ := Lib.hid hz
  clear m r hn hN hl hk hz
  unfold persistP
  generalize dueP S key now = S1 at *
  cases hw : endsP S1 key with
  | false =>
    rw [if_neg (by simp)]
    have HW := Lib.hid hw
    clear hw
    go_enter Tryz.func34, Tryz.ntmps34
    go_wp2_with fail
    refine (D.out).mono ?_
    rintro e w1 ⟨rfl, s1, m1, r1, n1, u1⟩
    have hsb := m1.blk.lt
    have x4 : w1.cell? ⟨sb, 4, none⟩ = some (.pointer (some ⟨s1.xb, 0, none⟩)) := m1.blk.cellAt (i := 4) rfl
    have XP := Lib.hid (m1.xdrop key (by have := r1.l_len; have := HN.out; have := HNN.out; omega))
    have he : decide (key ∈ s1.l.map (·.2)) = endsP S1 key := by rw [r1.l, duesC_has r1.ok.nd]; rfl
    have hno : endsP S1 key = false → dropD key s1.l = s1.l := fun h => dropD_none (of_decide_eq_false (he.trans h))
    rw [he] at XP
    have R1 := Lib.hid r1
    have U1 := Lib.hid u1
    have N1 := Lib.hid n1
    have HNO := Lib.hid hno
    clear m1 r1 n1 u1 D he hno
    rw [HW.out] at XP
    have DN := Lib.hid (HNO.out HW.out)
    clear HNO
    go_wp2_with fail
    refine (XP.out).mono ?_
    rintro e w2 ⟨rfl, P2⟩
    rw [DN.out] at P2
    have G : Hid (SGo w base sb X Z w2 S1 s.n) := ⟨_, P2.1, R1.out.keepF P2.2, N1.out, Fr.trans U1.out P2.2⟩
    clear P2 XP hsb x4
    go_wp2
    go_ret
    exact ⟨rfl, G.out.st HZ.out HN.out⟩
  | true =>
    rw [if_pos rfl]
    have HW := Lib.hid hw
    clear hw
    go_enter Tryz.func34, Tryz.ntmps34
    go_wp2_with fail
    refine (D.out).mono ?_
    rintro e w1 ⟨rfl, s1, m1, r1, n1, u1⟩
    have hsb := m1.blk.lt
    have x4 : w1.cell? ⟨sb, 4, none⟩ = some (.pointer (some ⟨s1.xb, 0, none⟩)) := m1.blk.cellAt (i := 4) rfl
    have XP := Lib.hid (m1.xdrop key (by have := r1.l_len; have := HN.out; have := HNN.out; omega))
    have he : decide (key ∈ s1.l.map (·.2)) = endsP S1 key := by rw [r1.l, duesC_has r1.ok.nd]; rfl
    have hno : endsP S1 key = false → dropD key s1.l = s1.l := fun h => dropD_none (of_decide_eq_false (he.trans h))
    rw [he] at XP
    have R1 := Lib.hid r1
    have U1 := Lib.hid u1
    have N1 := Lib.hid n1
    have HNO := Lib.hid hno
    clear m1 r1 n1 u1 D he hno
    rw [HW.out] at XP
    clear HNO
    go_wp2_with fail
    refine (XP.out).mono ?_
    rintro e w2 ⟨rfl, P2⟩
    have G : Hid (SGo w base sb X Z w2 { S1 with cells := setC S1.cells key (-1) } s.n) := ⟨_, P2.1, (R1.out.keepF P2.2).unset, N1.out, Fr.trans U1.out P2.2⟩
    clear P2 XP hsb x4
    go_wp2_with fail
    refine ((G.out.tell (1, key) (by have := DL.out; have := HL.out; show S1.events.length ≤ _; omega)).out).mono ?_
    rintro e w3 ⟨rfl, G3⟩
    have GG := Lib.hid G3
    clear G3
    go_wp2
    go_ret
    exact ⟨rfl, GG.out.st HZ.out HN.out⟩
set_option maxHeartbeats 4000000 in
set_option maxRecDepth 100000 in
theorem sttl_any {w : World} {base sb : Nat} {X : Nat → Prop} {S : PS} {N : Nat} (h : SSt w base sb X S N) (key : ByteArray) (now : Int) (hN : N ≤ 10000) (hk : key.size ≤ 100000) (hl : S.events.length ≤ 900000) (hnow : 0 ≤ now) (hnow2 : now ≤ 9223372036854775807) :
    Calls Tryz.prog 36 #[.pointer (some ⟨sb, 0, none⟩), .string key, .int .i64 now] w fun e w' => e = .returned (.int .i64 (ttlA (dueP S key now) key now)) ∧ SSt w' base sb X (dueP S key now) N ∧ Upd (Fr base X) w w' := by
  obtain ⟨s, Z, m, hz, r, hn⟩ := h
  have D := Lib.hid (slot_any m r key now (by omega) hk (by omega))
  have HN := Lib.hid hn
  have HZ := Lib.hid hz
  clear m r hn hN hl hk hz
  generalize dueP S key now = S1 at *
  unfold ttlA
  have hwl : wasP S1 key = (lookC S1.cells key).isSome := lookC_isSome.symm
  cases hlk : lookC S1.cells key with
  | none =>
    rw [hwl, hlk, Option.isSome_none] at D
    clear hwl hlk
    go_enter Tryz.func36, Tryz.ntmps36
    go_wp2_with fail
    refine (D.out).mono ?_
    rintro e w1 ⟨s1, i, rfl, m1, r1, n1, u1, hi⟩
    have G : Hid (SGo w base sb X Z w1 S1 s.n) := ⟨s1, m1, r1, n1, u1⟩
    clear m1 r1 n1 u1 D
    go_wp2
    go_ret
    exact ⟨rfl, G.out.st HZ.out HN.out⟩
  | some c =>
    rw [hwl, hlk, Option.isSome_some] at D
    have HLK := Lib.hid hlk
    clear hwl hlk
    simp only
    by_cases h0 : 0 ≤ c.when
    · rw [if_pos h0]
      go_enter Tryz.func36, Tryz.ntmps36
      go_wp2_with fail
      refine (D.out).mono ?_
      rintro e w1 ⟨s1, i, rfl, m1, r1, n1, u1, hi⟩
      have hsb := m1.blk.lt
      have x4 : w1.cell? ⟨sb, 4, none⟩ = some (.pointer (some ⟨s1.xb, 0, none⟩)) := m1.blk.cellAt (i := 4) rfl
      have XG := Lib.hid (m1.xget key)
      rw [r1.getV key, HLK.out] at XG
      simp only at XG
      have hcw := r1.ok.whens c (lookC_some HLK.out).1
      have G : Hid (SGo w base sb X Z w1 S1 s.n) := ⟨s1, m1, r1, n1, u1⟩
      clear m1 r1 n1 u1 D hi
      rw [if_pos h0] at XG
      simp only at XG
      go_wp2_with fail
      refine (XG.out).mono ?_
      rintro e w2 ⟨rfl, rfl⟩
      clear XG
      go_wp2
      go_ret
      exact ⟨ret_int (by first | rfl | omega | exact i64w (by omega) (by omega)), G.out.st HZ.out HN.out⟩
    · rw [if_neg h0]
      go_enter Tryz.func36, Tryz.ntmps36
      go_wp2_with fail
      refine (D.out).mono ?_
      rintro e w1 ⟨s1, i, rfl, m1, r1, n1, u1, hi⟩
      have hsb := m1.blk.lt
      have x4 : w1.cell? ⟨sb, 4, none⟩ = some (.pointer (some ⟨s1.xb, 0, none⟩)) := m1.blk.cellAt (i := 4) rfl
      have XG := Lib.hid (m1.xget key)
      rw [r1.getV key, HLK.out] at XG
      simp only at XG
      have hcw := r1.ok.whens c (lookC_some HLK.out).1
      have G : Hid (SGo w base sb X Z w1 S1 s.n) := ⟨s1, m1, r1, n1, u1⟩
      clear m1 r1 n1 u1 D hi
      rw [if_neg (by omega)] at XG
      simp only at XG
      go_wp2_with fail
      refine (XG.out).mono ?_
      rintro e w2 ⟨rfl, rfl⟩
      clear XG
      go_wp2
      go_ret
      exact ⟨rfl, G.out.st HZ.out HN.out⟩
end Go.Proofs.YtgdenmddbgcacaaGreatDoor
