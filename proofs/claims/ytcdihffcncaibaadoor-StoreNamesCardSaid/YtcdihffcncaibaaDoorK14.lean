/- Walk: a place for a key. -/
import Derived.Test.YtcdihffcncaibaaDoorK13
import Derived.Deep.DeepCutAuto
import Derived.RegionTactic
set_option linter.unusedVariables false
set_option linter.unusedSimpArgs false
namespace Go.Proofs.YtcdihffcncaibaaDoor
open Go.RowKit

/-- What a store holds when a place is laid for a key, whose old item counts no more. -/
structure Placed (w : World) (Z : Nat → Prop) (s : SV) (S : PS) (key : ByteArray) (at' : Nat) : Prop where
  ok : POk S
  km : ∀ k, k ≠ key → (aget s.m k).isSome = decide (k ∈ keysC S.cells)
  nd : (akeys s.m).Nodup
  at_ : ∀ c ∈ delC S.cells key, ∃ (i : Nat) (v : Value), i ≠ at' ∧ aget s.m c.key = some (i : Int) ∧ s.sl[i]? = some (c.item.kind, c.item.text, v) ∧ FldAt w Z v c.item.flds
  inj : ∀ k k' i, aget s.m k = some i → aget s.m k' = some i → k = k'
  lt : at' < s.sl.length
  other : ∀ k, k ≠ key → aget s.m k ≠ some (at' : Int)
  mine : ∀ i, aget s.m key = some i → i = (at' : Int)
  frOk : ∀ i ∈ s.fr, ∃ j : Nat, i = (j : Int) ∧ j < s.sl.length ∧ j ≠ at' ∧ ∀ k, aget s.m k ≠ some i
  frnd : s.fr.Nodup
  ks : s.ks = keysC S.cells
  l : s.l = duesC S.cells
  byt : s.byt = bytesC (delC S.cells key)
  bud : s.bud = S.budget
  ev : s.ev = S.events
  sln : s.sl.length ≤ s.n + 1
  cln : (delC S.cells key).length ≤ s.n
section
variable {w w' : World} {base sb : Nat} {s : SV} {X Z : Nat → Prop} {S : PS} {key : ByteArray} {at' : Nat}
theorem Placed.keep {G : Nat → Prop} (h : Placed w Z s S key at') (u : Upd G w w') (hd : ∀ b, Z b → ¬ G b) : Placed w' Z s S key at' :=
  { h with at_ := fun c hc => let ⟨i, v, a, b, d, f⟩ := h.at_ c hc; ⟨i, v, a, b, d, f.keep u hd⟩ }
theorem OwnN.pop {α : Type} {f : α → List Value} {k : Nat} {w : World} {base : Nat} {e : TypeId} {v : Value} {l : List α} {x : α} (h : OwnN f k e w base v (l ++ [x])) (hf : ∀ a, (f a).length = k) : ∃ b c, v = .slice (some ⟨b, 0, Option.none⟩) (l.length + 1) c ∧ l.length + 1 ≤ c ∧ c ≤ maxLen ∧ b < w.heap.size ∧ (∀ j, j < k → w.cell? ⟨b, l.length * k + j, Option.none⟩ = (f x)[j]?) ∧ OwnN f k e w base (.slice (some ⟨b, 0, Option.none⟩) l.length c) l := by
  rcases h.blk with ⟨_, e1⟩ | ⟨b, cap, cs, e1, hb, hB, h1, h2, h3⟩
  · simp at e1
  · have hl : (l ++ [x]).length = l.length + 1 := by simp
    rw [hl] at e1 h1 h3
    refine ⟨b, cap, e1, h3, h2, hB.lt, fun j hj => ?_, ?_⟩
    · have h4 := h
      rw [e1] at h4
      exact h4.cell hf hj (by simp)
    · have hB2 := hB
      have ef : flat f (l ++ [x]) = flat f l ++ f x := by simp [flat]
      rw [ef, List.append_assoc] at hB2
      refine OwnN.ofBlk hb hf hB2 ?_ h2 (by omega)
      rw [List.length_append, hf]
      rw [Nat.add_mul] at h1; omega
theorem SMem.slots_app (h : SMem w base sb X s) (hl : s.sl.length ≤ 1000000) :
    ∃ p c w1, (Builtin.append_ #[40, 40] 40 #[s.slv, .slice (some ⟨w.heap.size, 0, none⟩) 1 1]).run Tryd.prog (w.alloc (.cells #[.int .i64 0, .string { data := #[] }, .slice none 0 0] 29)) = .ok (.slice p (s.sl.length + 1) c) w1 ∧ Blk w1 sb (storeC s) 45 ∧
      PartTo w base sb X (w1.setCell ⟨sb, 1, none⟩ (.slice p (s.sl.length + 1) c)) { s with slv := .slice p (s.sl.length + 1) c, sl := s.sl ++ [(0, { data := #[] }, .slice none 0 0)] } := by
  obtain ⟨i0, hi0, hz0, hz1, hz2⟩ := info_parts it_info
  have u0 : Upd (fun _ => False) w (w.alloc (.cells #[.int .i64 0, .string { data := #[] }, .slice none 0 0] 29)) := (Upd.refl _ _).alloc _
  have m0 := h.keep0 u0
  obtain ⟨v', w1, a, b, c, d⟩ := OwnN.append (P := Tryd.prog) 40 40 i0 (.agg #[.int .i64 0, .string ByteArray.empty, .slice none 0 0]) 48 Tryd.underlying40 hi0 hz0 hz1 hz2 rfl (by decide) (fun _ => rfl) (fun x hx => fun u hu => by
    obtain rfl := List.mem_singleton.1 hx
    simp [slc] at hu; rcases hu with rfl | rfl | rfl <;> rfl) m0.slots (RowOf.lit (f := slc) (k := 3) w (0, { data := #[] }, .slice none 0 0) [.int .i64 0, .string { data := #[] }, .slice none 0 0] 29 rfl rfl) (by unfold maxLen; simp; omega) (by simp; omega) m0.bl
  obtain ⟨p, k, e, _⟩ := b.slice
  rw [List.length_append, List.length_singleton] at e
  subst e
  have hB1 : Blk w1 sb (storeC s) 45 := c.blk m0.blk fun g => (m0.nsb).1 g rfl
  have hs := hB1.set 1 (.slice p (s.sl.length + 1) k)
  have P := m0.slotsTo b c d ((Upd.refl (fun b => b = sb) w1).set (b := sb) (o := 1) (v := .slice p (s.sl.length + 1) k) (fun _ => rfl)) hs
  exact ⟨p, k, w1, a, hB1, P.1, Fr.trans (Fr.of0 u0) P.2⟩
/-- Where the key stands already. -/
theorem SRel.placed1 (r : SRel w Z s S) {c : Ce} (hc : c ∈ S.cells) {i : Nat} (hi : aget s.m c.key = some (i : Int)) (hil : i < s.sl.length) {co : Int} (hco : costI c.key c.item = co) : Placed w Z { s with byt := s.byt - co } S c.key i :=
  ⟨r.ok, fun k _ => r.km k, r.nd, fun d hd => by
    obtain ⟨h1, h2⟩ := delC_mem.1 hd
    obtain ⟨j, v, a, b, f⟩ := r.at_ d h1
    refine ⟨j, v, ?_, a, b, f⟩
    rintro rfl
    exact h2 (r.inj _ _ _ a hi), r.inj, hil, fun k hk h => hk (r.inj _ _ _ h hi), fun j hj => by rw [hi] at hj; exact (Option.some.inj hj).symm, fun j hj => by
    obtain ⟨n, e, h1, h2⟩ := r.frOk j hj
    refine ⟨n, e, h1, ?_, h2⟩
    rintro rfl
    exact h2 _ (by rw [e]; exact hi), r.frnd, r.ks, r.l, by show s.byt - co = _; rw [bytesC_del r.ok.nd hc, hco, r.byt], r.bud, r.ev, Nat.le_succ_of_le r.sln, Nat.le_trans (delC_len _ _) r.cln⟩
/-- A place that is free. -/
theorem SRel.placed2 (r : SRel w Z s S) (hk : key ∉ keysC S.cells) {fr : List Int} {j : Nat} (hfr : s.fr = fr ++ [(j : Int)]) {v : Value} : Placed w Z { s with frv := v, fr := fr } S key j := by
  have hd := delC_none hk
  have hn := r.frnd
  rw [hfr, List.nodup_append] at hn
  obtain ⟨n, e, h1, h2⟩ := r.frOk (j : Int) (by rw [hfr]; simp)
  have ej : n = j := by omega
  subst ej
  refine ⟨r.ok, fun k _ => r.km k, r.nd, fun c hc => ?_, r.inj, h1, fun k _ => h2 k, fun i hi => absurd hi (by rw [r.get_none hk]; simp), fun i hi => ?_, hn.1, r.ks, r.l, by rw [hd]; exact r.byt, r.bud, r.ev, Nat.le_succ_of_le r.sln, by rw [hd]; exact r.cln⟩
  · rw [hd] at hc
    obtain ⟨i, v, a, b, f⟩ := r.at_ c hc
    refine ⟨i, v, ?_, a, b, f⟩
    rintro rfl
    exact h2 _ a
  · obtain ⟨p, ep, g1, g2⟩ := r.frOk i (by rw [hfr]; exact List.mem_append_left _ hi)
    refine ⟨p, ep, g1, ?_, g2⟩
    intro en
    exact hn.2.2 i hi (n : Int) (by simp) (by rw [ep, en])
/-- One place more. -/
theorem SRel.placed3 (r : SRel w Z s S) (hk : key ∉ keysC S.cells) (hfr : s.fr = []) {v : Value} {z : SlV} : Placed w Z { s with slv := v, sl := s.sl ++ [z] } S key s.sl.length := by
  have hd := delC_none hk
  refine ⟨r.ok, fun k _ => r.km k, r.nd, fun c hc => ?_, r.inj, by simp, fun k hk2 h => ?_, fun i hi => absurd hi (by rw [r.get_none hk]; simp), fun i hi => ?_, r.frnd, r.ks, r.l, by rw [hd]; exact r.byt, r.bud, r.ev, by have := r.sln; simp only [List.length_append, List.length_singleton]; omega, by rw [hd]; exact r.cln⟩
  · rw [hd] at hc
    obtain ⟨i, v, a, b, f⟩ := r.at_ c hc
    have hil := (List.getElem?_eq_some_iff.1 b).1
    exact ⟨i, v, by omega, a, by rw [List.getElem?_append_left hil]; exact b, f⟩
  · have hk3 : k ∈ keysC S.cells := by
      have := r.km k
      rw [h] at this
      simpa using this.symm
    obtain ⟨c, _, hc, rfl, i, v, a, b, f⟩ := r.get_some hk3
    have hil := (List.getElem?_eq_some_iff.1 b).1
    rw [a] at h
    have := Option.some.inj h
    omega
  · have hi2 : i ∈ s.fr := hi
    rw [hfr] at hi2
    simp at hi2
end
set_option maxHeartbeats 8000000 in
set_option maxRecDepth 100000 in
theorem place_any {w : World} {base sb : Nat} {s : SV} {X Z : Nat → Prop} {S : PS} (m : SMem w base sb (Or2 X Z) s) (r : SRel w Z s S) (key : ByteArray) (hn : s.n ≤ 10000) (hk : key.size ≤ 100000) :
    Calls Tryd.prog 19 #[.pointer (some ⟨sb, 0, none⟩), .string key] w fun e w' => ∃ (i : Nat) (s' : SV), e = .returned (.int .i64 (i : Int)) ∧ SMem w' base sb (Or2 X Z) s' ∧ Placed w' Z s' S key i ∧ s'.n = s.n ∧ Upd (Fr base (Or2 X Z)) w w' := by
  have hsb := m.blk.lt
  have a0 := m.blk.cellAt (i := 0) rfl
  have D := Lib.hid (m.tget key hn hk)
  by_cases hw : key ∈ keysC S.cells
  · obtain ⟨c, hlc, hc, rfl, i, v, hg, hsl, hf⟩ := r.get_some hw
    rw [hg] at D
    have R := Lib.hid r
    have HG := Lib.hid hg
    have HSL := Lib.hid hsl
    have HF := Lib.hid hf
    have HC := Lib.hid hc
    have HSZ := Lib.hid (small_of_right (r.ok.small c hc).1)
    clear r hw hg hsl hf hlc hc m
    go_enter Tryd.func19, Tryd.ntmps19
    go_wp2_with fail
    refine (D.out).mono ?_
    rintro e w1 ⟨rfl, P1⟩
    simp only [Option.getD_some, Option.isSome_some]
    have m1 := P1.1
    have U1 := Lib.hid P1.2
    obtain ⟨b, cp, e, hb, hne, c0, c1, c2, fr, hm⟩ := m1.slot HSL.out
    have f1 := HF.out.keep U1.out (fun b hb g => g.2 (Or.inr hb))
    have CO := Lib.hid (fun W (u : Upd (fun _ => False) w1 W) => cost_any c.key c.item v W (m1.std.keep u) (f1.1.keep u (fun _ _ _ h => h)) HSZ.out hk)
    have x1 : w1.cell? ⟨sb, 1, none⟩ = some (.slice (some ⟨b, 0, none⟩) s.sl.length cp) := by rw [m1.blk.cellAt (i := 1) rfl]; exact congrArg some e
    have x5 : w1.cell? ⟨sb, 5, none⟩ = some (.int .i64 s.byt) := m1.blk.cellAt (i := 5) rfl
    have l1 := m1.blk.lt
    have fx := m1.blk.free 5
    have HB := Lib.hid m1.blk
    have M1 := Lib.hid m1
    have hil := (List.getElem?_eq_some_iff.1 HSL.out).1
    have q0 := costI_pos c.key c.item
    have q1 := costI_le HSZ.out hk
    have q2 := R.out.byt_range hn
    simp only at c0 c1 c2
    clear P1 m1 D e
    generalize hco : costI c.key c.item = co at *
    have HCO := Lib.hid hco
    have HWR : Hid (IntKind.i64.wrap (s.byt - co) = s.byt - co) := i64w (by omega) (by omega)
    clear hco
    go_upto_region 3 with (fail)
    go_cut [5] (fun v5 wx => v5 = .int .i64 (i : Int) ∧ Hid (PartTo w1 base sb (Or2 X Z) wx { s with byt := s.byt - co }))
    case first =>
      go_region_with (go_at_call 18; refine (CO.out _ (by first | exact Upd.refl _ _ | exact (Upd.refl _ _).drew)).mono ?_; rintro e2 w2 ⟨rfl, u2⟩; have B2 := u2.blk HB.out (fun h => h); have y5 : w2.cell? ⟨sb, 5, none⟩ = some (.int .i64 s.byt) := B2.cellAt (i := 5) rfl; have y1 : w2.cell? ⟨sb, 1, none⟩ = some (.slice (some ⟨b, 0, none⟩) s.sl.length cp) := (u2.cell (p := ⟨sb, 1, none⟩) l1 (fun h => h)).trans x1; have l2 := B2.lt; have g5 := B2.free 5; have UU : Hid (Upd (fun _ => False) w1 w2) := (by first | exact u2 | exact ((Upd.refl _ _).drew).trans u2 (fun _ _ h => h)))
      all_goals (go_wp2_with fail; go_meet; rw [HWR.out]; exact ⟨rfl, (PartTo.of0 M1.out UU.out).trans ((M1.out.keep0 UU.out).bytSet _)⟩)
    case rest =>
    obtain ⟨rfl, P2⟩ := hcut
    clear x1 x5 l1 fx c0 c1 c2 fr hb
    go_wp2
    go_ret
    refine ⟨i, rfl, _, P2.out.1, ?_, rfl, Fr.trans U1.out P2.out.2⟩
    exact ((R.out.keepF U1.out).keepF P2.out.2).placed1 HC.out HG.out hil HCO.out
  · have hg := r.get_none hw
    rw [hg] at D
    have R := Lib.hid r
    have HW := Lib.hid hw
    clear r hw hg m
    rcases List.eq_nil_or_concat s.fr with hfr | ⟨fr, x, hfr⟩
    · have HFR := Lib.hid hfr
      clear hfr
      go_enter Tryd.func19, Tryd.ntmps19
      go_wp2_with fail
      refine (D.out).mono ?_
      rintro e w1 ⟨rfl, P1⟩
      simp only [Option.getD_none, Option.isSome_none]
      have m1 := P1.1
      have U1 := Lib.hid P1.2
      obtain ⟨pf, cf, ef, _⟩ := (IntsAt.ownS.1 m1.free).slice
      rw [HFR.out] at ef
      have x2 : w1.cell? ⟨sb, 2, none⟩ = some (.slice pf 0 cf) := by rw [m1.blk.cellAt (i := 2) rfl]; exact congrArg some ef
      obtain ⟨p0, c0, e0, _⟩ := m1.slots.slice
      have x1 : w1.cell? ⟨sb, 1, none⟩ = some (.slice p0 s.sl.length c0) := by rw [m1.blk.cellAt (i := 1) rfl]; exact congrArg some e0
      obtain ⟨p, cq, w3, hr1, hB1, P5⟩ := m1.slots_app (by have := R.out.sln; omega)
      have k1 : w3.cell? ⟨sb, 1, none⟩ = some (.slice p0 s.sl.length c0) := by rw [hB1.cellAt (i := 1) rfl]; exact congrArg some e0
      have l1 := m1.blk.lt
      have l3 := hB1.lt
      have f1 := hB1.free 1
      have hsl : s.sl.length ≤ 10000 := by have := R.out.sln; omega
      rw [e0] at hr1
      have PP := Lib.hid P5
      have N0 := Lib.hid (R.out.placed3 HW.out HFR.out (v := .slice p (s.sl.length + 1) cq) (z := (0, { data := #[] }, .slice none 0 0)))
      have R1 := Lib.hid (R.out.keepF U1.out)
      clear P1 P5 m1 hB1 D e0 ef
      generalize hq : s.sl.length = q at *
      go_wp2_with (at_builtin; refine wpList_builtinN rfl _ _ 40 rfl _ _ rfl rfl hr1 ?_)
      go_wp2
      go_ret
      refine ⟨q, _, ret_int (by omega), PP.out.1, ?_, rfl, Fr.trans U1.out PP.out.2⟩
      exact ((N0.out.keep U1.out (fun b hb g => g.2 (Or.inr hb))).keep PP.out.2 (fun b hb g => g.2 (Or.inr hb)))
    · rw [List.concat_eq_append] at hfr
      obtain ⟨j, ej, hj, _⟩ := R.out.frOk x (by rw [hfr]; simp)
      subst ej
      have HFR := Lib.hid hfr
      have hfl : fr.length ≤ 10000 := by have h1 := R.out.fr_len; have h2 := R.out.sln; rw [hfr] at h1; simp at h1; omega
      clear hfr hj
      go_enter Tryd.func19, Tryd.ntmps19
      go_wp2_with fail
      refine (D.out).mono ?_
      rintro e w1 ⟨rfl, P1⟩
      simp only [Option.getD_none, Option.isSome_none]
      have m1 := P1.1
      have U1 := Lib.hid P1.2
      have ow := IntsAt.ownS.1 m1.free
      rw [HFR.out] at ow
      obtain ⟨b, cf, ef, hc1, hc2, hb, hcell, ow2⟩ := ow.pop (fun _ => rfl)
      have x2 : w1.cell? ⟨sb, 2, none⟩ = some (.slice (some ⟨b, 0, none⟩) (fr.length + 1) cf) := by rw [m1.blk.cellAt (i := 2) rfl]; exact congrArg some ef
      have xc : w1.cell? ⟨b, fr.length, none⟩ = some (.int .i64 (j : Int)) := by have := hcell 0 (by omega); simpa [intcS] using this
      have hcap : (fr.length : Int) ≤ (cf : Int) := by omega
      have hcap2 : fr.length ≤ cf := by omega
      have l1 := m1.blk.lt
      have f2 := m1.blk.free 2
      have M1 := Lib.hid m1
      have OW := Lib.hid ow2
      have EF := Lib.hid ef
      have R1 := Lib.hid (R.out.keepF U1.out)
      clear P1 m1 D ef ow ow2 hcell hc1 hc2
      go_wp2
      go_ret
      have hs := M1.out.blk.set 2 (.slice (some ⟨b, 0, none⟩) fr.length cf)
      have P := M1.out.freeTo (IntsAt.ownS.2 OW.out) (Upd.refl _ _) (fun k hk => Or.inl (by rw [EF.out]; exact hk)) ((Upd.refl (fun b => b = sb) w1).set (b := sb) (o := 2) (v := .slice (some ⟨b, 0, none⟩) fr.length cf) (fun _ => rfl)) hs
      exact ⟨j, _, rfl, P.1, (R1.out.keepF P.2).placed2 HW.out HFR.out, rfl, Fr.trans U1.out P.2⟩
end Go.Proofs.YtcdihffcncaibaaDoor
/- Walks: a key goes, a key is due; where a key stands; evictions. -/
set_option linter.unusedVariables false
set_option linter.unusedSimpArgs false
namespace Go.Proofs.YtcdihffcncaibaaDoor
open Go.RowKit

/-- From one state of the store to the next. -/
def SGo (w : World) (base sb : Nat) (X Z : Nat → Prop) (w' : World) (S' : PS) (n : Nat) : Prop := ∃ s', SMem w' base sb (Or2 X Z) s' ∧ SRel w' Z s' S' ∧ s'.n ≤ n ∧ Upd (Fr base (Or2 X Z)) w w'
section
variable {w w1 w' : World} {base sb : Nat} {s : SV} {X Z : Nat → Prop} {S S1 : PS} {n : Nat}
theorem PS.ev_same (S : PS) : ({ S with events := S.events } : PS) = S := rfl
theorem SGo.tell (h : SGo w base sb X Z w1 S1 n) (ev : Ev) (hl : S1.events.length ≤ 1000000) : Hid (Calls Tryd.prog 24 #[.pointer (some ⟨sb, 0, none⟩), .int .i64 ev.1, .string ev.2] w1 fun e w' => e = .returned (.tuple #[]) ∧ SGo w base sb X Z w' { S1 with events := S1.events ++ [ev] } n) := by
  obtain ⟨s', m, r, hn, u⟩ := h
  have re := r.ev
  refine (tell_any m ev.1 ev.2 (by rw [re]; exact hl)).mono ?_
  rintro e w' ⟨rfl, v, p⟩
  have r2 := r.keepF p.2
  exact ⟨rfl, _, p.1, ⟨⟨r2.ok.nd, r2.ok.small, r2.ok.whens, r2.ok.bud, r2.ok.fit⟩, r2.km, r2.nd, r2.at_, r2.inj, r2.frOk, r2.frnd, r2.ks, r2.l, r2.byt, r2.bud, by show s'.ev ++ [_] = _; rw [re], r2.sln, r2.cln⟩, hn, Fr.trans u p.2⟩
end
set_option maxHeartbeats 4000000 in
set_option maxRecDepth 100000 in
theorem gone_any {w : World} {base sb : Nat} {s : SV} {X Z : Nat → Prop} {S : PS} (m : SMem w base sb (Or2 X Z) s) (r : SRel w Z s S) (key : ByteArray) (kind : Int) (hn : s.n ≤ 10000) (hk : key.size ≤ 100000) (hl : S.events.length ≤ 1000000) :
    Calls Tryd.prog 31 #[.pointer (some ⟨sb, 0, none⟩), .string key, .int .i64 kind] w fun e w' => e = .returned (.bool (wasP S key)) ∧ SGo w base sb X Z w' (goneP S key kind) s.n := by
  have T := Lib.hid (take_any m r key hn hk)
  by_cases hw : key ∈ keysC S.cells
  · have hwas : wasP S key = true := decide_eq_true hw
    have hg : goneP S key kind = { S with cells := delC S.cells key, events := S.events ++ [(kind, key)] } := if_pos hw
    rw [hwas] at T
    rw [hwas, hg]
    clear m r hwas hg hw
    go_enter Tryd.func31, Tryd.ntmps31
    go_wp2_with fail
    refine (T.out).mono ?_
    rintro e w1 ⟨rfl, s1, m1, r1, n1, u1⟩
    have G : Hid (SGo w base sb X Z w1 { S with cells := delC S.cells key } s.n) := ⟨s1, m1, r1, Nat.le_of_eq n1, u1⟩
    clear m1 r1 n1 u1 T
    go_wp2_with fail
    refine ((G.out.tell (kind, key) hl).out).mono ?_
    rintro e w2 ⟨rfl, G2⟩
    have GG := Lib.hid G2
    clear G2
    go_wp2
    go_ret
    exact ⟨rfl, GG.out⟩
  · have hwas : wasP S key = false := decide_eq_false hw
    have hg : goneP S key kind = S := if_neg hw
    have hd : ({ S with cells := delC S.cells key } : PS) = S := by rw [delC_none hw]
    rw [hwas, hd] at T
    rw [hwas, hg]
    clear m r hwas hg hd hw
    go_enter Tryd.func31, Tryd.ntmps31
    go_wp2_with fail
    refine (T.out).mono ?_
    rintro e w1 ⟨rfl, s1, m1, r1, n1, u1⟩
    have G : Hid (SGo w base sb X Z w1 S s.n) := ⟨s1, m1, r1, Nat.le_of_eq n1, u1⟩
    clear m1 r1 n1 u1 T
    go_wp2
    go_ret
    exact ⟨rfl, G.out⟩
theorem isDue_eq {w : World} {s : SV} {Z : Nat → Prop} {S : PS} (r : SRel w Z s S) (key : ByteArray) (now : Int) : isDue S.cells key now = ((getV s.l key).2 && decide ((getV s.l key).1 ≤ now)) := by
  rw [r.getV key]
  unfold isDue
  cases lookC S.cells key with
  | none => rfl
  | some c => simp only; split <;> rename_i h <;> simp [h]
set_option maxHeartbeats 4000000 in
set_option maxRecDepth 100000 in
theorem due_any {w : World} {base sb : Nat} {s : SV} {X Z : Nat → Prop} {S : PS} (m : SMem w base sb (Or2 X Z) s) (r : SRel w Z s S) (key : ByteArray) (now : Int) (hn : s.n ≤ 10000) (hk : key.size ≤ 100000) (hl : S.events.length ≤ 1000000) :
    Calls Tryd.prog 16 #[.pointer (some ⟨sb, 0, none⟩), .string key, .int .i64 now] w fun e w' => e = .returned (.tuple #[]) ∧ SGo w base sb X Z w' (dueP S key now) s.n := by
  have hsb := m.blk.lt
  have a4 := m.blk.cellAt (i := 4) rfl
  have D := Lib.hid (m.xget key)
  have E := isDue_eq r key now
  have G := Lib.hid (gone_any m r key 3 hn hk hl)
  have G0 : Hid (SGo w base sb X Z w S s.n) := ⟨s, m, r, Nat.le_refl _, Upd.refl _ _⟩
  generalize (getV s.l key).2 = there at *
  generalize (getV s.l key).1 = t at *
  unfold dueP
  clear m r
  cases there with
  | false =>
    have E2 : isDue S.cells key now = false := by rw [E]; rfl
    rw [E2, if_neg (by simp)]
    clear E E2 G
    go_enter Tryd.func16, Tryd.ntmps16
    go_wp2_with fail
    refine (D.out).mono ?_
    rintro e w1 ⟨rfl, rfl⟩
    clear D
    go_wp2
    go_end0
    exact ⟨rfl, G0.out⟩
  | true =>
    cases hd : decide (t ≤ now) with
    | false =>
      have E2 : isDue S.cells key now = false := by rw [E, hd]; rfl
      rw [E2, if_neg (by simp)]
      clear E E2 G
      go_enter Tryd.func16, Tryd.ntmps16
      go_wp2_with fail
      refine (D.out).mono ?_
      rintro e w1 ⟨rfl, rfl⟩
      clear D
      go_wp2
      go_end0
      exact ⟨rfl, G0.out⟩
    | true =>
      have E2 : isDue S.cells key now = true := by rw [E, hd]; rfl
      rw [E2, if_pos rfl]
      clear E E2 G0
      go_enter Tryd.func16, Tryd.ntmps16
      go_wp2_with fail
      refine (D.out).mono ?_
      rintro e w1 ⟨rfl, rfl⟩
      clear D
      go_wp2_with fail
      refine (G.out).mono ?_
      rintro e w2 ⟨rfl, G2⟩
      have GG := Lib.hid G2
      clear G2 G
      go_wp2
      go_end0
      exact ⟨rfl, GG.out⟩
set_option maxHeartbeats 4000000 in
set_option maxRecDepth 100000 in
theorem slot_any {w : World} {base sb : Nat} {s : SV} {X Z : Nat → Prop} {S : PS} (m : SMem w base sb (Or2 X Z) s) (r : SRel w Z s S) (key : ByteArray) (now : Int) (hn : s.n ≤ 10000) (hk : key.size ≤ 100000) (hl : S.events.length ≤ 1000000) :
    Calls Tryd.prog 26 #[.pointer (some ⟨sb, 0, none⟩), .string key, .int .i64 now] w fun e w' => ∃ s' i, e = .returned (.tuple #[.int .i64 i, .bool (wasP (dueP S key now) key)]) ∧ SMem w' base sb (Or2 X Z) s' ∧ SRel w' Z s' (dueP S key now) ∧ s'.n ≤ s.n ∧ Upd (Fr base (Or2 X Z)) w w' ∧ i = (aget s'.m key).getD 0 := by
  have G := Lib.hid (due_any m r key now hn hk hl)
  have HN := Lib.hid hn
  clear m r hn
  go_enter Tryd.func26, Tryd.ntmps26
  go_wp2_with fail
  refine (G.out).mono ?_
  rintro e w1 ⟨rfl, s1, m1, r1, n1, u1⟩
  have hsb := m1.blk.lt
  have a0 := m1.blk.cellAt (i := 0) rfl
  have D := Lib.hid (m1.tget key (Nat.le_trans n1 HN.out) hk)
  have RE := r1.km key
  have R1 := Lib.hid r1
  have N1 := Lib.hid n1
  have U1 := Lib.hid u1
  rw [RE] at D
  clear m1 r1 n1 u1 G RE
  go_wp2_with fail
  refine (D.out).mono ?_
  rintro e w2 ⟨rfl, P2⟩
  have PP := Lib.hid P2
  clear P2 D a0 hsb
  go_wp2
  go_ret2
  exact ⟨_, _, rfl, PP.out.1, R1.out.keepF PP.out.2, N1.out, Fr.trans U1.out PP.out.2, rfl⟩
end Go.Proofs.YtcdihffcncaibaaDoor
/- Walks: evictions. -/
set_option linter.unusedVariables false
set_option linter.unusedSimpArgs false
namespace Go.Proofs.YtcdihffcncaibaaDoor
open Go.RowKit

def bytOf (w : World) (sb : Nat) : Nat := match w.cell? ⟨sb, 5, none⟩ with | some v => (intOf v).toNat | none => 0
theorem bytOf_of {w : World} {base sb : Nat} {s : SV} {X : Nat → Prop} (m : SMem w base sb X s) : bytOf w sb = s.byt.toNat := by
  unfold bytOf; rw [m.blk.cellAt (i := 5) rfl]; rfl
theorem evict_stop {S : PS} (h : bytesC S.cells ≤ S.budget) : evictP S = S := by
  obtain ⟨cells, bud, ev⟩ := S
  unfold evictP
  simp only at h ⊢
  match cells, h with
  | [], _ => rfl
  | [c], _ => rfl
  | c :: d :: r, h => unfold evictL; rw [if_neg (by omega)]
theorem evict_one {c : Ce} {bud : Int} {ev : List Ev} : evictP ⟨[c], bud, ev⟩ = ⟨[c], bud, ev⟩ := rfl
theorem evict_step {x : Ce} {a : List Ce} {c : Ce} {bud : Int} {ev : List Ev} (h : bud < bytesC (x :: (a ++ [c]))) : evictP ⟨x :: (a ++ [c]), bud, ev⟩ = evictP ⟨a ++ [c], bud, ev ++ [(4, x.key)]⟩ := by
  unfold evictP
  cases a with
  | nil =>
    simp only [List.nil_append] at h ⊢
    have : evictL bud [x, c] ev = evictL bud [c] (ev ++ [(4, x.key)]) := by
      show (if bud < bytesC [x, c] then _ else _) = _
      rw [if_pos h]
    rw [this]
  | cons y r => simp only [List.cons_append] at h ⊢; rw [evictL, if_pos h]
theorem gone_head {x : Ce} {r : List Ce} {bud : Int} {ev : List Ev} (h : (keysC (x :: r)).Nodup) (kind : Int) : goneP ⟨x :: r, bud, ev⟩ x.key kind = ⟨r, bud, ev ++ [(kind, x.key)]⟩ := by
  unfold goneP
  rw [if_pos (by simp [keysC])]
  have hx := keysC_cons h
  have : delC (x :: r) x.key = r := by
    have h2 := delC_none hx.1
    unfold delC at h2 ⊢
    simp only [List.filter_cons, ne_eq, not_true_eq_false, decide_false, Bool.false_eq_true, if_false]; exact h2
  simp only [this]
theorem oldest_one (k : ByteArray) : oldest k [k] = (ByteArray.empty, false) := by unfold oldest; simp
theorem oldest_more {k x : ByteArray} {r : List ByteArray} (h : x ≠ k) : oldest k (x :: r) = (x, true) := by unfold oldest; simp [h]
/-- Where an eviction stands. -/
structure EvI (w : World) (base sb : Nat) (X Z : Nat → Prop) (S : PS) (n : Nat) (but : ByteArray) (wr : World) (S1 : PS) (s1 : SV) (a : List Ce) (c : Ce) : Prop where
  mem : SMem wr base sb (Or2 X Z) s1
  rel : SRel wr Z s1 S1
  n : s1.n ≤ n
  u : Upd (Fr base (Or2 X Z)) w wr
  cells : S1.cells = a ++ [c]
  but : c.key = but
  ev : evictP S = evictP S1
  len : S1.events.length + S1.cells.length ≤ S.events.length + S.cells.length
set_option maxHeartbeats 8000000 in
set_option maxRecDepth 100000 in
theorem evict_any {w : World} {base sb : Nat} {s : SV} {X Z : Nat → Prop} {S : PS} (m : SMem w base sb (Or2 X Z) s) (r : SRel w Z s S) (but : ByteArray) (hn : s.n ≤ 10000) {a0 : List Ce} {c0 : Ce} (hc : S.cells = a0 ++ [c0]) (hb : c0.key = but) (hl : S.events.length ≤ 900000) :
    Calls Tryd.prog 25 #[.pointer (some ⟨sb, 0, none⟩), .string but] w fun e w' => e = .returned (.tuple #[]) ∧ SGo w base sb X Z w' (evictP S) s.n := by
  have I0 : Hid (∃ S1 s1 a c, EvI w base sb X Z S s.n but w S1 s1 a c) := ⟨S, s, a0, c0, m, r, Nat.le_refl _, Upd.refl _ _, hc, hb, rfl, Nat.le_refl _⟩
  have LL : Hid (S.events.length + S.cells.length ≤ 1000000) := by show _ ≤ _; have := r.cln; omega
  have HN := Lib.hid hn
  clear m r hc hb hl hn
  go_enter Tryd.func25, Tryd.ntmps25
  go_wp2
  go_loopw [5] (fun v5 wr => (∃ x, v5 = x) ∧ Hid (∃ S1 s1 a c, EvI w base sb X Z S s.n but wr S1 s1 a c)) (fun _ wr => bytOf wr sb)
  case atStart => exact ⟨⟨_, rfl⟩, I0⟩
  case round =>
    clear I0
    obtain ⟨_, I⟩ := hrel
    obtain ⟨S1, s1, a, c, i⟩ := I.out
    have hsb := i.mem.blk.lt
    have x5 : wr.cell? ⟨sb, 5, none⟩ = some (.int .i64 s1.byt) := i.mem.blk.cellAt (i := 5) rfl
    have x6 : wr.cell? ⟨sb, 6, none⟩ = some (.int .i64 s1.bud) := i.mem.blk.cellAt (i := 6) rfl
    have x3 : wr.cell? ⟨sb, 3, none⟩ = some (.pointer (some ⟨s1.rb, 0, none⟩)) := i.mem.blk.cellAt (i := 3) rfl
    have E := Lib.hid i
    clear i I
    by_cases hgt : s1.bud < s1.byt
    · have t : decide (s1.byt > s1.bud) = true := decide_eq_true hgt
      have HG := Lib.hid hgt
      clear hgt
      have EI := E.out
      have hne : S1.cells ≠ [] := by rw [EI.cells]; simp
      have hks : s1.ks = keysC (a ++ [c]) := by rw [EI.rel.ks, EI.cells]
      have hnd := EI.rel.ok.nd
      rw [EI.cells] at hnd
      have mD := EI.mem.keep0 ((Upd.refl (fun _ => False) wr).drew)
      have rD := EI.rel.keep0 ((Upd.refl (fun _ => False) wr).drew)
      have O := Lib.hid (mD.roldest but)
      cases a with
      | nil =>
        have h1 : oldest but s1.ks = (ByteArray.empty, false) := by rw [hks, ← EI.but]; exact oldest_one _
        rw [h1] at O
        simp only at O
        clear EI hks hnd h1 hne mD rD
        go_wp2
        go_region
        go_wp2_with fail
        refine (O.out).mono ?_
        rintro e w1 ⟨rfl, k, rfl⟩
        go_wp2
        refine bodyPost_ret (v := .tuple #[]) (by simp [results, Tryd.results25, go_sem]) rfl ?_
        have i := E.out
        have e1 : evictP S = S1 := by
          rw [i.ev]
          obtain ⟨cells, bud, ev⟩ := S1
          have := i.cells
          simp only [List.nil_append] at this
          subst this
          exact evict_one
        rw [e1]
        have uu : Upd (fun _ => False) wr (wr.drewN (1 + k)) := (Upd.refl _ _).drewN (1 + k)
        exact ⟨rfl, s1, i.mem.keep0 uu, i.rel.keep0 uu, i.n, Fr.trans i.u (Fr.of0 uu)⟩
      | cons x a =>
        have hx : x.key ≠ but := by
          intro e
          have := keysC_cons hnd
          exact this.1 (by rw [e, ← EI.but]; simp [keysC])
        have h1 : oldest but s1.ks = (x.key, true) := by rw [hks]; exact oldest_more hx
        rw [h1] at O
        simp only at O
        have hl0 := LL.out
        have hl1 := EI.len
        have hxs := EI.rel.ok.small x (by rw [EI.cells]; simp)
        have GO := Lib.hid (fun (k : Nat) => gone_any (EI.mem.keep0 ((Upd.refl (fun _ => False) _).drewN k)) (EI.rel.keep0 ((Upd.refl (fun _ => False) _).drewN k)) x.key 4 (Nat.le_trans EI.n HN.out) (by omega) (by omega))
        have EV : Hid (goneP S1 x.key 4 = ⟨a ++ [c], S1.budget, S1.events ++ [(4, x.key)]⟩ ∧ evictP S1 = evictP ⟨a ++ [c], S1.budget, S1.events ++ [(4, x.key)]⟩ ∧ bytesC (a ++ [c]) < bytesC S1.cells ∧ S1.cells.length = (a ++ [c]).length + 1) := by
          have q1 := EI.rel.byt
          have q2 := EI.rel.bud
          have q3 := HG.out
          have q4 := EI.cells
          obtain ⟨cells, bud, ev⟩ := S1
          simp only at q1 q2 q4
          subst q4
          refine ⟨gone_head hnd 4, evict_step (by rw [← q2]; rw [q1] at q3; exact q3), ?_, by simp⟩
          simp only [List.cons_append, bytesC]
          have := costI_pos x.key x.item; omega
        clear EI hks hnd h1 hne mD rD hx hl0 hl1 hxs
        go_wp2
        go_region
        go_wp2_with fail
        refine (O.out).mono ?_
        rintro e w1 ⟨rfl, k, rfl⟩
        go_wp2_with fail
        refine ((GO.out (1 + k))).mono ?_
        rintro e w2 ⟨rfl, s2, m2, r2, n2, u2⟩
        rw [EV.out.1] at r2
        have m2h := Lib.hid m2
        have r2h := Lib.hid r2
        have u2h := Lib.hid u2
        have n2h := Lib.hid n2
        have EY : Hid (bytOf w2 sb < bytOf wr sb) := by
          show _ < _
          rw [bytOf_of m2, bytOf_of E.out.mem, r2.byt, E.out.rel.byt]
          have q1 := EV.out.2.2.1
          have q2 := bytesC_nonneg (a ++ [c])
          simp only
          omega
        clear m2 r2 u2 n2 GO O
        go_wp2
        go_roundw
        case rel =>
          refine ⟨⟨_, rfl⟩, _, s2, a, c, m2h.out, r2h.out, Nat.le_trans n2h.out E.out.n, ?_, rfl, E.out.but, by rw [E.out.ev]; exact EV.out.2.1, ?_⟩
          · exact Fr.trans E.out.u (Fr.trans (Fr.of0 ((Upd.refl (fun _ => False) wr).drewN (1 + k))) u2h.out)
          · have q1 := E.out.len
            have q2 := EV.out.2.2.2
            simp only [List.length_append, List.length_cons, List.length_nil] at q2 ⊢
            omega
        case measure => exact EY.out
    · have t : decide (s1.byt > s1.bud) = false := decide_eq_false hgt
      have HG := Lib.hid hgt
      clear hgt
      go_wp2
      go_region
      go_wp2
      go_end0
      have i := E.out
      have e1 : evictP S = S1 := by
        rw [i.ev]
        refine evict_stop ?_
        have q := HG.out
        rw [i.rel.byt, i.rel.bud] at q
        omega
      rw [e1]
      have uu : Upd (fun _ => False) wr wr.drew := (Upd.refl _ _).drew
      exact ⟨rfl, s1, i.mem.keep0 uu, i.rel.keep0 uu, i.n, Fr.trans i.u (Fr.of0 uu)⟩
end Go.Proofs.YtcdihffcncaibaaDoor
/- Walks: Drop, Expire, Persist, Ttl; how the store is handed on. -/
set_option linter.unusedVariables false
set_option linter.unusedSimpArgs false
namespace Go.Proofs.YtcdihffcncaibaaDoor
open Go.RowKit

section
variable {w w1 w' : World} {base sb : Nat} {s : SV} {X Z : Nat → Prop} {S S1 : PS} {n N : Nat} {key : ByteArray}
theorem SGo.st (g : SGo w base sb X Z w' S1 n) (hz : ∀ b, Z b → ¬ X b) (hn : n ≤ N) : SSt w' base sb X S1 N ∧ Upd (Fr base X) w w' := by
  obtain ⟨s', m, r, h, u⟩ := g
  exact ⟨⟨s', Z, m, hz, r, Nat.le_trans h hn⟩, Fr.sub u fun k _ hk => Or.inl hk⟩
theorem SGo.then (g : SGo w base sb X Z w1 S n) {S2 : PS} (h : ∀ s1, SMem w1 base sb (Or2 X Z) s1 → SRel w1 Z s1 S → s1.n ≤ n → SGo w1 base sb X Z w' S2 s1.n) : SGo w base sb X Z w' S2 n := by
  obtain ⟨s1, m, r, hn, u⟩ := g
  obtain ⟨s2, m2, r2, hn2, u2⟩ := h s1 m r hn
  exact ⟨s2, m2, r2, Nat.le_trans hn2 hn, Fr.trans u u2⟩
theorem gone_len (S : PS) (k : ByteArray) (kind : Int) : (goneP S k kind).events.length ≤ S.events.length + 1 := by
  unfold goneP; split <;> simp
theorem due_len (S : PS) (k : ByteArray) (now : Int) : (dueP S k now).events.length ≤ S.events.length + 1 := by
  unfold dueP; split
  · exact gone_len S k 3
  · omega
theorem SRel.setW (r : SRel w Z s S) (hk : key ∈ keysC S.cells) {t : Int} (h0 : 0 ≤ t) (h1 : t ≤ 4611686018427387904) : SRel w Z { s with l := putD key t s.l } { S with cells := setC S.cells key t } := by
  refine ⟨r.ok.setW (ev := S.events) (by omega) h1, fun k => ?_, r.nd, fun c hc => ?_, r.inj, r.frOk, r.frnd, ?_, ?_, ?_, r.bud, r.ev, r.sln, ?_⟩
  · show _ = decide (k ∈ keysC (setC S.cells key t))
    rw [setC_keys]; exact r.km k
  · rcases setC_mem.1 hc with ⟨a, _⟩ | ⟨e1, e2, d, hd, e3, e4⟩
    · exact r.at_ c a
    · obtain ⟨i, v, a, b, f⟩ := r.at_ d hd
      rw [e4] at b f
      rw [e3, ← e1] at a
      exact ⟨i, v, a, b, f⟩
  · show s.ks = keysC (setC _ _ _); rw [setC_keys]; exact r.ks
  · show putD key t s.l = duesC (setC _ _ _); rw [duesC_setC r.ok.nd h0 hk, r.l]
  · show s.byt = bytesC (setC _ _ _); rw [bytesC_setC]; exact r.byt
  · show (setC _ _ _).length ≤ s.n; unfold setC; rw [List.length_map]; exact r.cln
theorem SRel.unset (r : SRel w Z s S) : SRel w Z { s with l := dropD key s.l } { S with cells := setC S.cells key (-1) } := by
  refine ⟨r.ok.setW (ev := S.events) (by omega) (by omega), fun k => ?_, r.nd, fun c hc => ?_, r.inj, r.frOk, r.frnd, ?_, ?_, ?_, r.bud, r.ev, r.sln, ?_⟩
  · show _ = decide (k ∈ keysC (setC S.cells key (-1)))
    rw [setC_keys]; exact r.km k
  · rcases setC_mem.1 hc with ⟨a, _⟩ | ⟨e1, e2, d, hd, e3, e4⟩
    · exact r.at_ c a
    · obtain ⟨i, v, a, b, f⟩ := r.at_ d hd
      rw [e4] at b f
      rw [e3, ← e1] at a
      exact ⟨i, v, a, b, f⟩
  · show s.ks = keysC (setC _ _ _); rw [setC_keys]; exact r.ks
  · show dropD key s.l = duesC (setC _ _ _); rw [duesC_unset r.ok.nd (by omega), r.l]
  · show s.byt = bytesC (setC _ _ _); rw [bytesC_setC]; exact r.byt
  · show (setC _ _ _).length ≤ s.n; unfold setC; rw [List.length_map]; exact r.cln
end
set_option maxHeartbeats 4000000 in
set_option maxRecDepth 100000 in
theorem sttl_any {w : World} {base sb : Nat} {X : Nat → Prop} {S : PS} {N : Nat} (h : SSt w base sb X S N) (key : ByteArray) (now : Int) (hN : N ≤ 10000) (hk : key.size ≤ 100000) (hl : S.events.length ≤ 900000) (hnow : 0 ≤ now) (hnow2 : now ≤ 9223372036854775807) :
    Calls Tryd.prog 8 #[.pointer (some ⟨sb, 0, none⟩), .string key, .int .i64 now] w fun e w' => e = .returned (.int .i64 (ttlA (dueP S key now) key now)) ∧ SSt w' base sb X (dueP S key now) N ∧ Upd (Fr base X) w w' := by
  obtain ⟨s, Z, m, hz, r, hn⟩ := h
  have D := Lib.hid (slot_any m r key now (by omega) hk (by omega))
  have HN := Lib.hid hn
  have HZ := Lib.hid hz
  clear m r hn hN hl hk hz
  generalize dueP S key now = S1 at *
  unfold ttlA
  have hwl : wasP S1 key = (lookC S1.cells key).isSome := lookC_isSome.symm
  cases hlk : lookC S1.cells key with
  | none =>
    rw [hwl, hlk, Option.isSome_none] at D
    clear hwl hlk
    go_enter Tryd.func8, Tryd.ntmps8
    go_wp2_with fail
    refine (D.out).mono ?_
    rintro e w1 ⟨s1, i, rfl, m1, r1, n1, u1, hi⟩
    have G : Hid (SGo w base sb X Z w1 S1 s.n) := ⟨s1, m1, r1, n1, u1⟩
    clear m1 r1 n1 u1 D
    go_wp2
    go_ret
    exact ⟨rfl, G.out.st HZ.out HN.out⟩
  | some c =>
    rw [hwl, hlk, Option.isSome_some] at D
    have HLK := Lib.hid hlk
    clear hwl hlk
    simp only
    by_cases h0 : 0 ≤ c.when
    · rw [if_pos h0]
      go_enter Tryd.func8, Tryd.ntmps8
      go_wp2_with fail
      refine (D.out).mono ?_
      rintro e w1 ⟨s1, i, rfl, m1, r1, n1, u1, hi⟩
      have hsb := m1.blk.lt
      have x4 : w1.cell? ⟨sb, 4, none⟩ = some (.pointer (some ⟨s1.xb, 0, none⟩)) := m1.blk.cellAt (i := 4) rfl
      have XG := Lib.hid (m1.xget key)
      rw [r1.getV key, HLK.out] at XG
      simp only at XG
      have hcw := r1.ok.whens c (lookC_some HLK.out).1
      have G : Hid (SGo w base sb X Z w1 S1 s.n) := ⟨s1, m1, r1, n1, u1⟩
      clear m1 r1 n1 u1 D hi
      rw [if_pos h0] at XG
      simp only at XG
      go_wp2_with fail
      refine (XG.out).mono ?_
      rintro e w2 ⟨rfl, rfl⟩
      clear XG
      go_wp2
      go_ret
      exact ⟨ret_int (by first | rfl | omega | exact i64w (by omega) (by omega)), G.out.st HZ.out HN.out⟩
    · rw [if_neg h0]
      go_enter Tryd.func8, Tryd.ntmps8
      go_wp2_with fail
      refine (D.out).mono ?_
      rintro e w1 ⟨s1, i, rfl, m1, r1, n1, u1, hi⟩
      have hsb := m1.blk.lt
      have x4 : w1.cell? ⟨sb, 4, none⟩ = some (.pointer (some ⟨s1.xb, 0, none⟩)) := m1.blk.cellAt (i := 4) rfl
      have XG := Lib.hid (m1.xget key)
      rw [r1.getV key, HLK.out] at XG
      simp only at XG
      have hcw := r1.ok.whens c (lookC_some HLK.out).1
      have G : Hid (SGo w base sb X Z w1 S1 s.n) := ⟨s1, m1, r1, n1, u1⟩
      clear m1 r1 n1 u1 D hi
      rw [if_neg (by omega)] at XG
      simp only at XG
      go_wp2_with fail
      refine (XG.out).mono ?_
      rintro e w2 ⟨rfl, rfl⟩
      clear XG
      go_wp2
      go_ret
      exact ⟨rfl, G.out.st HZ.out HN.out⟩
end Go.Proofs.YtcdihffcncaibaaDoor
