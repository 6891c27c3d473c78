/- Walk: a place for a key. -/
import Derived.Test.YtgdenmddbgcacaaGreatDoorK18
import Derived.Deep.DeepCutAuto
set_option linter.unusedVariables false
set_option linter.unusedSimpArgs false
namespace Go.Proofs.YtgdenmddbgcacaaGreatDoor
open Go.RowKit

/-- What a store holds when a place is laid for a key, whose old item counts no more. -/
structure Placed (w : World) (Z : Nat → Prop) (s : SV) (S : PS) (key : ByteArray) (at' : Nat) : Prop where
  ok : POk S
  km : ∀ k, k ≠ key → (aget s.m k).isSome = decide (k ∈ keysC S.cells)
  nd : (akeys s.m).Nodup
  at_ : ∀ c ∈ delC S.cells key, ∃ (i : Nat) (v : Value), i ≠ at' ∧ aget s.m c.key = some (i : Int) ∧ s.sl[i]? = some (c.item.kind, c.item.text, v) ∧ FldAt w Z v c.item.flds
  inj : ∀ k k' i, aget s.m k = some i → aget s.m k' = some i → k = k'
  lt : at' < s.sl.length
  other : ∀ k, k ≠ key → aget s.m k ≠ some (at' : Int)
  mine : ∀ i, aget s.m key = some i → i = (at' : Int)
  frOk : ∀ i ∈ s.fr, ∃ j : Nat, i = (j : Int) ∧ j < s.sl.length ∧ j ≠ at' ∧ ∀ k, aget s.m k ≠ some i
  frnd : s.fr.Nodup
  ks : s.ks = keysC S.cells
  l : s.l = duesC S.cells
  byt : s.byt = bytesC (delC S.cells key)
  bud : s.bud = S.budget
  ev : s.ev = S.events
  sln : s.sl.length ≤ s.n + 1
  cln : (delC S.cells key).length ≤ s.n
section
variable {w w' : World} {base sb : Nat} {s : SV} {X Z : Nat → Prop} {S : PS} {key : ByteArray} {at' : Nat}
theorem Placed.keep {G : Nat → Prop} (h : Placed w Z s S key at') (u : Upd G w w') (hd : ∀ b, Z b → ¬ G b) : Placed w' Z s S key at' :=
  { h with at_ := fun c hc => let ⟨i, v, a, b, d, f⟩ := h.at_ c hc; ⟨i, v, a, b, d, f.keep u hd⟩ }
theorem OwnN.pop {α : Type} {f : α → List Value} {k : Nat} {w : World} {base : Nat} {e : TypeId} {v : Value} {l : List α} {x : α} (h : OwnN f k e w base v (l ++ [x])) (hf : ∀ a, (f a).length = k) : ∃ b c, v = .slice (some ⟨b, 0, Option.none⟩) (l.length + 1) c ∧ l.length + 1 ≤ c ∧ c ≤ maxLen ∧ b < w.heap.size ∧ (∀ j, j < k → w.cell? ⟨b, l.length * k + j, Option.none⟩ = (f x)[j]?) ∧ OwnN f k e w base (.slice (some ⟨b, 0, Option.none⟩) l.length c) l := by
  rcases h.blk with ⟨_, e1⟩ | ⟨b, cap, cs, e1, hb, hB, h1, h2, h3⟩
  · simp at e1
  · have hl : (l ++ [x]).length = l.length + 1 := by simp
    rw [hl] at e1 h1 h3
    refine ⟨b, cap, e1, h3, h2, hB.lt, fun j hj => ?_, ?_⟩
    · have h4 := h
      rw [e1] at h4
      exact h4.cell hf hj (by simp)
    · have hB2 := hB
      have ef : flat f (l ++ [x]) = flat f l ++ f x := by simp [flat]
      rw [ef, List.append_assoc] at hB2
      refine OwnN.ofBlk hb hf hB2 ?_ h2 (by omega)
      rw [List.length_append, hf]
      rw [Nat.add_mul] at h1; omega
theorem SMem.slots_app (h : SMem w base sb X s) (hl : s.sl.length ≤ 1000000) :
    ∃ p c w1, (Builtin.append_ #[38, 38] 38 #[s.slv, .slice (some ⟨w.heap.size, 0, none⟩) 1 1]).run Tryz.prog (w.alloc (.cells #[.int .i64 0, .string { data := #[] }, .slice none 0 0] 31)) = .ok (.slice p (s.sl.length + 1) c) w1 ∧ Blk w1 sb (storeC s) 44 ∧
      PartTo w base sb X (w1.setCell ⟨sb, 1, none⟩ (.slice p (s.sl.length + 1) c)) { s with slv := .slice p (s.sl.length + 1) c, sl := s.sl ++ [(0, { data := #[] }, .slice none 0 0)] } := by
  obtain ⟨i0, hi0, hz0, hz1, hz2⟩ := info_parts it_info
  have u0 : Upd (fun _ => False) w (w.alloc (.cells #[.int .i64 0, .string { data := #[] }, .slice none 0 0] 31)) := (Upd.refl _ _).alloc _
  have m0 := h.keep0 u0
  obtain ⟨v', w1, a, b, c, d⟩ := OwnN.append (P := Tryz.prog) 38 38 i0 (.agg #[.int .i64 0, .string ByteArray.empty, .slice none 0 0]) 48 Tryz.underlying38 hi0 hz0 hz1 hz2 rfl (by decide) (fun _ => rfl) (fun x hx => fun u hu => by
    obtain rfl := List.mem_singleton.1 hx
    simp [slc] at hu; rcases hu with rfl | rfl | rfl <;> rfl) m0.slots (RowOf.lit (f := slc) (k := 3) w (0, { data := #[] }, .slice none 0 0) [.int .i64 0, .string { data := #[] }, .slice none 0 0] 31 rfl rfl) (by unfold maxLen; simp; omega) (by simp; omega) m0.bl
  obtain ⟨p, k, e, _⟩ := b.slice
  rw [List.length_append, List.length_singleton] at e
  subst e
  have hB1 : Blk w1 sb (storeC s) 44 := c.blk m0.blk fun g => (m0.nsb).1 g rfl
  have hs := hB1.set 1 (.slice p (s.sl.length + 1) k)
  have P := m0.slotsTo b c d ((Upd.refl (fun b => b = sb) w1).set (b := sb) (o := 1) (v := .slice p (s.sl.length + 1) k) (fun _ => rfl)) hs
  exact ⟨p, k, w1, a, hB1, P.1, Fr.trans (Fr.of0 u0) P.2⟩
/-- Where the key stands already. -/
theorem SRel.placed1 (r : SRel w Z s S) {c : Ce} (hc : c ∈ S.cells) {i : Nat} (hi : aget s.m c.key = some (i : Int)) (hil : i < s.sl.length) {co : Int} (hco : costI c.key c.item = co) : Placed w Z { s with byt := s.byt - co } S c.key i :=
  ⟨r.ok, fun k _ => r.km k, r.nd, fun d hd => by
    obtain ⟨h1, h2⟩ := delC_mem.1 hd
    obtain ⟨j, v, a, b, f⟩ := r.at_ d h1
    refine ⟨j, v, ?_, a, b, f⟩
    rintro rfl
    exact h2 (r.inj _ _ _ a hi), r.inj, hil, fun k hk h => hk (r.inj _ _ _ h hi), fun j hj => by rw [hi] at hj; exact (Option.some.inj hj).symm, fun j hj => by
    obtain ⟨n, e, h1, h2⟩ := r.frOk j hj
    refine ⟨n, e, h1, ?_, h2⟩
    rintro rfl
    exact h2 _ (by rw [e]; exact hi), r.frnd, r.ks, r.l, by show s.byt - co = _; rw [bytesC_del r.ok.nd hc, hco, r.byt], r.bud, r.ev, Nat.le_succ_of_le r.sln, Nat.le_trans (delC_len _ _) r.cln⟩
/-- A place that is free. -/
theorem SRel.placed2 (r : SRel w Z s S) (hk : key ∉ keysC S.cells) {fr : List Int} {j : Nat} (hfr : s.fr = fr ++ [(j : Int)]) {v : Value} : Placed w Z { s with frv := v, fr := fr } S key j := by
  have hd := delC_none hk
  have hn := r.frnd
  rw [hfr, List.nodup_append] at hn
  obtain ⟨n, e, h1, h2⟩ := r.frOk (j : Int) (by rw [hfr]; simp)
  have ej : n = j := by omega
  subst ej
  refine ⟨r.ok, fun k _ => r.km k, r.nd, fun c hc => ?_, r.inj, h1, fun k _ => h2 k, fun i hi => absurd hi (by rw [r.get_none hk]; simp), fun i hi => ?_, hn.1, r.ks, r.l, by rw [hd]; exact r.byt, r.bud, r.ev, Nat.le_succ_of_le r.sln, by rw [hd]; exact r.cln⟩
  · rw [hd] at hc
    obtain ⟨i, v, a, b, f⟩ := r.at_ c hc
    refine ⟨i, v, ?_, a, b, f⟩
    rintro rfl
    exact h2 _ a
  · obtain ⟨p, ep, g1, g2⟩ := r.frOk i (by rw [hfr]; exact List.mem_append_left _ hi)
    refine ⟨p, ep, g1, ?_, g2⟩
    intro en
    exact hn.2.2 i hi (n : Int) (by simp) (by rw [ep, en])
/-- One place more. -/
theorem SRel.placed3 (r : SRel w Z s S) (hk : key ∉ keysC S.cells) (hfr : s.fr = []) {v : Value} {z : SlV} : Placed w Z { s with slv := v, sl := s.sl ++ [z] } S key s.sl.length := by
  have hd := delC_none hk
  refine ⟨r.ok, fun k _ => r.km k, r.nd, fun c hc => ?_, r.inj, by simp, fun k hk2 h => ?_, fun i hi => absurd hi (by rw [r.get_none hk]; simp), fun i hi => ?_, r.frnd, r.ks, r.l, by rw [hd]; exact r.byt, r.bud, r.ev, by have := r.sln; simp only [List.length_append, List.length_singleton]; omega, by rw [hd]; exact r.cln⟩
  · rw [hd] at hc
    obtain ⟨i, v, a, b, f⟩ := r.at_ c hc
    have hil := (List.getElem?_eq_some_iff.1 b).1
    exact ⟨i, v, by omega, a, by rw [List.getElem?_append_left hil]; exact b, f⟩
  · have hk3 : k ∈ keysC S.cells := by
      have := r.km k
      rw [h] at this
      simpa using this.symm
    obtain ⟨c, _, hc, rfl, i, v, a, b, f⟩ := r.get_some hk3
    have hil := (List.getElem?_eq_some_iff.1 b).1
    rw [a] at h
    have := Option.some.inj h
    omega
  · have hi2 : i ∈ s.fr := hi
    rw [hfr] at hi2
    simp at hi2
end
set_option maxHeartbeats 8000000 in
set_option maxRecDepth 100000 in
theorem place_any {w : World} {base sb : Nat} {s : SV} {X Z : Nat → Prop} {S : PS} (m : SMem w base sb (Or2 X Z) s) (r : SRel w Z s S) (key : ByteArray) (hn : s.n ≤ 10000) (hk : key.size ≤ 100000) :
    Calls Tryz.prog 49 #[.pointer (some ⟨sb, 0, none⟩), .string key] w fun e w' => ∃ (i : Nat) (s' : SV), e = .returned (.int .i64 (i : Int)) ∧ SMem w' base sb (Or2 X Z) s' ∧ Placed w' Z s' S key i ∧ s'.n = s.n ∧ Upd (Fr base (Or2 X Z)) w w' := by
  have hsb := m.blk.lt
  have a0 := m.blk.cellAt (i := 0) rfl
  have D := Lib.hid (m.tget key hn hk)
  by_cases hw : key ∈ keysC S.cells
  · obtain ⟨c, hlc, hc, rfl, i, v, hg, hsl, hf⟩ := r.get_some hw
    rw [hg] at D
    have R := Lib.hid r
    have HG := Lib.hid hg
    have HSL := Lib.hid hsl
    have HF := Lib.hid hf
    have HC := Lib.hid hc
    have HSZ := Lib.hid (small_of_right (r.ok.small c hc).1)
    clear r hw hg hsl hf hlc hc m
    go_enter Tryz.func49, Tryz.ntmps49
    go_wp2_with fail
    refine (D.out).mono ?_
    rintro e w1 ⟨rfl, P1⟩
    simp only [Option.getD_some, Option.isSome_some]
    have m1 := P1.1
    have U1 := Lib.hid P1.2
    obtain ⟨b, cp, e, hb, hne, c0, c1, c2, fr, hm⟩ := m1.slot HSL.out
    have f1 := HF.out.keep U1.out (fun b hb g => g.2 (Or.inr hb))
    have CO := Lib.hid (fun W (u : Upd (fun _ => False) w1 W) => cost_any c.key c.item v W (m1.std.keep u) (f1.1.keep u (fun _ _ _ h => h)) HSZ.out hk)
    have x1 : w1.cell? ⟨sb, 1, none⟩ = some (.slice (some ⟨b, 0, none⟩) s.sl.length cp) := by rw [m1.blk.cellAt (i := 1) rfl]; exact congrArg some e
    have x5 : w1.cell? ⟨sb, 5, none⟩ = some (.int .i64 s.byt) := m1.blk.cellAt (i := 5) rfl
    have l1 := m1.blk.lt
    have fx := m1.blk.free 5
    have HB := Lib.hid m1.blk
    have M1 := Lib.hid m1
    have hil := (List.getElem?_eq_some_iff.1 HSL.out).1
    have q0 := costI_pos c.key c.item
    have q1 := costI_le HSZ.out hk
    have q2 := R.out.byt_range hn
    simp only at c0 c1 c2
    clear P1 m1 D e
    generalize hco : costI c.key c.item = co at *
    have HCO := Lib.hid hco
    have HWR : Hid (IntKind.i64.wrap (s.byt - co) = s.byt - co) := i64w (by omega) (by omega)
    clear hco
    go_upto_region 3 with (fail)
    go_cut [5] (fun v5 wx => v5 = .int .i64 (i : Int) ∧ Hid (PartTo w1 base sb (Or2 X Z) wx { s with byt := s.byt - co }))
    case first =>
      go_region_with (go_at_call 48; refine (CO.out _ (by first | exact Upd.refl _ _ | exact (Upd.refl _ _).drew)).mono ?_; rintro e2 w2 ⟨rfl, u2⟩; have B2 := u2.blk HB.out (fun h => h); have y5 : w2.cell? ⟨sb, 5, none⟩ = some (.int .i64 s.byt) := B2.cellAt (i := 5) rfl; have y1 : w2.cell? ⟨sb, 1, none⟩ = some (.slice (some ⟨b, 0, none⟩) s.sl.length cp) := (u2.cell (p := ⟨sb, 1, none⟩) l1 (fun h => h)).trans x1; have l2 := B2.lt; have g5 := B2.free 5; have UU : Hid (Upd (fun _ => False) w1 w2) := (by first | exact u2 | exact ((Upd.refl _ _).drew).trans u2 (fun _ _ h => h)))
      all_goals (go_wp2_with fail; go_meet; rw [HWR.out]; exact ⟨rfl, (PartTo.of0 M1.out UU.out).trans ((M1.out.keep0 UU.out).bytSet _)⟩)
    case rest =>
    obtain ⟨rfl, P2⟩ := hcut
    clear x1 x5 l1 fx c0 c1 c2 fr hb
    go_wp2
    go_ret
    refine ⟨i, rfl, _, P2.out.1, ?_, rfl, Fr.trans U1.out P2.out.2⟩
    exact ((R.out.keepF U1.out).keepF P2.out.2).placed1 HC.out HG.out hil HCO.out
  · have hg := r.get_none hw
    rw [hg] at D
    have R := Lib.hid r
    have HW := Lib.hid hw
    clear r hw hg m
    rcases List.eq_nil_or_concat s.fr with hfr | ⟨fr, x, hfr⟩
    · have HFR := Lib.hid hfr
      clear hfr
      go_enter Tryz.func49, Tryz.ntmps49
      go_wp2_with fail
      refine (D.out).mono ?_
      rintro e w1 ⟨rfl, P1⟩
      simp only [Option.getD_none, Option.isSome_none]
      have m1 := P1.1
      have U1 := Lib.hid P1.2
      obtain ⟨pf, cf, ef, _⟩ := (IntsAt.ownS.1 m1.free).slice
      rw [HFR.out] at ef
      have x2 : w1.cell? ⟨sb, 2, none⟩ = some (.slice pf 0 cf) := by rw [m1.blk.cellAt (i := 2) rfl]; exact congrArg some ef
      obtain ⟨p0, c0, e0, _⟩ := m1.slots.slice
      have x1 : w1.cell? ⟨sb, 1, none⟩ = some (.slice p0 s.sl.length c0) := by rw [m1.blk.cellAt (i := 1) rfl]; exact congrArg some e0
      obtain ⟨p, cq, w3, hr1, hB1, P5⟩ := m1.slots_app (by have := R.out.sln; omega)
      have k1 : w3.cell? ⟨sb, 1, none⟩ = some (.slice p0 s.sl.length c0) := by rw [hB1.cellAt (i := 1) rfl]; exact congrArg some e0
      have l1 := m1.blk.lt
      have l3 := hB1.lt
      have f1 := hB1.free 1
      have hsl : s.sl.length ≤ 10000 := by have := R.out.sln; omega
      rw [e0] at hr1
      have PP := Lib.hid P5
      have N0 := Lib.hid (R.out.placed3 HW.out HFR.out (v := .slice p (s.sl.length + 1) cq) (z := (0, { data := #[] }, .slice none 0 0)))
      have R1 := Lib.hid (R.out.keepF U1.out)
      clear P1 P5 m1 hB1 D e0 ef
      generalize hq : s.sl.length = q at *
      go_wp2_with (at_builtin; refine wpList_builtinN rfl _ _ 38 rfl _ _ rfl rfl hr1 ?_)
      go_wp2
      go_ret
      refine ⟨q, _, ret_int (by omega), PP.out.1, ?_, rfl, Fr.trans U1.out PP.out.2⟩
      exact ((N0.out.keep U1.out (fun b hb g => g.2 (Or.inr hb))).keep PP.out.2 (fun b hb g => g.2 (Or.inr hb)))
    · rw [List.concat_eq_append] at hfr
      obtain ⟨j, ej, hj, _⟩ := R.out.frOk x (by rw [hfr]; simp)
      subst ej
      have HFR := Lib.hid hfr
      have hfl : fr.length ≤ 10000 := by have h1 := R.out.fr_len; have h2 := R.out.sln; rw [hfr] at h1; simp at h1; omega
      clear hfr hj
      go_enter Tryz.func49, Tryz.ntmps49
      go_wp2_with fail
      refine (D.out).mono ?_
      rintro e w1 ⟨rfl, P1⟩
      simp only [Option.getD_none, Option.isSome_none]
      have m1 := P1.1
      have U1 := Lib.hid P1.2
      have ow := IntsAt.ownS.1 m1.free
      rw [HFR.out] at ow
      obtain ⟨b, cf, ef, hc1, hc2, hb, hcell, ow2⟩ := ow.pop (fun _ => rfl)
      have x2 : w1.cell? ⟨sb, 2, none⟩ = some (.slice (some ⟨b, 0, none⟩) (fr.length + 1) cf) := by rw [m1.blk.cellAt (i := 2) rfl]; exact congrArg some ef
      have xc : w1.cell? ⟨b, fr.length, none⟩ = some (.int .i64 (j : Int)) := by have := hcell 0 (by omega); simpa [intcS] using this
      have hcap : (fr.length : Int) ≤ (cf : Int) := by omega
      have hcap2 : fr.length ≤ cf := by omega
      have l1 := m1.blk.lt
      have f2 := m1.blk.free 2
      have M1 := Lib.hid m1
      have OW := Lib.hid ow2
      have EF := Lib.hid ef
      have R1 := Lib.hid (R.out.keepF U1.out)
      clear P1 m1 D ef ow ow2 hcell hc1 hc2
      go_wp2
      go_ret
      have hs := M1.out.blk.set 2 (.slice (some ⟨b, 0, none⟩) fr.length cf)
      have P := M1.out.freeTo (IntsAt.ownS.2 OW.out) (Upd.refl _ _) (fun k hk => Or.inl (by rw [EF.out]; exact hk)) ((Upd.refl (fun b => b = sb) w1).set (b := sb) (o := 2) (v := .slice (some ⟨b, 0, none⟩) fr.length cf) (fun _ => rfl)) hs
      exact ⟨j, _, rfl, P.1, (R1.out.keepF P.2).placed2 HW.out HFR.out, rfl, Fr.trans U1.out P.2⟩
end Go.Proofs.YtgdenmddbgcacaaGreatDoor
