/- Walk: Put. -/
import Derived.Test.YtcdihffcncaibaaDoorK14
import Derived.Test.YtcdihffcncaibaaDoorK15
import Derived.Test.YtcdihffcncaibaaDoorK16
import Derived.Deep.DeepCutAuto
import Derived.Test.YtcdihffcncaibaaDoorK05
import Derived.Deep.QuietTactic
import Derived.BigQuiet
import Derived.Test.YtcdihffcncaibaaDoorK11
set_option linter.unusedVariables false
set_option linter.unusedSimpArgs false
namespace Go.Proofs.YtcdihffcncaibaaDoor
open Go.RowKit

section
variable {w w' : World} {base sb : Nat} {s : SV} {X Z : Nat → Prop} {S : PS} {key : ByteArray} {at' : Nat}
theorem keepC_dues (h : POk S) (i : It) : duesC (delC S.cells key ++ [⟨key, i, keepC S.cells key true⟩]) = duesC S.cells := by
  have hn := laid_nd h.nd key i (keepC S.cells key true)
  refine rise_ext (duesC_rise hn) (duesC_rise h.nd) fun d => ?_
  rw [duesC_mem, duesC_mem]
  have ek0 : lookC S.cells key = none → keepC S.cells key true = -1 := fun h => by unfold keepC; simp [h]
  have ek1 : ∀ c, lookC S.cells key = some c → keepC S.cells key true = c.when := fun c h => by unfold keepC; simp [h]
  constructor
  · rintro ⟨c, hc, g, rfl⟩
    rcases List.mem_append.1 hc with hc | hc
    · exact ⟨c, (delC_mem.1 hc).1, g, rfl⟩
    · obtain rfl := List.mem_singleton.1 hc
      simp only at g
      cases hl : lookC S.cells key with
      | none => rw [ek0 hl] at g; omega
      | some c =>
        rw [ek1 c hl] at g ⊢
        obtain ⟨h1, h2⟩ := lookC_some hl
        exact ⟨c, h1, g, by simp [h2]⟩
  · rintro ⟨c, hc, g, rfl⟩
    by_cases e : c.key = key
    · refine ⟨⟨key, i, keepC S.cells key true⟩, by simp, ?_, ?_⟩
      · have hl := lookC_of h.nd hc
        rw [e] at hl
        simp only; rw [ek1 c hl]; exact g
      · have hl := lookC_of h.nd hc
        rw [e] at hl
        simp only; rw [ek1 c hl, e]
    · exact ⟨c, List.mem_append_left _ (delC_mem.2 ⟨hc, e⟩), g, rfl⟩
theorem nokeep_dues (h : POk S) (i : It) : duesC (delC S.cells key ++ [⟨key, i, -1⟩]) = dropD key (duesC S.cells) := by
  rw [duesC_app _ (laid_nd h.nd key i (-1)), if_neg (by show ¬ (0 : Int) ≤ -1; omega), duesC_del h.nd]
/-- The place is taken. -/
theorem Placed.take (p : Placed w Z s S key at') {i : It} (hp : putE S key i = 0) {v : Value} (hf : FldAt w Z v i.flds) (keep : Bool) {l : List DueP} (hl : l = if keep = true then s.l else dropD key s.l) {co : Int} (hco : costI key i = co) :
    SRel w Z { s with sl := s.sl.set at' (i.kind, i.text, v), m := aset s.m key (at' : Int), n := s.n + 1, byt := s.byt + co, ks := touched s.ks key, l := l } { laidP S key i keep with events := S.events } := by
  have hok := p.ok.laid hp keep
  refine ⟨⟨hok.nd, hok.small, hok.whens, hok.bud, hok.fit⟩, fun k => ?_, nodup_aset p.nd _ _, fun c hc => ?_, fun k k' j h1 h2 => ?_, fun j hj => ?_, p.frnd, ?_, ?_, ?_, p.bud, p.ev, ?_, ?_⟩
  · show (aget (aset s.m key (at' : Int)) k).isSome = decide (k ∈ keysC (delC S.cells key ++ [⟨key, i, keepC S.cells key keep⟩]))
    rw [aget_aset, ← lookC_isSome, lookC_app, lookC_delC]
    by_cases e : key = k
    · subst e; simp
    · have e2 : ¬ k = key := fun g => e g.symm
      rw [if_neg e, if_neg e2, p.km k e2, ← lookC_isSome]; simp [e]
  · rcases List.mem_append.1 hc with hc | hc
    · obtain ⟨j, v2, hj, a, b, f⟩ := p.at_ c hc
      refine ⟨j, v2, ?_, ?_, f⟩
      · show aget (aset s.m key _) c.key = _
        rw [aget_aset, if_neg (fun e => (delC_mem.1 hc).2 e.symm)]; exact a
      · show (s.sl.set at' _)[j]? = _
        rw [List.getElem?_set_ne (fun e => hj e.symm)]; exact b
    · obtain rfl := List.mem_singleton.1 hc
      refine ⟨at', v, ?_, ?_, hf⟩
      · show aget (aset s.m key _) key = _
        rw [aget_aset, if_pos rfl]
      · show (s.sl.set at' _)[at']? = _
        rw [List.getElem?_set_self p.lt]
  · simp only [aget_aset] at h1 h2
    by_cases e1 : key = k <;> by_cases e2 : key = k'
    · rw [← e1, ← e2]
    · rw [if_pos e1] at h1; rw [if_neg e2] at h2
      exact absurd (by rw [← h1] at h2; exact h2) (p.other k' (fun e => e2 e.symm))
    · rw [if_neg e1] at h1; rw [if_pos e2] at h2
      exact absurd (by rw [← h2] at h1; exact h1) (p.other k (fun e => e1 e.symm))
    · rw [if_neg e1] at h1; rw [if_neg e2] at h2
      exact p.inj _ _ _ h1 h2
  · obtain ⟨n, e, h1, h2, h3⟩ := p.frOk j hj
    refine ⟨n, e, by simpa using h1, fun k hk => ?_⟩
    rw [aget_aset] at hk
    split at hk
    · have := Option.some.inj hk; omega
    · exact h3 k hk
  · show touched s.ks key = keysC (delC S.cells key ++ [_])
    rw [p.ks]; unfold touched; rw [← delC_erase p.ok.nd]; simp [keysC]
  · show l = duesC (delC S.cells key ++ [⟨key, i, keepC S.cells key keep⟩])
    rw [hl, p.l]
    cases keep with
    | true => rw [if_pos rfl, keepC_dues p.ok]
    | false => rw [if_neg (by simp)]; exact (nokeep_dues p.ok i).symm
  · show s.byt + co = bytesC (delC S.cells key ++ [⟨key, i, _⟩])
    rw [bytesC_app, p.byt, ← hco]; simp [bytesC]
  · show (s.sl.set at' _).length ≤ s.n + 1
    rw [List.length_set]; exact p.sln
  · show (delC S.cells key ++ [_]).length ≤ s.n + 1
    rw [List.length_append]; have := p.cln; simp; omega
theorem laid_last (S : PS) (key : ByteArray) (i : It) (keep : Bool) : ∃ a c, (laidP S key i keep).cells = a ++ [c] ∧ c.key = key := ⟨_, _, rfl, rfl⟩
end
theorem delC_len1 {l : List Ce} (h : (keysC l).Nodup) (k : ByteArray) : l.length ≤ (delC l k).length + 1 := by
  have e := congrArg List.length (delC_erase h k)
  have h1 : (keysC (delC l k)).length = (delC l k).length := by simp [keysC]
  have h2 : (keysC l).length = l.length := by simp [keysC]
  rw [h1] at e
  by_cases hk : k ∈ keysC l
  · rw [List.length_erase_of_mem hk] at e; omega
  · rw [List.erase_of_not_mem hk] at e; omega
/-- Behind the copy: it lies in a slot. -/
def PutCp (w3 : World) (base sb : Nat) (X Z : Nat → Prop) (s2 : SV) (at' : Nat) (i : It) (wx : World) : Prop := ∃ v', RowOf fdc 2 wx v' i.flds ∧ (∀ q, fX v' i.flds q → w3.heap.size ≤ q) ∧ SMem wx base sb (Or2 X (Or2 Z (fX v' i.flds))) { s2 with sl := s2.sl.set at' (i.kind, i.text, v') } ∧ Upd (Fr base (Or2 X Z)) w3 wx
theorem putCp_of {w3 w4 : World} {base sb : Nat} {X Z : Nat → Prop} {s2 : SV} {at' : Nat} {i : It} {v' : Value} {b cp : Nat} (m : SMem w3 base sb (Or2 X Z) s2) (u : Upd (fun _ => False) w3 w4) (hr : RowOf fdc 2 w4 v' i.flds) (ho : i.flds = [] ∨ ∀ b, v'.ownBlock = some b → w3.heap.size ≤ b ∧ b < w4.heap.size) (hlt : at' < s2.sl.length)
    (e : s2.slv = .slice (some ⟨b, 0, none⟩) s2.sl.length cp) :
    PutCp w3 base sb X Z s2 at' i (((w4.setCell ⟨b, at' * 3, none⟩ (.int .i64 i.kind)).setCell ⟨b, at' * 3 + 1, none⟩ (.string i.text)).setCell ⟨b, at' * 3 + 2, none⟩ v') := by
  have m4 := m.also (Y := Or2 X (Or2 Z (fX v' i.flds))) u fun q hq => by
    rcases hq with g | g | g
    · exact Or.inl (Or.inl g)
    · exact Or.inl (Or.inr g)
    · rcases ho with h | h
      · exact absurd h g.2
      · exact Or.inr (h q g.1)
  have P := m4.slotTo (y := (i.kind, i.text, v')) (List.getElem?_eq_getElem hlt) e
  refine ⟨v', ?_, fun q hq => ?_, P.1, ?_⟩
  · by_cases h : i.flds = []
    · rw [h] at hr ⊢; exact hr.nilTo
    · exact hr.keep P.2 fun q _ hq g => g.2 (Or.inr (Or.inr ⟨hq, h⟩))
  · rcases ho with h | h
    · exact absurd h hq.2
    · exact (h q hq.1).1
  · exact Fr.trans (Fr.of0 u) (P.2.weaken fun k _ g => ⟨g.1, fun h => g.2 (h.elim Or.inl fun z => Or.inr (Or.inl z))⟩)
set_option maxHeartbeats 16000000 in
set_option maxRecDepth 100000 in
theorem put_raw {w w0 : World} {base sb xb : Nat} {s : SV} {X Z : Nat → Prop} {S : PS} (m : SMem w0 base sb (Or2 X Z) s) (r : SRel w0 Z s S) (key : ByteArray) (i : It) (p : Option Addr) (c : Nat) (keep : Bool) (now : Int)
    (hx : xb = w.heap.size) (hw0 : w0 = w.alloc (.cells #[.int .i64 i.kind, .string i.text, .slice p i.flds.length c] 29)) (hX : X xb) (hv : FldAt w (fun b => b < base ∨ X b) (.slice p i.flds.length c) i.flds) (hz : ∀ b, Z b → ¬ X b)
    (hn : s.n ≤ 9999) (hk : key.size ≤ 100000) (hl : S.events.length ≤ 800000) :
    Calls Tryd.prog 6 #[.pointer (some ⟨sb, 0, none⟩), .string key, .agg #[.int .i64 i.kind, .string i.text, .slice p i.flds.length c], .bool keep, .int .i64 now] w fun e w' => e = .returned (.int .i64 (putE (dueP S key now) key i)) ∧ SSt w' base sb X (putP S key i keep now) (s.n + 1) ∧ Upd (Fr base X) w0 w' := by
  have hbx := Blk.made w [.int .i64 i.kind, .string i.text, .slice p i.flds.length c] 29
  rw [← hw0] at hbx
  have u0 : Upd (fun _ => False) w w0 := by rw [hw0]; exact (Upd.refl _ _).alloc _
  have D := Lib.hid (due_any m r key now (by omega) hk (by omega))
  have DL := Lib.hid (due_len S key now)
  have HB0 := Lib.hid hbx
  have HX := Lib.hid hX
  have HV : Hid (FldAt w0 (fun b => b < base ∨ X b) (.slice p i.flds.length c) i.flds) := hv.keep u0 (fun _ _ h => h)
  have HZ := Lib.hid hz
  have HN := Lib.hid hn
  have HL := Lib.hid hl
  have HK := Lib.hid hk
  have BL := Lib.hid m.bl
  have ST := Lib.hid m.std
  rw [hx] at HX
  clear m r hv hz hn hl hbx hX u0 hx
  rw [hw0] at D
  unfold putP
  generalize dueP S key now = S1 at *
  by_cases h1 : 512 < key.size
  · have hE : putE S1 key i = 31 := by unfold putE; rw [if_pos (Or.inl h1)]
    have t1 : decide ((key.size : Int) > 512) = true := decide_eq_true (by omega)
    rw [hE, if_neg (by decide)]
    clear hE h1
    go_enter Tryd.func6, Tryd.ntmps6
    go_wp2_with fail
    refine (D.out).mono ?_
    rintro e w1 ⟨rfl, s1, m1, r1, n1, u1⟩
    rw [← hw0] at u1
    have hB1 := u1.blk HB0.out (fun g => g.2 (Or.inl HX.out))
    have b0 := hB1.cellAt (i := 0) rfl
    have b1 := hB1.cellAt (i := 1) rfl
    have b2 := hB1.cellAt (i := 2) rfl
    have lb := hB1.lt
    have M1 := Lib.hid m1
    have R1 := Lib.hid r1
    have N1 := Lib.hid n1
    have U1 := Lib.hid u1
    have HB1 := Lib.hid hB1
    have V1 := Lib.hid (HV.out.keep u1 (fun b hb g => hb.elim (fun h => by have := g.1; omega) (fun h => g.2 (Or.inl h))))
    clear m1 r1 n1 u1 hB1 D
    go_wp2
    go_ret
    have G : SGo w0 base sb X Z w1 S1 s.n := ⟨s1, M1.out, R1.out, N1.out, U1.out⟩
    exact ⟨rfl, G.st HZ.out (by omega)⟩
  · have t1 : decide ((key.size : Int) > 512) = false := decide_eq_false (by omega)
    cases hr : rightI i with
    | false =>
      have hE : putE S1 key i = 31 := by unfold putE; rw [if_pos (Or.inr hr)]
      rw [hE, if_neg (by decide)]
      clear hE h1
      go_enter Tryd.func6, Tryd.ntmps6
      go_wp2_with fail
      refine (D.out).mono ?_
      rintro e w1 ⟨rfl, s1, m1, r1, n1, u1⟩
      rw [← hw0] at u1
      have hB1 := u1.blk HB0.out (fun g => g.2 (Or.inl HX.out))
      have b0 := hB1.cellAt (i := 0) rfl
      have b1 := hB1.cellAt (i := 1) rfl
      have b2 := hB1.cellAt (i := 2) rfl
      have lb := hB1.lt
      have M1 := Lib.hid m1
      have R1 := Lib.hid r1
      have N1 := Lib.hid n1
      have U1 := Lib.hid u1
      have HB1 := Lib.hid hB1
      have V1 := Lib.hid (HV.out.keep u1 (fun b hb g => hb.elim (fun h => by have := g.1; omega) (fun h => g.2 (Or.inl h))))
      clear m1 r1 n1 u1 hB1 D
      have RA := Lib.hid (right_any i _ w1 V1.out.1)
      rw [hr] at RA
      unfold itV at RA
      go_wp2_with fail
      refine (RA.out).mono ?_
      rintro e w2 ⟨rfl, u2⟩
      have U2 := Lib.hid u2
      clear u2 RA
      go_wp2
      go_ret
      have G : SGo w0 base sb X Z w2 S1 s.n := ⟨s1, M1.out.keep0 U2.out, R1.out.keep0 U2.out, N1.out, Fr.trans U1.out (Fr.of0 U2.out)⟩
      exact ⟨rfl, G.st HZ.out (by omega)⟩
    | true =>
      have hi := small_of_right hr
      have HI := Lib.hid hi
      have HK2 : Hid (key.size ≤ 512) := by show _ ≤ _; omega
      clear hi
      cases h2 : decide (costI key i > S1.budget) with
      | true =>
        have hE : putE S1 key i = 121 := by unfold putE; rw [if_neg (by rw [not_or]; exact ⟨h1, by simp [hr]⟩), if_pos (of_decide_eq_true h2)]
        have H2 := Lib.hid h2
        rw [hE, if_neg (by decide)]
        clear hE h1 h2
        go_enter Tryd.func6, Tryd.ntmps6
        go_wp2_with fail
        refine (D.out).mono ?_
        rintro e w1 ⟨rfl, s1, m1, r1, n1, u1⟩
        rw [← hw0] at u1
        have hB1 := u1.blk HB0.out (fun g => g.2 (Or.inl HX.out))
        have b0 := hB1.cellAt (i := 0) rfl
        have b1 := hB1.cellAt (i := 1) rfl
        have b2 := hB1.cellAt (i := 2) rfl
        have lb := hB1.lt
        have M1 := Lib.hid m1
        have R1 := Lib.hid r1
        have N1 := Lib.hid n1
        have U1 := Lib.hid u1
        have HB1 := Lib.hid hB1
        have V1 := Lib.hid (HV.out.keep u1 (fun b hb g => hb.elim (fun h => by have := g.1; omega) (fun h => g.2 (Or.inl h))))
        clear m1 r1 n1 u1 hB1 D
        have RA := Lib.hid (right_any i _ w1 V1.out.1)
        rw [hr] at RA
        unfold itV at RA
        go_wp2_with fail
        refine (RA.out).mono ?_
        rintro e w2 ⟨rfl, u2⟩
        have hB2 := u2.blk HB1.out (fun h => h)
        have b0 := hB2.cellAt (i := 0) rfl
        have b1 := hB2.cellAt (i := 1) rfl
        have b2 := hB2.cellAt (i := 2) rfl
        have lb := hB2.lt
        have M2 := Lib.hid (M1.out.keep0 u2)
        have R2 := Lib.hid (R1.out.keep0 u2)
        have V2 := Lib.hid (V1.out.keep u2 (fun _ _ h => h))
        have U2 := Lib.hid (Fr.trans U1.out (Fr.of0 u2))
        have HB2 := Lib.hid hB2
        have hsb := M2.out.blk.lt
        have x6 : w2.cell? ⟨sb, 6, none⟩ = some (.int .i64 s1.bud) := M2.out.blk.cellAt (i := 6) rfl
        have CO := Lib.hid (fun W (u : Upd (fun _ => False) w2 W) => cost_any key i _ W (M2.out.std.keep u) (V2.out.1.keep u (fun _ _ _ h => h)) HI.out HK.out)
        unfold itV at CO
        have rb := R2.out.bud
        rw [← rb] at H2
        have t2 : decide (costI key i > s1.bud) = true := H2.out
        clear u2 RA hB2 M1 R1 V1 U1 HB1 rb
        generalize hco : costI key i = co at *
        have HCO := Lib.hid hco
        clear hco H2
        go_upto_region 4 with (fail)
        go_cut [25] (fun v25 wx => v25 = .bool true ∧ Hid (Upd (fun _ => False) w2 wx))
        case first =>
          go_region_with (go_at_call 18; refine (CO.out _ (by first | exact Upd.refl _ _ | exact (Upd.refl _ _).drew)).mono ?_; rintro e2 w3 ⟨rfl, u3⟩; have y6 : w3.cell? ⟨sb, 6, none⟩ = some (.int .i64 s1.bud) := (u3.cell (p := ⟨sb, 6, none⟩) hsb (fun h => h)).trans x6; have l3 : sb < w3.heap.size := Nat.lt_of_lt_of_le hsb u3.size; have UU : Hid (Upd (fun _ => False) w2 w3) := (by first | exact u3 | exact ((Upd.refl _ _).drew).trans u3 (fun _ _ h => h)))
          all_goals (go_wp2_with fail; go_meet; exact ⟨rfl, by first | exact UU.out | exact UU.out.drew⟩)
        case rest =>
        obtain ⟨rfl, U3⟩ := hcut
        go_wp2
        go_ret
        have G : SGo w0 base sb X Z wc S1 s.n := ⟨s1, M2.out.keep0 U3.out, R2.out.keep0 U3.out, N1.out, Fr.trans U2.out (Fr.of0 U3.out)⟩
        exact ⟨rfl, G.st HZ.out (by omega)⟩
      | false =>
        have hE : putE S1 key i = 0 := by unfold putE; rw [if_neg (by rw [not_or]; exact ⟨h1, by simp [hr]⟩), if_neg (of_decide_eq_false h2)]
        have H2 := Lib.hid h2
        have HE := Lib.hid hE
        rw [hE, if_pos rfl]
        clear hE h1 h2
        go_enter Tryd.func6, Tryd.ntmps6
        go_wp2_with fail
        refine (D.out).mono ?_
        rintro e w1 ⟨rfl, s1, m1, r1, n1, u1⟩
        rw [← hw0] at u1
        have hB1 := u1.blk HB0.out (fun g => g.2 (Or.inl HX.out))
        have b0 := hB1.cellAt (i := 0) rfl
        have b1 := hB1.cellAt (i := 1) rfl
        have b2 := hB1.cellAt (i := 2) rfl
        have lb := hB1.lt
        have M1 := Lib.hid m1
        have R1 := Lib.hid r1
        have N1 := Lib.hid n1
        have U1 := Lib.hid u1
        have HB1 := Lib.hid hB1
        have V1 := Lib.hid (HV.out.keep u1 (fun b hb g => hb.elim (fun h => by have := g.1; omega) (fun h => g.2 (Or.inl h))))
        clear m1 r1 n1 u1 hB1 D
        have RA := Lib.hid (right_any i _ w1 V1.out.1)
        rw [hr] at RA
        unfold itV at RA
        go_wp2_with fail
        refine (RA.out).mono ?_
        rintro e w2 ⟨rfl, u2⟩
        have hB2 := u2.blk HB1.out (fun h => h)
        have b0 := hB2.cellAt (i := 0) rfl
        have b1 := hB2.cellAt (i := 1) rfl
        have b2 := hB2.cellAt (i := 2) rfl
        have lb := hB2.lt
        have M2 := Lib.hid (M1.out.keep0 u2)
        have R2 := Lib.hid (R1.out.keep0 u2)
        have V2 := Lib.hid (V1.out.keep u2 (fun _ _ h => h))
        have U2 := Lib.hid (Fr.trans U1.out (Fr.of0 u2))
        have HB2 := Lib.hid hB2
        have hsb := M2.out.blk.lt
        have x6 : w2.cell? ⟨sb, 6, none⟩ = some (.int .i64 s1.bud) := M2.out.blk.cellAt (i := 6) rfl
        have CO := Lib.hid (fun W (u : Upd (fun _ => False) w2 W) => cost_any key i _ W (M2.out.std.keep u) (V2.out.1.keep u (fun _ _ _ h => h)) HI.out HK.out)
        unfold itV at CO
        have rb := R2.out.bud
        rw [← rb] at H2
        have t2 : decide (costI key i > s1.bud) = false := H2.out
        clear u2 RA hB2 M1 R1 V1 U1 HB1 rb
        generalize hco : costI key i = co at *
        have HCO := Lib.hid hco
        clear hco H2
        go_upto_region 4 with (fail)
        go_cut [25] (fun v25 wx => v25 = .bool false ∧ Hid (Upd (fun _ => False) w2 wx))
        case first =>
          go_region_with (go_at_call 18; refine (CO.out _ (by first | exact Upd.refl _ _ | exact (Upd.refl _ _).drew)).mono ?_; rintro e2 w3 ⟨rfl, u3⟩; have y6 : w3.cell? ⟨sb, 6, none⟩ = some (.int .i64 s1.bud) := (u3.cell (p := ⟨sb, 6, none⟩) hsb (fun h => h)).trans x6; have l3 : sb < w3.heap.size := Nat.lt_of_lt_of_le hsb u3.size; have UU : Hid (Upd (fun _ => False) w2 w3) := (by first | exact u3 | exact ((Upd.refl _ _).drew).trans u3 (fun _ _ h => h)))
          all_goals (go_wp2_with fail; go_meet; exact ⟨rfl, by first | exact UU.out | exact UU.out.drew⟩)
        case rest =>
        obtain ⟨rfl, U3⟩ := hcut
        have M3 := M2.out.keep0 U3.out
        have R3 := R2.out.keep0 U3.out
        have PL := Lib.hid (place_any M3 R3 key (by have := N1.out; have := HN.out; omega) hk)
        have U3F := Lib.hid (Fr.trans U2.out (Fr.of0 U3.out))
        have HB3 := Lib.hid (U3.out.blk HB2.out (fun h => h))
        have V3 := Lib.hid (V2.out.keep U3.out (fun _ _ h => h))
        clear M3 R3 M2 R2 U2 HB2 V2 CO x6 b0 b1 b2 t2
        go_wp2_with fail
        refine (PL.out).mono ?_
        rintro e w4 ⟨j, s4, rfl, m4, p4, n4, u4⟩
        have hB4 := u4.blk HB3.out (fun g => g.2 (Or.inl HX.out))
        have b0 := hB4.cellAt (i := 0) rfl
        have b1 := hB4.cellAt (i := 1) rfl
        have b2 := hB4.cellAt (i := 2) rfl
        have lb4 := hB4.lt
        have HB4 := Lib.hid hB4
        have V4 := Lib.hid (V3.out.keep u4 (fun b hb g => hb.elim (fun h => by have := g.1; omega) (fun h => g.2 (Or.inl h))))
        obtain ⟨xj, hxj⟩ : ∃ x, s4.sl[j]? = some x := ⟨_, List.getElem?_eq_getElem p4.lt⟩
        obtain ⟨b, cp, e, hb, hne, c0, c1, c2, fr, hm⟩ := m4.slot hxj
        clear hxj
        have hsb4 := m4.blk.lt
        have x1 : w4.cell? ⟨sb, 1, none⟩ = some (.slice (some ⟨b, 0, none⟩) s4.sl.length cp) := by rw [m4.blk.cellAt (i := 1) rfl]; exact congrArg some e
        have CY := Lib.hid (fun W (u : Upd (fun _ => False) w4 W) => copy_any i _ W (V4.out.1.keep u (fun _ _ _ h => h)) (by have := HI.out.flds; omega))
        unfold itV at CY
        have f0 := fr (j * 3)
        have f1 := fr (j * 3 + 1)
        have f2 := fr (j * 3 + 2)
        have hjl : (j : Int) < (s4.sl.length : Int) := by have := p4.lt; omega
        have M4 := Lib.hid m4
        have P4 := Lib.hid p4
        have N4 := Lib.hid n4
        have U4 := Lib.hid u4
        have E4 := Lib.hid e
        clear m4 p4 n4 u4 hB4 PL fr e HB3 V3
        go_upto_region 7 with (fail)
        go_cut [11] (fun v11 wx => v11 = .int .i64 (j : Int) ∧ Hid (PutCp w4 base sb X Z s4 j i wx))
        case first =>
          go_region_with (go_at_call 20; refine (CY.out _ (by first | exact Upd.refl _ _ | exact (Upd.refl _ _).drew)).mono ?_; rintro e2 w5 ⟨v5, rfl, rv, fv, u5⟩; obtain ⟨p5, c5, ev5, _⟩ := rv.len; subst ev5; have UU : Hid (Upd (fun _ => False) w4 w5) := (by first | exact u5 | exact ((Upd.refl _ _).drew).trans u5 (fun _ _ h => h)); have y1 : w5.cell? ⟨sb, 1, none⟩ = some (.slice (some ⟨b, 0, none⟩) s4.sl.length cp) := (UU.out.cell (p := ⟨sb, 1, none⟩) hsb4 (fun h => h)).trans x1; have y2 := (UU.out.cell (p := ⟨b, j * 3, none⟩) hb (fun h => h)).trans c0; have y3 := (UU.out.cell (p := ⟨b, j * 3 + 1, none⟩) hb (fun h => h)).trans c1; have y4 := (UU.out.cell (p := ⟨b, j * 3 + 2, none⟩) hb (fun h => h)).trans c2; have h2 := (UU.out.frozen (p := ⟨b, j * 3, none⟩) hb (fun h => h)).trans f0; have h3 := (UU.out.frozen (p := ⟨b, j * 3 + 1, none⟩) hb (fun h => h)).trans f1; have h4 := (UU.out.frozen (p := ⟨b, j * 3 + 2, none⟩) hb (fun h => h)).trans f2; have l5 : b < w5.heap.size := Nat.lt_of_lt_of_le hb UU.out.size; have l6 : sb < w5.heap.size := Nat.lt_of_lt_of_le hsb4 UU.out.size; have RV := Lib.hid rv; have FV : Hid (i.flds = [] ∨ ∀ b, (Value.slice p5 i.flds.length c5).ownBlock = some b → w4.heap.size ≤ b ∧ b < w5.heap.size) := Lib.hid fv; clear rv fv u5)
          all_goals (go_wp2_with fail; go_meet; exact ⟨rfl, putCp_of M4.out UU.out RV.out FV.out P4.out.lt E4.out⟩)
        case rest =>
        obtain ⟨rfl, HQ⟩ := hcut
        obtain ⟨v5, rv5, fr5, m5, u5⟩ := HQ.out
        have hB5 := u5.blk HB4.out (fun g => g.2 (Or.inl HX.out))
        have b0 := hB5.cellAt (i := 0) rfl
        have b1 := hB5.cellAt (i := 1) rfl
        have b2 := hB5.cellAt (i := 2) rfl
        have lb5 := hB5.lt
        have HB5 := Lib.hid hB5
        have P5 := Lib.hid (P4.out.keep u5 (fun b hb g => g.2 (Or.inr hb)))
        have V5 := Lib.hid (V4.out.keep u5 (fun b hb g => hb.elim (fun h => by have := g.1; omega) (fun h => g.2 (Or.inl h))))
        have HZ5 : Hid (∀ q, Or2 Z (fX v5 i.flds) q → ¬ X q) := by
          intro q hq hx2
          rcases hq with g | g
          · exact HZ.out q g hx2
          · have := fr5 q g
            have := M4.out.xlt q (Or.inl hx2)
            omega
        obtain ⟨Z5, hZ5⟩ : ∃ Z5, Or2 Z (fX v5 i.flds) = Z5 := ⟨_, rfl⟩
        have F5 : Hid (FldAt wc Z5 v5 i.flds) := by
          have := fld_fX rv5
          exact this.to fun b hb => by rw [← hZ5]; exact Or.inr hb
        have P5b := Lib.hid (show Placed wc Z5 s4 S1 key j from { P5.out with at_ := fun c hc => let ⟨i, v, a, b, d, f⟩ := P5.out.at_ c hc; ⟨i, v, a, b, d, f.to fun b hb => by rw [← hZ5]; exact Or.inl hb⟩ })
        rw [hZ5] at m5 HZ5
        have U5 := Lib.hid (Fr.trans (Fr.sub (Y := X) U3F.out fun k _ hk => Or.inl hk) (Fr.trans (Fr.sub (Y := X) U4.out fun k _ hk => Or.inl hk) (Fr.sub (Y := X) u5 fun k _ hk => Or.inl hk)))
        have hsb5 := m5.blk.lt
        have a0 : wc.cell? ⟨sb, 0, none⟩ = some (.pointer (some ⟨s4.tb, 0, none⟩)) := m5.blk.cellAt (i := 0) rfl
        have hn4 : s4.n ≤ 9999 := by have := N4.out; have := N1.out; have := HN.out; omega
        have TP := Lib.hid (m5.tput key (j : Int) (by show s4.n ≤ _; omega) hk)
        simp only at TP
        clear rv5 fr5 m5 u5 hB5 HQ P5 HB4 V4 CY P4 M4 E4 U4 U3F x1 c0 c1 c2 f0 f1 f2 hb hjl hZ5 HZ
        go_wp2_with fail
        refine (TP.out).mono ?_
        rintro e w6 ⟨bb, rfl, P6⟩
        have hB6 := P6.2.blk HB5.out (fun g => g.2 (Or.inl HX.out))
        have b0 := hB6.cellAt (i := 0) rfl
        have b1 := hB6.cellAt (i := 1) rfl
        have b2 := hB6.cellAt (i := 2) rfl
        have lb6 := hB6.lt
        have V6 := Lib.hid (V5.out.keep P6.2 (fun b hb g => hb.elim (fun h => by have := g.1; omega) (fun h => g.2 (Or.inl h))))
        have hsb6 := P6.1.blk.lt
        have x5 : w6.cell? ⟨sb, 5, none⟩ = some (.int .i64 s4.byt) := P6.1.blk.cellAt (i := 5) rfl
        have fx := P6.1.blk.free 5
        have CO := Lib.hid (fun W (u : Upd (fun _ => False) w6 W) => cost_any key i _ W (P6.1.std.keep u) (V6.out.1.keep u (fun _ _ _ h => h)) HI.out HK.out)
        unfold itV at CO
        rw [HCO.out] at CO
        have HB := Lib.hid P6.1.blk
        have q0 := costI_pos key i
        have q1 := costI_le HI.out HK.out
        rw [HCO.out] at q0 q1
        have q2 : 0 ≤ s4.byt ∧ s4.byt ≤ 3000000000000 := by
          rw [P5b.out.byt]
          have h1 := bytesC_nonneg (delC S1.cells key)
          have h2 := bytesC_le (l := delC S1.cells key) fun c hc => ⟨small_of_right (P5b.out.ok.small c (delC_mem.1 hc).1).1, by have := (P5b.out.ok.small c (delC_mem.1 hc).1).2; omega⟩
          have h3 := P5b.out.cln
          exact ⟨h1, by omega⟩
        have HWR : Hid (IntKind.i64.wrap (s4.byt + co) = s4.byt + co) := i64w (by omega) (by omega)
        have PP6 := Lib.hid P6
        clear P6 hB6 TP V5 HB5 a0
        go_upto_region 9 with (fail)
        go_cut [11] (fun v11 wx => v11 = .int .i64 (j : Int) ∧ Hid (PartTo w6 base sb (Or2 X Z5) wx { s4 with sl := s4.sl.set j (i.kind, i.text, v5), m := aset s4.m key (j : Int), n := s4.n + 1, byt := s4.byt + co }))
        case first =>
          go_region_with (go_at_call 18; refine (CO.out _ (by first | exact Upd.refl _ _ | exact (Upd.refl _ _).drew)).mono ?_; rintro e2 w7 ⟨rfl, u7⟩; have B7 := u7.blk HB.out (fun h => h); have y5 : w7.cell? ⟨sb, 5, none⟩ = some (.int .i64 s4.byt) := B7.cellAt (i := 5) rfl; have l7 := B7.lt; have g5 := B7.free 5; have UU : Hid (Upd (fun _ => False) w6 w7) := (by first | exact u7 | exact ((Upd.refl _ _).drew).trans u7 (fun _ _ h => h)))
          all_goals (go_wp2_with fail; go_meet; rw [HWR.out]; exact ⟨rfl, (PartTo.of0 PP6.out.1 UU.out).trans ((PP6.out.1.keep0 UU.out).bytSet _)⟩)
        case rest =>
        obtain ⟨rfl, P9⟩ := hcut
        have hsb9 := P9.out.1.blk.lt
        have x3 : wc.cell? ⟨sb, 3, none⟩ = some (.pointer (some ⟨s4.rb, 0, none⟩)) := P9.out.1.blk.cellAt (i := 3) rfl
        have RT := Lib.hid (P9.out.1.rtouch key)
        simp only at RT
        have PP9 := Lib.hid (PP6.out.trans P9.out)
        clear P9 PP6 HB x5 fx CO V6 b0 b1 b2
        go_wp2_with fail
        refine (RT.out).mono ?_
        rintro e w10 ⟨rfl, P10⟩
        have PP10 := Lib.hid (PP9.out.trans P10)
        clear P10 RT PP9 x3
        have HLL : Hid (S1.events.length ≤ 800001) := by have := DL.out; have := HL.out; show _ ≤ _; omega
        cases keep with
        | true =>
          have rr := ((P5b.out.keep PP10.out.2 (fun b hb g => g.2 (Or.inr hb))).take HE.out (F5.out.keep PP10.out.2 (fun b hb g => g.2 (Or.inr hb))) true (l := s4.l) (by simp) HCO.out)
          have G : Hid (SGo w10 base sb X Z5 w10 { laidP S1 key i true with events := S1.events } (s4.n + 1)) := ⟨_, PP10.out.1, rr, Nat.le_refl _, Upd.refl _ _⟩
          clear rr
          go_wp2_with fail
          refine ((G.out.tell (1, key) (by have := HLL.out; show S1.events.length ≤ _; omega)).out).mono ?_
          rintro e w13 ⟨rfl, G13⟩
          obtain ⟨s13, m13, r13, n13, u13⟩ := G13
          have EV := Lib.hid (evict_any m13 r13 key (by omega) (a0 := delC S1.cells key) (c0 := ⟨key, i, keepC S1.cells key true⟩) rfl rfl (by have := HLL.out; show (S1.events ++ [_]).length ≤ _; simp; omega))
          have N13 := Lib.hid n13
          have U13 := Lib.hid u13
          clear m13 r13 n13 u13 G
          go_wp2_with fail
          refine (EV.out).mono ?_
          rintro e w14 ⟨rfl, G14⟩
          have GG := Lib.hid G14
          clear G14 EV
          go_wp2
          go_ret
          obtain ⟨h5, h6⟩ := GG.out.st (N := s.n + 1) HZ5.out (by have := N13.out; have := N4.out; have := N1.out; omega)
          exact ⟨rfl, h5, Fr.trans U5.out (Fr.trans (Fr.sub (Y := X) PP10.out.2 fun k _ hk => Or.inl hk) (Fr.trans (Fr.sub (Y := X) U13.out fun k _ hk => Or.inl hk) h6))⟩
        | false =>
          have hsb10 := PP10.out.1.blk.lt
          have x4 : w10.cell? ⟨sb, 4, none⟩ = some (.pointer (some ⟨s4.xb, 0, none⟩)) := PP10.out.1.blk.cellAt (i := 4) rfl
          have XD := Lib.hid (PP10.out.1.xdrop key (by
            show s4.l.length ≤ _
            rw [P5b.out.l]
            have h1 := duesC_len S1.cells
            have h2 := delC_len1 P5b.out.ok.nd key
            have h3 := P5b.out.cln
            omega))
          simp only at XD
          go_wp2_with fail
          refine (XD.out).mono ?_
          rintro e w11 ⟨rfl, P11⟩
          have PP11 := Lib.hid (PP10.out.trans P11)
          clear P11 XD x4 PP10
          have rr := ((P5b.out.keep PP11.out.2 (fun b hb g => g.2 (Or.inr hb))).take HE.out (F5.out.keep PP11.out.2 (fun b hb g => g.2 (Or.inr hb))) false (l := dropD key s4.l) (by simp) HCO.out)
          have G : Hid (SGo w11 base sb X Z5 w11 { laidP S1 key i false with events := S1.events } (s4.n + 1)) := ⟨_, PP11.out.1, rr, Nat.le_refl _, Upd.refl _ _⟩
          clear rr
          go_wp2_with fail
          refine ((G.out.tell (1, key) (by have := HLL.out; show S1.events.length ≤ _; omega)).out).mono ?_
          rintro e w13 ⟨rfl, G13⟩
          obtain ⟨s13, m13, r13, n13, u13⟩ := G13
          have EV := Lib.hid (evict_any m13 r13 key (by omega) (a0 := delC S1.cells key) (c0 := ⟨key, i, keepC S1.cells key false⟩) rfl rfl (by have := HLL.out; show (S1.events ++ [_]).length ≤ _; simp; omega))
          have N13 := Lib.hid n13
          have U13 := Lib.hid u13
          clear m13 r13 n13 u13 G
          go_wp2_with fail
          refine (EV.out).mono ?_
          rintro e w14 ⟨rfl, G14⟩
          have GG := Lib.hid G14
          clear G14 EV
          go_wp2
          go_ret
          obtain ⟨h5, h6⟩ := GG.out.st (N := s.n + 1) HZ5.out (by have := N13.out; have := N4.out; have := N1.out; omega)
          exact ⟨rfl, h5, Fr.trans U5.out (Fr.trans (Fr.sub (Y := X) PP11.out.2 fun k _ hk => Or.inl hk) (Fr.trans (Fr.sub (Y := X) U13.out fun k _ hk => Or.inl hk) h6))⟩
theorem sput_any {w : World} {base sb : Nat} {X : Nat → Prop} {S : PS} {N : Nat} (h : SSt w base sb X S N) (key : ByteArray) (i : It) (v : Value) (keep : Bool) (now : Int) (hv : FldAt w (fun b => b < base ∨ X b) v i.flds) (hN : N ≤ 9999) (hk : key.size ≤ 100000) (hl : S.events.length ≤ 800000) :
    Calls Tryd.prog 6 #[.pointer (some ⟨sb, 0, none⟩), .string key, itV i v, .bool keep, .int .i64 now] w fun e w' => e = .returned (.int .i64 (putE (dueP S key now) key i)) ∧ SSt w' base sb X (putP S key i keep now) (N + 1) ∧ Upd (Fr base X) w w' := by
  obtain ⟨p, c, ev, _⟩ := hv.1.len
  subst ev
  have u0 : Upd (fun _ => False) w (w.alloc (.cells #[.int .i64 i.kind, .string i.text, .slice p i.flds.length c] 29)) := (Upd.refl _ _).alloc _
  obtain ⟨s, Z, m, hz, r, hn⟩ := h.also (Y := fun q => X q ∨ q = w.heap.size) u0 (fun b hb => hb.imp id (fun e => by subst e; simp))
  refine (put_raw m r key i p c keep now rfl rfl (Or.inr rfl) (hv.to fun b hb => hb.imp id Or.inl) hz (by omega) hk hl).mono ?_
  rintro e w' ⟨rfl, h5, h6⟩
  exact ⟨rfl, (h5.less fun b hb => Or.inl hb).more (by omega), Fr.trans (Fr.of0 u0) (h6.weaken fun k hk g => ⟨g.1, fun hx => g.2 (Or.inl hx)⟩)⟩
end Go.Proofs.YtcdihffcncaibaaDoor
/- Walk: nearhandref06.Same. -/
set_option linter.unusedVariables false
set_option linter.unusedSimpArgs false
namespace Go.Proofs.YtcdihffcncaibaaDoor
open Go.RowKit

theorem StrsAt.row {w : World} {base : Nat} {v : Value} {l : List ByteArray} (h : StrsAt w base v l) : RowOf strc 1 w v l := by
  rcases h.2 with ⟨rfl, hn⟩ | ⟨g, cap, cur, rfl, hg, hb, h1, h2, h3, h4⟩
  · exact Or.inl ⟨none, 0, rfl, by cases l <;> simp_all⟩
  · refine Or.inr ⟨g, 0, cap, rfl, (Array.getElem?_eq_some_iff.1 hb).1, by omega, fun i a hi j hj => ?_⟩
    obtain rfl : j = 0 := by omega
    have hil : i < l.length := (List.getElem?_eq_some_iff.1 hi).1
    have := World.ownsRow.cellAt (w := w) (g := g) (cap := cap) (base := base) (e := 9) (size := 1) (n := l.length) (xs := l.map Value.string) ⟨h.1, Or.inr ⟨g, cap, cur, rfl, hg, hb, h1, h2, h3, h4⟩⟩ i (by omega)
    have e : (0 + (i * 1 + 0)) = i := by omega
    rw [e, this]
    simp [strc, hi]

end Go.Proofs.YtcdihffcncaibaaDoor
/- Walks: Sweep, Flush, Events, Bytes, Len, Keys, New. -/
set_option linter.unusedVariables false
set_option linter.unusedSimpArgs false
namespace Go.Proofs.YtcdihffcncaibaaDoor
open Go.RowKit

section
variable {w w1 w' : World} {base sb : Nat} {s : SV} {X Y Z : Nat → Prop} {S S1 : PS} {n N : Nat} {key : ByteArray}
theorem goneL_take {S : PS} {l : List ByteArray} {k : Nat} {x : ByteArray} (h : l[k]? = some x) : goneL S (l.take (k + 1)) = goneP (goneL S (l.take k)) x 3 := by
  obtain ⟨h1, e⟩ := List.getElem?_eq_some_iff.1 h
  unfold goneL
  rw [List.take_succ_eq_append_getElem h1, e, List.foldl_append]; rfl
theorem goneL_len (S : PS) (l : List ByteArray) : (goneL S l).events.length ≤ S.events.length + l.length := by
  unfold goneL
  induction l generalizing S with
  | nil => simp
  | cons x r ih =>
    have := ih (goneP S x 3)
    have := gone_len S x 3
    simp only [List.foldl_cons, List.length_cons]; omega
theorem sweepL_sub (S : PS) (now most : Int) : (sweepL S now most).length ≤ S.cells.length ∧ ∀ k ∈ sweepL S now most, k ∈ keysC S.cells := by
  have hd : ∀ d ∈ (dueD now (duesC S.cells)).take most.toNat, d ∈ duesC S.cells := fun d hd => (List.takeWhile_sublist _).subset (List.mem_of_mem_take hd)
  constructor
  · unfold sweepL
    rw [List.length_map, List.length_take]
    have : (dueD now (duesC S.cells)).length ≤ (duesC S.cells).length := (List.takeWhile_sublist _).length_le
    have := duesC_len S.cells
    omega
  · intro k hk
    unfold sweepL at hk
    obtain ⟨d, hd2, rfl⟩ := List.mem_map.1 hk
    exact duesC_keys (List.mem_map.2 ⟨d, hd d hd2, rfl⟩)
theorem str_cell {w : World} {v : Value} {l : List ByteArray} (h : RowOf strc 1 w v l) {k : Nat} {x : ByteArray} (hk : l[k]? = some x) : ∃ b off cap, v = .slice (some ⟨b, off, none⟩) l.length cap ∧ b < w.heap.size ∧ w.cell? ⟨b, off + k, none⟩ = some (.string x) := by
  rcases h with ⟨_, _, _, e⟩ | ⟨b, off, c, e, hb, _, hc⟩
  · rw [e] at hk; simp at hk
  · refine ⟨b, off, c, e, hb, ?_⟩
    have := hc k x hk 0 (by omega)
    simpa [strc] using this
end
set_option maxHeartbeats 4000000 in
set_option maxRecDepth 100000 in
theorem sevents_any {w : World} {base sb : Nat} {X : Nat → Prop} {S : PS} {N : Nat} (h : SSt w base sb X S N) :
    Calls Tryd.prog 9 #[.pointer (some ⟨sb, 0, none⟩)] w fun e w' => ∃ v, e = .returned v ∧ OwnN evc 2 37 w' base v S.events ∧ SSt w' base sb (fun q => X q ∨ fOf v q) { S with events := [] } N ∧ Upd (Fr base X) w w' := by
  obtain ⟨s, Z, m, hz, r, hn⟩ := h
  have hsb := m.blk.lt
  obtain ⟨p0, c0, e0, _⟩ := m.evs.slice
  have x7 : w.cell? ⟨sb, 7, none⟩ = some (.slice p0 s.ev.length c0) := by rw [m.blk.cellAt (i := 7) rfl]; exact congrArg some e0
  have f7 := m.blk.free 7
  have EV := Lib.hid m.evs
  have NB := Lib.hid (m.nsb (b := sb)).2.2
  have hs := m.blk.set 7 (.slice none 0 0)
  have u2 : Upd (fun b => b = sb) w (w.setCell ⟨sb, 7, none⟩ (.slice none 0 0)) := (Upd.refl (fun b => b = sb) w).set (b := sb) (o := 7) (v := .slice none 0 0) (fun _ => rfl)
  have hzz : ∀ b, Z b → ¬ fOf s.evv b := by
    obtain ⟨F, mr, d, x⟩ := m
    exact fun b hb g => d 6 b (mr.f6 b g) (Or.inr hb)
  have Q := Lib.hid (m.evsOff (Y := Or2 (fun q => X q ∨ fOf s.evv q) Z) u2 hs (fun b hb => by
    rcases hb with (g | g) | g
    · exact Or.inl (Or.inl g)
    · exact Or.inr g
    · exact Or.inl (Or.inr g)))
  have R := Lib.hid r
  have HN := Lib.hid hn
  have HZ := Lib.hid hz
  have HZZ := Lib.hid hzz
  have RE := Lib.hid r.ev
  have U2 := Lib.hid u2
  clear m r hn hz hs hzz u2
  rw [e0] at EV Q HZZ NB
  generalize s.ev.length = n at *
  go_enter Tryd.func9, Tryd.ntmps9
  go_wp2
  go_ret
  have rr := R.out.keepF Q.out.2
  refine ⟨_, rfl, ?_, ⟨_, Z, Q.out.1, ?_, ⟨⟨rr.ok.nd, rr.ok.small, rr.ok.whens, rr.ok.bud, rr.ok.fit⟩, rr.km, rr.nd, rr.at_, rr.inj, rr.frOk, rr.frnd, rr.ks, rr.l, rr.byt, rr.bud, rfl, rr.sln, rr.cln⟩, HN.out⟩, Fr.sub Q.out.2 fun k _ hk => Or.inl hk⟩
  · rw [← RE.out]
    exact EV.out.keep U2.out fun b hb e => NB.out (by rw [← e]; exact hb) rfl
  · rintro b hb (g | g)
    · exact HZ.out b hb g
    · exact HZZ.out b hb g
theorem sbytes_any {w : World} {base sb : Nat} {X : Nat → Prop} {S : PS} {N : Nat} (h : SSt w base sb X S N) :
    Calls Tryd.prog 12 #[.pointer (some ⟨sb, 0, none⟩)] w fun e w' => e = .returned (.int .i64 (bytesC S.cells)) ∧ w' = w := by
  obtain ⟨s, B, hb, hd⟩ := h.blk
  have x5 : w.cell? ⟨sb, 5, none⟩ = some (.int .i64 s.byt) := B.cellAt (i := 5) rfl
  have hsb := B.lt
  rw [hb] at x5
  clear B hd hb
  go_enter Tryd.func12, Tryd.ntmps12
  go_wp2
  go_ret
  exact ⟨rfl, rfl⟩
theorem SSt.tlenAt {w : World} {base sb : Nat} {X : Nat → Prop} {S : PS} {N : Nat} (h : SSt w base sb X S N) (hN : N ≤ 10000) : ∃ tb, w.cell? ⟨sb, 0, none⟩ = some (.pointer (some ⟨tb, 0, none⟩)) ∧ sb < w.heap.size ∧
    (∀ w2, Upd (fun _ => False) w w2 → Calls Tryd.prog 11 #[.pointer (some ⟨tb, 0, none⟩)] w2 fun e w' => e = .returned (.int .i64 (S.cells.length : Int)) ∧ Upd (fun _ => False) w2 w') := by
  obtain ⟨s, Z, m, hz, r, hn⟩ := h
  refine ⟨s.tb, m.blk.cellAt (i := 0) rfl, m.blk.lt, fun w2 u => ?_⟩
  have := (m.keep0 u).tlen (by omega)
  rw [r.mlen] at this; exact this
end Go.Proofs.YtcdihffcncaibaaDoor
/- Walk: New. -/
set_option linter.unusedVariables false
set_option linter.unusedSimpArgs false
namespace Go.Proofs.YtcdihffcncaibaaDoor
open Go.RowKit

theorem new_mem {w w1 w2 w3 w4 : World} {tb rb xb : Nat} {ET ER EX : Nat → Prop} {bud : Int} (hB : Blk w4 w3.heap.size [ptr tb, .slice none 0 0, .slice none 0 0, ptr rb, ptr xb, .int .i64 0, .int .i64 (newP bud).budget, .slice none 0 0] 45)
    (t1 : TabM w4 tb [] 0 ET) (t2 : RecRep w4 rb [] ER) (t3 : ExpAt w4 w.heap.size xb [] EX) (l1 : ∀ k, ET k → k < w1.heap.size) (l2 : ∀ k, ER k → k < w2.heap.size) (l3 : ∀ k, EX k → k < w3.heap.size)
    (g1 : ∀ k, ET k → w.heap.size ≤ k) (g2 : ∀ k, ER k → w1.heap.size ≤ k) (g3 : ∀ k, EX k → w2.heap.size ≤ k) (z1 : w.heap.size ≤ w1.heap.size) (z2 : w1.heap.size ≤ w2.heap.size) (z3 : w2.heap.size ≤ w3.heap.size) (z4 : w4.heap.size = w3.heap.size + 1)
    (hstd : Std w4) (hlow : lowB ≤ w.heap.size) : SSt w4 w.heap.size w3.heap.size (fun _ => False) (newP bud) 0 := by
  obtain ⟨F, hF⟩ : ∃ F : Nat → Nat → Prop, F = fun i b => (i = 0 ∧ b = w3.heap.size) ∨ (i = 1 ∧ ET b) ∨ (i = 4 ∧ ER b) ∨ (i = 5 ∧ EX b) := ⟨_, rfl⟩
  have rng : ∀ i b, F i b → (i = 0 ∧ b = w3.heap.size) ∨ (i = 1 ∧ w.heap.size ≤ b ∧ b < w1.heap.size) ∨ (i = 4 ∧ w1.heap.size ≤ b ∧ b < w2.heap.size) ∨ (i = 5 ∧ w2.heap.size ≤ b ∧ b < w3.heap.size) := by
    intro i b h
    rw [hF] at h
    rcases h with ⟨rfl, h⟩ | ⟨rfl, h⟩ | ⟨rfl, h⟩ | ⟨rfl, h⟩
    · exact Or.inl ⟨rfl, h⟩
    · exact Or.inr (Or.inl ⟨rfl, g1 b h, l1 b h⟩)
    · exact Or.inr (Or.inr (Or.inl ⟨rfl, g2 b h, l2 b h⟩))
    · exact Or.inr (Or.inr (Or.inr ⟨rfl, g3 b h, l3 b h⟩))
  have e1 : ET = F 1 := by rw [hF]; funext b; simp
  have e4 : ER = F 4 := by rw [hF]; funext b; simp
  have e5 : EX = F 5 := by rw [hF]; funext b; simp
  have e0 : F 0 w3.heap.size := by rw [hF]; exact Or.inl ⟨rfl, rfl⟩
  rw [e1] at t1
  rw [e4] at t2
  rw [e5] at t3
  have raw : SRaw w4 w.heap.size w3.heap.size ⟨tb, rb, xb, .slice none 0 0, .slice none 0 0, .slice none 0 0, 0, (newP bud).budget, [], 0, [], [], [], [], []⟩ F :=
    ⟨hB, t1, OwnN.none, World.ownsRow_nil _ _ _ _, t2, t3, OwnN.none, e0, (fun b hb => by cases hb), (fun b hb => by cases hb), (fun b hb => by cases hb),
      (fun i j b hi hj => by have a := rng i b hi; have c := rng j b hj; omega), (fun i b hi => by have a := rng i b hi; omega), (by omega), hstd, hlow⟩
  refine ⟨_, fun _ => False, ⟨F, raw, fun i b _ h => h.elim id id, fun b h => h.elim (fun g => g.elim) (fun g => g.elim)⟩, fun b h => h.elim, ?_, Nat.le_refl _⟩
  exact ⟨POk.new bud, fun k => by simp [aget, newP, keysC], by simp [akeys], by simp [newP], fun k k' i h => by simp [aget] at h, by simp, by simp, rfl, rfl, rfl, rfl, rfl, by simp, by simp [newP]⟩
set_option maxHeartbeats 8000000 in
set_option maxRecDepth 100000 in
theorem snew_any (bud : Int) (w : World) (hs : Std w) :
    Calls Tryd.prog 5 #[.int .i64 bud] w fun e w' => ∃ sb, e = .returned (.pointer (some ⟨sb, 0, none⟩)) ∧ SSt w' w.heap.size sb (fun _ => False) (newP bud) 0 ∧ Upd (fun _ => False) w w' := by
  have HS := Lib.hid hs
  have T := Lib.hid (mnew_any w)
  clear hs
  go_enter Tryd.func5, Tryd.ntmps5
  go_wp2_with fail
  refine (T.out).mono ?_
  rintro e w1 ⟨tb, ET, rfl, t, u1, g1⟩
  have T1 := Lib.hid t
  have U1 := Lib.hid u1
  have G1 := Lib.hid g1
  clear t u1 g1 T
  go_wp2_with fail
  refine (rnew_any w1).mono ?_
  rintro e w2 ⟨rb, ER, rfl, t, u2, g2⟩
  have T2 := Lib.hid t
  have U2 := Lib.hid u2
  have G2 := Lib.hid g2
  clear t u2 g2
  go_wp2_with fail
  refine (xnew_any w2 w.heap.size).mono ?_
  rintro e w3 ⟨xb, EX, rfl, t, u3, g3⟩
  have T3 := Lib.hid t
  have U3 := Lib.hid u3
  have G3 := Lib.hid g3
  clear t u3 g3
  go_wp2
  go_ret
  have u4 : Upd (fun _ => False) w3 (w3.alloc (.cells #[ptr tb, .slice none 0 0, .slice none 0 0, ptr rb, ptr xb, .int .i64 0, .int .i64 (newP bud).budget, .slice none 0 0] 45)) := (Upd.refl _ _).alloc _
  have hB := Blk.made w3 [ptr tb, .slice none 0 0, .slice none 0 0, ptr rb, ptr xb, .int .i64 0, .int .i64 (newP bud).budget, .slice none 0 0] 45
  have t1 := ((T1.out.keep U2.out (fun _ _ h => h)).keep U3.out (fun _ _ h => h)).keep u4 (fun _ _ h => h)
  have t2 := (T2.out.keep U3.out (fun _ _ h => h)).keep u4 (fun _ _ h => h)
  have t3 := T3.out.keep u4 (fun _ _ h => h)
  have uu : Upd (fun _ => False) w (w3.alloc (.cells #[ptr tb, .slice none 0 0, .slice none 0 0, ptr rb, ptr xb, .int .i64 0, .int .i64 (newP bud).budget, .slice none 0 0] 45)) := ((U1.out.trans U2.out (fun _ _ h => h)).trans U3.out (fun _ _ h => h)).trans u4 (fun _ _ h => h)
  have hstd := HS.out.keep uu
  exact ⟨w3.heap.size, rfl, new_mem hB t1 t2 t3 T1.out.lt T2.out.lt T3.out.lt G1.out G2.out G3.out U1.out.size U2.out.size U3.out.size (by simp) hstd HS.out.low, uu⟩
end Go.Proofs.YtcdihffcncaibaaDoor
