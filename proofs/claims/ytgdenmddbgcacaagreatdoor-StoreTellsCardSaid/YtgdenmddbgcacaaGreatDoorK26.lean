/- Walk: Put. -/
import Derived.Test.YtgdenmddbgcacaaGreatDoorK25
import Derived.Test.YtgdenmddbgcacaaGreatDoorK18
import Derived.Test.YtgdenmddbgcacaaGreatDoorK21
import Derived.Test.YtgdenmddbgcacaaGreatDoorK19
import Derived.Deep.DeepCutAuto
import Derived.Test.YtgdenmddbgcacaaGreatDoorK24
set_option linter.unusedVariables false
set_option linter.unusedSimpArgs false
namespace Go.Proofs.YtgdenmddbgcacaaGreatDoor
open Go.RowKit

section
variable {w w' : World} {base sb : Nat} {s : SV} {X Z : Nat → Prop} {S : PS} {key : ByteArray} {at' : Nat}
theorem keepC_dues (h : POk S) (i : It) : duesC (delC S.cells key ++ [⟨key, i, keepC S.cells key true⟩]) = duesC S.cells := by
  have hn := laid_nd h.nd key i (keepC S.cells key true)
  refine rise_ext (duesC_rise hn) (duesC_rise h.nd) fun d => ?_
  rw [duesC_mem, duesC_mem]
  have ek0 : lookC S.cells key = none → keepC S.cells key true = -1 := fun h => by unfold keepC; simp [h]
  have ek1 : ∀ c, lookC S.cells key = some c → keepC S.cells key true = c.when := fun c h => by unfold keepC; simp [h]
  constructor
  · rintro ⟨c, hc, g, rfl⟩
    rcases List.mem_append.1 hc with hc | hc
    · exact ⟨c, (delC_mem.1 hc).1, g, rfl⟩
    · obtain rfl := List.mem_singleton.1 hc
      simp only at g
      cases hl : lookC S.cells key with
      | none => rw [ek0 hl] at g; omega
      | some c =>
        rw [ek1 c hl] at g ⊢
        obtain ⟨h1, h2⟩ := lookC_some hl
        exact ⟨c, h1, g, by simp [h2]⟩
  · rintro ⟨c, hc, g, rfl⟩
    by_cases e : c.key = key
    · refine ⟨⟨key, i, keepC S.cells key true⟩, by simp, ?_, ?_⟩
      · have hl := lookC_of h.nd hc
        rw [e] at hl
        simp only; rw [ek1 c hl]; exact g
      · have hl := lookC_of h.nd hc
        rw [e] at hl
        simp only; rw [ek1 c hl, e]
    · exact ⟨c, List.mem_append_left _ (delC_mem.2 ⟨hc, e⟩), g, rfl⟩
theorem nokeep_dues (h : POk S) (i : It) : duesC (delC S.cells key ++ [⟨key, i, -1⟩]) = dropD key (duesC S.cells) := by
  rw [duesC_app _ (laid_nd h.nd key i (-1)), if_neg (by show ¬ (0 : Int) ≤ -1; omega), duesC_del h.nd]
/-- The place is taken. -/
theorem Placed.take (p : Placed w Z s S key at') {i : It} (hp : putE S key i = 0) {v : Value} (hf : FldAt w Z v i.flds) (keep : Bool) {l : List DueP} (hl : l = if keep = true then s.l else dropD key s.l) {co : Int} (hco : costI key i = co) :
    SRel w Z { s with sl := s.sl.set at' (i.kind, i.text, v), m := aset s.m key (at' : Int), n := s.n + 1, byt := s.byt + co, ks := touched s.ks key, l := l } { laidP S key i keep with events := S.events } := by
  have hok := p.ok.laid hp keep
  refine ⟨⟨hok.nd, hok.small, hok.whens, hok.bud, hok.fit⟩, fun k => ?_, nodup_aset p.nd _ _, fun c hc => ?_, fun k k' j h1 h2 => ?_, fun j hj => ?_, p.frnd, ?_, ?_, ?_, p.bud, p.ev, ?_, ?_⟩
  · show (aget (aset s.m key (at' : Int)) k).isSome = decide (k ∈ keysC (delC S.cells key ++ [⟨key, i, keepC S.cells key keep⟩]))
    rw [aget_aset, ← lookC_isSome, lookC_app, lookC_delC]
    by_cases e : key = k
    · subst e; simp
    · have e2 : ¬ k = key := fun g => e g.symm
      rw [if_neg e, if_neg e2, p.km k e2, ← lookC_isSome]; simp [e]
  · rcases List.mem_append.1 hc with hc | hc
    · obtain ⟨j, v2, hj, a, b, f⟩ := p.at_ c hc
      refine ⟨j, v2, ?_, ?_, f⟩
      · show aget (aset s.m key _) c.key = _
        rw [aget_aset, if_neg (fun e => (delC_mem.1 hc).2 e.symm)]; exact a
      · show (s.sl.set at' _)[j]? = _
        rw [List.getElem?_set_ne (fun e => hj e.symm)]; exact b
    · obtain rfl := List.mem_singleton.1 hc
      refine ⟨at', v, ?_, ?_, hf⟩
      · show aget (aset s.m key _) key = _
        rw [aget_aset, if_pos rfl]
      · show (s.sl.set at' _)[at']? = _
        rw [List.getElem?_set_self p.lt]
  · simp only [aget_aset] at h1 h2
    by_cases e1 : key = k <;> by_cases e2 : key = k'
    · rw [← e1, ← e2]
    · rw [if_pos e1] at h1; rw [if_neg e2] at h2
      exact absurd (by rw [← h1] at h2; exact h2) (p.other k' (fun e => e2 e.symm))
    · rw [if_neg e1] at h1; rw [if_pos e2] at h2
      exact absurd (by rw [← h2] at h1; exact h1) (p.other k (fun e => e1 e.symm))
    · rw [if_neg e1] at h1; rw [if_neg e2] at h2
      exact p.inj _ _ _ h1 h2
  · obtain ⟨n, e, h1, h2, h3⟩ := p.frOk j hj
    refine ⟨n, e, by simpa using h1, fun k hk => ?_⟩
    rw [aget_aset] at hk
    split at hk
    · have := Option.some.inj hk; omega
    · exact h3 k hk
  · show touched s.ks key = keysC (delC S.cells key ++ [_])
    rw [p.ks]; unfold touched; rw [← delC_erase p.ok.nd]; simp [keysC]
  · show l = duesC (delC S.cells key ++ [⟨key, i, keepC S.cells key keep⟩])
    rw [hl, p.l]
    cases keep with
    | true => rw [if_pos rfl, keepC_dues p.ok]
    | false => rw [if_neg (by simp)]; exact (nokeep_dues p.ok i).symm
  · show s.byt + co = bytesC (delC S.cells key ++ [⟨key, i, _⟩])
    rw [bytesC_app, p.byt, ← hco]; simp [bytesC]
  · show (s.sl.set at' _).length ≤ s.n + 1
    rw [List.length_set]; exact p.sln
  · show (delC S.cells key ++ [_]).length ≤ s.n + 1
    rw [List.length_append]; have := p.cln; simp; omega
theorem laid_last (S : PS) (key : ByteArray) (i : It) (keep : Bool) : ∃ a c, (laidP S key i keep).cells = a ++ [c] ∧ c.key = key := ⟨_, _, rfl, rfl⟩
end
theorem delC_len1 {l : List Ce} (h : (keysC l).Nodup) (k : ByteArray) : l.length ≤ (delC l k).length + 1 := by
  have e := congrArg List.length (delC_erase h k)
  have h1 : (keysC (delC l k)).length = (delC l k).length := by simp [keysC]
  have h2 : (keysC l).length = l.length := by simp [keysC]
  rw [h1] at e
  by_cases hk : k ∈ keysC l
  · rw [List.length_erase_of_mem hk] at e; omega
  · rw [List.erase_of_not_mem hk] at e; omega
/-- Behind the copy: it lies in a slot. -/
def PutCp (w3 : World) (base sb : Nat) (X Z : Nat → Prop) (s2 : SV) (at' : Nat) (i : It) (wx : World) : Prop := ∃ v', RowOf fdc 2 wx v' i.flds ∧ (∀ q, fX v' i.flds q → w3.heap.size ≤ q) ∧ SMem wx base sb (Or2 X (Or2 Z (fX v' i.flds))) { s2 with sl := s2.sl.set at' (i.kind, i.text, v') } ∧ Upd (Fr base (Or2 X Z)) w3 wx
theorem putCp_of {w3 w4 : World} {base sb : Nat} {X Z : Nat → Prop} {s2 : SV} {at' : Nat} {i : It} {v' : Value} {b cp : Nat} (m : SMem w3 base sb (Or2 X Z) s2) (u : Upd (fun _ => False) w3 w4) (hr : RowOf fdc 2 w4 v' i.flds) (ho : i.flds = [] ∨ ∀ b, v'.ownBlock = some b → w3.heap.size ≤ b ∧ b < w4.heap.size) (hlt : at' < s2.sl.length)
    (e : s2.slv = .slice (some ⟨b, 0, none⟩) s2.sl.length cp) :
    PutCp w3 base sb X Z s2 at' i (((w4.setCell ⟨b, at' * 3, none⟩ (.int .i64 i.kind)).setCell ⟨b, at' * 3 + 1, none⟩ (.string i.text)).setCell ⟨b, at' * 3 + 2, none⟩ v') := by
  have m4 := m.also (Y := Or2 X (Or2 Z (fX v' i.flds))) u fun q hq => by
    rcases hq with g | g | g
    · exact Or.inl (Or.inl g)
    · exact Or.inl (Or.inr g)
    · rcases ho with h | h
      · exact absurd h g.2
      · exact Or.inr (h q g.1)
  have P := m4.slotTo (y := (i.kind, i.text, v')) (List.getElem?_eq_getElem hlt) e
  refine ⟨v', ?_, fun q hq => ?_, P.1, ?_⟩
  · by_cases h : i.flds = []
    · rw [h] at hr ⊢; exact hr.nilTo
    · exact hr.keep P.2 fun q _ hq g => g.2 (Or.inr (Or.inr ⟨hq, h⟩))
  · rcases ho with h | h
    · exact absurd h hq.2
    · exact (h q hq.1).1
  · exact Fr.trans (Fr.of0 u) (P.2.weaken fun k _ g => ⟨g.1, fun h => g.2 (h.elim Or.inl fun z => Or.inr (Or.inl z))⟩)
set_option maxHeartbeats 16000000 in
set_option maxRecDepth 100000 in
theorem put_raw {w w0 : World} {base sb xb : Nat} {s : SV} {X Z : Nat → Prop} {S : PS} (m : SMem w0 base sb (Or2 X Z) s) (r : SRel w0 Z s S) (key : ByteArray) (i : It) (p : Option Addr) (c : Nat) (keep : Bool) (now : Int)
    (hx : xb = w.heap.size) (hw0 : w0 = w.alloc (.cells #[.int .i64 i.kind, .string i.text, .slice p i.flds.length c] 31)) (hX : X xb) (hv : FldAt w (fun b => b < base ∨ X b) (.slice p i.flds.length c) i.flds) (hz : ∀ b, Z b → ¬ X b)
    (hn : s.n ≤ 9999) (hk : key.size ≤ 100000) (hl : S.events.length ≤ 800000) :
    Calls Tryz.prog 21 #[.pointer (some ⟨sb, 0, none⟩), .string key, .agg #[.int .i64 i.kind, .string i.text, .slice p i.flds.length c], .bool keep, .int .i64 now] w fun e w' => e = .returned (.int .i64 (putE (dueP S key now) key i)) ∧ SSt w' base sb X (putP S key i keep now) (s.n + 1) ∧ Upd (Fr base X) w0 w' := by
  have hbx := Blk.made w [.int .i64 i.kind, .string i.text, .slice p i.flds.length c] 31
  rw [← hw0] at hbx
  have u0 : Upd (fun _ => False) w w0 := by rw [hw0]; exact (Upd.refl _ _).alloc _
  have D := Lib.hid (due_any m r key now (by omega) hk (by omega))
  have DL := Lib.hid (due_len S key now)
  have HB0 := Lib.hid hbx
  have HX := Lib.hid hX
  have HV : Hid (FldAt w0 (fun b => b < base ∨ X b) (.slice p i.flds.length c) i.flds) := hv.keep u0 (fun _ _ h => h)
  have HZ := Lib.hid hz
  have HN := Lib.hid hn
  have HL := Lib.hid hl
  have HK := Lib.hid hk
  have BL := Lib.hid m.bl
  have ST := Lib.hid m.std
  rw [hx] at HX
  clear m r hv hz hn hl hbx hX u0 hx
  rw [hw0] at D
  unfold putP
  generalize dueP S key now = S1 at *
  by_cases h1 : 512 < key.size
  · have hE : putE S1 key i = 31 := by unfold putE; rw [if_pos (Or.inl h1)]
    have t1 : decide ((key.size : Int) > 512) = true := decide_eq_true (by omega)
    rw [hE, if_neg (by decide)]
    clear hE h1
    go_enter Tryz.func21, Tryz.ntmps21
    go_wp2_with fail
    refine (D.out).mono ?_
    rintro e w1 ⟨rfl, s1, m1, r1, n1, u1⟩
    rw [← hw0] at u1
    have hB1 := u1.blk HB0.out (fun g => g.2 (Or.inl HX.out))
    have b0 := hB1.cellAt (i := 0) rfl
    have b1 := hB1.cellAt (i := 1) rfl
    have b2 := hB1.cellAt (i := 2) rfl
    have lb := hB1.lt
    have M1 := Lib.hid m1
    have R1 := Lib.hid r1
    have N1 := Lib.hid n1
    have U1 := Lib.hid u1
    have HB1 := Lib.hid hB1
    have V1 := Lib.hid (HV.out.keep u1 (fun b hb g => hb.elim (fun h => by have := g.1; omega) (fun h => g.2 (Or.inl h))))
    clear m1 r1 n1 u1 hB1 D
    go_wp2
    go_ret
    have G : SGo w0 base sb X Z w1 S1 s.n := ⟨s1, M1.out, R1.out, N1.out, U1.out⟩
    exact ⟨rfl, G.st HZ.out (by omega)⟩
  · have t1 : decide ((key.size : Int) > 512) = false := decide_eq_false (by omega)
    cases hr : rightI i with
    | false =>
      have hE : putE S1 key i = 31 := by unfold putE; rw [if_pos (Or.inr hr)]
      rw [hE, if_neg (by decide)]
      clear hE h1
      go_enter Tryz.func21, Tryz.ntmps21
      go_wp2_with fail
      refine (D.out).mono ?_
      rintro e w1 ⟨rfl, s1, m1, r1, n1, u1⟩
      rw [← hw0] at u1
      have hB1 := u1.blk HB0.out (fun g => g.2 (Or.inl HX.out))
      have b0 := hB1.cellAt (i := 0) rfl
      have b1 := hB1.cellAt (i := 1) rfl
      have b2 := hB1.cellAt (i := 2) rfl
      have lb := hB1.lt
      have M1 := Lib.hid m1
      have R1 := Lib.hid r1
      have N1 := Lib.hid n1
      have U1 := Lib.hid u1
      have HB1 := Lib.hid hB1
      have V1 := Lib.hid (HV.out.keep u1 (fun b hb g => hb.elim (fun h => by have := g.1; omega) (fun h => g.2 (Or.inl h))))
      clear m1 r1 n1 u1 hB1 D
      have RA := Lib.hid (right_any i _ w1 V1.out.1)
      rw [hr] at RA
      unfold itV at RA
      go_wp2_with fail
      refine (RA.out).mono ?_
      rintro e w2 ⟨rfl, u2⟩
      have U2 := Lib.hid u2
      clear u2 RA
      go_wp2
      go_ret
      have G : SGo w0 base sb X Z w2 S1 s.n := ⟨s1, M1.out.keep0 U2.out, R1.out.keep0 U2.out, N1.out, Fr.trans U1.out (Fr.of0 U2.out)⟩
      exact ⟨rfl, G.st HZ.out (by omega)⟩
    | true =>
      have hi := small_of_right hr
      have HI := Lib.hid hi
      have HK2 : Hid (key.size ≤ 512) := by show _ ≤ _; omega
      clear hi
      cases h2 : decide (costI key i > S1.budget) with
      | true =>
        have hE : putE S1 key i = 121 := by unfold putE; rw [if_neg (by rw [not_or]; exact ⟨h1, by simp [hr]⟩), if_pos (of_decide_eq_true h2)]
        have H2 := Lib.hid h2
        rw [hE, if_neg (by decide)]
        clear hE h1 h2
        go_enter Tryz.func21, Tryz.ntmps21
        go_wp2_with fail
        refine (D.out).mono ?_
        rintro e w1 ⟨rfl, s1, m1, r1, n1, u1⟩
        rw [← hw0] at u1
        have hB1 := u1.blk HB0.out (fun g => g.2 (Or.inl HX.out))
        have b0 := hB1.cellAt (i := 0) rfl
        have b1 := hB1.cellAt (i := 1) rfl
        have b2 := hB1.cellAt (i := 2) rfl
        have lb := hB1.lt
        have M1 := Lib.hid m1
        have R1 := Lib.hid r1
        have N1 := Lib.hid n1
        have U1 := Lib.hid u1
        have HB1 := Lib.hid hB1
        have V1 := Lib.hid (HV.out.keep u1 (fun b hb g => hb.elim (fun h => by have := g.1; omega) (fun h => g.2 (Or.inl h))))
        clear m1 r1 n1 u1 hB1 D
        have RA := Lib.hid (right_any i _ w1 V1.out.1)
        rw [hr] at RA
        unfold itV at RA
        go_wp2_with fail
        refine (RA.out).mono ?_
        rintro e w2 ⟨rfl, u2⟩
        have hB2 := u2.blk HB1.out (fun h => h)
        have b0 := hB2.cellAt (i := 0) rfl
        have b1 := hB2.cellAt (i := 1) rfl
        have b2 := hB2.cellAt (i := 2) rfl
        have lb := hB2.lt
        have M2 := Lib.hid (M1.out.keep0 u2)
        have R2 := Lib.hid (R1.out.keep0 u2)
        have V2 := Lib.hid (V1.out.keep u2 (fun _ _ h => h))
        have U2 := Lib.hid (Fr.trans U1.out (Fr.of0 u2))
        have HB2 := Lib.hid hB2
        have hsb := M2.out.blk.lt
        have x6 : w2.cell? ⟨sb, 6, none⟩ = some (.int .i64 s1.bud) := M2.out.blk.cellAt (i := 6) rfl
        have CO := Lib.hid (fun W (u : Upd (fun _ => False) w2 W) => cost_any key i _ W (M2.out.std.keep u) (V2.out.1.keep u (fun _ _ _ h => h)) HI.out HK.out)
        unfold itV at CO
        have rb := R2.out.bud
        rw [← rb] at H2
        have t2 : decide (costI key i > s1.bud) = true := H2.out
        clear u2 RA hB2 M1 R1 V1 U1 HB1 rb
        generalize hco : costI key i = co at *
        have HCO := Lib.hid hco
        clear hco H2
        go_upto_region 4 with (fail)
        go_cut [25] (fun v25 wx => v25 = .bool true ∧ Hid (Upd (fun _ => False) w2 wx))
        case first =>
          go_region_with (go_at_call 48; refine (CO.out _ (by first | exact Upd.refl _ _ | exact (Upd.refl _ _).drew)).mono ?_; rintro e2 w3 ⟨rfl, u3⟩; have y6 : w3.cell? ⟨sb, 6, none⟩ = some (.int .i64 s1.bud) := (u3.cell (p := ⟨sb, 6, none⟩) hsb (fun h => h)).trans x6; have l3 : sb < w3.heap.size := Nat.lt_of_lt_of_le hsb u3.size; have UU : Hid (Upd (fun _ => False) w2 w3) := (by first | exact u3 | exact ((Upd.refl _ _).drew).trans u3 (fun _ _ h => h)))
          all_goals (go_wp2_with fail; go_meet; exact ⟨rfl, by first | exact UU.out | exact UU.out.drew⟩)
        case rest =>
        obtain ⟨rfl, U3⟩ := hcut
        go_wp2
        go_ret
        have G : SGo w0 base sb X Z wc S1 s.n := ⟨s1, M2.out.keep0 U3.out, R2.out.keep0 U3.out, N1.out, Fr.trans U2.out (Fr.of0 U3.out)⟩
        exact ⟨rfl, G.st HZ.out (by omega)⟩
      | false =>
        have hE : putE S1 key i = 0 := by unfold putE; rw [if_neg (by rw [not_or]; exact ⟨h1, by simp [hr]⟩), if_neg (of_decide_eq_false h2)]
        have H2 := Lib.hid h2
        have HE := Lib.hid hE
        rw [hE, if_pos rfl]
        clear hE h1 h2
        go_enter Tryz.func21, Tryz.ntmps21
        go_wp2_with fail
        refine (D.out).mono ?_
        rintro e w1 ⟨rfl, s1, m1, r1, n1, u1⟩
        rw [← hw0] at u1
        have hB1 := u1.blk HB0.out (fun g => g.2 (Or.inl HX.out))
        have b0 := hB1.cellAt (i := 0) rfl
        have b1 := hB1.cellAt (i := 1) rfl
        have b2 := hB1.cellAt (i := 2) rfl
        have lb := hB1.lt
        have M1 := Lib.hid m1
        have R1 := Lib.hid r1
        have N1 := Lib.hid n1
        have U1 := Lib.hid u1
        have HB1 := Lib.hid hB1
        have V1 := Lib.hid (HV.out.keep u1 (fun b hb g => hb.elim (fun h => by have := g.1; omega) (fun h => g.2 (Or.inl h))))
        clear m1 r1 n1 u1 hB1 D
        have RA := Lib.hid (right_any i _ w1 V1.out.1)
        rw [hr] at RA
        unfold itV at RA
        go_wp2_with fail
        refine (RA.out).mono ?_
        rintro e w2 ⟨rfl, u2⟩
        have hB2 := u2.blk HB1.out (fun h => h)
        have b0 := hB2.cellAt (i := 0) rfl
        have b1 := hB2.cellAt (i := 1) rfl
        have b2 := hB2.cellAt (i := 2) rfl
        have lb := hB2.lt
        have M2 := Lib.hid (M1.out.keep0 u2)
        have R2 := Lib.hid (R1.out.keep0 u2)
        have V2 := Lib.hid (V1.out.keep u2 (fun _ _ h => h))
        have U2 := Lib.hid (Fr.trans U1.out (Fr.of0 u2))
        have HB2 := Lib.hid hB2
        have hsb := M2.out.blk.lt
        have x6 : w2.cell? ⟨sb, 6, none⟩ = some (.int .i64 s1.bud) := M2.out.blk.cellAt (i := 6) rfl
        have CO := Lib.hid (fun W (u : Upd (fun _ => False) w2 W) => cost_any key i _ W (M2.out.std.keep u) (V2.out.1.keep u (fun _ _ _ h => h)) HI.out HK.out)
        unfold itV at CO
        have rb := R2.out.bud
        rw [← rb] at H2
        have t2 : decide (costI key i > s1.bud) = false := H2.out
        clear u2 RA hB2 M1 R1 V1 U1 HB1 rb
        generalize hco : costI key i = co at *
        have HCO := Lib.hid hco
        clear hco H2
        go_upto_region 4 with (fail)
        go_cut [25] (fun v25 wx => v25 = .bool false ∧ Hid (Upd (fun _ => False) w2 wx))
        case first =>
          go_region_with (go_at_call 48; refine (CO.out _ (by first | exact Upd.refl _ _ | exact (Upd.refl _ _).drew)).mono ?_; rintro e2 w3 ⟨rfl, u3⟩; have y6 : w3.cell? ⟨sb, 6, none⟩ = some (.int .i64 s1.bud) := (u3.cell (p := ⟨sb, 6, none⟩) hsb (fun h => h)).trans x6; have l3 : sb < w3.heap.size := Nat.lt_of_lt_of_le hsb u3.size; have UU : Hid (Upd (fun _ => False) w2 w3) := (by first | exact u3 | exact ((Upd.refl _ _).drew).trans u3 (fun _ _ h => h)))
          all_goals (go_wp2_with fail; go_meet; exact ⟨rfl, by first | exact UU.out | exact UU.out.drew⟩)
        case rest =>
        obtain ⟨rfl, U3⟩ := hcut
        have M3 := M2.out.keep0 U3.out
        have R3 := R2.out.keep0 U3.out
        have PL := Lib.hid (place_any M3 R3 key (by have := N1.out; have := HN.out; omega) hk)
        have U3F := Lib.hid (Fr.trans U2.out (Fr.of0 U3.out))
        have HB3 := Lib.hid (U3.out.blk HB2.out (fun h => h))
        have V3 := Lib.hid (V2.out.keep U3.out (fun _ _ h => h))
        clear M3 R3 M2 R2 U2 HB2 V2 CO x6 b0 b1 b2 t2
        go_wp2_with fail
        refine (PL.out).mono ?_
        rintro e w4 ⟨j, s4, rfl, m4, p4, n4, u4⟩
        have hB4 := u4.blk HB3.out (fun g => g.2 (Or.inl HX.out))
        have b0 := hB4.cellAt (i := 0) rfl
        have b1 := hB4.cellAt (i := 1) rfl
        have b2 := hB4.cellAt (i := 2) rfl
        have lb4 := hB4.lt
        have HB4 := Lib.hid hB4
        have V4 := Lib.hid (V3.out.keep u4 (fun b hb g => hb.elim (fun h => by have := g.1; omega) (fun h => g.2 (Or.inl h))))
        obtain ⟨xj, hxj⟩ : ∃ x, s4.sl[j]? = some x := ⟨_, List.getElem?_eq_getElem p4.lt⟩
        obtain ⟨b, cp, e, hb, hne, c0, c1, c2, fr, hm⟩ := m4.slot hxj
        clear hxj
        have hsb4 := m4.blk.lt
        have x1 : w4.cell? ⟨sb, 1, none⟩ = some (.slice (some ⟨b, 0, none⟩) s4.sl.length cp) := by rw [m4.blk.cellAt (i := 1) rfl]; exact congrArg some e
        have CY := Lib.hid (fun W (u : Upd (fun _ => False) w4 W) => copy_any i _ W (V4.out.1.keep u (fun _ _ _ h => h)) (by have := HI.out.flds; omega))
        unfold itV at CY
        have f0 := fr (j * 3)
        have f1 := fr (j * 3 + 1)
        have f2 := fr (j * 3 + 2)
        have hjl : (j : Int) < (s4.sl.length : Int) := by have := p4.lt; omega
        have M4 := Lib.hid m4
        have P4 := Lib.hid p4
        have N4 := Lib.hid n4
        have U4 := Lib.hid u4
        have E4 := Lib.hid e
        clear m4 p4 n4 u4 hB4 PL fr e HB3 V3
        go_upto_region 7 with (fail)
        go_cut [11] (fun v11 wx => v11 = .int .i64 (j : Int) ∧ Hid (PutCp w4 base sb X Z s4 j i wx))
        case first =>
          go_region_with (go_at_call 45; refine (CY.out _ (by first | exact Upd.refl _ _ | exact (Upd.refl _ _).drew)).mono ?_; rintro e2 w5 ⟨v5, rfl, rv, fv, u5⟩; obtain ⟨p5, c5, ev5, _⟩ := rv.len; subst ev5; have UU : Hid (Upd (fun _ => False) w4 w5) := (by first | exact u5 | exact ((Upd.refl _ _).drew).trans u5 (fun _ _ h => h)); have y1 : w5.cell? ⟨sb, 1, none⟩ = some (.slice (some ⟨b, 0, none⟩) s4.sl.length cp) := (UU.out.cell (p := ⟨sb, 1, none⟩) hsb4 (fun h => h)).trans x1; have y2 := (UU.out.cell (p := ⟨b, j * 3, none⟩) hb (fun h => h)).trans c0; have y3 := (UU.out.cell (p := ⟨b, j * 3 + 1, none⟩) hb (fun h => h)).trans c1; have y4 := (UU.out.cell (p := ⟨b, j * 3 + 2, none⟩) hb (fun h => h)).trans c2; have h2 := (UU.out.frozen (p := ⟨b, j * 3, none⟩) hb (fun h => h)).trans f0; have h3 := (UU.out.frozen (p := ⟨b, j * 3 + 1, none⟩) hb (fun h => h)).trans f1; have h4 := (UU.out.frozen (p := ⟨b, j * 3 + 2, none⟩) hb (fun h => h)).trans f2; have l5 : b < w5.heap.size := Nat.lt_of_lt_of_le hb UU.out.size; have l6 : sb < w5.heap.size := Nat.lt_of_lt_of_le hsb4 UU.out.size; have RV := Lib.hid rv; have FV : Hid (i.flds = [] ∨ ∀ b, (Value.slice p5 i.flds.length c5).ownBlock = some b → w4.heap.size ≤ b ∧ b < w5.heap.size) := Lib.hid fv; clear rv fv u5)
          all_goals (go_wp2_with fail; go_meet; exact ⟨rfl, putCp_of M4.out UU.out RV.out FV.out P4.out.lt E4.out⟩)
        case rest =>
        obtain ⟨rfl, HQ⟩ := hcut
        obtain ⟨v5, rv5, fr5, m5, u5⟩ := HQ.out
        have hB5 := u5.blk HB4.out (fun g => g.2 (Or.inl HX.out))
        have b0 := hB5.cellAt (i := 0) rfl
        have b1 := hB5.cellAt (i := 1) rfl
        have b2 := hB5.cellAt (i := 2) rfl
        have lb5 := hB5.lt
        have HB5 := Lib.hid hB5
        have P5 := Lib.hid (P4.out.keep u5 (fun b hb g => g.2 (Or.inr hb)))
        have V5 := Lib.hid (V4.out.keep u5 (fun b hb g => hb.elim (fun h => by have := g.1; omega) (fun h => g.2 (Or.inl h))))
        have HZ5 : Hid (∀ q, Or2 Z (fX v5 i.flds) q → ¬ X q) := by
          intro q hq hx2
          rcases hq with g | g
          · exact HZ.out q g hx2
          · have := fr5 q g
            have := M4.out.xlt q (Or.inl hx2)
            omega
        obtain ⟨Z5, hZ5⟩ : ∃ Z5, Or2 Z (fX v5 i.flds) = Z5 := ⟨_, rfl⟩
        have F5 : Hid (FldAt wc Z5 v5 i.flds) := by
          have := fld_fX rv5
          exact this.to fun b hb => by rw [← hZ5]; exact Or.inr hb
        have P5b := Lib.hid (show Placed wc Z5 s4 S1 key j from { P5.out with at_ := fun c hc => let ⟨i, v, a, b, d, f⟩ := P5.out.at_ c hc; ⟨i, v, a, b, d, f.to fun b hb => by rw [← hZ5]; exact Or.inl hb⟩ })
        rw [hZ5] at m5 HZ5
        have U5 := Lib.hid (Fr.trans (Fr.sub (Y := X) U3F.out fun k _ hk => Or.inl hk) (Fr.trans (Fr.sub (Y := X) U4.out fun k _ hk => Or.inl hk) (Fr.sub (Y := X) u5 fun k _ hk => Or.inl hk)))
        have hsb5 := m5.blk.lt
        have a0 : wc.cell? ⟨sb, 0, none⟩ = some (.pointer (some ⟨s4.tb, 0, none⟩)) := m5.blk.cellAt (i := 0) rfl
        have hn4 : s4.n ≤ 9999 := by have := N4.out; have := N1.out; have := HN.out; omega
        have TP := Lib.hid (m5.tput key (j : Int) (by show s4.n ≤ _; omega) hk)
        simp only at TP
        clear rv5 fr5 m5 u5 hB5 HQ P5 HB4 V4 CY P4 M4 E4 U4 U3F x1 c0 c1 c2 f0 f1 f2 hb hjl hZ5 HZ
        go_wp2_with fail
        refine (TP.out).mono ?_
        rintro e w6 ⟨bb, rfl, P6⟩
        have hB6 := P6.2.blk HB5.out (fun g => g.2 (Or.inl HX.out))
        have b0 := hB6.cellAt (i := 0) rfl
        have b1 := hB6.cellAt (i := 1) rfl
        have b2 := hB6.cellAt (i := 2) rfl
        have lb6 := hB6.lt
        have V6 := Lib.hid (V5.out.keep P6.2 (fun b hb g => hb.elim (fun h => by have := g.1; omega) (fun h => g.2 (Or.inl h))))
        have hsb6 := P6.1.blk.lt
        have x5 : w6.cell? ⟨sb, 5, none⟩ = some (.int .i64 s4.byt) := P6.1.blk.cellAt (i := 5) rfl
        have fx := P6.1.blk.free 5
        have CO := Lib.hid (fun W (u : Upd (fun _ => False) w6 W) => cost_any key i _ W (P6.1.std.keep u) (V6.out.1.keep u (fun _ _ _ h => h)) HI.out HK.out)
        unfold itV at CO
        rw [HCO.out] at CO
        have HB := Lib.hid P6.1.blk
        have q0 := costI_pos key i
        have q1 := costI_le HI.out HK.out
        rw [HCO.out] at q0 q1
        have q2 : 0 ≤ s4.byt ∧ s4.byt ≤ 3000000000000 := by
          rw [P5b.out.byt]
          have h1 := bytesC_nonneg (delC S1.cells key)
          have h2 := bytesC_le (l := delC S1.cells key) fun c hc => ⟨small_of_right (P5b.out.ok.small c (delC_mem.1 hc).1).1, by have := (P5b.out.ok.small c (delC_mem.1 hc).1).2; omega⟩
          have h3 := P5b.out.cln
          exact ⟨h1, by omega⟩
        have HWR : Hid (IntKind.i64.wrap (s4.byt + co) = s4.byt + co) := i64w (by omega) (by omega)
        have PP6 := Lib.hid P6
        clear P6 hB6 TP V5 HB5 a0
        go_upto_region 9 with (fail)
        go_cut [11] (fun v11 wx => v11 = .int .i64 (j : Int) ∧ Hid (PartTo w6 base sb (Or2 X Z5) wx { s4 with sl := s4.sl.set j (i.kind, i.text, v5), m := aset s4.m key (j : Int), n := s4.n + 1, byt := s4.byt + co }))
        case first =>
          go_region_with (go_at_call 48; refine (CO.out _ (by first | exact Upd.refl _ _ | exact (Upd.refl _ _).drew)).mono ?_; rintro e2 w7 ⟨rfl, u7⟩; have B7 := u7.blk HB.out (fun h => h); have y5 : w7.cell? ⟨sb, 5, none⟩ = some (.int .i64 s4.byt) := B7.cellAt (i := 5) rfl; have l7 := B7.lt; have g5 := B7.free 5; have UU : Hid (Upd (fun _ => False) w6 w7) := (by first | exact u7 | exact ((Upd.refl _ _).drew).trans u7 (fun _ _ h => h)))
          all_goals (go_wp2_with fail; go_meet; rw [HWR.out]; exact ⟨rfl, (PartTo.of0 PP6.out.1 UU.out).trans ((PP6.out.1.keep0 UU.out).bytSet _)⟩)
        case rest =>
        obtain ⟨rfl, P9⟩ := hcut
        have hsb9 := P9.out.1.blk.lt
        have x3 : wc.cell? ⟨sb, 3, none⟩ = some (.pointer (some ⟨s4.rb, 0, none⟩)) := P9.out.1.blk.cellAt (i := 3) rfl
        have RT := Lib.hid (P9.out.1.rtouch key)
        simp only at RT
        have PP9 := Lib.hid (PP6.out.trans P9.out)
        clear P9 PP6 HB x5 fx CO V6 b0 b1 b2
        go_wp2_with fail
        refine (RT.out).mono ?_
        rintro e w10 ⟨rfl, P10⟩
        have PP10 := Lib.hid (PP9.out.trans P10)
        clear P10 RT PP9 x3
        have HLL : Hid (S1.events.length ≤ 800001) := by have := DL.out; have := HL.out; show _ ≤ _; omega
        cases keep with
        | true =>
          have rr := ((P5b.out.keep PP10.out.2 (fun b hb g => g.2 (Or.inr hb))).take HE.out (F5.out.keep PP10.out.2 (fun b hb g => g.2 (Or.inr hb))) true (l := s4.l) (by simp) HCO.out)
          have G : Hid (SGo w10 base sb X Z5 w10 { laidP S1 key i true with events := S1.events } (s4.n + 1)) := ⟨_, PP10.out.1, rr, Nat.le_refl _, Upd.refl _ _⟩
          clear rr
          go_wp2_with fail
          refine ((G.out.tell (1, key) (by have := HLL.out; show S1.events.length ≤ _; omega)).out).mono ?_
          rintro e w13 ⟨rfl, G13⟩
          obtain ⟨s13, m13, r13, n13, u13⟩ := G13
          have EV := Lib.hid (evict_any m13 r13 key (by omega) (a0 := delC S1.cells key) (c0 := ⟨key, i, keepC S1.cells key true⟩) rfl rfl (by have := HLL.out; show (S1.events ++ [_]).length ≤ _; simp; omega))
          have N13 := Lib.hid n13
          have U13 := Lib.hid u13
          clear m13 r13 n13 u13 G
          go_wp2_with fail
          refine (EV.out).mono ?_
          rintro e w14 ⟨rfl, G14⟩
          have GG := Lib.hid G14
          clear G14 EV
          go_wp2
          go_ret
          obtain ⟨h5, h6⟩ := GG.out.st (N := s.n + 1) HZ5.out (by have := N13.out; have := N4.out; have := N1.out; omega)
          exact ⟨rfl, h5, Fr.trans U5.out (Fr.trans (Fr.sub (Y := X) PP10.out.2 fun k _ hk => Or.inl hk) (Fr.trans (Fr.sub (Y := X) U13.out fun k _ hk => Or.inl hk) h6))⟩
        | false =>
          have hsb10 := PP10.out.1.blk.lt
          have x4 : w10.cell? ⟨sb, 4, none⟩ = some (.pointer (some ⟨s4.xb, 0, none⟩)) := PP10.out.1.blk.cellAt (i := 4) rfl
          have XD := Lib.hid (PP10.out.1.xdrop key (by
            show s4.l.length ≤ _
            rw [P5b.out.l]
            have h1 := duesC_len S1.cells
            have h2 := delC_len1 P5b.out.ok.nd key
            have h3 := P5b.out.cln
            omega))
          simp only at XD
          go_wp2_with fail
          refine (XD.out).mono ?_
          rintro e w11 ⟨rfl, P11⟩
          have PP11 := Lib.hid (PP10.out.trans P11)
          clear P11 XD x4 PP10
          have rr := ((P5b.out.keep PP11.out.2 (fun b hb g => g.2 (Or.inr hb))).take HE.out (F5.out.keep PP11.out.2 (fun b hb g => g.2 (Or.inr hb))) false (l := dropD key s4.l) (by simp) HCO.out)
          have G : Hid (SGo w11 base sb X Z5 w11 { laidP S1 key i false with events := S1.events } (s4.n + 1)) := ⟨_, PP11.out.1, rr, Nat.le_refl _, Upd.refl _ _⟩
          clear rr
          go_wp2_with fail
          refine ((G.out.tell (1, key) (by have := HLL.out; show S1.events.length ≤ _; omega)).out).mono ?_
          rintro e w13 ⟨rfl, G13⟩
          obtain ⟨s13, m13, r13, n13, u13⟩ := G13
          have EV := Lib.hid (evict_any m13 r13 key (by omega) (a0 := delC S1.cells key) (c0 := ⟨key, i, keepC S1.cells key false⟩) rfl rfl (by have := HLL.out; show (S1.events ++ [_]).length ≤ _; simp; omega))
          have N13 := Lib.hid n13
          have U13 := Lib.hid u13
          clear m13 r13 n13 u13 G
          go_wp2_with fail
          refine (EV.out).mono ?_
          rintro e w14 ⟨rfl, G14⟩
          have GG := Lib.hid G14
          clear G14 EV
          go_wp2
          go_ret
          obtain ⟨h5, h6⟩ := GG.out.st (N := s.n + 1) HZ5.out (by have := N13.out; have := N4.out; have := N1.out; omega)
          exact ⟨rfl, h5, Fr.trans U5.out (Fr.trans (Fr.sub (Y := X) PP11.out.2 fun k _ hk => Or.inl hk) (Fr.trans (Fr.sub (Y := X) U13.out fun k _ hk => Or.inl hk) h6))⟩
theorem sput_any {w : World} {base sb : Nat} {X : Nat → Prop} {S : PS} {N : Nat} (h : SSt w base sb X S N) (key : ByteArray) (i : It) (v : Value) (keep : Bool) (now : Int) (hv : FldAt w (fun b => b < base ∨ X b) v i.flds) (hN : N ≤ 9999) (hk : key.size ≤ 100000) (hl : S.events.length ≤ 800000) :
    Calls Tryz.prog 21 #[.pointer (some ⟨sb, 0, none⟩), .string key, itV i v, .bool keep, .int .i64 now] w fun e w' => e = .returned (.int .i64 (putE (dueP S key now) key i)) ∧ SSt w' base sb X (putP S key i keep now) (N + 1) ∧ Upd (Fr base X) w w' := by
  obtain ⟨p, c, ev, _⟩ := hv.1.len
  subst ev
  have u0 : Upd (fun _ => False) w (w.alloc (.cells #[.int .i64 i.kind, .string i.text, .slice p i.flds.length c] 31)) := (Upd.refl _ _).alloc _
  obtain ⟨s, Z, m, hz, r, hn⟩ := h.also (Y := fun q => X q ∨ q = w.heap.size) u0 (fun b hb => hb.imp id (fun e => by subst e; simp))
  refine (put_raw m r key i p c keep now rfl rfl (Or.inr rfl) (hv.to fun b hb => hb.imp id Or.inl) hz (by omega) hk hl).mono ?_
  rintro e w' ⟨rfl, h5, h6⟩
  exact ⟨rfl, (h5.less fun b hb => Or.inl hb).more (by omega), Fr.trans (Fr.of0 u0) (h6.weaken fun k hk g => ⟨g.1, fun hx => g.2 (Or.inl hx)⟩)⟩
end Go.Proofs.YtgdenmddbgcacaaGreatDoor
/- Walks: Sweep, Flush, Events, Bytes, Len, Keys, New. -/
set_option linter.unusedVariables false
set_option linter.unusedSimpArgs false
namespace Go.Proofs.YtgdenmddbgcacaaGreatDoor
open Go.RowKit

section
variable {w w1 w' : World} {base sb : Nat} {s : SV} {X Y Z : Nat → Prop} {S S1 : PS} {n N : Nat} {key : ByteArray}
theorem goneL_take {S : PS} {l : List ByteArray} {k : Nat} {x : ByteArray} (h : l[k]? = some x) : goneL S (l.take (k + 1)) = goneP (goneL S (l.take k)) x 3 := by
  obtain ⟨h1, e⟩ := List.getElem?_eq_some_iff.1 h
  unfold goneL
  rw [List.take_succ_eq_append_getElem h1, e, List.foldl_append]; rfl
theorem goneL_len (S : PS) (l : List ByteArray) : (goneL S l).events.length ≤ S.events.length + l.length := by
  unfold goneL
  induction l generalizing S with
  | nil => simp
  | cons x r ih =>
    have := ih (goneP S x 3)
    have := gone_len S x 3
    simp only [List.foldl_cons, List.length_cons]; omega
theorem sweepL_sub (S : PS) (now most : Int) : (sweepL S now most).length ≤ S.cells.length ∧ ∀ k ∈ sweepL S now most, k ∈ keysC S.cells := by
  have hd : ∀ d ∈ (dueD now (duesC S.cells)).take most.toNat, d ∈ duesC S.cells := fun d hd => (List.takeWhile_sublist _).subset (List.mem_of_mem_take hd)
  constructor
  · unfold sweepL
    rw [List.length_map, List.length_take]
    have : (dueD now (duesC S.cells)).length ≤ (duesC S.cells).length := (List.takeWhile_sublist _).length_le
    have := duesC_len S.cells
    omega
  · intro k hk
    unfold sweepL at hk
    obtain ⟨d, hd2, rfl⟩ := List.mem_map.1 hk
    exact duesC_keys (List.mem_map.2 ⟨d, hd d hd2, rfl⟩)
theorem str_cell {w : World} {v : Value} {l : List ByteArray} (h : RowOf strc 1 w v l) {k : Nat} {x : ByteArray} (hk : l[k]? = some x) : ∃ b off cap, v = .slice (some ⟨b, off, none⟩) l.length cap ∧ b < w.heap.size ∧ w.cell? ⟨b, off + k, none⟩ = some (.string x) := by
  rcases h with ⟨_, _, _, e⟩ | ⟨b, off, c, e, hb, _, hc⟩
  · rw [e] at hk; simp at hk
  · refine ⟨b, off, c, e, hb, ?_⟩
    have := hc k x hk 0 (by omega)
    simpa [strc] using this
end
set_option maxHeartbeats 8000000 in
set_option maxRecDepth 100000 in
theorem ssweep_any {w : World} {base sb : Nat} {X : Nat → Prop} {S : PS} {N : Nat} (h : SSt w base sb X S N) (now most : Int) (hN : N ≤ 10000) (hl : S.events.length ≤ 900000) :
    Calls Tryz.prog 38 #[.pointer (some ⟨sb, 0, none⟩), .int .i64 now, .int .i64 most] w fun e w' => e = .returned (.int .i64 ((sweepL S now most).length : Int)) ∧ SSt w' base sb X (sweepP S now most) N ∧ Upd (Fr base X) w w' := by
  obtain ⟨s, Z, m, hz, r, hn⟩ := h
  have hsb := m.blk.lt
  have x4 : w.cell? ⟨sb, 4, none⟩ = some (.pointer (some ⟨s.xb, 0, none⟩)) := m.blk.cellAt (i := 4) rfl
  have D := Lib.hid (m.xdue now most (by have := r.l_len; omega))
  have hsl : ((dueD now s.l).take most.toNat).map (·.2) = sweepL S now most := by rw [r.l]; rfl
  rw [hsl] at D
  have R := Lib.hid r
  have HN := Lib.hid hn
  have HNN := Lib.hid hN
  have HL := Lib.hid hl
  have HZ := Lib.hid hz
  have SL := Lib.hid (sweepL_sub S now most)
  have CL := Lib.hid r.cln
  have BL := Lib.hid m.bl
  have XLT := Lib.hid m.xlt
  unfold sweepP
  generalize sweepL S now most = l at *
  clear m r hn hN hl hz hsl
  go_enter Tryz.func38, Tryz.ntmps38
  go_wp2_with fail
  refine (D.out).mono ?_
  rintro e w1 ⟨v, rfl, sv, m1, u1⟩
  obtain ⟨p, c, ev, hlm⟩ := own_slice sv
  subst ev
  have hll : l.length ≤ 10000 := by have := SL.out.1; have := CL.out; have := HN.out; have := HNN.out; omega
  have m1' : SMem w1 base sb (Or2 (fun q => X q ∨ fOf (.slice p l.length c) q) Z) s := m1.less fun b hb => by
    rcases hb with (g | g) | g
    · exact Or.inl (Or.inl g)
    · exact Or.inr g
    · exact Or.inl (Or.inr g)
  have G1 : Hid (SGo w1 base sb (fun q => X q ∨ fOf (.slice p l.length c) q) Z w1 S s.n) := ⟨s, m1', R.out.keepF u1, Nat.le_refl _, Upd.refl _ _⟩
  have SV := Lib.hid sv
  have U1 := Lib.hid u1
  clear sv m1 u1 D m1' x4
  go_wp2
  go_loopw [19] (fun x wr => ∃ k : Nat, k ≤ l.length ∧ x = .int .i64 (k : Int) ∧ Hid (SGo w1 base sb (fun q => X q ∨ fOf (.slice p l.length c) q) Z wr (goneL S (l.take k)) s.n)) (fun x _ => l.length - (intOf x).toNat)
  case atStart => exact ⟨0, by omega, rfl, G1⟩
  case round =>
    clear G1
    obtain ⟨k, hkl, rfl, G⟩ := hrel
    by_cases hlt : k < l.length
    · obtain ⟨x, hx⟩ : ∃ x, l[k]? = some x := ⟨_, List.getElem?_eq_getElem hlt⟩
      obtain ⟨s2, m2, r2, n2, u2⟩ := G.out
      have row1 : RowOf strc 1 w1 (.slice p l.length c) l := StrsAt.row SV.out
      have row2 := row1.keep u2 (fun b _ hb g => g.2 (Or.inl (Or.inr hb)))
      obtain ⟨b, off, cap, ev, hb, c0⟩ := str_cell row2 hx
      injection ev with ev1 _ ev3
      subst ev1 ev3
      have hq : (k : Int) < (l.length : Int) := by omega
      have hxs : x.size ≤ 100000 := by
        have := SL.out.2 x (List.mem_of_getElem? hx)
        obtain ⟨ce, hce, rfl⟩ := List.mem_map.1 this
        have := (R.out.ok.small ce hce).2; omega
      have GO := Lib.hid (gone_any m2 r2 x 3 (by have := HN.out; have := HNN.out; omega) hxs (by have := goneL_len S (l.take k); have := HL.out; rw [List.length_take] at *; omega))
      have GT := Lib.hid (goneL_take (S := S) hx)
      have U2 := Lib.hid u2
      have N2 := Lib.hid n2
      clear m2 r2 n2 u2 row1 row2 hx hxs G
      go_wp2_with fail
      refine (GO.out).mono ?_
      rintro e w3 ⟨rfl, s3, m3, r3, n3, u3⟩
      have GG : Hid (SGo w1 base sb (fun q => X q ∨ fOf (.slice (some ⟨b, off, none⟩) l.length c) q) Z w3 (goneL S (l.take (k + 1))) s.n) := by
        show SGo _ _ _ _ _ _ _ _
        rw [GT.out]; exact ⟨s3, m3, r3, Nat.le_trans n3 N2.out, Fr.trans U2.out u3⟩
      clear m3 r3 n3 u3 GO
      go_wp2
      go_roundw
      case rel => exact ⟨k + 1, by omega, by go_num, GG⟩
      case measure => simp [intOf]; omega
    · obtain rfl : k = l.length := by omega
      rw [List.take_length] at G
      go_wp2
      go_ret
      obtain ⟨s2, m2, r2, n2, u2⟩ := G.out
      refine ⟨rfl, ⟨s2, Z, m2.less (fun b hb => hb.elim (fun g => Or.inl (Or.inl g)) Or.inr), HZ.out, r2, Nat.le_trans n2 HN.out⟩, ?_⟩
      exact Fr.trans (Fr.sub U1.out fun b _ hb => Or.inl hb) (Fr.sub u2 fun b _ hb => Or.inl (Or.inl hb))
set_option maxHeartbeats 8000000 in
set_option maxRecDepth 100000 in
theorem sflush_any {w : World} {base sb : Nat} {X : Nat → Prop} {S : PS} {N : Nat} (h : SSt w base sb X S N) (hl : S.events.length ≤ 900000) :
    Calls Tryz.prog 40 #[.pointer (some ⟨sb, 0, none⟩)] w fun e w' => e = .returned (.tuple #[]) ∧ SSt w' base sb X (flushP S) N ∧ Upd (Fr base X) w w' := by
  obtain ⟨s, Z, m, hz, r, hn⟩ := h
  have hsb := m.blk.lt
  have x0 : w.cell? ⟨sb, 0, none⟩ = some (.pointer (some ⟨s.tb, 0, none⟩)) := m.blk.cellAt (i := 0) rfl
  have TC := Lib.hid m.tclear
  have R := Lib.hid r
  have HN := Lib.hid hn
  have HL := Lib.hid hl
  have HZ := Lib.hid hz
  clear m r hn hl hz
  go_enter Tryz.func40, Tryz.ntmps40
  go_wp2_with fail
  refine (TC.out).mono ?_
  rintro e w1 ⟨rfl, P1⟩
  have hB := P1.1.blk
  have l1 := hB.lt
  have y1 := hB.cellAt (i := 1) rfl
  have y2 := hB.cellAt (i := 2) rfl
  have y5 := hB.cellAt (i := 5) rfl
  have f1 := hB.free 1
  have f2 := hB.free 2
  have f5 := hB.free 5
  have Q1 := P1.1.slotsTo (OwnN.none) (Upd.refl _ _) (fun b hb => by cases hb) ((Upd.refl (fun b => b = sb) w1).set (b := sb) (o := 1) (v := .slice none 0 0) (fun _ => rfl)) (hB.set 1 (.slice none 0 0))
  have Q2 := Q1.1.freeTo (show IntsAt _ base (.slice none 0 0) [] from World.ownsRow_nil _ _ _ _) (Upd.refl _ _) (fun b hb => by cases hb) ((Upd.refl (fun b => b = sb) _).set (b := sb) (o := 2) (v := .slice none 0 0) (fun _ => rfl)) (Q1.1.blk.set 2 (.slice none 0 0))
  have Q3 := Q2.1.bytSet 0
  have P3 := Lib.hid (P1.trans (Q1.trans (Q2.trans Q3)))
  clear P1 Q1 Q2 Q3 hB TC x0
  go_upto_region 2 with (fail)
  have x3 := P3.out.1.blk.cellAt (i := 3) rfl
  have lw := P3.out.1.blk.lt
  have RC := Lib.hid P3.out.1.rclear
  clear y1 y2 y5 f1 f2 f5
  go_wp2_with fail
  refine (RC.out).mono ?_
  rintro e w4 ⟨rfl, P4⟩
  have PP4 := Lib.hid (P3.out.trans P4)
  have l4 := P4.1.blk.lt
  have x4 := P4.1.blk.cellAt (i := 4) rfl
  have XC := Lib.hid P4.1.xclear
  clear P4 RC x3 lw P3
  go_wp2_with fail
  refine (XC.out).mono ?_
  rintro e w5 ⟨rfl, P5⟩
  have PP5 := Lib.hid (PP4.out.trans P5)
  clear P5 XC x4 PP4
  have G : Hid (SGo w base sb X Z w5 { S with cells := [] } s.n) := by
    refine ⟨_, PP5.out.1, ?_, Nat.zero_le _, PP5.out.2⟩
    have r0 := R.out
    exact ⟨⟨by simp [keysC], by simp, by simp, r0.ok.bud, by simp⟩, fun k => by simp [aget, keysC], by simp [akeys], by simp, fun k k' i h => by simp [aget] at h, by simp, by simp, rfl, rfl, rfl, r0.bud, r0.ev, by simp, by simp⟩
  clear PP5
  go_wp2_with fail
  refine ((G.out.tell (5, { data := #[] }) (by have := HL.out; show S.events.length ≤ _; omega)).out).mono ?_
  rintro e w6 ⟨rfl, G6⟩
  have GG := Lib.hid G6
  clear G6
  go_wp2
  go_end0
  exact ⟨rfl, GG.out.st HZ.out HN.out⟩
set_option maxHeartbeats 4000000 in
set_option maxRecDepth 100000 in
theorem sevents_any {w : World} {base sb : Nat} {X : Nat → Prop} {S : PS} {N : Nat} (h : SSt w base sb X S N) :
    Calls Tryz.prog 14 #[.pointer (some ⟨sb, 0, none⟩)] w fun e w' => ∃ v, e = .returned v ∧ OwnN evc 2 63 w' base v S.events ∧ SSt w' base sb (fun q => X q ∨ fOf v q) { S with events := [] } N ∧ Upd (Fr base X) w w' := by
  obtain ⟨s, Z, m, hz, r, hn⟩ := h
  have hsb := m.blk.lt
  obtain ⟨p0, c0, e0, _⟩ := m.evs.slice
  have x7 : w.cell? ⟨sb, 7, none⟩ = some (.slice p0 s.ev.length c0) := by rw [m.blk.cellAt (i := 7) rfl]; exact congrArg some e0
  have f7 := m.blk.free 7
  have EV := Lib.hid m.evs
  have NB := Lib.hid (m.nsb (b := sb)).2.2
  have hs := m.blk.set 7 (.slice none 0 0)
  have u2 : Upd (fun b => b = sb) w (w.setCell ⟨sb, 7, none⟩ (.slice none 0 0)) := (Upd.refl (fun b => b = sb) w).set (b := sb) (o := 7) (v := .slice none 0 0) (fun _ => rfl)
  have hzz : ∀ b, Z b → ¬ fOf s.evv b := by
    obtain ⟨F, mr, d, x⟩ := m
    exact fun b hb g => d 6 b (mr.f6 b g) (Or.inr hb)
  have Q := Lib.hid (m.evsOff (Y := Or2 (fun q => X q ∨ fOf s.evv q) Z) u2 hs (fun b hb => by
    rcases hb with (g | g) | g
    · exact Or.inl (Or.inl g)
    · exact Or.inr g
    · exact Or.inl (Or.inr g)))
  have R := Lib.hid r
  have HN := Lib.hid hn
  have HZ := Lib.hid hz
  have HZZ := Lib.hid hzz
  have RE := Lib.hid r.ev
  have U2 := Lib.hid u2
  clear m r hn hz hs hzz u2
  rw [e0] at EV Q HZZ NB
  generalize s.ev.length = n at *
  go_enter Tryz.func14, Tryz.ntmps14
  go_wp2
  go_ret
  have rr := R.out.keepF Q.out.2
  refine ⟨_, rfl, ?_, ⟨_, Z, Q.out.1, ?_, ⟨⟨rr.ok.nd, rr.ok.small, rr.ok.whens, rr.ok.bud, rr.ok.fit⟩, rr.km, rr.nd, rr.at_, rr.inj, rr.frOk, rr.frnd, rr.ks, rr.l, rr.byt, rr.bud, rfl, rr.sln, rr.cln⟩, HN.out⟩, Fr.sub Q.out.2 fun k _ hk => Or.inl hk⟩
  · rw [← RE.out]
    exact EV.out.keep U2.out fun b hb e => NB.out (by rw [← e]; exact hb) rfl
  · rintro b hb (g | g)
    · exact HZ.out b hb g
    · exact HZZ.out b hb g
theorem sbytes_any {w : World} {base sb : Nat} {X : Nat → Prop} {S : PS} {N : Nat} (h : SSt w base sb X S N) :
    Calls Tryz.prog 11 #[.pointer (some ⟨sb, 0, none⟩)] w fun e w' => e = .returned (.int .i64 (bytesC S.cells)) ∧ w' = w := by
  obtain ⟨s, B, hb, hd⟩ := h.blk
  have x5 : w.cell? ⟨sb, 5, none⟩ = some (.int .i64 s.byt) := B.cellAt (i := 5) rfl
  have hsb := B.lt
  rw [hb] at x5
  clear B hd hb
  go_enter Tryz.func11, Tryz.ntmps11
  go_wp2
  go_ret
  exact ⟨rfl, rfl⟩
theorem SSt.tlenAt {w : World} {base sb : Nat} {X : Nat → Prop} {S : PS} {N : Nat} (h : SSt w base sb X S N) (hN : N ≤ 10000) : ∃ tb, w.cell? ⟨sb, 0, none⟩ = some (.pointer (some ⟨tb, 0, none⟩)) ∧ sb < w.heap.size ∧
    (∀ w2, Upd (fun _ => False) w w2 → Calls Tryz.prog 10 #[.pointer (some ⟨tb, 0, none⟩)] w2 fun e w' => e = .returned (.int .i64 (S.cells.length : Int)) ∧ Upd (fun _ => False) w2 w') := by
  obtain ⟨s, Z, m, hz, r, hn⟩ := h
  refine ⟨s.tb, m.blk.cellAt (i := 0) rfl, m.blk.lt, fun w2 u => ?_⟩
  have := (m.keep0 u).tlen (by omega)
  rw [r.mlen] at this; exact this
theorem SSt.tkeysAt {w : World} {base sb : Nat} {X : Nat → Prop} {S : PS} {N : Nat} (h : SSt w base sb X S N) (hN : N ≤ 10000) : ∃ tb, w.cell? ⟨sb, 0, none⟩ = some (.pointer (some ⟨tb, 0, none⟩)) ∧ sb < w.heap.size ∧
    (∀ w2, Upd (fun _ => False) w w2 → Calls Tryz.prog 17 #[.pointer (some ⟨tb, 0, none⟩)] w2 fun e w' => ∃ v, e = .returned v ∧ StrsAt w' w2.heap.size v (sortStr (keysC S.cells)) ∧ Upd (fun _ => False) w2 w') := by
  obtain ⟨s, Z, m, hz, r, hn⟩ := h
  refine ⟨s.tb, m.blk.cellAt (i := 0) rfl, m.blk.lt, fun w2 u => ?_⟩
  have := (m.keep0 u).tkeys (by omega)
  rw [r.mkeys] at this; exact this
end Go.Proofs.YtgdenmddbgcacaaGreatDoor
