/- Walks: Peek, Get. -/
import Derived.Test.YtgdenmddbgcacaaGreatDoorK18
import Derived.Test.YtgdenmddbgcacaaGreatDoorK17
set_option linter.unusedVariables false
set_option linter.unusedSimpArgs false
namespace Go.Proofs.YtgdenmddbgcacaaGreatDoor
open Go.RowKit

def zeroIt : It := ⟨0, ByteArray.empty, []⟩
/-- What a key has, or nothing. -/
def gotI (S : PS) (k : ByteArray) : It := match lookC S.cells k with
  | none => zeroIt
  | some c => c.item
/-- Where fields lie, if there are any. -/
def fX (v : Value) (l : List Fd) : Nat → Prop := fun q => fOf v q ∧ l ≠ []
theorem fld_fX {w : World} {v : Value} {l : List Fd} (h : RowOf fdc 2 w v l) : FldAt w (fX v l) v l := by
  refine ⟨h, ?_⟩
  by_cases e : l = []
  · exact Or.inl e
  · exact Or.inr fun b hb => ⟨hb, e⟩
section
variable {w w' : World} {base sb : Nat} {s : SV} {X Z : Nat → Prop} {S : PS} {N : Nat} {key : ByteArray}
theorem SRel.used (r : SRel w Z s S) (hk : key ∈ keysC S.cells) : SRel w Z { s with ks := touched s.ks key } { S with cells := usedC S.cells key } := by
  obtain ⟨c, hlc, hc, rfl, _⟩ := r.get_some hk
  obtain ⟨u1, u2⟩ := usedC_keys r.ok.nd c.key
  have eu : usedC S.cells c.key = delC S.cells c.key ++ [c] := by unfold usedC; rw [hlc]
  refine ⟨r.ok.sub (ev := S.events) (fun d hd => (u2 d).1 hd) u1, fun k => ?_, r.nd, fun d hd => r.at_ d ((u2 d).1 hd), r.inj, r.frOk, r.frnd, ?_, ?_, ?_, r.bud, r.ev, r.sln, ?_⟩
  · rw [r.km k]
    congr 1
    apply propext
    show k ∈ keysC S.cells ↔ k ∈ keysC (usedC S.cells c.key)
    unfold keysC
    rw [List.mem_map, List.mem_map]
    exact ⟨fun ⟨d, hd, e⟩ => ⟨d, (u2 d).2 hd, e⟩, fun ⟨d, hd, e⟩ => ⟨d, (u2 d).1 hd, e⟩⟩
  · show touched s.ks c.key = keysC (usedC S.cells c.key)
    rw [eu, r.ks]
    unfold touched
    rw [← delC_erase r.ok.nd]
    simp [keysC]
  · show s.l = duesC (usedC S.cells c.key)
    rw [r.l]
    refine rise_ext (duesC_rise r.ok.nd) (duesC_rise u1) fun d => ?_
    rw [duesC_mem, duesC_mem]
    exact ⟨fun ⟨x, hx, g⟩ => ⟨x, (u2 x).2 hx, g⟩, fun ⟨x, hx, g⟩ => ⟨x, (u2 x).1 hx, g⟩⟩
  · show s.byt = bytesC (usedC S.cells c.key)
    rw [eu, bytesC_app, bytesC_del r.ok.nd hc, r.byt]; simp [bytesC]
  · show (usedC S.cells c.key).length ≤ s.n
    have : (usedC S.cells c.key).length = S.cells.length := by
      have hp : (keysC (usedC S.cells c.key)).Perm (keysC S.cells) := (List.perm_ext_iff_of_nodup u1 r.ok.nd).2 fun k => by
        unfold keysC
        rw [List.mem_map, List.mem_map]
        exact ⟨fun ⟨d, hd, e⟩ => ⟨d, (u2 d).1 hd, e⟩, fun ⟨d, hd, e⟩ => ⟨d, (u2 d).2 hd, e⟩⟩
      have := hp.length_eq
      simpa [keysC] using this
    rw [this]; exact r.cln
end
set_option maxHeartbeats 8000000 in
set_option maxRecDepth 100000 in
theorem speek_any {w : World} {base sb : Nat} {X : Nat → Prop} {S : PS} {N : Nat} (h : SSt w base sb X S N) (key : ByteArray) (now : Int) (hN : N ≤ 10000) (hk : key.size ≤ 100000) (hl : S.events.length ≤ 900000) :
    Calls Tryz.prog 19 #[.pointer (some ⟨sb, 0, none⟩), .string key, .int .i64 now] w fun e w' => ∃ v, e = .returned (.tuple #[itV (gotI (dueP S key now) key) v, .bool (wasP (dueP S key now) key)]) ∧ RowOf fdc 2 w' v (gotI (dueP S key now) key).flds ∧ SSt w' base sb (fun q => X q ∨ fX v (gotI (dueP S key now) key).flds q) (dueP S key now) N ∧ Upd (Fr base X) w w' ∧ ∀ q, fX v (gotI (dueP S key now) key).flds q → w.heap.size ≤ q := by
  have u0 : Upd (fun _ => False) w (w.alloc (.cells #[.int .i64 0, .string { data := #[] }, .slice none 0 0] 31)) := (Upd.refl _ _).alloc _
  have hB0 := Blk.made w [.int .i64 0, .string { data := #[] }, .slice none 0 0] 31
  have hbl := h.bl
  have hxl := h.lt
  have LOW := Lib.hid h.std.low
  have h1 := h.also (Y := fun q => X q ∨ q = w.heap.size) u0 (fun b hb => hb.imp id (fun e => by subst e; simp))
  obtain ⟨s, Z, m, hz, r, hn⟩ := h1
  have D := Lib.hid (slot_any m r key now (by omega) hk (by omega))
  have HN := Lib.hid hn
  have HNN := Lib.hid hN
  have HZ := Lib.hid hz
  have U0 := Lib.hid u0
  have HB0 := Lib.hid hB0
  have HBL := Lib.hid hbl
  have HXL := Lib.hid hxl
  clear m r hn hl hk hz h u0 hB0 hbl hxl
  generalize dueP S key now = S1 at *
  have hwl : wasP S1 key = (lookC S1.cells key).isSome := lookC_isSome.symm
  unfold gotI
  cases hlk : lookC S1.cells key with
  | none =>
    rw [hwl, hlk, Option.isSome_none] at D
    rw [hwl, hlk, Option.isSome_none]
    simp only
    clear hwl hlk
    go_enter Tryz.func19, Tryz.ntmps19
    go_wp2_with fail
    refine (D.out).mono ?_
    rintro e w1 ⟨s1, i, rfl, m1, r1, n1, u1, hi⟩
    have hB1 := u1.blk HB0.out (fun g => g.2 (Or.inl (Or.inr rfl)))
    have b0 := hB1.cellAt (i := 0) rfl
    have b1 := hB1.cellAt (i := 1) rfl
    have b2 := hB1.cellAt (i := 2) rfl
    have g0 := hB1.free 0
    have g1 := hB1.free 1
    have g2 := hB1.free 2
    have lb := hB1.lt
    have M1 := Lib.hid m1
    have R1 := Lib.hid r1
    have U1 := Lib.hid u1
    have N1 := Lib.hid n1
    have HB1 := Lib.hid hB1
    clear m1 r1 u1 n1 D hi hB1
    go_wp2
    have BW := ((HB1.out.set 0 (.int .i64 0)).set 1 (.string { data := #[] })).set 2 (.slice none 0 0)
    have q0 := BW.cellAt (i := 0) rfl
    have q1 := BW.cellAt (i := 1) rfl
    have q2 := BW.cellAt (i := 2) rfl
    have uu : Upd (fun b => b = w.heap.size) w1 _ := ((((Upd.refl (fun b => b = w.heap.size) w1).set (b := w.heap.size) (o := 0) (v := .int .i64 0) (fun _ => rfl)).set (b := w.heap.size) (o := 1) (v := .string { data := #[] }) (fun _ => rfl)).set (b := w.heap.size) (o := 2) (v := .slice none 0 0) (fun _ => rfl))
    refine bodyPost_ret (v := .tuple #[itV zeroIt (.slice none 0 0), .bool false]) (by simp [results, Tryz.results19, go_sem, q0, q1, q2, itV, zeroIt]; rfl) rfl ⟨_, rfl, Or.inl ⟨_, _, rfl, rfl⟩, ?_, ?_, fun q hq => absurd rfl hq.2⟩
    · have hS : SSt w1 base sb (fun q => X q ∨ q = w.heap.size) S1 N := ⟨s1, Z, M1.out, HZ.out, R1.out, Nat.le_trans N1.out HN.out⟩
      refine (hS.keepG uu fun b hb => ⟨Or.inr hb, ?_⟩).less fun b hb => ?_
      · rw [hb]; exact LOW.out
      · rcases hb with g | g
        · exact Or.inl g
        · exact absurd rfl g.2
    · exact (Fr.trans (Fr.of0 U0.out) (Fr.sub U1.out fun k _ hk => Or.inl (Or.inl hk))).trans uu (fun i hi e => by omega)
  | some c =>
    rw [hwl, hlk, Option.isSome_some] at D
    rw [hwl, hlk, Option.isSome_some]
    simp only
    have HLK := Lib.hid hlk
    clear hwl hlk
    go_enter Tryz.func19, Tryz.ntmps19
    go_wp2_with fail
    refine (D.out).mono ?_
    rintro e w1 ⟨s1, i, rfl, m1, r1, n1, u1, hi⟩
    have hkk : key ∈ keysC S1.cells := by
      obtain ⟨a, b⟩ := lookC_some HLK.out
      exact List.mem_map.2 ⟨c, a, b⟩
    obtain ⟨c2, hlc, hc, hck, j, v, hg, hsl, hf⟩ := r1.get_some hkk
    have ec : c2 = c := by rw [HLK.out] at hlc; exact (Option.some.inj hlc).symm
    subst ec
    rw [hg] at hi
    simp only [Option.getD_some] at hi
    subst hi
    obtain ⟨b, cp, e, hb, hne, c0, c1, cc, fr, hm⟩ := m1.slot hsl
    have hsb := m1.blk.lt
    have x1 : w1.cell? ⟨sb, 1, none⟩ = some (.slice (some ⟨b, 0, none⟩) s1.sl.length cp) := by rw [m1.blk.cellAt (i := 1) rfl]; exact congrArg some e
    have hil := (List.getElem?_eq_some_iff.1 hsl).1
    have hB1 := u1.blk HB0.out (fun g => g.2 (Or.inl (Or.inr rfl)))
    have CY := Lib.hid (copy_any c2.item v w1 hf.1 (by have := (small_of_right (r1.ok.small c2 hc).1).flds; omega))
    have M1 := Lib.hid m1
    have R1 := Lib.hid r1
    have U1 := Lib.hid u1
    have N1 := Lib.hid n1
    have HB1 := Lib.hid hB1
    simp only at c0 c1 cc
    clear m1 r1 u1 n1 D hB1 e fr hkk hlc hc hck hg hsl hf
    go_wp2_with fail
    refine (CY.out).mono ?_
    rintro e w2 ⟨v2, rfl, rv, fv, u2⟩
    obtain ⟨p2, cz, ev2, _⟩ := rv.len
    subst ev2
    have hB2 := u2.blk HB1.out (fun h => h)
    have b0 := hB2.cellAt (i := 0) rfl
    have b1 := hB2.cellAt (i := 1) rfl
    have b2 := hB2.cellAt (i := 2) rfl
    have g0 := hB2.free 0
    have g1 := hB2.free 1
    have g2 := hB2.free 2
    have lb := hB2.lt
    have HB2 := Lib.hid hB2
    have lb1 := HB1.out.lt
    have RV := Lib.hid rv
    have FV := Lib.hid fv
    have U2 := Lib.hid u2
    clear rv fv u2 hB2 CY
    unfold itV
    go_wp2
    have BW := ((HB2.out.set 0 (.int .i64 c2.item.kind)).set 1 (.string c2.item.text)).set 2 (.slice p2 c2.item.flds.length cz)
    have q0 := BW.cellAt (i := 0) rfl
    have q1 := BW.cellAt (i := 1) rfl
    have q2 := BW.cellAt (i := 2) rfl
    have uu : Upd (fun b => b = w.heap.size) w2 _ := ((((Upd.refl (fun b => b = w.heap.size) w2).set (b := w.heap.size) (o := 0) (v := .int .i64 c2.item.kind) (fun _ => rfl)).set (b := w.heap.size) (o := 1) (v := .string c2.item.text) (fun _ => rfl)).set (b := w.heap.size) (o := 2) (v := .slice p2 c2.item.flds.length cz) (fun _ => rfl))
    refine bodyPost_ret (v := .tuple #[.agg #[.int .i64 c2.item.kind, .string c2.item.text, .slice p2 c2.item.flds.length cz], .bool true]) (by simp [results, Tryz.results19, go_sem, q0, q1, q2, itV]) rfl ⟨_, rfl, ?_, ?_, ?_, fun q hq => ?_⟩
    · rcases FV.out with e | g
      · have h := RV.out
        rw [e] at h ⊢
        exact h.nilTo
      · exact RV.out.keep uu fun b hb hv => by have := (g b hv).1; intro e; omega
    · have hS : SSt w1 base sb (fun q => X q ∨ q = w.heap.size) S1 N := ⟨s1, Z, M1.out, HZ.out, R1.out, Nat.le_trans N1.out HN.out⟩
      have hS2 : SSt w2 base sb (fun q => (X q ∨ fX (.slice p2 c2.item.flds.length cz) c2.item.flds q) ∨ q = w.heap.size) S1 N := hS.also U2.out fun b hb => by
        rcases hb with (g | g) | g
        · exact Or.inl (Or.inl g)
        · rcases FV.out with e | f
          · exact absurd e g.2
          · exact Or.inr (f b g.1)
        · exact Or.inl (Or.inr g)
      exact (hS2.keepG uu fun b hb => ⟨Or.inr hb, by rw [hb]; exact LOW.out⟩).less fun b hb => Or.inl hb
    · exact ((Fr.trans (Fr.of0 U0.out) (Fr.sub U1.out fun k _ hk => Or.inl (Or.inl hk))).trans U2.out (fun i hi e => e.elim)).trans uu (fun i hi e => by omega)
    · rcases FV.out with e | f
      · exact absurd e hq.2
      · have := (f q hq.1).1; omega
set_option maxHeartbeats 8000000 in
set_option maxRecDepth 100000 in
theorem sget_any {w : World} {base sb : Nat} {X : Nat → Prop} {S : PS} {N : Nat} (h : SSt w base sb X S N) (key : ByteArray) (now : Int) (hN : N ≤ 10000) (hk : key.size ≤ 100000) (hl : S.events.length ≤ 900000) :
    Calls Tryz.prog 23 #[.pointer (some ⟨sb, 0, none⟩), .string key, .int .i64 now] w fun e w' => ∃ v, e = .returned (.tuple #[itV (gotI (dueP S key now) key) v, .bool (wasP (dueP S key now) key)]) ∧ RowOf fdc 2 w' v (gotI (dueP S key now) key).flds ∧ SSt w' base sb (fun q => X q ∨ fX v (gotI (dueP S key now) key).flds q) (getP S key now) N ∧ Upd (Fr base X) w w' ∧ ∀ q, fX v (gotI (dueP S key now) key).flds q → w.heap.size ≤ q := by
  have u0 : Upd (fun _ => False) w (w.alloc (.cells #[.int .i64 0, .string { data := #[] }, .slice none 0 0] 31)) := (Upd.refl _ _).alloc _
  have hB0 := Blk.made w [.int .i64 0, .string { data := #[] }, .slice none 0 0] 31
  have hxl := h.lt
  have LOW := Lib.hid h.std.low
  have h1 := h.also (Y := fun q => X q ∨ q = w.heap.size) u0 (fun b hb => hb.imp id (fun e => by subst e; simp))
  have D := Lib.hid (speek_any h1 key now hN hk hl)
  have HNN := Lib.hid hN
  have U0 := Lib.hid u0
  have HB0 := Lib.hid hB0
  have HXL := Lib.hid hxl
  clear hl hk h u0 hB0 hxl h1
  unfold getP
  generalize dueP S key now = S1 at *
  obtain ⟨gi, hgi⟩ : ∃ gi, gotI S1 key = gi := ⟨_, rfl⟩
  rw [hgi] at D ⊢
  clear hgi
  unfold itV at D ⊢
  cases hw : wasP S1 key with
  | false =>
    have eu : usedC S1.cells key = S1.cells := by
      unfold usedC
      have : lookC S1.cells key = none := lookC_none.2 (of_decide_eq_false hw)
      rw [this]
    rw [hw] at D
    rw [eu]
    clear hw eu
    go_enter Tryz.func23, Tryz.ntmps23
    go_wp2_with fail
    refine (D.out).mono ?_
    rintro e w1 ⟨v, rfl, rv, s1, u1, hfx⟩
    obtain ⟨p2, cz, ev2, _⟩ := rv.len
    subst ev2
    have hB1 := u1.blk HB0.out (fun g => g.2 (Or.inr rfl))
    have b0 := hB1.cellAt (i := 0) rfl
    have b1 := hB1.cellAt (i := 1) rfl
    have b2 := hB1.cellAt (i := 2) rfl
    have g0 := hB1.free 0
    have g1 := hB1.free 1
    have g2 := hB1.free 2
    have lb1 := hB1.lt
    have HB1 := Lib.hid hB1
    have FXH := Lib.hid hfx
    have RV := Lib.hid rv
    have S1h := Lib.hid s1
    have U1 := Lib.hid u1
    clear rv s1 u1 hB1 D hfx
    go_wp2
    have BW := (((HB1.out.set 0 (.int .i64 gi.kind)).set 1 (.string gi.text)).set 2 (.slice p2 gi.flds.length cz)).alloc (.cells #[.int .i64 gi.kind, .string gi.text, .slice p2 gi.flds.length cz] 31)
    have q0 := BW.cellAt (i := 0) rfl
    have q1 := BW.cellAt (i := 1) rfl
    have q2 := BW.cellAt (i := 2) rfl
    have uu : Upd (fun b => b = w.heap.size) w1 _ := ((((Upd.refl (fun b => b = w.heap.size) w1).set (b := w.heap.size) (o := 0) (v := .int .i64 gi.kind) (fun _ => rfl)).set (b := w.heap.size) (o := 1) (v := .string gi.text) (fun _ => rfl)).set (b := w.heap.size) (o := 2) (v := .slice p2 gi.flds.length cz) (fun _ => rfl)).alloc (.cells #[.int .i64 gi.kind, .string gi.text, .slice p2 gi.flds.length cz] 31)
    refine bodyPost_ret (v := .tuple #[.agg #[.int .i64 gi.kind, .string gi.text, .slice p2 gi.flds.length cz], .bool false]) (by simp [results, Tryz.results23, go_sem, q0, q1, q2]) rfl ⟨_, rfl, ?_, ?_, ?_, fun q hq => by have := FXH.out q hq; have hsz := U0.out.size; omega⟩
    · by_cases e : gi.flds = []
      · have h := RV.out
        rw [e] at h ⊢
        exact h.nilTo
      · exact RV.out.keep uu fun b hb hv eb => by
          have := FXH.out b ⟨hv, e⟩
          simp at this; omega
    · exact (S1h.out.keepG uu fun b hb => ⟨Or.inl (Or.inr hb), by rw [hb]; exact LOW.out⟩).less fun b hb => by
        rcases hb with g | g
        · exact Or.inl (Or.inl g)
        · exact Or.inr g
    · exact (Fr.trans (Fr.of0 U0.out) (Fr.sub U1.out fun k _ hk => Or.inl hk)).trans uu (fun i hi e => by omega)
  | true =>
    have hkk : key ∈ keysC S1.cells := of_decide_eq_true hw
    have HKK := Lib.hid hkk
    rw [hw] at D
    clear hw hkk
    go_enter Tryz.func23, Tryz.ntmps23
    go_wp2_with fail
    refine (D.out).mono ?_
    rintro e w1 ⟨v, rfl, rv, s1, u1, hfx⟩
    obtain ⟨p2, cz, ev2, _⟩ := rv.len
    subst ev2
    have hB1 := u1.blk HB0.out (fun g => g.2 (Or.inr rfl))
    have lb1 := hB1.lt
    have ua : Upd (fun _ => False) w1 (w1.alloc (.cells #[.int .i64 gi.kind, .string gi.text, .slice p2 gi.flds.length cz] 31)) := (Upd.refl _ _).alloc _
    have hBX := Blk.made w1 [.int .i64 gi.kind, .string gi.text, .slice p2 gi.flds.length cz] 31
    have s2 := s1.also (Y := fun q => (((X q ∨ q = w.heap.size) ∨ fX (.slice p2 gi.flds.length cz) gi.flds q) ∨ q = w1.heap.size)) ua (fun b hb => hb.imp id (fun e => by subst e; simp))
    obtain ⟨t, Z, m, hz, r, hn⟩ := s2
    have x3 : w1.cell? ⟨sb, 3, none⟩ = some (.pointer (some ⟨t.rb, 0, none⟩)) := by
      have h1 := m.blk.cellAt (i := 3) rfl
      obtain ⟨s0, B0, _⟩ := s1.blk
      have hl := B0.lt
      have h2 := ua.cell (p := ⟨sb, 3, none⟩) hl (fun h => h)
      rw [← h2]; exact h1
    have hsb : sb < w1.heap.size := by obtain ⟨s0, B0, _⟩ := s1.blk; exact B0.lt
    have TO := Lib.hid (m.rtouch key)
    have M := Lib.hid m
    have R := Lib.hid r
    have HZ := Lib.hid hz
    have HN := Lib.hid hn
    have RV := Lib.hid rv
    have U1 := Lib.hid u1
    have UA := Lib.hid ua
    have HB1 := Lib.hid hB1
    have HBX := Lib.hid hBX
    have FXH := Lib.hid hfx
    clear rv s1 u1 ua hB1 hBX D hfx m r hz hn
    go_wp2_with fail
    refine (TO.out).mono ?_
    rintro e w2 ⟨rfl, P2⟩
    have b2 := P2.2.blk (HB1.out.alloc _) (fun g => g.2 (Or.inl (Or.inl (Or.inl (Or.inr rfl)))))
    have bx := P2.2.blk HBX.out (fun g => g.2 (Or.inl (Or.inr rfl)))
    have y0 := b2.cellAt (i := 0) rfl
    have y1 := b2.cellAt (i := 1) rfl
    have y2 := b2.cellAt (i := 2) rfl
    have g0 := b2.free 0
    have g1 := b2.free 1
    have g2 := b2.free 2
    have lb2 := b2.lt
    have z0 := bx.cellAt (i := 0) rfl
    have z1 := bx.cellAt (i := 1) rfl
    have z2 := bx.cellAt (i := 2) rfl
    have lx := bx.lt
    have PP := Lib.hid P2
    have B2 := Lib.hid b2
    clear P2 b2 bx TO
    have hne : ¬ w1.heap.size = w.heap.size := by omega
    have hne2 : ¬ w.heap.size = w1.heap.size := by omega
    go_wp2
    have BW := ((B2.out.set 0 (.int .i64 gi.kind)).set 1 (.string gi.text)).set 2 (.slice p2 gi.flds.length cz)
    have q0 := BW.cellAt (i := 0) rfl
    have q1 := BW.cellAt (i := 1) rfl
    have q2 := BW.cellAt (i := 2) rfl
    have uu : Upd (fun b => b = w.heap.size) w2 _ := ((((Upd.refl (fun b => b = w.heap.size) w2).set (b := w.heap.size) (o := 0) (v := .int .i64 gi.kind) (fun _ => rfl)).set (b := w.heap.size) (o := 1) (v := .string gi.text) (fun _ => rfl)).set (b := w.heap.size) (o := 2) (v := .slice p2 gi.flds.length cz) (fun _ => rfl))
    refine bodyPost_ret (v := .tuple #[.agg #[.int .i64 gi.kind, .string gi.text, .slice p2 gi.flds.length cz], .bool true]) (by simp [results, Tryz.results23, go_sem, q0, q1, q2]) rfl ⟨_, rfl, ?_, ?_, ?_, fun q hq => by have := FXH.out q hq; have hsz := U0.out.size; omega⟩
    · by_cases e : gi.flds = []
      · have h := RV.out
        rw [e] at h ⊢
        exact h.nilTo
      · exact ((RV.out.keep UA.out (fun _ _ _ h => h)).keep PP.out.2 (fun b hb hv g => g.2 (Or.inl (Or.inl (Or.inr ⟨hv, e⟩))))).keep uu fun b hb hv eb => by
          have := FXH.out b ⟨hv, e⟩
          simp at this; omega
    · have hS : SSt w2 base sb (fun q => (((X q ∨ q = w.heap.size) ∨ fX (.slice p2 gi.flds.length cz) gi.flds q) ∨ q = w1.heap.size)) { S1 with cells := usedC S1.cells key } N := ⟨_, Z, PP.out.1, HZ.out, (R.out.keepF PP.out.2).used HKK.out, HN.out⟩
      exact (hS.keepG uu fun b hb => ⟨Or.inl (Or.inl (Or.inr hb)), by rw [hb]; exact LOW.out⟩).less fun b hb => by
        rcases hb with g | g
        · exact Or.inl (Or.inl (Or.inl g))
        · exact Or.inl (Or.inr g)
    · exact (((Fr.trans (Fr.of0 U0.out) (Fr.sub U1.out fun k _ hk => Or.inl hk)).trans UA.out (fun i hi e => e.elim)).trans PP.out.2 (fun i hi g => ⟨g.1, fun hx => g.2 (Or.inl (Or.inl (Or.inl (Or.inl hx))))⟩)).trans uu (fun i hi e => by omega)
end Go.Proofs.YtgdenmddbgcacaaGreatDoor
/- The document's store: walks of Peek, Get. -/
set_option linter.unusedVariables false
set_option linter.unusedSimpArgs false
set_option linter.unusedSectionVars false
namespace Go.Proofs.YtgdenmddbgcacaaGreatDoor
open Go.RowKit

section
variable {w w' w1 w2 : World} {base wb : Nat} {vs ve : Value} {C : List RCe} {S S1 S2 : PS} {key : ByteArray} {X X1 : Nat → Prop}
/-- A block beside the store is written. -/
theorem RMem.side (h : RMem w1 base wb vs ve C S1) {q : Nat} (hq : ¬ rfoot wb vs ve q) (hb : base ≤ q) (u : Upd (fun b => b = q) w1 w2) : RMem w2 base wb vs ve C S1 :=
  h.keep u fun b e => by subst e; exact ⟨hb, hq⟩
/-- A cell more. -/
theorem RMem.push (h : RMem w base wb vs ve C S) (t : RCe) (hf : FldAt w (fun b => b < base) t.v t.c.item.flds) (hl : C.length ≤ 100000) :
    ∃ p0 c0 p c w1, vs = .slice p0 C.length c0 ∧ (Builtin.append_ #[45, 45] 45 #[vs, .slice (some ⟨w.heap.size, 0, none⟩) 1 1]).run Tryz.prog (w.alloc (.cells (rcs t).toArray 90)) = .ok (.slice p (C.length + 1) c) w1 ∧
      Upd (fun b => vs.ownBlock = some b) w w1 ∧ Blk w1 wb [vs, .int .i64 S.budget, ve] 47 ∧ RMem (w1.setCell ⟨wb, 0, none⟩ (.slice p (C.length + 1) c)) base wb (.slice p (C.length + 1) c) ve (C ++ [t]) { S with cells := S.cells ++ [t.c] } ∧
      Upd (rfoot wb vs ve) w (w1.setCell ⟨wb, 0, none⟩ (.slice p (C.length + 1) c)) ∧ ∀ b, rfoot wb (.slice p (C.length + 1) c) ve b → rfoot wb vs ve b ∨ w.heap.size ≤ b := by
  have u0 : Upd (fun _ => False) w (w.alloc (.cells (rcs t).toArray 90)) := (Upd.refl _ _).alloc _
  have m0 := h.keep0 u0
  obtain ⟨p0, c0, e0, _⟩ := h.cells.slice
  obtain ⟨v', w1, a, b, c, d⟩ := cel_app m0.cells (RowOf.lit (f := rcs) (k := 5) w t (rcs t) 90 rfl rfl) (fun s hs => by rw [List.mem_singleton.1 hs]; exact cel_one hf) (by simp; omega) m0.bl
  obtain ⟨p, k, e, _⟩ := b.slice
  rw [List.length_append, List.length_singleton] at e
  subst e
  have hfs : ∀ s ∈ C ++ [t], FldAt w1 (fun b => b < base) s.v s.c.item.flds := fun s hs => by
    rcases List.mem_append.1 hs with g | g
    · exact (m0.flds s g).keep c fun b hb e => by have := (m0.cells.lt e).1; omega
    · rw [List.mem_singleton.1 g]; exact (hf.keep u0 (fun _ _ h => h)).keep c fun b hb e => by have := (m0.cells.lt e).1; omega
  refine ⟨p0, c0, p, k, w1, e0, a, (u0.weaken fun _ _ h => h.elim).trans c (fun _ _ h => h), c.blk m0.blk (fun g => (m0.nes g).1 rfl), m0.cellsTo c b (by rw [List.map_append, h.eq]; rfl) hfs, ?_, ?_⟩
  · have u1 : Upd (rfoot wb vs ve) w w1 := (u0.weaken (F := rfoot wb vs ve) fun _ _ h => h.elim).trans c (fun i _ hi => Or.inr (Or.inl hi))
    exact u1.set (fun _ => Or.inl rfl)
  · rintro b (g | g | g)
    · exact Or.inl (Or.inl g)
    · rcases d b g with g | g
      · exact Or.inl (Or.inr (Or.inl g))
      · right; have := u0.size; omega
    · exact Or.inl (Or.inr (Or.inr g))
end
set_option maxHeartbeats 8000000 in
set_option maxRecDepth 100000 in
theorem qpeek_any {w : World} {base wb : Nat} {X : Nat → Prop} {S : PS} (h : RSt w base wb X S) (key : ByteArray) (now : Int) (hc : S.cells.length ≤ 10000) (hl : S.events.length ≤ 900000) :
    Calls Tryz.prog 28 #[.pointer (some ⟨wb, 0, none⟩), .string key, .int .i64 now] w fun e w' => ∃ v, e = .returned (.tuple #[itV (gotI (dueP S key now) key) v, .bool (wasP (dueP S key now) key)]) ∧ FldAt w' (fun b => b < base) v (gotI (dueP S key now) key).flds ∧ RGo w base wb X w' (dueP S key now) := by
  have HBL : base ≤ w.heap.size := by obtain ⟨vs, ve, C, m, _⟩ := h; exact m.bl
  have HXL : ∀ b, X b → b < w.heap.size := by obtain ⟨vs, ve, C, m, _, _, xl⟩ := h; exact fun b hb => (xl b hb).2
  have u0 : Upd (fun _ => False) w (w.alloc (.cells #[.int .i64 0, .string { data := #[] }, .slice none 0 0] 31)) := (Upd.refl _ _).alloc _
  have HB0 := Lib.hid (Blk.made w [.int .i64 0, .string { data := #[] }, .slice none 0 0] 31)
  have D := Lib.hid (rdue_any (h.keep0 u0) key now hc (by omega))
  have L := Lib.hid (dueP_lenR S key now)
  have HC := Lib.hid (And.intro hc hl)
  have HBX := Lib.hid (And.intro HBL HXL)
  have U0 := Lib.hid u0
  clear h hc hl HBL HXL u0
  generalize dueP S key now = S1 at *
  go_enter Tryz.func28, Tryz.ntmps28
  go_wp2_with fail
  refine (D.out).mono ?_
  rintro e w1 ⟨r, rfl, vs, ve, C, m1, ok1, f1, u1, hat⟩
  obtain ⟨p, c, ev, hm, hle⟩ := m1.cells.slice
  subst ev
  unfold maxLen at hm
  have x0 := m1.blk.cellAt (i := 0) (v := .slice p C.length c) rfl
  have hwb := m1.blk.lt
  have NX : Hid (¬ rfoot wb (.slice p C.length c) ve w.heap.size) := fun g => by
    rcases f1 _ g with g | g
    · have := HBX.out.2 _ g; omega
    · simp at g; omega
  have hB1 := u1.blk HB0.out (fun g => by have := HBX.out.2 _ g; omega)
  have b0 := hB1.cellAt (i := 0) rfl
  have b1 := hB1.cellAt (i := 1) rfl
  have b2 := hB1.cellAt (i := 2) rfl
  have g0 := hB1.free 0
  have g1 := hB1.free 1
  have g2 := hB1.free 2
  have lb := hB1.lt
  have HB1 := Lib.hid hB1
  have M1 := Lib.hid m1
  have OK1 := Lib.hid ok1
  have F1 : Hid ((∀ b, rfoot wb (.slice p C.length c) ve b → X b ∨ w.heap.size ≤ b) ∧ Upd X w w1) := ⟨fun b hb => (f1 b hb).imp id (fun g => Nat.le_trans U0.out.size g), (U0.out.weaken (F := X) fun _ _ h => h.elim).trans u1 (fun _ _ h => h)⟩
  clear D m1 ok1 f1 u1 hB1
  rcases hat.look M1.out.eq OK1.out.nd with ⟨rfl, hlk, hn⟩ | ⟨k, t, rfl, hk, hs, ht, hlk, hn⟩
  · have R : Hid (wasP S1 key = false ∧ gotI S1 key = zeroIt) := ⟨decide_eq_false hn, by unfold gotI; rw [hlk]⟩
    clear hn hat hlk
    go_wp2
    have BW := ((HB1.out.set 0 (.int .i64 0)).set 1 (.string { data := #[] })).set 2 (.slice none 0 0)
    have q0 := BW.cellAt (i := 0) rfl
    have q1 := BW.cellAt (i := 1) rfl
    have q2 := BW.cellAt (i := 2) rfl
    have uu : Upd (fun b => b = w.heap.size) w1 _ := ((((Upd.refl (fun b => b = w.heap.size) w1).set (b := w.heap.size) (o := 0) (v := .int .i64 0) (fun _ => rfl)).set (b := w.heap.size) (o := 1) (v := .string { data := #[] }) (fun _ => rfl)).set (b := w.heap.size) (o := 2) (v := .slice none 0 0) (fun _ => rfl))
    refine bodyPost_ret (v := .tuple #[itV zeroIt (.slice none 0 0), .bool false]) (by simp [results, Tryz.results28, go_sem, q0, q1, q2, itV, zeroIt]; rfl) rfl ⟨_, by rw [R.out.1, R.out.2], ?_, ?_⟩
    · rw [R.out.2]; exact ⟨Or.inl ⟨_, _, rfl, rfl⟩, Or.inl rfl⟩
    · exact (M1.out.side NX.out HBX.out.1 uu).st OK1.out F1.out.1 (F1.out.2.trans uu fun i hi e => by omega)
  · have hkl : k < C.length := (List.getElem?_eq_some_iff.1 hk).1
    obtain ⟨b, t2, ep, hb, hbl, hk2, hcs, hfz⟩ := cel_cells M1.out.cells hkl
    rw [hk] at hk2
    injection hk2 with e
    subst e ep
    have c0 := hcs 0 (by omega)
    have c1 := hcs 1 (by omega)
    have c2 := hcs 2 (by omega)
    have c3 := hcs 3 (by omega)
    have c4 := hcs 4 (by omega)
    simp only [rcs, List.getElem?_cons_zero, List.getElem?_cons_succ, Nat.add_zero] at c0 c1 c2 c3 c4
    have q0 : (k : Int) < (C.length : Int) := by omega
    have FD := M1.out.flds t (List.mem_of_getElem? hk)
    obtain ⟨pv, cv, evv, _⟩ := FD.1.len
    have GI : gotI S1 key = t.c.item := by unfold gotI; rw [hlk]
    have nb : ¬ b = w.heap.size := fun e => NX.out (Or.inr (Or.inl (by rw [← e]; rfl)))
    have nb2 : ¬ w.heap.size = b := fun e => nb e.symm
    have R : Hid (wasP S1 key = true ∧ gotI S1 key = t.c.item) := ⟨decide_eq_true hn, GI⟩
    have FDH := Lib.hid FD
    have EV := Lib.hid evv
    clear hn hat hlk hk hs ht hcs FD GI
    obtain ⟨⟨ky, ⟨kd, tx, fl⟩, wn⟩, v⟩ := t
    simp only at c0 c1 c2 c3 c4 evv R FDH EV
    rw [evv] at c3
    clear evv
    generalize C.length = nl at *
    obtain ⟨nf, hnf⟩ : ∃ nf, nf = fl.length := ⟨_, rfl⟩
    rw [← hnf] at c3 EV
    clear hnf
    go_wp2
    have BW := ((HB1.out.set 0 (.int .i64 kd)).set 1 (.string tx)).set 2 (.slice pv nf cv)
    have q0 := BW.cellAt (i := 0) rfl
    have q1 := BW.cellAt (i := 1) rfl
    have q2 := BW.cellAt (i := 2) rfl
    have uu : Upd (fun b => b = w.heap.size) w1 _ := ((((Upd.refl (fun b => b = w.heap.size) w1).set (b := w.heap.size) (o := 0) (v := .int .i64 kd) (fun _ => rfl)).set (b := w.heap.size) (o := 1) (v := .string tx) (fun _ => rfl)).set (b := w.heap.size) (o := 2) (v := .slice pv nf cv) (fun _ => rfl))
    refine bodyPost_ret (v := .tuple #[.agg #[.int .i64 kd, .string tx, .slice pv nf cv], .bool true]) (by simp [results, Tryz.results28, go_sem, q0, q1, q2]) rfl ⟨.slice pv nf cv, by rw [R.out.1, R.out.2]; rfl, ?_, ?_⟩
    · rw [R.out.2]
      have hh := FDH.out.keep uu fun b hb e => by have := HBX.out.1; omega
      rw [EV.out] at hh
      exact hh
    · exact (M1.out.side NX.out HBX.out.1 uu).st OK1.out F1.out.1 (F1.out.2.trans uu fun i hi e => by omega)
set_option maxHeartbeats 8000000 in
set_option maxRecDepth 100000 in
theorem qget_any {w : World} {base wb : Nat} {X : Nat → Prop} {S : PS} (h : RSt w base wb X S) (key : ByteArray) (now : Int) (hc : S.cells.length ≤ 10000) (hl : S.events.length ≤ 900000) :
    Calls Tryz.prog 27 #[.pointer (some ⟨wb, 0, none⟩), .string key, .int .i64 now] w fun e w' => ∃ v, e = .returned (.tuple #[itV (gotI (dueP S key now) key) v, .bool (wasP (dueP S key now) key)]) ∧ FldAt w' (fun b => b < base) v (gotI (dueP S key now) key).flds ∧ RGo w base wb X w' (getP S key now) := by
  obtain ⟨S2, hS2⟩ : ∃ S2, getP S key now = S2 := ⟨_, rfl⟩
  rw [hS2]
  have OKG : Hid (POk S2) := by obtain ⟨_, _, _, _, ok, _⟩ := h; exact hS2 ▸ ok.get key now
  unfold getP usedC at hS2
  have PE := Lib.hid hS2
  clear hS2
  have HBL : base ≤ w.heap.size := by obtain ⟨vs, ve, C, m, _⟩ := h; exact m.bl
  have HXL : ∀ b, X b → b < w.heap.size := by obtain ⟨vs, ve, C, m, _, _, xl⟩ := h; exact fun b hb => (xl b hb).2
  have u0 : Upd (fun _ => False) w (w.alloc (.cells #[.int .i64 0, .string { data := #[] }, .slice none 0 0] 31)) := (Upd.refl _ _).alloc _
  have HB0 := Lib.hid (Blk.made w [.int .i64 0, .string { data := #[] }, .slice none 0 0] 31)
  have D := Lib.hid (rdue_any (h.keep0 u0) key now hc (by omega))
  have L := Lib.hid (dueP_lenR S key now)
  have HC := Lib.hid (And.intro hc hl)
  have HBX := Lib.hid (And.intro HBL HXL)
  have U0 := Lib.hid u0
  clear h hc hl HBL HXL u0
  generalize dueP S key now = S1 at *
  go_enter Tryz.func27, Tryz.ntmps27
  go_wp2_with fail
  refine (D.out).mono ?_
  rintro e w1 ⟨r, rfl, vs, ve, C, m1, ok1, f1, u1, hat⟩
  obtain ⟨p, c, ev, hm, hle⟩ := m1.cells.slice
  subst ev
  unfold maxLen at hm
  have x0 := m1.blk.cellAt (i := 0) (v := .slice p C.length c) rfl
  have hwb := m1.blk.lt
  have NX : Hid (¬ rfoot wb (.slice p C.length c) ve w.heap.size) := fun g => by
    rcases f1 _ g with g | g
    · have := HBX.out.2 _ g; omega
    · simp at g; omega
  have hB1 := u1.blk HB0.out (fun g => by have := HBX.out.2 _ g; omega)
  have b0 := hB1.cellAt (i := 0) rfl
  have b1 := hB1.cellAt (i := 1) rfl
  have b2 := hB1.cellAt (i := 2) rfl
  have g0 := hB1.free 0
  have g1 := hB1.free 1
  have g2 := hB1.free 2
  have lb := hB1.lt
  have HB1 := Lib.hid hB1
  have M1 := Lib.hid m1
  have OK1 := Lib.hid ok1
  have F1 : Hid ((∀ b, rfoot wb (.slice p C.length c) ve b → X b ∨ w.heap.size ≤ b) ∧ Upd X w w1) := ⟨fun b hb => (f1 b hb).imp id (fun g => Nat.le_trans U0.out.size g), (U0.out.weaken (F := X) fun _ _ h => h.elim).trans u1 (fun _ _ h => h)⟩
  clear D m1 ok1 f1 u1 hB1
  rcases hat.look M1.out.eq OK1.out.nd with ⟨rfl, hlk, hn⟩ | ⟨k, t, rfl, hk, hs, ht, hlk, hn⟩
  · have R : Hid (wasP S1 key = false ∧ gotI S1 key = zeroIt) := ⟨decide_eq_false hn, by unfold gotI; rw [hlk]⟩
    have PE2 : Hid (S1 = S2) := by have := PE.out; rw [hlk] at this; exact this
    clear hn hat hlk
    go_wp2
    have BW := ((HB1.out.set 0 (.int .i64 0)).set 1 (.string { data := #[] })).set 2 (.slice none 0 0)
    have q0 := BW.cellAt (i := 0) rfl
    have q1 := BW.cellAt (i := 1) rfl
    have q2 := BW.cellAt (i := 2) rfl
    have uu : Upd (fun b => b = w.heap.size) w1 _ := ((((Upd.refl (fun b => b = w.heap.size) w1).set (b := w.heap.size) (o := 0) (v := .int .i64 0) (fun _ => rfl)).set (b := w.heap.size) (o := 1) (v := .string { data := #[] }) (fun _ => rfl)).set (b := w.heap.size) (o := 2) (v := .slice none 0 0) (fun _ => rfl))
    refine bodyPost_ret (v := .tuple #[itV zeroIt (.slice none 0 0), .bool false]) (by simp [results, Tryz.results27, go_sem, q0, q1, q2, itV, zeroIt]; rfl) rfl ⟨_, by rw [R.out.1, R.out.2], ?_, ?_⟩
    · rw [R.out.2]; exact ⟨Or.inl ⟨_, _, rfl, rfl⟩, Or.inl rfl⟩
    · rw [← PE2.out]; exact (M1.out.side NX.out HBX.out.1 uu).st OK1.out F1.out.1 (F1.out.2.trans uu fun i hi e => by omega)
  · have hkl : k < C.length := (List.getElem?_eq_some_iff.1 hk).1
    obtain ⟨b, t2, ep, hb, hbl, hk2, hcs, hfz⟩ := cel_cells M1.out.cells hkl
    rw [hk] at hk2
    injection hk2 with e
    subst e ep
    have c0 := hcs 0 (by omega)
    have c1 := hcs 1 (by omega)
    have c2 := hcs 2 (by omega)
    have c3 := hcs 3 (by omega)
    have c4 := hcs 4 (by omega)
    simp only [rcs, List.getElem?_cons_zero, List.getElem?_cons_succ, Nat.add_zero] at c0 c1 c2 c3 c4
    have q0 : (k : Int) < (C.length : Int) := by omega
    have FD := M1.out.flds t (List.mem_of_getElem? hk)
    obtain ⟨pv, cv, evv, _⟩ := FD.1.len
    have GI : gotI S1 key = t.c.item := by unfold gotI; rw [hlk]
    have nb : ¬ b = w.heap.size := fun e => NX.out (Or.inr (Or.inl (by rw [← e]; rfl)))
    have nb2 : ¬ w.heap.size = b := fun e => nb e.symm
    have R : Hid (wasP S1 key = true ∧ gotI S1 key = t.c.item) := ⟨decide_eq_true hn, GI⟩
    have PE2 : Hid ({ S1 with cells := delC S1.cells key ++ [t.c] } = S2) := by have := PE.out; rw [hlk] at this; exact this
    have FDH := Lib.hid FD
    have EV := Lib.hid evv
    have HKL := Lib.hid hkl
    have DE : Hid (S1.cells.eraseIdx k = delC S1.cells key) := by show _ = _; rw [erase_delC OK1.out.nd hs, ht]
    have HCL : Hid (C.length ≤ 100000) := by show _ ≤ _; rw [M1.out.len]; have := L.out; have := HC.out; omega
    clear hn hat hlk hk hs ht hcs FD GI hkl
    obtain ⟨⟨ky, ⟨kd, tx, fl⟩, wn⟩, v⟩ := t
    simp only at c0 c1 c2 c3 c4 evv R FDH EV PE2
    rw [evv] at c3
    clear evv
    obtain ⟨nf, hnf⟩ : ∃ nf, nf = fl.length := ⟨_, rfl⟩
    rw [← hnf] at c3 EV
    clear hnf
    have UA : Upd (fun _ => False) w1 (w1.alloc (.cells #[.string ky, .int .i64 kd, .string tx, .slice pv nf cv, .int .i64 wn] 90)) := (Upd.refl _ _).alloc _
    have WO := Lib.hid (rwithout_any (M1.out.keep0 UA) HCL.out HKL.out)
    have UA := Lib.hid UA
    have BA := Lib.hid (Blk.made w1 [.string ky, .int .i64 kd, .string tx, .slice pv nf cv, .int .i64 wn] 90)
    obtain ⟨nl, hnl⟩ : ∃ nl, nl = C.length := ⟨_, rfl⟩
    have NL := Lib.hid hnl
    rw [← hnl] at q0 x0 hm hle
    clear hnl
    go_wp2_with (fail)
    go_at_call 58
    refine WO.out.mono ?_
    rintro e w2 ⟨rfl, vs2, m2, u2, f2⟩
    rw [DE.out] at m2
    have ud : Upd (fun _ => False) w2 w2.drew := (Upd.refl _ _).drew
    have fd2 : FldAt w2.drew (fun b => b < base) (.slice pv nf cv) fl := by
      have := ((FDH.out.keep UA.out (fun _ _ h => h)).keep u2 (fun b hb e => by have := M1.out.lo; omega)).keep ud (fun _ _ h => h)
      rw [EV.out] at this; exact this
    obtain ⟨p0, c0', p3, c3', w3, e0, hr, ua3, hB3, m3, u3, f3⟩ := (m2.keep0 ud).push ⟨⟨ky, ⟨kd, tx, fl⟩, wn⟩, .slice pv nf cv⟩ fd2 (by rw [List.length_eraseIdx]; have := HCL.out; split <;> omega)
    have eL : (C.eraseIdx k).length = nl - 1 := by rw [List.length_eraseIdx, if_pos HKL.out, NL.out]
    rw [eL] at e0 hr m3 u3 f3
    have s1 := UA.out.size
    have s2 := u2.size
    have s1b : (w1.alloc (.cells #[.string ky, .int .i64 kd, .string tx, .slice pv nf cv, .int .i64 wn] 90)).heap.size = w1.heap.size + 1 := by simp
    have n2 : ∀ b, vs2.ownBlock = some b → w1.heap.size < b := fun b hb => by have := f2 b hb; omega
    have BL2 := u2.blk BA.out (fun e => by omega)
    have BL3 := ua3.blk (BL2.drew) (fun e => by have := n2 _ e; omega)
    have BR2 := u2.blk (UA.out.blk HB1.out (fun h => h)) (fun e => by have := NX.out; exact this (Or.inl e))
    have BR3 := ua3.blk (BR2.drew) (fun e => by have := n2 _ e; omega)
    have x2 := m2.blk.cellAt (i := 0) rfl
    have hwb2 := m2.blk.lt
    have k3 := hB3.cellAt (i := 0) rfl
    have l3 := hB3.lt
    have f3b := hB3.free 0
    have d0 := BL2.cellAt (i := 0) rfl
    have d1 := BL2.cellAt (i := 1) rfl
    have d2 := BL2.cellAt (i := 2) rfl
    have d3 := BL2.cellAt (i := 3) rfl
    have d4 := BL2.cellAt (i := 4) rfl
    have dl := BL2.lt
    have a1 := BL3.cellAt (i := 1) rfl
    have a2 := BL3.cellAt (i := 2) rfl
    have a3 := BL3.cellAt (i := 3) rfl
    have al := BL3.lt
    have r0 := BR3.cellAt (i := 0) rfl
    have r1 := BR3.cellAt (i := 1) rfl
    have r2 := BR3.cellAt (i := 2) rfl
    have rl := BR3.lt
    have h0 := BR3.free 0
    have h1 := BR3.free 1
    have h2 := BR3.free 2
    have nA : ¬ w1.heap.size = wb := by omega
    have nA2 : ¬ wb = w1.heap.size := by omega
    have nR : ¬ w.heap.size = wb := fun e => NX.out (Or.inl e)
    have nR2 : ¬ wb = w.heap.size := fun e => nR e.symm
    have nRA : ¬ w.heap.size = w1.heap.size := by omega
    have nRA2 : ¬ w1.heap.size = w.heap.size := by omega
    have hr : (Builtin.append_ #[45, 45] 45 #[vs2, .slice (some ⟨w2.heap.size, 0, none⟩) 1 1]).run Tryz.prog (w2.alloc (.cells #[.string ky, .int .i64 kd, .string tx, .slice pv nf cv, .int .i64 wn] 90)).drew = .ok (.slice p3 (nl - 1 + 1) c3') w3 := hr
    have BR3 := Lib.hid BR3
    have NR := Lib.hid nR
    have FIN : Hid (RMem (w3.setCell ⟨wb, 0, none⟩ (.slice p3 (nl - 1 + 1) c3')) base wb (.slice p3 (nl - 1 + 1) c3') ve (C.eraseIdx k ++ [⟨⟨ky, ⟨kd, tx, fl⟩, wn⟩, .slice pv nf cv⟩]) S2 ∧ (∀ b, rfoot wb (.slice p3 (nl - 1 + 1) c3') ve b → X b ∨ w.heap.size ≤ b) ∧ ¬ rfoot wb (.slice p3 (nl - 1 + 1) c3') ve w.heap.size ∧ Upd X w (w3.setCell ⟨wb, 0, none⟩ (.slice p3 (nl - 1 + 1) c3')) ∧ w.heap.size < w3.heap.size ∧ FldAt (w3.setCell ⟨wb, 0, none⟩ (.slice p3 (nl - 1 + 1) c3')) (fun b => b < base) (.slice pv nf cv) fl) := by
      have szw := F1.out.2.size
      have hF : ∀ b, rfoot wb vs2 ve b → X b ∨ w.heap.size ≤ b := by
        rintro b (g | g | g)
        · exact F1.out.1 b (Or.inl g)
        · right; have := n2 b g; omega
        · exact F1.out.1 b (Or.inr (Or.inr g))
      refine ⟨PE2.out ▸ m3, fun b hb => ?_, fun g => ?_, ((((F1.out.2).trans (UA.out.weaken (F := X) fun _ _ h => h.elim) (fun _ _ h => h)).trans u2 (fun i hi e => ?_)).trans (ud.weaken (F := X) fun _ _ h => h.elim) (fun _ _ h => h)).trans u3 (fun i hi g => ?_), rl, fd2.keep u3 (fun b hb g => ?_)⟩
      · rcases f3 b hb with g | g
        · exact hF b g
        · right; simp at g; omega
      · rcases f3 _ g with (g | g | g) | g
        · exact NR.out g
        · have := n2 _ g; omega
        · exact NX.out (Or.inr (Or.inr g))
        · simp at g; omega
      · rcases F1.out.1 i (Or.inl e) with g | g
        · exact g
        · omega
      · rcases hF i g with g | g
        · exact g
        · omega
      · have := ((m2.keep0 ud).fLt g).1; omega
    subst e0
    clear BL2 BL3 BR2 ua3 u3 f3 m3 m2 u2 f2 hB3 WO fd2 n2
    generalize nl - 1 = nm at *
    go_wp2
    go_region_law (refine step_builtinN rfl (.tmp 31) (.tmp 33) 45 rfl _ _ rfl rfl hr ?_)
    all_goals try go_wp2
    all_goals
      have BW := (((BR3.out.set_other (b' := wb) (o := 0) (v := .slice p3 (nm + 1) c3') NR.out).set 0 (.int .i64 kd)).set 1 (.string tx)).set 2 (.slice pv nf cv)
      have q0 := BW.cellAt (i := 0) rfl
      have q1 := BW.cellAt (i := 1) rfl
      have q2 := BW.cellAt (i := 2) rfl
      have uu : Upd (fun b => b = w.heap.size) (w3.setCell ⟨wb, 0, none⟩ (.slice p3 (nm + 1) c3')) _ := ((((Upd.refl (fun b => b = w.heap.size) _).set (b := w.heap.size) (o := 0) (v := .int .i64 kd) (fun _ => rfl)).set (b := w.heap.size) (o := 1) (v := .string tx) (fun _ => rfl)).set (b := w.heap.size) (o := 2) (v := .slice pv nf cv) (fun _ => rfl))
      refine bodyPost_ret (v := .tuple #[.agg #[.int .i64 kd, .string tx, .slice pv nf cv], .bool true]) (by simp [results, Tryz.results27, go_sem, q0, q1, q2]) rfl ⟨.slice pv nf cv, by rw [R.out.1, R.out.2]; rfl, ?_, ?_⟩
      · rw [R.out.2]
        exact FIN.out.2.2.2.2.2.keep uu fun b hb e => by have := HBX.out.1; omega
      · exact (FIN.out.1.side FIN.out.2.2.1 HBX.out.1 uu).st OKG.out FIN.out.2.1 (FIN.out.2.2.2.1.trans uu fun i hi e => by omega)
end Go.Proofs.YtgdenmddbgcacaaGreatDoor
