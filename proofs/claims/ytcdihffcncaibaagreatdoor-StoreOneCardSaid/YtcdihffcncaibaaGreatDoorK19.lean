/- Walks: Peek, Get. -/
import Derived.Test.YtcdihffcncaibaaGreatDoorK17
set_option linter.unusedVariables false
set_option linter.unusedSimpArgs false
namespace Go.Proofs.YtcdihffcncaibaaGreatDoor
open Go.RowKit

def zeroIt : It := ⟨0, ByteArray.empty, []⟩
/-- What a key has, or nothing. -/
def gotI (S : PS) (k : ByteArray) : It := match lookC S.cells k with
  | none => zeroIt
  | some c => c.item
/-- Where fields lie, if there are any. -/
def fX (v : Value) (l : List Fd) : Nat → Prop := fun q => fOf v q ∧ l ≠ []
theorem fld_fX {w : World} {v : Value} {l : List Fd} (h : RowOf fdc 2 w v l) : FldAt w (fX v l) v l := by
  refine ⟨h, ?_⟩
  by_cases e : l = []
  · exact Or.inl e
  · exact Or.inr fun b hb => ⟨hb, e⟩
section
variable {w w' : World} {base sb : Nat} {s : SV} {X Z : Nat → Prop} {S : PS} {N : Nat} {key : ByteArray}
theorem SRel.used (r : SRel w Z s S) (hk : key ∈ keysC S.cells) : SRel w Z { s with ks := touched s.ks key } { S with cells := usedC S.cells key } := by
  obtain ⟨c, hlc, hc, rfl, _⟩ := r.get_some hk
  obtain ⟨u1, u2⟩ := usedC_keys r.ok.nd c.key
  have eu : usedC S.cells c.key = delC S.cells c.key ++ [c] := by unfold usedC; rw [hlc]
  refine ⟨r.ok.sub (ev := S.events) (fun d hd => (u2 d).1 hd) u1, fun k => ?_, r.nd, fun d hd => r.at_ d ((u2 d).1 hd), r.inj, r.frOk, r.frnd, ?_, ?_, ?_, r.bud, r.ev, r.sln, ?_⟩
  · rw [r.km k]
    congr 1
    apply propext
    show k ∈ keysC S.cells ↔ k ∈ keysC (usedC S.cells c.key)
    unfold keysC
    rw [List.mem_map, List.mem_map]
    exact ⟨fun ⟨d, hd, e⟩ => ⟨d, (u2 d).2 hd, e⟩, fun ⟨d, hd, e⟩ => ⟨d, (u2 d).1 hd, e⟩⟩
  · show touched s.ks c.key = keysC (usedC S.cells c.key)
    rw [eu, r.ks]
    unfold touched
    rw [← delC_erase r.ok.nd]
    simp [keysC]
  · show s.l = duesC (usedC S.cells c.key)
    rw [r.l]
    refine rise_ext (duesC_rise r.ok.nd) (duesC_rise u1) fun d => ?_
    rw [duesC_mem, duesC_mem]
    exact ⟨fun ⟨x, hx, g⟩ => ⟨x, (u2 x).2 hx, g⟩, fun ⟨x, hx, g⟩ => ⟨x, (u2 x).1 hx, g⟩⟩
  · show s.byt = bytesC (usedC S.cells c.key)
    rw [eu, bytesC_app, bytesC_del r.ok.nd hc, r.byt]; simp [bytesC]
  · show (usedC S.cells c.key).length ≤ s.n
    have : (usedC S.cells c.key).length = S.cells.length := by
      have hp : (keysC (usedC S.cells c.key)).Perm (keysC S.cells) := (List.perm_ext_iff_of_nodup u1 r.ok.nd).2 fun k => by
        unfold keysC
        rw [List.mem_map, List.mem_map]
        exact ⟨fun ⟨d, hd, e⟩ => ⟨d, (u2 d).1 hd, e⟩, fun ⟨d, hd, e⟩ => ⟨d, (u2 d).2 hd, e⟩⟩
      have := hp.length_eq
      simpa [keysC] using this
    rw [this]; exact r.cln
end
set_option maxHeartbeats 8000000 in
set_option maxRecDepth 100000 in
theorem speek_any {w : World} {base sb : Nat} {X : Nat → Prop} {S : PS} {N : Nat} (h : SSt w base sb X S N) (key : ByteArray) (now : Int) (hN : N ≤ 10000) (hk : key.size ≤ 100000) (hl : S.events.length ≤ 900000) :
    Calls Tryz.prog 23 #[.pointer (some ⟨sb, 0, none⟩), .string key, .int .i64 now] w fun e w' => ∃ v, e = .returned (.tuple #[itV (gotI (dueP S key now) key) v, .bool (wasP (dueP S key now) key)]) ∧ RowOf fdc 2 w' v (gotI (dueP S key now) key).flds ∧ SSt w' base sb (fun q => X q ∨ fX v (gotI (dueP S key now) key).flds q) (dueP S key now) N ∧ Upd (Fr base X) w w' ∧ ∀ q, fX v (gotI (dueP S key now) key).flds q → w.heap.size ≤ q := by
  have u0 : Upd (fun _ => False) w (w.alloc (.cells #[.int .i64 0, .string { data := #[] }, .slice none 0 0] 24)) := (Upd.refl _ _).alloc _
  have hB0 := Blk.made w [.int .i64 0, .string { data := #[] }, .slice none 0 0] 24
  have hbl := h.bl
  have hxl := h.lt
  have LOW := Lib.hid h.std.low
  have h1 := h.also (Y := fun q => X q ∨ q = w.heap.size) u0 (fun b hb => hb.imp id (fun e => by subst e; simp))
  obtain ⟨s, Z, m, hz, r, hn⟩ := h1
  have D := Lib.hid (slot_any m r key now (by omega) hk (by omega))
  have HN := Lib.hid hn
  have HNN := Lib.hid hN
  have HZ := Lib.hid hz
  have U0 := Lib.hid u0
  have HB0 := Lib.hid hB0
  have HBL := Lib.hid hbl
  have HXL := Lib.hid hxl
  clear m r hn hl hk hz h u0 hB0 hbl hxl
  generalize dueP S key now = S1 at *
  have hwl : wasP S1 key = (lookC S1.cells key).isSome := lookC_isSome.symm
  unfold gotI
  cases hlk : lookC S1.cells key with
  | none =>
    rw [hwl, hlk, Option.isSome_none] at D
    rw [hwl, hlk, Option.isSome_none]
    simp only
    clear hwl hlk
    go_enter Tryz.func23, Tryz.ntmps23
    go_wp2_with fail
    refine (D.out).mono ?_
    rintro e w1 ⟨s1, i, rfl, m1, r1, n1, u1, hi⟩
    have hB1 := u1.blk HB0.out (fun g => g.2 (Or.inl (Or.inr rfl)))
    have b0 := hB1.cellAt (i := 0) rfl
    have b1 := hB1.cellAt (i := 1) rfl
    have b2 := hB1.cellAt (i := 2) rfl
    have g0 := hB1.free 0
    have g1 := hB1.free 1
    have g2 := hB1.free 2
    have lb := hB1.lt
    have M1 := Lib.hid m1
    have R1 := Lib.hid r1
    have U1 := Lib.hid u1
    have N1 := Lib.hid n1
    have HB1 := Lib.hid hB1
    clear m1 r1 u1 n1 D hi hB1
    go_wp2
    have BW := ((HB1.out.set 0 (.int .i64 0)).set 1 (.string { data := #[] })).set 2 (.slice none 0 0)
    have q0 := BW.cellAt (i := 0) rfl
    have q1 := BW.cellAt (i := 1) rfl
    have q2 := BW.cellAt (i := 2) rfl
    have uu : Upd (fun b => b = w.heap.size) w1 _ := ((((Upd.refl (fun b => b = w.heap.size) w1).set (b := w.heap.size) (o := 0) (v := .int .i64 0) (fun _ => rfl)).set (b := w.heap.size) (o := 1) (v := .string { data := #[] }) (fun _ => rfl)).set (b := w.heap.size) (o := 2) (v := .slice none 0 0) (fun _ => rfl))
    refine bodyPost_ret (v := .tuple #[itV zeroIt (.slice none 0 0), .bool false]) (by simp [results, Tryz.results23, go_sem, q0, q1, q2, itV, zeroIt]; rfl) rfl ⟨_, rfl, Or.inl ⟨_, _, rfl, rfl⟩, ?_, ?_, fun q hq => absurd rfl hq.2⟩
    · have hS : SSt w1 base sb (fun q => X q ∨ q = w.heap.size) S1 N := ⟨s1, Z, M1.out, HZ.out, R1.out, Nat.le_trans N1.out HN.out⟩
      refine (hS.keepG uu fun b hb => ⟨Or.inr hb, ?_⟩).less fun b hb => ?_
      · rw [hb]; exact LOW.out
      · rcases hb with g | g
        · exact Or.inl g
        · exact absurd rfl g.2
    · exact (Fr.trans (Fr.of0 U0.out) (Fr.sub U1.out fun k _ hk => Or.inl (Or.inl hk))).trans uu (fun i hi e => by omega)
  | some c =>
    rw [hwl, hlk, Option.isSome_some] at D
    rw [hwl, hlk, Option.isSome_some]
    simp only
    have HLK := Lib.hid hlk
    clear hwl hlk
    go_enter Tryz.func23, Tryz.ntmps23
    go_wp2_with fail
    refine (D.out).mono ?_
    rintro e w1 ⟨s1, i, rfl, m1, r1, n1, u1, hi⟩
    have hkk : key ∈ keysC S1.cells := by
      obtain ⟨a, b⟩ := lookC_some HLK.out
      exact List.mem_map.2 ⟨c, a, b⟩
    obtain ⟨c2, hlc, hc, hck, j, v, hg, hsl, hf⟩ := r1.get_some hkk
    have ec : c2 = c := by rw [HLK.out] at hlc; exact (Option.some.inj hlc).symm
    subst ec
    rw [hg] at hi
    simp only [Option.getD_some] at hi
    subst hi
    obtain ⟨b, cp, e, hb, hne, c0, c1, cc, fr, hm⟩ := m1.slot hsl
    have hsb := m1.blk.lt
    have x1 : w1.cell? ⟨sb, 1, none⟩ = some (.slice (some ⟨b, 0, none⟩) s1.sl.length cp) := by rw [m1.blk.cellAt (i := 1) rfl]; exact congrArg some e
    have hil := (List.getElem?_eq_some_iff.1 hsl).1
    have hB1 := u1.blk HB0.out (fun g => g.2 (Or.inl (Or.inr rfl)))
    have CY := Lib.hid (copy_any c2.item v w1 hf.1 (by have := (small_of_right (r1.ok.small c2 hc).1).flds; omega))
    have M1 := Lib.hid m1
    have R1 := Lib.hid r1
    have U1 := Lib.hid u1
    have N1 := Lib.hid n1
    have HB1 := Lib.hid hB1
    simp only at c0 c1 cc
    clear m1 r1 u1 n1 D hB1 e fr hkk hlc hc hck hg hsl hf
    go_wp2_with fail
    refine (CY.out).mono ?_
    rintro e w2 ⟨v2, rfl, rv, fv, u2⟩
    obtain ⟨p2, cz, ev2, _⟩ := rv.len
    subst ev2
    have hB2 := u2.blk HB1.out (fun h => h)
    have b0 := hB2.cellAt (i := 0) rfl
    have b1 := hB2.cellAt (i := 1) rfl
    have b2 := hB2.cellAt (i := 2) rfl
    have g0 := hB2.free 0
    have g1 := hB2.free 1
    have g2 := hB2.free 2
    have lb := hB2.lt
    have HB2 := Lib.hid hB2
    have lb1 := HB1.out.lt
    have RV := Lib.hid rv
    have FV := Lib.hid fv
    have U2 := Lib.hid u2
    clear rv fv u2 hB2 CY
    unfold itV
    go_wp2
    have BW := ((HB2.out.set 0 (.int .i64 c2.item.kind)).set 1 (.string c2.item.text)).set 2 (.slice p2 c2.item.flds.length cz)
    have q0 := BW.cellAt (i := 0) rfl
    have q1 := BW.cellAt (i := 1) rfl
    have q2 := BW.cellAt (i := 2) rfl
    have uu : Upd (fun b => b = w.heap.size) w2 _ := ((((Upd.refl (fun b => b = w.heap.size) w2).set (b := w.heap.size) (o := 0) (v := .int .i64 c2.item.kind) (fun _ => rfl)).set (b := w.heap.size) (o := 1) (v := .string c2.item.text) (fun _ => rfl)).set (b := w.heap.size) (o := 2) (v := .slice p2 c2.item.flds.length cz) (fun _ => rfl))
    refine bodyPost_ret (v := .tuple #[.agg #[.int .i64 c2.item.kind, .string c2.item.text, .slice p2 c2.item.flds.length cz], .bool true]) (by simp [results, Tryz.results23, go_sem, q0, q1, q2, itV]) rfl ⟨_, rfl, ?_, ?_, ?_, fun q hq => ?_⟩
    · rcases FV.out with e | g
      · have h := RV.out
        rw [e] at h ⊢
        exact h.nilTo
      · exact RV.out.keep uu fun b hb hv => by have := (g b hv).1; intro e; omega
    · have hS : SSt w1 base sb (fun q => X q ∨ q = w.heap.size) S1 N := ⟨s1, Z, M1.out, HZ.out, R1.out, Nat.le_trans N1.out HN.out⟩
      have hS2 : SSt w2 base sb (fun q => (X q ∨ fX (.slice p2 c2.item.flds.length cz) c2.item.flds q) ∨ q = w.heap.size) S1 N := hS.also U2.out fun b hb => by
        rcases hb with (g | g) | g
        · exact Or.inl (Or.inl g)
        · rcases FV.out with e | f
          · exact absurd e g.2
          · exact Or.inr (f b g.1)
        · exact Or.inl (Or.inr g)
      exact (hS2.keepG uu fun b hb => ⟨Or.inr hb, by rw [hb]; exact LOW.out⟩).less fun b hb => Or.inl hb
    · exact ((Fr.trans (Fr.of0 U0.out) (Fr.sub U1.out fun k _ hk => Or.inl (Or.inl hk))).trans U2.out (fun i hi e => e.elim)).trans uu (fun i hi e => by omega)
    · rcases FV.out with e | f
      · exact absurd e hq.2
      · have := (f q hq.1).1; omega
set_option maxHeartbeats 8000000 in
set_option maxRecDepth 100000 in
theorem sget_any {w : World} {base sb : Nat} {X : Nat → Prop} {S : PS} {N : Nat} (h : SSt w base sb X S N) (key : ByteArray) (now : Int) (hN : N ≤ 10000) (hk : key.size ≤ 100000) (hl : S.events.length ≤ 900000) :
    Calls Tryz.prog 16 #[.pointer (some ⟨sb, 0, none⟩), .string key, .int .i64 now] w fun e w' => ∃ v, e = .returned (.tuple #[itV (gotI (dueP S key now) key) v, .bool (wasP (dueP S key now) key)]) ∧ RowOf fdc 2 w' v (gotI (dueP S key now) key).flds ∧ SSt w' base sb (fun q => X q ∨ fX v (gotI (dueP S key now) key).flds q) (getP S key now) N ∧ Upd (Fr base X) w w' ∧ ∀ q, fX v (gotI (dueP S key now) key).flds q → w.heap.size ≤ q := by
  have u0 : Upd (fun _ => False) w (w.alloc (.cells #[.int .i64 0, .string { data := #[] }, .slice none 0 0] 24)) := (Upd.refl _ _).alloc _
  have hB0 := Blk.made w [.int .i64 0, .string { data := #[] }, .slice none 0 0] 24
  have hxl := h.lt
  have LOW := Lib.hid h.std.low
  have h1 := h.also (Y := fun q => X q ∨ q = w.heap.size) u0 (fun b hb => hb.imp id (fun e => by subst e; simp))
  have D := Lib.hid (speek_any h1 key now hN hk hl)
  have HNN := Lib.hid hN
  have U0 := Lib.hid u0
  have HB0 := Lib.hid hB0
  have HXL := Lib.hid hxl
  clear hl hk h u0 hB0 hxl h1
  unfold getP
  generalize dueP S key now = S1 at *
  obtain ⟨gi, hgi⟩ : ∃ gi, gotI S1 key = gi := ⟨_, rfl⟩
  rw [hgi] at D ⊢
  clear hgi
  unfold itV at D ⊢
  cases hw : wasP S1 key with
  | false =>
    have eu : usedC S1.cells key = S1.cells := by
      unfold usedC
      have : lookC S1.cells key = none := lookC_none.2 (of_decide_eq_false hw)
      rw [this]
    rw [hw] at D
    rw [eu]
    clear hw eu
    go_enter Tryz.func16, Tryz.ntmps16
    go_wp2_with fail
    refine (D.out).mono ?_
    rintro e w1 ⟨v, rfl, rv, s1, u1, hfx⟩
    obtain ⟨p2, cz, ev2, _⟩ := rv.len
    subst ev2
    have hB1 := u1.blk HB0.out (fun g => g.2 (Or.inr rfl))
    have b0 := hB1.cellAt (i := 0) rfl
    have b1 := hB1.cellAt (i := 1) rfl
    have b2 := hB1.cellAt (i := 2) rfl
    have g0 := hB1.free 0
    have g1 := hB1.free 1
    have g2 := hB1.free 2
    have lb1 := hB1.lt
    have HB1 := Lib.hid hB1
    have FXH := Lib.hid hfx
    have RV := Lib.hid rv
    have S1h := Lib.hid s1
    have U1 := Lib.hid u1
    clear rv s1 u1 hB1 D hfx
    go_wp2
    have BW := (((HB1.out.set 0 (.int .i64 gi.kind)).set 1 (.string gi.text)).set 2 (.slice p2 gi.flds.length cz)).alloc (.cells #[.int .i64 gi.kind, .string gi.text, .slice p2 gi.flds.length cz] 24)
    have q0 := BW.cellAt (i := 0) rfl
    have q1 := BW.cellAt (i := 1) rfl
    have q2 := BW.cellAt (i := 2) rfl
    have uu : Upd (fun b => b = w.heap.size) w1 _ := ((((Upd.refl (fun b => b = w.heap.size) w1).set (b := w.heap.size) (o := 0) (v := .int .i64 gi.kind) (fun _ => rfl)).set (b := w.heap.size) (o := 1) (v := .string gi.text) (fun _ => rfl)).set (b := w.heap.size) (o := 2) (v := .slice p2 gi.flds.length cz) (fun _ => rfl)).alloc (.cells #[.int .i64 gi.kind, .string gi.text, .slice p2 gi.flds.length cz] 24)
    refine bodyPost_ret (v := .tuple #[.agg #[.int .i64 gi.kind, .string gi.text, .slice p2 gi.flds.length cz], .bool false]) (by simp [results, Tryz.results16, go_sem, q0, q1, q2]) rfl ⟨_, rfl, ?_, ?_, ?_, fun q hq => by have := FXH.out q hq; have hsz := U0.out.size; omega⟩
    · by_cases e : gi.flds = []
      · have h := RV.out
        rw [e] at h ⊢
        exact h.nilTo
      · exact RV.out.keep uu fun b hb hv eb => by
          have := FXH.out b ⟨hv, e⟩
          simp at this; omega
    · exact (S1h.out.keepG uu fun b hb => ⟨Or.inl (Or.inr hb), by rw [hb]; exact LOW.out⟩).less fun b hb => by
        rcases hb with g | g
        · exact Or.inl (Or.inl g)
        · exact Or.inr g
    · exact (Fr.trans (Fr.of0 U0.out) (Fr.sub U1.out fun k _ hk => Or.inl hk)).trans uu (fun i hi e => by omega)
  | true =>
    have hkk : key ∈ keysC S1.cells := of_decide_eq_true hw
    have HKK := Lib.hid hkk
    rw [hw] at D
    clear hw hkk
    go_enter Tryz.func16, Tryz.ntmps16
    go_wp2_with fail
    refine (D.out).mono ?_
    rintro e w1 ⟨v, rfl, rv, s1, u1, hfx⟩
    obtain ⟨p2, cz, ev2, _⟩ := rv.len
    subst ev2
    have hB1 := u1.blk HB0.out (fun g => g.2 (Or.inr rfl))
    have lb1 := hB1.lt
    have ua : Upd (fun _ => False) w1 (w1.alloc (.cells #[.int .i64 gi.kind, .string gi.text, .slice p2 gi.flds.length cz] 24)) := (Upd.refl _ _).alloc _
    have hBX := Blk.made w1 [.int .i64 gi.kind, .string gi.text, .slice p2 gi.flds.length cz] 24
    have s2 := s1.also (Y := fun q => (((X q ∨ q = w.heap.size) ∨ fX (.slice p2 gi.flds.length cz) gi.flds q) ∨ q = w1.heap.size)) ua (fun b hb => hb.imp id (fun e => by subst e; simp))
    obtain ⟨t, Z, m, hz, r, hn⟩ := s2
    have x3 : w1.cell? ⟨sb, 3, none⟩ = some (.pointer (some ⟨t.rb, 0, none⟩)) := by
      have h1 := m.blk.cellAt (i := 3) rfl
      obtain ⟨s0, B0, _⟩ := s1.blk
      have hl := B0.lt
      have h2 := ua.cell (p := ⟨sb, 3, none⟩) hl (fun h => h)
      rw [← h2]; exact h1
    have hsb : sb < w1.heap.size := by obtain ⟨s0, B0, _⟩ := s1.blk; exact B0.lt
    have TO := Lib.hid (m.rtouch key)
    have M := Lib.hid m
    have R := Lib.hid r
    have HZ := Lib.hid hz
    have HN := Lib.hid hn
    have RV := Lib.hid rv
    have U1 := Lib.hid u1
    have UA := Lib.hid ua
    have HB1 := Lib.hid hB1
    have HBX := Lib.hid hBX
    have FXH := Lib.hid hfx
    clear rv s1 u1 ua hB1 hBX D hfx m r hz hn
    go_wp2_with fail
    refine (TO.out).mono ?_
    rintro e w2 ⟨rfl, P2⟩
    have b2 := P2.2.blk (HB1.out.alloc _) (fun g => g.2 (Or.inl (Or.inl (Or.inl (Or.inr rfl)))))
    have bx := P2.2.blk HBX.out (fun g => g.2 (Or.inl (Or.inr rfl)))
    have y0 := b2.cellAt (i := 0) rfl
    have y1 := b2.cellAt (i := 1) rfl
    have y2 := b2.cellAt (i := 2) rfl
    have g0 := b2.free 0
    have g1 := b2.free 1
    have g2 := b2.free 2
    have lb2 := b2.lt
    have z0 := bx.cellAt (i := 0) rfl
    have z1 := bx.cellAt (i := 1) rfl
    have z2 := bx.cellAt (i := 2) rfl
    have lx := bx.lt
    have PP := Lib.hid P2
    have B2 := Lib.hid b2
    clear P2 b2 bx TO
    have hne : ¬ w1.heap.size = w.heap.size := by omega
    have hne2 : ¬ w.heap.size = w1.heap.size := by omega
    go_wp2
    have BW := ((B2.out.set 0 (.int .i64 gi.kind)).set 1 (.string gi.text)).set 2 (.slice p2 gi.flds.length cz)
    have q0 := BW.cellAt (i := 0) rfl
    have q1 := BW.cellAt (i := 1) rfl
    have q2 := BW.cellAt (i := 2) rfl
    have uu : Upd (fun b => b = w.heap.size) w2 _ := ((((Upd.refl (fun b => b = w.heap.size) w2).set (b := w.heap.size) (o := 0) (v := .int .i64 gi.kind) (fun _ => rfl)).set (b := w.heap.size) (o := 1) (v := .string gi.text) (fun _ => rfl)).set (b := w.heap.size) (o := 2) (v := .slice p2 gi.flds.length cz) (fun _ => rfl))
    refine bodyPost_ret (v := .tuple #[.agg #[.int .i64 gi.kind, .string gi.text, .slice p2 gi.flds.length cz], .bool true]) (by simp [results, Tryz.results16, go_sem, q0, q1, q2]) rfl ⟨_, rfl, ?_, ?_, ?_, fun q hq => by have := FXH.out q hq; have hsz := U0.out.size; omega⟩
    · by_cases e : gi.flds = []
      · have h := RV.out
        rw [e] at h ⊢
        exact h.nilTo
      · exact ((RV.out.keep UA.out (fun _ _ _ h => h)).keep PP.out.2 (fun b hb hv g => g.2 (Or.inl (Or.inl (Or.inr ⟨hv, e⟩))))).keep uu fun b hb hv eb => by
          have := FXH.out b ⟨hv, e⟩
          simp at this; omega
    · have hS : SSt w2 base sb (fun q => (((X q ∨ q = w.heap.size) ∨ fX (.slice p2 gi.flds.length cz) gi.flds q) ∨ q = w1.heap.size)) { S1 with cells := usedC S1.cells key } N := ⟨_, Z, PP.out.1, HZ.out, (R.out.keepF PP.out.2).used HKK.out, HN.out⟩
      exact (hS.keepG uu fun b hb => ⟨Or.inl (Or.inl (Or.inr hb)), by rw [hb]; exact LOW.out⟩).less fun b hb => by
        rcases hb with g | g
        · exact Or.inl (Or.inl (Or.inl g))
        · exact Or.inl (Or.inr g)
    · exact (((Fr.trans (Fr.of0 U0.out) (Fr.sub U1.out fun k _ hk => Or.inl hk)).trans UA.out (fun i hi e => e.elim)).trans PP.out.2 (fun i hi g => ⟨g.1, fun hx => g.2 (Or.inl (Or.inl (Or.inl (Or.inl hx))))⟩)).trans uu (fun i hi e => by omega)
end Go.Proofs.YtcdihffcncaibaaGreatDoor
