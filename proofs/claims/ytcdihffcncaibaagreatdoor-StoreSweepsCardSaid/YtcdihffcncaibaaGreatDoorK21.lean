/- Walks: Sweep, Flush, Events, Bytes, Len, Keys, New. -/
import Derived.Test.YtcdihffcncaibaaGreatDoorK17
import Derived.Test.YtcdihffcncaibaaGreatDoorK20
import Derived.Deep.DeepCutAuto
set_option linter.unusedVariables false
set_option linter.unusedSimpArgs false
namespace Go.Proofs.YtcdihffcncaibaaGreatDoor
open Go.RowKit

section
variable {w w1 w' : World} {base sb : Nat} {s : SV} {X Y Z : Nat → Prop} {S S1 : PS} {n N : Nat} {key : ByteArray}
theorem goneL_take {S : PS} {l : List ByteArray} {k : Nat} {x : ByteArray} (h : l[k]? = some x) : goneL S (l.take (k + 1)) = goneP (goneL S (l.take k)) x 3 := by
  obtain ⟨h1, e⟩ := List.getElem?_eq_some_iff.1 h
  unfold goneL
  rw [List.take_succ_eq_append_getElem h1, e, List.foldl_append]; rfl
theorem goneL_len (S : PS) (l : List ByteArray) : (goneL S l).events.length ≤ S.events.length + l.length := by
  unfold goneL
  induction l generalizing S with
  | nil => simp
  | cons x r ih =>
    have := ih (goneP S x 3)
    have := gone_len S x 3
    simp only [List.foldl_cons, List.length_cons]; omega
theorem sweepL_sub (S : PS) (now most : Int) : (sweepL S now most).length ≤ S.cells.length ∧ ∀ k ∈ sweepL S now most, k ∈ keysC S.cells := by
  have hd : ∀ d ∈ (dueD now (duesC S.cells)).take most.toNat, d ∈ duesC S.cells := fun d hd => (List.takeWhile_sublist _).subset (List.mem_of_mem_take hd)
  constructor
  · unfold sweepL
    rw [List.length_map, List.length_take]
    have : (dueD now (duesC S.cells)).length ≤ (duesC S.cells).length := (List.takeWhile_sublist _).length_le
    have := duesC_len S.cells
    omega
  · intro k hk
    unfold sweepL at hk
    obtain ⟨d, hd2, rfl⟩ := List.mem_map.1 hk
    exact duesC_keys (List.mem_map.2 ⟨d, hd d hd2, rfl⟩)
theorem str_cell {w : World} {v : Value} {l : List ByteArray} (h : RowOf strc 1 w v l) {k : Nat} {x : ByteArray} (hk : l[k]? = some x) : ∃ b off cap, v = .slice (some ⟨b, off, none⟩) l.length cap ∧ b < w.heap.size ∧ w.cell? ⟨b, off + k, none⟩ = some (.string x) := by
  rcases h with ⟨_, _, _, e⟩ | ⟨b, off, c, e, hb, _, hc⟩
  · rw [e] at hk; simp at hk
  · refine ⟨b, off, c, e, hb, ?_⟩
    have := hc k x hk 0 (by omega)
    simpa [strc] using this
end
set_option maxHeartbeats 8000000 in
set_option maxRecDepth 100000 in
theorem ssweep_any {w : World} {base sb : Nat} {X : Nat → Prop} {S : PS} {N : Nat} (h : SSt w base sb X S N) (now most : Int) (hN : N ≤ 10000) (hl : S.events.length ≤ 900000) :
    Calls Tryz.prog 21 #[.pointer (some ⟨sb, 0, none⟩), .int .i64 now, .int .i64 most] w fun e w' => e = .returned (.int .i64 ((sweepL S now most).length : Int)) ∧ SSt w' base sb X (sweepP S now most) N ∧ Upd (Fr base X) w w' := by
  obtain ⟨s, Z, m, hz, r, hn⟩ := h
  have hsb := m.blk.lt
  have x4 : w.cell? ⟨sb, 4, none⟩ = some (.pointer (some ⟨s.xb, 0, none⟩)) := m.blk.cellAt (i := 4) rfl
  have D := Lib.hid (m.xdue now most (by have := r.l_len; omega))
  have hsl : ((dueD now s.l).take most.toNat).map (·.2) = sweepL S now most := by rw [r.l]; rfl
  rw [hsl] at D
  have R := Lib.hid r
  have HN := Lib.hid hn
  have HNN := Lib.hid hN
  have HL := Lib.hid hl
  have HZ := Lib.hid hz
  have SL := Lib.hid (sweepL_sub S now most)
  have CL := Lib.hid r.cln
  have BL := Lib.hid m.bl
  have XLT := Lib.hid m.xlt
  unfold sweepP
  generalize sweepL S now most = l at *
  clear m r hn hN hl hz hsl
  go_enter Tryz.func21, Tryz.ntmps21
  go_wp2_with fail
  refine (D.out).mono ?_
  rintro e w1 ⟨v, rfl, sv, m1, u1⟩
  obtain ⟨p, c, ev, hlm⟩ := own_slice sv
  subst ev
  have hll : l.length ≤ 10000 := by have := SL.out.1; have := CL.out; have := HN.out; have := HNN.out; omega
  have m1' : SMem w1 base sb (Or2 (fun q => X q ∨ fOf (.slice p l.length c) q) Z) s := m1.less fun b hb => by
    rcases hb with (g | g) | g
    · exact Or.inl (Or.inl g)
    · exact Or.inr g
    · exact Or.inl (Or.inr g)
  have G1 : Hid (SGo w1 base sb (fun q => X q ∨ fOf (.slice p l.length c) q) Z w1 S s.n) := ⟨s, m1', R.out.keepF u1, Nat.le_refl _, Upd.refl _ _⟩
  have SV := Lib.hid sv
  have U1 := Lib.hid u1
  clear sv m1 u1 D m1' x4
  go_wp2
  go_loopw [19] (fun x wr => ∃ k : Nat, k ≤ l.length ∧ x = .int .i64 (k : Int) ∧ Hid (SGo w1 base sb (fun q => X q ∨ fOf (.slice p l.length c) q) Z wr (goneL S (l.take k)) s.n)) (fun x _ => l.length - (intOf x).toNat)
  case atStart => exact ⟨0, by omega, rfl, G1⟩
  case round =>
    clear G1
    obtain ⟨k, hkl, rfl, G⟩ := hrel
    by_cases hlt : k < l.length
    · obtain ⟨x, hx⟩ : ∃ x, l[k]? = some x := ⟨_, List.getElem?_eq_getElem hlt⟩
      obtain ⟨s2, m2, r2, n2, u2⟩ := G.out
      have row1 : RowOf strc 1 w1 (.slice p l.length c) l := StrsAt.row SV.out
      have row2 := row1.keep u2 (fun b _ hb g => g.2 (Or.inl (Or.inr hb)))
      obtain ⟨b, off, cap, ev, hb, c0⟩ := str_cell row2 hx
      injection ev with ev1 _ ev3
      subst ev1 ev3
      have hq : (k : Int) < (l.length : Int) := by omega
      have hxs : x.size ≤ 100000 := by
        have := SL.out.2 x (List.mem_of_getElem? hx)
        obtain ⟨ce, hce, rfl⟩ := List.mem_map.1 this
        have := (R.out.ok.small ce hce).2; omega
      have GO := Lib.hid (gone_any m2 r2 x 3 (by have := HN.out; have := HNN.out; omega) hxs (by have := goneL_len S (l.take k); have := HL.out; rw [List.length_take] at *; omega))
      have GT := Lib.hid (goneL_take (S := S) hx)
      have U2 := Lib.hid u2
      have N2 := Lib.hid n2
      clear m2 r2 n2 u2 row1 row2 hx hxs G
      go_wp2_with fail
      refine (GO.out).mono ?_
      rintro e w3 ⟨rfl, s3, m3, r3, n3, u3⟩
      have GG : Hid (SGo w1 base sb (fun q => X q ∨ fOf (.slice (some ⟨b, off, none⟩) l.length c) q) Z w3 (goneL S (l.take (k + 1))) s.n) := by
        show SGo _ _ _ _ _ _ _ _
        rw [GT.out]; exact ⟨s3, m3, r3, Nat.le_trans n3 N2.out, Fr.trans U2.out u3⟩
      clear m3 r3 n3 u3 GO
      go_wp2
      go_roundw
      case rel => exact ⟨k + 1, by omega, by go_num, GG⟩
      case measure => simp [intOf]; omega
    · obtain rfl : k = l.length := by omega
      rw [List.take_length] at G
      go_wp2
      go_ret
      obtain ⟨s2, m2, r2, n2, u2⟩ := G.out
      refine ⟨rfl, ⟨s2, Z, m2.less (fun b hb => hb.elim (fun g => Or.inl (Or.inl g)) Or.inr), HZ.out, r2, Nat.le_trans n2 HN.out⟩, ?_⟩
      exact Fr.trans (Fr.sub U1.out fun b _ hb => Or.inl hb) (Fr.sub u2 fun b _ hb => Or.inl (Or.inl hb))
set_option maxHeartbeats 8000000 in
set_option maxRecDepth 100000 in
theorem sflush_any {w : World} {base sb : Nat} {X : Nat → Prop} {S : PS} {N : Nat} (h : SSt w base sb X S N) (hl : S.events.length ≤ 900000) :
    Calls Tryz.prog 60 #[.pointer (some ⟨sb, 0, none⟩)] w fun e w' => e = .returned (.tuple #[]) ∧ SSt w' base sb X (flushP S) N ∧ Upd (Fr base X) w w' := by
  obtain ⟨s, Z, m, hz, r, hn⟩ := h
  have hsb := m.blk.lt
  have x0 : w.cell? ⟨sb, 0, none⟩ = some (.pointer (some ⟨s.tb, 0, none⟩)) := m.blk.cellAt (i := 0) rfl
  have TC := Lib.hid m.tclear
  have R := Lib.hid r
  have HN := Lib.hid hn
  have HL := Lib.hid hl
  have HZ := Lib.hid hz
  clear m r hn hl hz
  go_enter Tryz.func60, Tryz.ntmps60
  go_wp2_with fail
  refine (TC.out).mono ?_
  rintro e w1 ⟨rfl, P1⟩
  have hB := P1.1.blk
  have l1 := hB.lt
  have y1 := hB.cellAt (i := 1) rfl
  have y2 := hB.cellAt (i := 2) rfl
  have y5 := hB.cellAt (i := 5) rfl
  have f1 := hB.free 1
  have f2 := hB.free 2
  have f5 := hB.free 5
  have Q1 := P1.1.slotsTo (OwnN.none) (Upd.refl _ _) (fun b hb => by cases hb) ((Upd.refl (fun b => b = sb) w1).set (b := sb) (o := 1) (v := .slice none 0 0) (fun _ => rfl)) (hB.set 1 (.slice none 0 0))
  have Q2 := Q1.1.freeTo (show IntsAt _ base (.slice none 0 0) [] from World.ownsRow_nil _ _ _ _) (Upd.refl _ _) (fun b hb => by cases hb) ((Upd.refl (fun b => b = sb) _).set (b := sb) (o := 2) (v := .slice none 0 0) (fun _ => rfl)) (Q1.1.blk.set 2 (.slice none 0 0))
  have Q3 := Q2.1.bytSet 0
  have P3 := Lib.hid (P1.trans (Q1.trans (Q2.trans Q3)))
  clear P1 Q1 Q2 Q3 hB TC x0
  go_upto_region 2 with (fail)
  have x3 := P3.out.1.blk.cellAt (i := 3) rfl
  have lw := P3.out.1.blk.lt
  have RC := Lib.hid P3.out.1.rclear
  clear y1 y2 y5 f1 f2 f5
  go_wp2_with fail
  refine (RC.out).mono ?_
  rintro e w4 ⟨rfl, P4⟩
  have PP4 := Lib.hid (P3.out.trans P4)
  have l4 := P4.1.blk.lt
  have x4 := P4.1.blk.cellAt (i := 4) rfl
  have XC := Lib.hid P4.1.xclear
  clear P4 RC x3 lw P3
  go_wp2_with fail
  refine (XC.out).mono ?_
  rintro e w5 ⟨rfl, P5⟩
  have PP5 := Lib.hid (PP4.out.trans P5)
  clear P5 XC x4 PP4
  have G : Hid (SGo w base sb X Z w5 { S with cells := [] } s.n) := by
    refine ⟨_, PP5.out.1, ?_, Nat.zero_le _, PP5.out.2⟩
    have r0 := R.out
    exact ⟨⟨by simp [keysC], by simp, by simp, r0.ok.bud, by simp⟩, fun k => by simp [aget, keysC], by simp [akeys], by simp, fun k k' i h => by simp [aget] at h, by simp, by simp, rfl, rfl, rfl, r0.bud, r0.ev, by simp, by simp⟩
  clear PP5
  go_wp2_with fail
  refine ((G.out.tell (5, { data := #[] }) (by have := HL.out; show S.events.length ≤ _; omega)).out).mono ?_
  rintro e w6 ⟨rfl, G6⟩
  have GG := Lib.hid G6
  clear G6
  go_wp2
  go_end0
  exact ⟨rfl, GG.out.st HZ.out HN.out⟩
set_option maxHeartbeats 4000000 in
set_option maxRecDepth 100000 in
theorem sevents_any {w : World} {base sb : Nat} {X : Nat → Prop} {S : PS} {N : Nat} (h : SSt w base sb X S N) :
    Calls Tryz.prog 20 #[.pointer (some ⟨sb, 0, none⟩)] w fun e w' => ∃ v, e = .returned v ∧ OwnN evc 2 61 w' base v S.events ∧ SSt w' base sb (fun q => X q ∨ fOf v q) { S with events := [] } N ∧ Upd (Fr base X) w w' := by
  obtain ⟨s, Z, m, hz, r, hn⟩ := h
  have hsb := m.blk.lt
  obtain ⟨p0, c0, e0, _⟩ := m.evs.slice
  have x7 : w.cell? ⟨sb, 7, none⟩ = some (.slice p0 s.ev.length c0) := by rw [m.blk.cellAt (i := 7) rfl]; exact congrArg some e0
  have f7 := m.blk.free 7
  have EV := Lib.hid m.evs
  have NB := Lib.hid (m.nsb (b := sb)).2.2
  have hs := m.blk.set 7 (.slice none 0 0)
  have u2 : Upd (fun b => b = sb) w (w.setCell ⟨sb, 7, none⟩ (.slice none 0 0)) := (Upd.refl (fun b => b = sb) w).set (b := sb) (o := 7) (v := .slice none 0 0) (fun _ => rfl)
  have hzz : ∀ b, Z b → ¬ fOf s.evv b := by
    obtain ⟨F, mr, d, x⟩ := m
    exact fun b hb g => d 6 b (mr.f6 b g) (Or.inr hb)
  have Q := Lib.hid (m.evsOff (Y := Or2 (fun q => X q ∨ fOf s.evv q) Z) u2 hs (fun b hb => by
    rcases hb with (g | g) | g
    · exact Or.inl (Or.inl g)
    · exact Or.inr g
    · exact Or.inl (Or.inr g)))
  have R := Lib.hid r
  have HN := Lib.hid hn
  have HZ := Lib.hid hz
  have HZZ := Lib.hid hzz
  have RE := Lib.hid r.ev
  have U2 := Lib.hid u2
  clear m r hn hz hs hzz u2
  rw [e0] at EV Q HZZ NB
  generalize s.ev.length = n at *
  go_enter Tryz.func20, Tryz.ntmps20
  go_wp2
  go_ret
  have rr := R.out.keepF Q.out.2
  refine ⟨_, rfl, ?_, ⟨_, Z, Q.out.1, ?_, ⟨⟨rr.ok.nd, rr.ok.small, rr.ok.whens, rr.ok.bud, rr.ok.fit⟩, rr.km, rr.nd, rr.at_, rr.inj, rr.frOk, rr.frnd, rr.ks, rr.l, rr.byt, rr.bud, rfl, rr.sln, rr.cln⟩, HN.out⟩, Fr.sub Q.out.2 fun k _ hk => Or.inl hk⟩
  · rw [← RE.out]
    exact EV.out.keep U2.out fun b hb e => NB.out (by rw [← e]; exact hb) rfl
  · rintro b hb (g | g)
    · exact HZ.out b hb g
    · exact HZZ.out b hb g
theorem sbytes_any {w : World} {base sb : Nat} {X : Nat → Prop} {S : PS} {N : Nat} (h : SSt w base sb X S N) :
    Calls Tryz.prog 24 #[.pointer (some ⟨sb, 0, none⟩)] w fun e w' => e = .returned (.int .i64 (bytesC S.cells)) ∧ w' = w := by
  obtain ⟨s, B, hb, hd⟩ := h.blk
  have x5 : w.cell? ⟨sb, 5, none⟩ = some (.int .i64 s.byt) := B.cellAt (i := 5) rfl
  have hsb := B.lt
  rw [hb] at x5
  clear B hd hb
  go_enter Tryz.func24, Tryz.ntmps24
  go_wp2
  go_ret
  exact ⟨rfl, rfl⟩
theorem SSt.tlenAt {w : World} {base sb : Nat} {X : Nat → Prop} {S : PS} {N : Nat} (h : SSt w base sb X S N) (hN : N ≤ 10000) : ∃ tb, w.cell? ⟨sb, 0, none⟩ = some (.pointer (some ⟨tb, 0, none⟩)) ∧ sb < w.heap.size ∧
    (∀ w2, Upd (fun _ => False) w w2 → Calls Tryz.prog 18 #[.pointer (some ⟨tb, 0, none⟩)] w2 fun e w' => e = .returned (.int .i64 (S.cells.length : Int)) ∧ Upd (fun _ => False) w2 w') := by
  obtain ⟨s, Z, m, hz, r, hn⟩ := h
  refine ⟨s.tb, m.blk.cellAt (i := 0) rfl, m.blk.lt, fun w2 u => ?_⟩
  have := (m.keep0 u).tlen (by omega)
  rw [r.mlen] at this; exact this
theorem SSt.tkeysAt {w : World} {base sb : Nat} {X : Nat → Prop} {S : PS} {N : Nat} (h : SSt w base sb X S N) (hN : N ≤ 10000) : ∃ tb, w.cell? ⟨sb, 0, none⟩ = some (.pointer (some ⟨tb, 0, none⟩)) ∧ sb < w.heap.size ∧
    (∀ w2, Upd (fun _ => False) w w2 → Calls Tryz.prog 22 #[.pointer (some ⟨tb, 0, none⟩)] w2 fun e w' => ∃ v, e = .returned v ∧ StrsAt w' w2.heap.size v (sortStr (keysC S.cells)) ∧ Upd (fun _ => False) w2 w') := by
  obtain ⟨s, Z, m, hz, r, hn⟩ := h
  refine ⟨s.tb, m.blk.cellAt (i := 0) rfl, m.blk.lt, fun w2 u => ?_⟩
  have := (m.keep0 u).tkeys (by omega)
  rw [r.mkeys] at this; exact this
end Go.Proofs.YtcdihffcncaibaaGreatDoor
/- Walk: New. -/
set_option linter.unusedVariables false
set_option linter.unusedSimpArgs false
namespace Go.Proofs.YtcdihffcncaibaaGreatDoor
open Go.RowKit

theorem new_mem {w w1 w2 w3 w4 : World} {tb rb xb : Nat} {ET ER EX : Nat → Prop} {bud : Int} (hB : Blk w4 w3.heap.size [ptr tb, .slice none 0 0, .slice none 0 0, ptr rb, ptr xb, .int .i64 0, .int .i64 (newP bud).budget, .slice none 0 0] 51)
    (t1 : TabM w4 tb [] 0 ET) (t2 : RecRep w4 rb [] ER) (t3 : ExpAt w4 w.heap.size xb [] EX) (l1 : ∀ k, ET k → k < w1.heap.size) (l2 : ∀ k, ER k → k < w2.heap.size) (l3 : ∀ k, EX k → k < w3.heap.size)
    (g1 : ∀ k, ET k → w.heap.size ≤ k) (g2 : ∀ k, ER k → w1.heap.size ≤ k) (g3 : ∀ k, EX k → w2.heap.size ≤ k) (z1 : w.heap.size ≤ w1.heap.size) (z2 : w1.heap.size ≤ w2.heap.size) (z3 : w2.heap.size ≤ w3.heap.size) (z4 : w4.heap.size = w3.heap.size + 1)
    (hstd : Std w4) (hlow : lowB ≤ w.heap.size) : SSt w4 w.heap.size w3.heap.size (fun _ => False) (newP bud) 0 := by
  obtain ⟨F, hF⟩ : ∃ F : Nat → Nat → Prop, F = fun i b => (i = 0 ∧ b = w3.heap.size) ∨ (i = 1 ∧ ET b) ∨ (i = 4 ∧ ER b) ∨ (i = 5 ∧ EX b) := ⟨_, rfl⟩
  have rng : ∀ i b, F i b → (i = 0 ∧ b = w3.heap.size) ∨ (i = 1 ∧ w.heap.size ≤ b ∧ b < w1.heap.size) ∨ (i = 4 ∧ w1.heap.size ≤ b ∧ b < w2.heap.size) ∨ (i = 5 ∧ w2.heap.size ≤ b ∧ b < w3.heap.size) := by
    intro i b h
    rw [hF] at h
    rcases h with ⟨rfl, h⟩ | ⟨rfl, h⟩ | ⟨rfl, h⟩ | ⟨rfl, h⟩
    · exact Or.inl ⟨rfl, h⟩
    · exact Or.inr (Or.inl ⟨rfl, g1 b h, l1 b h⟩)
    · exact Or.inr (Or.inr (Or.inl ⟨rfl, g2 b h, l2 b h⟩))
    · exact Or.inr (Or.inr (Or.inr ⟨rfl, g3 b h, l3 b h⟩))
  have e1 : ET = F 1 := by rw [hF]; funext b; simp
  have e4 : ER = F 4 := by rw [hF]; funext b; simp
  have e5 : EX = F 5 := by rw [hF]; funext b; simp
  have e0 : F 0 w3.heap.size := by rw [hF]; exact Or.inl ⟨rfl, rfl⟩
  rw [e1] at t1
  rw [e4] at t2
  rw [e5] at t3
  have raw : SRaw w4 w.heap.size w3.heap.size ⟨tb, rb, xb, .slice none 0 0, .slice none 0 0, .slice none 0 0, 0, (newP bud).budget, [], 0, [], [], [], [], []⟩ F :=
    ⟨hB, t1, OwnN.none, World.ownsRow_nil _ _ _ _, t2, t3, OwnN.none, e0, (fun b hb => by cases hb), (fun b hb => by cases hb), (fun b hb => by cases hb),
      (fun i j b hi hj => by have a := rng i b hi; have c := rng j b hj; omega), (fun i b hi => by have a := rng i b hi; omega), (by omega), hstd, hlow⟩
  refine ⟨_, fun _ => False, ⟨F, raw, fun i b _ h => h.elim id id, fun b h => h.elim (fun g => g.elim) (fun g => g.elim)⟩, fun b h => h.elim, ?_, Nat.le_refl _⟩
  exact ⟨POk.new bud, fun k => by simp [aget, newP, keysC], by simp [akeys], by simp [newP], fun k k' i h => by simp [aget] at h, by simp, by simp, rfl, rfl, rfl, rfl, rfl, by simp, by simp [newP]⟩
set_option maxHeartbeats 8000000 in
set_option maxRecDepth 100000 in
theorem snew_any (bud : Int) (w : World) (hs : Std w) :
    Calls Tryz.prog 11 #[.int .i64 bud] w fun e w' => ∃ sb, e = .returned (.pointer (some ⟨sb, 0, none⟩)) ∧ SSt w' w.heap.size sb (fun _ => False) (newP bud) 0 ∧ Upd (fun _ => False) w w' := by
  have HS := Lib.hid hs
  have T := Lib.hid (mnew_any w)
  clear hs
  go_enter Tryz.func11, Tryz.ntmps11
  go_wp2_with fail
  refine (T.out).mono ?_
  rintro e w1 ⟨tb, ET, rfl, t, u1, g1⟩
  have T1 := Lib.hid t
  have U1 := Lib.hid u1
  have G1 := Lib.hid g1
  clear t u1 g1 T
  go_wp2_with fail
  refine (rnew_any w1).mono ?_
  rintro e w2 ⟨rb, ER, rfl, t, u2, g2⟩
  have T2 := Lib.hid t
  have U2 := Lib.hid u2
  have G2 := Lib.hid g2
  clear t u2 g2
  go_wp2_with fail
  refine (xnew_any w2 w.heap.size).mono ?_
  rintro e w3 ⟨xb, EX, rfl, t, u3, g3⟩
  have T3 := Lib.hid t
  have U3 := Lib.hid u3
  have G3 := Lib.hid g3
  clear t u3 g3
  go_wp2
  go_ret
  have u4 : Upd (fun _ => False) w3 (w3.alloc (.cells #[ptr tb, .slice none 0 0, .slice none 0 0, ptr rb, ptr xb, .int .i64 0, .int .i64 (newP bud).budget, .slice none 0 0] 51)) := (Upd.refl _ _).alloc _
  have hB := Blk.made w3 [ptr tb, .slice none 0 0, .slice none 0 0, ptr rb, ptr xb, .int .i64 0, .int .i64 (newP bud).budget, .slice none 0 0] 51
  have t1 := ((T1.out.keep U2.out (fun _ _ h => h)).keep U3.out (fun _ _ h => h)).keep u4 (fun _ _ h => h)
  have t2 := (T2.out.keep U3.out (fun _ _ h => h)).keep u4 (fun _ _ h => h)
  have t3 := T3.out.keep u4 (fun _ _ h => h)
  have uu : Upd (fun _ => False) w (w3.alloc (.cells #[ptr tb, .slice none 0 0, .slice none 0 0, ptr rb, ptr xb, .int .i64 0, .int .i64 (newP bud).budget, .slice none 0 0] 51)) := ((U1.out.trans U2.out (fun _ _ h => h)).trans U3.out (fun _ _ h => h)).trans u4 (fun _ _ h => h)
  have hstd := HS.out.keep uu
  exact ⟨w3.heap.size, rfl, new_mem hB t1 t2 t3 T1.out.lt T2.out.lt T3.out.lt G1.out G2.out G3.out U1.out.size U2.out.size U3.out.size (by simp) hstd HS.out.low, uu⟩
end Go.Proofs.YtcdihffcncaibaaGreatDoor
/- The chapter's example. -/
set_option linter.unusedVariables false
set_option linter.unusedSimpArgs false
namespace Go.Proofs.YtcdihffcncaibaaGreatDoor
open Go.RowKit

def tenI : It := ⟨1, { data := #[97, 98, 99, 100, 101, 102, 103, 104, 105, 106] }, []⟩
set_option maxRecDepth 100000 in
theorem ten_any (w : World) : Calls Tryz.prog 19 #[] w fun e w' => e = .returned (itV tenI (.slice none 0 0)) ∧ Upd (fun _ => False) w w' := by
  unfold itV tenI
  go_enter Tryz.func19, Tryz.ntmps19
  go_wp2
  exact bodyPost_ret (v := .agg #[.int .i64 1, .string { data := #[97, 98, 99, 100, 101, 102, 103, 104, 105, 106] }, .slice none 0 0]) (by simp [results, Tryz.results19, go_sem]) rfl ⟨rfl, (Upd.refl _ w).alloc _⟩
def kA : ByteArray := { data := #[97] }
def kB : ByteArray := { data := #[98] }
def kC : ByteArray := { data := #[99] }
def cT (k : ByteArray) : Ce := ⟨k, tenI, -1⟩
theorem al_n : newP 120 = ⟨[], 120, []⟩ := by kernel_rfl
theorem al_1 : putP ⟨[], 120, []⟩ kA tenI false 0 = ⟨[cT kA], 120, [(1, kA)]⟩ ∧ putE (dueP ⟨[], 120, []⟩ kA 0) kA tenI = 0 := ⟨by kernel_rfl, by kernel_rfl⟩
theorem al_2 : putP ⟨[cT kA], 120, [(1, kA)]⟩ kB tenI false 0 = ⟨[cT kA, cT kB], 120, [(1, kA), (1, kB)]⟩ ∧ putE (dueP ⟨[cT kA], 120, [(1, kA)]⟩ kB 0) kB tenI = 0 := ⟨by kernel_rfl, by kernel_rfl⟩
theorem al_3 : putP ⟨[cT kA, cT kB], 120, [(1, kA), (1, kB)]⟩ kC tenI false 0 = ⟨[cT kB, cT kC], 120, [(1, kA), (1, kB), (1, kC), (4, kA)]⟩ ∧ putE (dueP ⟨[cT kA, cT kB], 120, [(1, kA), (1, kB)]⟩ kC 0) kC tenI = 0 := ⟨by kernel_rfl, by kernel_rfl⟩
theorem al_4 : dueP ⟨[cT kB, cT kC], 120, []⟩ kA 0 = ⟨[cT kB, cT kC], 120, []⟩ ∧ wasP ⟨[cT kB, cT kC], 120, []⟩ kA = false ∧ gotI ⟨[cT kB, cT kC], 120, []⟩ kA = zeroIt ∧ getP ⟨[cT kB, cT kC], 120, []⟩ kA 0 = ⟨[cT kB, cT kC], 120, []⟩ ∧ bytesC [cT kB, cT kC] = 118 := ⟨by kernel_rfl, by kernel_rfl, by kernel_rfl, by kernel_rfl, by kernel_rfl⟩
theorem nofld (w : World) (Y : Nat → Prop) : FldAt w Y (.slice none 0 0) tenI.flds := ⟨Or.inl ⟨_, _, rfl, rfl⟩, Or.inl rfl⟩
theorem ev_cells {w : World} {v : Value} {l : List Ev} (h : RowOf evc 2 w v l) {k : Nat} {d : Ev} (hk : l[k]? = some d) : ∃ b off cap, v = .slice (some ⟨b, off, none⟩) l.length cap ∧ b < w.heap.size ∧ w.cell? ⟨b, off + k * 2, none⟩ = some (.int .i64 d.1) ∧ w.cell? ⟨b, off + k * 2 + 1, none⟩ = some (.string d.2) := by
  rcases h with ⟨_, _, _, e⟩ | ⟨b, off, c, e, hb, _, hc⟩
  · rw [e] at hk; simp at hk
  · refine ⟨b, off, c, e, hb, ?_, ?_⟩
    · have := hc k d hk 0 (by omega); rw [Nat.add_zero] at this; simpa [evc] using this
    · have := hc k d hk 1 (by omega); rw [← Nat.add_assoc] at this; simpa [evc] using this
set_option maxHeartbeats 8000000 in
set_option maxRecDepth 100000 in
theorem alive12_any (w : World) (hs : Std w) : Calls Tryz.prog 8 #[] w fun e w' => e = .returned (.bool true) ∧ Upd (fun _ => False) w w' := by
  have NW := Lib.hid (snew_any 120 w hs)
  rw [al_n] at NW
  clear hs
  go_enter Tryz.func8, Tryz.ntmps8
  go_wp2_with fail
  refine (NW.out).mono ?_
  rintro e w1 ⟨sb, rfl, s1, u1⟩
  have S1 := Lib.hid s1
  have U1 := Lib.hid u1
  clear s1 u1 NW
  go_wp2_with fail
  refine (ten_any _).mono ?_
  rintro e w2 ⟨rfl, u2⟩
  have P1 := Lib.hid (sput_any (S1.out.keep0 u2) kA tenI (.slice none 0 0) false 0 (nofld _ _) (by omega) (by decide) (by decide))
  rw [al_1.1, al_1.2] at P1
  unfold kA at P1
  have U2 := Lib.hid (U1.out.trans u2 (fun _ _ h => h))
  clear u2 S1 U1
  go_wp2_with fail
  refine (P1.out).mono ?_
  rintro e w3 ⟨rfl, s3, u3⟩
  have S3 := Lib.hid s3
  have U3 := Lib.hid (U2.out.trans u3 (fun i hi h => by have := h.1; omega))
  clear s3 u3 P1 U2
  go_wp2_with fail
  refine (ten_any _).mono ?_
  rintro e w4 ⟨rfl, u4⟩
  have P2 := Lib.hid (sput_any (S3.out.keep0 u4) kB tenI (.slice none 0 0) false 0 (nofld _ _) (by omega) (by decide) (by simp))
  have e2 := al_2
  unfold kA at e2
  rw [e2.1, e2.2] at P2
  unfold kB at P2
  have U4 := Lib.hid (U3.out.trans u4 (fun _ _ h => h))
  clear u4 S3 U3 e2
  go_wp2_with fail
  refine (P2.out).mono ?_
  rintro e w5 ⟨rfl, s5, u5⟩
  have S5 := Lib.hid s5
  have U5 := Lib.hid (U4.out.trans u5 (fun i hi h => by have := h.1; omega))
  clear s5 u5 P2 U4
  go_wp2_with fail
  refine (ten_any _).mono ?_
  rintro e w6 ⟨rfl, u6⟩
  have P3 := Lib.hid (sput_any (S5.out.keep0 u6) kC tenI (.slice none 0 0) false 0 (nofld _ _) (by omega) (by decide) (by simp))
  have e3 := al_3
  unfold kA kB at e3
  rw [e3.1, e3.2] at P3
  unfold kC at P3
  have U6 := Lib.hid (U5.out.trans u6 (fun _ _ h => h))
  clear u6 S5 U5 e3
  go_wp2_with fail
  refine (P3.out).mono ?_
  rintro e w7 ⟨rfl, s7, u7⟩
  have EV := Lib.hid (sevents_any s7)
  have U7 := Lib.hid (U6.out.trans u7 (fun i hi h => by have := h.1; omega))
  clear s7 u7 P3 U6
  go_wp2_with fail
  refine (EV.out).mono ?_
  rintro e w8 ⟨v8, rfl, o8, s8, u8⟩
  have GT := Lib.hid (sget_any s8 kA 0 (by omega) (by decide) (by simp))
  have e4 := al_4
  unfold kB kC at e4
  rw [e4.1, e4.2.1, e4.2.2.1, e4.2.2.2.1] at GT
  have BY := Lib.hid e4.2.2.2.2
  unfold kA itV zeroIt at GT
  have O8 := Lib.hid o8
  have U8 := Lib.hid (U7.out.trans u8 (fun i hi h => by have := h.1; omega))
  clear o8 s8 u8 EV U7 e4
  go_wp2_with fail
  refine (GT.out).mono ?_
  rintro e w9 ⟨v9, rfl, r9, s9, u9, f9⟩
  obtain ⟨p9, c9, e9, _⟩ := r9.len
  subst e9
  have O9 := O8.out.keep u9 (fun b hb g => g.2 (Or.inr hb))
  obtain ⟨b, off, cap, ev, hb, c0, c1⟩ := ev_cells (O9.row (fun _ => rfl)) (k := 3) (d := (4, { data := #[97] })) rfl
  subst ev
  have S9 := Lib.hid s9
  have U9 := Lib.hid (U8.out.trans u9 (fun i hi h => by have := h.1; omega))
  clear O8 U8 s9 u9 f9 O9 GT r9
  obtain ⟨tb, x0, hsb, TL⟩ := S9.out.tlenAt (by omega)
  have HTL := Lib.hid TL
  have HBY := Lib.hid (fun W (u : Upd (fun _ => False) w9 W) => sbytes_any (S9.out.keep0 u))
  rw [BY.out] at HBY
  clear TL BY S9
  have ua : Upd (fun _ => False) w9 (w9.alloc (.cells #[.int .i64 0, .string ByteArray.empty, .slice p9 0 c9] 24)) := (Upd.refl _ _).alloc _
  go_wp2_with fail
  refine ((HTL.out _ ua)).mono ?_
  rintro e w11 ⟨rfl, u11⟩
  have ub := Lib.hid (ua.trans u11 (fun _ _ h => h))
  clear ua u11 HTL
  go_wp2_with fail
  refine ((HBY.out _ ub.out)).mono ?_
  rintro e w12 ⟨rfl, rfl⟩
  go_wp2
  go_ret
  exact ⟨rfl, U9.out.trans ub.out (fun _ _ h => h)⟩
end Go.Proofs.YtcdihffcncaibaaGreatDoor
/- StoreLast, plain; maps from texts to numbers. -/
set_option linter.unusedVariables false
set_option linter.unusedSimpArgs false
namespace Go.Proofs.YtcdihffcncaibaaGreatDoor
open Go.RowKit

def vmS (m : Nums) : List (ByteArray × Value) := m.map fun p => (p.1, .int .i64 p.2)
theorem vmS_get (m : Nums) (k : ByteArray) : aget (vmS m) k = (aget m k).map (Value.int .i64) := by
  induction m with
  | nil => rfl
  | cons p r ih =>
    simp only [vmS, List.map_cons, aget] at ih ⊢
    split
    · rfl
    · exact ih
theorem vmS_set (m : Nums) (k : ByteArray) (n : Int) : aset (vmS m) k (.int .i64 n) = vmS (aset m k n) := by
  induction m with
  | nil => rfl
  | cons p r ih =>
    simp only [vmS, List.map_cons, aset] at ih ⊢
    split
    · rfl
    · rw [ih]; rfl
theorem vmS_del (m : Nums) (k : ByteArray) : adel (vmS m) k = vmS (adel m k) := by
  induction m with
  | nil => rfl
  | cons p r ih =>
    simp only [vmS, List.map_cons, adel] at ih ⊢
    split
    · rfl
    · rw [ih]; rfl
def MapS (w : World) (b : Nat) (m : Nums) : Prop := MapAt strEnc w b (vmS m)
def usedV (U : Nums) (x : ByteArray) : Int := (aget U x).getD 0
theorem ten_small : rightI tenI = true := by kernel_rfl
theorem ten_cost (k : ByteArray) : costI k tenI = 58 + (k.size : Int) := by
  have : bodyI tenI = 10 := by kernel_rfl
  unfold costI; rw [this]; omega
theorem sf_step (bud : Int) (c d : Ce) (r : List Ce) (ev : List Ev) : evictL bud (c :: d :: r) ev = if bud < bytesC (c :: d :: r) then evictL bud (d :: r) (ev ++ [(4, c.key)]) else (c :: d :: r, ev) := by rw [evictL]
/-- Where the law stands behind k keys. -/
structure LastI (S : PS) (U : Nums) (bud : Int) (k : Nat) : Prop where
  ok : POk S
  hbud : S.budget = bud
  ev : S.events = []
  all : ∀ c ∈ S.cells, c.item = tenI ∧ c.when = -1
  nd : (akeys U).Nodup
  km : ∀ x, (aget U x).isSome = decide (x ∈ keysC S.cells)
  ord : S.cells.Pairwise fun c d => usedV U c.key < usedV U d.key
  rng : ∀ c ∈ S.cells, 1 ≤ usedV U c.key ∧ usedV U c.key ≤ k
  cl : S.cells.length ≤ k
/-- Behind a key's put: a was evicted. -/
structure LastJ (S : PS) (U : Nums) (bud : Int) (k : Nat) (key : ByteArray) (a : List Ce) : Prop where
  ok : POk S
  hbud : S.budget = bud
  ev : S.events = (1, key) :: a.map fun c => ((4 : Int), c.key)
  all : ∀ c ∈ S.cells, c.item = tenI ∧ c.when = -1
  nd : (akeys U).Nodup
  knd : (keysC (a ++ S.cells)).Nodup
  km : ∀ x, (aget U x).isSome = decide (x ∈ keysC (a ++ S.cells))
  ord : (a ++ S.cells).Pairwise fun c d => usedV U c.key < usedV U d.key
  rng : ∀ c ∈ a ++ S.cells, 1 ≤ usedV U c.key ∧ usedV U c.key ≤ k
  there : key ∈ keysC S.cells
  fits : bytesC S.cells ≤ bud
  cl : (a ++ S.cells).length ≤ k
theorem LastI.due {S : PS} {U : Nums} {bud : Int} {k : Nat} (h : LastI S U bud k) (key : ByteArray) : dueP S key 0 = S := by
  unfold dueP
  have : isDue S.cells key 0 = false := by
    unfold isDue
    cases hl : lookC S.cells key with
    | none => rfl
    | some c => simp only; rw [(h.all c (lookC_some hl).1).2]; rfl
  rw [this, if_neg (by simp)]
theorem LastI.err {S : PS} {U : Nums} {bud : Int} {k : Nat} (h : LastI S U bud k) {key : ByteArray} (hk : key.size ≤ 100) (hb : 200 ≤ bud) : putE S key tenI = 0 := by
  unfold putE
  rw [if_neg (by rw [not_or]; exact ⟨by omega, by rw [ten_small]; simp⟩), if_neg (by rw [ten_cost, h.hbud]; omega)]
theorem usedV_set (U : Nums) (key x : ByteArray) (n : Int) : usedV (aset U key n) x = if key = x then n else usedV U x := by
  unfold usedV; rw [aget_aset]; split <;> rfl
theorem LastI.put {S : PS} {U : Nums} {bud : Int} {k : Nat} (h : LastI S U bud k) {key : ByteArray} (hk : key.size ≤ 100) (hb : 200 ≤ bud) : ∃ a, LastJ (putP S key tenI false 0) (aset U key ((k : Int) + 1)) bud (k + 1) key a := by
  have hd := h.due key
  have he := h.err hk hb
  have hp : putP S key tenI false 0 = evictP (laidP S key tenI false) := by unfold putP; rw [hd, if_pos he]
  rw [hp]
  have hok := h.ok.laid he false
  obtain ⟨a, e1, e2⟩ := evictL_suffix S.budget (laidP S key tenI false).cells (laidP S key tenI false).events
  have ec : (laidP S key tenI false).cells = delC S.cells key ++ [⟨key, tenI, -1⟩] := rfl
  have ece : (evictP (laidP S key tenI false)).cells = (evictL S.budget (laidP S key tenI false).cells (laidP S key tenI false).events).1 := rfl
  have eall : a ++ (evictP (laidP S key tenI false)).cells = delC S.cells key ++ [⟨key, tenI, -1⟩] := by rw [ece, ← e1]; rfl
  obtain ⟨b, e3⟩ := evictL_last S.budget (delC S.cells key) ⟨key, tenI, -1⟩ (laidP S key tenI false).events
  refine ⟨a, hok.evict, h.hbud, ?_, fun c hc => ?_, nodup_aset h.nd _ _, ?_, fun x => ?_, ?_, fun c hc => ?_, ?_, ?_, by rw [eall, List.length_append]; have := delC_len S.cells key; have := h.cl; simp; omega⟩
  · show (evictL S.budget (laidP S key tenI false).cells (laidP S key tenI false).events).2 = _
    rw [e2]
    show (S.events ++ [(1, key)]) ++ _ = _
    rw [h.ev]; rfl
  · have : c ∈ delC S.cells key ++ [⟨key, tenI, -1⟩] := by rw [← eall]; exact List.mem_append_right _ hc
    rcases List.mem_append.1 this with g | g
    · exact h.all c (delC_mem.1 g).1
    · obtain rfl := List.mem_singleton.1 g; exact ⟨rfl, rfl⟩
  · rw [eall]; exact laid_nd h.ok.nd key tenI (-1)
  · rw [eall, aget_aset]
    by_cases e : key = x
    · subst e; simp [keysC]
    · rw [if_neg e, h.km, ← lookC_isSome, ← lookC_isSome, lookC_app, lookC_delC, if_neg (fun g => e g.symm)]; simp [e]
  · rw [eall, List.pairwise_append]
    refine ⟨?_, List.pairwise_singleton _ _, fun c hc d hd => ?_⟩
    · refine (List.Pairwise.sublist (List.filter_sublist) h.ord).imp_of_mem fun {c d} hc hd hcd => ?_
      have h1 := (delC_mem.1 hc).2
      have h2 := (delC_mem.1 hd).2
      rw [usedV_set, usedV_set, if_neg (fun g => h1 g.symm), if_neg (fun g => h2 g.symm)]; exact hcd
    · obtain rfl := List.mem_singleton.1 hd
      obtain ⟨h1, h2⟩ := delC_mem.1 hc
      rw [usedV_set, usedV_set, if_neg (fun g => h2 g.symm), if_pos rfl]
      have := (h.rng c h1).2; omega
  · rw [eall] at hc
    rcases List.mem_append.1 hc with g | g
    · obtain ⟨h1, h2⟩ := delC_mem.1 g
      rw [usedV_set, if_neg (fun g => h2 g.symm)]
      have := h.rng c h1; omega
    · obtain rfl := List.mem_singleton.1 g
      rw [usedV_set, if_pos rfl]; omega
  · rw [ece]
    show key ∈ keysC (evictL S.budget (delC S.cells key ++ [⟨key, tenI, -1⟩]) _).1
    rw [e3]; simp [keysC]
  · have := evictL_le S.budget (laidP S key tenI false).cells (laidP S key tenI false).events hok.fit hok.bud.1
    rw [h.hbud] at this
    rw [ece, h.hbud]; exact this
theorem LastJ.due {S : PS} {U : Nums} {bud : Int} {k : Nat} {key : ByteArray} {a : List Ce} (h : LastJ S U bud k key a) : dueP S key 0 = S ∧ gotI S key = tenI ∧ wasP S key = true := by
  refine ⟨?_, ?_, decide_eq_true h.there⟩
  · unfold dueP
    have : isDue S.cells key 0 = false := by
      unfold isDue
      cases hl : lookC S.cells key with
      | none => rfl
      | some c => simp only; rw [(h.all c (lookC_some hl).1).2]; rfl
    rw [this, if_neg (by simp)]
  · unfold gotI
    cases hl : lookC S.cells key with
    | none => exact absurd h.there (lookC_none.1 hl)
    | some c => exact (h.all c (lookC_some hl).1).1
/-- The numbers without those of who was evicted. -/
def delE (U : Nums) : List Ev → Nums
  | [] => U
  | e :: r => delE (if e.1 = 4 then adel U e.2 else U) r
theorem delE_snoc (U : Nums) (l : List Ev) (e : Ev) : delE U (l ++ [e]) = if e.1 = 4 then adel (delE U l) e.2 else delE U l := by
  induction l generalizing U with
  | nil => rfl
  | cons x r ih => rw [List.cons_append, delE, ih]; rfl
theorem delE_nd {U : Nums} (h : (akeys U).Nodup) (l : List Ev) : (akeys (delE U l)).Nodup := by
  induction l generalizing U with
  | nil => exact h
  | cons x r ih =>
    rw [delE]
    apply ih
    split
    · exact nodup_adel h _
    · exact h
theorem delE_get {U : Nums} (h : (akeys U).Nodup) (l : List Ev) (x : ByteArray) : aget (delE U l) x = if ((4 : Int), x) ∈ l then none else aget U x := by
  induction l generalizing U with
  | nil => simp [delE]
  | cons e r ih =>
    rw [delE]
    split
    · next h4 =>
      rw [ih (nodup_adel h _), aget_adel h]
      obtain ⟨e1, e2⟩ := e
      simp only at h4
      subst h4
      by_cases g : e2 = x
      · subst g; simp
      · have g2 : ¬ x = e2 := fun q => g q.symm
        simp [g, g2]
    · next h4 =>
      rw [ih h]
      obtain ⟨e1, e2⟩ := e
      simp only at h4
      have : ¬ ((4 : Int), x) = (e1, e2) := fun q => h4 (by injection q with q1 q2; exact q1.symm)
      simp [this]
theorem delE_le {U : Nums} (h : (akeys U).Nodup) (l : List Ev) {x : ByteArray} {o : Int} (h0 : 0 ≤ o) (hx : usedV U x ≤ o) : usedV (delE U l) x ≤ o := by
  unfold usedV
  rw [delE_get h]
  split
  · exact h0
  · exact hx
theorem LastJ.next {S : PS} {U : Nums} {bud : Int} {k : Nat} {key : ByteArray} {a : List Ce} (h : LastJ S U bud k key a) : LastI { S with events := [] } (delE U S.events) bud k := by
  have hev : ∀ x, ((4 : Int), x) ∈ S.events ↔ x ∈ keysC a := fun x => by
    rw [h.ev, List.mem_cons, List.mem_map]
    unfold keysC
    rw [List.mem_map]
    constructor
    · rintro (g | ⟨c, hc, e⟩)
      · injection g with g1 g2; omega
      · exact ⟨c, hc, by injection e⟩
    · rintro ⟨c, hc, rfl⟩; exact Or.inr ⟨c, hc, rfl⟩
  have hkn := h.knd
  have hk2 : keysC (a ++ S.cells) = keysC a ++ keysC S.cells := by simp [keysC]
  rw [hk2] at hkn
  have hdis : ∀ c ∈ S.cells, c.key ∉ keysC a := fun c hc g => (List.nodup_append.1 hkn).2.2 _ g _ (List.mem_map.2 ⟨c, hc, rfl⟩) rfl
  have hsame : ∀ c ∈ S.cells, usedV (delE U S.events) c.key = usedV U c.key := fun c hc => by
    unfold usedV; rw [delE_get h.nd, if_neg (fun g => hdis c hc ((hev _).1 g))]
  refine ⟨h.ok.tell [], h.hbud, rfl, h.all, delE_nd h.nd _, fun x => ?_, ?_, fun c hc => ?_, by have := h.cl; rw [List.length_append] at this; show S.cells.length ≤ k; omega⟩
  · rw [delE_get h.nd]
    show _ = decide (x ∈ keysC S.cells)
    by_cases g : x ∈ keysC a
    · rw [if_pos ((hev x).2 g)]
      have : x ∉ keysC S.cells := fun q => (List.nodup_append.1 hkn).2.2 _ g _ q rfl
      simp [this]
    · rw [if_neg (fun q => g ((hev x).1 q)), h.km, hk2]
      simp [g]
  · refine ((List.pairwise_append.1 h.ord).2.1).imp_of_mem fun {c d} hc hd g => ?_
    rw [hsame c hc, hsame d hd]; exact g
  · show 1 ≤ usedV (delE U S.events) c.key ∧ usedV (delE U S.events) c.key ≤ (k : Int)
    rw [hsame c hc]; exact h.rng c (List.mem_append_right _ hc)
/-- Whatever is not behind all numbers stays so. -/
def LowO (S : PS) (U : Nums) (n : Nat) (o : Int) : Prop := ∀ t, t ≤ (n : Int) + 1 → (∀ c ∈ S.cells, t ≤ usedV U c.key) → t ≤ o
theorem LowO.min {S : PS} {U : Nums} {n : Nat} {o : Int} (h : LowO S U n o) {x : ByteArray} (hx : x ∈ keysC S.cells) : LowO S U n (Min.min o (usedV U x)) := fun t h1 h2 => by
  obtain ⟨c, hc, rfl⟩ := List.mem_map.1 hx
  have := h t h1 h2
  have := h2 c hc
  omega
theorem LastJ.low {S : PS} {U : Nums} {bud : Int} {k n : Nat} {key : ByteArray} {a : List Ce} (h : LastJ S U bud k key a) (hkn : k ≤ n) {o : Int} (ho : LowO S U n o) : 0 ≤ o ∧ ∀ x, ((4 : Int), x) ∈ S.events → usedV U x ≤ o := by
  refine ⟨ho 0 (by omega) fun c hc => by have := (h.rng c (List.mem_append_right _ hc)).1; omega, fun x hx => ?_⟩
  rw [h.ev, List.mem_cons, List.mem_map] at hx
  rcases hx with g | ⟨c, hc, e⟩
  · injection g with g1 g2; omega
  · injection e with _ e
    subst e
    refine ho _ ?_ fun d hd => ?_
    · have := (h.rng c (List.mem_append_left _ hc)).2; omega
    · have := (List.pairwise_append.1 h.ord).2.2 c hc d hd; omega
theorem LastI.len {S : PS} {U : Nums} {bud : Int} {k : Nat} (h : LastI S U bud k) : S.cells.length = U.length := by
  have hp : (akeys U).Perm (keysC S.cells) := (List.perm_ext_iff_of_nodup h.nd h.ok.nd).2 fun x => by
    have := h.km x
    rw [Bool.eq_iff_iff, decide_eq_true_eq] at this
    rw [← this]
    cases hk : aget U x with
    | none => simp [aget_none.1 hk]
    | some b => simp; exact Decidable.not_not.1 fun hh => by rw [aget_none.2 hh] at hk; cases hk
  have := hp.length_eq
  simpa [akeys, keysC] using this.symm
theorem evictL_evlen (bud : Int) : ∀ (l : List Ce) (ev : List Ev), (evictL bud l ev).2.length ≤ ev.length + l.length
  | [], ev => by simp [evictL]
  | [c], ev => by simp [evictL]
  | c :: d :: r, ev => by
    rw [sf_step]
    split
    · have := evictL_evlen bud (d :: r) (ev ++ [(4, c.key)])
      simp only [List.length_append, List.length_cons, List.length_nil] at this ⊢; omega
    · simp
end Go.Proofs.YtcdihffcncaibaaGreatDoor
