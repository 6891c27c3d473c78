/- Items: their walks. -/
import Derived.Test.YtcdihffcncaibaaDoorK03
import Derived.Test.YtcdihffcncaibaaDoorK11
import Derived.Deep.RegionHeld3
import Derived.Lib.SliceRun
import Derived.Test.YtcdihffcncaibaaDoorK07
import Derived.Test.YtcdihffcncaibaaDoorK09
set_option linter.unusedVariables false
set_option linter.unusedSimpArgs false
namespace Go.Proofs.YtcdihffcncaibaaDoor
open Go.RowKit

def fdc (f : Fd) : List Value := [.string f.1, .string f.2]
def fdV (f : Fd) : Value := .agg #[.string f.1, .string f.2]
/-- An item, its fields in v. -/
def itV (i : It) (v : Value) : Value := .agg #[.int .i64 i.kind, .string i.text, v]
theorem RowOf.nilTo {α : Type} {f : α → List Value} {k : Nat} {w w' : World} {v : Value} (h : RowOf f k w v ([] : List α)) : RowOf f k w' v ([] : List α) := by
  rcases h with h | ⟨b, off, cap, rfl, _⟩
  · exact Or.inl h
  · exact Or.inl ⟨_, _, rfl, rfl⟩
theorem fd_info : (Tryd.prog.info? 82).map (fun i => (i.zero, i.size, i.bytes)) = some (some (.agg #[.string ByteArray.empty, .string ByteArray.empty]), 2, 32) := by kernel_rfl
theorem fd_cells {w : World} {v : Value} {l : List Fd} (h : RowOf fdc 2 w v l) {k : Nat} {d : Fd} (hk : l[k]? = some d) : ∃ b off cap, v = .slice (some ⟨b, off, none⟩) l.length cap ∧ b < w.heap.size ∧ w.cell? ⟨b, off + k * 2, none⟩ = some (.string d.1) ∧ w.cell? ⟨b, off + k * 2 + 1, none⟩ = some (.string d.2) := by
  rcases h with ⟨_, _, _, e⟩ | ⟨b, off, c, e, hb, _, hc⟩
  · rw [e] at hk; simp at hk
  · refine ⟨b, off, c, e, hb, ?_, ?_⟩
    · have := hc k d hk 0 (by omega); rw [Nat.add_zero] at this; simpa [fdc] using this
    · have := hc k d hk 1 (by omega); rw [← Nat.add_assoc] at this; simpa [fdc] using this
theorem take_snocF {l : List Fd} {k : Nat} {d : Fd} (h : l[k]? = some d) : l.take (k + 1) = l.take k ++ [d] := by
  obtain ⟨h1, e⟩ := List.getElem?_eq_some_iff.1 h
  rw [List.take_succ_eq_append_getElem h1, e]
theorem fcost_take_le (l : List Fd) (k : Nat) : fcost (l.take k) ≤ fcost l := by
  have : fcost l = fcost (l.take k) + fcost (l.drop k) := by rw [← fcost_app, List.take_append_drop]
  have := fcost_nonneg (l.drop k); omega
theorem i64w {n : Int} (h0 : -9223372036854775808 ≤ n) (h1 : n ≤ 9223372036854775807) : IntKind.i64.wrap n = n := by
  unfold IntKind.wrap; simp [IntKind.bits, IntKind.signed]; omega

set_option maxHeartbeats 4000000 in
set_option maxRecDepth 100000 in
theorem field_any (f : Fd) (w : World) :
    Calls Tryd.prog 32 #[fdV f] w fun e w' => e = .returned (.bool (decide (f.1.size ≤ 512) && decide (f.2.size ≤ 4096))) ∧ Upd (fun _ => False) w w' := by
  obtain ⟨a, b⟩ := f
  show Calls _ _ #[.agg #[.string a, .string b]] _ _
  by_cases h1 : a.size ≤ 512
  · by_cases h2 : b.size ≤ 4096
    · have t1 : decide ((a.size : Int) ≤ 512) = true := decide_eq_true (by omega)
      have t2 : decide ((b.size : Int) ≤ 4096) = true := decide_eq_true (by omega)
      go_enter Tryd.func32, Tryd.ntmps32
      go_wp2
      go_ret
      exact ⟨by simp [h1, h2], (Upd.refl _ _).alloc _⟩
    · have t1 : decide ((a.size : Int) ≤ 512) = true := decide_eq_true (by omega)
      have t2 : decide ((b.size : Int) ≤ 4096) = false := decide_eq_false (by omega)
      go_enter Tryd.func32, Tryd.ntmps32
      go_wp2
      go_ret
      exact ⟨by simp [h1, h2], (Upd.refl _ _).alloc _⟩
  · have t1 : decide ((a.size : Int) ≤ 512) = false := decide_eq_false (by omega)
    go_enter Tryd.func32, Tryd.ntmps32
    go_wp2
    go_ret
    exact ⟨by simp [h1], (Upd.refl _ _).alloc _⟩
set_option maxHeartbeats 4000000 in
set_option maxRecDepth 100000 in
theorem clone_any (v : Value) (l : List Fd) (w : World) (hv : RowOf fdc 2 w v l) (hl : l.length ≤ 100000) :
    Calls Tryd.prog 36 #[v] w fun e w' => ∃ v', e = .returned v' ∧ RowOf fdc 2 w' v' l ∧ (l = [] ∨ ∀ b, v'.ownBlock = some b → w.heap.size ≤ b ∧ b < w'.heap.size) ∧ Upd (fun _ => False) w w' := by
  obtain ⟨p, c, ev, hm⟩ := hv.len
  subst ev
  cases p with
  | none =>
    have hl0 : l = [] := by
      rcases hv with ⟨_, _, _, e⟩ | ⟨b, off, cap, e, _⟩
      · exact e
      · cases e
    subst hl0
    have qn := Go.Lib.run_eql_slice_nil (P := Tryd.prog) w 27 _ none 0 c 0 0 Tryd.underlying27
    go_enter Tryd.func36, Tryd.ntmps36
    go_wp2
    go_ret
    exact ⟨_, rfl, Or.inl ⟨_, _, rfl, rfl⟩, Or.inl trivial, Upd.refl _ _⟩
  | some a =>
    obtain ⟨i0, hi0, hz0, hz1, hz2⟩ := info_parts fd_info
    have u0 : Upd (fun _ => False) w (w.alloc (.cells #[] 82)) := (Upd.refl _ _).alloc _
    obtain ⟨v', w', hr1, b, c2, d⟩ := OwnN.append (P := Tryd.prog) 27 27 i0 (.agg #[.string ByteArray.empty, .string ByteArray.empty]) 32 Tryd.underlying27 hi0 hz0 hz1 hz2 rfl (by decide) (fun _ => rfl) (fun f _ => fun u hu => by simp [fdc] at hu; rcases hu with rfl | rfl <;> rfl) (OwnN.made w 82) (hv.keep u0 (fun _ _ _ h => h)) (by unfold maxLen; simp; omega) (by simp; omega) u0.size
    have b2 := b.row (fun _ => rfl)
    have B := Lib.hid b
    have B2 := Lib.hid b2
    have C2 : Hid (Upd (fun _ => False) w w') := u0.trans c2 (fun i hi e => by have e2 : w.heap.size = i := Option.some.inj e; omega)
    clear b b2 c2 d hv
    have qn := Go.Lib.run_eql_slice_nil (P := Tryd.prog) w 27 _ (some a) l.length c 0 0 Tryd.underlying27
    go_enter Tryd.func36, Tryd.ntmps36
    go_wp2_with (at_builtin; refine wpList_builtinN rfl _ _ 27 rfl _ _ rfl rfl hr1 ?_)
    go_wp2
    go_ret
    exact ⟨_, rfl, B2.out, Or.inr (fun b hb => by have := B.out.lt hb; exact ⟨this.1, this.2.1⟩), C2.out⟩

set_option maxHeartbeats 4000000 in
set_option maxRecDepth 100000 in
theorem copy_any (i : It) (v : Value) (w : World) (hv : RowOf fdc 2 w v i.flds) (hl : i.flds.length ≤ 100000) :
    Calls Tryd.prog 20 #[itV i v] w fun e w' => ∃ v', e = .returned (itV i v') ∧ RowOf fdc 2 w' v' i.flds ∧ (i.flds = [] ∨ ∀ b, v'.ownBlock = some b → w.heap.size ≤ b ∧ b < w'.heap.size) ∧ Upd (fun _ => False) w w' := by
  obtain ⟨kind, text, l⟩ := i
  obtain ⟨p, c, ev, hm⟩ := hv.len
  simp only at ev hm hv hl
  subst ev
  show Calls _ _ #[.agg #[.int .i64 kind, .string text, .slice p l.length c]] _ _
  obtain ⟨z, hz⟩ : ∃ z, z = ((w.alloc (.cells #[.int .i64 kind, .string text, .slice p l.length c] 29)).alloc (.cells #[.int .i64 0, .string { data := #[] }, .slice none 0 0] 29)) := ⟨_, rfl⟩
  have uz : Upd (fun _ => False) w z := by rw [hz]; exact ((Upd.refl _ _).alloc _).alloc _
  have hB : Blk z w.heap.size [.int .i64 kind, .string text, .slice p l.length c] 29 := by rw [hz]; exact (Blk.made _ _ _).alloc _
  have hB2 : Blk z (w.heap.size + 1) [.int .i64 0, .string { data := #[] }, .slice none 0 0] 29 := by
    rw [hz]; have := Blk.made (w.alloc (.cells #[.int .i64 kind, .string text, .slice p l.length c] 29)) [.int .i64 0, .string { data := #[] }, .slice none 0 0] 29
    simpa using this
  have CL := Lib.hid (clone_any (.slice p l.length c) l z (hv.keep uz (fun _ _ _ h => h)) hl)
  rw [hz] at CL
  go_enter Tryd.func20, Tryd.ntmps20
  go_wp2_with fail
  refine (CL.out).mono ?_
  rintro e w1 ⟨v', rfl, hr, ho, u1⟩
  rw [← hz] at u1 ho
  clear CL
  obtain ⟨p2, c2, e2, hm2⟩ := hr.len
  subst e2
  have b1 := u1.blk hB (fun h => h)
  have b2 := u1.blk hB2 (fun h => h)
  have l1 := b1.lt
  have l2 := b2.lt
  have x0 := b1.cellAt (i := 0) rfl
  have x1 := b1.cellAt (i := 1) rfl
  have x2 := b1.cellAt (i := 2) rfl
  have y0 := b2.cellAt (i := 0) rfl
  have y1 := b2.cellAt (i := 1) rfl
  have y2 := b2.cellAt (i := 2) rfl
  have f0 := b1.free 2
  have g0 := b2.free 0
  have g1 := b2.free 1
  have g2 := b2.free 2
  have hzs := uz.size
  have ZY : Hid (z.heap.size = w.heap.size + 2) := by show _ = _; rw [hz]; simp
  clear hz
  have HR := Lib.hid hr
  have HO := Lib.hid ho
  have UZ := Lib.hid uz
  have U1 := Lib.hid u1
  have SZ := Lib.hid hzs
  have BB := Lib.hid b2
  clear hr ho uz u1 hzs b1 b2 hB hB2 hv
  go_wp2
  have uu : Upd (fun b => b = w.heap.size ∨ b = w.heap.size + 1) w1 _ := (((((Upd.refl (fun b => b = w.heap.size ∨ b = w.heap.size + 1) w1).set (b := w.heap.size) (o := 2) (v := .slice p2 l.length c2) (fun _ => Or.inl rfl)).set (b := w.heap.size + 1) (o := 0) (v := .int .i64 kind) (fun _ => Or.inr rfl)).set (b := w.heap.size + 1) (o := 1) (v := .string text) (fun _ => Or.inr rfl)).set (b := w.heap.size + 1) (o := 2) (v := .slice p2 l.length c2) (fun _ => Or.inr rfl))
  have BW := (((BB.out.set_other (b' := w.heap.size) (o := 2) (v := .slice p2 l.length c2) (by omega)).set 0 (.int .i64 kind)).set 1 (.string text)).set 2 (.slice p2 l.length c2)
  have q0 := BW.cellAt (i := 0) rfl
  have q1 := BW.cellAt (i := 1) rfl
  have q2 := BW.cellAt (i := 2) rfl
  have hy := ZY.out
  refine bodyPost_ret (v := itV ⟨kind, text, l⟩ (.slice p2 l.length c2)) (by simp [results, Tryd.results20, go_sem, q0, q1, q2, itV]) rfl ⟨_, rfl, ?_, ?_, ?_⟩
  · rcases HO.out with e | g
    · have h := HR.out
      subst e
      exact h.nilTo
    · exact HR.out.keep uu fun b hb hv => by have := (g b hv).1; rintro (rfl | rfl) <;> omega
  · rcases HO.out with g | g
    · exact Or.inl g
    · exact Or.inr fun b hb => ⟨by have := (g b hb).1; omega, Nat.lt_of_lt_of_le (g b hb).2 uu.size⟩
  · exact (UZ.out.trans U1.out (fun _ _ h => h)).trans uu (fun i hi h => by rcases h with rfl | rfl <;> omega)
end Go.Proofs.YtcdihffcncaibaaDoor
/- The store in memory: its table, slots, free ones, keys by their use, dues and events, each in blocks of its own. -/
set_option linter.unusedVariables false
set_option linter.unusedSimpArgs false
set_option linter.unusedSectionVars false
namespace Go.Proofs.YtcdihffcncaibaaDoor
open Go.RowKit

abbrev SlV := Int × ByteArray × Value
def slc (s : SlV) : List Value := [.int .i64 s.1, .string s.2.1, s.2.2]
def evc (e : Ev) : List Value := [.int .i64 e.1, .string e.2]
/-- All that a store holds. -/
structure SV where
  tb : Nat
  rb : Nat
  xb : Nat
  slv : Value
  frv : Value
  evv : Value
  byt : Int
  bud : Int
  m : Nums
  n : Nat
  sl : List SlV
  fr : List Int
  ks : List ByteArray
  l : List DueP
  ev : List Ev
def storeC (s : SV) : List Value := [ptr s.tb, s.slv, s.frv, ptr s.rb, ptr s.xb, .int .i64 s.byt, .int .i64 s.bud, s.evv]
def fOf (v : Value) : Nat → Prop := fun b => v.ownBlock = some b
theorem RecRep.keep {w w' : World} {a : Nat} {ks : List ByteArray} {F G : Nat → Prop} (h : RecRep w a ks F) (u : Upd G w w') (hd : ∀ k, F k → ¬ G k) : RecRep w' a ks F := by
  obtain ⟨mb, L, bs, m, h, rfl, rfl⟩ := h; exact ⟨mb, L, bs, m, h.keep u hd, rfl, rfl⟩
theorem RecRep.lt {w : World} {a : Nat} {ks : List ByteArray} {F : Nat → Prop} (h : RecRep w a ks F) : ∀ k, F k → k < w.heap.size := by
  obtain ⟨mb, L, bs, m, h, rfl, rfl⟩ := h; exact h.lt
/-- The parts' blocks. -/
structure SRaw (w : World) (base sb : Nat) (s : SV) (F : Nat → Nat → Prop) : Prop where
  blk : Blk w sb (storeC s) 45
  tab : TabM w s.tb s.m s.n (F 1)
  slots : OwnN slc 3 29 w base s.slv s.sl
  free : IntsAt w base s.frv s.fr
  rcn : RecRep w s.rb s.ks (F 4)
  dues : ExpAt w base s.xb s.l (F 5)
  evs : OwnN evc 2 37 w base s.evv s.ev
  f0 : F 0 sb
  f2 : ∀ b, fOf s.slv b → F 2 b
  f3 : ∀ b, fOf s.frv b → F 3 b
  f6 : ∀ b, fOf s.evv b → F 6 b
  uniq : ∀ i j b, F i b → F j b → i = j
  lt : ∀ i b, F i b → base ≤ b ∧ b < w.heap.size
  bl : base ≤ w.heap.size
  std : Std w
  six : lowB ≤ base
def partTo (F : Nat → Nat → Prop) (i : Nat) (G : Nat → Prop) : Nat → Nat → Prop := fun j => if j = i then G else F j
section
variable {w w' : World} {base sb : Nat} {s : SV} {F : Nat → Nat → Prop} {X Y : Nat → Prop}
theorem partTo_at (F : Nat → Nat → Prop) (i : Nat) (G : Nat → Prop) : partTo F i G i = G := by unfold partTo; rw [if_pos rfl]
theorem partTo_ne (F : Nat → Nat → Prop) {i j : Nat} (G : Nat → Prop) (h : j ≠ i) : partTo F i G j = F j := by unfold partTo; rw [if_neg h]
theorem SRaw.off (h : SRaw w base sb s F) {i j : Nat} (hij : i ≠ j) {b : Nat} (hb : F i b) : ¬ F j b := fun g => hij (h.uniq i j b hb g)
theorem SRaw.kBlk (h : SRaw w base sb s F) {i : Nat} (hi : i ≠ 0) (u : Upd (F i) w w') : Blk w' sb (storeC s) 45 := u.blk h.blk (h.off (Ne.symm hi) h.f0)
theorem SRaw.kTab (h : SRaw w base sb s F) {i : Nat} (hi : i ≠ 1) (u : Upd (F i) w w') : TabM w' s.tb s.m s.n (F 1) := h.tab.keep u fun b hb => h.off (Ne.symm hi) hb
theorem SRaw.kSlots (h : SRaw w base sb s F) {i : Nat} (hi : i ≠ 2) (u : Upd (F i) w w') : OwnN slc 3 29 w' base s.slv s.sl := h.slots.keep u fun b hb => h.off (Ne.symm hi) (h.f2 b hb)
theorem SRaw.kFree (h : SRaw w base sb s F) {i : Nat} (hi : i ≠ 3) (u : Upd (F i) w w') : IntsAt w' base s.frv s.fr := h.free.keep u fun b hb => h.off (Ne.symm hi) (h.f3 b hb)
theorem SRaw.kRec (h : SRaw w base sb s F) {i : Nat} (hi : i ≠ 4) (u : Upd (F i) w w') : RecRep w' s.rb s.ks (F 4) := h.rcn.keep u fun b hb => h.off (Ne.symm hi) hb
theorem SRaw.kDues (h : SRaw w base sb s F) {i : Nat} (hi : i ≠ 5) (u : Upd (F i) w w') : ExpAt w' base s.xb s.l (F 5) := h.dues.keep u fun b hb => h.off (Ne.symm hi) hb
theorem SRaw.kEvs (h : SRaw w base sb s F) {i : Nat} (hi : i ≠ 6) (u : Upd (F i) w w') : OwnN evc 2 37 w' base s.evv s.ev := h.evs.keep u fun b hb => h.off (Ne.symm hi) (h.f6 b hb)
theorem SRaw.kStd (h : SRaw w base sb s F) {i : Nat} (u : Upd (F i) w w') : Std w' := h.std.keepB u fun k hk => Nat.le_trans h.six (h.lt i k hk).1
theorem SRaw.kStd2 (h : SRaw w base sb s F) {i : Nat} {w1 : World} (u : Upd (F i) w w1) (u2 : Upd (fun b => b = sb) w1 w') : Std w' := (h.kStd u).keepB u2 fun k hk => by rw [hk]; exact Nat.le_trans h.six (h.lt 0 sb h.f0).1
/-- The footprints' own laws, when one part is elsewhere now. -/
structure Fam (w w' : World) (base : Nat) (F : Nat → Nat → Prop) (i : Nat) (G : Nat → Prop) : Prop where
  fr : FromF (F i) G w
  lt : ∀ b, G b → base ≤ b ∧ b < w'.heap.size
theorem SRaw.fUniq (h : SRaw w base sb s F) {i : Nat} {G : Nat → Prop} (f : Fam w w' base F i G) : ∀ a j b, partTo F i G a b → partTo F i G j b → a = j := by
  intro a j b ha hj
  by_cases ea : a = i <;> by_cases ej : j = i
  · rw [ea, ej]
  · subst ea; rw [partTo_at] at ha; rw [partTo_ne _ _ ej] at hj
    rcases f.fr b ha with g | g
    · exact h.uniq _ _ b g hj
    · have := (h.lt j b hj).2; omega
  · subst ej; rw [partTo_at] at hj; rw [partTo_ne _ _ ea] at ha
    rcases f.fr b hj with g | g
    · exact h.uniq _ _ b ha g
    · have := (h.lt a b ha).2; omega
  · rw [partTo_ne _ _ ea] at ha; rw [partTo_ne _ _ ej] at hj; exact h.uniq _ _ b ha hj
theorem SRaw.fLt (h : SRaw w base sb s F) {i : Nat} {G : Nat → Prop} (f : Fam w w' base F i G) (hs : w.heap.size ≤ w'.heap.size) : ∀ a b, partTo F i G a b → base ≤ b ∧ b < w'.heap.size := by
  intro a b ha
  by_cases ea : a = i
  · subst ea; rw [partTo_at] at ha; exact f.lt b ha
  · rw [partTo_ne _ _ ea] at ha; have := h.lt a b ha; exact ⟨this.1, by omega⟩
theorem Fam.same (h : SRaw w base sb s F) (i : Nat) (hs : w.heap.size ≤ w'.heap.size) : Fam w w' base F i (F i) := ⟨fun b hb => Or.inl hb, fun b hb => by have := h.lt i b hb; exact ⟨this.1, by omega⟩⟩
theorem SRaw.famTo (h : SRaw w base sb s F) {i : Nat} {G : Nat → Prop} (f : FromF (F i) G w) (hl : ∀ b, G b → b < w'.heap.size) : Fam w w' base F i G :=
  ⟨f, fun b hb => ⟨by rcases f b hb with g | g; exact (h.lt i b g).1; exact Nat.le_trans h.bl g, hl b hb⟩⟩
theorem SRaw.tabTo (h : SRaw w base sb s F) {m' : Nums} {n' : Nat} {G : Nat → Prop} (t : TabM w' s.tb m' n' G) (u : Upd (F 1) w w') (f : FromF (F 1) G w) : SRaw w' base sb { s with m := m', n := n' } (partTo F 1 G) := by
  have fm := h.famTo (w' := w') f t.lt
  exact ⟨h.kBlk (by decide) u, t, h.kSlots (by decide) u, h.kFree (by decide) u, h.kRec (by decide) u, h.kDues (by decide) u, h.kEvs (by decide) u, h.f0, h.f2, h.f3, h.f6, h.fUniq fm, h.fLt fm u.size, Nat.le_trans h.bl u.size, h.kStd u, h.six⟩
theorem SRaw.recTo (h : SRaw w base sb s F) {ks' : List ByteArray} {G : Nat → Prop} (t : RecRep w' s.rb ks' G) (u : Upd (F 4) w w') (f : FromF (F 4) G w) : SRaw w' base sb { s with ks := ks' } (partTo F 4 G) := by
  have fm := h.famTo (w' := w') f t.lt
  exact ⟨h.kBlk (by decide) u, h.kTab (by decide) u, h.kSlots (by decide) u, h.kFree (by decide) u, t, h.kDues (by decide) u, h.kEvs (by decide) u, h.f0, h.f2, h.f3, h.f6, h.fUniq fm, h.fLt fm u.size, Nat.le_trans h.bl u.size, h.kStd u, h.six⟩
theorem SRaw.duesTo (h : SRaw w base sb s F) {l' : List DueP} {G : Nat → Prop} (t : ExpAt w' base s.xb l' G) (u : Upd (F 5) w w') (f : FromF (F 5) G w) : SRaw w' base sb { s with l := l' } (partTo F 5 G) := by
  have fm := h.famTo (w' := w') f t.lt
  exact ⟨h.kBlk (by decide) u, h.kTab (by decide) u, h.kSlots (by decide) u, h.kFree (by decide) u, h.kRec (by decide) u, t, h.kEvs (by decide) u, h.f0, h.f2, h.f3, h.f6, h.fUniq fm, h.fLt fm u.size, Nat.le_trans h.bl u.size, h.kStd u, h.six⟩
/-- A cell of the store itself is written: a part is another one, in another place. -/
theorem SRaw.slotsTo (h : SRaw w base sb s F) {v' : Value} {sl' : List SlV} {w1 : World} (t : OwnN slc 3 29 w1 base v' sl') (u : Upd (fOf s.slv) w w1) (nw : NewOr s.slv v' w)
    (u2 : Upd (fun b => b = sb) w1 w') (hB : Blk w' sb (storeC { s with slv := v', sl := sl' }) 45) : SRaw w' base sb { s with slv := v', sl := sl' } (partTo F 2 (fOf v')) := by
  have ut : Upd (F 2) w w1 := u.weaken fun b _ hb => h.f2 b hb
  have ne : ∀ j b, j ≠ 0 → F j b → ¬ b = sb := fun j b hj hb e => h.off hj hb (e ▸ h.f0)
  have hl : ∀ b, fOf v' b → b < w1.heap.size := fun b hb => (t.lt hb).2.1
  have f : FromF (F 2) (fOf v') w := fun b hb => (nw b hb).imp (h.f2 b) id
  have fm : Fam w w' base F 2 (fOf v') := h.famTo f fun b hb => Nat.lt_of_lt_of_le (hl b hb) u2.size
  have hsz := Nat.le_trans u.size u2.size
  have nv : ∀ b, fOf v' b → ¬ b = sb := fun b hb e => by
    rcases f b hb with g | g
    · exact ne 2 b (by decide) g e
    · have := h.blk.lt; omega
  exact ⟨hB, (h.kTab (by decide) ut).keep u2 fun b hb => ne 1 b (by decide) hb, t.keep u2 nv, (h.kFree (by decide) ut).keep u2 fun b hb => ne 3 b (by decide) (h.f3 b hb), (h.kRec (by decide) ut).keep u2 fun b hb => ne 4 b (by decide) hb, (h.kDues (by decide) ut).keep u2 fun b hb => ne 5 b (by decide) hb, (h.kEvs (by decide) ut).keep u2 fun b hb => ne 6 b (by decide) (h.f6 b hb), h.f0, fun b hb => hb, h.f3, h.f6, h.fUniq fm, h.fLt fm hsz, Nat.le_trans h.bl hsz, h.kStd2 ut u2, h.six⟩
theorem SRaw.freeTo (h : SRaw w base sb s F) {v' : Value} {fr' : List Int} {w1 : World} (t : IntsAt w1 base v' fr') (u : Upd (fOf s.frv) w w1) (nw : NewOr s.frv v' w)
    (u2 : Upd (fun b => b = sb) w1 w') (hB : Blk w' sb (storeC { s with frv := v', fr := fr' }) 45) : SRaw w' base sb { s with frv := v', fr := fr' } (partTo F 3 (fOf v')) := by
  have ut : Upd (F 3) w w1 := u.weaken fun b _ hb => h.f3 b hb
  have ne : ∀ j b, j ≠ 0 → F j b → ¬ b = sb := fun j b hj hb e => h.off hj hb (e ▸ h.f0)
  have hl : ∀ b, fOf v' b → b < w1.heap.size := fun b hb => (World.ownsRow.lt t b hb).2
  have f : FromF (F 3) (fOf v') w := fun b hb => (nw b hb).imp (h.f3 b) id
  have fm : Fam w w' base F 3 (fOf v') := h.famTo f fun b hb => Nat.lt_of_lt_of_le (hl b hb) u2.size
  have hsz := Nat.le_trans u.size u2.size
  have nv : ∀ b, fOf v' b → ¬ b = sb := fun b hb e => by
    rcases f b hb with g | g
    · exact ne 3 b (by decide) g e
    · have := h.blk.lt; omega
  exact ⟨hB, (h.kTab (by decide) ut).keep u2 fun b hb => ne 1 b (by decide) hb, (h.kSlots (by decide) ut).keep u2 fun b hb => ne 2 b (by decide) (h.f2 b hb), t.keep u2 nv, (h.kRec (by decide) ut).keep u2 fun b hb => ne 4 b (by decide) hb, (h.kDues (by decide) ut).keep u2 fun b hb => ne 5 b (by decide) hb, (h.kEvs (by decide) ut).keep u2 fun b hb => ne 6 b (by decide) (h.f6 b hb), h.f0, h.f2, fun b hb => hb, h.f6, h.fUniq fm, h.fLt fm hsz, Nat.le_trans h.bl hsz, h.kStd2 ut u2, h.six⟩
theorem SRaw.evsTo (h : SRaw w base sb s F) {v' : Value} {ev' : List Ev} {w1 : World} (t : OwnN evc 2 37 w1 base v' ev') (u : Upd (fOf s.evv) w w1) (nw : NewOr s.evv v' w)
    (u2 : Upd (fun b => b = sb) w1 w') (hB : Blk w' sb (storeC { s with evv := v', ev := ev' }) 45) : SRaw w' base sb { s with evv := v', ev := ev' } (partTo F 6 (fOf v')) := by
  have ut : Upd (F 6) w w1 := u.weaken fun b _ hb => h.f6 b hb
  have ne : ∀ j b, j ≠ 0 → F j b → ¬ b = sb := fun j b hj hb e => h.off hj hb (e ▸ h.f0)
  have hl : ∀ b, fOf v' b → b < w1.heap.size := fun b hb => (t.lt hb).2.1
  have f : FromF (F 6) (fOf v') w := fun b hb => (nw b hb).imp (h.f6 b) id
  have fm : Fam w w' base F 6 (fOf v') := h.famTo f fun b hb => Nat.lt_of_lt_of_le (hl b hb) u2.size
  have hsz := Nat.le_trans u.size u2.size
  have nv : ∀ b, fOf v' b → ¬ b = sb := fun b hb e => by
    rcases f b hb with g | g
    · exact ne 6 b (by decide) g e
    · have := h.blk.lt; omega
  exact ⟨hB, (h.kTab (by decide) ut).keep u2 fun b hb => ne 1 b (by decide) hb, (h.kSlots (by decide) ut).keep u2 fun b hb => ne 2 b (by decide) (h.f2 b hb), (h.kFree (by decide) ut).keep u2 fun b hb => ne 3 b (by decide) (h.f3 b hb), (h.kRec (by decide) ut).keep u2 fun b hb => ne 4 b (by decide) hb, (h.kDues (by decide) ut).keep u2 fun b hb => ne 5 b (by decide) hb, t.keep u2 nv, h.f0, h.f2, h.f3, fun b hb => hb, h.fUniq fm, h.fLt fm hsz, Nat.le_trans h.bl hsz, h.kStd2 ut u2, h.six⟩
/-- Slots are written in their place. -/
theorem SRaw.slotSet (h : SRaw w base sb s F) {sl' : List SlV} (t : OwnN slc 3 29 w' base s.slv sl') (u : Upd (fOf s.slv) w w') : SRaw w' base sb { s with sl := sl' } F := by
  have ut : Upd (F 2) w w' := u.weaken fun b _ hb => h.f2 b hb
  exact ⟨h.kBlk (by decide) ut, h.kTab (by decide) ut, t, h.kFree (by decide) ut, h.kRec (by decide) ut, h.kDues (by decide) ut, h.kEvs (by decide) ut, h.f0, h.f2, h.f3, h.f6, h.uniq, fun i b hb => by have := h.lt i b hb; have := u.size; exact ⟨by omega, by omega⟩, Nat.le_trans h.bl u.size, h.kStd ut, h.six⟩
/-- How many bytes is another number. -/
theorem SRaw.bytTo (h : SRaw w base sb s F) {x : Int} (u : Upd (fun b => b = sb) w w') (hB : Blk w' sb (storeC { s with byt := x }) 45) : SRaw w' base sb { s with byt := x } F := by
  have ut : Upd (F 0) w w' := u.weaken fun b _ hb => by rw [hb]; exact h.f0
  exact ⟨hB, h.kTab (by decide) ut, h.kSlots (by decide) ut, h.kFree (by decide) ut, h.kRec (by decide) ut, h.kDues (by decide) ut, h.kEvs (by decide) ut, h.f0, h.f2, h.f3, h.f6, h.uniq, fun i b hb => by have := h.lt i b hb; have := u.size; exact ⟨by omega, by omega⟩, Nat.le_trans h.bl u.size, h.kStd ut, h.six⟩
theorem SRaw.keepAll (h : SRaw w base sb s F) {G : Nat → Prop} (u : Upd G w w') (hd : ∀ i b, F i b → ¬ G b) (hst : Std w') : SRaw w' base sb s F :=
  ⟨u.blk h.blk (hd 0 _ h.f0), h.tab.keep u (hd 1), h.slots.keep u (fun b hb => hd 2 b (h.f2 b hb)), h.free.keep u (fun b hb => hd 3 b (h.f3 b hb)), h.rcn.keep u (hd 4), h.dues.keep u (hd 5), h.evs.keep u (fun b hb => hd 6 b (h.f6 b hb)), h.f0, h.f2, h.f3, h.f6, h.uniq, fun i b hb => by have := h.lt i b hb; have := u.size; exact ⟨by omega, by omega⟩, Nat.le_trans h.bl u.size, hst, h.six⟩
/-- From base on, but in none of X's blocks. -/
def Fr (base : Nat) (X : Nat → Prop) : Nat → Prop := fun b => base ≤ b ∧ ¬ X b
/-- The store in memory, beside the blocks of X. -/
def SMem (w : World) (base sb : Nat) (X : Nat → Prop) (s : SV) : Prop := ∃ F, SRaw w base sb s F ∧ (∀ i b, F i b → ¬ X b) ∧ ∀ b, X b → b < w.heap.size
theorem SMem.blk (h : SMem w base sb X s) : Blk w sb (storeC s) 45 := by obtain ⟨F, r, _⟩ := h; exact r.blk
theorem SMem.bl (h : SMem w base sb X s) : base ≤ w.heap.size := by obtain ⟨F, r, _⟩ := h; exact r.bl
theorem SMem.slots (h : SMem w base sb X s) : OwnN slc 3 29 w base s.slv s.sl := by obtain ⟨F, r, _⟩ := h; exact r.slots
theorem SMem.free (h : SMem w base sb X s) : IntsAt w base s.frv s.fr := by obtain ⟨F, r, _⟩ := h; exact r.free
theorem SMem.evs (h : SMem w base sb X s) : OwnN evc 2 37 w base s.evv s.ev := by obtain ⟨F, r, _⟩ := h; exact r.evs
theorem SMem.keepX (h : SMem w base sb X s) (u : Upd X w w') (h6 : ∀ b, X b → lowB ≤ b) : SMem w' base sb X s := by
  obtain ⟨F, r, d, x⟩ := h
  exact ⟨F, r.keepAll u d (r.std.keepB u h6), d, fun b hb => Nat.lt_of_lt_of_le (x b hb) u.size⟩
theorem SMem.keep0 (h : SMem w base sb X s) (u : Upd (fun _ => False) w w') : SMem w' base sb X s := by
  obtain ⟨F, r, d, x⟩ := h
  exact ⟨F, r.keepAll u (fun _ _ _ h => h) (r.std.keep u), d, fun b hb => Nat.lt_of_lt_of_le (x b hb) u.size⟩
theorem SMem.std (h : SMem w base sb X s) : Std w := by obtain ⟨F, r, _⟩ := h; exact r.std
theorem SMem.also (h : SMem w base sb X s) (u : Upd (fun _ => False) w w') (hY : ∀ b, Y b → X b ∨ (w.heap.size ≤ b ∧ b < w'.heap.size)) : SMem w' base sb Y s := by
  obtain ⟨F, r, d, x⟩ := h
  refine ⟨F, r.keepAll u (fun _ _ _ h => h) (r.std.keep u), fun i b hb hy => ?_, fun b hb => ?_⟩
  · rcases hY b hy with g | g
    · exact d i b hb g
    · have := (r.lt i b hb).2; omega
  · rcases hY b hb with g | g
    · exact Nat.lt_of_lt_of_le (x b g) u.size
    · exact g.2
theorem SMem.less (h : SMem w base sb X s) (hY : ∀ b, Y b → X b) : SMem w base sb Y s := h.also (Upd.refl _ _) fun b hb => Or.inl (hY b hb)
/-- How the parts' calls are taken. -/
def PartTo (w : World) (base sb : Nat) (X : Nat → Prop) (w' : World) (s' : SV) : Prop := SMem w' base sb X s' ∧ Upd (Fr base X) w w'
theorem SRaw.mk' {F' : Nat → Nat → Prop} {s' : SV} {i : Nat} {G : Nat → Prop} (h : SRaw w base sb s F) (d : ∀ i b, F i b → ¬ X b) (x : ∀ b, X b → b < w.heap.size) (h' : SRaw w' base sb s' (partTo F i G)) (f : FromF (F i) G w) (u : Upd (F i) w w') : PartTo w base sb X w' s' := by
  refine ⟨⟨_, h', fun j b hb hx => ?_, fun b hb => Nat.lt_of_lt_of_le (x b hb) u.size⟩, u.weaken fun b _ hb => ⟨(h.lt i b hb).1, d i b hb⟩⟩
  by_cases ej : j = i
  · subst ej; rw [partTo_at] at hb
    rcases f b hb with g | g
    · exact d _ b g hx
    · have := x b hx; omega
  · rw [partTo_ne _ _ ej] at hb; exact d j b hb hx
theorem SMem.tab (h : SMem w base sb X s) : ∃ E, TabM w s.tb s.m s.n E ∧ ∀ w' m' n' E', TabM w' s.tb m' n' E' → Upd E w w' → FromF E E' w → PartTo w base sb X w' { s with m := m', n := n' } := by
  obtain ⟨F, r, d, x⟩ := h
  exact ⟨F 1, r.tab, fun w' m' n' E' t u f => r.mk' (F' := F) d x (r.tabTo t u f) f u⟩
theorem SMem.rcn (h : SMem w base sb X s) : ∃ E, RecRep w s.rb s.ks E ∧ ∀ w' ks' E', RecRep w' s.rb ks' E' → Upd E w w' → FromF E E' w → PartTo w base sb X w' { s with ks := ks' } := by
  obtain ⟨F, r, d, x⟩ := h
  exact ⟨F 4, r.rcn, fun w' ks' E' t u f => r.mk' (F' := F) d x (r.recTo t u f) f u⟩
theorem SMem.dues (h : SMem w base sb X s) : ∃ E, ExpAt w base s.xb s.l E ∧ ∀ w' l' E', ExpAt w' base s.xb l' E' → Upd E w w' → FromF E E' w → PartTo w base sb X w' { s with l := l' } := by
  obtain ⟨F, r, d, x⟩ := h
  exact ⟨F 5, r.dues, fun w' l' E' t u f => r.mk' (F' := F) d x (r.duesTo t u f) f u⟩
theorem SRaw.mk2 {s' : SV} {i : Nat} {v v' : Value} {w1 : World} (h : SRaw w base sb s F) (d : ∀ i b, F i b → ¬ X b) (x : ∀ b, X b → b < w.heap.size) (h' : SRaw w' base sb s' (partTo F i (fOf v'))) (hv : ∀ b, fOf v b → F i b) (nw : NewOr v v' w) (u : Upd (fOf v) w w1) (u2 : Upd (fun b => b = sb) w1 w') : PartTo w base sb X w' s' := by
  have hsz := Nat.le_trans u.size u2.size
  refine ⟨⟨_, h', fun j b hb hx => ?_, fun b hb => Nat.lt_of_lt_of_le (x b hb) hsz⟩, ?_⟩
  · by_cases ej : j = i
    · subst ej; rw [partTo_at] at hb
      rcases nw b hb with g | g
      · exact d _ b (hv b g) hx
      · have := x b hx; omega
    · rw [partTo_ne _ _ ej] at hb; exact d j b hb hx
  · exact (u.weaken (F := Fr base X) fun b _ hb => ⟨(h.lt i b (hv b hb)).1, d i b (hv b hb)⟩).trans u2 fun b hb e => by rw [e]; exact ⟨(h.lt 0 sb h.f0).1, d 0 sb h.f0⟩
theorem SMem.slotsTo (h : SMem w base sb X s) {v' : Value} {sl' : List SlV} {w1 : World} (t : OwnN slc 3 29 w1 base v' sl') (u : Upd (fOf s.slv) w w1) (nw : NewOr s.slv v' w)
    (u2 : Upd (fun b => b = sb) w1 w') (hB : Blk w' sb (storeC { s with slv := v', sl := sl' }) 45) : PartTo w base sb X w' { s with slv := v', sl := sl' } := by
  obtain ⟨F, r, d, x⟩ := h; exact r.mk2 d x (r.slotsTo t u nw u2 hB) r.f2 nw u u2
theorem SMem.freeTo (h : SMem w base sb X s) {v' : Value} {fr' : List Int} {w1 : World} (t : IntsAt w1 base v' fr') (u : Upd (fOf s.frv) w w1) (nw : NewOr s.frv v' w)
    (u2 : Upd (fun b => b = sb) w1 w') (hB : Blk w' sb (storeC { s with frv := v', fr := fr' }) 45) : PartTo w base sb X w' { s with frv := v', fr := fr' } := by
  obtain ⟨F, r, d, x⟩ := h; exact r.mk2 d x (r.freeTo t u nw u2 hB) r.f3 nw u u2
theorem SMem.evsTo (h : SMem w base sb X s) {v' : Value} {ev' : List Ev} {w1 : World} (t : OwnN evc 2 37 w1 base v' ev') (u : Upd (fOf s.evv) w w1) (nw : NewOr s.evv v' w)
    (u2 : Upd (fun b => b = sb) w1 w') (hB : Blk w' sb (storeC { s with evv := v', ev := ev' }) 45) : PartTo w base sb X w' { s with evv := v', ev := ev' } := by
  obtain ⟨F, r, d, x⟩ := h; exact r.mk2 d x (r.evsTo t u nw u2 hB) r.f6 nw u u2
/-- The events go; where they lay belongs to X now. -/
theorem SMem.evsOff (h : SMem w base sb X s) (u2 : Upd (fun b => b = sb) w w') (hB : Blk w' sb (storeC { s with evv := .slice none 0 0, ev := [] }) 45) (hY : ∀ b, Y b → X b ∨ fOf s.evv b) : SMem w' base sb Y { s with evv := .slice none 0 0, ev := [] } ∧ Upd (Fr base X) w w' := by
  obtain ⟨F, r, d, x⟩ := h
  have t : OwnN evc 2 37 w base (.slice none 0 0) ([] : List Ev) := OwnN.none
  have nw : NewOr s.evv (.slice none 0 0) w := fun b hb => by cases hb
  have r2 := r.evsTo t (Upd.refl _ _) nw u2 hB
  refine ⟨⟨_, r2, fun j b hb hy => ?_, fun b hb => ?_⟩, (r.mk2 d x r2 r.f6 nw (Upd.refl _ _) u2).2⟩
  · by_cases ej : j = 6
    · subst ej; rw [partTo_at] at hb; cases hb
    · rw [partTo_ne _ _ ej] at hb
      rcases hY b hy with g | g
      · exact d j b hb g
      · exact ej (r.uniq j 6 b hb (r.f6 b g))
  · rcases hY b hb with g | g
    · exact Nat.lt_of_lt_of_le (x b g) u2.size
    · exact Nat.lt_of_lt_of_le (r.lt 6 b (r.f6 b g)).2 u2.size
theorem SMem.slotSet (h : SMem w base sb X s) {sl' : List SlV} (t : OwnN slc 3 29 w' base s.slv sl') (u : Upd (fOf s.slv) w w') : PartTo w base sb X w' { s with sl := sl' } := by
  obtain ⟨F, r, d, x⟩ := h
  exact ⟨⟨F, r.slotSet t u, d, fun b hb => Nat.lt_of_lt_of_le (x b hb) u.size⟩, u.weaken fun b _ hb => ⟨(r.lt 2 b (r.f2 b hb)).1, d 2 b (r.f2 b hb)⟩⟩
theorem SMem.bytTo (h : SMem w base sb X s) {x : Int} (u : Upd (fun b => b = sb) w w') (hB : Blk w' sb (storeC { s with byt := x }) 45) : PartTo w base sb X w' { s with byt := x } := by
  obtain ⟨F, r, d, y⟩ := h
  exact ⟨⟨F, r.bytTo u hB, d, fun b hb => Nat.lt_of_lt_of_le (y b hb) u.size⟩, u.weaken fun b _ hb => by rw [hb]; exact ⟨(r.lt 0 sb r.f0).1, d 0 sb r.f0⟩⟩
theorem Fr.trans {X : Nat → Prop} {a b c : World} (h : Upd (Fr base X) a b) (k : Upd (Fr base X) b c) : Upd (Fr base X) a c := h.trans k fun _ _ h => h
theorem Fr.sub {X Y : Nat → Prop} {a b : World} (h : Upd (Fr base X) a b) (hY : ∀ k, k < a.heap.size → Y k → X k) : Upd (Fr base Y) a b := h.weaken fun k hk hf => ⟨hf.1, fun hy => hf.2 (hY k hk hy)⟩
theorem Fr.of0 {X : Nat → Prop} {a b : World} (h : Upd (fun _ => False) a b) : Upd (Fr base X) a b := h.weaken fun _ _ h => h.elim
end
end Go.Proofs.YtcdihffcncaibaaDoor
