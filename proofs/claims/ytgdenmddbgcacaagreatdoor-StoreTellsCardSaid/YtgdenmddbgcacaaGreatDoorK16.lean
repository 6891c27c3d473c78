/- Walks: whole numbers as text, and the document's answer. -/
import Derived.Test.YtgdenmddbgcacaaGreatDoorShelf
import Derived.Test.YtgdenmddbgcacaaGreatDoorK14
import Derived.Test.YtgdenmddbgcacaaGreatDoorK02
import Derived.Test.YtgdenmddbgcacaaGreatDoorK15
import Derived.Deep.RegionHeld3
import Derived.Deep.RegionLaw
import Derived.Deep.DeepCutAuto
set_option linter.unusedVariables false
set_option linter.unusedSimpArgs false
namespace Go.Proofs.YtgdenmddbgcacaaGreatDoor
open Go.RowKit Go.Sort Go.Proofs
open Whole (wparse refParse)

theorem upd_grow (w : World) (k : Nat) (os : Array Obj) : Upd (fun _ => False) w (grow (w.drewN k) os) :=
  ⟨rfl, rfl, rfl, by unfold grow; simp, fun i hi _ => by unfold grow; simp only; rw [Array.getElem?_append_left (show i < (w.drewN k).heap.size from hi)]; rfl⟩
theorem upd_fresh {w w' : World} (h : Below w.heap.size w w') : Upd (fun _ => False) w w' := (Upd.of_below h).weaken fun i hi h2 => by omega
theorem upd_bytes (w : World) (e : TypeId) (s : ByteArray) : Upd (fun _ => False) w (Lib.bytesWorld w e s) :=
  ⟨rfl, rfl, rfl, by simp [Lib.bytesWorld, World.freeze, World.alloc, World.drew, -World.alloc_eq, -World.drew_eq], fun i hi _ => Lib.bytesWorld_at_old w e s i hi⟩

def txt (n : Int) : ByteArray := ⟨(Lib.itoa n).toArray⟩
theorem txt_list (n : Int) : (txt n).data.toList = Lib.itoa n := rfl
theorem text_any (n : Int) (h0 : -9223372036854775808 ≤ n) (h1 : n ≤ 9223372036854775807) (w : World) (hs : Std w) :
    Calls Tryz.prog 101 #[.int .i64 n] w fun e w' => e = .returned (.string (txt n)) ∧ Upd (fun _ => False) w w' := by
  have F := Lib.hid (Tryz.strconv_FormatInt_10 n h0 h1 w hs.tab)
  clear hs h0 h1
  go_enter Tryz.func101, Tryz.ntmps101
  go_wp2_with fail
  refine F.out.mono ?_
  rintro e w' ⟨rfl, k, os, rfl⟩
  go_wp2
  go_ret
  exact ⟨rfl, upd_grow _ _ _⟩

theorem bytes_eq {a b : ByteArray} : (a.toList == b.toList) = decide (a.data.toList = b.data.toList) := by
  rw [ByteArray.toList_eq, ByteArray.toList_eq]
  rw [Bool.eq_iff_iff, beq_iff_eq, decide_eq_true_eq]
def pnum (s : ByteArray) : Int := (wparse s.data.toList).getD 0
def perr (s : ByteArray) : Int := if (wparse s.data.toList).isSome then 0 else 11

set_option maxHeartbeats 1000000 in
theorem parse_any (s : ByteArray) (hz : s.size ≤ 100000) (w : World) (hs : Std w) :
    Calls Tryz.prog 74 #[.string s] w fun e w' => e = .returned (.tuple #[.int .i64 (pnum s), .int .i64 (perr s)]) ∧ Upd (fun _ => False) w w' := by
  rcases hp : Lib.parseIntB 64 s.data.toList with v | _ | _
  case ok =>
    obtain ⟨v0, v1⟩ := Whole.parse_range hp
    have F := Lib.hid (Tryz.strconv_ParseInt_10_at64_ok s (by omega) v hp w)
    have HS := Lib.hid hs
    have HP := Lib.hid hp
    have hr : Hid (wparse s.data.toList = if Lib.itoa v = s.data.toList then some v else none) := by show wparse _ = _; unfold wparse; rw [hp]
    clear hs hp
    go_enter Tryz.func74, Tryz.ntmps74
    go_wp2_with fail
    refine F.out.mono ?_
    rintro e w1 ⟨rfl, hw⟩
    have U : Upd (fun _ => False) w w1 := by
      rcases hw with rfl | ⟨t, rfl⟩
      · exact Upd.refl _ _
      · exact upd_bytes _ _ _
    have T := Lib.hid (text_any v v0 v1 w1 (HS.out.keep U))
    have UU := Lib.hid U
    clear U hw F
    go_wp2_with fail
    refine T.out.mono ?_
    rintro e w2 ⟨rfl, u2⟩
    have U2 := Lib.hid (UU.out.trans u2 (fun _ _ h => h))
    clear u2 T UU
    by_cases hh : Lib.itoa v = s.data.toList
    · have hb : ((txt v).toList == s.toList) = true := by rw [bytes_eq, txt_list]; simp [hh]
      rw [if_pos hh] at hr
      go_wp2
      go_ret2
      refine ⟨?_, U2.out⟩
      unfold pnum perr; rw [hr.out]; rfl
    · have hb : ((txt v).toList == s.toList) = false := by rw [bytes_eq, txt_list]; simp [hh]
      rw [if_neg hh] at hr
      go_wp2
      go_ret2
      refine ⟨?_, U2.out⟩
      unfold pnum perr; rw [hr.out]; rfl
  rotate_left
  case range =>
    obtain ⟨te, pe, hv⟩ := hs.rng
    have F := Lib.hid (Tryz.strconv_ParseInt_10_at64_range_var s (by omega) hp te pe w hv)
    have hr : Hid (wparse s.data.toList = none) := by show wparse _ = _; unfold wparse; rw [hp]
    clear hs hp hv
    go_enter Tryz.func74, Tryz.ntmps74
    go_wp2_with fail
    refine F.out.mono ?_
    rintro e w1 ⟨N, rfl, _, _, hb⟩
    have U := Lib.hid (upd_fresh hb)
    clear hb F
    go_wp2
    go_ret2
    refine ⟨?_, U.out⟩
    unfold pnum perr; rw [hr.out]; rfl
  · obtain ⟨te, pe, hv⟩ := hs.syn
    have F := Lib.hid (Tryz.strconv_ParseInt_10_at64_syntax_var s (by omega) hp te pe w hv)
    have hr : Hid (wparse s.data.toList = none) := by show wparse _ = _; unfold wparse; rw [hp]
    clear hs hp hv
    go_enter Tryz.func74, Tryz.ntmps74
    go_wp2_with fail
    refine F.out.mono ?_
    rintro e w1 ⟨N, rfl, _, _, hb⟩
    have U := Lib.hid (upd_fresh hb)
    clear hb F
    go_wp2
    go_ret2
    refine ⟨?_, U.out⟩
    unfold pnum perr; rw [hr.out]; rfl
end Go.Proofs.YtgdenmddbgcacaaGreatDoor
/- Items: what they count. -/
set_option linter.unusedVariables false
set_option linter.unusedSimpArgs false
namespace Go.Proofs.YtgdenmddbgcacaaGreatDoor
open Go.RowKit

theorem perr_num (s : ByteArray) : perr s = if isNum s = true then 0 else 11 := rfl
set_option maxHeartbeats 4000000 in
set_option maxRecDepth 100000 in
theorem cost_any (key : ByteArray) (i : It) (v : Value) (w : World) (hs : Std w) (hv : RowOf fdc 2 w v i.flds) (hi : SmallI i) (hk : key.size ≤ 100000) :
    Calls Tryz.prog 48 #[.string key, itV i v] w fun e w' => e = .returned (.int .i64 (costI key i)) ∧ Upd (fun _ => False) w w' := by
  obtain ⟨kind, text, l⟩ := i
  obtain ⟨p, c, ev, hm⟩ := hv.len
  obtain ⟨h1, h2, h3⟩ := hi
  simp only at h1 h2 h3 ev hm hv
  subst ev
  show Calls _ _ #[.string key, .agg #[.int .i64 kind, .string text, .slice p l.length c]] _ _
  have HV := Lib.hid hv
  have HS := Lib.hid hs
  have FL := Lib.hid (fcost_le l h3)
  have H3 := Lib.hid h3
  have W0 : Hid (IntKind.i64.wrap (48 + (key.size : Int)) = 48 + (key.size : Int)) := i64w (by omega) (by omega)
  clear hv hs h3
  by_cases hk1 : kind = 1
  · subst hk1
    cases hn : isNum text with
    | true =>
      have CE : Hid (costI key ⟨1, text, l⟩ = 48 + (key.size : Int) + 8) := by show _ = _; unfold costI bodyI; simp [hn]
      have PE : perr text = 0 := by rw [perr_num, hn]; rfl
      have PA := Lib.hid (parse_any text h1 (w.alloc (.cells #[.int .i64 1, .string text, .slice p l.length c] 31)) (HS.out.keep ((Upd.refl _ _).alloc _)))
      rw [PE] at PA
      clear PE hn
      go_enter Tryz.func48, Tryz.ntmps48
      go_wp2_with fail
      refine (PA.out).mono ?_
      rintro e w1 ⟨rfl, u1⟩
      have U := Lib.hid (((Upd.refl (fun _ => False) w).alloc _).trans u1 (fun _ _ h => h))
      clear u1 PA
      go_wp2
      go_ret
      rw [CE.out]
      exact ⟨ret_int (by omega), U.out⟩
    | false =>
      have CE : Hid (costI key ⟨1, text, l⟩ = 48 + (key.size : Int) + (text.size : Int)) := by show _ = _; unfold costI bodyI; simp [hn]
      have PE : perr text = 11 := by rw [perr_num, hn]; rfl
      have PA := Lib.hid (parse_any text h1 (w.alloc (.cells #[.int .i64 1, .string text, .slice p l.length c] 31)) (HS.out.keep ((Upd.refl _ _).alloc _)))
      rw [PE] at PA
      clear PE hn
      have hB : Blk (w.alloc (.cells #[.int .i64 1, .string text, .slice p l.length c] 31)) w.heap.size [.int .i64 1, .string text, .slice p l.length c] 31 := Blk.made _ _ _
      go_enter Tryz.func48, Tryz.ntmps48
      go_wp2_with fail
      refine (PA.out).mono ?_
      rintro e w1 ⟨rfl, u1⟩
      have c1 : w1.cell? ⟨w.heap.size, 1, none⟩ = some (.string text) := (u1.blk hB (fun h => h)).cellAt (i := 1) rfl
      have U := Lib.hid (((Upd.refl (fun _ => False) w).alloc _).trans u1 (fun _ _ h => h))
      clear u1 PA hB
      go_wp2
      go_ret
      rw [CE.out]
      exact ⟨ret_int (by omega), U.out⟩
  · have CE : Hid (costI key ⟨kind, text, l⟩ = 48 + (key.size : Int) + fcost l) := by show _ = _; unfold costI bodyI; simp [hk1]
    have hk2 : (kind == 1) = false := by simp [hk1]
    have U0 : Hid (Upd (fun _ => False) w (w.alloc (.cells #[.int .i64 kind, .string text, .slice p l.length c] 31))) := (Upd.refl _ _).alloc _
    clear hk1 HS
    go_enter Tryz.func48, Tryz.ntmps48
    go_wp2
    go_loopw [5, 34] (fun n x wr => ∃ (k : Nat), k ≤ l.length ∧ x = .int .i64 (k : Int) ∧ n = .int .i64 (48 + (key.size : Int) + fcost (l.take k)) ∧ Hid (Upd (fun _ => False) w wr)) (fun _ x _ => l.length - (intOf x).toNat)
    case atStart => exact ⟨0, by omega, rfl, by simp [fcost], U0⟩
    case round =>
      clear U0
      obtain ⟨k, hkl, rfl, rfl, U⟩ := hrel
      by_cases hlt : k < l.length
      · obtain ⟨d, hd⟩ : ∃ d, l[k]? = some d := ⟨_, List.getElem?_eq_getElem hlt⟩
        obtain ⟨b, off, cap, ev, hb, c0, c1⟩ := fd_cells HV.out hd
        injection ev with ev1 _ ev3
        subst ev1 ev3
        have c0 := (U.out.cell (p := ⟨b, off + k * 2, none⟩) hb (fun h => h)).trans c0
        have c1 := (U.out.cell (p := ⟨b, off + k * 2 + 1, none⟩) hb (fun h => h)).trans c1
        have hq : (k : Int) < (l.length : Int) := by omega
        have T : Hid (fcost (l.take (k + 1)) = fcost (l.take k) + (16 + (d.1.size : Int) + (d.2.size : Int))) := by
          show _ = _
          rw [take_snocF hd, fcost_app]; simp [fcost]
        have B0 : Hid (0 ≤ fcost (l.take k)) := fcost_nonneg _
        have B1 : Hid (fcost (l.take (k + 1)) ≤ fcost l) := fcost_take_le _ _
        obtain ⟨z1, z2⟩ := H3.out d (List.mem_of_getElem? hd)
        obtain ⟨d1, d2⟩ := d
        simp only at c0 c1 T z1 z2
        clear hd
        generalize hx : fcost (l.take k) = x at *
        have TT := T.out
        have b0 := B0.out
        have b1 := B1.out
        have b2 := FL.out
        have x1 : x ≤ 200016000 := by omega
        have HH := Lib.hid (And.intro TT (And.intro b1 b2))
        clear TT b1 b2 hx B0 B1 T
        go_wp2
        go_roundw
        case rel => exact ⟨k + 1, by omega, by go_num, by rw [HH.out.1]; have := HH.out; congr 1; omega, U.out.alloc _⟩
        case measure => simp [intOf]; omega
      · obtain rfl : k = l.length := by omega
        rw [List.take_length]
        go_wp2
        go_ret
        rw [CE.out]
        exact ⟨rfl, U.out⟩
end Go.Proofs.YtgdenmddbgcacaaGreatDoor
/- Walks: the store tells, takes. -/
set_option linter.unusedVariables false
set_option linter.unusedSimpArgs false
set_option linter.unusedSectionVars false
namespace Go.Proofs.YtgdenmddbgcacaaGreatDoor
open Go.RowKit

theorem ev_info : (Tryz.prog.info? 63).map (fun i => (i.zero, i.size, i.bytes)) = some (some (.agg #[.int .i64 0, .string ByteArray.empty]), 2, 24) := by kernel_rfl
theorem it_info : (Tryz.prog.info? 31).map (fun i => (i.zero, i.size, i.bytes)) = some (some (.agg #[.int .i64 0, .string ByteArray.empty, .slice none 0 0]), 3, 48) := by kernel_rfl
theorem flat_oneS {α : Type} (g : α → Value) : ∀ l : List α, flat (fun a => [g a]) l = l.map g
  | [] => rfl
  | a :: l => by show [g a] ++ flat (fun a => [g a]) l = _; rw [flat_oneS g l]; rfl
def intcS (n : Int) : List Value := [.int .i64 n]
theorem IntsAt.ownS {w : World} {base : Nat} {v : Value} {l : List Int} : IntsAt w base v l ↔ OwnN intcS 1 3 w base v l := by
  unfold IntsAt OwnN intcS; rw [flat_oneS]
section
variable {w w' : World} {base sb : Nat} {s : SV} {X Y : Nat → Prop}
theorem SMem.lo (h : SMem w base sb X s) : base ≤ sb := by obtain ⟨F, r, _⟩ := h; exact (r.lt 0 sb r.f0).1
theorem SMem.nsb (h : SMem w base sb X s) {b : Nat} : (fOf s.slv b → b ≠ sb) ∧ (fOf s.frv b → b ≠ sb) ∧ (fOf s.evv b → b ≠ sb) := by
  obtain ⟨F, r, _⟩ := h
  exact ⟨fun g e => absurd (r.uniq 2 0 b (r.f2 b g) (e ▸ r.f0)) (by decide), fun g e => absurd (r.uniq 3 0 b (r.f3 b g) (e ▸ r.f0)) (by decide), fun g e => absurd (r.uniq 6 0 b (r.f6 b g) (e ▸ r.f0)) (by decide)⟩
theorem SMem.evs_app (h : SMem w base sb X s) (kind : Int) (key : ByteArray) (hl : s.ev.length ≤ 1000000) :
    ∃ p c w1, (Builtin.append_ #[42, 42] 42 #[s.evv, .slice (some ⟨w.heap.size, 0, none⟩) 1 1]).run Tryz.prog (w.alloc (.cells #[.int .i64 kind, .string key] 63)) = .ok (.slice p (s.ev.length + 1) c) w1 ∧ Blk w1 sb (storeC s) 44 ∧
      PartTo w base sb X (w1.setCell ⟨sb, 7, none⟩ (.slice p (s.ev.length + 1) c)) { s with evv := .slice p (s.ev.length + 1) c, ev := s.ev ++ [(kind, key)] } := by
  obtain ⟨i0, hi0, hz0, hz1, hz2⟩ := info_parts ev_info
  have u0 : Upd (fun _ => False) w (w.alloc (.cells #[.int .i64 kind, .string key] 63)) := (Upd.refl _ _).alloc _
  have m0 := h.keep0 u0
  obtain ⟨v', w1, a, b, c, d⟩ := OwnN.append (P := Tryz.prog) 42 42 i0 (.agg #[.int .i64 0, .string ByteArray.empty]) 24 Tryz.underlying42 hi0 hz0 hz1 hz2 rfl (by decide) (fun _ => rfl) (fun x _ => fun u hu => by simp [evc] at hu; rcases hu with rfl | rfl <;> rfl) m0.evs (RowOf.lit (f := evc) (k := 2) w (kind, key) [.int .i64 kind, .string key] 63 rfl rfl) (by unfold maxLen; simp; omega) (by simp; omega) m0.bl
  obtain ⟨p, k, e, _⟩ := b.slice
  rw [List.length_append, List.length_singleton] at e
  subst e
  have hB1 : Blk w1 sb (storeC s) 44 := c.blk m0.blk fun g => (m0.nsb).2.2 g rfl
  have hs := hB1.set 7 (.slice p (s.ev.length + 1) k)
  have P := m0.evsTo b c d ((Upd.refl (fun b => b = sb) w1).set (b := sb) (o := 7) (v := .slice p (s.ev.length + 1) k) (fun _ => rfl)) hs
  exact ⟨p, k, w1, a, hB1, P.1, Fr.trans (Fr.of0 u0) P.2⟩
end
set_option maxHeartbeats 4000000 in
set_option maxRecDepth 100000 in
theorem tell_any {w : World} {base sb : Nat} {s : SV} {X : Nat → Prop} (h : SMem w base sb X s) (kind : Int) (key : ByteArray) (hl : s.ev.length ≤ 1000000) :
    Calls Tryz.prog 53 #[.pointer (some ⟨sb, 0, none⟩), .int .i64 kind, .string key] w fun e w' => e = .returned (.tuple #[]) ∧ ∃ v, PartTo w base sb X w' { s with evv := v, ev := s.ev ++ [(kind, key)] } := by
  obtain ⟨p0, c0, e0, _⟩ := h.evs.slice
  obtain ⟨p, c, w1, hr1, hB1, P⟩ := h.evs_app kind key hl
  have d7 := h.blk.cellAt (i := 7) rfl
  have hsb := h.blk.lt
  have k7 := hB1.cellAt (i := 7) rfl
  have l1 := hB1.lt
  have f1 := hB1.free 7
  rw [e0] at hr1 d7 k7
  have PP := Lib.hid P
  clear P hB1 h
  generalize s.ev.length = n at *
  go_enter Tryz.func53, Tryz.ntmps53
  go_wp2_with (at_builtin; refine wpList_builtinN rfl _ _ 42 rfl _ _ rfl rfl hr1 ?_)
  go_wp2
  go_end0
  exact ⟨rfl, _, PP.out⟩
section
variable {w w' : World} {base sb : Nat} {s : SV} {X Y : Nat → Prop}
/-- A slot's cells. -/
theorem SMem.slot (h : SMem w base sb X s) {i : Nat} {x : SlV} (hx : s.sl[i]? = some x) : ∃ b c, s.slv = .slice (some ⟨b, 0, none⟩) s.sl.length c ∧ b < w.heap.size ∧ b ≠ sb ∧ w.cell? ⟨b, i * 3, none⟩ = some (.int .i64 x.1) ∧ w.cell? ⟨b, i * 3 + 1, none⟩ = some (.string x.2.1) ∧ w.cell? ⟨b, i * 3 + 2, none⟩ = some x.2.2 ∧ (∀ o, w.frozen? ⟨b, o, none⟩ = false) ∧ s.sl.length ≤ maxLen := by
  have o := h.slots
  rcases o.blk with ⟨_, e⟩ | ⟨b, cap, cs, e, hb, hB, h1, h2, h3⟩
  · rw [e] at hx; simp at hx
  · have o2 := o
    rw [e] at o2
    refine ⟨b, cap, e, hB.lt, (h.nsb (b := b)).1 (by unfold fOf; rw [e]; rfl), ?_, ?_, ?_, fun o => hB.free o, by omega⟩
    · have := o2.cell (fun _ => rfl) (i := i) (j := 0) (by omega) hx; simpa [slc] using this
    · have := o2.cell (fun _ => rfl) (i := i) (j := 1) (by omega) hx; simpa [slc] using this
    · have := o2.cell (fun _ => rfl) (i := i) (j := 2) (by omega) hx; simpa [slc] using this
/-- A slot is written. -/
theorem SMem.slotTo (h : SMem w base sb X s) {i : Nat} {x y : SlV} (hx : s.sl[i]? = some x) {b c : Nat} (e : s.slv = .slice (some ⟨b, 0, none⟩) s.sl.length c) :
    PartTo w base sb X (((w.setCell ⟨b, i * 3, none⟩ (.int .i64 y.1)).setCell ⟨b, i * 3 + 1, none⟩ (.string y.2.1)).setCell ⟨b, i * 3 + 2, none⟩ y.2.2) { s with sl := s.sl.set i y } := by
  have o := h.slots
  rw [e] at o
  have hil := (List.getElem?_eq_some_iff.1 hx).1
  have o1 := o.set (i := i) (j := 0) (a := x) (b := (y.1, x.2.1, x.2.2)) (x := .int .i64 y.1) (fun _ => rfl) (by omega) hx rfl
  have o2 := o1.set (i := i) (j := 1) (a := (y.1, x.2.1, x.2.2)) (b := (y.1, y.2.1, x.2.2)) (x := .string y.2.1) (fun _ => rfl) (by omega) (by rw [List.getElem?_set_self hil]) rfl
  have o3 := o2.set (i := i) (j := 2) (a := (y.1, y.2.1, x.2.2)) (b := y) (x := y.2.2) (fun _ => rfl) (by omega) (by rw [List.getElem?_set_self (by rw [List.length_set]; exact hil)]) rfl
  rw [List.set_set, List.set_set] at o3
  rw [← e] at o3
  have u : Upd (fOf s.slv) w (((w.setCell ⟨b, i * 3, none⟩ (.int .i64 y.1)).setCell ⟨b, i * 3 + 1, none⟩ (.string y.2.1)).setCell ⟨b, i * 3 + 2, none⟩ y.2.2) := by
    have hb : fOf s.slv b := by unfold fOf; rw [e]; rfl
    exact (((Upd.refl (fOf s.slv) w).set (b := b) (o := i * 3) (v := .int .i64 y.1) (fun _ => hb)).set (b := b) (o := i * 3 + 1) (v := .string y.2.1) (fun _ => hb)).set (b := b) (o := i * 3 + 2) (v := y.2.2) (fun _ => hb)
  exact h.slotSet (by simpa using o3) u
theorem SMem.free_app (h : SMem w base sb X s) (x : Int) (hl : s.fr.length ≤ 1000000) :
    ∃ p c w1, (Builtin.append_ #[39, 39] 39 #[s.frv, .slice (some ⟨w.heap.size, 0, none⟩) 1 1]).run Tryz.prog (w.alloc (.cells #[.int .i64 x] 3)) = .ok (.slice p (s.fr.length + 1) c) w1 ∧ Blk w1 sb (storeC s) 44 ∧
      PartTo w base sb X (w1.setCell ⟨sb, 2, none⟩ (.slice p (s.fr.length + 1) c)) { s with frv := .slice p (s.fr.length + 1) c, fr := s.fr ++ [x] } := by
  obtain ⟨i0, hi0, hz0, hz1, hz2⟩ := info_parts int_info
  have u0 : Upd (fun _ => False) w (w.alloc (.cells #[.int .i64 x] 3)) := (Upd.refl _ _).alloc _
  have m0 := h.keep0 u0
  obtain ⟨v', w1, a, b, c, d⟩ := OwnN.append (P := Tryz.prog) 39 39 i0 (.int .i64 0) 8 Tryz.underlying39 hi0 hz0 hz1 hz2 rfl (by decide) (fun _ => rfl) (fun _ _ => fun u hu => by simp [intcS] at hu; subst hu; rfl) (IntsAt.ownS.1 m0.free) (RowOf.lit (f := intcS) (k := 1) w x [.int .i64 x] 3 rfl rfl) (by unfold maxLen; simp; omega) (by simp; omega) m0.bl
  obtain ⟨p, k, e, _⟩ := b.slice
  rw [List.length_append, List.length_singleton] at e
  subst e
  have hB1 : Blk w1 sb (storeC s) 44 := c.blk m0.blk fun g => (m0.nsb).2.1 g rfl
  have hs := hB1.set 2 (.slice p (s.fr.length + 1) k)
  have P := m0.freeTo (IntsAt.ownS.2 b) c d ((Upd.refl (fun b => b = sb) w1).set (b := sb) (o := 2) (v := .slice p (s.fr.length + 1) k) (fun _ => rfl)) hs
  exact ⟨p, k, w1, a, hB1, P.1, Fr.trans (Fr.of0 u0) P.2⟩
theorem PartTo.trans {w1 w2 : World} {s1 s2 : SV} (h : PartTo w base sb X w1 s1) (k : PartTo w1 base sb X w2 s2) : PartTo w base sb X w2 s2 := ⟨k.1, Fr.trans h.2 k.2⟩
theorem PartTo.of0 (h : SMem w base sb X s) (u : Upd (fun _ => False) w w') : PartTo w base sb X w' s := ⟨h.keep0 u, Fr.of0 u⟩
theorem SMem.bytSet (h : SMem w base sb X s) (x : Int) : PartTo w base sb X (w.setCell ⟨sb, 5, none⟩ (.int .i64 x)) { s with byt := x } :=
  h.bytTo ((Upd.refl (fun b => b = sb) w).set (b := sb) (o := 5) (v := .int .i64 x) (fun _ => rfl)) (h.blk.set 5 (.int .i64 x))
end
end Go.Proofs.YtgdenmddbgcacaaGreatDoor
/- The document's store in memory; where a key stands; a cell goes. -/
set_option linter.unusedVariables false
set_option linter.unusedSimpArgs false
set_option linter.unusedSectionVars false
namespace Go.Proofs.YtgdenmddbgcacaaGreatDoor
open Go.RowKit

/-- A cell, its fields in v. -/
structure RCe where
  c : Ce
  v : Value
def rcs (t : RCe) : List Value := [.string t.c.key, .int .i64 t.c.item.kind, .string t.c.item.text, t.v, .int .i64 t.c.when]
theorem rcs_len (t : RCe) : (rcs t).length = 5 := rfl
abbrev CelAt (w : World) (base : Nat) (v : Value) (C : List RCe) : Prop := OwnN rcs 5 90 w base v C
def rfoot (wb : Nat) (vs ve : Value) : Nat → Prop := fun b => b = wb ∨ vs.ownBlock = some b ∨ ve.ownBlock = some b
/-- The document's store lies at wb. -/
structure RMem (w : World) (base wb : Nat) (vs ve : Value) (C : List RCe) (S : PS) : Prop where
  blk : Blk w wb [vs, .int .i64 S.budget, ve] 47
  cells : CelAt w base vs C
  evs : OwnN evc 2 63 w base ve S.events
  eq : C.map (·.c) = S.cells
  flds : ∀ t ∈ C, FldAt w (fun b => b < base) t.v t.c.item.flds
  lo : base ≤ wb
  bl : base ≤ w.heap.size
theorem Blk.tyR {w : World} {b : Nat} {cs cs' : List Value} {T T' : TypeId} (h : Blk w b cs T) (h' : Blk w b cs' T') : T = T' := by
  unfold Blk at h h'; rw [h] at h'; simp only [Option.some.injEq, Obj.cells.injEq] at h'; exact h'.2.1
section
variable {w w' : World} {base wb : Nat} {vs ve : Value} {C : List RCe} {S : PS} {key : ByteArray}
theorem RMem.fLt (h : RMem w base wb vs ve C S) {b : Nat} (hb : rfoot wb vs ve b) : base ≤ b ∧ b < w.heap.size := by
  rcases hb with rfl | g | g
  · exact ⟨h.lo, h.blk.lt⟩
  · exact ⟨(h.cells.lt g).1, (h.cells.lt g).2.1⟩
  · exact ⟨(h.evs.lt g).1, (h.evs.lt g).2.1⟩
theorem RMem.nes (h : RMem w base wb vs ve C S) {b : Nat} (hb : vs.ownBlock = some b) : b ≠ wb ∧ ve.ownBlock ≠ some b := by
  obtain ⟨_, _, cs, hs⟩ := h.cells.lt hb
  refine ⟨?_, fun g => ?_⟩
  · rintro rfl; exact absurd (h.blk.tyR hs) (by decide)
  · obtain ⟨_, _, cs2, hs2⟩ := h.evs.lt g; exact absurd (hs2.tyR hs) (by decide)
theorem RMem.nev (h : RMem w base wb vs ve C S) {b : Nat} (hb : ve.ownBlock = some b) : b ≠ wb := by
  obtain ⟨_, _, cs, hs⟩ := h.evs.lt hb
  rintro rfl; exact absurd (h.blk.tyR hs) (by decide)
theorem RMem.keep {F : Nat → Prop} (h : RMem w base wb vs ve C S) (u : Upd F w w') (hd : ∀ b, F b → base ≤ b ∧ ¬ rfoot wb vs ve b) : RMem w' base wb vs ve C S where
  blk := u.blk h.blk fun g => (hd _ g).2 (Or.inl rfl)
  cells := h.cells.keep u fun b hb g => (hd _ g).2 (Or.inr (Or.inl hb))
  evs := h.evs.keep u fun b hb g => (hd _ g).2 (Or.inr (Or.inr hb))
  eq := h.eq
  flds := fun t ht => (h.flds t ht).keep u fun b hb g => by have := (hd _ g).1; omega
  lo := h.lo
  bl := Nat.le_trans h.bl u.size
theorem RMem.keep0 (h : RMem w base wb vs ve C S) (u : Upd (fun _ => False) w w') : RMem w' base wb vs ve C S := h.keep u fun b g => g.elim
theorem RMem.len (h : RMem w base wb vs ve C S) : C.length = S.cells.length := by rw [← h.eq, List.length_map]
/-- Its cells are others, in another place; one cell of its own is written. -/
theorem RMem.cellsTo (h : RMem w base wb vs ve C S) {w1 : World} {v' : Value} {C' : List RCe} {cs : List Ce} (u : Upd (fun b => vs.ownBlock = some b) w w1) (o : CelAt w1 base v' C') (hc : C'.map (·.c) = cs)
    (hf : ∀ t ∈ C', FldAt w1 (fun b => b < base) t.v t.c.item.flds) : RMem (w1.setCell ⟨wb, 0, none⟩ v') base wb v' ve C' { S with cells := cs } := by
  have hB : Blk w1 wb [vs, .int .i64 S.budget, ve] 47 := u.blk h.blk fun g => (h.nes g).1 rfl
  have u2 : Upd (fun b => b = wb) w1 (w1.setCell ⟨wb, 0, none⟩ v') := (Upd.refl _ _).set fun _ => rfl
  refine ⟨hB.set 0 v', o.keep u2 (fun b hb e => ?_), (h.evs.keep u fun b hb g => (h.nes g).2 hb).keep u2 (fun b hb e => ?_), hc, fun t ht => (hf t ht).keep u2 (fun b hb e => ?_), h.lo, ?_⟩
  · subst e; obtain ⟨_, _, cs2, hs2⟩ := o.lt hb; exact absurd (hB.tyR hs2) (by decide)
  · exact h.nev hb e
  · have := h.lo; omega
  · exact Nat.le_trans h.bl (Nat.le_trans u.size u2.size)
theorem RMem.evsTo (h : RMem w base wb vs ve C S) {w1 : World} {v' : Value} {ev : List Ev} (u : Upd (fun b => ve.ownBlock = some b) w w1) (o : OwnN evc 2 63 w1 base v' ev) :
    RMem (w1.setCell ⟨wb, 2, none⟩ v') base wb vs v' C { S with events := ev } := by
  have hB : Blk w1 wb [vs, .int .i64 S.budget, ve] 47 := u.blk h.blk fun g => h.nev g rfl
  have u2 : Upd (fun b => b = wb) w1 (w1.setCell ⟨wb, 2, none⟩ v') := (Upd.refl _ _).set fun _ => rfl
  refine ⟨hB.set 2 v', (h.cells.keep u fun b hb g => (h.nes hb).2 g).keep u2 (fun b hb e => (h.nes hb).1 e), o.keep u2 (fun b hb e => ?_), h.eq, fun t ht => ((h.flds t ht).keep u (fun b hb g => ?_)).keep u2 (fun b hb e => ?_), h.lo, ?_⟩
  · subst e; obtain ⟨_, _, cs2, hs2⟩ := o.lt hb; exact absurd (hB.tyR hs2) (by decide)
  · have := (h.evs.lt g).1; omega
  · have := h.lo; omega
  · exact Nat.le_trans h.bl (Nat.le_trans u.size u2.size)
/-- Where a key stands. -/
def AtK (C : List RCe) (key : ByteArray) (r : Int) : Prop := (r = -1 ∧ ∀ t ∈ C, t.c.key ≠ key) ∨ ∃ k t, r = ((k : Nat) : Int) ∧ C[k]? = some t ∧ t.c.key = key
theorem take_snocR {α : Type} {l : List α} {k : Nat} {d : α} (h : l[k]? = some d) : l.take (k + 1) = l.take k ++ [d] := by
  obtain ⟨h1, e⟩ := List.getElem?_eq_some_iff.1 h
  rw [List.take_succ_eq_append_getElem h1, e]
theorem cel_cells {p : Option Addr} {c : Nat} (h : CelAt w base (.slice p C.length c) C) {k : Nat} (hk : k < C.length) :
    ∃ b t, p = some ⟨b, 0, none⟩ ∧ base ≤ b ∧ b < w.heap.size ∧ C[k]? = some t ∧ (∀ j, j < 5 → w.cell? ⟨b, k * 5 + j, none⟩ = (rcs t)[j]?) ∧ ∀ o, w.frozen? ⟨b, o, none⟩ = false := by
  rcases h.blk with ⟨_, e⟩ | ⟨b, cap, cs, e, hb, hB, _⟩
  · rw [e] at hk; simp at hk
  · injection e with e1 e2 e3
    subst e1 e3
    have hx : C[k]? = some C[k] := List.getElem?_eq_getElem hk
    exact ⟨b, C[k], rfl, hb, hB.lt, hx, fun j hj => h.cell (i := k) (j := j) (fun _ => rfl) hj hx, fun o => hB.free o⟩
end
set_option maxHeartbeats 4000000 in
set_option maxRecDepth 100000 in
theorem rfind_any {w : World} {base wb : Nat} {vs ve : Value} {C : List RCe} {S : PS} (h : RMem w base wb vs ve C S) (hl : C.length ≤ 100000) (key : ByteArray) :
    Calls Tryz.prog 83 #[.pointer (some ⟨wb, 0, none⟩), .string key] w fun e w' => ∃ r, e = .returned (.int .i64 r) ∧ AtK C key r ∧ Upd (fun _ => False) w w' := by
  obtain ⟨p, c, ev, hm, hle⟩ := h.cells.slice
  subst ev
  unfold maxLen at hm
  have H := Lib.hid h.cells
  have FD := Lib.hid h.flds
  obtain ⟨nl, hnl⟩ : ∃ nl, nl = C.length := ⟨_, rfl⟩
  have NL := Lib.hid hnl
  have x0 := h.blk.cellAt (i := 0) (v := .slice p C.length c) rfl
  have hwb := h.blk.lt
  rw [← hnl] at hl hm hle x0
  clear h hnl
  go_enter Tryz.func83, Tryz.ntmps83
  go_wp2
  go_loopw [12] (fun xi wr => ∃ (k : Nat), k ≤ nl ∧ xi = .int .i64 (k : Int) ∧ Hid (∀ t ∈ C.take k, t.c.key ≠ key) ∧ Hid (Upd (fun _ => False) w wr)) (fun xi _ => nl - (intOf xi).toNat)
  case atStart => exact ⟨0, by omega, rfl, Lib.hid (by simp), Lib.hid (Upd.refl _ _)⟩
  case round =>
    obtain ⟨k, hk, rfl, NO, U⟩ := hrel
    by_cases hlt : k < nl
    · have hwl := U.out.size
      have hkl : k < C.length := by rw [← NL.out]; exact hlt
      have q1 : (k : Int) < (nl : Int) := by omega
      obtain ⟨b, t, ep, hb, hbl, htk, hcs, _⟩ := cel_cells (H.out.keep0 U.out) hkl
      subst ep
      have c0 := hcs 0 (by omega)
      have c1 := hcs 1 (by omega)
      have c2 := hcs 2 (by omega)
      have c3 := hcs 3 (by omega)
      have c4 := hcs 4 (by omega)
      have TK := Lib.hid (take_snocR htk)
      have HT := Lib.hid htk
      obtain ⟨pv, cv, evv, _⟩ := (FD.out t (List.mem_of_getElem? htk)).1.len
      generalize t.c.item.flds.length = nv at evv
      clear hcs hkl htk
      obtain ⟨⟨ky, ⟨kd, tx, fl⟩, wn⟩, v⟩ := t
      simp only at evv
      subst evv
      simp only [rcs, List.getElem?_cons_zero, List.getElem?_cons_succ, Nat.add_zero] at c0 c1 c2 c3 c4
      by_cases he : ky = key
      · have q2 : (ky.toList == key.toList) = true := by rw [he]; simp
        have R : Hid (AtK C key (k : Int)) := Or.inr ⟨k, _, rfl, HT.out, he⟩
        clear he
        go_wp2
        go_ret
        exact ⟨_, rfl, R.out, U.out.alloc _⟩
      · have q2 : (ky.toList == key.toList) = false := by
          cases hq : (ky.toList == key.toList) with
          | false => rfl
          | true => exact absurd (toList_eq hq) he
        have NO2 : Hid (∀ t ∈ C.take (k + 1), t.c.key ≠ key) := fun t ht => by
          rw [TK.out] at ht
          rcases List.mem_append.1 ht with h | h
          · exact NO.out t h
          · rw [List.mem_singleton.1 h]; exact he
        clear he
        go_wp2
        go_roundw
        case rel => exact ⟨k + 1, by omega, by simp, NO2, Lib.hid (U.out.alloc _)⟩
        case measure => simp [intOf]; omega
    · have q1 : ¬ (k : Int) < (nl : Int) := by omega
      have R : Hid (AtK C key (-1)) := Or.inl ⟨rfl, fun t ht => NO.out t (by rw [List.take_of_length_le (by rw [← NL.out]; omega)]; exact ht)⟩
      go_wp2
      go_ret
      exact ⟨_, rfl, R.out, U.out⟩
end Go.Proofs.YtgdenmddbgcacaaGreatDoor
/- The document's store: a cell goes. -/
set_option linter.unusedVariables false
set_option linter.unusedSimpArgs false
set_option linter.unusedSectionVars false
namespace Go.Proofs.YtgdenmddbgcacaaGreatDoor
open Go.RowKit

theorem cel_info : (Tryz.prog.info? 90).map (fun i => (i.zero, i.size, i.bytes)) = some (some (.agg #[.string ByteArray.empty, .int .i64 0, .string ByteArray.empty, .slice none 0 0, .int .i64 0]), 5, 72) := by kernel_rfl
theorem cel_one {w : World} {Y : Nat → Prop} {t : RCe} (h : FldAt w Y t.v t.c.item.flds) : ∀ u ∈ rcs t, u.oneCell' = true := by
  obtain ⟨p, c, e, _⟩ := h.1.len
  intro u hu
  simp only [rcs, List.mem_cons, List.not_mem_nil, or_false] at hu
  rcases hu with rfl | rfl | rfl | rfl | rfl
  · rfl
  · rfl
  · rfl
  · rw [e]; rfl
  · rfl
section
variable {w w' : World} {base wb : Nat} {vs ve : Value} {C : List RCe} {S : PS} {key : ByteArray}
/-- Rows of cells, one behind another. -/
theorem cel_app (h : CelAt w base vs C) {v2 : Value} {C2 : List RCe} (h2 : RowOf rcs 5 w v2 C2) (ho : ∀ t ∈ C2, ∀ u ∈ rcs t, u.oneCell' = true) (hl : C.length + C2.length ≤ 1000000) (hb : base ≤ w.heap.size) :
    ∃ v' w', (Builtin.append_ #[45, 45] 45 #[vs, v2]).run Tryz.prog w = .ok v' w' ∧ CelAt w' base v' (C ++ C2) ∧ Upd (fun b => vs.ownBlock = some b) w w' ∧ NewOr vs v' w := by
  obtain ⟨i0, hi0, hz0, hz1, hz2⟩ := info_parts cel_info
  exact OwnN.append (P := Tryz.prog) 45 45 i0 _ 72 Tryz.underlying45 hi0 hz0 hz1 hz2 rfl (by decide) (fun _ => rfl) ho h h2 (by unfold maxLen; omega) (by omega) hb
theorem addr_addR (g o j : Nat) : (⟨g, o, none⟩ : Addr).add j = ⟨g, o + j, none⟩ := Addr.add_lit ..
/-- The rest of a row of cells. -/
def celV (g na cc a : Nat) : Value := .slice (if cc = a then some ⟨g, 0, none⟩ else some ⟨g, a * 5, none⟩) (na - a) (cc - a)
theorem cel_rest {g na cc a : Nat} (h1 : a ≤ na) {T : List RCe} (h : CelAt w base (.slice (some ⟨g, 0, none⟩) na cc) T) : RowOf rcs 5 w (celV g na cc a) (T.drop a) := by
  rcases h.blk with ⟨e, _⟩ | ⟨g', cap, cs, ev, hg, hB, hc, hm, hle⟩
  · cases e
  simp only [Value.slice.injEq] at ev
  obtain ⟨ev1, hnl, rfl⟩ := ev
  unfold celV
  split
  · rename_i hcc
    have h0 : T.drop a = [] := List.drop_eq_nil_of_le (by omega)
    rw [h0]
    exact Or.inl ⟨_, _, by rw [show na - a = 0 by omega], rfl⟩
  · refine Or.inr ⟨g, a * 5, cc - a, by simp [hnl], by injection ev1 with e; injection e with e; rw [e]; exact hB.lt, by simp; omega, fun i t hi j hj => ?_⟩
    rw [List.getElem?_drop] at hi
    have := h.cell (i := a + i) (j := j) (fun _ => rfl) hj hi
    rw [← this]; congr 1; rw [Addr.mk.injEq]; refine ⟨rfl, ?_, rfl⟩; rw [Nat.add_mul]; omega
set_option maxRecDepth 100000 in
theorem cel_head (g na cc a : Nat) (h1 : a ≤ cc) (w : World) : (Instr.slice 45 (.slice (some ⟨g, 0, none⟩) na cc) none (some (.int .i64 (a : Int))) none).run Tryz.prog w = .ok (.slice (some ⟨g, 0, none⟩) a cc) w := by
  have hE : Tryz.prog.elem 45 = 90 := by simp [Program.elem, Tryz.underlying45]
  rw [run_slice_h (P := Tryz.prog) w 45 _ na cc (by rw [hE]; exact Tryz.underlying45) .i64 (a : Int) (by omega) (by omega), hE, Tryz.sizeOf90]
  simp only [Result.andThen, sliced, Int.toNat_natCast, Nat.sub_zero]
  congr 2
  split
  · rfl
  · simp [Addr.add]
theorem cel_take {p : Option Addr} {c : Nat} (h : CelAt w base (.slice p C.length c) C) (a : Nat) (ha : a < C.length) : RowOf rcs 5 w (.slice p a c) (C.take a) := by
  rcases h.row (fun _ => rfl) with ⟨p', c', e1, e2⟩ | ⟨b, off, cap, e1, hb, hm, hc⟩
  · rw [e2] at ha; simp at ha
  · simp only [Value.slice.injEq] at e1
    obtain ⟨rfl, _, rfl⟩ := e1
    refine Or.inr ⟨b, off, c, by rw [List.length_take]; simp; omega, hb, by rw [List.length_take]; omega, fun i t hi j hj => ?_⟩
    rw [List.getElem?_take] at hi
    split at hi
    · exact hc i t hi j hj
    · cases hi
/-- A cell cut out, in a row of its own. -/
theorem cel_cut {g c : Nat} (h : CelAt w base (.slice (some ⟨g, 0, none⟩) C.length c) C) (hf : ∀ t ∈ C, FldAt w (fun b => b < base) t.v t.c.item.flds) {k : Nat} (hk : k < C.length) (hl : C.length ≤ 100000) (hb : base ≤ w.heap.size) :
    ∃ p2 n2 c2 w2 p3 n3 c3 w3,
      (Builtin.append_ #[45, 45] 45 #[.slice (some ⟨w.heap.size, 0, none⟩) 0 0, .slice (some ⟨g, 0, none⟩) k c]).run Tryz.prog (w.alloc (.cells #[] 90)) = .ok (.slice p2 n2 c2) w2 ∧
      (Builtin.append_ #[45, 45] 45 #[.slice p2 n2 c2, celV g C.length c (k + 1)]).run Tryz.prog w2 = .ok (.slice p3 n3 c3) w3 ∧ CelAt w3 base (.slice p3 n3 c3) (C.eraseIdx k) ∧ Upd (fun _ => False) w w2 ∧ Upd (fun _ => False) w w3 ∧ (∀ b, (Value.slice p3 n3 c3).ownBlock = some b → w.heap.size ≤ b) := by
  have ho : ∀ t ∈ C, ∀ u ∈ rcs t, u.oneCell' = true := fun t ht => cel_one (hf t ht)
  have u1 : Upd (fun _ => False) w (w.alloc (.cells #[] 90)) := (Upd.refl _ _).alloc _
  have o1 := OwnN.made (f := rcs) (k := 5) w 90
  obtain ⟨v2, w2, hr2, o2, u2, n2⟩ := cel_app o1 (cel_take (h.keep0 u1) k hk) (fun t ht => ho t (List.mem_of_mem_take ht)) (by simp; omega) u1.size
  rw [List.nil_append] at o2
  have uw2 : Upd (fun _ => False) w w2 := u1.trans u2 (fun i hi e => by simp only [Value.ownBlock, Option.some.injEq] at e; omega)
  obtain ⟨p2, c2, e2, _⟩ := o2.slice
  obtain ⟨v3, w3, hr3, o3, u3, n3⟩ := cel_app o2 (cel_rest (a := k + 1) (by omega) (h.keep0 uw2)) (fun t ht => ho t (List.mem_of_mem_drop ht)) (by simp; omega) uw2.size
  have uw3 : Upd (fun _ => False) w w3 := uw2.trans u3 (fun i hi e => by have := (o2.lt e).1; omega)
  obtain ⟨p3, c3, e3, _⟩ := o3.slice
  rw [← List.eraseIdx_eq_take_drop_succ] at o3 e3
  refine ⟨_, _, _, w2, _, _, _, w3, e2 ▸ hr2, ?_, (e3 ▸ o3).mono hb, uw2, uw3, fun b hb2 => ?_⟩
  · rw [e2] at hr3; rw [hr3, e3]
  · rw [e3] at o3; exact (o3.lt hb2).1
end
end Go.Proofs.YtgdenmddbgcacaaGreatDoor
/- The document's store: walks of without, gone, due. -/
set_option linter.unusedVariables false
set_option linter.unusedSimpArgs false
set_option linter.unusedSectionVars false
namespace Go.Proofs.YtgdenmddbgcacaaGreatDoor
open Go.RowKit

theorem map_erase {α β : Type} (f : α → β) : ∀ (l : List α) (k : Nat), (l.eraseIdx k).map f = (l.map f).eraseIdx k
  | [], k => rfl
  | a :: l, 0 => rfl
  | a :: l, k + 1 => by simp only [List.eraseIdx_cons_succ, List.map_cons, map_erase f l k]
set_option maxHeartbeats 4000000 in
set_option maxRecDepth 100000 in
theorem rwithout_any {w : World} {base wb : Nat} {vs ve : Value} {C : List RCe} {S : PS} (h : RMem w base wb vs ve C S) (hl : C.length ≤ 100000) {k : Nat} (hk : k < C.length) :
    Calls Tryz.prog 58 #[.pointer (some ⟨wb, 0, none⟩), .int .i64 (k : Int)] w fun e w' => e = .returned (.tuple #[]) ∧ ∃ vs', RMem w' base wb vs' ve (C.eraseIdx k) { S with cells := S.cells.eraseIdx k } ∧ Upd (fun b => b = wb) w w' ∧ ∀ b, vs'.ownBlock = some b → w.heap.size ≤ b := by
  obtain ⟨p, c, ev, hm, hle⟩ := h.cells.slice
  unfold maxLen at hm
  obtain ⟨g, eg⟩ : ∃ g, p = some ⟨g, 0, none⟩ := by
    obtain ⟨b, _, ep, _⟩ := cel_cells (ev ▸ h.cells) hk
    exact ⟨b, ep⟩
  subst eg ev
  have h0 : RMem w.drew base wb _ ve C S := h.keep0 (Upd.refl _ _).drew
  obtain ⟨p2, n2, c2, w2, p3, n3, c3, w3, hr2, hr3, o3, u2, u3, f3⟩ := cel_cut h0.cells h0.flds hk hl h0.bl
  have HD := cel_head g C.length c k (by omega)
  have B2 := u2.blk h0.blk (fun h => h)
  have B3 := u3.blk h0.blk (fun h => h)
  have R3 : RMem (w3.setCell ⟨wb, 0, none⟩ (.slice p3 n3 c3)) base wb (.slice p3 n3 c3) ve (C.eraseIdx k) { S with cells := S.cells.eraseIdx k } :=
    h0.cellsTo (u3.weaken fun _ _ h => h.elim) o3 (by rw [← h.eq, map_erase]) (fun t ht => (h0.flds t (List.mem_of_mem_eraseIdx ht)).keep u3 (fun _ _ h => h))
  have UF : Upd (fun b => b = wb) w (w3.setCell ⟨wb, 0, none⟩ (.slice p3 n3 c3)) := (((Upd.refl _ _).drew).trans (u3.weaken (F := fun b => b = wb) fun _ _ h => h.elim) (fun _ _ h => h)).set (fun _ => rfl)
  have x0 := h.blk.cellAt (i := 0) rfl
  have y0 := B2.cellAt (i := 0) rfl
  have z0 := B3.cellAt (i := 0) rfl
  have hwb := h.blk.lt
  have lb2 := B2.lt
  have lb3 := B3.lt
  have f3b := B3.free 0
  have FIN := Lib.hid (And.intro R3 (And.intro UF f3))
  have q1 : 0 ≤ (k : Int) + 1 ∧ (k : Int) + 1 ≤ (C.length : Int) := by omega
  have hw1 : IntKind.i64.wrap ((k : Int) + 1) = (k : Int) + 1 := i64w (by omega) (by omega)
  unfold celV at hr3
  have hr2 : (Builtin.append_ #[45, 45] 45 #[.slice (some ⟨w.heap.size, 0, none⟩) 0 0, .slice (some ⟨g, 0, none⟩) k c]).run Tryz.prog (w.alloc (.cells #[] 90)).drew = .ok (.slice p2 n2 c2) w2 := hr2
  generalize C.length = nl at *
  clear h h0 o3 u2 u3 f3 R3 UF B2 B3
  go_enter Tryz.func58, Tryz.ntmps58
  go_wp2
  go_region_law (first | (refine step_builtinN rfl (.tmp 5) (.tmp 11) 45 rfl _ _ rfl rfl hr2 ?_) | (refine step_builtinN rfl (.tmp 12) (.tmp 19) 45 rfl _ _ rfl rfl hr3 ?_))
  all_goals generalize (if c = k + 1 then some (⟨g, 0, none⟩ : Addr) else some ⟨g, (k + 1) * 5, none⟩) = pv
  all_goals try go_wp2
  all_goals go_end0
  all_goals exact ⟨rfl, _, FIN.out⟩
end Go.Proofs.YtgdenmddbgcacaaGreatDoor
