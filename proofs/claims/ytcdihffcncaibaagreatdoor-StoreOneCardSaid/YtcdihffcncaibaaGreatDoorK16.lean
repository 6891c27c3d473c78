/- Walks: whole numbers as text, and the document's answer. -/
import Derived.Test.YtcdihffcncaibaaGreatDoorShelf
import Derived.Test.YtcdihffcncaibaaGreatDoorK14
import Derived.Test.YtcdihffcncaibaaGreatDoorK02
import Derived.Test.YtcdihffcncaibaaGreatDoorK15
import Derived.Deep.RegionHeld3
import Derived.Deep.DeepCutAuto
set_option linter.unusedVariables false
set_option linter.unusedSimpArgs false
namespace Go.Proofs.YtcdihffcncaibaaGreatDoor
open Go.RowKit Go.Sort Go.Proofs
open Whole (wparse refParse)

theorem upd_grow (w : World) (k : Nat) (os : Array Obj) : Upd (fun _ => False) w (grow (w.drewN k) os) :=
  ⟨rfl, rfl, rfl, by unfold grow; simp, fun i hi _ => by unfold grow; simp only; rw [Array.getElem?_append_left (show i < (w.drewN k).heap.size from hi)]; rfl⟩
theorem upd_fresh {w w' : World} (h : Below w.heap.size w w') : Upd (fun _ => False) w w' := (Upd.of_below h).weaken fun i hi h2 => by omega
theorem upd_bytes (w : World) (e : TypeId) (s : ByteArray) : Upd (fun _ => False) w (Lib.bytesWorld w e s) :=
  ⟨rfl, rfl, rfl, by simp [Lib.bytesWorld, World.freeze, World.alloc, World.drew, -World.alloc_eq, -World.drew_eq], fun i hi _ => Lib.bytesWorld_at_old w e s i hi⟩

def txt (n : Int) : ByteArray := ⟨(Lib.itoa n).toArray⟩
theorem txt_list (n : Int) : (txt n).data.toList = Lib.itoa n := rfl
theorem text_any (n : Int) (h0 : -9223372036854775808 ≤ n) (h1 : n ≤ 9223372036854775807) (w : World) (hs : Std w) :
    Calls Tryz.prog 92 #[.int .i64 n] w fun e w' => e = .returned (.string (txt n)) ∧ Upd (fun _ => False) w w' := by
  have F := Lib.hid (Tryz.strconv_FormatInt_10 n h0 h1 w hs.tab)
  clear hs h0 h1
  go_enter Tryz.func92, Tryz.ntmps92
  go_wp2_with fail
  refine F.out.mono ?_
  rintro e w' ⟨rfl, k, os, rfl⟩
  go_wp2
  go_ret
  exact ⟨rfl, upd_grow _ _ _⟩

theorem bytes_eq {a b : ByteArray} : (a.toList == b.toList) = decide (a.data.toList = b.data.toList) := by
  rw [ByteArray.toList_eq, ByteArray.toList_eq]
  rw [Bool.eq_iff_iff, beq_iff_eq, decide_eq_true_eq]
def pnum (s : ByteArray) : Int := (wparse s.data.toList).getD 0
def perr (s : ByteArray) : Int := if (wparse s.data.toList).isSome then 0 else 11

set_option maxHeartbeats 1000000 in
theorem parse_any (s : ByteArray) (hz : s.size ≤ 100000) (w : World) (hs : Std w) :
    Calls Tryz.prog 67 #[.string s] w fun e w' => e = .returned (.tuple #[.int .i64 (pnum s), .int .i64 (perr s)]) ∧ Upd (fun _ => False) w w' := by
  rcases hp : Lib.parseIntB 64 s.data.toList with v | _ | _
  case ok =>
    obtain ⟨v0, v1⟩ := Whole.parse_range hp
    have F := Lib.hid (Tryz.strconv_ParseInt_10_at64_ok s (by omega) v hp w)
    have HS := Lib.hid hs
    have HP := Lib.hid hp
    have hr : Hid (wparse s.data.toList = if Lib.itoa v = s.data.toList then some v else none) := by show wparse _ = _; unfold wparse; rw [hp]
    clear hs hp
    go_enter Tryz.func67, Tryz.ntmps67
    go_wp2_with fail
    refine F.out.mono ?_
    rintro e w1 ⟨rfl, hw⟩
    have U : Upd (fun _ => False) w w1 := by
      rcases hw with rfl | ⟨t, rfl⟩
      · exact Upd.refl _ _
      · exact upd_bytes _ _ _
    have T := Lib.hid (text_any v v0 v1 w1 (HS.out.keep U))
    have UU := Lib.hid U
    clear U hw F
    go_wp2_with fail
    refine T.out.mono ?_
    rintro e w2 ⟨rfl, u2⟩
    have U2 := Lib.hid (UU.out.trans u2 (fun _ _ h => h))
    clear u2 T UU
    by_cases hh : Lib.itoa v = s.data.toList
    · have hb : ((txt v).toList == s.toList) = true := by rw [bytes_eq, txt_list]; simp [hh]
      rw [if_pos hh] at hr
      go_wp2
      go_ret2
      refine ⟨?_, U2.out⟩
      unfold pnum perr; rw [hr.out]; rfl
    · have hb : ((txt v).toList == s.toList) = false := by rw [bytes_eq, txt_list]; simp [hh]
      rw [if_neg hh] at hr
      go_wp2
      go_ret2
      refine ⟨?_, U2.out⟩
      unfold pnum perr; rw [hr.out]; rfl
  rotate_left
  case range =>
    obtain ⟨te, pe, hv⟩ := hs.rng
    have F := Lib.hid (Tryz.strconv_ParseInt_10_at64_range_var s (by omega) hp te pe w hv)
    have hr : Hid (wparse s.data.toList = none) := by show wparse _ = _; unfold wparse; rw [hp]
    clear hs hp hv
    go_enter Tryz.func67, Tryz.ntmps67
    go_wp2_with fail
    refine F.out.mono ?_
    rintro e w1 ⟨N, rfl, _, _, hb⟩
    have U := Lib.hid (upd_fresh hb)
    clear hb F
    go_wp2
    go_ret2
    refine ⟨?_, U.out⟩
    unfold pnum perr; rw [hr.out]; rfl
  · obtain ⟨te, pe, hv⟩ := hs.syn
    have F := Lib.hid (Tryz.strconv_ParseInt_10_at64_syntax_var s (by omega) hp te pe w hv)
    have hr : Hid (wparse s.data.toList = none) := by show wparse _ = _; unfold wparse; rw [hp]
    clear hs hp hv
    go_enter Tryz.func67, Tryz.ntmps67
    go_wp2_with fail
    refine F.out.mono ?_
    rintro e w1 ⟨N, rfl, _, _, hb⟩
    have U := Lib.hid (upd_fresh hb)
    clear hb F
    go_wp2
    go_ret2
    refine ⟨?_, U.out⟩
    unfold pnum perr; rw [hr.out]; rfl
end Go.Proofs.YtcdihffcncaibaaGreatDoor
/- Items: what they count. -/
set_option linter.unusedVariables false
set_option linter.unusedSimpArgs false
namespace Go.Proofs.YtcdihffcncaibaaGreatDoor
open Go.RowKit

theorem perr_num (s : ByteArray) : perr s = if isNum s = true then 0 else 11 := rfl
set_option maxHeartbeats 4000000 in
set_option maxRecDepth 100000 in
theorem cost_any (key : ByteArray) (i : It) (v : Value) (w : World) (hs : Std w) (hv : RowOf fdc 2 w v i.flds) (hi : SmallI i) (hk : key.size ≤ 100000) :
    Calls Tryz.prog 37 #[.string key, itV i v] w fun e w' => e = .returned (.int .i64 (costI key i)) ∧ Upd (fun _ => False) w w' := by
  obtain ⟨kind, text, l⟩ := i
  obtain ⟨p, c, ev, hm⟩ := hv.len
  obtain ⟨h1, h2, h3⟩ := hi
  simp only at h1 h2 h3 ev hm hv
  subst ev
  show Calls _ _ #[.string key, .agg #[.int .i64 kind, .string text, .slice p l.length c]] _ _
  have HV := Lib.hid hv
  have HS := Lib.hid hs
  have FL := Lib.hid (fcost_le l h3)
  have H3 := Lib.hid h3
  have W0 : Hid (IntKind.i64.wrap (48 + (key.size : Int)) = 48 + (key.size : Int)) := i64w (by omega) (by omega)
  clear hv hs h3
  by_cases hk1 : kind = 1
  · subst hk1
    cases hn : isNum text with
    | true =>
      have CE : Hid (costI key ⟨1, text, l⟩ = 48 + (key.size : Int) + 8) := by show _ = _; unfold costI bodyI; simp [hn]
      have PE : perr text = 0 := by rw [perr_num, hn]; rfl
      have PA := Lib.hid (parse_any text h1 (w.alloc (.cells #[.int .i64 1, .string text, .slice p l.length c] 24)) (HS.out.keep ((Upd.refl _ _).alloc _)))
      rw [PE] at PA
      clear PE hn
      go_enter Tryz.func37, Tryz.ntmps37
      go_wp2_with fail
      refine (PA.out).mono ?_
      rintro e w1 ⟨rfl, u1⟩
      have U := Lib.hid (((Upd.refl (fun _ => False) w).alloc _).trans u1 (fun _ _ h => h))
      clear u1 PA
      go_wp2
      go_ret
      rw [CE.out]
      exact ⟨ret_int (by omega), U.out⟩
    | false =>
      have CE : Hid (costI key ⟨1, text, l⟩ = 48 + (key.size : Int) + (text.size : Int)) := by show _ = _; unfold costI bodyI; simp [hn]
      have PE : perr text = 11 := by rw [perr_num, hn]; rfl
      have PA := Lib.hid (parse_any text h1 (w.alloc (.cells #[.int .i64 1, .string text, .slice p l.length c] 24)) (HS.out.keep ((Upd.refl _ _).alloc _)))
      rw [PE] at PA
      clear PE hn
      have hB : Blk (w.alloc (.cells #[.int .i64 1, .string text, .slice p l.length c] 24)) w.heap.size [.int .i64 1, .string text, .slice p l.length c] 24 := Blk.made _ _ _
      go_enter Tryz.func37, Tryz.ntmps37
      go_wp2_with fail
      refine (PA.out).mono ?_
      rintro e w1 ⟨rfl, u1⟩
      have c1 : w1.cell? ⟨w.heap.size, 1, none⟩ = some (.string text) := (u1.blk hB (fun h => h)).cellAt (i := 1) rfl
      have U := Lib.hid (((Upd.refl (fun _ => False) w).alloc _).trans u1 (fun _ _ h => h))
      clear u1 PA hB
      go_wp2
      go_ret
      rw [CE.out]
      exact ⟨ret_int (by omega), U.out⟩
  · have CE : Hid (costI key ⟨kind, text, l⟩ = 48 + (key.size : Int) + fcost l) := by show _ = _; unfold costI bodyI; simp [hk1]
    have hk2 : (kind == 1) = false := by simp [hk1]
    have U0 : Hid (Upd (fun _ => False) w (w.alloc (.cells #[.int .i64 kind, .string text, .slice p l.length c] 24))) := (Upd.refl _ _).alloc _
    clear hk1 HS
    go_enter Tryz.func37, Tryz.ntmps37
    go_wp2
    go_loopw [5, 34] (fun n x wr => ∃ (k : Nat), k ≤ l.length ∧ x = .int .i64 (k : Int) ∧ n = .int .i64 (48 + (key.size : Int) + fcost (l.take k)) ∧ Hid (Upd (fun _ => False) w wr)) (fun _ x _ => l.length - (intOf x).toNat)
    case atStart => exact ⟨0, by omega, rfl, by simp [fcost], U0⟩
    case round =>
      clear U0
      obtain ⟨k, hkl, rfl, rfl, U⟩ := hrel
      by_cases hlt : k < l.length
      · obtain ⟨d, hd⟩ : ∃ d, l[k]? = some d := ⟨_, List.getElem?_eq_getElem hlt⟩
        obtain ⟨b, off, cap, ev, hb, c0, c1⟩ := fd_cells HV.out hd
        injection ev with ev1 _ ev3
        subst ev1 ev3
        have c0 := (U.out.cell (p := ⟨b, off + k * 2, none⟩) hb (fun h => h)).trans c0
        have c1 := (U.out.cell (p := ⟨b, off + k * 2 + 1, none⟩) hb (fun h => h)).trans c1
        have hq : (k : Int) < (l.length : Int) := by omega
        have T : Hid (fcost (l.take (k + 1)) = fcost (l.take k) + (16 + (d.1.size : Int) + (d.2.size : Int))) := by
          show _ = _
          rw [take_snocF hd, fcost_app]; simp [fcost]
        have B0 : Hid (0 ≤ fcost (l.take k)) := fcost_nonneg _
        have B1 : Hid (fcost (l.take (k + 1)) ≤ fcost l) := fcost_take_le _ _
        obtain ⟨z1, z2⟩ := H3.out d (List.mem_of_getElem? hd)
        obtain ⟨d1, d2⟩ := d
        simp only at c0 c1 T z1 z2
        clear hd
        generalize hx : fcost (l.take k) = x at *
        have TT := T.out
        have b0 := B0.out
        have b1 := B1.out
        have b2 := FL.out
        have x1 : x ≤ 200016000 := by omega
        have HH := Lib.hid (And.intro TT (And.intro b1 b2))
        clear TT b1 b2 hx B0 B1 T
        go_wp2
        go_roundw
        case rel => exact ⟨k + 1, by omega, by go_num, by rw [HH.out.1]; have := HH.out; congr 1; omega, U.out.alloc _⟩
        case measure => simp [intOf]; omega
      · obtain rfl : k = l.length := by omega
        rw [List.take_length]
        go_wp2
        go_ret
        rw [CE.out]
        exact ⟨rfl, U.out⟩
end Go.Proofs.YtcdihffcncaibaaGreatDoor
/- Walks: the store tells, takes. -/
set_option linter.unusedVariables false
set_option linter.unusedSimpArgs false
set_option linter.unusedSectionVars false
namespace Go.Proofs.YtcdihffcncaibaaGreatDoor
open Go.RowKit

theorem ev_info : (Tryz.prog.info? 61).map (fun i => (i.zero, i.size, i.bytes)) = some (some (.agg #[.int .i64 0, .string ByteArray.empty]), 2, 24) := by kernel_rfl
theorem it_info : (Tryz.prog.info? 24).map (fun i => (i.zero, i.size, i.bytes)) = some (some (.agg #[.int .i64 0, .string ByteArray.empty, .slice none 0 0]), 3, 48) := by kernel_rfl
theorem flat_oneS {α : Type} (g : α → Value) : ∀ l : List α, flat (fun a => [g a]) l = l.map g
  | [] => rfl
  | a :: l => by show [g a] ++ flat (fun a => [g a]) l = _; rw [flat_oneS g l]; rfl
def intcS (n : Int) : List Value := [.int .i64 n]
theorem IntsAt.ownS {w : World} {base : Nat} {v : Value} {l : List Int} : IntsAt w base v l ↔ OwnN intcS 1 3 w base v l := by
  unfold IntsAt OwnN intcS; rw [flat_oneS]
section
variable {w w' : World} {base sb : Nat} {s : SV} {X Y : Nat → Prop}
theorem SMem.lo (h : SMem w base sb X s) : base ≤ sb := by obtain ⟨F, r, _⟩ := h; exact (r.lt 0 sb r.f0).1
theorem SMem.nsb (h : SMem w base sb X s) {b : Nat} : (fOf s.slv b → b ≠ sb) ∧ (fOf s.frv b → b ≠ sb) ∧ (fOf s.evv b → b ≠ sb) := by
  obtain ⟨F, r, _⟩ := h
  exact ⟨fun g e => absurd (r.uniq 2 0 b (r.f2 b g) (e ▸ r.f0)) (by decide), fun g e => absurd (r.uniq 3 0 b (r.f3 b g) (e ▸ r.f0)) (by decide), fun g e => absurd (r.uniq 6 0 b (r.f6 b g) (e ▸ r.f0)) (by decide)⟩
theorem SMem.evs_app (h : SMem w base sb X s) (kind : Int) (key : ByteArray) (hl : s.ev.length ≤ 1000000) :
    ∃ p c w1, (Builtin.append_ #[49, 49] 49 #[s.evv, .slice (some ⟨w.heap.size, 0, none⟩) 1 1]).run Tryz.prog (w.alloc (.cells #[.int .i64 kind, .string key] 61)) = .ok (.slice p (s.ev.length + 1) c) w1 ∧ Blk w1 sb (storeC s) 51 ∧
      PartTo w base sb X (w1.setCell ⟨sb, 7, none⟩ (.slice p (s.ev.length + 1) c)) { s with evv := .slice p (s.ev.length + 1) c, ev := s.ev ++ [(kind, key)] } := by
  obtain ⟨i0, hi0, hz0, hz1, hz2⟩ := info_parts ev_info
  have u0 : Upd (fun _ => False) w (w.alloc (.cells #[.int .i64 kind, .string key] 61)) := (Upd.refl _ _).alloc _
  have m0 := h.keep0 u0
  obtain ⟨v', w1, a, b, c, d⟩ := OwnN.append (P := Tryz.prog) 49 49 i0 (.agg #[.int .i64 0, .string ByteArray.empty]) 24 Tryz.underlying49 hi0 hz0 hz1 hz2 rfl (by decide) (fun _ => rfl) (fun x _ => fun u hu => by simp [evc] at hu; rcases hu with rfl | rfl <;> rfl) m0.evs (RowOf.lit (f := evc) (k := 2) w (kind, key) [.int .i64 kind, .string key] 61 rfl rfl) (by unfold maxLen; simp; omega) (by simp; omega) m0.bl
  obtain ⟨p, k, e, _⟩ := b.slice
  rw [List.length_append, List.length_singleton] at e
  subst e
  have hB1 : Blk w1 sb (storeC s) 51 := c.blk m0.blk fun g => (m0.nsb).2.2 g rfl
  have hs := hB1.set 7 (.slice p (s.ev.length + 1) k)
  have P := m0.evsTo b c d ((Upd.refl (fun b => b = sb) w1).set (b := sb) (o := 7) (v := .slice p (s.ev.length + 1) k) (fun _ => rfl)) hs
  exact ⟨p, k, w1, a, hB1, P.1, Fr.trans (Fr.of0 u0) P.2⟩
end
set_option maxHeartbeats 4000000 in
set_option maxRecDepth 100000 in
theorem tell_any {w : World} {base sb : Nat} {s : SV} {X : Nat → Prop} (h : SMem w base sb X s) (kind : Int) (key : ByteArray) (hl : s.ev.length ≤ 1000000) :
    Calls Tryz.prog 43 #[.pointer (some ⟨sb, 0, none⟩), .int .i64 kind, .string key] w fun e w' => e = .returned (.tuple #[]) ∧ ∃ v, PartTo w base sb X w' { s with evv := v, ev := s.ev ++ [(kind, key)] } := by
  obtain ⟨p0, c0, e0, _⟩ := h.evs.slice
  obtain ⟨p, c, w1, hr1, hB1, P⟩ := h.evs_app kind key hl
  have d7 := h.blk.cellAt (i := 7) rfl
  have hsb := h.blk.lt
  have k7 := hB1.cellAt (i := 7) rfl
  have l1 := hB1.lt
  have f1 := hB1.free 7
  rw [e0] at hr1 d7 k7
  have PP := Lib.hid P
  clear P hB1 h
  generalize s.ev.length = n at *
  go_enter Tryz.func43, Tryz.ntmps43
  go_wp2_with (at_builtin; refine wpList_builtinN rfl _ _ 49 rfl _ _ rfl rfl hr1 ?_)
  go_wp2
  go_end0
  exact ⟨rfl, _, PP.out⟩
section
variable {w w' : World} {base sb : Nat} {s : SV} {X Y : Nat → Prop}
/-- A slot's cells. -/
theorem SMem.slot (h : SMem w base sb X s) {i : Nat} {x : SlV} (hx : s.sl[i]? = some x) : ∃ b c, s.slv = .slice (some ⟨b, 0, none⟩) s.sl.length c ∧ b < w.heap.size ∧ b ≠ sb ∧ w.cell? ⟨b, i * 3, none⟩ = some (.int .i64 x.1) ∧ w.cell? ⟨b, i * 3 + 1, none⟩ = some (.string x.2.1) ∧ w.cell? ⟨b, i * 3 + 2, none⟩ = some x.2.2 ∧ (∀ o, w.frozen? ⟨b, o, none⟩ = false) ∧ s.sl.length ≤ maxLen := by
  have o := h.slots
  rcases o.blk with ⟨_, e⟩ | ⟨b, cap, cs, e, hb, hB, h1, h2, h3⟩
  · rw [e] at hx; simp at hx
  · have o2 := o
    rw [e] at o2
    refine ⟨b, cap, e, hB.lt, (h.nsb (b := b)).1 (by unfold fOf; rw [e]; rfl), ?_, ?_, ?_, fun o => hB.free o, by omega⟩
    · have := o2.cell (fun _ => rfl) (i := i) (j := 0) (by omega) hx; simpa [slc] using this
    · have := o2.cell (fun _ => rfl) (i := i) (j := 1) (by omega) hx; simpa [slc] using this
    · have := o2.cell (fun _ => rfl) (i := i) (j := 2) (by omega) hx; simpa [slc] using this
/-- A slot is written. -/
theorem SMem.slotTo (h : SMem w base sb X s) {i : Nat} {x y : SlV} (hx : s.sl[i]? = some x) {b c : Nat} (e : s.slv = .slice (some ⟨b, 0, none⟩) s.sl.length c) :
    PartTo w base sb X (((w.setCell ⟨b, i * 3, none⟩ (.int .i64 y.1)).setCell ⟨b, i * 3 + 1, none⟩ (.string y.2.1)).setCell ⟨b, i * 3 + 2, none⟩ y.2.2) { s with sl := s.sl.set i y } := by
  have o := h.slots
  rw [e] at o
  have hil := (List.getElem?_eq_some_iff.1 hx).1
  have o1 := o.set (i := i) (j := 0) (a := x) (b := (y.1, x.2.1, x.2.2)) (x := .int .i64 y.1) (fun _ => rfl) (by omega) hx rfl
  have o2 := o1.set (i := i) (j := 1) (a := (y.1, x.2.1, x.2.2)) (b := (y.1, y.2.1, x.2.2)) (x := .string y.2.1) (fun _ => rfl) (by omega) (by rw [List.getElem?_set_self hil]) rfl
  have o3 := o2.set (i := i) (j := 2) (a := (y.1, y.2.1, x.2.2)) (b := y) (x := y.2.2) (fun _ => rfl) (by omega) (by rw [List.getElem?_set_self (by rw [List.length_set]; exact hil)]) rfl
  rw [List.set_set, List.set_set] at o3
  rw [← e] at o3
  have u : Upd (fOf s.slv) w (((w.setCell ⟨b, i * 3, none⟩ (.int .i64 y.1)).setCell ⟨b, i * 3 + 1, none⟩ (.string y.2.1)).setCell ⟨b, i * 3 + 2, none⟩ y.2.2) := by
    have hb : fOf s.slv b := by unfold fOf; rw [e]; rfl
    exact (((Upd.refl (fOf s.slv) w).set (b := b) (o := i * 3) (v := .int .i64 y.1) (fun _ => hb)).set (b := b) (o := i * 3 + 1) (v := .string y.2.1) (fun _ => hb)).set (b := b) (o := i * 3 + 2) (v := y.2.2) (fun _ => hb)
  exact h.slotSet (by simpa using o3) u
theorem SMem.free_app (h : SMem w base sb X s) (x : Int) (hl : s.fr.length ≤ 1000000) :
    ∃ p c w1, (Builtin.append_ #[46, 46] 46 #[s.frv, .slice (some ⟨w.heap.size, 0, none⟩) 1 1]).run Tryz.prog (w.alloc (.cells #[.int .i64 x] 3)) = .ok (.slice p (s.fr.length + 1) c) w1 ∧ Blk w1 sb (storeC s) 51 ∧
      PartTo w base sb X (w1.setCell ⟨sb, 2, none⟩ (.slice p (s.fr.length + 1) c)) { s with frv := .slice p (s.fr.length + 1) c, fr := s.fr ++ [x] } := by
  obtain ⟨i0, hi0, hz0, hz1, hz2⟩ := info_parts int_info
  have u0 : Upd (fun _ => False) w (w.alloc (.cells #[.int .i64 x] 3)) := (Upd.refl _ _).alloc _
  have m0 := h.keep0 u0
  obtain ⟨v', w1, a, b, c, d⟩ := OwnN.append (P := Tryz.prog) 46 46 i0 (.int .i64 0) 8 Tryz.underlying46 hi0 hz0 hz1 hz2 rfl (by decide) (fun _ => rfl) (fun _ _ => fun u hu => by simp [intcS] at hu; subst hu; rfl) (IntsAt.ownS.1 m0.free) (RowOf.lit (f := intcS) (k := 1) w x [.int .i64 x] 3 rfl rfl) (by unfold maxLen; simp; omega) (by simp; omega) m0.bl
  obtain ⟨p, k, e, _⟩ := b.slice
  rw [List.length_append, List.length_singleton] at e
  subst e
  have hB1 : Blk w1 sb (storeC s) 51 := c.blk m0.blk fun g => (m0.nsb).2.1 g rfl
  have hs := hB1.set 2 (.slice p (s.fr.length + 1) k)
  have P := m0.freeTo (IntsAt.ownS.2 b) c d ((Upd.refl (fun b => b = sb) w1).set (b := sb) (o := 2) (v := .slice p (s.fr.length + 1) k) (fun _ => rfl)) hs
  exact ⟨p, k, w1, a, hB1, P.1, Fr.trans (Fr.of0 u0) P.2⟩
theorem PartTo.trans {w1 w2 : World} {s1 s2 : SV} (h : PartTo w base sb X w1 s1) (k : PartTo w1 base sb X w2 s2) : PartTo w base sb X w2 s2 := ⟨k.1, Fr.trans h.2 k.2⟩
theorem PartTo.of0 (h : SMem w base sb X s) (u : Upd (fun _ => False) w w') : PartTo w base sb X w' s := ⟨h.keep0 u, Fr.of0 u⟩
theorem SMem.bytSet (h : SMem w base sb X s) (x : Int) : PartTo w base sb X (w.setCell ⟨sb, 5, none⟩ (.int .i64 x)) { s with byt := x } :=
  h.bytTo ((Upd.refl (fun b => b = sb) w).set (b := sb) (o := 5) (v := .int .i64 x) (fun _ => rfl)) (h.blk.set 5 (.int .i64 x))
end
end Go.Proofs.YtcdihffcncaibaaGreatDoor
/- Walk: a key's item is taken out. -/
set_option linter.unusedVariables false
set_option linter.unusedSimpArgs false
namespace Go.Proofs.YtcdihffcncaibaaGreatDoor
open Go.RowKit

theorem adel_none {κ ν : Type} [DecidableEq κ] {m : List (κ × ν)} {k : κ} (h : aget m k = none) : adel m k = m := by
  induction m with
  | nil => rfl
  | cons p r ih =>
    simp only [aget] at h
    split at h
    · cases h
    · next hp => unfold adel; rw [if_neg hp, ih h]
theorem itV_eta (i : It) (v : Value) : Value.agg #[.int .i64 i.kind, .string i.text, v] = itV i v := rfl
set_option maxHeartbeats 8000000 in
set_option maxRecDepth 100000 in
theorem take_any {w : World} {base sb : Nat} {s : SV} {X Z : Nat → Prop} {S : PS} (m : SMem w base sb (Or2 X Z) s) (r : SRel w Z s S) (key : ByteArray) (hn : s.n ≤ 10000) (hk : key.size ≤ 100000) :
    Calls Tryz.prog 78 #[.pointer (some ⟨sb, 0, none⟩), .string key] w fun e w' => e = .returned (.bool (wasP S key)) ∧ ∃ s', SMem w' base sb (Or2 X Z) s' ∧ SRel w' Z s' { S with cells := delC S.cells key } ∧ s'.n = s.n ∧ Upd (Fr base (Or2 X Z)) w w' := by
  have hsb := m.blk.lt
  have a0 := m.blk.cellAt (i := 0) rfl
  have D := Lib.hid (m.tdrop key hn hk)
  by_cases hw : key ∈ keysC S.cells
  · have hwas : wasP S key = true := decide_eq_true hw
    obtain ⟨c, hlc, hc, rfl, i, v, hg, hsl, hf⟩ := r.get_some hw
    rw [hg] at D
    have R := Lib.hid r
    have HW := Lib.hid hw
    have HG := Lib.hid hg
    have HSL := Lib.hid hsl
    have HF := Lib.hid hf
    have HL := Lib.hid hlc
    have HC := Lib.hid hc
    have HSZ := Lib.hid (small_of_right (r.ok.small c hc).1)
    rw [hwas]
    clear r hw hg hsl hf hlc hc hwas m
    go_enter Tryz.func78, Tryz.ntmps78
    go_wp2_with fail
    refine (D.out).mono ?_
    rintro e w1 ⟨rfl, P1⟩
    simp only [Option.getD_some, Option.isSome_some]
    have m1 := P1.1
    have U1 := Lib.hid P1.2
    obtain ⟨b, cp, e, hb, hne, c0, c1, c2, fr, hm⟩ := m1.slot HSL.out
    have f1 := HF.out.keep U1.out (fun b hb g => g.2 (Or.inr hb))
    have CO := Lib.hid (fun W (u : Upd (fun _ => False) w1 W) => cost_any c.key c.item v W (m1.std.keep u) (f1.1.keep u (fun _ _ _ h => h)) HSZ.out hk)
    have x1 : w1.cell? ⟨sb, 1, none⟩ = some (.slice (some ⟨b, 0, none⟩) s.sl.length cp) := by rw [m1.blk.cellAt (i := 1) rfl]; exact congrArg some e
    have x5 : w1.cell? ⟨sb, 5, none⟩ = some (.int .i64 s.byt) := m1.blk.cellAt (i := 5) rfl
    have l1 := m1.blk.lt
    have fx := m1.blk.free 5
    have HB := Lib.hid m1.blk
    have M1 := Lib.hid m1
    have hil := (List.getElem?_eq_some_iff.1 HSL.out).1
    have q0 := costI_pos c.key c.item
    have q1 := costI_le HSZ.out hk
    have q2 := R.out.byt_range hn
    simp only at c0 c1 c2
    clear P1 m1 D e
    generalize hco : costI c.key c.item = co at *
    have HCO := Lib.hid hco
    have HWR : Hid (IntKind.i64.wrap (s.byt - co) = s.byt - co) := i64w (by omega) (by omega)
    clear hco
    go_upto_region 4 with (fail)
    go_cut [5] (fun v5 wx => v5 = .int .i64 (i : Int) ∧ Hid (PartTo w1 base sb (Or2 X Z) wx { s with m := adel s.m c.key, byt := s.byt - co }))
    case first =>
      go_region_with (go_at_call 37; refine (CO.out _ (by first | exact Upd.refl _ _ | exact (Upd.refl _ _).drew)).mono ?_; rintro e2 w2 ⟨rfl, u2⟩; have B2 := u2.blk HB.out (fun h => h); have y5 : w2.cell? ⟨sb, 5, none⟩ = some (.int .i64 s.byt) := B2.cellAt (i := 5) rfl; have y1 : w2.cell? ⟨sb, 1, none⟩ = some (.slice (some ⟨b, 0, none⟩) s.sl.length cp) := (u2.cell (p := ⟨sb, 1, none⟩) l1 (fun h => h)).trans x1; have l2 := B2.lt; have g5 := B2.free 5; have UU : Hid (Upd (fun _ => False) w1 w2) := (by first | exact u2 | exact ((Upd.refl _ _).drew).trans u2 (fun _ _ h => h)))
      all_goals (go_wp2_with fail; go_meet; rw [HWR.out]; exact ⟨rfl, (PartTo.of0 M1.out UU.out).trans ((M1.out.keep0 UU.out).bytSet _)⟩)
    case rest =>
    obtain ⟨rfl, P2⟩ := hcut
    clear x1 x5 l1 fx c0 c1 c2 fr hb
    have l1 := P2.out.1.blk.lt
    obtain ⟨b, cp, e, hb, hne, c0, c1, c2, fr, hm⟩ := P2.out.1.slot HSL.out
    have x1 : wc.cell? ⟨sb, 1, none⟩ = some (.slice (some ⟨b, 0, none⟩) s.sl.length cp) := by rw [P2.out.1.blk.cellAt (i := 1) rfl]; exact congrArg some e
    have fr0 := fr (i * 3)
    have fr1 := fr (i * 3 + 1)
    have fr2 := fr (i * 3 + 2)
    have P3 := P2.out.1.slotTo HSL.out (y := (0, ByteArray.empty, .slice none 0 0)) e
    have PP3 := Lib.hid (P2.out.trans P3)
    simp only at c0 c1 c2
    clear e P3 fr
    go_upto_region 5 with (fail)
    go_cut [5] (fun v5 wx => v5 = .int .i64 (i : Int) ∧ Hid (PartTo w1 base sb (Or2 X Z) wx { s with m := adel s.m c.key, byt := s.byt - co, sl := s.sl.set i (0, ByteArray.empty, .slice none 0 0) }))
    case first =>
      go_wp2_with fail
      go_meet
      exact ⟨rfl, PP3.out⟩
    case rest =>
    obtain ⟨rfl, P4⟩ := hcut
    clear PP3 P2 x1 l1 fr0 fr1 fr2 c0 c1 c2 hb
    have hfl : s.fr.length ≤ 1000000 := by have := R.out.fr_len; have := R.out.sln; omega
    have lx := P4.out.1.blk.lt
    obtain ⟨p0, c0, e0, _⟩ := (IntsAt.ownS.1 P4.out.1.free).slice
    obtain ⟨p, cq, w3, hr1, hB1, P5⟩ := P4.out.1.free_app (i : Int) hfl
    have d2 := P4.out.1.blk.cellAt (i := 2) rfl
    have k2 := hB1.cellAt (i := 2) rfl
    have l3 := hB1.lt
    have f2 := hB1.free 2
    have PP5 := Lib.hid (P4.out.trans P5)
    simp only at e0 hr1 d2 k2
    rw [e0] at hr1 d2 k2
    clear P4 P5 hB1 e0 hfl
    go_upto_region 6 with (fail)
    go_cut [5] (fun v5 wx => v5 = .int .i64 (i : Int) ∧ Hid (∃ v, PartTo w1 base sb (Or2 X Z) wx { s with m := adel s.m c.key, byt := s.byt - co, sl := s.sl.set i (0, ByteArray.empty, .slice none 0 0), frv := v, fr := s.fr ++ [(i : Int)] }))
    case first =>
      go_wp2_with (at_builtin; refine wpList_builtinN rfl _ _ 46 rfl _ _ rfl rfl hr1 ?_)
      go_wp2_with fail
      go_meet
      exact ⟨rfl, _, PP5.out⟩
    case rest =>
    obtain ⟨rfl, HQ⟩ := hcut
    obtain ⟨v6, P6⟩ := HQ.out
    clear PP5 d2 k2 l3 f2 hr1 HQ
    have l6 := P6.1.blk.lt
    have d3 := P6.1.blk.cellAt (i := 3) rfl
    have RD := Lib.hid (P6.1.rdrop c.key)
    have PP6 := Lib.hid P6
    simp only at d3 RD
    clear P6
    go_wp2_with fail
    refine (RD.out).mono ?_
    rintro e w7 ⟨rfl, P7⟩
    have PP7 := Lib.hid (PP6.out.trans P7)
    have l7 := P7.1.blk.lt
    have d4 := P7.1.blk.cellAt (i := 4) rfl
    have XD := Lib.hid (P7.1.xdrop c.key (by have := R.out.l_len; exact Nat.le_trans this hn))
    simp only at d4 XD
    clear P7 RD PP6
    go_wp2_with fail
    refine (XD.out).mono ?_
    rintro e w8 ⟨rfl, P8⟩
    have PP8 := Lib.hid (PP7.out.trans P8)
    clear P8 XD PP7
    go_wp2
    go_ret
    have rr := (R.out.keepF (U1.out.trans PP8.out.2 (fun _ _ h => h))).del HW.out HG.out (z := (0, ByteArray.empty, .slice none 0 0)) (ev := s.ev) (cost := co) (fun c2 h2 => by rw [HL.out] at h2; cases h2; exact HCO.out.symm)
    refine ⟨rfl, _, PP8.out.1, ?_, rfl, Fr.trans U1.out PP8.out.2⟩
    have re := R.out.ev
    rw [re] at rr
    exact ⟨rr.ok, rr.km, rr.nd, rr.at_, rr.inj, rr.frOk, rr.frnd, rr.ks, rr.l, rr.byt, rr.bud, re, rr.sln, rr.cln⟩
  · have hwas : wasP S key = false := decide_eq_false hw
    have hg := r.get_none hw
    rw [hg] at D
    rw [hwas, delC_none hw]
    have R := Lib.hid r
    have HG := Lib.hid hg
    clear r hw hwas hg m
    go_enter Tryz.func78, Tryz.ntmps78
    go_wp2_with fail
    refine (D.out).mono ?_
    rintro e w1 ⟨rfl, P1⟩
    simp only [Option.getD_none, Option.isSome_none]
    have PP := Lib.hid P1
    clear P1 D
    go_wp2
    go_ret
    refine ⟨rfl, _, PP.out.1, ?_, rfl, PP.out.2⟩
    rw [adel_none HG.out]
    exact R.out.keepF PP.out.2
end Go.Proofs.YtcdihffcncaibaaGreatDoor
/- Walk: a place for a key. -/
set_option linter.unusedVariables false
set_option linter.unusedSimpArgs false
namespace Go.Proofs.YtcdihffcncaibaaGreatDoor
open Go.RowKit

/-- What a store holds when a place is laid for a key, whose old item counts no more. -/
structure Placed (w : World) (Z : Nat → Prop) (s : SV) (S : PS) (key : ByteArray) (at' : Nat) : Prop where
  ok : POk S
  km : ∀ k, k ≠ key → (aget s.m k).isSome = decide (k ∈ keysC S.cells)
  nd : (akeys s.m).Nodup
  at_ : ∀ c ∈ delC S.cells key, ∃ (i : Nat) (v : Value), i ≠ at' ∧ aget s.m c.key = some (i : Int) ∧ s.sl[i]? = some (c.item.kind, c.item.text, v) ∧ FldAt w Z v c.item.flds
  inj : ∀ k k' i, aget s.m k = some i → aget s.m k' = some i → k = k'
  lt : at' < s.sl.length
  other : ∀ k, k ≠ key → aget s.m k ≠ some (at' : Int)
  mine : ∀ i, aget s.m key = some i → i = (at' : Int)
  frOk : ∀ i ∈ s.fr, ∃ j : Nat, i = (j : Int) ∧ j < s.sl.length ∧ j ≠ at' ∧ ∀ k, aget s.m k ≠ some i
  frnd : s.fr.Nodup
  ks : s.ks = keysC S.cells
  l : s.l = duesC S.cells
  byt : s.byt = bytesC (delC S.cells key)
  bud : s.bud = S.budget
  ev : s.ev = S.events
  sln : s.sl.length ≤ s.n + 1
  cln : (delC S.cells key).length ≤ s.n
section
variable {w w' : World} {base sb : Nat} {s : SV} {X Z : Nat → Prop} {S : PS} {key : ByteArray} {at' : Nat}
theorem Placed.keep {G : Nat → Prop} (h : Placed w Z s S key at') (u : Upd G w w') (hd : ∀ b, Z b → ¬ G b) : Placed w' Z s S key at' :=
  { h with at_ := fun c hc => let ⟨i, v, a, b, d, f⟩ := h.at_ c hc; ⟨i, v, a, b, d, f.keep u hd⟩ }
theorem OwnN.pop {α : Type} {f : α → List Value} {k : Nat} {w : World} {base : Nat} {e : TypeId} {v : Value} {l : List α} {x : α} (h : OwnN f k e w base v (l ++ [x])) (hf : ∀ a, (f a).length = k) : ∃ b c, v = .slice (some ⟨b, 0, Option.none⟩) (l.length + 1) c ∧ l.length + 1 ≤ c ∧ c ≤ maxLen ∧ b < w.heap.size ∧ (∀ j, j < k → w.cell? ⟨b, l.length * k + j, Option.none⟩ = (f x)[j]?) ∧ OwnN f k e w base (.slice (some ⟨b, 0, Option.none⟩) l.length c) l := by
  rcases h.blk with ⟨_, e1⟩ | ⟨b, cap, cs, e1, hb, hB, h1, h2, h3⟩
  · simp at e1
  · have hl : (l ++ [x]).length = l.length + 1 := by simp
    rw [hl] at e1 h1 h3
    refine ⟨b, cap, e1, h3, h2, hB.lt, fun j hj => ?_, ?_⟩
    · have h4 := h
      rw [e1] at h4
      exact h4.cell hf hj (by simp)
    · have hB2 := hB
      have ef : flat f (l ++ [x]) = flat f l ++ f x := by simp [flat]
      rw [ef, List.append_assoc] at hB2
      refine OwnN.ofBlk hb hf hB2 ?_ h2 (by omega)
      rw [List.length_append, hf]
      rw [Nat.add_mul] at h1; omega
theorem SMem.slots_app (h : SMem w base sb X s) (hl : s.sl.length ≤ 1000000) :
    ∃ p c w1, (Builtin.append_ #[45, 45] 45 #[s.slv, .slice (some ⟨w.heap.size, 0, none⟩) 1 1]).run Tryz.prog (w.alloc (.cells #[.int .i64 0, .string { data := #[] }, .slice none 0 0] 24)) = .ok (.slice p (s.sl.length + 1) c) w1 ∧ Blk w1 sb (storeC s) 51 ∧
      PartTo w base sb X (w1.setCell ⟨sb, 1, none⟩ (.slice p (s.sl.length + 1) c)) { s with slv := .slice p (s.sl.length + 1) c, sl := s.sl ++ [(0, { data := #[] }, .slice none 0 0)] } := by
  obtain ⟨i0, hi0, hz0, hz1, hz2⟩ := info_parts it_info
  have u0 : Upd (fun _ => False) w (w.alloc (.cells #[.int .i64 0, .string { data := #[] }, .slice none 0 0] 24)) := (Upd.refl _ _).alloc _
  have m0 := h.keep0 u0
  obtain ⟨v', w1, a, b, c, d⟩ := OwnN.append (P := Tryz.prog) 45 45 i0 (.agg #[.int .i64 0, .string ByteArray.empty, .slice none 0 0]) 48 Tryz.underlying45 hi0 hz0 hz1 hz2 rfl (by decide) (fun _ => rfl) (fun x hx => fun u hu => by
    obtain rfl := List.mem_singleton.1 hx
    simp [slc] at hu; rcases hu with rfl | rfl | rfl <;> rfl) m0.slots (RowOf.lit (f := slc) (k := 3) w (0, { data := #[] }, .slice none 0 0) [.int .i64 0, .string { data := #[] }, .slice none 0 0] 24 rfl rfl) (by unfold maxLen; simp; omega) (by simp; omega) m0.bl
  obtain ⟨p, k, e, _⟩ := b.slice
  rw [List.length_append, List.length_singleton] at e
  subst e
  have hB1 : Blk w1 sb (storeC s) 51 := c.blk m0.blk fun g => (m0.nsb).1 g rfl
  have hs := hB1.set 1 (.slice p (s.sl.length + 1) k)
  have P := m0.slotsTo b c d ((Upd.refl (fun b => b = sb) w1).set (b := sb) (o := 1) (v := .slice p (s.sl.length + 1) k) (fun _ => rfl)) hs
  exact ⟨p, k, w1, a, hB1, P.1, Fr.trans (Fr.of0 u0) P.2⟩
/-- Where the key stands already. -/
theorem SRel.placed1 (r : SRel w Z s S) {c : Ce} (hc : c ∈ S.cells) {i : Nat} (hi : aget s.m c.key = some (i : Int)) (hil : i < s.sl.length) {co : Int} (hco : costI c.key c.item = co) : Placed w Z { s with byt := s.byt - co } S c.key i :=
  ⟨r.ok, fun k _ => r.km k, r.nd, fun d hd => by
    obtain ⟨h1, h2⟩ := delC_mem.1 hd
    obtain ⟨j, v, a, b, f⟩ := r.at_ d h1
    refine ⟨j, v, ?_, a, b, f⟩
    rintro rfl
    exact h2 (r.inj _ _ _ a hi), r.inj, hil, fun k hk h => hk (r.inj _ _ _ h hi), fun j hj => by rw [hi] at hj; exact (Option.some.inj hj).symm, fun j hj => by
    obtain ⟨n, e, h1, h2⟩ := r.frOk j hj
    refine ⟨n, e, h1, ?_, h2⟩
    rintro rfl
    exact h2 _ (by rw [e]; exact hi), r.frnd, r.ks, r.l, by show s.byt - co = _; rw [bytesC_del r.ok.nd hc, hco, r.byt], r.bud, r.ev, Nat.le_succ_of_le r.sln, Nat.le_trans (delC_len _ _) r.cln⟩
/-- A place that is free. -/
theorem SRel.placed2 (r : SRel w Z s S) (hk : key ∉ keysC S.cells) {fr : List Int} {j : Nat} (hfr : s.fr = fr ++ [(j : Int)]) {v : Value} : Placed w Z { s with frv := v, fr := fr } S key j := by
  have hd := delC_none hk
  have hn := r.frnd
  rw [hfr, List.nodup_append] at hn
  obtain ⟨n, e, h1, h2⟩ := r.frOk (j : Int) (by rw [hfr]; simp)
  have ej : n = j := by omega
  subst ej
  refine ⟨r.ok, fun k _ => r.km k, r.nd, fun c hc => ?_, r.inj, h1, fun k _ => h2 k, fun i hi => absurd hi (by rw [r.get_none hk]; simp), fun i hi => ?_, hn.1, r.ks, r.l, by rw [hd]; exact r.byt, r.bud, r.ev, Nat.le_succ_of_le r.sln, by rw [hd]; exact r.cln⟩
  · rw [hd] at hc
    obtain ⟨i, v, a, b, f⟩ := r.at_ c hc
    refine ⟨i, v, ?_, a, b, f⟩
    rintro rfl
    exact h2 _ a
  · obtain ⟨p, ep, g1, g2⟩ := r.frOk i (by rw [hfr]; exact List.mem_append_left _ hi)
    refine ⟨p, ep, g1, ?_, g2⟩
    intro en
    exact hn.2.2 i hi (n : Int) (by simp) (by rw [ep, en])
/-- One place more. -/
theorem SRel.placed3 (r : SRel w Z s S) (hk : key ∉ keysC S.cells) (hfr : s.fr = []) {v : Value} {z : SlV} : Placed w Z { s with slv := v, sl := s.sl ++ [z] } S key s.sl.length := by
  have hd := delC_none hk
  refine ⟨r.ok, fun k _ => r.km k, r.nd, fun c hc => ?_, r.inj, by simp, fun k hk2 h => ?_, fun i hi => absurd hi (by rw [r.get_none hk]; simp), fun i hi => ?_, r.frnd, r.ks, r.l, by rw [hd]; exact r.byt, r.bud, r.ev, by have := r.sln; simp only [List.length_append, List.length_singleton]; omega, by rw [hd]; exact r.cln⟩
  · rw [hd] at hc
    obtain ⟨i, v, a, b, f⟩ := r.at_ c hc
    have hil := (List.getElem?_eq_some_iff.1 b).1
    exact ⟨i, v, by omega, a, by rw [List.getElem?_append_left hil]; exact b, f⟩
  · have hk3 : k ∈ keysC S.cells := by
      have := r.km k
      rw [h] at this
      simpa using this.symm
    obtain ⟨c, _, hc, rfl, i, v, a, b, f⟩ := r.get_some hk3
    have hil := (List.getElem?_eq_some_iff.1 b).1
    rw [a] at h
    have := Option.some.inj h
    omega
  · have hi2 : i ∈ s.fr := hi
    rw [hfr] at hi2
    simp at hi2
end
set_option maxHeartbeats 8000000 in
set_option maxRecDepth 100000 in
theorem place_any {w : World} {base sb : Nat} {s : SV} {X Z : Nat → Prop} {S : PS} (m : SMem w base sb (Or2 X Z) s) (r : SRel w Z s S) (key : ByteArray) (hn : s.n ≤ 10000) (hk : key.size ≤ 100000) :
    Calls Tryz.prog 38 #[.pointer (some ⟨sb, 0, none⟩), .string key] w fun e w' => ∃ (i : Nat) (s' : SV), e = .returned (.int .i64 (i : Int)) ∧ SMem w' base sb (Or2 X Z) s' ∧ Placed w' Z s' S key i ∧ s'.n = s.n ∧ Upd (Fr base (Or2 X Z)) w w' := by
  have hsb := m.blk.lt
  have a0 := m.blk.cellAt (i := 0) rfl
  have D := Lib.hid (m.tget key hn hk)
  by_cases hw : key ∈ keysC S.cells
  · obtain ⟨c, hlc, hc, rfl, i, v, hg, hsl, hf⟩ := r.get_some hw
    rw [hg] at D
    have R := Lib.hid r
    have HG := Lib.hid hg
    have HSL := Lib.hid hsl
    have HF := Lib.hid hf
    have HC := Lib.hid hc
    have HSZ := Lib.hid (small_of_right (r.ok.small c hc).1)
    clear r hw hg hsl hf hlc hc m
    go_enter Tryz.func38, Tryz.ntmps38
    go_wp2_with fail
    refine (D.out).mono ?_
    rintro e w1 ⟨rfl, P1⟩
    simp only [Option.getD_some, Option.isSome_some]
    have m1 := P1.1
    have U1 := Lib.hid P1.2
    obtain ⟨b, cp, e, hb, hne, c0, c1, c2, fr, hm⟩ := m1.slot HSL.out
    have f1 := HF.out.keep U1.out (fun b hb g => g.2 (Or.inr hb))
    have CO := Lib.hid (fun W (u : Upd (fun _ => False) w1 W) => cost_any c.key c.item v W (m1.std.keep u) (f1.1.keep u (fun _ _ _ h => h)) HSZ.out hk)
    have x1 : w1.cell? ⟨sb, 1, none⟩ = some (.slice (some ⟨b, 0, none⟩) s.sl.length cp) := by rw [m1.blk.cellAt (i := 1) rfl]; exact congrArg some e
    have x5 : w1.cell? ⟨sb, 5, none⟩ = some (.int .i64 s.byt) := m1.blk.cellAt (i := 5) rfl
    have l1 := m1.blk.lt
    have fx := m1.blk.free 5
    have HB := Lib.hid m1.blk
    have M1 := Lib.hid m1
    have hil := (List.getElem?_eq_some_iff.1 HSL.out).1
    have q0 := costI_pos c.key c.item
    have q1 := costI_le HSZ.out hk
    have q2 := R.out.byt_range hn
    simp only at c0 c1 c2
    clear P1 m1 D e
    generalize hco : costI c.key c.item = co at *
    have HCO := Lib.hid hco
    have HWR : Hid (IntKind.i64.wrap (s.byt - co) = s.byt - co) := i64w (by omega) (by omega)
    clear hco
    go_upto_region 3 with (fail)
    go_cut [5] (fun v5 wx => v5 = .int .i64 (i : Int) ∧ Hid (PartTo w1 base sb (Or2 X Z) wx { s with byt := s.byt - co }))
    case first =>
      go_region_with (go_at_call 37; refine (CO.out _ (by first | exact Upd.refl _ _ | exact (Upd.refl _ _).drew)).mono ?_; rintro e2 w2 ⟨rfl, u2⟩; have B2 := u2.blk HB.out (fun h => h); have y5 : w2.cell? ⟨sb, 5, none⟩ = some (.int .i64 s.byt) := B2.cellAt (i := 5) rfl; have y1 : w2.cell? ⟨sb, 1, none⟩ = some (.slice (some ⟨b, 0, none⟩) s.sl.length cp) := (u2.cell (p := ⟨sb, 1, none⟩) l1 (fun h => h)).trans x1; have l2 := B2.lt; have g5 := B2.free 5; have UU : Hid (Upd (fun _ => False) w1 w2) := (by first | exact u2 | exact ((Upd.refl _ _).drew).trans u2 (fun _ _ h => h)))
      all_goals (go_wp2_with fail; go_meet; rw [HWR.out]; exact ⟨rfl, (PartTo.of0 M1.out UU.out).trans ((M1.out.keep0 UU.out).bytSet _)⟩)
    case rest =>
    obtain ⟨rfl, P2⟩ := hcut
    clear x1 x5 l1 fx c0 c1 c2 fr hb
    go_wp2
    go_ret
    refine ⟨i, rfl, _, P2.out.1, ?_, rfl, Fr.trans U1.out P2.out.2⟩
    exact ((R.out.keepF U1.out).keepF P2.out.2).placed1 HC.out HG.out hil HCO.out
  · have hg := r.get_none hw
    rw [hg] at D
    have R := Lib.hid r
    have HW := Lib.hid hw
    clear r hw hg m
    rcases List.eq_nil_or_concat s.fr with hfr | ⟨fr, x, hfr⟩
    · have HFR := Lib.hid hfr
      clear hfr
      go_enter Tryz.func38, Tryz.ntmps38
      go_wp2_with fail
      refine (D.out).mono ?_
      rintro e w1 ⟨rfl, P1⟩
      simp only [Option.getD_none, Option.isSome_none]
      have m1 := P1.1
      have U1 := Lib.hid P1.2
      obtain ⟨pf, cf, ef, _⟩ := (IntsAt.ownS.1 m1.free).slice
      rw [HFR.out] at ef
      have x2 : w1.cell? ⟨sb, 2, none⟩ = some (.slice pf 0 cf) := by rw [m1.blk.cellAt (i := 2) rfl]; exact congrArg some ef
      obtain ⟨p0, c0, e0, _⟩ := m1.slots.slice
      have x1 : w1.cell? ⟨sb, 1, none⟩ = some (.slice p0 s.sl.length c0) := by rw [m1.blk.cellAt (i := 1) rfl]; exact congrArg some e0
      obtain ⟨p, cq, w3, hr1, hB1, P5⟩ := m1.slots_app (by have := R.out.sln; omega)
      have k1 : w3.cell? ⟨sb, 1, none⟩ = some (.slice p0 s.sl.length c0) := by rw [hB1.cellAt (i := 1) rfl]; exact congrArg some e0
      have l1 := m1.blk.lt
      have l3 := hB1.lt
      have f1 := hB1.free 1
      have hsl : s.sl.length ≤ 10000 := by have := R.out.sln; omega
      rw [e0] at hr1
      have PP := Lib.hid P5
      have N0 := Lib.hid (R.out.placed3 HW.out HFR.out (v := .slice p (s.sl.length + 1) cq) (z := (0, { data := #[] }, .slice none 0 0)))
      have R1 := Lib.hid (R.out.keepF U1.out)
      clear P1 P5 m1 hB1 D e0 ef
      generalize hq : s.sl.length = q at *
      go_wp2_with (at_builtin; refine wpList_builtinN rfl _ _ 45 rfl _ _ rfl rfl hr1 ?_)
      go_wp2
      go_ret
      refine ⟨q, _, ret_int (by omega), PP.out.1, ?_, rfl, Fr.trans U1.out PP.out.2⟩
      exact ((N0.out.keep U1.out (fun b hb g => g.2 (Or.inr hb))).keep PP.out.2 (fun b hb g => g.2 (Or.inr hb)))
    · rw [List.concat_eq_append] at hfr
      obtain ⟨j, ej, hj, _⟩ := R.out.frOk x (by rw [hfr]; simp)
      subst ej
      have HFR := Lib.hid hfr
      have hfl : fr.length ≤ 10000 := by have h1 := R.out.fr_len; have h2 := R.out.sln; rw [hfr] at h1; simp at h1; omega
      clear hfr hj
      go_enter Tryz.func38, Tryz.ntmps38
      go_wp2_with fail
      refine (D.out).mono ?_
      rintro e w1 ⟨rfl, P1⟩
      simp only [Option.getD_none, Option.isSome_none]
      have m1 := P1.1
      have U1 := Lib.hid P1.2
      have ow := IntsAt.ownS.1 m1.free
      rw [HFR.out] at ow
      obtain ⟨b, cf, ef, hc1, hc2, hb, hcell, ow2⟩ := ow.pop (fun _ => rfl)
      have x2 : w1.cell? ⟨sb, 2, none⟩ = some (.slice (some ⟨b, 0, none⟩) (fr.length + 1) cf) := by rw [m1.blk.cellAt (i := 2) rfl]; exact congrArg some ef
      have xc : w1.cell? ⟨b, fr.length, none⟩ = some (.int .i64 (j : Int)) := by have := hcell 0 (by omega); simpa [intcS] using this
      have hcap : (fr.length : Int) ≤ (cf : Int) := by omega
      have hcap2 : fr.length ≤ cf := by omega
      have l1 := m1.blk.lt
      have f2 := m1.blk.free 2
      have M1 := Lib.hid m1
      have OW := Lib.hid ow2
      have EF := Lib.hid ef
      have R1 := Lib.hid (R.out.keepF U1.out)
      clear P1 m1 D ef ow ow2 hcell hc1 hc2
      go_wp2
      go_ret
      have hs := M1.out.blk.set 2 (.slice (some ⟨b, 0, none⟩) fr.length cf)
      have P := M1.out.freeTo (IntsAt.ownS.2 OW.out) (Upd.refl _ _) (fun k hk => Or.inl (by rw [EF.out]; exact hk)) ((Upd.refl (fun b => b = sb) w1).set (b := sb) (o := 2) (v := .slice (some ⟨b, 0, none⟩) fr.length cf) (fun _ => rfl)) hs
      exact ⟨j, _, rfl, P.1, (R1.out.keepF P.2).placed2 HW.out HFR.out, rfl, Fr.trans U1.out P.2⟩
end Go.Proofs.YtcdihffcncaibaaGreatDoor
