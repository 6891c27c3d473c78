/- The chapter's example, plain. -/
import Derived.Test.YtcpfkkbegnhofaaDoorK09
import Derived.Test.YtcpfkkbegnhofaaDoorRows
import Derived.ProofKit
import Derived.LaidMore
import Derived.Lay
import Derived.OpenShut
import Derived.Stop.Joined
import Derived.Stop.LaidErr
import Derived.Lib.LaidTab
import Derived.Lib.LaidU8
set_option linter.unusedVariables false
set_option linter.unusedSimpArgs false
namespace Go.Proofs.YtcpfkkbegnhofaaDoor
open Go.RowKit

/-- As optsM, counted. -/
def optsF : Nat → MD → List Txt → Option MD
  | _, m, [] => some m
  | 0, _, _ :: _ => none
  | n + 1, m, w :: r => match optStep m w r with
    | some (m', k) => optsF n m' (r.drop (k - 1))
    | none => none
theorem optsM_F : ∀ (n : Nat) (m : MD) (l : List Txt), l.length ≤ n → optsM m l = optsF n m l
  | 0, m, [], _ => by rw [optsM_nil]; rfl
  | n + 1, m, [], _ => by rw [optsM_nil]; rfl
  | n + 1, m, w :: r, h => by
    rw [optsM_step, optsF]
    cases optStep m w r with
    | none => rfl
    | some p =>
      obtain ⟨m', k⟩ := p
      simp only
      exact optsM_F n m' _ (by simp at h ⊢; omega)
theorem on_of {t : Txt} {r : List Txt} {m : MD} (hb : isW t kON = true) (h : optsF r.length { offM with on := true } r = some m) : parseM (t :: r) = if rightM (finM m) = true then (finM m, 0) else (offM, 132) :=
  parse_on hb (by rw [optsM_F _ _ _ (Nat.le_refl _)]; exact h)
def sOn : Txt := [111, 110]
def sOptin : Txt := [111, 112, 116, 105, 110]
def sOptout : Txt := [111, 112, 116, 111, 117, 116]
def ex1 : List Txt := [sOn, sOptin, sOptout]
def ex2 : List Txt := [[79, 78], [98, 99, 97, 115, 116], [80, 114, 101, 102, 105, 120], [98], [80, 82, 69, 70, 73, 88], [97], [114, 101, 100, 105, 114, 101, 99, 116], [55]]
theorem ex1_eq : parseM ex1 = (offM, 132) := by
  have h := on_of (t := sOn) (r := [sOptin, sOptout]) (m := ⟨true, false, true, true, false, 0, []⟩) (by decide +kernel) (by decide +kernel)
  unfold ex1
  rw [h, if_neg]
  decide +kernel
theorem ord_two : ordT ([[98], [97]] : List Txt) = [[97], [98]] := (ordT_eq (by decide) (by decide)).symm
def ex2M : MD := ⟨true, true, false, false, false, 7, [[97], [98]]⟩
theorem ex2_fin : finM ⟨true, true, false, false, false, 7, [[98], [97]]⟩ = ex2M := by
  unfold finM ex2M
  rw [if_neg (by simp), ord_two]
theorem ex2_eq : parseM ex2 = (ex2M, 0) := by
  have h := on_of (t := [79, 78]) (r := [[98, 99, 97, 115, 116], [80, 114, 101, 102, 105, 120], [98], [80, 82, 69, 70, 73, 88], [97], [114, 101, 100, 105, 114, 101, 99, 116], [55]]) (m := ⟨true, true, false, false, false, 7, [[98], [97]]⟩) (by decide +kernel) (by decide +kernel)
  unfold ex2
  rw [h, ex2_fin, if_pos (by decide +kernel)]
end Go.Proofs.YtcpfkkbegnhofaaDoor
/- Walks: words written out; the chapter's example; ModeNames. -/
set_option linter.unusedVariables false
set_option linter.unusedSimpArgs false
namespace Go.Proofs.YtcpfkkbegnhofaaDoor
open Go.RowKit

theorem lit_rwt (w : World) (l : List Txt) (cs : List Value) (h : cs = l.map fun t => .string (ofL t)) (hl : l.length ≤ 1000) : RwT (w.alloc (.cells cs.toArray 9)) (some ⟨w.heap.size, 0, none⟩) l.length l := by
  subst h
  refine ⟨Or.inr ⟨w.heap.size, 0, l.length, rfl, by simp, by unfold maxLen; omega, fun i a hi j hj => ?_⟩, Nat.le_refl _, by unfold maxLen; omega⟩
  obtain rfl : j = 0 := by omega
  rw [Nat.mul_one, Nat.zero_add, Nat.add_zero, (Blk.made w _ _).cell, List.getElem?_map, hi]; rfl
/-- What Parse hands back. -/
def PR (w : World) (base : Nat) (m : MD) (er : Int) (e : Ending) (w' : World) : Prop :=
  ∃ p' c', e = .returned (.tuple #[.agg #[.bool m.on, .bool m.bc, .bool m.oi, .bool m.oo, .bool m.nl, .int .i64 m.rd, .slice p' m.ps.length c'], .int .i64 er]) ∧ c' ≤ 9223372036854775807 ∧ TxtsAt w' base (.slice p' m.ps.length c') m.ps ∧ Upd (fun _ => False) w w'
theorem own_capT {w : World} {base : Nat} {p : Option Addr} {n c : Nat} {l : List Txt} (h : TxtsAt w base (.slice p n c) l) : c ≤ 9223372036854775807 := by
  rcases h.2 with ⟨e, _⟩ | ⟨g, cap, cs, e, _, _, _, hm, _⟩
  · cases e; omega
  · unfold maxLen at hm
    simp only [Value.slice.injEq] at e
    omega
theorem parseR_any (p : Option Addr) (c : Nat) (ws : List Txt) (w : World) (h : RwT w p c ws) (hs : StdU w) (hn : ws.length ≤ 1000) (hl : ∀ t ∈ ws, t.length ≤ 10000) (m : MD) (er : Int) (hm : parseM ws = (m, er)) :
    Calls Tryd.prog 12 #[.slice p ws.length c] w (PR w w.heap.size m er) := by
  refine (parseW_any p c ws w h hs hn hl).mono ?_
  rintro e w' ⟨v', he, ht, u⟩
  rw [hm] at he ht
  obtain ⟨p', c', rfl, _⟩ := own_slice ht
  exact ⟨p', c', he, own_capT ht, ht, u⟩
theorem parse_lit (w : World) (hs : StdU w) (l : List Txt) (cs : List Value) (h : cs = l.map fun t => .string (ofL t)) (n : Nat) (hnl : n = l.length) (hn : l.length ≤ 1000) (hl : ∀ t ∈ l, t.length ≤ 10000) (m : MD) (er : Int) (hm : parseM l = (m, er)) :
    Calls Tryd.prog 12 #[.slice (some ⟨w.heap.size, 0, none⟩) n n] (w.alloc (.cells cs.toArray 9)) (PR w w.heap.size m er) := by
  subst hnl
  have u0 : Upd (fun _ => False) w (w.alloc (.cells cs.toArray 9)) := (Upd.refl _ _).alloc _
  refine (parseR_any _ _ l _ (lit_rwt w l cs h hn) (hs.keep u0) hn hl m er hm).mono ?_
  rintro e w' ⟨p', c', he, hc, ht, u⟩
  exact ⟨p', c', he, hc, own_monoT ht u0.size, u0.trans u (fun _ _ h => h)⟩
/-- The same, spelled out. -/
theorem parse_out (w : World) (hs : StdU w) (l : List Txt) (cs : List Value) (h : cs = l.map fun t => .string (ofL t)) (n : Nat) (hnl : n = l.length) (hn : l.length ≤ 1000) (hl : ∀ t ∈ l, t.length ≤ 10000) (on bc oi oo nl : Bool) (rd : Int) (ps : List Txt) (k : Nat) (hk : k = ps.length) (er : Int) (hm : parseM l = (⟨on, bc, oi, oo, nl, rd, ps⟩, er)) (b : Nat) (hb : b = w.heap.size) :
    Calls Tryd.prog 12 #[.slice (some ⟨b, 0, none⟩) n n] (w.alloc (.cells cs.toArray 9)) fun e w' => ∃ p' c', e = .returned (.tuple #[.agg #[.bool on, .bool bc, .bool oi, .bool oo, .bool nl, .int .i64 rd, .slice p' k c'], .int .i64 er]) ∧ c' ≤ 9223372036854775807 ∧ TxtsAt w' w.heap.size (.slice p' k c') ps ∧ Upd (fun _ => False) w w' := by
  subst hk hb
  exact parse_lit w hs l cs h n hnl hn hl _ er hm
set_option maxHeartbeats 4000000 in
set_option maxRecDepth 100000 in
theorem alive_any (w : World) (hs : StdU w) : Calls Tryd.prog 9 #[] w fun e w' => e = .returned (.bool true) ∧ Upd (fun _ => False) w w' := by
  have P1 := Lib.hid (parse_out w hs ex1 [.string { data := #[111, 110] }, .string { data := #[111, 112, 116, 105, 110] }, .string { data := #[111, 112, 116, 111, 117, 116] }] rfl 3 rfl (by decide) (by decide) _ _ _ _ _ _ _ 0 rfl 132 ex1_eq _ rfl)
  have P2 := Lib.hid (fun W (u : Upd (fun _ => False) w W) b hb => parse_out W (hs.keep u) ex2 [.string { data := #[79, 78] }, .string { data := #[98, 99, 97, 115, 116] }, .string { data := #[80, 114, 101, 102, 105, 120] }, .string { data := #[98] }, .string { data := #[80, 82, 69, 70, 73, 88] }, .string { data := #[97] }, .string { data := #[114, 101, 100, 105, 114, 101, 99, 116] }, .string { data := #[55] }] rfl 8 rfl (by decide) (by decide) _ _ _ _ _ _ _ 2 rfl 0 ex2_eq b hb)
  clear hs
  go_enter Tryd.func9, Tryd.ntmps9
  go_wp2_with fail
  refine P1.out.mono ?_
  rintro e w1 ⟨p1, c1, rfl, hc1, _, u1⟩
  have UA : Hid (Upd (fun _ => False) w (w1.alloc (.cells #[.bool false, .bool false, .bool false, .bool false, .bool false, .int .i64 0, .slice p1 0 c1] 24))) := Lib.hid (u1.alloc _)
  have P2 := Lib.hid (P2.out _ UA.out (w1.heap.size + 1) (by simp))
  clear u1
  go_wp2_with fail
  refine P2.out.mono ?_
  rintro e w2 ⟨p2, c2, rfl, hc2, t2, u2⟩
  have UB := Lib.hid (UA.out.trans u2 (fun _ _ h => h))
  obtain ⟨g, rfl, hg, hcell0⟩ := txts_get (l := [[97], [98]]) t2 (k := 0) (by simp)
  have hcell : w2.cell? ⟨g, 0, none⟩ = some (.string { data := #[97] }) := hcell0
  clear hcell0
  have RI : Hid (∀ o, Calls Tryd.prog 18 #[.agg #[.bool true, .bool true, .bool false, .bool false, .bool false, .int .i64 7, .slice (some ⟨g, 0, none⟩) 2 c2]] (w2.alloc o) fun e w' => e = .returned (.bool true) ∧ Upd (fun _ => False) (w2.alloc o) w') := Lib.hid (fun o => by
    have := right_any ex2M (.slice (some ⟨g, 0, none⟩) 2 c2) (w2.alloc o) ((txts_row t2).keep ((Upd.refl _ _).alloc o) (fun _ _ _ => id)) (by decide) (by decide)
    rw [show rightM ex2M = true by decide +kernel] at this
    exact this)
  clear t2 u2
  go_wp2_with fail
  refine (RI.out _).mono ?_
  rintro e w3 ⟨rfl, u3⟩
  go_wp2
  go_ret
  exact ⟨rfl, (UB.out.alloc _).trans u3 (fun _ _ h => h)⟩
def sPre : Txt := [112, 114, 101, 102, 105, 120]
def sBc : Txt := [98, 99, 97, 115, 116]
def n2 : List Txt := [sOn, sPre]
def n3 : List Txt := [sOn, sPre, [97]]
def n4 : List Txt := [sOn, sBc]
def n5 : List Txt := [sOn, sBc, sPre, [97], sPre, [97, 98]]
theorem n2_eq : parseM n2 = (offM, 131) := parse_none (b := true) (by decide +kernel) (Or.inl rfl) (by rw [optsM_F _ _ _ (Nat.le_refl _)]; decide +kernel)
theorem n3_eq : parseM n3 = (offM, 132) := by
  have h := on_of (t := sOn) (r := [sPre, [97]]) (m := ⟨true, false, false, false, false, 0, [[97]]⟩) (by decide +kernel) (by decide +kernel)
  have e : finM ⟨true, false, false, false, false, 0, [[97]]⟩ = ⟨true, false, false, false, false, 0, [[97]]⟩ := by unfold finM; rw [if_neg (by simp), ordT_one]
  unfold n3
  rw [h, e, if_neg (by decide +kernel)]
theorem n4_eq : parseM n4 = (⟨true, true, false, false, false, 0, [[]]⟩, 0) := by
  have h := on_of (t := sOn) (r := [sBc]) (m := ⟨true, true, false, false, false, 0, []⟩) (by decide +kernel) (by decide +kernel)
  have e : finM ⟨true, true, false, false, false, 0, []⟩ = ⟨true, true, false, false, false, 0, [[]]⟩ := by unfold finM; rw [if_pos (by simp)]
  unfold n4
  rw [h, e, if_pos (by decide +kernel)]
theorem n5_eq : parseM n5 = (offM, 132) := by
  have h := on_of (t := sOn) (r := [sBc, sPre, [97], sPre, [97, 98]]) (m := ⟨true, true, false, false, false, 0, [[97], [97, 98]]⟩) (by decide +kernel) (by decide +kernel)
  have e : finM ⟨true, true, false, false, false, 0, [[97], [97, 98]]⟩ = ⟨true, true, false, false, false, 0, [[97], [97, 98]]⟩ := by
    unfold finM
    rw [if_neg (by simp), show ordT ([[97], [97, 98]] : List Txt) = [[97], [97, 98]] from (ordT_eq (by decide) (by decide)).symm]
  unfold n5
  rw [h, e, if_neg (by decide +kernel)]
end Go.Proofs.YtcpfkkbegnhofaaDoor
/- Walk: ModeNames. -/
set_option linter.unusedVariables false
set_option linter.unusedSimpArgs false
namespace Go.Proofs.YtcpfkkbegnhofaaDoor
open Go.RowKit

def aS (l : List UInt8) : Value := .string ⟨l.toArray⟩
set_option maxHeartbeats 4000000 in
set_option maxRecDepth 100000 in
theorem lawMNames (w : World) (hs : StdU w) : Calls Tryd.prog 5 #[] w fun e w' => e = .returned (.bool true) ∧ Upd (fun _ => False) w w' := by
  have P1 : Hid (Calls Tryd.prog 12 #[.slice none 0 0] w fun e w' => ∃ p' c', e = .returned (.tuple #[.agg #[.bool false, .bool false, .bool false, .bool false, .bool false, .int .i64 0, .slice p' 0 c'], .int .i64 131]) ∧ c' ≤ 9223372036854775807 ∧ TxtsAt w' w.heap.size (.slice p' 0 c') [] ∧ Upd (fun _ => False) w w') :=
    Lib.hid (parseR_any none 0 [] w ⟨Or.inl ⟨_, _, rfl, rfl⟩, by simp, by unfold maxLen; omega⟩ hs (by simp) (by simp) offM 131 rfl)
  have P2 := Lib.hid (fun W (u : Upd (fun _ => False) w W) b hb => parse_out W (hs.keep u) n2 [.string { data := #[111, 110] }, .string { data := #[112, 114, 101, 102, 105, 120] }] rfl 2 rfl (by decide) (by decide) _ _ _ _ _ _ _ 0 rfl 131 n2_eq b hb)
  have P3 := Lib.hid (fun W (u : Upd (fun _ => False) w W) b hb => parse_out W (hs.keep u) n3 [.string { data := #[111, 110] }, .string { data := #[112, 114, 101, 102, 105, 120] }, .string { data := #[97] }] rfl 3 rfl (by decide) (by decide) _ _ _ _ _ _ _ 0 rfl 132 n3_eq b hb)
  have P4 := Lib.hid (fun W (u : Upd (fun _ => False) w W) b hb => parse_out W (hs.keep u) n4 [.string { data := #[111, 110] }, .string { data := #[98, 99, 97, 115, 116] }] rfl 2 rfl (by decide) (by decide) _ _ _ _ _ _ _ 1 rfl 0 n4_eq b hb)
  have P5 := Lib.hid (fun W (u : Upd (fun _ => False) w W) b hb => parse_out W (hs.keep u) n5 [.string { data := #[111, 110] }, .string { data := #[98, 99, 97, 115, 116] }, .string { data := #[112, 114, 101, 102, 105, 120] }, .string { data := #[97] }, .string { data := #[112, 114, 101, 102, 105, 120] }, .string { data := #[97, 98] }] rfl 6 rfl (by decide) (by decide) _ _ _ _ _ _ _ 0 rfl 132 n5_eq b hb)
  have AL := Lib.hid (fun W (u : Upd (fun _ => False) w W) => alive_any W (hs.keep u))
  clear hs
  go_enter Tryd.func5, Tryd.ntmps5
  go_wp2_with fail
  refine P1.out.mono ?_
  rintro e w1 ⟨p1, c1, rfl, hc1, _, u1⟩
  have U1 : Hid (Upd (fun _ => False) w (w1.alloc (.cells #[.bool false, .bool false, .bool false, .bool false, .bool false, .int .i64 0, .slice p1 0 c1] 24))) := Lib.hid (u1.alloc _)
  have P2 := Lib.hid (P2.out _ U1.out (w1.heap.size + 1) (by simp))
  clear u1
  go_wp2_with fail
  refine P2.out.mono ?_
  rintro e w2 ⟨p2, c2, rfl, hc2, _, u2⟩
  have U2 : Hid (Upd (fun _ => False) w (w2.alloc (.cells #[.bool false, .bool false, .bool false, .bool false, .bool false, .int .i64 0, .slice p2 0 c2] 24))) := Lib.hid ((U1.out.trans u2 (fun _ _ h => h)).alloc _)
  have P3 := Lib.hid (P3.out _ U2.out (w2.heap.size + 1) (by simp))
  clear u2
  go_wp2_with fail
  refine P3.out.mono ?_
  rintro e w3 ⟨p3, c3, rfl, hc3, _, u3⟩
  have U3 : Hid (Upd (fun _ => False) w (w3.alloc (.cells #[.bool false, .bool false, .bool false, .bool false, .bool false, .int .i64 0, .slice p3 0 c3] 24))) := Lib.hid ((U2.out.trans u3 (fun _ _ h => h)).alloc _)
  have P4 := Lib.hid (P4.out _ U3.out (w3.heap.size + 1) (by simp))
  clear u3
  go_wp2_with fail
  refine P4.out.mono ?_
  rintro e w4 ⟨p4, c4, rfl, hc4, t4, u4⟩
  obtain ⟨g, rfl, hg, hcell0⟩ := txts_get (l := [[]]) t4 (k := 0) (by simp)
  have hcell1 : w4.cell? ⟨g, 0, none⟩ = some (.string { data := #[] }) := hcell0
  clear hcell0 t4
  have U4 : Hid (Upd (fun _ => False) w (w4.alloc (.cells #[.bool true, .bool true, .bool false, .bool false, .bool false, .int .i64 0, .slice (some ⟨g, 0, none⟩) 1 c4] 24))) := Lib.hid ((U3.out.trans u4 (fun _ _ h => h)).alloc _)
  have B4 := Lib.hid (Blk.made w4 [.bool true, .bool true, .bool false, .bool false, .bool false, .int .i64 0, .slice (some ⟨g, 0, none⟩) 1 c4] 24)
  have C4 : Hid ((w4.alloc (.cells #[.bool true, .bool true, .bool false, .bool false, .bool false, .int .i64 0, .slice (some ⟨g, 0, none⟩) 1 c4] 24)).cell? ⟨g, 0, none⟩ = some (.string { data := #[] })) := Lib.hid ((((Upd.refl (fun _ => False) w4).alloc _).cell (p := ⟨g, 0, none⟩) hg id).trans hcell1)
  have P5 := Lib.hid (P5.out _ U4.out (w4.heap.size + 1) (by simp))
  have hg4 : Hid (g < (w4.alloc (.cells #[.bool true, .bool true, .bool false, .bool false, .bool false, .int .i64 0, .slice (some ⟨g, 0, none⟩) 1 c4] 24)).heap.size) := Lib.hid (by simp; omega)
  clear u4 hcell1
  go_wp2_with fail
  refine P5.out.mono ?_
  rintro e w5 ⟨p5, c5, rfl, hc5, _, u5⟩
  have U5 : Hid (Upd (fun _ => False) w (w5.alloc (.cells #[.bool false, .bool false, .bool false, .bool false, .bool false, .int .i64 0, .slice p5 0 c5] 24))) := Lib.hid ((U4.out.trans u5 (fun _ _ h => h)).alloc _)
  have B5 := Lib.hid ((u5.blk B4.out id).alloc (.cells #[.bool false, .bool false, .bool false, .bool false, .bool false, .int .i64 0, .slice p5 0 c5] 24))
  have uu := u5.trans ((Upd.refl (fun _ => False) w5).alloc (.cells #[.bool false, .bool false, .bool false, .bool false, .bool false, .int .i64 0, .slice p5 0 c5] 24)) (fun _ _ h => h)
  have C5 := Lib.hid ((uu.cell (p := ⟨g, 0, none⟩) hg4.out id).trans C4.out)
  have hg5 := Lib.hid (Nat.lt_of_lt_of_le hg4.out uu.size)
  have AL := Lib.hid (AL.out _ U5.out)
  clear u5 uu B4 C4 hg4 hg
  go_wp2_with fail
  refine AL.out.mono ?_
  rintro e w6 ⟨rfl, u6⟩
  have U6 := Lib.hid (U5.out.trans u6 (fun _ _ h => h))
  obtain ⟨y1, g1, d0, d1, d2, d3, d4, d5, d6⟩ := mode_facts (u6.blk B5.out id)
  have hcell := (u6.cell (p := ⟨g, 0, none⟩) hg5.out id).trans C5.out
  have hg6 := Nat.lt_of_lt_of_le hg5.out u6.size
  have CA : Hid (Calls Tryd.prog 19 #[.agg #[.bool true, .bool true, .bool false, .bool false, .bool false, .int .i64 0, .slice (some ⟨g, 0, none⟩) 1 c4], .bool true] w6 fun e w' => e = .returned (.int .i64 132) ∧ Upd (fun _ => False) w6 w') := Lib.hid (caching_any ⟨true, true, false, false, false, 0, [[]]⟩ _ true w6)
  have TR : Hid (∀ W, Calls Tryd.prog 20 #[.agg #[.bool true, .bool true, .bool false, .bool false, .bool false, .int .i64 0, .slice (some ⟨g, 0, none⟩) 1 c4], .int .i64 1] W fun e w' => e = .returned (.bool false) ∧ Upd (fun _ => False) W w') := Lib.hid (fun W => tracks_any ⟨true, true, false, false, false, 0, [[]]⟩ _ 1 W)
  have B6 := Lib.hid (u6.blk B5.out id)
  clear u6 B5 C5
  go_wp2_with fail
  refine CA.out.mono ?_
  rintro e w7 ⟨rfl, u7⟩
  obtain ⟨y1, g1, d0, d1, d2, d3, d4, d5, d6⟩ := mode_facts (u7.blk B6.out id)
  have U7 := Lib.hid (U6.out.trans u7 (fun _ _ h => h))
  clear u7
  go_wp2_with fail
  refine (TR.out _).mono ?_
  rintro e w8 ⟨rfl, u8⟩
  go_wp2
  go_ret
  exact ⟨rfl, U7.out.trans u8 (fun _ _ h => h)⟩
end Go.Proofs.YtcpfkkbegnhofaaDoor
/- What the listed variables give the walks, and the witness. -/
set_option linter.unusedVariables false
set_option linter.unusedSimpArgs false
namespace Go.Proofs.YtcpfkkbegnhofaaDoor
open Go.ChangeShapes Go.WideShapes Go.ChangeAt Go.WideMaps Go.WideElems Go.RowKit Go.Stop Go.Extern

theorem int_bounds {n : Int} (h : (Lit.int .i64 n).wf = true) : -9223372036854775808 ≤ n ∧ n ≤ 9223372036854775807 := by
  have := bounds_i64 h
  omega

def laidAll : List (String × DataW Unit) := [("math/bits.deBruijn32tab", Rows.laid_math_bits_deBruijn32tab), ("math/bits.deBruijn64tab", Rows.laid_math_bits_deBruijn64tab), ("internal/strconv.uint64pow10", Lib.tabData .u64 Lib.pow10Tab), ("unicode/utf8.acceptRanges", Rows.laid_unicode_utf8_acceptRanges), ("strconv.ErrRange", Rows.laid_strconv_ErrRange), ("strconv.ErrSyntax", Rows.laid_strconv_ErrSyntax), ("unicode/utf8.first", Rows.laid_unicode_utf8_first)]

theorem star : "*" ++ "errors.errorString" = "*errors.errorString" := by decide
theorem rowErr (u : TypeId) (h : Tryd.prog.typeName? 3 u = some "*errors.errorString") : u = 135 :=
  typeName_ptr_named (nm := "errors.errorString") (by rw [star]; kernel_rfl) (by kernel_rfl) (by decide) u (by rw [star]; exact h)

theorem door_met (os : Os) (args : Array Value) : laidMetH Tryd.prog laidAll ((World.laidAll Tryd.prog os laidAll).forCall (fun _ _ => 0) ⟨#[], args, []⟩).memory := by
  rw [MakeChecks.laidMetH_plain _ _ _ (by kernel_rfl)]
  exact laidMet_laidAll _ (by kernel_rfl) (by kernel_rfl)
theorem door_shaped (os : Os) (args : Array Value) : ((World.laidAll Tryd.prog os laidAll).forCall (fun _ _ => 0) ⟨#[], args, []⟩).Shaped Tryd.prog := World.shaped_of_ZipB (by kernel_rfl) (by kernel_rfl)

theorem std_of_laid {W : World} (h : laidMetH Tryd.prog laidAll W) : Std W := by
  rw [MakeChecks.laidMetH_plain _ _ _ (by kernel_rfl)] at h
  have h3 := laidMet.tail (laidMet.tail h)
  have h4 := laidMet.tail (laidMet.tail h3)
  have h5 := laidMet.tail h4
  refine ⟨Lib.tabIs_of_head (g := 5) (by kernel_rfl) (by kernel_rfl) Tryd.underlying139 Tryd.underlying98 (by kernel_rfl) (by kernel_rfl) h3, ?_, ?_⟩
  · obtain ⟨a, s, h1, _⟩ := laid_sentinel (g := 3) h5 (by kernel_rfl) (by kernel_rfl) Tryd.underlying77 rowErr Tryd.underlying135 Tryd.underlying137 rfl rfl Tryd.underlying9 (by kernel_rfl) (by kernel_rfl)
    exact ⟨_, _, h1⟩
  · obtain ⟨a, s, h1, _⟩ := laid_sentinel (g := 4) h4 (by kernel_rfl) (by kernel_rfl) Tryd.underlying77 rowErr Tryd.underlying135 Tryd.underlying137 rfl rfl Tryd.underlying9 (by kernel_rfl) (by kernel_rfl)
    exact ⟨_, _, h1⟩
theorem first_same : Rows.laid_unicode_utf8_first = Lib.firstData := by kernel_rfl
theorem accept_same : (Rows.laid_unicode_utf8_acceptRanges : DataW Unit) = Lib.acceptData := by kernel_rfl
theorem stdU_of_laid {W : World} (h : laidMetH Tryd.prog laidAll W) : StdU W := by
  refine ⟨std_of_laid h, ?_⟩
  rw [MakeChecks.laidMetH_plain _ _ _ (by kernel_rfl)] at h
  have h1 := Lib.laidMet.reads h (n := "unicode/utf8.first") (d := Rows.laid_unicode_utf8_first) (by simp [laidAll])
  have h2 := Lib.laidMet.reads h (n := "unicode/utf8.acceptRanges") (d := Rows.laid_unicode_utf8_acceptRanges) (by simp [laidAll])
  rw [first_same] at h1
  rw [accept_same] at h2
  exact utf8Tabs_of_reads Tryd.lays260 ⟨by kernel_rfl, by kernel_rfl, by kernel_rfl, by kernel_rfl, by kernel_rfl, by kernel_rfl, by kernel_rfl⟩ h1 h2
end Go.Proofs.YtcpfkkbegnhofaaDoor
