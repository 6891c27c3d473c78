/- Walk: New. -/
import Derived.Test.YtgdenmddbgcacaaGreatDoorK26
import Derived.Test.YtgdenmddbgcacaaGreatDoorK21
import Derived.RegionTactic
import Derived.Test.YtgdenmddbgcacaaGreatDoorK14
import Derived.Test.YtgdenmddbgcacaaGreatDoorK23
import Derived.Test.YtgdenmddbgcacaaGreatDoorK24
import Derived.Test.YtgdenmddbgcacaaGreatDoorK25
set_option linter.unusedVariables false
set_option linter.unusedSimpArgs false
namespace Go.Proofs.YtgdenmddbgcacaaGreatDoor
open Go.RowKit

theorem new_mem {w w1 w2 w3 w4 : World} {tb rb xb : Nat} {ET ER EX : Nat → Prop} {bud : Int} (hB : Blk w4 w3.heap.size [ptr tb, .slice none 0 0, .slice none 0 0, ptr rb, ptr xb, .int .i64 0, .int .i64 (newP bud).budget, .slice none 0 0] 44)
    (t1 : TabM w4 tb [] 0 ET) (t2 : RecRep w4 rb [] ER) (t3 : ExpAt w4 w.heap.size xb [] EX) (l1 : ∀ k, ET k → k < w1.heap.size) (l2 : ∀ k, ER k → k < w2.heap.size) (l3 : ∀ k, EX k → k < w3.heap.size)
    (g1 : ∀ k, ET k → w.heap.size ≤ k) (g2 : ∀ k, ER k → w1.heap.size ≤ k) (g3 : ∀ k, EX k → w2.heap.size ≤ k) (z1 : w.heap.size ≤ w1.heap.size) (z2 : w1.heap.size ≤ w2.heap.size) (z3 : w2.heap.size ≤ w3.heap.size) (z4 : w4.heap.size = w3.heap.size + 1)
    (hstd : Std w4) (hlow : lowB ≤ w.heap.size) : SSt w4 w.heap.size w3.heap.size (fun _ => False) (newP bud) 0 := by
  obtain ⟨F, hF⟩ : ∃ F : Nat → Nat → Prop, F = fun i b => (i = 0 ∧ b = w3.heap.size) ∨ (i = 1 ∧ ET b) ∨ (i = 4 ∧ ER b) ∨ (i = 5 ∧ EX b) := ⟨_, rfl⟩
  have rng : ∀ i b, F i b → (i = 0 ∧ b = w3.heap.size) ∨ (i = 1 ∧ w.heap.size ≤ b ∧ b < w1.heap.size) ∨ (i = 4 ∧ w1.heap.size ≤ b ∧ b < w2.heap.size) ∨ (i = 5 ∧ w2.heap.size ≤ b ∧ b < w3.heap.size) := by
    intro i b h
    rw [hF] at h
    rcases h with ⟨rfl, h⟩ | ⟨rfl, h⟩ | ⟨rfl, h⟩ | ⟨rfl, h⟩
    · exact Or.inl ⟨rfl, h⟩
    · exact Or.inr (Or.inl ⟨rfl, g1 b h, l1 b h⟩)
    · exact Or.inr (Or.inr (Or.inl ⟨rfl, g2 b h, l2 b h⟩))
    · exact Or.inr (Or.inr (Or.inr ⟨rfl, g3 b h, l3 b h⟩))
  have e1 : ET = F 1 := by rw [hF]; funext b; simp
  have e4 : ER = F 4 := by rw [hF]; funext b; simp
  have e5 : EX = F 5 := by rw [hF]; funext b; simp
  have e0 : F 0 w3.heap.size := by rw [hF]; exact Or.inl ⟨rfl, rfl⟩
  rw [e1] at t1
  rw [e4] at t2
  rw [e5] at t3
  have raw : SRaw w4 w.heap.size w3.heap.size ⟨tb, rb, xb, .slice none 0 0, .slice none 0 0, .slice none 0 0, 0, (newP bud).budget, [], 0, [], [], [], [], []⟩ F :=
    ⟨hB, t1, OwnN.none, World.ownsRow_nil _ _ _ _, t2, t3, OwnN.none, e0, (fun b hb => by cases hb), (fun b hb => by cases hb), (fun b hb => by cases hb),
      (fun i j b hi hj => by have a := rng i b hi; have c := rng j b hj; omega), (fun i b hi => by have a := rng i b hi; omega), (by omega), hstd, hlow⟩
  refine ⟨_, fun _ => False, ⟨F, raw, fun i b _ h => h.elim id id, fun b h => h.elim (fun g => g.elim) (fun g => g.elim)⟩, fun b h => h.elim, ?_, Nat.le_refl _⟩
  exact ⟨POk.new bud, fun k => by simp [aget, newP, keysC], by simp [akeys], by simp [newP], fun k k' i h => by simp [aget] at h, by simp, by simp, rfl, rfl, rfl, rfl, rfl, by simp, by simp [newP]⟩
set_option maxHeartbeats 8000000 in
set_option maxRecDepth 100000 in
theorem snew_any (bud : Int) (w : World) (hs : Std w) :
    Calls Tryz.prog 7 #[.int .i64 bud] w fun e w' => ∃ sb, e = .returned (.pointer (some ⟨sb, 0, none⟩)) ∧ SSt w' w.heap.size sb (fun _ => False) (newP bud) 0 ∧ Upd (fun _ => False) w w' := by
  have HS := Lib.hid hs
  have T := Lib.hid (mnew_any w)
  clear hs
  go_enter Tryz.func7, Tryz.ntmps7
  go_wp2_with fail
  refine (T.out).mono ?_
  rintro e w1 ⟨tb, ET, rfl, t, u1, g1⟩
  have T1 := Lib.hid t
  have U1 := Lib.hid u1
  have G1 := Lib.hid g1
  clear t u1 g1 T
  go_wp2_with fail
  refine (rnew_any w1).mono ?_
  rintro e w2 ⟨rb, ER, rfl, t, u2, g2⟩
  have T2 := Lib.hid t
  have U2 := Lib.hid u2
  have G2 := Lib.hid g2
  clear t u2 g2
  go_wp2_with fail
  refine (xnew_any w2 w.heap.size).mono ?_
  rintro e w3 ⟨xb, EX, rfl, t, u3, g3⟩
  have T3 := Lib.hid t
  have U3 := Lib.hid u3
  have G3 := Lib.hid g3
  clear t u3 g3
  go_wp2
  go_ret
  have u4 : Upd (fun _ => False) w3 (w3.alloc (.cells #[ptr tb, .slice none 0 0, .slice none 0 0, ptr rb, ptr xb, .int .i64 0, .int .i64 (newP bud).budget, .slice none 0 0] 44)) := (Upd.refl _ _).alloc _
  have hB := Blk.made w3 [ptr tb, .slice none 0 0, .slice none 0 0, ptr rb, ptr xb, .int .i64 0, .int .i64 (newP bud).budget, .slice none 0 0] 44
  have t1 := ((T1.out.keep U2.out (fun _ _ h => h)).keep U3.out (fun _ _ h => h)).keep u4 (fun _ _ h => h)
  have t2 := (T2.out.keep U3.out (fun _ _ h => h)).keep u4 (fun _ _ h => h)
  have t3 := T3.out.keep u4 (fun _ _ h => h)
  have uu : Upd (fun _ => False) w (w3.alloc (.cells #[ptr tb, .slice none 0 0, .slice none 0 0, ptr rb, ptr xb, .int .i64 0, .int .i64 (newP bud).budget, .slice none 0 0] 44)) := ((U1.out.trans U2.out (fun _ _ h => h)).trans U3.out (fun _ _ h => h)).trans u4 (fun _ _ h => h)
  have hstd := HS.out.keep uu
  exact ⟨w3.heap.size, rfl, new_mem hB t1 t2 t3 T1.out.lt T2.out.lt T3.out.lt G1.out G2.out G3.out U1.out.size U2.out.size U3.out.size (by simp) hstd HS.out.low, uu⟩
end Go.Proofs.YtgdenmddbgcacaaGreatDoor
/- The chapter's example. -/
set_option linter.unusedVariables false
set_option linter.unusedSimpArgs false
namespace Go.Proofs.YtgdenmddbgcacaaGreatDoor
open Go.RowKit

def tenI : It := ⟨1, { data := #[97, 98, 99, 100, 101, 102, 103, 104, 105, 106] }, []⟩
set_option maxRecDepth 100000 in
theorem ten_any (w : World) : Calls Tryz.prog 22 #[] w fun e w' => e = .returned (itV tenI (.slice none 0 0)) ∧ Upd (fun _ => False) w w' := by
  unfold itV tenI
  go_enter Tryz.func22, Tryz.ntmps22
  go_wp2
  exact bodyPost_ret (v := .agg #[.int .i64 1, .string { data := #[97, 98, 99, 100, 101, 102, 103, 104, 105, 106] }, .slice none 0 0]) (by simp [results, Tryz.results22, go_sem]) rfl ⟨rfl, (Upd.refl _ w).alloc _⟩
def kA : ByteArray := { data := #[97] }
def kB : ByteArray := { data := #[98] }
def kC : ByteArray := { data := #[99] }
def cT (k : ByteArray) : Ce := ⟨k, tenI, -1⟩
theorem al_n : newP 120 = ⟨[], 120, []⟩ := by kernel_rfl
theorem al_1 : putP ⟨[], 120, []⟩ kA tenI false 0 = ⟨[cT kA], 120, [(1, kA)]⟩ ∧ putE (dueP ⟨[], 120, []⟩ kA 0) kA tenI = 0 := ⟨by kernel_rfl, by kernel_rfl⟩
theorem al_2 : putP ⟨[cT kA], 120, [(1, kA)]⟩ kB tenI false 0 = ⟨[cT kA, cT kB], 120, [(1, kA), (1, kB)]⟩ ∧ putE (dueP ⟨[cT kA], 120, [(1, kA)]⟩ kB 0) kB tenI = 0 := ⟨by kernel_rfl, by kernel_rfl⟩
theorem al_3 : putP ⟨[cT kA, cT kB], 120, [(1, kA), (1, kB)]⟩ kC tenI false 0 = ⟨[cT kB, cT kC], 120, [(1, kA), (1, kB), (1, kC), (4, kA)]⟩ ∧ putE (dueP ⟨[cT kA, cT kB], 120, [(1, kA), (1, kB)]⟩ kC 0) kC tenI = 0 := ⟨by kernel_rfl, by kernel_rfl⟩
theorem al_4 : dueP ⟨[cT kB, cT kC], 120, []⟩ kA 0 = ⟨[cT kB, cT kC], 120, []⟩ ∧ wasP ⟨[cT kB, cT kC], 120, []⟩ kA = false ∧ gotI ⟨[cT kB, cT kC], 120, []⟩ kA = zeroIt ∧ getP ⟨[cT kB, cT kC], 120, []⟩ kA 0 = ⟨[cT kB, cT kC], 120, []⟩ ∧ bytesC [cT kB, cT kC] = 118 := ⟨by kernel_rfl, by kernel_rfl, by kernel_rfl, by kernel_rfl, by kernel_rfl⟩
theorem nofld (w : World) (Y : Nat → Prop) : FldAt w Y (.slice none 0 0) tenI.flds := ⟨Or.inl ⟨_, _, rfl, rfl⟩, Or.inl rfl⟩
theorem ev_cells {w : World} {v : Value} {l : List Ev} (h : RowOf evc 2 w v l) {k : Nat} {d : Ev} (hk : l[k]? = some d) : ∃ b off cap, v = .slice (some ⟨b, off, none⟩) l.length cap ∧ b < w.heap.size ∧ w.cell? ⟨b, off + k * 2, none⟩ = some (.int .i64 d.1) ∧ w.cell? ⟨b, off + k * 2 + 1, none⟩ = some (.string d.2) := by
  rcases h with ⟨_, _, _, e⟩ | ⟨b, off, c, e, hb, _, hc⟩
  · rw [e] at hk; simp at hk
  · refine ⟨b, off, c, e, hb, ?_, ?_⟩
    · have := hc k d hk 0 (by omega); rw [Nat.add_zero] at this; simpa [evc] using this
    · have := hc k d hk 1 (by omega); rw [← Nat.add_assoc] at this; simpa [evc] using this
set_option maxHeartbeats 8000000 in
set_option maxRecDepth 100000 in
theorem alive12_any (w : World) (hs : Std w) : Calls Tryz.prog 5 #[] w fun e w' => e = .returned (.bool true) ∧ Upd (fun _ => False) w w' := by
  have NW := Lib.hid (snew_any 120 w hs)
  rw [al_n] at NW
  clear hs
  go_enter Tryz.func5, Tryz.ntmps5
  go_wp2_with fail
  refine (NW.out).mono ?_
  rintro e w1 ⟨sb, rfl, s1, u1⟩
  have S1 := Lib.hid s1
  have U1 := Lib.hid u1
  clear s1 u1 NW
  go_wp2_with fail
  refine (ten_any _).mono ?_
  rintro e w2 ⟨rfl, u2⟩
  have P1 := Lib.hid (sput_any (S1.out.keep0 u2) kA tenI (.slice none 0 0) false 0 (nofld _ _) (by omega) (by decide) (by decide))
  rw [al_1.1, al_1.2] at P1
  unfold kA at P1
  have U2 := Lib.hid (U1.out.trans u2 (fun _ _ h => h))
  clear u2 S1 U1
  go_wp2_with fail
  refine (P1.out).mono ?_
  rintro e w3 ⟨rfl, s3, u3⟩
  have S3 := Lib.hid s3
  have U3 := Lib.hid (U2.out.trans u3 (fun i hi h => by have := h.1; omega))
  clear s3 u3 P1 U2
  go_wp2_with fail
  refine (ten_any _).mono ?_
  rintro e w4 ⟨rfl, u4⟩
  have P2 := Lib.hid (sput_any (S3.out.keep0 u4) kB tenI (.slice none 0 0) false 0 (nofld _ _) (by omega) (by decide) (by simp))
  have e2 := al_2
  unfold kA at e2
  rw [e2.1, e2.2] at P2
  unfold kB at P2
  have U4 := Lib.hid (U3.out.trans u4 (fun _ _ h => h))
  clear u4 S3 U3 e2
  go_wp2_with fail
  refine (P2.out).mono ?_
  rintro e w5 ⟨rfl, s5, u5⟩
  have S5 := Lib.hid s5
  have U5 := Lib.hid (U4.out.trans u5 (fun i hi h => by have := h.1; omega))
  clear s5 u5 P2 U4
  go_wp2_with fail
  refine (ten_any _).mono ?_
  rintro e w6 ⟨rfl, u6⟩
  have P3 := Lib.hid (sput_any (S5.out.keep0 u6) kC tenI (.slice none 0 0) false 0 (nofld _ _) (by omega) (by decide) (by simp))
  have e3 := al_3
  unfold kA kB at e3
  rw [e3.1, e3.2] at P3
  unfold kC at P3
  have U6 := Lib.hid (U5.out.trans u6 (fun _ _ h => h))
  clear u6 S5 U5 e3
  go_wp2_with fail
  refine (P3.out).mono ?_
  rintro e w7 ⟨rfl, s7, u7⟩
  have EV := Lib.hid (sevents_any s7)
  have U7 := Lib.hid (U6.out.trans u7 (fun i hi h => by have := h.1; omega))
  clear s7 u7 P3 U6
  go_wp2_with fail
  refine (EV.out).mono ?_
  rintro e w8 ⟨v8, rfl, o8, s8, u8⟩
  have GT := Lib.hid (sget_any s8 kA 0 (by omega) (by decide) (by simp))
  have e4 := al_4
  unfold kB kC at e4
  rw [e4.1, e4.2.1, e4.2.2.1, e4.2.2.2.1] at GT
  have BY := Lib.hid e4.2.2.2.2
  unfold kA itV zeroIt at GT
  have O8 := Lib.hid o8
  have U8 := Lib.hid (U7.out.trans u8 (fun i hi h => by have := h.1; omega))
  clear o8 s8 u8 EV U7 e4
  go_wp2_with fail
  refine (GT.out).mono ?_
  rintro e w9 ⟨v9, rfl, r9, s9, u9, f9⟩
  obtain ⟨p9, c9, e9, _⟩ := r9.len
  subst e9
  have O9 := O8.out.keep u9 (fun b hb g => g.2 (Or.inr hb))
  obtain ⟨b, off, cap, ev, hb, c0, c1⟩ := ev_cells (O9.row (fun _ => rfl)) (k := 3) (d := (4, { data := #[97] })) rfl
  subst ev
  have S9 := Lib.hid s9
  have U9 := Lib.hid (U8.out.trans u9 (fun i hi h => by have := h.1; omega))
  clear O8 U8 s9 u9 f9 O9 GT r9
  obtain ⟨tb, x0, hsb, TL⟩ := S9.out.tlenAt (by omega)
  have HTL := Lib.hid TL
  have HBY := Lib.hid (fun W (u : Upd (fun _ => False) w9 W) => sbytes_any (S9.out.keep0 u))
  rw [BY.out] at HBY
  clear TL BY S9
  have ua : Upd (fun _ => False) w9 (w9.alloc (.cells #[.int .i64 0, .string ByteArray.empty, .slice p9 0 c9] 31)) := (Upd.refl _ _).alloc _
  go_wp2_with fail
  refine ((HTL.out _ ua)).mono ?_
  rintro e w11 ⟨rfl, u11⟩
  have ub := Lib.hid (ua.trans u11 (fun _ _ h => h))
  clear ua u11 HTL
  go_wp2_with fail
  refine ((HBY.out _ ub.out)).mono ?_
  rintro e w12 ⟨rfl, rfl⟩
  go_wp2
  go_ret
  exact ⟨rfl, U9.out.trans ub.out (fun _ _ h => h)⟩
end Go.Proofs.YtgdenmddbgcacaaGreatDoor
/- The document's items: Same, Right. -/
set_option linter.unusedVariables false
set_option linter.unusedSimpArgs false
namespace Go.Proofs.YtgdenmddbgcacaaGreatDoor
open Go.RowKit

def sameI (i j : It) : Bool := decide (i.kind = j.kind) && decide (i.text = j.text) && decide (i.flds = j.flds)
theorem beqT {a b : ByteArray} (h : a = b) : (a.toList == b.toList) = true := by subst h; simp
theorem nbeqT {a b : ByteArray} (h : ¬ a = b) : (a.toList == b.toList) = false := by
  cases e : a.toList == b.toList with
  | false => rfl
  | true => exact absurd (toList_eq e) h
set_option maxHeartbeats 8000000 in
set_option maxRecDepth 100000 in
theorem sameIt_any (i j : It) (v u : Value) (w : World) (hv : RowOf fdc 2 w v i.flds) (hu : RowOf fdc 2 w u j.flds) :
    Calls Tryz.prog 20 #[itV i v, itV j u] w fun e w' => e = .returned (.bool (sameI i j)) ∧ Upd (fun _ => False) w w' := by
  obtain ⟨ik, it, il⟩ := i
  obtain ⟨jk, jt, jl⟩ := j
  obtain ⟨p, c, ev, hm⟩ := hv.len
  obtain ⟨p2, c2, ev2, hm2⟩ := hu.len
  simp only at ev ev2 hm hm2 hv hu
  subst ev ev2
  unfold maxLen at hm hm2
  show Calls _ _ #[.agg #[.int .i64 ik, .string it, .slice p il.length c], .agg #[.int .i64 jk, .string jt, .slice p2 jl.length c2]] _ _
  have U0 : Hid (Upd (fun _ => False) w ((w.alloc (.cells #[.int .i64 ik, .string it, .slice p il.length c] 31)).alloc (.cells #[.int .i64 jk, .string jt, .slice p2 jl.length c2] 31))) := ((Upd.refl _ _).alloc _).alloc _
  by_cases h1 : ik = jk
  · subst h1
    by_cases h2 : it = jt
    · subst h2
      by_cases h3 : il.length = jl.length
      · have t3 : ((il.length : Int) != (jl.length : Int)) = false := by simp [h3]
        have R : sameI ⟨ik, it, il⟩ ⟨ik, it, jl⟩ = decide (il = jl) := by unfold sameI; simp
        rw [R]
        have HV := Lib.hid hv
        have HU := Lib.hid hu
        have H3 := Lib.hid h3
        clear R hv hu h3
        go_enter Tryz.func20, Tryz.ntmps20
        go_wp2
        go_loopw [4, 30] (fun v4 x wr => v4 = .bool false ∧ ∃ (k : Nat), k ≤ il.length ∧ x = .int .i64 (k : Int) ∧ Hid (il.take k = jl.take k) ∧ Hid (Upd (fun _ => False) ((w.alloc (.cells #[.int .i64 ik, .string it, .slice p il.length c] 31)).alloc (.cells #[.int .i64 ik, .string it, .slice p2 jl.length c2] 31)) wr)) (fun _ x _ => il.length - (intOf x).toNat)
        case atStart => exact ⟨rfl, 0, by omega, rfl, by show il.take 0 = jl.take 0; simp, Upd.refl _ _⟩
        case round =>
          obtain ⟨rfl, k, hkl, rfl, T, U⟩ := hrel
          have UW := Lib.hid (U0.out.trans U.out (fun _ _ h => h))
          by_cases hlt : k < il.length
          · have hlt2 : k < jl.length := by have := H3.out; omega
            obtain ⟨d, hd⟩ : ∃ d, il[k]? = some d := ⟨_, List.getElem?_eq_getElem hlt⟩
            obtain ⟨e, he⟩ : ∃ d, jl[k]? = some d := ⟨_, List.getElem?_eq_getElem hlt2⟩
            obtain ⟨b, off, cap, ev, hb, c0, c1⟩ := fd_cells HV.out hd
            obtain ⟨b2, off2, cap2, ev2, hb2, d0, d1⟩ := fd_cells HU.out he
            injection ev with ev1 _ ev3
            injection ev2 with ev21 _ ev23
            subst ev1 ev3 ev21 ev23
            have c0 := (UW.out.cell (p := ⟨b, off + k * 2, none⟩) hb (fun h => h)).trans c0
            have c1 := (UW.out.cell (p := ⟨b, off + k * 2 + 1, none⟩) hb (fun h => h)).trans c1
            have d0 := (UW.out.cell (p := ⟨b2, off2 + k * 2, none⟩) hb2 (fun h => h)).trans d0
            have d1 := (UW.out.cell (p := ⟨b2, off2 + k * 2 + 1, none⟩) hb2 (fun h => h)).trans d1
            have hb3 : b < wr.heap.size := Nat.lt_of_lt_of_le hb UW.out.size
            have hb4 : b2 < wr.heap.size := Nat.lt_of_lt_of_le hb2 UW.out.size
            have BI := (U.out.blk ((Blk.made w [.int .i64 ik, .string it, .slice (some ⟨b, off, none⟩) il.length c] 31).alloc (.cells #[.int .i64 ik, .string it, .slice (some ⟨b2, off2, none⟩) jl.length c2] 31)) (fun h => h))
            have BJ := (U.out.blk (Blk.made (w.alloc (.cells #[.int .i64 ik, .string it, .slice (some ⟨b, off, none⟩) il.length c] 31)) [.int .i64 ik, .string it, .slice (some ⟨b2, off2, none⟩) jl.length c2] 31) (fun h => h))
            have i2 := BI.cellAt (i := 2) rfl
            have j2 := BJ.cellAt (i := 2) rfl
            have li := BI.lt
            have lj := BJ.lt
            have hsz : (w.alloc (.cells #[.int .i64 ik, .string it, .slice (some ⟨b, off, none⟩) il.length c] 31)).heap.size = w.heap.size + 1 := by simp
            rw [hsz] at j2 lj
            have hq : (k : Int) < (il.length : Int) := by omega
            have hq2 : (k : Int) < (jl.length : Int) := by omega
            have TT : Hid (il.take (k + 1) = il.take k ++ [d] ∧ jl.take (k + 1) = jl.take k ++ [e]) := by
              obtain ⟨_, r1⟩ := List.getElem?_eq_some_iff.1 hd
              obtain ⟨_, r2⟩ := List.getElem?_eq_some_iff.1 he
              exact ⟨by rw [List.take_succ_eq_append_getElem hlt, r1], by rw [List.take_succ_eq_append_getElem hlt2, r2]⟩
            obtain ⟨d1', d2'⟩ := d
            obtain ⟨e1', e2'⟩ := e
            simp only at c0 c1 d0 d1
            clear hd he BI BJ hsz
            by_cases g1 : d1' = e1'
            · subst g1
              by_cases g2 : d2' = e2'
              · subst g2
                have HT : Hid (il.take (k + 1) = jl.take (k + 1)) := by show _ = _; rw [TT.out.1, TT.out.2, T.out]
                go_wp2
                go_region
                go_wp2
                go_roundw
                case rel => exact ⟨rfl, k + 1, by omega, by go_num, HT, U.out.drew⟩
                case measure => simp [intOf]; omega
              · have n2 := nbeqT g2
                have n3 : ¬ d2'.toList = e2'.toList := fun h => g2 (toList_eq (by rw [h]; simp))
                have NE : Hid (¬ il = jl) := fun h => by
                  have a1 := TT.out.1
                  have a2 := TT.out.2
                  rw [h] at a1
                  have := a1.symm.trans a2
                  rw [← h] at this
                  have := List.append_cancel_left_eq (il.take k) [(d1', d2')] [(d1', e2')] ▸ this
                  simp at this
                  exact g2 this
                clear g2
                go_wp2
                go_region
                go_wp2
                go_ret
                exact ⟨ret_bool (by simp [NE.out]), UW.out.drew⟩
            · have n1 := nbeqT g1
              have n3 : ¬ d1'.toList = e1'.toList := fun h => g1 (toList_eq (by rw [h]; simp))
              have NE : Hid (¬ il = jl) := fun h => by
                have a1 := TT.out.1
                have a2 := TT.out.2
                rw [h] at a1
                have := a1.symm.trans a2
                rw [← h] at this
                have := List.append_cancel_left_eq (il.take k) [(d1', d2')] [(e1', e2')] ▸ this
                simp at this
                exact g1 this.1
              clear g1
              go_wp2
              go_region
              go_wp2
              go_ret
              exact ⟨ret_bool (by simp [NE.out]), UW.out.drew⟩
          · have hk : k = il.length := by omega
            have E : il = jl := by
              have t := T.out
              rw [hk, List.take_length, H3.out, List.take_length] at t
              exact t
            go_wp2
            go_ret
            exact ⟨ret_bool (by simp [E]), UW.out⟩
      · have t3 : ((il.length : Int) != (jl.length : Int)) = true := by rw [bne_iff_ne]; omega
        have R : sameI ⟨ik, it, il⟩ ⟨ik, it, jl⟩ = false := by
          unfold sameI
          have : ¬ il = jl := fun e => h3 (by rw [e])
          simp [this]
        rw [R]
        clear R hv hu h3
        go_enter Tryz.func20, Tryz.ntmps20
        go_wp2
        go_ret
        exact ⟨rfl, U0.out⟩
    · have t2 : ¬ it.toList = jt.toList := fun h => h2 (toList_eq (by rw [h]; simp))
      have R : sameI ⟨ik, it, il⟩ ⟨ik, jt, jl⟩ = false := by unfold sameI; simp [h2]
      rw [R]
      clear R h2 hv hu
      go_enter Tryz.func20, Tryz.ntmps20
      go_wp2
      go_ret
      exact ⟨rfl, U0.out⟩
  · have t1 : (ik != jk) = true := by simp [h1]
    have t1b : (ik == jk) = false := beq_false_of_ne h1
    have t1c : ¬ ik = jk := h1
    have R : sameI ⟨ik, it, il⟩ ⟨jk, jt, jl⟩ = false := by unfold sameI; simp [h1]
    rw [R]
    clear R hv hu
    go_enter Tryz.func20, Tryz.ntmps20
    go_wp2
    go_ret
    exact ⟨rfl, U0.out⟩
end Go.Proofs.YtgdenmddbgcacaaGreatDoor
/- Walk: great: are acts too great to be looked at? -/
set_option linter.unusedVariables false
set_option linter.unusedSimpArgs false
namespace Go.Proofs.YtgdenmddbgcacaaGreatDoor
open Go.RowKit

structure Act12 where
  kind : Int
  n : Int
  key : ByteArray
  item : It
  fv : Value
  keep : Bool
  when : Int
  wait : Int
def a12c (a : Act12) : List Value := [.int .i64 a.kind, .int .i64 a.n, .string a.key, .int .i64 a.item.kind, .string a.item.text, a.fv, .bool a.keep, .int .i64 a.when, .int .u16 a.wait]
/-- Small enough. -/
def GoodI (i : It) : Prop := i.text.size ≤ 5000 ∧ i.flds.length ≤ 20 ∧ ∀ f ∈ i.flds, f.1.size ≤ 600 ∧ f.2.size ≤ 5000
def GoodA (l : List Act12) : Prop := ∀ a ∈ l, a.key.size ≤ 600 ∧ GoodI a.item
theorem a12_cells {w : World} {v : Value} {l : List Act12} (h : RowOf a12c 9 w v l) {k : Nat} {d : Act12} (hk : l[k]? = some d) : ∃ b off cap, v = .slice (some ⟨b, off, none⟩) l.length cap ∧ b < w.heap.size ∧ ∀ j, j < 9 → w.cell? ⟨b, off + (k * 9 + j), none⟩ = (a12c d)[j]? := by
  rcases h with ⟨_, _, _, e⟩ | ⟨b, off, c, e, hb, _, hc⟩
  · rw [e] at hk; simp at hk
  · exact ⟨b, off, c, e, hb, fun j hj => hc k d hk j hj⟩
/-- What great answers. -/
def GreatR (l : List Act12) (w : World) (e : Ending) (w' : World) : Prop := ∃ r : Bool, e = .returned (.bool r) ∧ (r = false → l.length ≤ 80 ∧ GoodA l) ∧ Upd (fun _ => False) w w'
set_option maxHeartbeats 16000000 in
set_option maxRecDepth 100000 in
theorem great12_any (v : Value) (l : List Act12) (w : World) (h : RowOf a12c 9 w v l) (hf : ∀ a ∈ l, RowOf fdc 2 w a.fv a.item.flds) :
    Calls Tryz.prog 6 #[v] w fun e w' => GreatR l w e w' := by
  obtain ⟨p, c, ev, hm⟩ := h.len
  subst ev
  unfold maxLen at hm
  have HR := Lib.hid h
  have HF := Lib.hid hf
  have U0 : Hid (Upd (fun _ => False) w w) := Upd.refl _ _
  clear h hf
  by_cases h1 : l.length ≤ 80
  · have t1 : decide ((l.length : Int) > 80) = false := decide_eq_false (by omega)
    go_enter Tryz.func6, Tryz.ntmps6
    go_wp2
    go_loopw [2, 12] (fun v2 x wr => v2 = .bool false ∧ ∃ (k : Nat), k ≤ l.length ∧ x = .int .i64 (k : Int) ∧ Hid (GoodA (l.take k)) ∧ Hid (Upd (fun _ => False) w wr)) (fun _ x _ => l.length - (intOf x).toNat)
    case atStart => exact ⟨rfl, 0, by omega, rfl, by intro a ha; simp at ha, U0⟩
    case round =>
      obtain ⟨rfl, k, hkl, rfl, GD, U⟩ := hrel
      by_cases hlt : k < l.length
      · obtain ⟨a, ha⟩ : ∃ a, l[k]? = some a := ⟨_, List.getElem?_eq_getElem hlt⟩
        obtain ⟨b, off, cap, ev, hb, hc⟩ := a12_cells HR.out ha
        injection ev with ev1 _ ev3
        subst ev1 ev3
        have fr := HF.out a (List.mem_of_getElem? ha)
        have TK : Hid (l.take (k + 1) = l.take k ++ [a]) := by
          obtain ⟨g1, g2⟩ := List.getElem?_eq_some_iff.1 ha
          show _ = _
          rw [List.take_succ_eq_append_getElem g1, g2]
        obtain ⟨ak, an, key, ⟨ik, it, il⟩, fv, keep, when, wait⟩ := a
        obtain ⟨pf, cf, ef, hmf⟩ := fr.len
        simp only at ef hmf
        subst ef
        unfold maxLen at hmf
        have cc : ∀ j v, j < 9 → (a12c ⟨ak, an, key, ⟨ik, it, il⟩, .slice pf il.length cf, keep, when, wait⟩)[j]? = some v → wr.cell? ⟨b, off + k * 9 + j, none⟩ = some v := fun j v hj hv => by
          have := (U.out.cell (p := ⟨b, off + (k * 9 + j), none⟩) hb (fun h => h)).trans ((hc j hj).trans hv)
          rw [← Nat.add_assoc] at this; exact this
        have c0 := cc 0 _ (by omega) rfl
        rw [Nat.add_zero] at c0
        have c1 := cc 1 _ (by omega) rfl
        have c2 := cc 2 _ (by omega) rfl
        have c3 := cc 3 _ (by omega) rfl
        have c4 := cc 4 _ (by omega) rfl
        have c5 := cc 5 _ (by omega) rfl
        have c6 := cc 6 _ (by omega) rfl
        have c7 := cc 7 _ (by omega) rfl
        have c8 := cc 8 _ (by omega) rfl
        have hbw : b < wr.heap.size := Nat.lt_of_lt_of_le hb U.out.size
        have hq : (k : Int) < (l.length : Int) := by omega
        have FR := Lib.hid fr
        clear cc hc ha fr
        have UA : Hid (Upd (fun _ => False) w (wr.alloc (.cells #[.int .i64 ak, .int .i64 an, .string key, .int .i64 ik, .string it, .slice pf il.length cf, .bool keep, .int .i64 when, .int .u16 wait] 34))) := U.out.alloc _
        by_cases g1 : key.size ≤ 600
        · have q1 : decide ((key.size : Int) > 600) = false := decide_eq_false (by omega)
          by_cases g2 : it.size ≤ 5000
          · have q2 : decide ((it.size : Int) > 5000) = false := decide_eq_false (by omega)
            by_cases g3 : il.length ≤ 20
            · have q3 : decide ((il.length : Int) > 20) = false := decide_eq_false (by omega)
              have S3 := Lib.hid (And.intro g1 (And.intro g2 g3))
              go_wp2
              go_loopw [2, 38] (fun v2 x w6 => v2 = .bool false ∧ ∃ (j : Nat), j ≤ il.length ∧ x = .int .i64 (j : Int) ∧ Hid (∀ f ∈ il.take j, f.1.size ≤ 600 ∧ f.2.size ≤ 5000) ∧ Hid (Upd (fun _ => False) w w6)) (fun _ x _ => il.length - (intOf x).toNat)
              case atStart => exact ⟨rfl, 0, by omega, rfl, by intro f hf; simp at hf, UA⟩
              case round =>
                obtain ⟨rfl, j, hjl, rfl, FJ, UJ⟩ := hrel
                by_cases hjlt : j < il.length
                · obtain ⟨d, hd⟩ : ∃ d, il[j]? = some d := ⟨_, List.getElem?_eq_getElem hjlt⟩
                  obtain ⟨b2, off2, cap2, ev2, hb2, d0, d1⟩ := fd_cells FR.out hd
                  injection ev2 with ev21 _ ev23
                  subst ev21 ev23
                  have TJ : Hid (il.take (j + 1) = il.take j ++ [d]) := take_snocF hd
                  have d0 := (UJ.out.cell (p := ⟨b2, off2 + j * 2, none⟩) hb2 (fun h => h)).trans d0
                  have d1 := (UJ.out.cell (p := ⟨b2, off2 + j * 2 + 1, none⟩) hb2 (fun h => h)).trans d1
                  have hb3 : b2 < wr.heap.size := Nat.lt_of_lt_of_le hb2 UJ.out.size
                  have hq2 : (j : Int) < (il.length : Int) := by omega
                  obtain ⟨d1', d2'⟩ := d
                  simp only at d0 d1
                  have UB : Hid (Upd (fun _ => False) w (wr.alloc (.cells #[.string d1', .string d2'] 69))) := UJ.out.alloc _
                  clear hd
                  by_cases s1 : d1'.size ≤ 600
                  · have r1 : decide ((d1'.size : Int) > 600) = false := decide_eq_false (by omega)
                    by_cases s2 : d2'.size ≤ 5000
                    · have r2 : decide ((d2'.size : Int) > 5000) = false := decide_eq_false (by omega)
                      have FN : Hid (∀ f ∈ il.take (j + 1), f.1.size ≤ 600 ∧ f.2.size ≤ 5000) := by
                        intro f hf
                        rw [TJ.out] at hf
                        rcases List.mem_append.1 hf with g | g
                        · exact FJ.out f g
                        · obtain rfl := List.mem_singleton.1 g; exact ⟨s1, s2⟩
                      go_wp2
                      go_roundw
                      case rel => exact ⟨rfl, j + 1, by omega, by go_num, FN, UB⟩
                      case measure => simp [intOf]; omega
                    · have r2 : decide ((d2'.size : Int) > 5000) = true := decide_eq_true (by omega)
                      go_wp2
                      go_ret
                      exact ⟨true, rfl, (fun h => by cases h), UB.out⟩
                  · have r1 : decide ((d1'.size : Int) > 600) = true := decide_eq_true (by omega)
                    go_wp2
                    go_ret
                    exact ⟨true, rfl, (fun h => by cases h), UB.out⟩
                · have hj : j = il.length := by omega
                  have GN : Hid (GoodA (l.take (k + 1))) := by
                    intro a ha
                    rw [TK.out] at ha
                    rcases List.mem_append.1 ha with g | g
                    · exact GD.out a g
                    · obtain rfl := List.mem_singleton.1 g
                      have f := FJ.out
                      rw [hj, List.take_length] at f
                      exact ⟨S3.out.1, S3.out.2.1, S3.out.2.2, f⟩
                  clear hj
                  go_wp2
                  go_roundw
                  case rel => exact ⟨rfl, k + 1, by omega, by go_num, GN, UJ⟩
                  case measure => simp [intOf]; omega
            · have q3 : decide ((il.length : Int) > 20) = true := decide_eq_true (by omega)
              go_wp2
              go_ret
              exact ⟨true, rfl, (fun h => by cases h), UA.out⟩
          · have q2 : decide ((it.size : Int) > 5000) = true := decide_eq_true (by omega)
            go_wp2
            go_ret
            exact ⟨true, rfl, (fun h => by cases h), UA.out⟩
        · have q1 : decide ((key.size : Int) > 600) = true := decide_eq_true (by omega)
          go_wp2
          go_ret
          exact ⟨true, rfl, (fun h => by cases h), UA.out⟩
      · obtain rfl : k = l.length := by omega
        have g := GD.out
        rw [List.take_length] at g
        have G := Lib.hid g
        clear g
        go_wp2
        go_ret
        exact ⟨false, rfl, (fun _ => ⟨h1, G.out⟩), U.out⟩
  · have t1 : decide ((l.length : Int) > 80) = true := decide_eq_true (by omega)
    go_enter Tryz.func6, Tryz.ntmps6
    go_wp2
    go_ret
    exact ⟨true, rfl, (fun h => by cases h), U0.out⟩
end Go.Proofs.YtgdenmddbgcacaaGreatDoor
/- The program's store and the document's, side by side; an act's step; walk of SameEvents. -/
set_option linter.unusedVariables false
set_option linter.unusedSimpArgs false
set_option linter.unusedSectionVars false
namespace Go.Proofs.YtgdenmddbgcacaaGreatDoor
open Go.RowKit

section
variable {w w' w1 w2 : World} {base sb wb q N N1 : Nat} {X Y : Nat → Prop} {S S1 T T1 : PS}
theorem SSt.six (h : SSt w base sb X S N) : lowB ≤ base := by obtain ⟨s, Z, ⟨F, m, _⟩, _⟩ := h; exact m.six
theorem SSt.len (h : SSt w base sb X S N) : S.cells.length ≤ N := by obtain ⟨s, Z, _, _, r, hn⟩ := h; exact Nat.le_trans r.cln hn
/-- A call that writes to blocks of X's alone and lays new ones. -/
theorem SSt.alsoG {G : Nat → Prop} (h : SSt w base sb X S N) (u : Upd G w w') (hG : ∀ b, G b → X b ∧ lowB ≤ b) (hY : ∀ b, Y b → X b ∨ (w.heap.size ≤ b ∧ b < w'.heap.size)) : SSt w' base sb Y S N := by
  obtain ⟨s, Z, ⟨F, m, d, x⟩, hx, r, hn⟩ := h
  refine ⟨s, Z, ⟨F, m.keepAll u (fun i b hb hg => d i b hb (Or.inl (hG b hg).1)) (m.std.keepB u fun b hb => (hG b hb).2), fun i b hb hy => ?_, fun b hb => ?_⟩, fun b hb hy => ?_, r.keep u (fun b hb hg => hx b hb (hG b hg).1), hn⟩
  · rcases hy with g | g
    · rcases hY b g with g | g
      · exact d i b hb (Or.inl g)
      · have := (m.lt i b hb).2; omega
    · exact d i b hb (Or.inr g)
  · rcases hb with g | g
    · rcases hY b g with g | g
      · exact Nat.lt_of_lt_of_le (x b (Or.inl g)) u.size
      · exact g.2
    · exact Nat.lt_of_lt_of_le (x b (Or.inr g)) u.size
  · rcases hY b hy with g | g
    · exact hx b hb g
    · have := x b (Or.inr hb); omega
/-- The program's store and the document's, each in its own blocks. -/
structure Duo (w : World) (base sb wb : Nat) (Y X : Nat → Prop) (S T : PS) (N : Nat) : Prop where
  s : SSt w base sb Y S N
  r : RSt w base wb X T
  sub : ∀ b, X b → Y b
/-- What both may write to. -/
def FF (base : Nat) (Y X : Nat → Prop) : Nat → Prop := fun b => base ≤ b ∧ (¬ Y b ∨ X b)
/-- From both to both. -/
def DGo (w : World) (base sb wb : Nat) (Y X : Nat → Prop) (w' : World) (S T : PS) (N : Nat) : Prop :=
  ∃ X', Duo w' base sb wb (fun b => Y b ∨ X' b) X' S T N ∧ (∀ b, X' b → X b ∨ w.heap.size ≤ b) ∧ Upd (FF base Y X) w w'
theorem RSt.lt (h : RSt w base wb X T) : ∀ b, X b → base ≤ b ∧ b < w.heap.size := by obtain ⟨_, _, _, _, _, _, h⟩ := h; exact h
/-- The program's step, then the document's. -/
theorem Duo.step (d : Duo w base sb wb Y X S T N) (s1 : SSt w1 base sb Y S1 N1) (u1 : Upd (Fr base Y) w w1) (g : RGo w1 base wb X w2 T1) : DGo w base sb wb Y X w2 S1 T1 N1 := by
  obtain ⟨X', r', hf, u2⟩ := g
  have hl := r'.lt
  have hx := d.r.lt
  refine ⟨X', ⟨s1.alsoG u2 (fun b hb => ⟨d.sub b hb, Nat.le_trans s1.six (hx b hb).1⟩) (fun b hb => ?_), r', fun b hb => Or.inr hb⟩, fun b hb => ?_, (u1.weaken (F := FF base Y X) fun b _ hb => ⟨hb.1, Or.inl hb.2⟩).trans u2 fun b hb hg => ⟨(hx b hg).1, Or.inr hg⟩⟩
  · rcases hb with g | g
    · exact Or.inl g
    · rcases hf b g with g2 | g2
      · exact Or.inl (d.sub b g2)
      · exact Or.inr ⟨g2, (hl b g).2⟩
  · rcases hf b hb with g | g
    · exact Or.inl g
    · right; have := u1.size; omega
theorem Duo.rkeep (d : Duo w base sb wb Y X S T N) (u1 : Upd (Fr base Y) w w1) : RSt w1 base wb X T := d.r.keep u1 fun b hb => ⟨hb.1, fun g => hb.2 (d.sub b g)⟩
theorem Duo.keep0 (d : Duo w base sb wb Y X S T N) (u : Upd (fun _ => False) w w1) : Duo w1 base sb wb Y X S T N := ⟨d.s.keep0 u, d.r.keep0 u, d.sub⟩
/-- With a new block beside. -/
theorem Duo.with (d : Duo w base sb wb Y X S T N) (u : Upd (fun _ => False) w w1) (hq : w.heap.size ≤ q ∧ q < w1.heap.size) : Duo w1 base sb wb (fun b => Y b ∨ b = q) X S T N :=
  ⟨d.s.also u fun b hb => hb.elim Or.inl (fun e => Or.inr (by omega)), d.r.keep0 u, fun b hb => Or.inl (d.sub b hb)⟩
/-- A call of the program's and one of the document's, one behind the other. -/
theorem Duo.calls {f1 f2 : FuncId} {a1 a2 : Array Value} {r1 r2 : Value} {cs : List Value} {ty : TypeId} (d : Duo w base sb wb Y X S T N) (hb : Blk w q cs ty) (hy : Y q) (hx : ¬ X q)
    (c1 : Calls Tryz.prog f1 a1 w fun e w' => e = .returned r1 ∧ SSt w' base sb Y S1 N1 ∧ Upd (Fr base Y) w w')
    (c2 : ∀ w1, Upd (Fr base Y) w w1 → RSt w1 base wb X T → Calls Tryz.prog f2 a2 w1 fun e w' => e = .returned r2 ∧ RGo w1 base wb X w' T1) :
    Calls Tryz.prog f1 a1 w fun e w1 => e = .returned r1 ∧ Blk w1 q cs ty ∧ Calls Tryz.prog f2 a2 w1 fun e w2 => e = .returned r2 ∧ Blk w2 q cs ty ∧ DGo w base sb wb Y X w2 S1 T1 N1 := by
  refine c1.mono ?_
  rintro e w1 ⟨rfl, s1, u1⟩
  have b1 := u1.blk hb fun g => g.2 hy
  refine ⟨rfl, b1, (c2 w1 u1 (d.rkeep u1)).mono ?_⟩
  rintro e w2 ⟨rfl, g⟩
  have gg := g
  obtain ⟨X', _, _, u2⟩ := g
  exact ⟨rfl, u2.blk b1 hx, d.step s1 u1 gg⟩
/-- Without the block beside. -/
theorem DGo.drop (g : DGo w1 base sb wb (fun b => Y b ∨ b = q) X w2 S1 T1 N1) (u : Upd (fun _ => False) w w1) : DGo w base sb wb Y X w2 S1 T1 N1 := by
  obtain ⟨X', d, hf, u2⟩ := g
  refine ⟨X', ⟨d.s.less fun b hb => hb.elim (fun g => Or.inl (Or.inl g)) Or.inr, d.r, fun b hb => Or.inr hb⟩, fun b hb => ?_, ?_⟩
  · rcases hf b hb with g | g
    · exact Or.inl g
    · right; have := u.size; omega
  · exact (u.weaken (F := FF base Y X) fun _ _ h => h.elim).trans u2 fun b hb hg => ⟨hg.1, hg.2.elim (fun g => Or.inl fun y => g (Or.inl y)) Or.inr⟩
theorem DGo.after (g : DGo w base sb wb Y X w1 S1 T1 N1) (u : Upd (fun _ => False) w1 w2) : DGo w base sb wb Y X w2 S1 T1 N1 := by
  obtain ⟨X', d, hf, u2⟩ := g
  exact ⟨X', d.keep0 u, hf, u2.trans u fun _ _ h => h.elim⟩
theorem DGo.more {N2 : Nat} (g : DGo w base sb wb Y X w1 S1 T1 N1) (h : N1 ≤ N2) : DGo w base sb wb Y X w1 S1 T1 N2 := by
  obtain ⟨X', d, hf, u2⟩ := g
  exact ⟨X', ⟨d.s.more h, d.r, d.sub⟩, hf, u2⟩
end
/-- What an act does. -/
def stepP (S : PS) (a : Act12) (now : Int) : PS :=
  if a.kind = 0 then getP S a.key now else if a.kind = 1 then dueP S a.key now else if a.kind = 2 then putP S a.key a.item a.keep now
  else if a.kind = 3 then dropP S a.key now else if a.kind = 4 then expireP S a.key a.when now else if a.kind = 5 then persistP S a.key now
  else if a.kind = 6 then dueP S a.key now else if a.kind = 7 then sweepP S now a.n else flushP S
theorem sameI_refl (i : It) : sameI i i = true := by unfold sameI; simp
theorem evt_cells {w : World} {base : Nat} {p : Option Addr} {c : Nat} {l : List Ev} (h : OwnN evc 2 63 w base (.slice p l.length c) l) {k : Nat} {d : Ev} (hk : l[k]? = some d) :
    ∃ b, p = some ⟨b, 0, none⟩ ∧ b < w.heap.size ∧ w.cell? ⟨b, k * 2, none⟩ = some (.int .i64 d.1) ∧ w.cell? ⟨b, k * 2 + 1, none⟩ = some (.string d.2) := by
  rcases h.blk with ⟨_, e⟩ | ⟨b, cap, cs, e, hb, hB, _⟩
  · rw [e] at hk; simp at hk
  · injection e with e1 e2 e3
    subst e1 e3
    have c0 := h.cell (i := k) (j := 0) (fun _ => rfl) (by omega) hk
    have c1 := h.cell (i := k) (j := 1) (fun _ => rfl) (by omega) hk
    exact ⟨b, rfl, hB.lt, by simpa [evc] using c0, by simpa [evc] using c1⟩
set_option maxHeartbeats 4000000 in
set_option maxRecDepth 100000 in
theorem sameEv_any {w : World} {base base2 : Nat} (v1 v2 : Value) (l : List Ev) (h1 : OwnN evc 2 63 w base v1 l) (h2 : OwnN evc 2 63 w base2 v2 l) :
    Calls Tryz.prog 13 #[v1, v2] w fun e w' => e = .returned (.bool true) ∧ Upd (fun _ => False) w w' := by
  obtain ⟨p1, c1, e1, hm1, _⟩ := h1.slice
  obtain ⟨p2, c2, e2, hm2, _⟩ := h2.slice
  subst e1 e2
  unfold maxLen at hm1
  have H1 := Lib.hid h1
  have H2 := Lib.hid h2
  obtain ⟨nl, hnl⟩ : ∃ nl, nl = l.length := ⟨_, rfl⟩
  have NL := Lib.hid hnl
  rw [← hnl] at hm1 ⊢
  clear h1 h2 hm2 hnl
  go_enter Tryz.func13, Tryz.ntmps13
  go_wp2
  go_loopw [4, 13] (fun v4 x wr => v4 = .bool false ∧ ∃ k : Nat, k ≤ nl ∧ x = .int .i64 (k : Int) ∧ Hid (Upd (fun _ => False) w wr)) (fun _ x _ => nl - (intOf x).toNat)
  case atStart => exact ⟨rfl, 0, by omega, rfl, Lib.hid (Upd.refl _ _)⟩
  case round =>
    obtain ⟨rfl, k, hk, rfl, U⟩ := hrel
    by_cases hlt : k < nl
    · have hkl : k < l.length := by rw [← NL.out]; exact hlt
      have q1 : (k : Int) < (nl : Int) := by omega
      obtain ⟨d, hd⟩ : ∃ d, l[k]? = some d := ⟨_, List.getElem?_eq_getElem hkl⟩
      obtain ⟨b1, ep1, hb1, c10, c11⟩ := evt_cells (H1.out.keep U.out (fun _ _ h => h)) hd
      obtain ⟨b2, ep2, hb2, c20, c21⟩ := evt_cells (H2.out.keep U.out (fun _ _ h => h)) hd
      subst ep1 ep2
      obtain ⟨ek, es⟩ := d
      simp only at c10 c11 c20 c21
      clear hd hkl
      go_upto_region 6 with (fail)
      go_quiet (fail)
      go_wp2
      go_roundw
      case rel => exact ⟨rfl, k + 1, by omega, by simp, Lib.hid (U.out.trans ((Upd.refl _ _).drewN nq) (fun _ _ h => h))⟩
      case measure => simp [intOf]; omega
    · obtain rfl : k = nl := by omega
      go_wp2
      go_ret
      exact ⟨rfl, U.out⟩
end Go.Proofs.YtgdenmddbgcacaaGreatDoor
