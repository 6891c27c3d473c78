/- The chapter's example. -/
import Derived.Test.YtcdihffcncaibaaDoorK17
import Derived.Test.YtcdihffcncaibaaDoorRows
import Derived.Test.YtcdihffcncaibaaDoorK11
import Derived.ProofKit
import Derived.LaidMore
import Derived.OpenShut
import Derived.Stop.Joined
import Derived.Stop.LaidErr
import Derived.Lib.LaidTab
set_option linter.unusedVariables false
set_option linter.unusedSimpArgs false
namespace Go.Proofs.YtcdihffcncaibaaDoor
open Go.RowKit

def tenI : It := ⟨1, { data := #[97, 98, 99, 100, 101, 102, 103, 104, 105, 106] }, []⟩
set_option maxRecDepth 100000 in
theorem ten_any (w : World) : Calls Tryd.prog 7 #[] w fun e w' => e = .returned (itV tenI (.slice none 0 0)) ∧ Upd (fun _ => False) w w' := by
  unfold itV tenI
  go_enter Tryd.func7, Tryd.ntmps7
  go_wp2
  exact bodyPost_ret (v := .agg #[.int .i64 1, .string { data := #[97, 98, 99, 100, 101, 102, 103, 104, 105, 106] }, .slice none 0 0]) (by simp [results, Tryd.results7, go_sem]) rfl ⟨rfl, (Upd.refl _ w).alloc _⟩
def kA : ByteArray := { data := #[97] }
def kB : ByteArray := { data := #[98] }
def kC : ByteArray := { data := #[99] }
def cT (k : ByteArray) : Ce := ⟨k, tenI, -1⟩
theorem al_n : newP 120 = ⟨[], 120, []⟩ := by kernel_rfl
theorem al_1 : putP ⟨[], 120, []⟩ kA tenI false 0 = ⟨[cT kA], 120, [(1, kA)]⟩ ∧ putE (dueP ⟨[], 120, []⟩ kA 0) kA tenI = 0 := ⟨by kernel_rfl, by kernel_rfl⟩
theorem al_2 : putP ⟨[cT kA], 120, [(1, kA)]⟩ kB tenI false 0 = ⟨[cT kA, cT kB], 120, [(1, kA), (1, kB)]⟩ ∧ putE (dueP ⟨[cT kA], 120, [(1, kA)]⟩ kB 0) kB tenI = 0 := ⟨by kernel_rfl, by kernel_rfl⟩
theorem al_3 : putP ⟨[cT kA, cT kB], 120, [(1, kA), (1, kB)]⟩ kC tenI false 0 = ⟨[cT kB, cT kC], 120, [(1, kA), (1, kB), (1, kC), (4, kA)]⟩ ∧ putE (dueP ⟨[cT kA, cT kB], 120, [(1, kA), (1, kB)]⟩ kC 0) kC tenI = 0 := ⟨by kernel_rfl, by kernel_rfl⟩
theorem al_4 : dueP ⟨[cT kB, cT kC], 120, []⟩ kA 0 = ⟨[cT kB, cT kC], 120, []⟩ ∧ wasP ⟨[cT kB, cT kC], 120, []⟩ kA = false ∧ gotI ⟨[cT kB, cT kC], 120, []⟩ kA = zeroIt ∧ getP ⟨[cT kB, cT kC], 120, []⟩ kA 0 = ⟨[cT kB, cT kC], 120, []⟩ ∧ bytesC [cT kB, cT kC] = 118 := ⟨by kernel_rfl, by kernel_rfl, by kernel_rfl, by kernel_rfl, by kernel_rfl⟩
theorem nofld (w : World) (Y : Nat → Prop) : FldAt w Y (.slice none 0 0) tenI.flds := ⟨Or.inl ⟨_, _, rfl, rfl⟩, Or.inl rfl⟩
theorem ev_cells {w : World} {v : Value} {l : List Ev} (h : RowOf evc 2 w v l) {k : Nat} {d : Ev} (hk : l[k]? = some d) : ∃ b off cap, v = .slice (some ⟨b, off, none⟩) l.length cap ∧ b < w.heap.size ∧ w.cell? ⟨b, off + k * 2, none⟩ = some (.int .i64 d.1) ∧ w.cell? ⟨b, off + k * 2 + 1, none⟩ = some (.string d.2) := by
  rcases h with ⟨_, _, _, e⟩ | ⟨b, off, c, e, hb, _, hc⟩
  · rw [e] at hk; simp at hk
  · refine ⟨b, off, c, e, hb, ?_, ?_⟩
    · have := hc k d hk 0 (by omega); rw [Nat.add_zero] at this; simpa [evc] using this
    · have := hc k d hk 1 (by omega); rw [← Nat.add_assoc] at this; simpa [evc] using this
set_option maxHeartbeats 8000000 in
set_option maxRecDepth 100000 in
theorem alive12_any (w : World) (hs : Std w) : Calls Tryd.prog 4 #[] w fun e w' => e = .returned (.bool true) ∧ Upd (fun _ => False) w w' := by
  have NW := Lib.hid (snew_any 120 w hs)
  rw [al_n] at NW
  clear hs
  go_enter Tryd.func4, Tryd.ntmps4
  go_wp2_with fail
  refine (NW.out).mono ?_
  rintro e w1 ⟨sb, rfl, s1, u1⟩
  have S1 := Lib.hid s1
  have U1 := Lib.hid u1
  clear s1 u1 NW
  go_wp2_with fail
  refine (ten_any _).mono ?_
  rintro e w2 ⟨rfl, u2⟩
  have P1 := Lib.hid (sput_any (S1.out.keep0 u2) kA tenI (.slice none 0 0) false 0 (nofld _ _) (by omega) (by decide) (by decide))
  rw [al_1.1, al_1.2] at P1
  unfold kA at P1
  have U2 := Lib.hid (U1.out.trans u2 (fun _ _ h => h))
  clear u2 S1 U1
  go_wp2_with fail
  refine (P1.out).mono ?_
  rintro e w3 ⟨rfl, s3, u3⟩
  have S3 := Lib.hid s3
  have U3 := Lib.hid (U2.out.trans u3 (fun i hi h => by have := h.1; omega))
  clear s3 u3 P1 U2
  go_wp2_with fail
  refine (ten_any _).mono ?_
  rintro e w4 ⟨rfl, u4⟩
  have P2 := Lib.hid (sput_any (S3.out.keep0 u4) kB tenI (.slice none 0 0) false 0 (nofld _ _) (by omega) (by decide) (by simp))
  have e2 := al_2
  unfold kA at e2
  rw [e2.1, e2.2] at P2
  unfold kB at P2
  have U4 := Lib.hid (U3.out.trans u4 (fun _ _ h => h))
  clear u4 S3 U3 e2
  go_wp2_with fail
  refine (P2.out).mono ?_
  rintro e w5 ⟨rfl, s5, u5⟩
  have S5 := Lib.hid s5
  have U5 := Lib.hid (U4.out.trans u5 (fun i hi h => by have := h.1; omega))
  clear s5 u5 P2 U4
  go_wp2_with fail
  refine (ten_any _).mono ?_
  rintro e w6 ⟨rfl, u6⟩
  have P3 := Lib.hid (sput_any (S5.out.keep0 u6) kC tenI (.slice none 0 0) false 0 (nofld _ _) (by omega) (by decide) (by simp))
  have e3 := al_3
  unfold kA kB at e3
  rw [e3.1, e3.2] at P3
  unfold kC at P3
  have U6 := Lib.hid (U5.out.trans u6 (fun _ _ h => h))
  clear u6 S5 U5 e3
  go_wp2_with fail
  refine (P3.out).mono ?_
  rintro e w7 ⟨rfl, s7, u7⟩
  have EV := Lib.hid (sevents_any s7)
  have U7 := Lib.hid (U6.out.trans u7 (fun i hi h => by have := h.1; omega))
  clear s7 u7 P3 U6
  go_wp2_with fail
  refine (EV.out).mono ?_
  rintro e w8 ⟨v8, rfl, o8, s8, u8⟩
  have GT := Lib.hid (sget_any s8 kA 0 (by omega) (by decide) (by simp))
  have e4 := al_4
  unfold kB kC at e4
  rw [e4.1, e4.2.1, e4.2.2.1, e4.2.2.2.1] at GT
  have BY := Lib.hid e4.2.2.2.2
  unfold kA itV zeroIt at GT
  have O8 := Lib.hid o8
  have U8 := Lib.hid (U7.out.trans u8 (fun i hi h => by have := h.1; omega))
  clear o8 s8 u8 EV U7 e4
  go_wp2_with fail
  refine (GT.out).mono ?_
  rintro e w9 ⟨v9, rfl, r9, s9, u9, f9⟩
  obtain ⟨p9, c9, e9, _⟩ := r9.len
  subst e9
  have O9 := O8.out.keep u9 (fun b hb g => g.2 (Or.inr hb))
  obtain ⟨b, off, cap, ev, hb, c0, c1⟩ := ev_cells (O9.row (fun _ => rfl)) (k := 3) (d := (4, { data := #[97] })) rfl
  subst ev
  have S9 := Lib.hid s9
  have U9 := Lib.hid (U8.out.trans u9 (fun i hi h => by have := h.1; omega))
  clear O8 U8 s9 u9 f9 O9 GT r9
  obtain ⟨tb, x0, hsb, TL⟩ := S9.out.tlenAt (by omega)
  have HTL := Lib.hid TL
  have HBY := Lib.hid (fun W (u : Upd (fun _ => False) w9 W) => sbytes_any (S9.out.keep0 u))
  rw [BY.out] at HBY
  clear TL BY S9
  have ua : Upd (fun _ => False) w9 (w9.alloc (.cells #[.int .i64 0, .string ByteArray.empty, .slice p9 0 c9] 29)) := (Upd.refl _ _).alloc _
  go_wp2_with fail
  refine ((HTL.out _ ua)).mono ?_
  rintro e w11 ⟨rfl, u11⟩
  have ub := Lib.hid (ua.trans u11 (fun _ _ h => h))
  clear ua u11 HTL
  go_wp2_with fail
  refine ((HBY.out _ ub.out)).mono ?_
  rintro e w12 ⟨rfl, rfl⟩
  go_wp2
  go_ret
  exact ⟨rfl, U9.out.trans ub.out (fun _ _ h => h)⟩
end Go.Proofs.YtcdihffcncaibaaDoor
/- Walk: StoreNames. -/
set_option linter.unusedVariables false
set_option linter.unusedSimpArgs false
namespace Go.Proofs.YtcdihffcncaibaaDoor
open Go.RowKit

def numI : It := ⟨1, { data := #[49, 50, 51, 52, 53, 54, 55, 56, 57] }, []⟩
def kK : ByteArray := { data := #[107] }
def kZ : ByteArray := { data := #[122, 122] }
def kE : ByteArray := { data := #[] }
theorem na_0 : newP 58 = ⟨[], 58, []⟩ ∧ newP (-5) = ⟨[], 0, []⟩ := ⟨by kernel_rfl, by kernel_rfl⟩
theorem na_1 : putP ⟨[], 58, []⟩ kA tenI false 0 = ⟨[], 58, []⟩ ∧ putE (dueP ⟨[], 58, []⟩ kA 0) kA tenI = 121 := ⟨by kernel_rfl, by kernel_rfl⟩
theorem na_2 : putP ⟨[], 58, []⟩ kK zeroIt false 0 = ⟨[], 58, []⟩ ∧ putE (dueP ⟨[], 58, []⟩ kK 0) kK zeroIt = 31 := ⟨by kernel_rfl, by kernel_rfl⟩
theorem na_3 : putP ⟨[], 58, []⟩ kA numI false 0 = ⟨[⟨kA, numI, -1⟩], 58, [(1, kA)]⟩ ∧ putE (dueP ⟨[], 58, []⟩ kA 0) kA numI = 0 := ⟨by kernel_rfl, by kernel_rfl⟩
theorem na_4 : putE (dueP ⟨[], 0, []⟩ kE 0) kE tenI = 121 := by kernel_rfl
theorem na_5 : ttlA (dueP ⟨[⟨kA, numI, -1⟩], 58, [(1, kA)]⟩ kZ 0) kZ 0 = -2 ∧ dueP ⟨[⟨kA, numI, -1⟩], 58, [(1, kA)]⟩ kZ 0 = ⟨[⟨kA, numI, -1⟩], 58, [(1, kA)]⟩ := ⟨by kernel_rfl, by kernel_rfl⟩
theorem na_6 : ttlA (dueP ⟨[⟨kA, numI, -1⟩], 58, [(1, kA)]⟩ kA 0) kA 0 = -1 := by kernel_rfl
theorem nofld2 (w : World) (Y : Nat → Prop) : FldAt w Y (.slice none 0 0) [] := ⟨Or.inl ⟨_, _, rfl, rfl⟩, Or.inl rfl⟩
set_option maxHeartbeats 8000000 in
set_option maxRecDepth 100000 in
theorem lawSNames (w : World) (hs : Std w) : Calls Tryd.prog 3 #[] w fun e w' => e = .returned (.bool true) ∧ Upd (fun _ => False) w w' := by
  have HS := Lib.hid hs
  have AL := Lib.hid (alive12_any w hs)
  clear hs
  go_enter Tryd.func3, Tryd.ntmps3
  go_wp2_with fail
  refine (AL.out).mono ?_
  rintro e w0 ⟨rfl, u0⟩
  have U0 := Lib.hid u0
  have NW := Lib.hid (snew_any 58 w0 (HS.out.keep u0))
  rw [na_0.1] at NW
  clear u0 AL
  go_wp2_with fail
  refine (NW.out).mono ?_
  rintro e w1 ⟨sb, rfl, s1, u1⟩
  have S1 := Lib.hid s1
  have U1 := Lib.hid (U0.out.trans u1 (fun _ _ h => h))
  have BZ := Lib.hid (show w.heap.size ≤ w0.heap.size from U0.out.size)
  clear s1 u1 NW U0
  go_wp2_with fail
  refine (ten_any _).mono ?_
  rintro e w2 ⟨rfl, u2⟩
  have P1 := Lib.hid (sput_any (S1.out.keep0 u2) kA tenI (.slice none 0 0) false 0 (nofld _ _) (by omega) (by decide) (by decide))
  rw [na_1.1, na_1.2] at P1
  unfold kA at P1
  have U2 := Lib.hid (U1.out.trans u2 (fun _ _ h => h))
  clear u2 S1 U1
  go_wp2_with fail
  refine (P1.out).mono ?_
  rintro e w3 ⟨rfl, s3, u3⟩
  have U3 := Lib.hid (U2.out.trans u3 (fun i hi h => by have := h.1; have := BZ.out; omega))
  have P2 := Lib.hid (sput_any s3 kK zeroIt (.slice none 0 0) false 0 (nofld2 _ _) (by omega) (by decide) (by decide))
  rw [na_2.1, na_2.2] at P2
  unfold kK itV zeroIt at P2
  clear s3 u3 P1 U2
  go_wp2_with fail
  refine (P2.out).mono ?_
  rintro e w4 ⟨rfl, s4, u4⟩
  have U4 := Lib.hid (U3.out.trans u4 (fun i hi h => by have := h.1; have := BZ.out; omega))
  have P3 := Lib.hid (sput_any s4 kA numI (.slice none 0 0) false 0 (nofld2 _ _) (by omega) (by decide) (by decide))
  rw [na_3.1, na_3.2] at P3
  unfold kA itV numI at P3
  clear s4 u4 P2 U3
  go_wp2_with fail
  refine (P3.out).mono ?_
  rintro e w5 ⟨rfl, s5, u5⟩
  have U5 := Lib.hid (U4.out.trans u5 (fun i hi h => by have := h.1; have := BZ.out; omega))
  have S5 := Lib.hid s5
  clear s5 u5 P3 U4
  have NW := Lib.hid (snew_any (-5) w5 (HS.out.keep U5.out))
  rw [na_0.2] at NW
  go_wp2_with fail
  refine (NW.out).mono ?_
  rintro e w6 ⟨sc, rfl, s6, u6⟩
  have S6 := Lib.hid s6
  have V6 := Lib.hid u6
  clear s6 u6 NW
  go_wp2_with fail
  refine (ten_any _).mono ?_
  rintro e w7 ⟨rfl, u7⟩
  have P4 := Lib.hid (sput_any (S6.out.keep0 u7) kE tenI (.slice none 0 0) false 0 (nofld _ _) (by omega) (by decide) (by decide))
  rw [na_4] at P4
  unfold kE at P4
  have V7 := Lib.hid (V6.out.trans u7 (fun _ _ h => h))
  clear u7 S6 V6
  go_wp2_with fail
  refine (P4.out).mono ?_
  rintro e w8 ⟨rfl, s8, u8⟩
  have V8 := Lib.hid (V7.out.trans u8 (fun i hi h => by have := h.1; omega))
  have T1 := Lib.hid (sttl_any (S5.out.keep0 V8.out) kZ 0 (by omega) (by decide) (by decide) (by omega) (by omega))
  have e5 := na_5
  unfold kA numI at e5
  rw [e5.1, e5.2] at T1
  unfold kZ at T1
  have U8 := Lib.hid (U5.out.trans V8.out (fun _ _ h => h))
  clear s8 u8 P4 V7 V8 S5 U5 e5
  go_wp2_with fail
  refine (T1.out).mono ?_
  rintro e w9 ⟨rfl, s9, u9⟩
  have U9 := Lib.hid (U8.out.trans u9 (fun i hi h => by have := h.1; have := BZ.out; omega))
  have T2 := Lib.hid (sttl_any s9 kA 0 (by omega) (by decide) (by decide) (by omega) (by omega))
  have e6 := na_6
  unfold kA numI at e6
  unfold kA at T2
  rw [e6] at T2
  clear s9 u9 T1 U8 e6
  go_wp2_with fail
  refine (T2.out).mono ?_
  rintro e w10 ⟨rfl, s10, u10⟩
  have U10 := Lib.hid (U9.out.trans u10 (fun i hi h => by have := h.1; have := BZ.out; omega))
  clear s10 u10 T2 U9
  go_wp2
  go_ret
  exact ⟨rfl, U10.out⟩
end Go.Proofs.YtcdihffcncaibaaDoor
/- What the listed variables give the walks, and the witness. -/
set_option linter.unusedVariables false
set_option linter.unusedSimpArgs false
namespace Go.Proofs.YtcdihffcncaibaaDoor
open Go.ChangeShapes Go.WideShapes Go.ChangeAt Go.WideMaps Go.WideElems Go.RowKit Go.Stop Go.Extern

theorem int_bounds {n : Int} (h : (Lit.int .i64 n).wf = true) : -9223372036854775808 ≤ n ∧ n ≤ 9223372036854775807 := by
  have := bounds_i64 h
  omega

def laidAll : List (String × DataW Unit) := [("math/bits.deBruijn32tab", Rows.laid_math_bits_deBruijn32tab), ("math/bits.deBruijn64tab", Rows.laid_math_bits_deBruijn64tab), ("internal/strconv.uint64pow10", Lib.tabData .u64 Lib.pow10Tab), ("strconv.ErrRange", Rows.laid_strconv_ErrRange), ("strconv.ErrSyntax", Rows.laid_strconv_ErrSyntax)]

theorem star : "*" ++ "errors.errorString" = "*errors.errorString" := by decide
theorem rowErr (u : TypeId) (h : Tryd.prog.typeName? 3 u = some "*errors.errorString") : u = 146 :=
  typeName_ptr_named (nm := "errors.errorString") (by rw [star]; kernel_rfl) (by kernel_rfl) (by decide) u (by rw [star]; exact h)

theorem door_met (os : Os) (args : Array Value) : laidMetH Tryd.prog laidAll ((World.doorLaid Tryd.prog 400 os).forCall (fun _ _ => 0) ⟨#[], args, []⟩).memory :=
  laidMetH_of_parts3 (fuel := 8) (laidMet_of_run' 8 (by kernel_rfl) (by kernel_rfl)) (by kernel_rfl) (by kernel_rfl)

theorem std_of_laid {W : World} (h : laidMetH Tryd.prog laidAll W) : Std W := by
  rw [MakeChecks.laidMetH_plain _ _ _ (by kernel_rfl)] at h
  have h3 := laidMet.tail (laidMet.tail h)
  have h4 := laidMet.tail h3
  have h5 := laidMet.tail h4
  refine ⟨Lib.tabIs_of_head (g := 3) (by kernel_rfl) (by kernel_rfl) Tryd.underlying151 Tryd.underlying122 (by kernel_rfl) (by kernel_rfl) h3, ?_, ?_⟩
  · obtain ⟨a, s, h1, _⟩ := laid_sentinel (g := 1) h5 (by kernel_rfl) (by kernel_rfl) Tryd.underlying107 rowErr Tryd.underlying146 Tryd.underlying148 rfl rfl Tryd.underlying9 (by kernel_rfl) (by kernel_rfl)
    exact ⟨_, _, h1⟩
  · obtain ⟨a, s, h1, _⟩ := laid_sentinel (g := 2) h4 (by kernel_rfl) (by kernel_rfl) Tryd.underlying107 rowErr Tryd.underlying146 Tryd.underlying148 rfl rfl Tryd.underlying9 (by kernel_rfl) (by kernel_rfl)
    exact ⟨_, _, h1⟩
end Go.Proofs.YtcdihffcncaibaaDoor
