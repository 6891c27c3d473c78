/- Walks: the chapter's example; ExpiryNames. -/
import Derived.Test.YtokkhddbdjflhaaExpK
set_option linter.unusedVariables false
set_option linter.unusedSimpArgs false
namespace Go.Proofs.Ytokkhddbdjflhaa
open Go.RowKit

theorem alive_l1 : putD ⟨#[97]⟩ 5 [] = [(5, ⟨#[97]⟩)] := by rfl
theorem alive_l2 : putD ⟨#[98]⟩ 3 [(5, ⟨#[97]⟩)] = [(3, ⟨#[98]⟩), (5, ⟨#[97]⟩)] := by rfl
theorem alive_due : (((dueD 4 [(3, ⟨#[98]⟩), (5, ⟨#[97]⟩)]).take (9 : Int).toNat).map (·.2)) = [(⟨#[98]⟩ : ByteArray)] := by rfl
set_option maxHeartbeats 4000000 in
set_option maxRecDepth 100000 in
theorem alive11_any (w : World) : Calls Try.prog 7 #[] w fun e w' => e = .returned (.bool true) ∧ Upd (fun _ => False) w w' := by
  have NW := Lib.hid (xnew_any w w.heap.size)
  go_enter Try.func7, Try.ntmps7
  go_wp2_with fail
  refine (NW.out).mono ?_
  rintro e w1 ⟨xa, E, rfl, h1, u1, f1⟩
  have P1 := xput_any w1 w.heap.size xa [] E ⟨#[97]⟩ 5 h1 u1.size (by decide) (by decide) (by decide)
  rw [alive_l1] at P1
  have P1 := Lib.hid P1
  have U1 := Lib.hid u1
  have F1 := Lib.hid f1
  clear h1 u1 f1
  go_wp2_with fail
  refine (P1.out).mono ?_
  rintro e w2 ⟨rfl, E2, h2, u2, f2⟩
  have P2 := xput_any w2 w.heap.size xa _ E2 ⟨#[98]⟩ 3 h2 (Nat.le_trans U1.out.size u2.size) (by decide) (by decide) (by decide)
  rw [alive_l2] at P2
  have P2 := Lib.hid P2
  have U2 := Lib.hid (U1.out.trans u2 (fun k hk e => by have := F1.out k e; omega))
  have F2 : Hid (∀ k, E2 k → w.heap.size ≤ k) := fun k hk => by
    rcases f2 k hk with g | g
    · exact F1.out k g
    · exact Nat.le_trans U1.out.size g
  clear h2 u2 f2
  go_wp2_with fail
  refine (P2.out).mono ?_
  rintro e w3 ⟨rfl, E3, h3, u3, f3⟩
  have F3 : Hid (∀ k, E3 k → w.heap.size ≤ k) := fun k hk => by
    rcases f3 k hk with g | g
    · exact F2.out k g
    · exact Nat.le_trans U2.out.size g
  have D3 := xdue_any w3 w.heap.size xa _ E3 4 9 h3 (Nat.le_trans U2.out.size u3.size) (by decide)
  rw [alive_due] at D3
  have D3 := Lib.hid D3
  have U3 := Lib.hid (U2.out.trans u3 (fun k hk e => by have := F2.out k e; omega))
  clear h3 u3 f3
  go_wp2_with fail
  refine (D3.out).mono ?_
  rintro e w4 ⟨v4, rfl, s4, E4, h4, u4, f4⟩
  have L4 := Lib.hid (xlen_any w4 w.heap.size xa _ E4 h4 (by decide))
  have U4 := Lib.hid (U3.out.trans u4 (fun k hk e => by have := F3.out k e; omega))
  obtain ⟨g, cap, ev, c4, _, _⟩ := own_get s4 (j := 0) (x := .string ⟨#[98]⟩) rfl
  have ev2 : v4 = .slice (some ⟨g, 0, none⟩) 1 cap := ev
  subst ev2
  clear ev s4 h4 u4 f4
  go_wp2_with fail
  refine (L4.out).mono ?_
  rintro e w5 ⟨rfl, rfl⟩
  go_wp2
  go_ret
  exact ⟨by first | rfl | simp, U4.out⟩
set_option maxHeartbeats 4000000 in
set_option maxRecDepth 100000 in
theorem lawExpNames (w : World) : Calls Try.prog 3 #[] w fun e w' => e = .returned (.bool true) ∧ Upd (fun _ => False) w w' := by
  have AL := Lib.hid (alive11_any w)
  go_enter Try.func3, Try.ntmps3
  go_wp2_with fail
  refine (AL.out).mono ?_
  rintro e w1 ⟨rfl, u1⟩
  have NW := Lib.hid (xnew_any w1 w1.heap.size)
  have U1 := Lib.hid u1
  clear u1
  go_wp2_with fail
  refine (NW.out).mono ?_
  rintro e w2 ⟨xa, E, rfl, h2, u2, f2⟩
  have NX := xnext_any w2 w1.heap.size xa [] E h2 (by decide)
  have NX := Lib.hid NX
  have U2 := Lib.hid (U1.out.trans u2 (fun _ _ h => h))
  have F2 := Lib.hid (fun k hk => Nat.le_trans U1.out.size (f2 k hk))
  have H2 := Lib.hid h2
  have S2 := Lib.hid u2.size
  clear h2 u2 f2
  unfold dueV at NX
  go_wp2_with fail
  refine (NX.out).mono ?_
  rintro e w3 ⟨rfl, u3⟩
  have H3 := Lib.hid (H2.out.keep u3 (fun _ _ h => h))
  have U3 := Lib.hid (U2.out.trans u3 (fun _ _ h => h))
  have S3 : Hid (w1.heap.size ≤ w3.heap.size) := Nat.le_trans S2.out u3.size
  clear u3
  obtain ⟨w4, e4⟩ : ∃ w4, w4 = w3.alloc (.cells #[.int .i64 0, .string ByteArray.empty] 26) := ⟨_, rfl⟩
  have u34 : Upd (fun _ => False) w3 w4 := by rw [e4]; exact (Upd.refl _ _).alloc _
  have b4 : Blk w4 w3.heap.size [.int .i64 0, .string ByteArray.empty] 26 := by rw [e4]; exact Blk.made w3 [.int .i64 0, .string ByteArray.empty] _
  have hne : ¬ E w3.heap.size := fun e => by have := H3.out.lt _ e; omega
  have H4 := Lib.hid (H3.out.keep u34 (fun _ _ h => h))
  have P1 := Lib.hid (xput_bad w4 xa ⟨#[97]⟩ (-1) (Or.inl (by decide)))
  have P2 := Lib.hid (xput_bad w4 xa ⟨#[97]⟩ 4611686018427387905 (Or.inr (by decide)))
  have P3 := Lib.hid (xput_any w4 w1.heap.size xa [] E ⟨#[97]⟩ 4611686018427387904 H4.out (Nat.le_trans S3.out u34.size) (by decide) (by decide) (by decide))
  have U4 := Lib.hid (U3.out.trans u34 (fun _ _ h => h))
  have B4 := Lib.hid b4
  have NE := Lib.hid hne
  rw [e4] at P1 P2 P3
  have E4 := Lib.hid e4
  clear u34 b4 hne e4
  go_wp2_with fail
  refine (P1.out).mono ?_
  rintro e w5 ⟨rfl, rfl⟩
  go_wp2_with fail
  refine (P2.out).mono ?_
  rintro e w5 ⟨rfl, rfl⟩
  go_wp2_with fail
  refine (P3.out).mono ?_
  rintro e w5 ⟨rfl, E5, h5, u5, f5⟩
  rw [← E4.out] at u5
  have B5 := u5.blk B4.out NE.out
  have c0 := B5.cellAt (i := 0) rfl
  have c1 := B5.cellAt (i := 1) rfl
  have U5 := Lib.hid (U4.out.trans u5 (fun k hk e => by have := F2.out k e; omega))
  clear B5 h5 u5 f5
  go_wp2
  go_ret
  exact ⟨rfl, U5.out⟩
end Go.Proofs.Ytokkhddbdjflhaa
