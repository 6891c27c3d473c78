/- Walks: grow. -/
import Derived.Test.YtbkhpdmadhhdoaaTabC
set_option linter.unusedVariables false
set_option linter.unusedSimpArgs false
namespace Go.Proofs.Ytbkhpdmadhhdoaa
open Go.RowKit
open Tbl (Pl findGo home fnv Tab)

theorem TabAt.fb {w : World} {a bo bf : Nat} {t : Tab} (h : TabAt w a bo bf t) (i : Nat) : w.frozen? ⟨a, i, none⟩ = false := h.blk.free i

set_option maxHeartbeats 1000000 in
theorem grow_any (a bo bf : Nat) (t : Tab) (w : World) (h : TabAt w a bo bf t) (b1 : 0 ≤ t.old.full) (b2 : t.old.full ≤ 100000) (b3 : 0 ≤ t.old.graves) (b4 : t.old.graves ≤ 1000000) (b5 : t.old.pl.length ≤ 1000000) :
    Calls Try.prog 22 #[.pointer (some ⟨a, 0, none⟩)] w fun e w' => e = .returned (.tuple #[]) ∧ ∃ bf', TabAt w' a bo bf' t.grow ∧ Upd (fun k => k = a) w w' ∧ (t.grow.moving = true → (t.moving = true ∧ bf' = bf) ∨ w.heap.size ≤ bf') := by
  have c0 := h.o0
  have c1 := h.o1
  have c2 := h.o2
  have cm := h.m
  have fb := h.fb
  by_cases hm : t.moving = false
  · by_cases hg : 2 * (t.old.full + t.old.graves) < t.old.pl.length
    · have e : t.grow = t := by unfold Tab.grow; rw [if_pos (Or.inr hg)]
      have E := Lib.hid e
      have H := Lib.hid h
      have HM := Lib.hid hm
      rw [hm] at cm
      clear e h hm
      go_enter Try.func22, Try.ntmps22
      go_wp2
      go_quiet (fail)
      go_wp2
      go_returns
      rw [E.out]
      exact ⟨rfl, bf, H.out.drewN _, (Upd.refl _ _).drewN _, fun hh => by rw [HM.out] at hh; cases hh⟩
    · have e : t.grow = { t with fresh := Tbl.made t.room.toNat, moving := true } := by unfold Tab.grow; rw [if_neg (by simp [hm]; omega)]
      have E := Lib.hid e
      have H := Lib.hid h
      have HM := Lib.hid hm
      rw [hm] at cm
      have hg' : decide (2 * (t.old.full + t.old.graves) < (t.old.pl.length : Int)) = false := by simpa using hg
      clear e h hm
      go_enter Try.func22, Try.ntmps22
      go_wp2
      go_quiet (fail)
      go_wp2
      all_goals
        go_loop [2] (fun r => ∃ (f R : Nat), 8 ≤ R ∧ R ≤ 1000000 ∧ 4 * t.old.full + 4 - R ≤ f ∧ r = .int .i64 (R : Int) ∧ Hid (Tbl.roomFor t.old.full f R = t.room)) (fun r => (4 * t.old.full + 4 - intOf r).toNat)
        case atStart =>
          first
            | exact ⟨(4 * t.old.full + 4).toNat, 8, by omega, by omega, by omega, rfl, by unfold Tab.room; rw [Int.max_eq_left (by omega)]; rfl⟩
            | exact ⟨(4 * t.old.full + 4).toNat, t.old.pl.length / 2, by omega, by omega, by omega, by simp, by unfold Tab.room; rw [Int.max_eq_right (by omega)]; rfl⟩
        case round =>
          obtain ⟨f, R, h1, h2, h3, rfl, HR⟩ := hrel
          by_cases hc : R / 4 ≤ t.old.full
          · obtain ⟨f, rfl⟩ : ∃ g, f = g + 1 := ⟨f - 1, by omega⟩
            go_wp2
            go_round
            case rel => 
              exact ⟨f, R * 2, by omega, by omega, by omega, by simp, by
                have := HR.out
                rw [Tbl.roomFor, if_pos hc] at this
                exact this⟩
            case measure => simp [intOf]; omega
          · have hR : t.room = R := by
              have := HR.out
              cases f with
              | zero => exact this.symm
              | succ f => rw [Tbl.roomFor, if_neg hc] at this; exact this.symm
            clear HR
            have HR := Lib.hid hR
            clear hR
            go_wp2_with fail
            refine (made_any R _ h2).mono ?_
            rintro e w1 ⟨bp, rfl, k1, k2, k3⟩
            have K2 := Lib.hid k2
            have K3 := Lib.hid k3
            have H1 : TabAt w1 a bo bf t := (H.out.drewN _).keep k3 (fun _ _ => id)
            have x3 := H1.n0 HM.out
            have x4 := H1.f1
            have x5 := H1.f2
            have x6 := H1.m
            have xb := H1.fb
            have HH1 := Lib.hid H1
            clear k2 k3 H1
            go_wp2
            go_returns
            have hr := HR.out
            have E1 := E.out
            rw [hr, Int.toNat_natCast] at E1
            rw [E1]
            have HB := (((HH1.out.blk.set 3 (.slice (some ⟨bp, 0, none⟩) R R)).set 4 (.int .i64 0)).set 5 (.int .i64 0)).set 6 (.bool true)
            have al := H.out.blk.lt
            have ol := Blk.lt H.out.old
            have hne : bp ≠ a := by simp at k1; omega
            have hne2 : bo ≠ bp := by simp at k1; omega
            refine ⟨rfl, bp, ⟨?_, ?_, ?_, H.out.ne, ?_, ?_⟩, ?_, ?_⟩
            · have e : (((((tabc bo bf t).set 3 (.slice (some ⟨bp, 0, none⟩) R R)).set 4 (.int .i64 0)).set 5 (.int .i64 0)).set 6 (.bool true)) = tabc bo bp ⟨t.old, Tbl.made R, true, t.next⟩ := by
                simp [tabc, rowc, freshc, HM.out, Tbl.made]
              rw [← e]; exact HB
            · exact (((Blk.set_other HH1.out.old (Ne.symm H.out.ne)).set_other (Ne.symm H.out.ne)).set_other (Ne.symm H.out.ne)).set_other (Ne.symm H.out.ne)
            · intro _
              exact (((Blk.set_other K2.out hne).set_other hne).set_other hne).set_other hne
            · intro _; exact ⟨Ne.symm hne, hne2⟩
            · intro hh; cases hh
            · refine ((((((Upd.refl (fun k => k = a) _).drewN _).trans K3.out (fun _ _ h => h.elim)).set (fun _ => rfl)).set (fun _ => rfl)).set (fun _ => rfl)).set (fun _ => rfl)
            · intro _; right; simpa using k1
  · have hm : t.moving = true := by simpa using hm
    have e : t.grow = t := by unfold Tab.grow; rw [if_pos (Or.inl hm)]
    have E := Lib.hid e
    have H := Lib.hid h
    have HM := Lib.hid hm
    rw [hm] at cm
    clear e h hm
    go_enter Try.func22, Try.ntmps22
    go_wp2
    go_quiet (fail)
    go_wp2
    go_returns
    rw [E.out]
    exact ⟨rfl, bf, H.out.drewN _, (Upd.refl _ _).drewN _, fun _ => Or.inl ⟨HM.out, rfl⟩⟩
end Go.Proofs.Ytbkhpdmadhhdoaa
