/- TableHash, walked. -/
import Derived.Test.YtbkhpdmadhhdoaaTabH
import Derived.Deep.RegionWith
import Derived.Deep.DeepCutAuto
set_option linter.unusedVariables false
set_option linter.unusedSimpArgs false
namespace Go.Proofs.Ytbkhpdmadhhdoaa
open Go.RowKit
open Tbl (Pl findGo home fnv Tab)

theorem conv1 (c : UInt8) (w : World) (b : Nat) (h : w.cell? ⟨b, 0, none⟩ = some (.int .u8 (c.toNat : Int))) :
    (convert 25 9 (.slice (some ⟨b, 0, none⟩) 1 1)).run Try.prog w = .ok (.string ⟨#[c]⟩) w := by
  have := run_convert_bytes_arg (P := Try.prog) w 25 5 Try.underlying25 Try.underlying5 b 0 1 1 [(c.toNat : Int)] rfl (fun i hi => by
    obtain rfl : i = 0 := by omega
    simpa using h) 9 Try.underlying9
  rw [this]; simp [strOfNums]

theorem size1 (s : ByteArray) (c : UInt8) (h : s.size ≤ 1000) : (s ++ (⟨#[c]⟩ : ByteArray)).size ≤ maxLen := by
  rw [ByteArray.size_append]; unfold maxLen; show _ + 1 ≤ _; omega

theorem fnv_app (s : ByteArray) (c : UInt8) : (fnv (s ++ (⟨#[c]⟩ : ByteArray)).data.toList : Int) = ((Tbl.fnvStep (Tbl.fnvB s.data.toList) c).toNat : Int) := by
  have : (s ++ (⟨#[c]⟩ : ByteArray)).data.toList = s.data.toList ++ [c] := by
    rw [ByteArray.data_append]; simp
  rw [this]; unfold fnv; rw [Tbl.fnvB_snoc]

theorem step_inj (h : BitVec 64) (c d : UInt8) (e : Tbl.fnvStep h c = Tbl.fnvStep h d) : c = d := by
  unfold Tbl.fnvStep at e
  have e2 := congrArg (fun x => x * 14886173955864302971#64) e
  simp only [BitVec.mul_assoc] at e2
  have k : 1099511628211#64 * 14886173955864302971#64 = 1#64 := by decide
  rw [k, BitVec.mul_one, BitVec.mul_one] at e2
  have e3 : BitVec.ofNat 64 c.toNat = BitVec.ofNat 64 d.toNat := by
    have := congrArg (fun x => h ^^^ x) e2
    simpa [← BitVec.xor_assoc] using this
  have e4 := congrArg BitVec.toNat e3
  have h1 := c.toNat_lt
  have h2 := d.toNat_lt
  simp at e4
  exact UInt8.toNat_inj.1 (by omega)
theorem hash_differ (s : ByteArray) (c d : UInt8) :
    (((fnv (s ++ (⟨#[c]⟩ : ByteArray)).data.toList : Int) == (fnv (s ++ (⟨#[d]⟩ : ByteArray)).data.toList : Int)) == ((c.toNat : Int) == (d.toNat : Int))) = true := by
  rw [fnv_app, fnv_app]
  by_cases h : c = d
  · subst h; simp
  · have h1 : ¬ (c.toNat : Int) = (d.toNat : Int) := fun e => h (UInt8.toNat_inj.1 (by omega))
    have h2 : ¬ ((Tbl.fnvStep (Tbl.fnvB s.data.toList) c).toNat : Int) = ((Tbl.fnvStep (Tbl.fnvB s.data.toList) d).toNat : Int) := fun e => h (step_inj (Tbl.fnvB s.data.toList) _ _ (BitVec.eq_of_toNat_eq (by omega)))
    rw [beq_eq_false_iff_ne.2 h1, beq_eq_false_iff_ne.2 h2]; rfl

set_option maxHeartbeats 2000000 in
theorem lawHash (s : ByteArray) (c d : UInt8) (w : World) (hs : s.size ≤ maxLen) :
    Calls Try.prog 3 #[.string s, .int .u8 c.toNat, .int .u8 d.toNat] w fun e w' => e = .returned (.bool true) ∧ Upd (fun _ => False) w w' := by
  have hs' := hs
  unfold maxLen at hs
  go_enter Try.func3, Try.ntmps3
  go_wp2_with fail
  refine (alive_any w).mono ?_
  rintro e w1 ⟨rfl, u1⟩
  have U1 := Lib.hid u1
  clear u1
  by_cases hl : 1000 < s.size
  · go_wp2
    go_ret
    exact ⟨rfl, U1.out⟩
  · go_wp2_with fail
    refine (hash_any s w1 hs').mono ?_
    rintro e w2 ⟨rfl, rfl⟩
    have hl2 : s.size ≤ 1000 := by omega
    go_wp2_with fail
    go_upto_region 6 with (fail)
    go_cut [8, 9] (fun x y w' => x = .int .u64 (fnv (s ++ (⟨#[c]⟩ : ByteArray)).data.toList : Int) ∧ y = .int .u64 (fnv (s ++ (⟨#[d]⟩ : ByteArray)).data.toList : Int) ∧ Hid (Upd (fun _ => False) w w'))
    case first =>
      have z1 := size1 s c hl2
      have z2 := size1 s d hl2
      have v1 := conv1 c
      have v2 := conv1 d
      have a1 := fun w : World => run_string_add_sum (P := Try.prog) w s ⟨#[c]⟩ (by show s.size + 1 ≤ _; omega)
      have a2 := fun w : World => run_string_add_sum (P := Try.prog) w s ⟨#[d]⟩ (by show s.size + 1 ≤ _; omega)
      clear hl hl2 hs hs'
      go_region_with (go_at_call 8; refine (hash_any _ _ (by first | with_reducible exact z1 | with_reducible exact z2)).mono ?_; rintro e w' ⟨rfl, rfl⟩)
      all_goals
        go_wp2_with fail
        go_meet
        exact ⟨rfl, rfl, ((U1.out.alloc _).alloc _).drew⟩
    case rest =>
      obtain ⟨rfl, rfl, U2⟩ := hcut
      have T1 : ((fnv (s ++ (⟨#[c]⟩ : ByteArray)).data.toList : Int) == IntKind.u64.wrap (bits .xor .u64 (fnv s.data.toList : Int) (IntKind.u64.wrap (c.toNat : Int)) * 1099511628211)) = true := by
        have := fnv_step_int (Tbl.fnvB s.data.toList) c
        rw [fnv_app, ← this]; exact beq_self_eq_true _
      have T3 := hash_differ s c d
      clear hl hl2 hs hs'
      generalize (fnv (s ++ (⟨#[c]⟩ : ByteArray)).data.toList : Int) = B at *
      generalize (fnv (s ++ (⟨#[d]⟩ : ByteArray)).data.toList : Int) = C at *
      generalize (fnv s.data.toList : Int) = A at *
      generalize (c.toNat : Int) = cc at *
      generalize (d.toNat : Int) = dd at *
      have T2 := Lib.hid T3
      clear T3
      go_wp2
      go_ret
      exact ⟨ret_bool T2.out, U2.out⟩
end Go.Proofs.Ytbkhpdmadhhdoaa
