/- Keys that share their beginnings: texts cut and joined. -/
import Derived.Test.YtnlbmplbaalgmaaRadB
set_option linter.unusedVariables false
set_option linter.unusedSimpArgs false
namespace Go.Proofs.Ytnlbmplbaalgmaa
open Go.RowKit

theorem ofL_extract (a : Txt) (i j : Nat) : (ofL a).extract i j = ofL ((a.take j).drop i) := by
  rw [← ofL_of ((ofL a).extract i j)]
  congr 1
  rw [ByteArray.toList_eq]
  show ((ofL a).extract i j).data.toList = _
  rw [ByteArray.data_extract]
  unfold ofL
  simp [Array.toList_extract, List.drop_take]
theorem ofL_append (a b : Txt) : ofL a ++ ofL b = ofL (a ++ b) := by
  rw [← ofL_of (ofL a ++ ofL b)]
  congr 1
  rw [ByteArray.toList_eq, ByteArray.data_append]
  unfold ofL; simp
/-- A text's first k bytes. -/
theorem run_take (a : Txt) (k : Int) (h0 : 0 ≤ k) (h1 : k ≤ (a.length : Int)) (w : World) : (Instr.slice 9 (.string (ofL a)) none (some (.int .i64 k)) none).run Try.prog w = .ok (.string (ofL (a.take k.toNat))) w := by
  have hs := ofL_size a
  have h2 : k ≤ ((ofL a).size : Int) := by rw [hs]; exact h1
  simp [Instr.slice, run_underlying Try.underlying9, Instr.sliceBounds, run_sliceBound, h0, h2, ofL_extract]
/-- A text from its byte k on. -/
theorem run_drop (a : Txt) (k : Int) (h0 : 0 ≤ k) (h1 : k ≤ (a.length : Int)) (w : World) : (Instr.slice 9 (.string (ofL a)) (some (.int .i64 k)) none none).run Try.prog w = .ok (.string (ofL (a.drop k.toNat))) w := by
  have hs := ofL_size a
  have h2 : k ≤ ((ofL a).size : Int) := by rw [hs]; exact h1
  simp [Instr.slice, run_underlying Try.underlying9, Instr.sliceBounds, run_sliceBound, h0, h1, h2, ofL_extract, hs]
theorem take_pre {a p : Txt} : a.take p.length = p ↔ p <+: a := by
  rw [List.prefix_iff_eq_take]; exact eq_comm
set_option maxHeartbeats 4000000 in
set_option maxRecDepth 100000 in
theorem begins_any (a p : Txt) (w : World) : Calls Try.prog 46 #[.string (ofL a), .string (ofL p)] w fun e w' => e = .returned (.bool (decide (p <+: a))) ∧ w' = w := by
  have s1 := ofL_size a
  have s2 := ofL_size p
  have key : Calls Try.prog 68 #[.string (ofL a), .string (ofL p)] w fun e w' => e = .returned (.bool (decide (p <+: a))) ∧ w' = w := by
    by_cases hl : p.length ≤ a.length
    · have q1 : (p.length : Int) ≤ (a.length : Int) := by omega
      have q2 : ((p.length : Int)).toNat = p.length := by omega
      have rt := run_take a (p.length : Int) (by omega) (by omega)
      rw [q2] at rt
      have hb : ((ofL (a.take p.length)).toList == (ofL p).toList) = decide (p <+: a) := by
        rw [ofL_toList, ofL_toList]
        by_cases h : p <+: a
        · rw [decide_eq_true h, take_pre.2 h]; simp
        · rw [decide_eq_false h]
          rw [beq_eq_false_iff_ne]; exact fun e => h (take_pre.1 e)
      generalize decide (p <+: a) = res at *
      generalize ofL (a.take p.length) = t at *
      generalize ofL a = sa at *
      generalize ofL p = sp at *
      generalize a.length = la at *
      generalize p.length = lp at *
      clear hl
      go_enter Try.func68, Try.ntmps68
      go_wp2
      go_ret
      exact ⟨rfl, rfl⟩
    · have q1 : ¬ (p.length : Int) ≤ (a.length : Int) := by omega
      have hr : decide (p <+: a) = false := decide_eq_false fun h => hl h.length_le
      rw [hr]
      generalize ofL a = sa at *
      generalize ofL p = sp at *
      generalize a.length = la at *
      generalize p.length = lp at *
      clear hl hr
      go_enter Try.func68, Try.ntmps68
      go_wp2
      go_ret
      exact ⟨rfl, rfl⟩
  have KK := Lib.hid key
  clear key
  generalize decide (p <+: a) = res at *
  generalize ofL a = sa at *
  generalize ofL p = sp at *
  go_enter Try.func46, Try.ntmps46
  go_wp2_with fail
  refine (KK.out).mono ?_
  rintro e w1 ⟨rfl, rfl⟩
  go_wp2
  go_ret
  exact ⟨rfl, rfl⟩
end Go.Proofs.Ytnlbmplbaalgmaa
