/- Walks: great, over the acts of layer 8. -/
import Derived.Test.YtbkhpdmadhhdoaaTabH
import Derived.Test.YtbkhpdmadhhdoaaRowOf
set_option linter.unusedVariables false
set_option linter.unusedSimpArgs false
namespace Go.Proofs.Ytbkhpdmadhhdoaa
open Go.RowKit

structure Act8 where
  kind : Int
  key : ByteArray
  n : Int
def act8c (a : Act8) : List Value := [.int .i64 a.kind, .string a.key, .int .i64 a.n]

/-- The cells of one act, behind a RowOf that is not empty. -/
theorem act8_cells {w : World} {p : Option Addr} {cap : Nat} {l : List Act8} (h : RowOf act8c 3 w (.slice p l.length cap) l) {k : Nat} (hk : k < l.length) :
    ∃ b off a, p = some ⟨b, off, none⟩ ∧ b < w.heap.size ∧ l[k]? = some a ∧ w.cell? ⟨b, off + k * 3, none⟩ = some (.int .i64 a.kind) ∧ w.cell? ⟨b, off + k * 3 + 1, none⟩ = some (.string a.key) ∧ w.cell? ⟨b, off + k * 3 + 2, none⟩ = some (.int .i64 a.n) := by
  rcases h with ⟨_, _, _, e⟩ | ⟨b, off, c, e, hb, _, hc⟩
  · rw [e] at hk; simp at hk
  · simp only [Value.slice.injEq] at e
    have hx : l[k]? = some l[k] := List.getElem?_eq_getElem hk
    refine ⟨b, off, l[k], e.1, hb, hx, ?_, ?_, ?_⟩
    · have := hc k _ hx 0 (by omega); rw [Nat.add_zero] at this; simpa [act8c] using this
    · have := hc k _ hx 1 (by omega); rw [← Nat.add_assoc] at this; simpa [act8c] using this
    · have := hc k _ hx 2 (by omega); rw [← Nat.add_assoc] at this; simpa [act8c] using this

def great8 (l : List Act8) : Bool := decide (150 < l.length) || l.any fun a => decide (100 < a.key.size)

set_option maxHeartbeats 1000000 in
theorem great8_any (v : Value) (l : List Act8) (w : World) (h : RowOf act8c 3 w v l) (hs : ∀ a ∈ l, a.key.size ≤ maxLen) :
    Calls Try.prog 15 #[v] w fun e w' => e = .returned (.bool (great8 l)) ∧ Upd (fun _ => False) w w' := by
  obtain ⟨p, cap, rfl, b1⟩ := h.len
  have H := Lib.hid h
  have HS := Lib.hid hs
  clear h hs
  by_cases hl : 150 < l.length
  · have hd : decide ((150 : Int) < (l.length : Int)) = true := by simp; omega
    have HG : Hid (great8 l = true) := by show great8 l = true; unfold great8; simp [hl]
    unfold maxLen at b1
    clear hl
    go_enter Try.func15, Try.ntmps15
    go_wp2
    go_ret
    exact ⟨ret_bool HG.out.symm, Upd.refl _ _⟩
  · have hd : decide ((150 : Int) < (l.length : Int)) = false := by simp; omega
    have HG : Hid (great8 l = l.any fun a => decide (100 < a.key.size)) := by show great8 l = _; unfold great8; simp [hl]
    have hl2 : l.length ≤ 150 := by omega
    clear hl b1
    go_enter Try.func15, Try.ntmps15
    go_wp2
    go_loopw [10] (fun c wr => ∃ k : Nat, k ≤ l.length ∧ c = .int .i64 (k : Int) ∧ Hid ((l.take k).any (fun a => decide (100 < a.key.size)) = false) ∧ Hid (Upd (fun _ => False) w wr)) (fun c _ => l.length - (intOf c).toNat)
    case atStart => exact ⟨0, by omega, rfl, by show (l.take 0).any _ = false; simp, Upd.refl _ _⟩
    case round =>
      obtain ⟨k, hk, rfl, T, U⟩ := hrel
      by_cases hlt : k < l.length
      · obtain ⟨b, off, a, rfl, hb, ha, c0, c1, c2⟩ := act8_cells (H.out.keep U.out (fun _ _ _ => id)) hlt
        have hsz : a.key.size ≤ 9223372036854775807 := HS.out a (List.mem_of_getElem? ha)
        have HX : Hid (l.take (k + 1) = l.take k ++ [a]) := by
          obtain ⟨_, r1⟩ := List.getElem?_eq_some_iff.1 ha
          show l.take (k + 1) = _
          rw [List.take_succ_eq_append_getElem hlt, r1]
        have HM : Hid (a ∈ l) := List.mem_of_getElem? ha
        clear ha
        go_wp2
        · have t : 100 < a.key.size := by have : (100 : Int) < (a.key.size : Int) := by assumption
                                          omega
          go_ret
          refine ⟨ret_bool ?_, U.out.alloc _⟩
          rw [HG.out]
          exact (List.any_eq_true.2 ⟨a, HM.out, by simpa using t⟩).symm
        · have t : ¬ 100 < a.key.size := by have : (a.key.size : Int) ≤ 100 := by assumption
                                            omega
          go_roundw
          case rel =>
            refine ⟨k + 1, by omega, rfl, ?_, U.out.alloc _⟩
            show (l.take (k + 1)).any _ = false
            rw [HX.out, List.any_append, T.out]; simp [t]
          case measure => simp [intOf]; omega
      · have hk2 : k = l.length := by omega
        subst hk2
        go_wp2
        go_ret
        refine ⟨ret_bool ?_, U.out⟩
        have := T.out
        rw [List.take_length] at this
        rw [HG.out, this]
end Go.Proofs.Ytbkhpdmadhhdoaa
