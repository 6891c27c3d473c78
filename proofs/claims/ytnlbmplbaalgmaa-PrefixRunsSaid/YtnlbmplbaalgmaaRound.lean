/- A region that draws its order, within a round of a loop over an iterator: walked as one outside. -/
import Derived.OrdersIn
import Derived.OrdersHeld
import Derived.RangeFuncCalls
import Derived.TacticsIn
set_option linter.unusedVariables false
set_option linter.unusedSimpArgs false
namespace Go.Proofs.Ytnlbmplbaalgmaa
open Go.RowKit
variable {P : Program} {n l : Nat} {Q : Exit → Act → World → Prop} {ops : Array Oper} {md : Region.Mode}

theorem upon_round {o : Oper} {a : Act} {K : Act → World → Prop} {r : Result Next} (h : o.upon P a K Q r) : o.uponIn (Fence.wide.inRound l) n P a K Q r := by
  cases r with
  | ok x w' =>
    cases x with
    | value v => exact h
    | skip => exact h
    | defer d => exact h
    | enter f args => exact ⟨fun e => (by cases e), CallsIn.inRound l (callsIn_wide.2 h)⟩
    | row r args =>
      refine ⟨fun e => (by cases e), fun c cs _ => ?_⟩
      obtain ⟨v, w', h1, h2⟩ := h c cs
      exact ⟨v, w', h1, stepsIn_wide.2 h2⟩
    | _ => exact h.elim
  | halt x w' => cases x <;> exact h
theorem wpOp_round {i : Nat} (hd : ∀ o ∈ ops, ∀ c, o.op ≠ .defer c) (hQ : ¬ LetsOut Q) {K : Act → World → Prop} {a : Act} {w : World} (h : wpOp P ops Q i K a w) : wpOpIn (Fence.wide.inRound l) n P ops Q i K a w := by
  unfold wpOp at h
  unfold wpOpIn
  split
  · rename_i ho; rw [ho] at h; exact h
  · rename_i o ho
    rw [ho] at h
    simp only at h
    split
    · rename_i hw
      rw [if_pos hw] at h
      rcases h with h | ⟨_, h⟩
      · refine ⟨fun _ _ => trivial, ?_⟩
        rw [Oper.semAt_eq _ _ _ (hd o (Array.mem_of_getElem? ho))]
        exact upon_round h
      · exact absurd h hQ
    · rename_i hw
      rw [if_neg hw] at h
      exact ⟨fun _ _ => trivial, h⟩
theorem wpAny_round (hd : ∀ o ∈ ops, ∀ c, o.op ≠ .defer c) (hQ : ¬ LetsOut Q) : ∀ (fuel : Nat) (listed : Array Bool) (a : Act) (w : World), wpAny P md ops Q fuel listed a w → wpAnyIn (Fence.wide.inRound l) n P md ops Q fuel listed a w
  | 0, _, _, _, h => h
  | fuel + 1, listed, a, w, h => ⟨h.1, fun i hi => wpOpIn_mono (fun a w => wpAny_round hd hQ fuel _ a w) (wpOp_round hd hQ (h.2 i hi))⟩
/-- The beginning. -/
theorem wpIn_region_round {S : World → Prop} {id : Nat} {a : Act} {w : World} (hm : P.follows .mixedOrders = true) (hd : ∀ o ∈ ops, ∀ c, o.op ≠ .defer c) (hQ : ¬ LetsOut Q)
    (hS : S w.drew) (h : S w.drew → wpAnyH P .any ops Q S ops.size (Array.replicate ops.size false) a w.drew) : (Code.region id ops true).wpIn (Fence.wide.inRound l) n P Q a w :=
  wpIn_region_any hm (wpAny_round hd hQ _ _ _ _ (wpAny_of_held _ _ _ _ (h hS)))
end Go.Proofs.Ytnlbmplbaalgmaa
