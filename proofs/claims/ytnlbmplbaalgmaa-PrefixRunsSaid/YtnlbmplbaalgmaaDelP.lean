/- Rows of nodes of the call's own: one less. -/
import Derived.Test.YtnlbmplbaalgmaaRadN
import Derived.Test.YtnlbmplbaalgmaaLayDel
import Derived.Shelf.SlicesE.Delete
set_option linter.unusedVariables false
set_option linter.unusedSimpArgs false
namespace Go.Proofs.Ytnlbmplbaalgmaa
open Go.RowKit Go.Sort Go.Proofs

theorem Blk.putRow {α : Type} [Inhabited α] {enc : α → Value} {w : World} {g : Nat} {cs : List Value} {T : TypeId} (h : Blk w g cs T) (d : List α) (hd : d.length ≤ cs.length) : Blk (Sort.putRow enc w g 0 d.toArray) g (d.map enc ++ cs.drop d.length) T := by
  unfold Blk at *
  unfold Sort.putRow mapBlock
  simp only [Array.getElem?_modify, h, if_true, Option.map_some]
  simp only [onCells]
  congr 2
  apply Array.ext_getElem?
  intro k
  simp only [putCells, Array.getElem?_mapIdx, List.getElem?_toArray]
  by_cases hk : k < d.length
  · rw [List.getElem?_append_left (by simpa using hk)]
    have hc : k < cs.length := by omega
    rw [List.getElem?_eq_getElem hc]
    simp [hk]
  · rw [List.getElem?_append_right (by simpa using hk)]
    simp [hk, List.getElem?_drop]
    rw [show d.length + (k - d.length) = k by omega]
def enO : Option Nat → Value
  | some b => ptr b
  | none => .pointer none
theorem delP_any (w : World) (base : Nat) (v : Value) (K1 K2 : List Nat) (x : Nat) (h : NodesAt w base v (K1 ++ x :: K2)) :
    Calls Try.prog 69 #[v, .int .i64 (K1.length : Int), .int .i64 ((K1.length : Int) + 1)] w fun e w' => ∃ v', e = .returned v' ∧ NodesAt w' base v' (K1 ++ K2) ∧ Upd (fun k => v.ownBlock = some k) w w' ∧ (∀ k, v'.ownBlock = some k → v.ownBlock = some k) := by
  obtain ⟨hlen, ⟨_, e0⟩ | ⟨g, cap, cs, ev, hg, hB, hc, hm⟩⟩ := own_blk h
  · simp at e0
  · subst ev
    obtain ⟨i0, hi0, hz0, hz1, hz2⟩ := rinfo_parts nodep_info
    have hsz : ((K1 ++ x :: K2).map some).toArray.size = (K1 ++ x :: K2).length := by simp
    have hH : Holds enO w g 0 ((K1 ++ x :: K2).map some).toArray := fun t ht => by
      rw [Nat.zero_add]
      rw [hsz] at ht
      refine ⟨hB.cellAt ?_, hB.free t⟩
      rw [List.getElem?_append_left (by simpa using ht), List.getElem?_map, List.getElem?_eq_getElem ht, getElem!_pos _ t (by rw [hsz]; exact ht)]
      rw [List.getElem_toArray, List.getElem_map]; rfl
    have := AnyE.slices_Delete Try.layDel enO (fun a => by cases a <;> rfl) none (fun _ => by kernel_rfl) i0 hi0 hz1 g 0 cap K1.length (K1.length + 1) ((K1 ++ x :: K2).map some).toArray w hH (by rw [hsz]; omega) hm (by omega) (by rw [hsz]; simp)
    rw [hsz] at this
    have ec : ((K1.length + 1 : Nat) : Int) = (K1.length : Int) + 1 := by omega
    rw [ec] at this
    refine Calls.mono this ?_
    rintro e w' ⟨rfl, q, rfl⟩
    have el : (K1 ++ x :: K2).length - (K1.length + 1 - K1.length) = (K1 ++ K2).length := by simp <;> omega
    rw [el]
    have ed : (((K1 ++ x :: K2).map some).toArray.toList.take K1.length ++ ((K1 ++ x :: K2).map some).toArray.toList.drop (K1.length + 1) ++ List.replicate (K1.length + 1 - K1.length) (none : Option Nat)) = (K1 ++ K2).map some ++ [none] := by
      simp [List.drop_append]
    rw [ed]
    have hB2 : Blk (Sort.ahead w q) g ((K1 ++ x :: K2).map ptr ++ cs) 80 := hB
    have hP := hB2.putRow (enc := enO) ((K1 ++ K2).map some ++ [none]) (by simp <;> omega)
    refine ⟨_, rfl, ?_, ⟨rfl, rfl, rfl, by simp [Sort.putRow, mapBlock, Sort.ahead], fun k hk hF => ?_⟩, fun k hk => hk⟩
    · unfold NodesAt
      refine own_of (cs := .pointer none :: cs) hg ?_ (by simp) (by simp at hc ⊢; omega) hm
      have e1 : (K1 ++ K2).map ptr ++ .pointer none :: cs = ((K1 ++ K2).map some ++ [none]).map enO ++ ((K1 ++ x :: K2).map ptr ++ cs).drop ((K1 ++ K2).map some ++ [none]).length := by
        have : ((K1 ++ K2).map some ++ [none]).length = ((K1 ++ x :: K2).map ptr).length := by simp <;> omega
        rw [this, List.drop_left]
        simp [enO, Function.comp_def]
      rw [e1]; exact hP
    · have : k ≠ g := fun e => hF (by rw [e]; rfl)
      simp [Sort.putRow, mapBlock, Sort.ahead, Array.getElem?_modify, Ne.symm this]
end Go.Proofs.Ytnlbmplbaalgmaa
