/- The iterator over a map's values; walk: expiry's All. -/
import Derived.Test.YtokkhddbdjflhaaExpL
import Derived.Test.YtokkhddbdjflhaaRange
import Derived.RangeFuncFrom
import Derived.RangeFuncBox
import Derived.OwnWalkIn
import Derived.TacticsInMore
import Derived.RegionIn
import Derived.LoopNIn
import Derived.LoopIn
set_option linter.unusedVariables false
set_option linter.unusedSimpArgs false
namespace Go.Proofs.Ytokkhddbdjflhaa
open Go.RowKit Go.Sort Go.Maps Go.WideElems Go.Proofs

theorem RangeAt.walks {P : Program} {K : TypeId} {w w' : World} {b r : Nat} {m : List (ByteArray × Value)} {done : List ByteArray} {cnt : Nat} (h : RangeAt P K w b r m done cnt) (k : KeepsWalks w w') : RangeAt P K w' b r m done cnt := by
  obtain ⟨D, left, h1, h2⟩ := h
  exact ⟨D, left, h1.of_walks k, h2⟩
theorem RangeAt.iter {P : Program} {K : TypeId} {w : World} {b r : Nat} {m : List (ByteArray × Value)} {done : List ByteArray} {cnt : Nat} (h : RangeAt P K w b r m done cnt) : ∃ o : Obj, w.heap[r]? = some o ∧ o.isWalk = true := by
  obtain ⟨D, left, h1, _⟩ := h; exact h1.iter_walk
theorem Upd.grown0 {w w' : World} (u : Upd (fun _ => False) w w') : w.grownBy w' none := ⟨u.os, u.tape, u.output, u.size, fun k hk _ => u.block k hk (fun h => h)⟩
theorem Upd.grown1 {w w' : World} {r : Nat} (u : Upd (fun i => i = r) w w') : w.grownBy w' (some r) := ⟨u.os, u.tape, u.output, u.size, fun k hk h => u.block k hk (fun e => h (by rw [e]))⟩
theorem sub_len {l m : List ByteArray} (hn : l.Nodup) (hs : ∀ x ∈ l, x ∈ m) : l.length ≤ m.length := subset_len hn hs
def valsOf (m : List (ByteArray × Value)) (ks : List ByteArray) : List Value := ks.map fun k => (aget m k).getD undef
set_option maxRecDepth 100000 in
set_option maxHeartbeats 1000000 in
theorem values1_in {α : Type} (enc : α → Value) (F : Fence) (n : Nat) (h8 : F.fn 32) (hro : F.round = none) (hn : 1 ≤ n) (l Bm b : Nat) (m : List (ByteArray × Value)) (hv : ∀ k v, aget m k = some v → ∃ x : α, enc x = v) (J Jx : List α → World → Prop)
    (hY : ∀ pre x W, J pre W → pre.length < m.length → YieldAt F (n - 1) Try.prog l #[enc x] W fun e W' =>
      (e = .returned (.bool true) ∧ J (pre ++ [x]) W' ∧ KeepsWalks W W') ∨ (e = .returned (.bool false) ∧ Jx (pre ++ [x]) W'))
    (W : World) (hJ : AbidesFrom W.heap.size J) (hm : W.cell? ⟨Bm, 0, none⟩ = some (.map (some b))) (hM : MapAt strEnc W b m) (hnd : (akeys m).Nodup) (hs : ∀ k ∈ akeys m, k.size ≤ maxLen) (hl : m.length ≤ maxLen) (h0 : J [] W) :
    CallsIn F n Try.prog 32 #[.func (.yield l) #[] #[], .pointer (some ⟨Bm, 0, none⟩)] W fun e W' => (∃ v, e = .returned v) ∧
      ((∃ xs, (∃ ks : List ByteArray, ks.Perm (akeys m) ∧ xs.map enc = valsOf m ks) ∧ J xs W') ∨ (∃ pre, True ∧ Jx pre W')) := by
  refine callsIn_of_wp Try.func32 rfl h8 ?_ hro
  simp only [Try.ntmps32, List.size_toArray, List.length_cons, List.length_nil, Nat.reduceAdd, Nat.reduceSub, Array.replicate_succ, Array.replicate_zero, List.push_toArray, List.append_toArray, List.nil_append, List.cons_append]
  have HY := Lib.hid hY
  have HJ := Lib.hid hJ
  have HS := Lib.hid hs
  have HND := Lib.hid hnd
  clear hY hJ hs hnd
  gi_wp2_with (first
    | (gi_at_range; refine wpListIn_range_at _ rfl _ 54 rfl 9 61 Try.underlying9 Try.underlying54 b m rfl hM HND.out HS.out hl ?_; intro w0 cnt0 hrg0 hg0 hs0)
    | gi_in)
  go_frame
  gi_loopw [4] (fun _ wr => ∃ (cnt : Nat) (done : List ByteArray), RangeAt Try.prog 9 wr b W.heap.size m done cnt ∧ (∃ xs : List α, Hid (xs.map enc = valsOf m done) ∧ J xs wr) ∧ Hid (done.Nodup ∧ ∀ k ∈ done, k ∈ akeys m))
    (fun _ wr => wr.rangeLeft b W.heap.size)
  case atStart =>
    exact ⟨cnt0, [], hrg0, ⟨[], Lib.hid rfl, HJ.out [] W w0 none h0 hg0.grown0 (fun r e => by cases e)⟩, Lib.hid ⟨List.nodup_nil, fun k hk => by simp at hk⟩⟩
  case round =>
    obtain ⟨cnt, done, hrg, ⟨xs, XS, hJs⟩, DN⟩ := hrel
    gi_wp2_with (first
      | (gi_at_next; refine wpListIn_next_at _ rfl _ rfl 9 Try.underlying9 b W.heap.size m done cnt rfl hrg ?_ ?_)
      | gi_in)
    · intro hp
      gi_wp2
      go_end0
      exact ⟨⟨_, rfl⟩, .inl ⟨xs, ⟨done, hp, XS.out⟩, hJs⟩⟩
    · intro k v w2 cnt2 hnew hg hrg2 hlt hu hs2 hen
      obtain ⟨x, rfl⟩ := hv k v hg
      have hJ2 : J xs w2 := HJ.out _ wr w2 (some W.heap.size) hJs hu.grown1 (fun r e => by cases e; exact ⟨Nat.le_refl _, hrg.iter⟩)
      have hkm : k ∈ akeys m := Decidable.not_not.1 fun hh => by rw [aget_none.2 hh] at hg; cases hg
      have hdn : (done ++ [k]).Nodup ∧ ∀ x ∈ done ++ [k], x ∈ akeys m := ⟨List.nodup_append.2 ⟨DN.out.1, by simp, fun x hx y hy e => by simp at hy; subst hy; subst e; exact hnew hx⟩, fun x hx => by
        rcases List.mem_append.1 hx with hx | hx
        · exact DN.out.2 x hx
        · simp at hx; subst hx; exact hkm⟩
      have hlt2 : xs.length < m.length := by
        have := sub_len hdn.1 hdn.2
        have e2 := congrArg List.length XS.out
        simp [akeys] at this
        simp [valsOf] at e2; omega
      have ev : (xs ++ [x]).map enc = valsOf m (done ++ [k]) := by rw [List.map_append, XS.out]; simp [valsOf, hg]
      obtain ⟨fn, tmps, assign, body, hy, hR⟩ := HY.out xs x w2 hJ2 hlt2
      have EV := Lib.hid ev
      have DN2 := Lib.hid hdn
      have LT := Lib.hid hlt
      have HRG := Lib.hid hrg
      clear hs2 ev hdn hlt2 hkm hg hnew hlt hu hJ2 DN hrg
      gi_wp2
      refine hR.mono ?_
      rintro e W3 (⟨rfl, hJ3, hk3⟩ | ⟨rfl, hJx3⟩)
      · gi_wp2
        have hrg3 := hrg2.walks hk3
        go_roundw
        case rel => exact ⟨cnt2, done ++ [k], hrg3, ⟨xs ++ [x], EV, hJ3⟩, DN2⟩
        case measure => rw [hrg3.left, HRG.out.left]; exact LT.out
      · gi_wp2
        refine bodyPost_ret (results_none rfl _ _ _) rfl ?_
        exact ⟨⟨_, rfl⟩, .inr ⟨_, trivial, hJx3⟩⟩
theorem values_stops {α : Type} (enc : α → Value) (F : Fence) (n : Nat) (h8 : F.fn 32) (hro : F.round = none) (hn : 1 ≤ n) (Bm b : Nat) (m : List (ByteArray × Value)) (hv : ∀ k v, aget m k = some v → ∃ x : α, enc x = v)
    (w : World) (hBm : Bm < w.heap.size) (hm : w.cell? ⟨Bm, 0, none⟩ = some (.map (some b))) (hM : MapAt strEnc w b m) (hnd : (akeys m).Nodup) (hs : ∀ k ∈ akeys m, k.size ≤ maxLen) (hl : m.length ≤ maxLen) :
    SeqStopsK F n Try.prog 32 #[.pointer (some ⟨Bm, 0, none⟩)] (fun x : α => #[enc x]) KeepsWalks (fun xs => ∃ ks : List ByteArray, ks.Perm (akeys m) ∧ xs.map enc = valsOf m ks) (fun _ => True) m.length w := fun l J Jx W hW hJ _ hY h0 =>
  values1_in enc F n h8 hro hn l Bm b m hv J Jx hY W hJ ((hW.cell (p := ⟨Bm, 0, none⟩) hBm).trans hm) (hM.keep (Upd.of_below hW) (fun h => by have := hM.lt; omega)) hnd hs hl h0
def duec (d : DueP) : List Value := [.int .i64 d.1, .string d.2]
/-- v is a slice of dues of the call's own. -/
def DuesAt (w : World) (base : Nat) (v : Value) (l : List DueP) : Prop := w.ownsRow base 26 2 v l.length (flat duec l)
theorem due_info : (Try.prog.info? 26).map (fun i => (i.zero, i.size, i.bytes)) = some (some (.agg #[.int .i64 0, .string ByteArray.empty]), 2, 24) := by kernel_rfl
set_option maxHeartbeats 1000000 in
theorem values_in (F : Fence) (n : Nat) (h7 : F.fn 25) (hro : F.round = none) (mb : Option Nat) (w : World) :
    CallsIn F n Try.prog 25 #[.map mb] w fun e w' => e = .returned (.func (.func 32) #[] #[.pointer (some ⟨w.heap.size, 0, none⟩)]) ∧ w' = w.alloc (.cells #[.map mb] 54) := by
  refine callsIn_of_wp Try.func25 rfl h7 ?_ hro
  simp only [Try.ntmps25, List.size_toArray, List.length_cons, List.length_nil, Nat.reduceAdd, Nat.reduceSub, Array.replicate_succ, Array.replicate_zero, List.push_toArray, List.append_toArray, List.nil_append, List.cons_append]
  gi_wp2
  go_ret
  exact ⟨rfl, rfl⟩
end Go.Proofs.Ytokkhddbdjflhaa
