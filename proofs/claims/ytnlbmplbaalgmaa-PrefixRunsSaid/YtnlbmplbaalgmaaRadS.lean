/- slices.Backward over a row of nodes: the iterator. -/
import Derived.Test.YtnlbmplbaalgmaaRadM
import Derived.Test.YtnlbmplbaalgmaaRound
import Derived.RangeFuncFrom
import Derived.RangeFuncBox
import Derived.OwnWalkIn
import Derived.TacticsInMore
import Derived.RegionIn
import Derived.LoopNIn
import Derived.LoopIn
set_option linter.unusedVariables false
set_option linter.unusedSimpArgs false
namespace Go.Proofs.Ytnlbmplbaalgmaa
open Go.RowKit

/-- A row from its end on, each with its place. -/
def bk (K : List Nat) : List (Nat × Nat) := (K.zipIdx.map fun p => (p.2, p.1)).reverse
theorem bk_snoc (K : List Nat) (y : Nat) : bk (K ++ [y]) = (K.length, y) :: bk K := by unfold bk; rw [List.zipIdx_append]; simp
theorem bk_len (K : List Nat) : (bk K).length = K.length := by unfold bk; simp
theorem bk_map (K : List Nat) : (bk K).map (fun p => p.2) = K.reverse := by unfold bk; rw [List.map_reverse, List.map_map]; congr 1; exact List.zipIdx_map_fst ..
def RowIn (base Bs : Nat) (v : Value) (K : List Nat) (W : World) : Prop := W.cell? ⟨Bs, 0, none⟩ = some v ∧ NodesAt W base v K
theorem RowIn.putObj {base Bs : Nat} {v : Value} {K : List Nat} {W : World} (h : RowIn base Bs v K W) {l : Nat} {o : Obj} (hl : W.heap[l]? = some o) (ho : o.isCells = false) (o' : Obj) : RowIn base Bs v K (W.putObj l o') := by
  obtain ⟨h1, h2⟩ := h
  refine ⟨?_, ?_⟩
  · obtain ⟨oc, hc, hcc⟩ := cells_of_cell h1
    have : Bs ≠ l := fun e => by rw [← e] at hl; rw [hl] at hc; cases hc; rw [ho] at hcc; cases hcc
    exact (World.cell?_of_block (World.putObj_heap_other this)).trans h1
  · exact ownsRow_putObj h2 _ hl ho
set_option maxRecDepth 100000 in
set_option maxHeartbeats 2000000 in
theorem back1_in {α : Type} (en : α → Nat × Nat) (F : Fence) (n : Nat) (h67 : F.fn 67) (hro : F.round = none) (hn : 1 ≤ n) (l base Bs : Nat) (v : Value) (K : List Nat) (hK : K.length ≤ 1000000) (hv : ∀ c ∈ K, ∀ i, ∃ x, en x = (i, c)) (J Jx : List α → World → Prop)
    (hY : ∀ pre x W, J pre W → pre.length < K.length → YieldAt F (n - 1) Try.prog l #[.int .i64 ((en x).1 : Int), ptr (en x).2] W fun e W' =>
      (e = .returned (.bool true) ∧ J (pre ++ [x]) W' ∧ (RowIn base Bs v K W → RowIn base Bs v K W')) ∨ (e = .returned (.bool false) ∧ Jx (pre ++ [x]) W'))
    (W : World) (hR : RowIn base Bs v K W) (h0 : J [] W) :
    CallsIn F n Try.prog 67 #[.func (.yield l) #[] #[], .pointer (some ⟨Bs, 0, none⟩)] W fun e W' => (∃ v, e = .returned v) ∧
      ((∃ ys, ys.map en = bk K ∧ J ys W') ∨ (∃ pre, True ∧ Jx pre W')) := by
  obtain ⟨p, c, ev, hm⟩ := own_slice hR.2
  subst ev
  refine callsIn_of_wp Try.func67 rfl h67 ?_ hro
  simp only [Try.ntmps67, List.size_toArray, List.length_cons, List.length_nil, Nat.reduceAdd, Nat.reduceSub, Array.replicate_succ, Array.replicate_zero, List.push_toArray, List.append_toArray, List.nil_append, List.cons_append]
  have c0 := hR.1
  have HR := Lib.hid hR
  have HY := Lib.hid hY
  have qw : IntKind.i64.wrap ((K.length : Int) - 1) = (K.length : Int) - 1 := IntWalk.i64_in _ (by omega)
  clear hY hR
  gi_wp2
  gi_loopw [3] (fun i wr => ∃ (K1 K2 : List Nat) (pre : List α), Hid (K = K1 ++ K2) ∧ i = .int .i64 ((K1.length : Int) - 1) ∧ Hid (bk K = pre.map en ++ bk K1) ∧ J pre wr ∧ Hid (RowIn base Bs (.slice p K.length c) K wr)) (fun i _ => (intOf i + 1).toNat)
  case atStart => exact ⟨K, [], [], Lib.hid (by simp), rfl, Lib.hid rfl, h0, HR⟩
  case round =>
    obtain ⟨K1, K2, pre, EK, rfl, EP, hJ, HW⟩ := hrel
    rcases List.eq_nil_or_concat K1 with e | ⟨K0, y, e⟩
    · subst e
      have q0 : ¬ ((0 : Int) ≤ ((([] : List Nat).length : Nat) : Int) - 1) := by simp
      have EP2 : Hid (bk K = pre.map en) := by show _ = _; rw [EP.out]; simp [bk]
      gi_wp2
      go_end0
      first
        | exact ⟨⟨_, rfl⟩, .inl ⟨pre, EP2.out.symm, hJ⟩⟩
        | exact ⟨⟨_, rfl⟩, Or.inl ⟨pre, EP2.out.symm, hJ⟩⟩
    · rw [List.concat_eq_append] at e
      subst e
      have hl1 : ((K0 ++ [y]).length : Int) - 1 = (K0.length : Int) := by simp
      rw [hl1]
      have hlen : K0.length < K.length := by rw [EK.out]; simp
      have hget : K[K0.length]? = some y := by rw [EK.out]; simp
      obtain ⟨_, ⟨_, e0⟩ | ⟨g, cap, cs, ev, hg, hB, hc, hm2⟩⟩ := own_blk HW.out.2
      · omega
      obtain ⟨rfl, rfl⟩ : p = some ⟨g, 0, none⟩ ∧ c = cap := by injection ev with e1 e2 e3; exact ⟨e1, e3⟩
      obtain ⟨ax, hax⟩ := hv y (List.mem_of_getElem? hget) K0.length
      have cw := HW.out.1
      have cg : wr.cell? ⟨g, K0.length, none⟩ = some (.pointer (some ⟨y, 0, none⟩)) := hB.cellAt (by rw [List.getElem?_append_left (by simpa using hlen), List.getElem?_map, hget]; rfl)
      have EP2 : Hid (bk K = (pre ++ [ax]).map en ++ bk K0) := by show _ = _; rw [EP.out, bk_snoc, List.map_append]; simp [hax]
      have hpl : pre.length < K.length := by
        have := congrArg List.length EP2.out
        rw [bk_len] at this; simp at this; omega
      obtain ⟨fn, tmps, assign, body, hy, hRR⟩ := HY.out pre ax wr hJ hpl
      rw [hax] at hy
      dsimp only [ptr] at hy
      have EK2 : Hid (K = K0 ++ (y :: K2)) := by show _ = _; rw [EK.out]; simp
      have q0 : (0 : Int) ≤ (K0.length : Int) := by omega
      have q1 : (K0.length : Int) < (K.length : Int) := by omega
      have q2 : IntKind.i64.wrap ((K0.length : Int) - 1) = (K0.length : Int) - 1 := IntWalk.i64_in _ (by omega)
      clear hB hget hl1 EP EK
      generalize hnk : K.length = nk at *
      gi_wp2
      refine hRR.mono ?_
      rintro e W3 (⟨rfl, hJ3, hk3⟩ | ⟨rfl, hJx3⟩)
      · have HW3 := Lib.hid (hk3 HW.out)
        gi_wp2
        go_roundw
        case rel => exact ⟨K0, y :: K2, pre ++ [ax], EK2, by simp, EP2, hJ3, HW3⟩
        case measure => simp [intOf]
      · gi_wp2
        refine bodyPost_ret (results_none rfl _ _ _) rfl ?_
        exact ⟨⟨_, rfl⟩, .inr ⟨_, trivial, hJx3⟩⟩
theorem back_stops {α : Type} (en : α → Nat × Nat) (F : Fence) (n : Nat) (h67 : F.fn 67) (hro : F.round = none) (hn : 1 ≤ n) (base Bs : Nat) (v : Value) (K : List Nat) (hK : K.length ≤ 1000000) (hv : ∀ c ∈ K, ∀ i, ∃ x, en x = (i, c)) (w : World) (hBs : Bs < w.heap.size) (hR : RowIn base Bs v K w) (hb : base ≤ w.heap.size) :
    SeqStopsK F n Try.prog 67 #[.pointer (some ⟨Bs, 0, none⟩)] (fun x : α => #[.int .i64 ((en x).1 : Int), ptr (en x).2]) (fun W W' => RowIn base Bs v K W → RowIn base Bs v K W') (fun xs => xs.map en = bk K) (fun _ => True) K.length w := fun l J Jx W hW hJ _ hY h0 =>
  back1_in en F n h67 hro hn l base Bs v K hK hv J Jx hY W ⟨(hW.cell (p := ⟨Bs, 0, none⟩) hBs).trans hR.1, own_keep hR.2 (Upd.of_below hW) (fun k hk h => by have := (own_lt hR.2 hk).1; omega)⟩ h0
set_option maxHeartbeats 1000000 in
theorem back_any (p : Option Addr) (n c : Nat) (w : World) : Calls Try.prog 45 #[.slice p n c] w fun e w' => e = .returned (.func (.func 67) #[] #[.pointer (some ⟨w.heap.size, 0, none⟩)]) ∧ w' = w.alloc (.cells #[.slice p n c] 75) := by
  go_enter Try.func45, Try.ntmps45
  go_wp2
  go_ret
  exact ⟨rfl, rfl⟩
end Go.Proofs.Ytnlbmplbaalgmaa
