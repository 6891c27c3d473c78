/- Rows of nodes of the call's own: one more, put at a place. -/
import Derived.Test.YtmlojbfcmebboaaGreatK06
import Derived.Lib.Overlaps
import Derived.Lib.AppendZerosOnto
import Derived.Laws.IdiomCopy
import Derived.Laws.Externs
import Derived.Deep.RegionLaw
set_option linter.unusedVariables false
set_option linter.unusedSimpArgs false
namespace Go.Proofs.YtmlojbfcmebboaaGreat
open Go.RowKit

theorem Blk.setCells {w : World} {b : Nat} {T : TypeId} : ∀ (vs xs ys zs : List Value), Blk w b (xs ++ ys ++ zs) T → vs.length = ys.length → Blk (w.setCells b xs.length vs) b (xs ++ vs ++ zs) T := by
  intro vs
  induction vs generalizing w with
  | nil => intro xs ys zs h hl; have : ys = [] := List.length_eq_zero_iff.1 hl.symm; subst this; exact h
  | cons v vs ih =>
    intro xs ys zs h hl
    cases ys with
    | nil => cases hl
    | cons y ys =>
      have h1 := h.set xs.length v
      have h2 : (xs ++ y :: ys ++ zs).set xs.length v = (xs ++ [v]) ++ ys ++ zs := by simp
      rw [h2] at h1
      have := ih (xs ++ [v]) ys zs h1 (by simpa using hl)
      rw [List.length_append] at this
      rw [show xs ++ v :: vs ++ zs = xs ++ [v] ++ vs ++ zs by simp]
      exact this
theorem Upd.setCells {F : Nat → Prop} {a : World} {b : Nat} (hp : b < a.heap.size → F b) : ∀ (vs : List Value) (o : Nat) (w : World), Upd F a w → Upd F a (w.setCells b o vs)
  | [], _, _, h => h
  | v :: vs, o, w, h => Upd.setCells hp vs (o + 1) _ (h.set hp)
/-- copy onto a row that is known whole. -/
theorem copy_blk {P : Program} (w : World) (dT sT ty elem : TypeId) (g o dLen dCap : Nat) (a : Addr) (sLen sCap : Nat) (xs ys zs cs : List Value) (T : TypeId) (hu : P.underlying dT = some (.slice elem)) (hs : (P.info? elem).map (·.size) = some 1)
    (hB : Blk w g (xs ++ ys ++ zs) T) (ho : o = xs.length) (hn : cs.length = Nat.min sLen dLen) (hy : cs.length = ys.length) (hsrc : ∀ j v, cs[j]? = some v → w.cell? (a.add j) = some v) (h1 : ∀ v ∈ cs, v.oneCell' = true) :
    (Builtin.copy_ #[dT, sT] ty #[.slice (some ⟨g, o, none⟩) dLen dCap, .slice (some a) sLen sCap]).run P w = .ok (goInt cs.length) (w.setCells g o cs) ∧ Blk (w.setCells g o cs) g (xs ++ cs ++ zs) T := by
  subst ho
  refine ⟨run_copy_cells (P := P) w dT sT ty elem g xs.length dLen dCap a sLen sCap cs hu hs hn hsrc (fun j hj => ?_) (fun j _ => hB.free _) h1, hB.setCells cs xs ys zs hy⟩
  rw [hB.cell, List.append_assoc, List.getElem?_append_right (by omega), List.getElem?_append_left (by omega), List.getElem?_eq_getElem (by omega)]; rfl
theorem wpList_copyR {P : Program} (w : World) {ops : Array Oper} {rest : List Oper} {o : Oper} {a : Act} {Q : Exit → Act → World → Prop} (hgd : o.guard = none) (d s : Operand) (t t' : TypeId)
    (ho : o.op = .call { callee := .builtin .copy, args := #[d, s], argTypes := #[t, t'] }) (v u : Value) (hd : a.eval d = v) (hs : a.eval s = u) {v' : Value} {w' : World}
    (hr : (Builtin.copy_ #[t, t'] o.type #[v, u]).run P w = .ok v' w') (h : wpList P ops Q rest (a.put o.dst v') w') : wpList P ops Q (o :: rest) a w :=
  wpList_plain hgd fun K hK => by
    unfold Oper.wp execOp
    subst hd hs
    simp only [ho, resolve, invoke, builtin, Sem.run_bind, Sem.run_pure, Result.andThen_ok, List.map_toArray, List.map_cons, List.map_nil, hr]
    exact hK _ _ h
theorem wpList_appendR {P : Program} (w : World) {ops : Array Oper} {rest : List Oper} {o : Oper} {a : Act} {Q : Exit → Act → World → Prop} (hgd : o.guard = none) (d s : Operand) (t t' : TypeId)
    (ho : o.op = .call { callee := .builtin .append, args := #[d, s], argTypes := #[t, t'] }) (v u : Value) (hd : a.eval d = v) (hs : a.eval s = u) {v' : Value} {w' : World}
    (hr : (Builtin.append_ #[t, t'] o.type #[v, u]).run P w = .ok v' w') (h : wpList P ops Q rest (a.put o.dst v') w') : wpList P ops Q (o :: rest) a w :=
  wpList_plain hgd fun K hK => by
    unfold Oper.wp execOp
    subst hd hs
    simp only [ho, resolve, invoke, builtin, Sem.run_bind, Sem.run_pure, Result.andThen_ok, List.map_toArray, List.map_cons, List.map_nil, hr]
    exact hK _ _ h
theorem step_copyR {P : Program} {ops : Array Oper} {o : Oper} {a : Act} {w w' : World} {K : Act → World → Prop} {Q : Exit → Act → World → Prop} {E : Prop} {v' : Value} (hg : o.guard = none) (s x : Operand) (t t' : TypeId)
    (ho : o.op = .call { callee := .builtin .copy, args := #[s, x], argTypes := #[t, t'] }) (u y : Value) (hs : a.eval s = u) (hx : a.eval x = y)
    (hr : (Builtin.copy_ #[t, t'] o.type #[u, y]).run P w = .ok v' w') (hK : K (a.put o.dst v') w') :
    if Region.wanted o (yielded ops a.tmps) = true then Oper.wp P o a w K Q else E := by
  have hw : Region.wanted o (yielded ops a.tmps) = true := by simp [Region.wanted, hg]
  rw [if_pos hw]
  unfold Oper.wp execOp
  subst hs hx
  simp only [ho, resolve, invoke, builtin, Sem.run_bind, Sem.run_pure, Result.andThen_ok, List.map_toArray, List.map_cons, List.map_nil, hr]
  exact hK
theorem nodep_size : (Tryz.prog.info? 192).map (·.size) = some 1 := by kernel_rfl
theorem ptrs_one {l : List Nat} : ∀ u ∈ l.map ptr, u.oneCell' = true := by intro u hu; obtain ⟨_, _, rfl⟩ := List.mem_map.1 hu; rfl
theorem addr_add (g o j : Nat) : (⟨g, o, none⟩ : Addr).add j = ⟨g, o + j, none⟩ := Addr.add_lit ..
set_option maxHeartbeats 8000000 in
set_option maxRecDepth 100000 in
/-- At the end. -/
theorem insP_end (w : World) (base : Nat) (v : Value) (l : List Nat) (d vb : Nat) (h : NodesAt w base v l) (hb : base ≤ w.heap.size) (hV : Blk w vb [ptr d] 192) (hl : l.length ≤ 1000000) :
    Calls Tryz.prog 124 #[v, .int .i64 (l.length : Int), .slice (some ⟨vb, 0, none⟩) 1 1] w fun e w' => ∃ v', e = .returned v' ∧ NodesAt w' base v' (l ++ [d]) ∧ Upd (fun k => v.ownBlock = some k) w w' ∧ NewOr v v' w := by
  have hv2 : NodesAt w 0 (.slice (some ⟨vb, 0, none⟩) 1 1) [d] := own_of (cs := []) (Nat.zero_le _) hV rfl rfl (by unfold maxLen; omega)
  obtain ⟨v', w', hr, h3, h4, h5⟩ := nodes_append w base 0 182 v _ l [d] h hv2 (by simp; omega) hb
  obtain ⟨p, c, e1, hm⟩ := own_slice h
  subst e1
  have hle : l.length ≤ c := by
    rcases h.2 with ⟨e, e2⟩ | ⟨g, cap, cur, e, _, _, q1, _⟩
    · omega
    · injection e with e1 e2 e3; omega
  have hcm : c ≤ maxLen := by
    rcases h.2 with ⟨e, e2⟩ | ⟨g, cap, cur, e, _, _, q1, q2, _⟩
    · injection e with e1 e2 e3; unfold maxLen; omega
    · injection e with e1 e2 e3; omega
  have OUT := Lib.hid (And.intro h3 (And.intro h4 h5))
  clear h h3 h4 h5 hv2 hV
  generalize l.length = n at *
  unfold maxLen at hcm
  have q1 : (n : Int) ≤ (c : Int) := by omega
  go_enter Tryz.func124, Tryz.ntmps124
  cases p with
  | none =>
    go_wp2_with (at_builtin; refine wpList_builtin rfl _ _ 182 rfl _ _ rfl rfl hr ?_)
    go_ret
    exact ⟨_, rfl, OUT.out⟩
  | some a =>
    obtain ⟨ab, ao, asp⟩ := a
    go_wp2_with (at_builtin; refine wpList_builtin rfl _ _ 182 rfl _ _ rfl rfl hr ?_)
    all_goals (go_ret; exact ⟨_, rfl, OUT.out⟩)
set_option maxHeartbeats 8000000 in
set_option maxRecDepth 100000 in
/-- In between, and there is room. -/
theorem insP_room (w : World) (base g cap : Nat) (cs : List Value) (l1 l2 : List Nat) (d vb : Nat) (hg : base ≤ g) (hB : Blk w g ((l1 ++ l2).map ptr ++ cs) 192) (hc : (l1 ++ l2).length + cs.length = cap) (hm : cap ≤ maxLen) (hl2 : l2 ≠ []) (hcs : cs ≠ []) (hV : Blk w vb [ptr d] 192) (hne : vb ≠ g) :
    Calls Tryz.prog 124 #[.slice (some ⟨g, 0, none⟩) (l1 ++ l2).length cap, .int .i64 (l1.length : Int), .slice (some ⟨vb, 0, none⟩) 1 1] w fun e w' => e = .returned (.slice (some ⟨g, 0, none⟩) ((l1 ++ l2).length + 1) cap) ∧ NodesAt w' base (.slice (some ⟨g, 0, none⟩) ((l1 ++ l2).length + 1) cap) (l1 ++ d :: l2) ∧ Upd (fun k => k = g) w w' := by
  obtain ⟨x0, l3, rfl⟩ : ∃ x0 l3, l2 = x0 :: l3 := by
    cases l2 with
    | nil => exact absurd rfl hl2
    | cons x l => exact ⟨x, l, rfl⟩
  obtain ⟨c0, cs, rfl⟩ : ∃ c0 cs', cs = c0 :: cs' := by
    cases cs with
    | nil => exact absurd rfl hcs
    | cons x l => exact ⟨x, l, rfl⟩
  have hn : (l1 ++ x0 :: l3).length = l1.length + l3.length + 1 := by simp; omega
  rw [hn] at hc ⊢
  rw [List.length_cons] at hc
  have B1 : Blk w.drew g ((l1.map ptr ++ [ptr x0]) ++ (l3.map ptr ++ [c0]) ++ cs) 192 := by
    have : ((l1.map ptr ++ [ptr x0]) ++ (l3.map ptr ++ [c0]) ++ cs) = (l1 ++ x0 :: l3).map ptr ++ c0 :: cs := by simp
    rw [this]; exact hB
  have CP1 : ∀ ty dc sc, (Builtin.copy_ #[182, 182] ty #[.slice (some ⟨g, l1.length + 1, none⟩) (l1.length + l3.length + 1 + 1 - (l1.length + 1)) dc, .slice (some ⟨g, l1.length, none⟩) (l1.length + l3.length + 1 + 1 - l1.length) sc]).run Tryz.prog w.drew = .ok (goInt ((x0 :: l3).map ptr).length) (w.drew.setCells g (l1.length + 1) ((x0 :: l3).map ptr)) ∧ Blk (w.drew.setCells g (l1.length + 1) ((x0 :: l3).map ptr)) g ((l1.map ptr ++ [ptr x0]) ++ (x0 :: l3).map ptr ++ cs) 192 := fun ty dc sc =>
    copy_blk w.drew _ _ ty 192 g (l1.length + 1) _ dc ⟨g, l1.length, none⟩ _ sc _ _ _ ((x0 :: l3).map ptr) _ Tryz.underlying182 nodep_size B1 (by simp) (by simp [Nat.min_def]; split <;> omega) (by simp) (fun j v hj => by
      rw [addr_add]
      refine B1.cellAt ?_
      have hlt := (List.getElem?_eq_some_iff.1 hj).1
      rw [List.append_assoc, List.append_assoc, List.getElem?_append_right (by simp), ← List.append_assoc, List.length_map, Nat.add_sub_cancel_left]
      rw [show ([ptr x0] ++ (l3.map ptr ++ [c0]) ++ cs) = (x0 :: l3).map ptr ++ ([c0] ++ cs) by simp, List.getElem?_append_left hlt]; exact hj) ptrs_one
  obtain ⟨w1, hw1⟩ : ∃ w1, w1 = w.drew.setCells g (l1.length + 1) ((x0 :: l3).map ptr) := ⟨_, rfl⟩
  rw [← hw1] at CP1
  have B2 := (CP1 0 0 0).2
  have U1 : Upd (fun k => k = g) w w1 := by rw [hw1]; exact Upd.setCells (F := fun k => k = g) (fun _ => rfl) _ _ _ (Upd.refl _ _).drew
  have V1 := U1.blk hV (fun e => hne e)
  have B3 : Blk w1 g (l1.map ptr ++ [ptr x0] ++ ((x0 :: l3).map ptr ++ cs)) 192 := by rw [← List.append_assoc]; exact B2
  have CP2 : ∀ ty dc, (Builtin.copy_ #[182, 182] ty #[.slice (some ⟨g, l1.length, none⟩) (l1.length + l3.length + 1 + 1 - l1.length) dc, .slice (some ⟨vb, 0, none⟩) 1 1]).run Tryz.prog w1 = .ok (goInt [ptr d].length) (w1.setCells g l1.length [ptr d]) ∧ Blk (w1.setCells g l1.length [ptr d]) g (l1.map ptr ++ [ptr d] ++ ((x0 :: l3).map ptr ++ cs)) 192 := fun ty dc =>
    copy_blk w1 _ _ ty 192 g l1.length _ dc ⟨vb, 0, none⟩ 1 1 _ _ _ [ptr d] _ Tryz.underlying182 nodep_size B3 (by simp) (by simp [Nat.min_def]; omega) (by simp) (fun j v hj => by rw [addr_add, Nat.zero_add]; exact V1.cellAt hj) (by intro u hu; simp at hu; subst hu; rfl)
  have B4 := (CP2 0 0).2
  obtain ⟨w2, hw2⟩ : ∃ w2, w2 = w1.setCells g l1.length [ptr d] := ⟨_, rfl⟩
  rw [← hw2] at CP2 B4
  have U2 : Hid (Upd (fun k => k = g) w w2) := by rw [hw2]; exact Upd.setCells (F := fun k => k = g) (fun _ => rfl) _ _ _ U1
  have N2 : Hid (NodesAt w2 base (.slice (some ⟨g, 0, none⟩) (l1.length + l3.length + 1 + 1) cap) (l1 ++ d :: x0 :: l3)) := by
    have : (l1 ++ d :: x0 :: l3).length = l1.length + l3.length + 1 + 1 := by simp; omega
    unfold NodesAt
    show World.ownsRow _ _ _ _ _ _ _
    rw [this]
    refine own_of (cs := cs) hg ?_ (by simp; omega) (by omega) hm
    have e : (l1 ++ d :: x0 :: l3).map ptr ++ cs = l1.map ptr ++ [ptr d] ++ ((x0 :: l3).map ptr ++ cs) := by simp
    rw [e]; exact B4
  have hov : ∀ lb cb, (callFunc 162 #[.slice (some ⟨vb, 0, none⟩) 1 1, .slice (some ⟨g, l1.length + 1, none⟩) lb cb]).run Tryz.prog w = .ok (.value (.bool false)) w := fun lb cb => by
    rw [run_callFunc_extern (P := Tryz.prog) (f := 162) (fn := Tryz.f162) Tryz.func162 (by kernel_rfl) (by kernel_rfl) (by kernel_rfl) (e := Extern.SlicesOverlaps.overlaps #[182, 182] #[4]) (by kernel_rfl),
      Lib.run_overlaps_apart w 182 4 192 Tryz.underlying182 1 (fun _ => by kernel_rfl) ⟨vb, 0, none⟩ ⟨g, l1.length + 1, none⟩ 1 1 lb cb hne _ _ _ _ hV.shape hB.shape (by simp) (hV.free _) (hV.free _)]
    rfl
  have cp1 := fun ty dc sc => (CP1 ty dc sc).1
  have cp2 := fun ty dc => (CP2 ty dc).1
  clear CP1 CP2 B1 B2 B3 B4 V1 U1 hw1 hw2 hB hV hl2 hcs hn
  generalize hi : l1.length = i at *
  generalize l3.length = r at *
  generalize cs.length = q at *
  unfold maxLen at hm
  generalize hN : i + r + 1 = n at *
  have hw3 : IntKind.i64.wrap ((i : Int) + (1 : Int)) = (i : Int) + (1 : Int) := by rw [IntKind.wrap_i64]; omega
  have hw4 : IntKind.i64.wrap ((n : Int) + (1 : Int)) = (n : Int) + (1 : Int) := by rw [IntKind.wrap_i64]; omega
  have hz2 : ¬ ((i : Int) = (n : Int)) := by omega
  have hz3 : ¬ ((cap : Int) < (n : Int) + 1) := by omega
  have hb1 : (0 : Int) ≤ (i : Int) + 1 := by omega
  have hb0 : (0 : Int) ≤ (n : Int) + 1 := by omega
  have hin : i ≤ n := by omega
  have hin1 : i ≤ n + 1 := by omega
  have htn : ((i : Int) + 1).toNat = i + 1 := by omega
  have htn2 : ((n : Int) + 1).toNat = n + 1 := by omega
  have hb2 : ¬ (cap = i + 1) := by omega
  have hb3 : (i : Int) ≤ (n : Int) + 1 := by omega
  have hb5 : (n : Int) + 1 ≤ (cap : Int) := by omega
  have hb4 : ¬ (cap = i) := by omega
  have hb6 : (i : Int) + 1 ≤ (n : Int) + 1 := by omega
  have hb7 : (i : Int) ≤ (n : Int) := by omega
  have OUT := Lib.hid (And.intro U2.out N2.out)
  clear U2 N2
  go_enter Tryz.func124, Tryz.ntmps124
  go_wp2_with (simp only [hov])
  go_region_law (refine step_copyR rfl _ _ 182 182 rfl _ _ (by simp [Act.eval, Act.put]; rfl) (by simp [Act.eval, Act.put]; rfl) (cp1 _ _ _) ?_)
  go_wp2_with (at_builtin; refine wpList_copyR _ rfl _ _ 182 182 rfl _ _ rfl rfl (cp2 _ _) ?_)
  go_ret
  exact ⟨rfl, OUT.out.2, OUT.out.1⟩
theorem zeroPk (k : Nat) : Builtin.zeroCells (Value.pointer none).cells k = (List.replicate k (Value.pointer none)).toArray := by
  apply Array.ext'
  simp [Builtin.zeroCells, Value.cells, Nat.mod_one, List.map_const']
set_option maxHeartbeats 8000000 in
set_option maxRecDepth 100000 in
/-- In between, and there is no room. -/
theorem insP_grow (w : World) (base g cap : Nat) (l1 l2 : List Nat) (d vb : Nat) (hb : base ≤ w.heap.size) (hB : Blk w g ((l1 ++ l2).map ptr) 192) (hc : (l1 ++ l2).length = cap) (hl : cap ≤ 1000000) (hl2 : l2 ≠ []) (hV : Blk w vb [ptr d] 192) :
    Calls Tryz.prog 124 #[.slice (some ⟨g, 0, none⟩) (l1 ++ l2).length cap, .int .i64 (l1.length : Int), .slice (some ⟨vb, 0, none⟩) 1 1] w fun e w' => ∃ v', e = .returned v' ∧ NodesAt w' base v' (l1 ++ d :: l2) ∧ Upd (fun _ => False) w w' ∧ (∀ k, v'.ownBlock = some k → w.heap.size ≤ k) := by
  obtain ⟨i0, hi0, hz0, hzs, hzb⟩ := rinfo_parts nodep_info
  have hbw := hB.lt
  have hvw := hV.lt
  have hl2p := List.length_pos_iff.2 hl2
  rw [List.length_append] at hc ⊢
  rw [hc]
  have hrz : ∀ ty, (Builtin.append_ #[182, 3] ty #[.slice (some ⟨g, 0, none⟩) l1.length cap, .int .i64 ((cap : Int) + 1 - (l1.length : Int))]).run Tryz.prog w =
      .ok (.slice (some ⟨w.heap.size, 0, none⟩) (cap + 1) (grownCap w (cap + 1) cap 192)) (w.drew.alloc (.cells ((l1.map ptr ++ (List.replicate (l2.length + 1) (Value.pointer none)) ++ (List.replicate (grownCap w (cap + 1) cap 192 - (cap + 1)) (Value.pointer none))).toArray) 192)) := fun ty => by
    have h := Lib.run_append_grow_zeros (P := Tryz.prog) w 182 3 ty 192 i0 (.pointer none) .i64 .i64 Tryz.underlying182 Tryz.underlying3 hi0 hz0 (some ⟨g, 0, none⟩) l1.length cap (l1.map ptr)
      (by rw [hzs]; exact run_firstCells_some w.drew 1 l1.length ⟨g, 0, none⟩ l1.length cap (l1.map ptr) (by simp) (fun j v hj => by
        rw [addr_add, Nat.zero_add]
        refine hB.drew.cellAt ?_
        rw [List.map_append, List.getElem?_append_left (List.getElem?_eq_some_iff.1 hj).1]; exact hj))
      (l2.length + 1) (by omega) (by rw [hzs]; exact Nat.one_pos) (by omega) (by omega) (by rw [hzb]; show (l2.length + 1) * 8 ≤ _; omega) (by rw [hzb, show l1.length + (l2.length + 1) = cap + 1 by omega]; exact growslice_fits (by omega) (by show (cap + 1) * 8 ≤ _; omega))
    rw [show l1.length + (l2.length + 1) = cap + 1 by omega, zeroPk, zeroPk, List.append_toArray, List.append_toArray] at h
    rw [show (cap : Int) + 1 - (l1.length : Int) = ((l2.length + 1 : Nat) : Int) by omega]
    exact h
  obtain ⟨Q, hQ⟩ : ∃ Q, Q = grownCap w (cap + 1) cap 192 := ⟨_, rfl⟩
  have hQ1 : cap + 1 ≤ Q := by rw [hQ]; exact grownCap_ge w _ _ _
  have hQ2 : Q ≤ maxLen := by rw [hQ]; exact grownCap_le_maxLen w _ _ _ (by unfold maxLen; omega)
  rw [← hQ] at hrz
  obtain ⟨w1, hw1⟩ : ∃ w1, w1 = w.drew.alloc (.cells ((l1.map ptr ++ (List.replicate (l2.length + 1) (Value.pointer none)) ++ (List.replicate (Q - (cap + 1)) (Value.pointer none))).toArray) 192) := ⟨_, rfl⟩
  rw [← hw1] at hrz
  have U1 : Upd (fun _ => False) w w1 := by rw [hw1]; exact (Upd.refl _ _).drew.alloc _
  have B1 : Blk w1 w.heap.size (l1.map ptr ++ [.pointer none] ++ (List.replicate l2.length (Value.pointer none) ++ List.replicate (Q - (cap + 1)) (Value.pointer none))) 192 := by
    have e : l1.map ptr ++ List.replicate (l2.length + 1) (Value.pointer none) ++ List.replicate (Q - (cap + 1)) (Value.pointer none) = l1.map ptr ++ [Value.pointer none] ++ (List.replicate l2.length (Value.pointer none) ++ List.replicate (Q - (cap + 1)) (Value.pointer none)) := by
      rw [List.replicate_succ]; simp only [List.append_assoc, List.cons_append, List.nil_append]
    rw [hw1, ← e]; exact Blk.made w.drew _ _
  have V1 := U1.blk hV id
  have CP1 : ∀ ty dc, (Builtin.copy_ #[182, 182] ty #[.slice (some ⟨w.heap.size, l1.length, none⟩) (cap + 1 - l1.length) dc, .slice (some ⟨vb, 0, none⟩) 1 1]).run Tryz.prog w1 = .ok (goInt [ptr d].length) (w1.setCells w.heap.size l1.length [ptr d]) ∧ Blk (w1.setCells w.heap.size l1.length [ptr d]) w.heap.size (l1.map ptr ++ [ptr d] ++ (List.replicate l2.length (Value.pointer none) ++ List.replicate (Q - (cap + 1)) (Value.pointer none))) 192 := fun ty dc =>
    copy_blk w1 _ _ ty 192 w.heap.size l1.length _ dc ⟨vb, 0, none⟩ 1 1 _ _ _ [ptr d] _ Tryz.underlying182 nodep_size B1 (by simp) (by simp only [Nat.min_def]; split <;> simp <;> omega) (by simp) (fun j v hj => by rw [addr_add, Nat.zero_add]; exact V1.cellAt hj) (by intro u hu; simp at hu; subst hu; rfl)
  have B2 := (CP1 0 0).2
  obtain ⟨w2, hw2⟩ : ∃ w2, w2 = w1.setCells w.heap.size l1.length [ptr d] := ⟨_, rfl⟩
  rw [← hw2] at CP1 B2
  have U2 : Upd (fun _ => False) w w2 := by rw [hw2]; exact Upd.setCells (F := fun _ => False) (fun h => by omega) _ _ _ U1
  have S2 := U2.blk hB id
  have B3 : Blk w2 w.heap.size ((l1.map ptr ++ [ptr d]) ++ List.replicate l2.length (Value.pointer none) ++ List.replicate (Q - (cap + 1)) (Value.pointer none)) 192 := by rw [List.append_assoc]; exact B2
  have CP2 : ∀ ty dc sc, (Builtin.copy_ #[182, 182] ty #[.slice (some ⟨w.heap.size, l1.length + 1, none⟩) (cap + 1 - (l1.length + 1)) dc, .slice (some ⟨g, l1.length, none⟩) (cap - l1.length) sc]).run Tryz.prog w2.drew = .ok (goInt (l2.map ptr).length) (w2.drew.setCells w.heap.size (l1.length + 1) (l2.map ptr)) ∧ Blk (w2.drew.setCells w.heap.size (l1.length + 1) (l2.map ptr)) w.heap.size ((l1.map ptr ++ [ptr d]) ++ l2.map ptr ++ List.replicate (Q - (cap + 1)) (Value.pointer none)) 192 := fun ty dc sc =>
    copy_blk w2.drew _ _ ty 192 w.heap.size (l1.length + 1) _ dc ⟨g, l1.length, none⟩ _ sc _ _ _ (l2.map ptr) _ Tryz.underlying182 nodep_size B3.drew (by simp) (by simp only [Nat.min_def]; split <;> simp <;> omega) (by simp) (fun j v hj => by
      rw [addr_add]
      refine S2.drew.cellAt ?_
      rw [List.map_append, List.getElem?_append_right (by simp), List.length_map, Nat.add_sub_cancel_left]; exact hj) ptrs_one
  have B4 := (CP2 0 0 0).2
  obtain ⟨w3, hw3⟩ : ∃ w3, w3 = w2.drew.setCells w.heap.size (l1.length + 1) (l2.map ptr) := ⟨_, rfl⟩
  rw [← hw3] at CP2 B4
  have U3 : Hid (Upd (fun _ => False) w w3) := by rw [hw3]; exact Upd.setCells (F := fun _ => False) (fun h => by omega) _ _ _ U2.drew
  have N3 : Hid (NodesAt w3 base (.slice (some ⟨w.heap.size, 0, none⟩) (cap + 1) Q) (l1 ++ d :: l2)) := by
    have : (l1 ++ d :: l2).length = cap + 1 := by simp; omega
    unfold NodesAt
    show World.ownsRow _ _ _ _ _ _ _
    rw [this]
    refine own_of (cs := List.replicate (Q - (cap + 1)) (Value.pointer none)) hb ?_ (by simp; omega) (by simp; omega) hQ2
    have e : (l1 ++ d :: l2).map ptr ++ List.replicate (Q - (cap + 1)) (Value.pointer none) = (l1.map ptr ++ [ptr d]) ++ l2.map ptr ++ List.replicate (Q - (cap + 1)) (Value.pointer none) := by simp
    rw [e]; exact B4
  have cp1 := fun ty dc => (CP1 ty dc).1
  have cp2 := fun ty dc sc => (CP2 ty dc sc).1
  clear CP1 CP2 B1 B2 B3 B4 V1 U1 U2 hw1 hw2 hw3 hB hV S2 hl2 hi0 hz0 hzs hzb hQ
  generalize l1.length = i at *
  generalize l2.length = r at *
  unfold maxLen at hQ2
  have hw3 : IntKind.i64.wrap ((i : Int) + (1 : Int)) = (i : Int) + (1 : Int) := by rw [IntKind.wrap_i64]; omega
  have hw4 : IntKind.i64.wrap ((cap : Int) + (1 : Int)) = (cap : Int) + (1 : Int) := by rw [IntKind.wrap_i64]; omega
  have hw5 : IntKind.i64.wrap ((cap : Int) + (1 : Int) - (i : Int)) = (cap : Int) + (1 : Int) - (i : Int) := by rw [IntKind.wrap_i64]; omega
  have hz2 : ¬ ((i : Int) = (cap : Int)) := by omega
  have hz3 : (cap : Int) < (cap : Int) + 1 := by omega
  have hb1 : (0 : Int) ≤ (i : Int) + 1 := by omega
  have hb0 : (0 : Int) ≤ (cap : Int) + 1 := by omega
  have hin : i ≤ cap := by omega
  have hin1 : i ≤ cap + 1 := by omega
  have htn : ((i : Int) + 1).toNat = i + 1 := by omega
  have hb2 : ¬ (Q = i + 1) := by omega
  have hb9 : ¬ (Q = i) := by omega
  have hb3 : (i : Int) ≤ (cap : Int) + 1 := by omega
  have hb4 : ¬ (cap = i) := by omega
  have hb6 : (i : Int) + 1 ≤ (cap : Int) + 1 := by omega
  have hb7 : (i : Int) ≤ (cap : Int) := by omega
  have OUT := Lib.hid (And.intro N3.out (And.intro U3.out (fun k (hk : (Value.slice (some ⟨w.heap.size, 0, none⟩) (cap + 1) Q).ownBlock = some k) => Nat.le_of_eq (Option.some.inj hk))))
  clear U3 N3
  go_enter Tryz.func124, Tryz.ntmps124
  go_wp2_with (first
    | (at_builtin; refine wpList_appendR _ rfl _ _ 182 3 rfl _ _ rfl rfl (hrz _) ?_)
    | (at_builtin; refine wpList_copyR _ rfl _ _ 182 182 rfl _ _ rfl rfl (cp1 _ _) ?_))
  go_region_law (refine step_copyR rfl _ _ 182 182 rfl _ _ (by simp [Act.eval, Act.put]; rfl) (by simp [Act.eval, Act.put]; rfl) (cp2 _ _ _) ?_)
  go_wp2
  go_ret
  exact ⟨_, rfl, OUT.out⟩
/-- slices.Insert of one node, in a row of the call's own. -/
theorem insP_any (w : World) (base : Nat) (v : Value) (l1 l2 : List Nat) (d vb : Nat) (h : NodesAt w base v (l1 ++ l2)) (hb : base ≤ w.heap.size) (hV : Blk w vb [ptr d] 192) (hne : v.ownBlock ≠ some vb) (hl : (l1 ++ l2).length ≤ 1000) :
    Calls Tryz.prog 124 #[v, .int .i64 (l1.length : Int), .slice (some ⟨vb, 0, none⟩) 1 1] w fun e w' => ∃ v', e = .returned v' ∧ NodesAt w' base v' (l1 ++ d :: l2) ∧ Upd (fun k => v.ownBlock = some k) w w' ∧ NewOr v v' w := by
  by_cases hl2 : l2 = []
  · subst hl2
    rw [List.append_nil] at h
    exact insP_end w base v l1 d vb h hb hV (by simpa using Nat.le_trans hl (by decide))
  · obtain ⟨_, ⟨_, e0⟩ | ⟨g, cap, cs, ev, hg, hB, hc, hm⟩⟩ := own_blk h
    · have := List.length_pos_iff.2 hl2
      rw [List.length_append] at e0; omega
    · subst ev
      by_cases hcs : cs = []
      · subst hcs
        rw [List.append_nil] at hB
        refine (insP_grow w base g cap l1 l2 d vb hb hB (by simpa using hc) (by simp at hc; simp at hl; omega) hl2 hV).mono ?_
        rintro e w' ⟨v', rfl, q1, q2, q3⟩
        exact ⟨v', rfl, q1, q2.weaken (fun _ _ h => h.elim), fun k hk => Or.inr (q3 k hk)⟩
      · refine (insP_room w base g cap cs l1 l2 d vb hg hB hc hm hl2 hcs hV (fun e => hne (by rw [e]; rfl))).mono ?_
        rintro e w' ⟨rfl, q1, q2⟩
        exact ⟨_, rfl, q1, q2.weaken (fun k _ hk => by rw [hk]; rfl), fun k hk => Or.inl hk⟩
end Go.Proofs.YtmlojbfcmebboaaGreat
