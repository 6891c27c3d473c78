/- Append of a whole row to a row of the call's own. -/
import Derived.Test.YtnlbmplbaalgmaaAppW
import Derived.Deep.Upon
set_option linter.unusedVariables false
set_option linter.unusedSimpArgs false
namespace Go.Proofs.Ytnlbmplbaalgmaa
open Go.RowKit

theorem append_row {P : Program} (w : World) (base base2 : Nat) (t ty e : TypeId) (i : TypeInfo) (z : Value) (bytes : Nat) (ht : P.underlying t = some (.slice e)) (hi : P.info? e = some i) (hz : i.zero = some z)
    (hsize : i.size = 1) (hby : i.bytes = bytes) (hzs : z.cells.size = 1) (v v2 : Value) (n m : Nat) (xs ys : List Value) (hown : w.ownsRow base e 1 v n xs) (h2 : w.ownsRow base2 e 1 v2 m ys) (h1 : ∀ u ∈ ys, u.oneCell' = true)
    (h63 : n + m ≤ maxLen) (hbytes : (n + m) * bytes ≤ 140737488355328) (hbase : base ≤ w.heap.size) :
    ∃ v' w', (Builtin.append_ #[t, t] ty #[v, v2]).run P w = .ok v' w' ∧ w'.ownsRow base e 1 v' (n + m) (xs ++ ys) ∧ Upd (fun k => v.ownBlock = some k) w w' ∧ NewOr v v' w := by
  obtain ⟨hlen, hv2⟩ := h2
  have hsh : ∃ a c, v2 = .slice a m c ∧ (m = 0 ∨ ∃ g, a = some ⟨g, 0, none⟩) ∧ (∀ g, a = some ⟨g, 0, none⟩ → ∀ j u, ys[j]? = some u → w.cell? ((⟨g, 0, none⟩ : Addr).add j) = some u) := by
    rcases hv2 with ⟨rfl, rfl⟩ | ⟨g, cap, cur, rfl, _, hh, q1, q2, q3, q4⟩
    · exact ⟨none, 0, rfl, Or.inl rfl, fun g h => by cases h⟩
    · refine ⟨some ⟨g, 0, none⟩, cap, rfl, Or.inr ⟨g, rfl⟩, fun g' hg' j u hj => ?_⟩
      cases hg'
      have : (⟨g, 0, none⟩ : Addr).add j = ⟨g, j, none⟩ := by unfold Addr.add; split <;> simp_all
      rw [this, cell_of_row w g j cur e (0, 0) hh]
      rw [← q4, List.getElem?_take] at hj
      split at hj
      · simpa using hj
      · cases hj
  obtain ⟨a, c, rfl, hm, hc⟩ := hsh
  by_cases h0 : m = 0
  · subst h0
    have hys : ys = [] := List.length_eq_zero_iff.1 (by omega)
    subst hys
    have hv : ∃ p cp, v = .slice p n cp ∧ n ≤ cp := by
      rcases hown.2 with ⟨rfl, rfl⟩ | ⟨g, cap, cur, rfl, _, _, q1, _⟩
      · exact ⟨_, _, rfl, Nat.le_refl _⟩
      · exact ⟨_, _, rfl, q1⟩
    obtain ⟨p, cp, rfl, hle⟩ := hv
    have hs : Src P i.size t (.slice a 0 c) 0 [] w := by
      cases a with
      | none => exact Src.ofNil w ht c
      | some a => exact Src.ofSlice w ht a 0 c [] (by simp) (fun j u h => by simp at h) (fun u h => by cases h)
    refine ⟨_, _, run_append_nothing (P := P) w t t ty e i ht hi p n cp hle _ hs, by simpa using hown, Upd.refl _ _, fun k hk => Or.inl hk⟩
  · obtain ⟨g, rfl⟩ : ∃ g, a = some ⟨g, 0, none⟩ := hm.elim (fun e => absurd e h0) id
    obtain ⟨v', w', hr, q2, q3, _⟩ := run_append_own (P := P) w base t ty e i z 1 bytes ht hi hz hsize hby hzs (by decide) v n xs hown ⟨g, 0, none⟩ m c ys hlen (hc g rfl) h1 h63 hbytes hbase
    exact ⟨v', w', hr, q2, (Upd.of_grown q3).weaken (fun k _ hk => hk.symm), run_append_where (P := P) w base t ty e i z 1 bytes ht hi hz hsize hby v n xs hown ⟨g, 0, none⟩ m c ys hlen (hc g rfl) h1 (Nat.pos_of_ne_zero h0) h63 hbytes v' w' hr⟩
/-- A step of a region that draws its order: append. -/
theorem step_builtin {P : Program} {ops : Array Oper} {o : Oper} {a : Act} {w w' : World} {K : Act → World → Prop} {Q : Exit → Act → World → Prop} {E : Prop} {v' : Value} (hg : o.guard = none) (s x : Operand) (t : TypeId)
    (ho : o.op = .call { callee := .builtin .append, args := #[s, x], argTypes := #[t, t] }) (u y : Value) (hs : a.eval s = u) (hx : a.eval x = y)
    (hr : (Builtin.append_ #[t, t] o.type #[u, y]).run P w = .ok v' w') (hK : K (a.put o.dst v') w') :
    if Region.wanted o (yielded ops a.tmps) = true then Oper.wp P o a w K Q else E := by
  have hw : Region.wanted o (yielded ops a.tmps) = true := by simp [Region.wanted, hg]
  rw [if_pos hw]
  unfold Oper.wp execOp
  subst hs hx
  simp only [ho, resolve, invoke, builtin, Sem.run_bind, Sem.run_pure, Result.andThen_ok, List.map_toArray, List.map_cons, List.map_nil, hr]
  exact hK
theorem wpList_builtin {P : Program} {ops : Array Oper} {rest : List Oper} {o : Oper} {a : Act} {w w' : World} {Q : Exit → Act → World → Prop} {v' : Value} (hg : o.guard = none) (s x : Operand) (t : TypeId)
    (ho : o.op = .call { callee := .builtin .append, args := #[s, x], argTypes := #[t, t] }) (u y : Value) (hs : a.eval s = u) (hx : a.eval x = y)
    (hr : (Builtin.append_ #[t, t] o.type #[u, y]).run P w = .ok v' w') (hK : wpList P ops Q rest (a.put o.dst v') w') : wpList P ops Q (o :: rest) a w :=
  wpList_plain hg fun K hK' => by
    unfold Oper.wp execOp
    subst hs hx
    simp only [ho, resolve, invoke, builtin, Sem.run_bind, Sem.run_pure, Result.andThen_ok, List.map_toArray, List.map_cons, List.map_nil, hr]
    exact hK' _ _ hK
/-- A row of the call's own, without its last ones. -/
theorem own_cut {w : World} {base n m : Nat} {e : TypeId} {p : Option Addr} {c : Nat} {xs ys : List Value} (h : w.ownsRow base e 1 (.slice p n c) n (xs ++ ys)) (hm : xs.length = m) : w.ownsRow base e 1 (.slice p m c) m xs := by
  obtain ⟨hl, hv⟩ := h
  rw [List.length_append] at hl
  rcases hv with ⟨e1, rfl⟩ | ⟨g, cap, cur, e1, hg, hh, q1, q2, q3, q4⟩
  · cases e1
    have : m = 0 := by omega
    subst this
    exact ⟨by omega, Or.inl ⟨rfl, rfl⟩⟩
  · cases e1
    refine ⟨by omega, Or.inr ⟨g, _, cur, rfl, hg, hh, by omega, q2, q3, ?_⟩⟩
    rw [Nat.mul_one] at *
    have : cur.toList.take m = (cur.toList.take n).take m := by rw [List.take_take, Nat.min_eq_left (by omega)]
    rw [this, q4, ← hm, List.take_left]
end Go.Proofs.Ytnlbmplbaalgmaa
