/- Modes: the same; which can be; a copy. -/
import Derived.Test.YtcpfkkbegnhofaaDoorK04
import Derived.Test.YtcpfkkbegnhofaaDoorK01
import Derived.Laws.AppendOwn
import Derived.Deep.Upon
import Derived.Test.YtcpfkkbegnhofaaDoorLayGrow
import Derived.Shelf.Spec.SlicesGrow
set_option linter.unusedVariables false
set_option linter.unusedSimpArgs false
namespace Go.Proofs.YtcpfkkbegnhofaaDoor
open Go.RowKit

theorem txts_strs {w : World} {v : Value} {l : List Txt} (h : RowOf txtc 1 w v l) : ∃ p c, v = .slice p l.length c ∧ l.length ≤ maxLen := h.len
theorem map_ofL_inj : ∀ {a b : List Txt}, a.map ofL = b.map ofL → a = b
  | [], [], _ => rfl
  | [], _ :: _, h => by simp at h
  | _ :: _, [], h => by simp at h
  | x :: a, y :: b, h => by
    simp only [List.map_cons, List.cons.injEq] at h
    rw [ofL_inj h.1, map_ofL_inj h.2]
theorem txt_at {w : World} {p : Option Addr} {cap n : Nat} {l : List Txt} (h : RowOf txtc 1 w (.slice p n cap) l) (hl : l ≠ []) : n = l.length ∧ ∃ b off, p = some ⟨b, off, none⟩ ∧ b < w.heap.size ∧ ∀ j, j < (l.map ofL).length → w.cell? ⟨b, off + j, none⟩ = some (.string ((l.map ofL).getD j ByteArray.empty)) := by
  rcases h with ⟨_, _, _, e⟩ | ⟨b, off, c, e, hb, _, hc⟩
  · exact absurd e hl
  · simp only [Value.slice.injEq] at e
    refine ⟨e.2.1, b, off, e.1, hb, fun j hj => ?_⟩
    rw [List.length_map] at hj
    have := hc j _ (List.getElem?_eq_getElem hj) 0 (by omega)
    rw [List.getD_eq_getElem?_getD, List.getElem?_map, List.getElem?_eq_getElem hj]
    simpa [txtc] using this
/-- Equal of texts. -/
theorem equalT_any (v1 v2 : Value) (l1 l2 : List Txt) (w : World) (h1 : RowOf txtc 1 w v1 l1) (h2 : RowOf txtc 1 w v2 l2) (hl : l1.length ≤ 1000000) :
    Calls Tryd.prog 31 #[v1, v2] w fun e w' => e = .returned (.bool (decide (l1 = l2))) ∧ Upd (fun _ => False) w w' := by
  obtain ⟨p1, c1, rfl, hm1⟩ := h1.len
  obtain ⟨p2, c2, rfl, hm2⟩ := h2.len
  unfold maxLen at hm1 hm2
  by_cases e1 : l1 = []
  · subst e1
    refine (Tryd.slices_Equal_string_empty p1 p2 c1 l2.length c2 w (by omega)).mono ?_
    rintro e w' ⟨rfl, rfl⟩
    refine ⟨?_, Upd.refl _ _⟩
    congr 2
    refine decide_eq_decide.2 ?_
    rw [List.length_eq_zero_iff]; exact eq_comm
  · by_cases hn : l1.length = l2.length
    · have e2 : l2 ≠ [] := fun e => e1 (List.length_eq_zero_iff.1 (by rw [hn, e]; rfl))
      obtain ⟨_, b1, o1, rfl, _, hc1⟩ := txt_at h1 e1
      obtain ⟨_, b2, o2, rfl, _, hc2⟩ := txt_at h2 e2
      refine (Tryd.slices_Equal_string b1 o1 l1.length c1 b2 o2 l2.length c2 (l1.map ofL) (l2.map ofL) w (by simp) (by simp) (by omega) (by omega) hc1 hc2).mono ?_
      rintro e w' ⟨rfl, q, rfl⟩
      refine ⟨?_, (Upd.refl _ _).drewN q⟩
      congr 2
      refine decide_eq_decide.2 ?_
      rw [List.take_of_length_le (by simp), List.take_of_length_le (by simp)]
      exact ⟨map_ofL_inj, fun e => by rw [e]⟩
    · refine (Tryd.slices_Equal_string_lens p1 p2 l1.length c1 l2.length c2 w hn).mono ?_
      rintro e w' ⟨rfl, rfl⟩
      exact ⟨by rw [decide_eq_false (fun e => hn (by rw [e]))], Upd.refl _ _⟩
set_option maxHeartbeats 8000000 in
set_option maxRecDepth 100000 in
theorem msame_any (m m' : MD) (v v' : Value) (w : World) (h : RowOf txtc 1 w v m.ps) (h' : RowOf txtc 1 w v' m'.ps) (hl : m.ps.length ≤ 1000000) :
    Calls Tryd.prog 13 #[mdV m v, mdV m' v'] w fun e w' => e = .returned (.bool (decide (m = m'))) ∧ Upd (fun _ => False) w w' := by
  obtain ⟨p, c, rfl, hm⟩ := h.len
  obtain ⟨p', c', rfl, hm'⟩ := h'.len
  unfold maxLen at hm hm'
  obtain ⟨on, bc, oi, oo, nl, rd, ps⟩ := m
  obtain ⟨on', bc', oi', oo', nl', rd', ps'⟩ := m'
  have U : Hid (∀ o o', Upd (fun _ => False) w ((w.alloc o).alloc o')) := fun o o' => ((Upd.refl _ _).alloc o).alloc o'
  have EQ : Hid (∀ W, Upd (fun _ => False) w W → Calls Tryd.prog 31 #[.slice p ps.length c, .slice p' ps'.length c'] W fun e w' => e = .returned (.bool (decide (ps = ps'))) ∧ Upd (fun _ => False) w w') := fun W u => by
    refine (equalT_any _ _ ps ps' W (h.keep u (fun _ _ _ h => h)) (h'.keep u (fun _ _ _ h => h)) hl).mono ?_
    rintro e w' ⟨rfl, u2⟩; exact ⟨rfl, u.trans u2 (fun _ _ h => h)⟩
  clear h h'
  unfold mdV
  dsimp only at *
  generalize hn : ps.length = np at *
  generalize hn' : ps'.length = np' at *
  have HN := Lib.hid hn
  have HN' := Lib.hid hn'
  clear hn hn'
  have RM : Hid (decide ((⟨on, bc, oi, oo, nl, rd, ps⟩ : MD) = ⟨on', bc', oi', oo', nl', rd', ps'⟩) = decide (on = on' ∧ bc = bc' ∧ oi = oi' ∧ oo = oo' ∧ nl = nl' ∧ rd = rd' ∧ ps = ps')) := decide_eq_decide.2 (by
    constructor
    · intro e; injection e with a1 a2 a3 a4 a5 a6 a7; exact ⟨a1, a2, a3, a4, a5, a6, a7⟩
    · rintro ⟨rfl, rfl, rfl, rfl, rfl, rfl, rfl⟩; rfl)
  generalize decide ((⟨on, bc, oi, oo, nl, rd, ps⟩ : MD) = ⟨on', bc', oi', oo', nl', rd', ps'⟩) = dd at *
  by_cases h1 : on = on'
  · subst h1
    by_cases h2 : bc = bc'
    · subst h2
      by_cases h3 : oi = oi'
      · subst h3
        by_cases h4 : oo = oo'
        · subst h4
          by_cases h5 : nl = nl'
          · subst h5
            by_cases h6 : rd = rd'
            · subst h6
              have R : Hid (dd = decide (ps = ps')) := RM.out.trans (decide_eq_decide.2 (by simp))
              clear RM
              generalize decide (ps = ps') = dp at *
              go_enter Tryd.func13, Tryd.ntmps13
              go_wp2_with fail
              refine (EQ.out _ (U.out _ _)).mono ?_
              rintro e w5 ⟨rfl, u5⟩
              have U5 := Lib.hid u5
              clear u5
              go_wp2
              go_ret
              exact ⟨by rw [R.out]; rfl, U5.out⟩
            · have e : (rd == rd') = false := beq_eq_false_iff_ne.2 h6
              have R : Hid (dd = false) := RM.out.trans (by simp [h6])
              clear RM
              go_enter Tryd.func13, Tryd.ntmps13
              go_wp2
              go_ret
              exact ⟨by rw [R.out]; rfl, U.out _ _⟩
          · have e : (nl == nl') = false := beq_eq_false_iff_ne.2 h5
            have R : Hid (dd = false) := RM.out.trans (by simp [h5])
            clear RM
            go_enter Tryd.func13, Tryd.ntmps13
            go_wp2
            go_ret
            exact ⟨by rw [R.out]; rfl, U.out _ _⟩
        · have e : (oo == oo') = false := beq_eq_false_iff_ne.2 h4
          have R : Hid (dd = false) := RM.out.trans (by simp [h4])
          clear RM
          go_enter Tryd.func13, Tryd.ntmps13
          go_wp2
          go_ret
          exact ⟨by rw [R.out]; rfl, U.out _ _⟩
      · have e : (oi == oi') = false := beq_eq_false_iff_ne.2 h3
        have R : Hid (dd = false) := RM.out.trans (by simp [h3])
        clear RM
        go_enter Tryd.func13, Tryd.ntmps13
        go_wp2
        go_ret
        exact ⟨by rw [R.out]; rfl, U.out _ _⟩
    · have e : (bc == bc') = false := beq_eq_false_iff_ne.2 h2
      have R : Hid (dd = false) := RM.out.trans (by simp [h2])
      clear RM
      go_enter Tryd.func13, Tryd.ntmps13
      go_wp2
      go_ret
      exact ⟨by rw [R.out]; rfl, U.out _ _⟩
  · have e : (on == on') = false := beq_eq_false_iff_ne.2 h1
    have R : Hid (dd = false) := RM.out.trans (by simp [h1])
    clear RM
    go_enter Tryd.func13, Tryd.ntmps13
    go_wp2
    go_ret
    exact ⟨by rw [R.out]; rfl, U.out _ _⟩
set_option maxHeartbeats 8000000 in
set_option maxRecDepth 100000 in
theorem right_any (m : MD) (v : Value) (w : World) (h : RowOf txtc 1 w v m.ps) (hl : m.ps.length ≤ 1000000) (hs : ∀ t ∈ m.ps, t.length ≤ maxLen) :
    Calls Tryd.prog 18 #[mdV m v] w fun e w' => e = .returned (.bool (rightM m)) ∧ Upd (fun _ => False) w w' := by
  obtain ⟨p, c, rfl, hm⟩ := h.len
  unfold maxLen at hm
  obtain ⟨on, bc, oi, oo, nl, rd, ps⟩ := m
  dsimp only at *
  have U : Hid (∀ o, Upd (fun _ => False) w (w.alloc o)) := fun o => (Upd.refl _ _).alloc o
  have SA : Hid (∀ W, Upd (fun _ => False) w W → Calls Tryd.prog 13 #[mdV ⟨on, bc, oi, oo, nl, rd, ps⟩ (.slice p ps.length c), mdV offM (.slice none 0 0)] W fun e w' => e = .returned (.bool (decide ((⟨on, bc, oi, oo, nl, rd, ps⟩ : MD) = offM))) ∧ Upd (fun _ => False) w w') := fun W u => by
    refine (msame_any ⟨on, bc, oi, oo, nl, rd, ps⟩ offM _ _ W (h.keep u (fun _ _ _ h => h)) (Or.inl ⟨none, 0, rfl, rfl⟩) hl).mono ?_
    rintro e w' ⟨rfl, u2⟩; exact ⟨rfl, u.trans u2 (fun _ _ h => h)⟩
  have PX : Hid (∀ W, Upd (fun _ => False) w W → Calls Tryd.prog 36 #[.slice p ps.length c] W fun e w' => e = .returned (.bool (decide (preR ps))) ∧ Upd (fun _ => False) w w') := fun W u => by
    refine (prefixes_any _ ps W (h.keep u (fun _ _ _ h => h)) hl hs).mono ?_
    rintro e w' ⟨rfl, u2⟩; exact ⟨rfl, u.trans u2 (fun _ _ h => h)⟩
  clear h hs
  unfold mdV at *
  have RM : Hid (rightM ⟨on, bc, oi, oo, nl, rd, ps⟩ = if on = false then decide ((⟨on, bc, oi, oo, nl, rd, ps⟩ : MD) = offM) else if rd < 0 ∨ 1000000000 < rd ∨ (oi = true ∧ oo = true) ∨ (bc = true ∧ (oi = true ∨ oo = true)) then false else if bc = false then decide (ps = []) else decide (preR ps)) := rfl
  generalize rightM ⟨on, bc, oi, oo, nl, rd, ps⟩ = rr at *
  cases on with
  | false =>
    have R : Hid (rr = decide ((⟨false, bc, oi, oo, nl, rd, ps⟩ : MD) = offM)) := RM.out
    generalize decide ((⟨false, bc, oi, oo, nl, rd, ps⟩ : MD) = offM) = dd at *
    dsimp only [offM] at *
    generalize ps.length = np at *
    clear RM PX
    go_enter Tryd.func18, Tryd.ntmps18
    go_wp2_with fail
    refine (SA.out _ (U.out _)).mono ?_
    rintro e w5 ⟨rfl, u5⟩
    have U5 := Lib.hid u5
    clear u5
    go_wp2
    go_ret
    exact ⟨by rw [R.out]; rfl, U5.out⟩
  | true =>
    clear SA
    by_cases h1 : rd < 0
    · have R : Hid (rr = false) := RM.out.trans (by simp [h1])
      clear RM PX
      generalize ps.length = np at *
      go_enter Tryd.func18, Tryd.ntmps18
      go_wp2
      all_goals (go_ret; exact ⟨by rw [R.out]; rfl, U.out _⟩)
    · by_cases h2 : 1000000000 < rd
      · have R : Hid (rr = false) := RM.out.trans (by simp [h2])
        clear RM PX
        generalize ps.length = np at *
        go_enter Tryd.func18, Tryd.ntmps18
        go_wp2
        all_goals (go_ret; exact ⟨by rw [R.out]; rfl, U.out _⟩)
      · have RM : Hid (rr = if (oi = true ∧ oo = true) ∨ (bc = true ∧ (oi = true ∨ oo = true)) then false else if bc = false then decide (ps = []) else decide (preR ps)) := RM.out.trans (by simp [h1, h2])
        have LE : Hid (decide (ps = []) = decide ((ps.length : Int) = 0)) := decide_eq_decide.2 (by rw [← List.length_eq_zero_iff]; omega)
        generalize hdp : decide (preR ps) = dp at *
        generalize decide (ps = []) = d0 at *
        generalize ps.length = np at *
        clear hdp
        cases bc with
        | false =>
          cases oi with
          | false =>
            cases oo with
            | false =>
              have R : Hid (rr = d0) := RM.out.trans (by simp)
              clear RM PX
              go_enter Tryd.func18, Tryd.ntmps18
              go_wp2
              go_ret
              exact ⟨by rw [R.out, LE.out]; rfl, U.out _⟩
            | true =>
              have R : Hid (rr = d0) := RM.out.trans (by simp)
              clear RM PX
              go_enter Tryd.func18, Tryd.ntmps18
              go_wp2
              go_ret
              exact ⟨by rw [R.out, LE.out]; rfl, U.out _⟩
          | true =>
            cases oo with
            | false =>
              have R : Hid (rr = d0) := RM.out.trans (by simp)
              clear RM PX
              go_enter Tryd.func18, Tryd.ntmps18
              go_wp2
              go_ret
              exact ⟨by rw [R.out, LE.out]; rfl, U.out _⟩
            | true =>
              have R : Hid (rr = false) := RM.out.trans (by simp)
              clear RM PX LE
              go_enter Tryd.func18, Tryd.ntmps18
              go_wp2
              go_ret
              exact ⟨by rw [R.out]; rfl, U.out _⟩
        | true =>
          cases oi with
          | false =>
            cases oo with
            | false =>
              have R : Hid (rr = dp) := RM.out.trans (by simp)
              clear RM LE
              go_enter Tryd.func18, Tryd.ntmps18
              go_wp2_with fail
              refine (PX.out _ (U.out _)).mono ?_
              rintro e w5 ⟨rfl, u5⟩
              have U5 := Lib.hid u5
              clear u5
              go_wp2
              go_ret
              exact ⟨by rw [R.out]; rfl, U5.out⟩
            | true =>
              have R : Hid (rr = false) := RM.out.trans (by simp)
              clear RM PX LE
              go_enter Tryd.func18, Tryd.ntmps18
              go_wp2
              go_ret
              exact ⟨by rw [R.out]; rfl, U.out _⟩
          | true =>
            cases oo with
            | false =>
              have R : Hid (rr = false) := RM.out.trans (by simp)
              clear RM PX LE
              go_enter Tryd.func18, Tryd.ntmps18
              go_wp2
              go_ret
              exact ⟨by rw [R.out]; rfl, U.out _⟩
            | true =>
              have R : Hid (rr = false) := RM.out.trans (by simp)
              clear RM PX LE
              go_enter Tryd.func18, Tryd.ntmps18
              go_wp2
              go_ret
              exact ⟨by rw [R.out]; rfl, U.out _⟩
end Go.Proofs.YtcpfkkbegnhofaaDoor
/- Append to a row of the call's own: where the longer row lies. -/
set_option linter.unusedVariables false
set_option linter.unusedSimpArgs false
namespace Go.Proofs.YtcpfkkbegnhofaaDoor
open Go.RowKit

/-- Rows that lie where the old one lay, or in a new block. -/
def NewOr (v v' : Value) (w : World) : Prop := ∀ k, v'.ownBlock = some k → v.ownBlock = some k ∨ w.heap.size ≤ k
theorem run_append_where {P : Program} (w : World) (base : Nat) (t ty e : TypeId) (i : TypeInfo) (z : Value) (size bytes : Nat) (ht : P.underlying t = some (.slice e)) (hi : P.info? e = some i) (hz : i.zero = some z)
    (hsize : i.size = size) (hby : i.bytes = bytes) (v : Value) (n : Nat) (xs : List Value) (hown : w.ownsRow base e size v n xs)
    (a : Addr) (m c : Nat) (news : List Value) (hl : news.length = m * size) (hnews : ∀ j u, news[j]? = some u → w.cell? (a.add j) = some u) (h1 : ∀ u ∈ news, u.oneCell' = true) (hm : 0 < m)
    (h63 : n + m ≤ maxLen) (hbytes : (n + m) * bytes ≤ 140737488355328) :
    ∀ v' w', (Builtin.append_ #[t, t] ty #[v, .slice (some a) m c]).run P w = .ok v' w' → NewOr v v' w := by
  intro v' w' hr k hk
  subst hsize hby
  have h64 : n + m ≤ 9223372036854775807 := by simp only [maxLen] at h63; omega
  have hn := hown.1
  rcases hown.2 with ⟨rfl, rfl⟩ | ⟨g, cap, cur, rfl, _, hg, hnc, hcm, hcs, _⟩
  · have := run_append_nil (P := P) (ty := ty) w t e i z ht hi hz a m c news hl hnews hm (by omega) (by simp only [Nat.zero_add] at hbytes; omega)
    rw [this] at hr
    injection hr with e1 e2
    subst e1; cases hk; exact Or.inr (Nat.le_refl _)
  · by_cases hroom : n + m ≤ cap
    · have := run_append_room (P := P) (ty := ty) w t e i ht hi g n cap cur hg a m c news hl hnews h1 hroom (by rw [hl, hcs, ← Nat.add_mul]; exact Nat.mul_le_mul_right _ hroom)
      rw [this] at hr
      injection hr with e1 e2
      subst e1; exact Or.inl hk
    · have := run_append_grow (P := P) (ty := ty) w t e i z ht hi hz ⟨g, 0, none⟩ n cap xs hn (hown.cells (g := g) rfl) a m c news hl hnews (by omega) (by omega) (growslice_fits (by omega) hbytes)
      rw [this] at hr
      injection hr with e1 e2
      subst e1; cases hk; exact Or.inr (Nat.le_refl _)
theorem wpList_append_where {P : Program} {ops : Array Oper} {rest : List Oper} {o : Oper} {a : Act} {Q : Exit → Act → World → Prop} (w : World) (hgd : o.guard = none) (s x : Operand) (t : TypeId)
    (ho : o.op = .call { callee := .builtin .append, args := #[s, x], argTypes := #[t, t] })
    (base : Nat) (e : TypeId) (i : TypeInfo) (z : Value) (size bytes : Nat) (ht : P.underlying t = some (.slice e)) (hi : P.info? e = some i) (hz : i.zero = some z)
    (hsize : i.size = size) (hby : i.bytes = bytes) (hzs : z.cells.size = size) (hsz : 0 < size)
    (v : Value) (n : Nat) (xs : List Value) (hs : a.eval s = v) (hown : w.ownsRow base e size v n xs)
    (ad : Addr) (m c : Nat) (news : List Value) (hx : a.eval x = .slice (some ad) m c) (hl : news.length = m * size) (hnews : ∀ j u, news[j]? = some u → w.cell? (ad.add j) = some u) (h1 : ∀ u ∈ news, u.oneCell' = true)
    (h63 : n + m ≤ maxLen) (hbytes : (n + m) * bytes ≤ 140737488355328) (hbase : base ≤ w.heap.size) (hm : 0 < m)
    (h : ∀ v' w', w'.ownsRow base e size v' (n + m) (xs ++ news) → Upd (fun k => v.ownBlock = some k) w w' → NewOr v v' w → wpList P ops Q rest (a.put o.dst v') w') : wpList P ops Q (o :: rest) a w :=
  wpList_plain hgd fun K hK => by
    obtain ⟨v', w', hr, h2, h3, _⟩ := run_append_own (P := P) w base t o.type e i z size bytes ht hi hz hsize hby hzs hsz v n xs hown ad m c news hl hnews h1 h63 hbytes hbase
    have hw := run_append_where (P := P) w base t o.type e i z size bytes ht hi hz hsize hby v n xs hown ad m c news hl hnews h1 hm h63 hbytes v' w' hr
    unfold Oper.wp execOp
    simp only [ho, resolve, invoke, builtin, Sem.run_bind, Sem.run_pure, Result.andThen_ok, List.map_toArray, List.map_cons, List.map_nil, hs, hx, hr]
    exact hK _ _ (h v' w' h2 ((Upd.of_grown h3).weaken (fun k _ hk => hk.symm)) hw)
end Go.Proofs.YtcpfkkbegnhofaaDoor
/- Rows of structs of k cells each, of the call's own: read, append, store. -/
set_option linter.unusedVariables false
set_option linter.unusedSimpArgs false
namespace Go.Proofs.YtcpfkkbegnhofaaDoor
open Go.RowKit

section
variable {α : Type} {f : α → List Value} {k : Nat} {w w' : World} {base : Nat} {e : TypeId} {v : Value} {l : List α}
/-- v is a slice of the call's own, from block base on, that holds l, each thing by its k cells. -/
def OwnN (f : α → List Value) (k : Nat) (e : TypeId) (w : World) (base : Nat) (v : Value) (l : List α) : Prop := w.ownsRow base e k v l.length (flat f l)
theorem OwnN.keep {F : Nat → Prop} (h : OwnN f k e w base v l) (u : Upd F w w') (hd : ∀ b, v.ownBlock = some b → ¬ F b) : OwnN f k e w' base v l := own_keep h u hd
theorem OwnN.keep0 (h : OwnN f k e w base v l) (u : Upd (fun _ => False) w w') : OwnN f k e w' base v l := own_keep h u (fun _ _ h => h)
theorem OwnN.mono {b2 : Nat} (h : OwnN f k e w base v l) (hb : b2 ≤ base) : OwnN f k e w b2 v l := by
  refine ⟨h.1, h.2.imp id ?_⟩
  rintro ⟨g, cap, cur, a, b, c⟩
  exact ⟨g, cap, cur, a, Nat.le_trans hb b, c⟩
theorem OwnN.blk (h : OwnN f k e w base v l) : (v = .slice none 0 0 ∧ l = []) ∨ ∃ b cap cs, v = .slice (some ⟨b, 0, none⟩) l.length cap ∧ base ≤ b ∧ Blk w b (flat f l ++ cs) e ∧ l.length * k + cs.length = cap * k ∧ cap ≤ maxLen ∧ l.length ≤ cap := by
  obtain ⟨h0, ⟨rfl, e0⟩ | ⟨g, cap, cur, rfl, hg, hh, h1, h2, h3, h4⟩⟩ := h
  · exact Or.inl ⟨rfl, List.length_eq_zero_iff.1 e0⟩
  · refine Or.inr ⟨g, cap, cur.toList.drop (l.length * k), rfl, hg, ?_, ?_, h2, h1⟩
    · unfold Blk
      rw [← h4, List.take_append_drop]; exact hh
    · have : l.length * k ≤ cap * k := Nat.mul_le_mul_right _ h1
      simp; omega
theorem OwnN.lt (h : OwnN f k e w base v l) {b : Nat} (hb : v.ownBlock = some b) : base ≤ b ∧ b < w.heap.size ∧ ∃ cs, Blk w b cs e := by
  rcases h.blk with ⟨rfl, _⟩ | ⟨g, cap, cs, rfl, hg, hB, _⟩
  · cases hb
  · cases hb; exact ⟨hg, hB.lt, _, hB⟩
theorem OwnN.slice (h : OwnN f k e w base v l) : ∃ p c, v = .slice p l.length c ∧ l.length ≤ maxLen ∧ l.length ≤ c := by
  rcases h.blk with ⟨rfl, rfl⟩ | ⟨g, cap, cs, rfl, hg, hB, _, h1, h2⟩
  · exact ⟨_, _, rfl, by unfold maxLen; simp, by simp⟩
  · exact ⟨_, _, rfl, by omega, h2⟩
theorem OwnN.row (h : OwnN f k e w base v l) (hf : ∀ a, (f a).length = k) : RowOf f k w v l := by
  rcases h.blk with ⟨rfl, rfl⟩ | ⟨g, cap, cs, rfl, hg, hB, _, h1, h2⟩
  · exact Or.inl ⟨none, 0, rfl, rfl⟩
  · refine Or.inr ⟨g, 0, cap, rfl, hB.lt, by omega, fun i a hi j hj => ?_⟩
    have hil : i < l.length := (List.getElem?_eq_some_iff.1 hi).1
    have hlt : i * k + j < l.length * k := by
      have : (i + 1) * k ≤ l.length * k := Nat.mul_le_mul_right _ hil
      rw [Nat.add_mul] at this; omega
    rw [Nat.zero_add, hB.cell, List.getElem?_append_left (by rw [flat_length f k hf]; exact hlt), flat_get f k hf l i j hj, hi]; rfl
theorem OwnN.none : OwnN f k e w base (.slice none 0 0) ([] : List α) := ⟨by simp [flat], Or.inl ⟨rfl, rfl⟩⟩
theorem OwnN.ofBlk {b cap : Nat} {cs : List Value} (hb : base ≤ b) (hf : ∀ a, (f a).length = k) (h : Blk w b (flat f l ++ cs) e) (hc : l.length * k + cs.length = cap * k) (hm : cap ≤ maxLen) (hle : l.length ≤ cap) : OwnN f k e w base (.slice (some ⟨b, 0, Option.none⟩) l.length cap) l := by
  have hl := flat_length f k hf l
  exact ⟨hl, Or.inr ⟨b, cap, _, rfl, hb, h, hle, hm, by simp; omega, by rw [← hl]; simp⟩⟩
/-- An empty row, made. -/
theorem OwnN.made (w : World) (e : TypeId) : OwnN f k e (w.alloc (.cells #[] e)) w.heap.size (.slice (some ⟨w.heap.size, 0, Option.none⟩) 0 0) ([] : List α) :=
  ⟨by simp [flat], Or.inr ⟨w.heap.size, 0, _, rfl, Nat.le_refl _, by
    have := Blk.made w [] e; exact this, Nat.le_refl _, by unfold maxLen; omega, by simp, by simp [flat]⟩⟩
/-- A thing's cells in a block of their own: a row of one. -/
theorem RowOf.lit (w : World) (a : α) (cs : List Value) (e : TypeId) (hcs : f a = cs) (hk : cs.length = k) : RowOf f k (w.alloc (.cells cs.toArray e)) (.slice (some ⟨w.heap.size, 0, Option.none⟩) 1 1) [a] := by
  refine Or.inr ⟨w.heap.size, 0, 1, rfl, by simp, by unfold maxLen; simp, fun i x hi j hj => ?_⟩
  cases i with
  | zero =>
    simp at hi; subst hi
    rw [Nat.zero_mul, Nat.zero_add, Nat.zero_add, (Blk.made w cs e).cell, hcs]
  | succ i => simp at hi
/-- A cell of a thing is written. -/
theorem OwnN.set {g n c i j : Nat} {a b : α} {x : Value} (h : OwnN f k e w base (.slice (some ⟨g, 0, Option.none⟩) n c) l) (hf : ∀ a, (f a).length = k) (hj : j < k) (ha : l[i]? = some a) (hb : f b = (f a).set j x) :
    OwnN f k e (w.setCell ⟨g, i * k + j, Option.none⟩ x) base (.slice (some ⟨g, 0, Option.none⟩) n c) (l.set i b) := by
  rcases h.blk with ⟨e1, _⟩ | ⟨g', cap, cs, e1, hg, hB, h1, h2, h3⟩
  · cases e1
  · injection e1 with e1 e2 e3
    injection e1 with e1; injection e1 with e1
    subst e1 e3
    have hil : i < l.length := (List.getElem?_eq_some_iff.1 ha).1
    have hlt : i * k + j < l.length * k := by
      have : (i + 1) * k ≤ l.length * k := Nat.mul_le_mul_right _ hil
      rw [Nat.add_mul] at this; omega
    have hs := hB.set (i * k + j) x
    rw [List.set_append_left _ _ (by rw [flat_length f k hf]; exact hlt), flat_set f k hf l i j hj a b x ha hb] at hs
    have := OwnN.ofBlk (base := base) (cap := c) (l := l.set i b) hg hf hs (by rw [List.length_set]; exact h1) h2 (by rw [List.length_set]; exact h3)
    rw [List.length_set] at this
    rw [e2]; exact this
theorem OwnN.cell {g n c : Nat} (h : OwnN f k e w base (.slice (some ⟨g, 0, Option.none⟩) n c) l) (hf : ∀ a, (f a).length = k) {i j : Nat} {a : α} (hj : j < k) (ha : l[i]? = some a) : w.cell? ⟨g, i * k + j, Option.none⟩ = (f a)[j]? := by
  rcases h.row hf with ⟨_, _, _, e1⟩ | ⟨b, off, cap, e1, _, _, hc⟩
  · subst e1; simp at ha
  · have h0 := h.blk
    rcases h0 with ⟨e2, _⟩ | ⟨g', cap', cs, e2, hg, hB, h1, h2, h3⟩
    · cases e2
    · injection e2 with e2 e3 e4
      injection e2 with e2; injection e2 with e2
      subst e2
      have hil : i < l.length := (List.getElem?_eq_some_iff.1 ha).1
      have hlt : i * k + j < l.length * k := by
        have : (i + 1) * k ≤ l.length * k := Nat.mul_le_mul_right _ hil
        rw [Nat.add_mul] at this; omega
      rw [hB.cell, List.getElem?_append_left (by rw [flat_length f k hf]; exact hlt), flat_get f k hf l i j hj, ha]; rfl
/-- append(v, v2...): v of the call's own, v2 any row. -/
theorem OwnN.append {P : Program} {v2 : Value} {l2 : List α} (t ty : TypeId) (i : TypeInfo) (z : Value) (bytes : Nat) (ht : P.underlying t = some (.slice e)) (hi : P.info? e = some i) (hz : i.zero = some z)
    (hsize : i.size = k) (hby : i.bytes = bytes) (hzs : z.cells.size = k) (hk : 0 < k) (hf : ∀ a, (f a).length = k) (h1 : ∀ a ∈ l2, ∀ u ∈ f a, u.oneCell' = true)
    (h : OwnN f k e w base v l) (h2 : RowOf f k w v2 l2) (h63 : l.length + l2.length ≤ maxLen) (hbytes : (l.length + l2.length) * bytes ≤ 140737488355328) (hb : base ≤ w.heap.size) :
    ∃ v' w', (Builtin.append_ #[t, t] ty #[v, v2]).run P w = .ok v' w' ∧ OwnN f k e w' base v' (l ++ l2) ∧ Upd (fun b => v.ownBlock = some b) w w' ∧ NewOr v v' w := by
  have hfl := flat_length f k hf l2
  have e2 : flat f (l ++ l2) = flat f l ++ flat f l2 := by simp [flat]
  have ho : ∀ u ∈ flat f l2, u.oneCell' = true := by
    intro u hu
    unfold flat at hu
    obtain ⟨m, hml, hm⟩ := List.mem_flatMap.1 hu
    exact h1 m hml u hm
  by_cases h0 : l2 = []
  · subst h0
    obtain ⟨p, cp, rfl, _, hle⟩ := h.slice
    obtain ⟨a, c, rfl⟩ : ∃ a c, v2 = .slice a 0 c := by
      rcases h2 with ⟨a, c, e, _⟩ | ⟨b, off, cap, e, _⟩
      · exact ⟨_, _, e⟩
      · exact ⟨_, _, e⟩
    have hs : Src P i.size t (.slice a 0 c) 0 [] w := by
      cases a with
      | none => exact Src.ofNil w ht c
      | some a => exact Src.ofSlice w ht a 0 c [] (by simp) (fun j u h => by simp at h) (fun u h => by cases h)
    refine ⟨_, _, run_append_nothing (P := P) w t t ty e i ht hi p l.length cp hle _ hs, by simpa using h, Upd.refl _ _, fun k hk => Or.inl hk⟩
  · obtain ⟨b, off, c, rfl, hb2, _, hc⟩ : ∃ b off cap, v2 = .slice (some ⟨b, off, Option.none⟩) l2.length cap ∧ b < w.heap.size ∧ l2.length ≤ maxLen ∧ ∀ i a, l2[i]? = some a → ∀ j, j < k → w.cell? ⟨b, off + (i * k + j), Option.none⟩ = (f a)[j]? := by
      rcases h2 with ⟨_, _, _, e⟩ | h2
      · exact absurd e h0
      · exact h2
    have hn : ∀ j u, (flat f l2)[j]? = some u → w.cell? ((⟨b, off, Option.none⟩ : Addr).add j) = some u := by
      intro j u hj
      have hjl := (List.getElem?_eq_some_iff.1 hj).1
      rw [hfl] at hjl
      have hi : j / k < l2.length := (Nat.div_lt_iff_lt_mul hk).2 hjl
      have hmod := Nat.mod_lt j hk
      have h1 := hc (j / k) l2[j / k] (List.getElem?_eq_getElem hi) (j % k) hmod
      have h3 := flat_get f k hf l2 (j / k) (j % k) hmod
      have ej : j / k * k + j % k = j := Nat.div_add_mod' j k
      rw [ej] at h1 h3
      rw [hj, List.getElem?_eq_getElem hi] at h3
      have e : (⟨b, off, Option.none⟩ : Addr).add j = ⟨b, off + j, Option.none⟩ := by simp [Addr.add]
      rw [e, h1]; exact h3.symm
    have hpos := List.length_pos_iff.2 h0
    obtain ⟨v', w', hr, q2, q3, _⟩ := run_append_own (P := P) w base t ty e i z k bytes ht hi hz hsize hby hzs hk v l.length _ h ⟨b, off, Option.none⟩ l2.length c _ hfl hn ho h63 hbytes hb
    have hw := run_append_where (P := P) w base t ty e i z k bytes ht hi hz hsize hby v l.length _ h ⟨b, off, Option.none⟩ l2.length c _ hfl hn ho hpos h63 hbytes v' w' hr
    refine ⟨v', w', hr, ?_, (Upd.of_grown q3).weaken (fun k _ hk => hk.symm), hw⟩
    unfold OwnN
    rw [e2, List.length_append]; exact q2
end
/-- A step of a region that draws its order: append. -/
theorem step_builtinN {P : Program} {ops : Array Oper} {o : Oper} {a : Act} {w w' : World} {K : Act → World → Prop} {Q : Exit → Act → World → Prop} {E : Prop} {v' : Value} (hg : o.guard = none) (s x : Operand) (t : TypeId)
    (ho : o.op = .call { callee := .builtin .append, args := #[s, x], argTypes := #[t, t] }) (u y : Value) (hs : a.eval s = u) (hx : a.eval x = y)
    (hr : (Builtin.append_ #[t, t] o.type #[u, y]).run P w = .ok v' w') (hK : K (a.put o.dst v') w') :
    if Region.wanted o (yielded ops a.tmps) = true then Oper.wp P o a w K Q else E := by
  have hw : Region.wanted o (yielded ops a.tmps) = true := by simp [Region.wanted, hg]
  rw [if_pos hw]
  unfold Oper.wp execOp
  subst hs hx
  simp only [ho, resolve, invoke, builtin, Sem.run_bind, Sem.run_pure, Result.andThen_ok, List.map_toArray, List.map_cons, List.map_nil, hr]
  exact hK
theorem wpList_builtinN {P : Program} {ops : Array Oper} {rest : List Oper} {o : Oper} {a : Act} {w w' : World} {Q : Exit → Act → World → Prop} {v' : Value} (hg : o.guard = none) (s x : Operand) (t : TypeId)
    (ho : o.op = .call { callee := .builtin .append, args := #[s, x], argTypes := #[t, t] }) (u y : Value) (hs : a.eval s = u) (hx : a.eval x = y)
    (hr : (Builtin.append_ #[t, t] o.type #[u, y]).run P w = .ok v' w') (hK : wpList P ops Q rest (a.put o.dst v') w') : wpList P ops Q (o :: rest) a w :=
  wpList_plain hg fun K hK' => by
    unfold Oper.wp execOp
    subst hs hx
    simp only [ho, resolve, invoke, builtin, Sem.run_bind, Sem.run_pure, Result.andThen_ok, List.map_toArray, List.map_cons, List.map_nil, hr]
    exact hK' _ _ hK
theorem info_parts {o : Option TypeInfo} {x : Option Value × Nat × Nat} (h : o.map (fun i => (i.zero, i.size, i.bytes)) = some x) : ∃ i, o = some i ∧ i.zero = x.1 ∧ i.size = x.2.1 ∧ i.bytes = x.2.2 := by
  cases o with
  | none => cases h
  | some i => simp only [Option.map_some, Option.some.injEq] at h; subst h; exact ⟨i, rfl, rfl, rfl, rfl⟩
end Go.Proofs.YtcpfkkbegnhofaaDoor
/- Modes: a copy; rows of texts one behind another, in order, each once; from one mode to another. -/
set_option linter.unusedVariables false
set_option linter.unusedSimpArgs false
namespace Go.Proofs.YtcpfkkbegnhofaaDoor
open Go.RowKit

theorem txts_strsC {w : World} {base : Nat} {v : Value} {l : List Txt} : TxtsAt w base v l ↔ StrsAt w base v (l.map ofL) := by
  unfold TxtsAt StrsAt; rw [List.length_map, List.map_map]; exact Iff.rfl
theorem cloneR_any (v : Value) (xs : List Txt) (w : World) (h : RowOf txtc 1 w v xs) (hl : xs.length ≤ 1000000) :
    Calls Tryd.prog 35 #[v] w fun e w' => ∃ v', e = .returned v' ∧ TxtsAt w' w.heap.size v' xs ∧ Upd (fun _ => False) w w' := by
  obtain ⟨p, c, rfl, hm⟩ := h.len
  unfold maxLen at hm
  by_cases e : xs = []
  · subst e
    cases p with
    | none => exact (Tryd.slices_Clone_string_nil 0 c w).mono fun e w' ⟨h1, h2⟩ => ⟨_, h1, World.ownsRow_nil _ _ _ _, by rw [h2]; exact Upd.refl _ _⟩
    | some a =>
      refine (Tryd.slices_Clone_string_zero a c w).mono ?_
      rintro e w' ⟨v', rfl, h2, _, hb⟩
      exact ⟨v', rfl, h2, (Upd.of_below hb).weaken fun i hi h2 => by omega⟩
  · obtain ⟨_, b, off, rfl, hb, hc⟩ := txt_at h e
    have hll : (xs.map ofL).length = xs.length := List.length_map ..
    refine (Tryd.slices_Clone_string b off xs.length c (xs.map ofL) w (by omega) (by omega) (fun j hj => ?_)).mono ?_
    · exact hc j (by omega)
    · rintro e w' ⟨v', rfl, h2, _, hb⟩
      rw [List.take_of_length_le (by omega)] at h2
      exact ⟨v', rfl, txts_strsC.2 (by rw [← hll] at h2; exact h2), (Upd.of_below hb).weaken fun i hi h2 => by omega⟩
theorem zeroS (k : Nat) : Builtin.zeroCells (Value.string ByteArray.empty).cells k = (List.replicate k (Value.string ByteArray.empty)).toArray := by
  apply Array.ext'
  simp [Builtin.zeroCells, Value.cells, Nat.mod_one, List.map_const']
theorem growT_any (n : Nat) (w : World) (hn : n ≤ 1000000) :
    Calls Tryd.prog 45 #[.slice none 0 0, .int .i64 (n : Int)] w fun e w' => ∃ v', e = .returned v' ∧ TxtsAt w' w.heap.size v' [] ∧ Upd (fun _ => False) w w' := by
  by_cases h0 : n = 0
  · subst h0
    refine (Any8.slices_Grow_room Tryd.layGrowS none 0 0 0 w (by omega) (by omega) (by omega) (by omega)).mono ?_
    rintro e w' ⟨rfl, rfl⟩
    exact ⟨_, rfl, World.ownsRow_nil _ _ _ _, Upd.refl _ _⟩
  · obtain ⟨i0, hi0, hz0, hzs, hzb⟩ := info_parts string_info
    refine (Any8.slices_Grow_grow Tryd.layGrowS i0 (.string ByteArray.empty) hi0 hz0 (by rw [hzs]; exact Nat.one_pos) none 0 0 n [] w (by omega) (by omega) (by rw [hzb]; show (0 + n) * 16 ≤ _; omega) (by omega) (by simp) (fun _ => rfl) (fun a h => by cases h)).mono ?_
    rintro e w' ⟨rfl, rfl⟩
    obtain ⟨Q, hQ⟩ : ∃ Q, Q = grownCap w (0 + n) 0 9 := ⟨_, rfl⟩
    have hQ1 : 0 + n ≤ Q := by rw [hQ]; exact grownCap_ge w _ _ _
    have hQ2 : Q ≤ maxLen := by rw [hQ]; exact grownCap_le_maxLen w _ _ _ (by unfold maxLen; omega)
    have hA : (([] : List Value).toArray ++ Builtin.zeroCells (Value.string ByteArray.empty).cells (0 + n - 0) ++ Builtin.zeroCells (Value.string ByteArray.empty).cells (Q - (0 + n))) = (List.replicate (0 + n - 0) (Value.string ByteArray.empty) ++ List.replicate (Q - (0 + n)) (Value.string ByteArray.empty)).toArray := by
      rw [zeroS, zeroS]; simp
    show ∃ v', _ = _ ∧ TxtsAt (w.drew.alloc (.cells (([] : List Value).toArray ++ Builtin.zeroCells (Value.string ByteArray.empty).cells (0 + n - 0) ++ Builtin.zeroCells (Value.string ByteArray.empty).cells (grownCap w (0 + n) 0 9 - (0 + n))) 9)) _ _ _ ∧ _
    rw [← hQ, hA]
    have hB := Blk.made w.drew (List.replicate (0 + n - 0) (Value.string ByteArray.empty) ++ List.replicate (Q - (0 + n)) (Value.string ByteArray.empty)) 9
    refine ⟨.slice (some ⟨w.heap.size, 0, none⟩) 0 Q, by rw [hQ]; rfl, ?_, (Upd.refl _ _).drew.alloc _⟩
    exact OwnN.ofBlk (f := txtc) (k := 1) (l := []) (base := w.heap.size) (Nat.le_refl _) (fun _ => rfl) hB (by simp; omega) hQ2 (Nat.zero_le _)
set_option maxHeartbeats 4000000 in
set_option maxRecDepth 100000 in
theorem copy_any (m : MD) (v : Value) (w : World) (h : RowOf txtc 1 w v m.ps) (hl : m.ps.length ≤ 1000000) :
    Calls Tryd.prog 16 #[mdV m v] w fun e w' => ∃ v', e = .returned (mdV m v') ∧ TxtsAt w' w.heap.size v' m.ps ∧ Upd (fun _ => False) w w' := by
  obtain ⟨p, c, rfl, hm⟩ := h.len
  unfold maxLen at hm
  obtain ⟨on, bc, oi, oo, nl, rd, ps⟩ := m
  dsimp only at *
  have H := Lib.hid h
  have CL : Hid (∀ W, Upd (fun _ => False) w W → Calls Tryd.prog 35 #[.slice p ps.length c] W fun e w' => ∃ p4 c4, e = .returned (.slice p4 ps.length c4) ∧ TxtsAt w' w.heap.size (.slice p4 ps.length c4) ps ∧ Upd (fun _ => False) W w') := fun W u => by
    refine (cloneR_any _ ps W (h.keep u (fun _ _ _ h => h)) hl).mono ?_
    rintro e w' ⟨v', rfl, t, u2⟩
    obtain ⟨p4, c4, e4, _⟩ := own_slice t
    subst e4
    exact ⟨p4, c4, rfl, own_mono t u.size, u2⟩
  clear h H
  unfold mdV
  dsimp only
  generalize hnp : ps.length = np at *
  have NP := Lib.hid hnp
  clear hnp
  have U1 : Hid (∀ o o', Upd (fun _ => False) w ((w.alloc o).alloc o')) := fun o o' => ((Upd.refl _ _).alloc o).alloc o'
  have K1 : Hid (∀ W, Upd (fun _ => False) ((w.alloc (.cells #[.bool on, .bool bc, .bool oi, .bool oo, .bool nl, .int .i64 rd, .slice p np c] 24)).alloc (.cells #[.bool false, .bool false, .bool false, .bool false, .bool false, .int .i64 0, .slice none 0 0] 24)) W → Blk W w.heap.size [.bool on, .bool bc, .bool oi, .bool oo, .bool nl, .int .i64 rd, .slice p np c] 24 ∧ Blk W (w.heap.size + 1) [.bool false, .bool false, .bool false, .bool false, .bool false, .int .i64 0, .slice none 0 0] 24) := fun W u => by
    refine ⟨u.blk ((Blk.made w [.bool on, .bool bc, .bool oi, .bool oo, .bool nl, .int .i64 rd, .slice p np c] _).alloc _) (fun h => h), u.blk ?_ (fun h => h)⟩
    have := Blk.made (w.alloc (.cells #[.bool on, .bool bc, .bool oi, .bool oo, .bool nl, .int .i64 rd, .slice p np c] 24)) [.bool false, .bool false, .bool false, .bool false, .bool false, .int .i64 0, .slice none 0 0] 24
    rw [World.size_alloc] at this; exact this
  go_enter Tryd.func16, Tryd.ntmps16
  go_wp2_with fail
  refine (CL.out _ (U1.out _ _)).mono ?_
  rintro e w5 ⟨p4, c4, rfl, t5, u5⟩
  obtain ⟨b1, b2⟩ := K1.out w5 u5
  have x1 := b1.lt
  have x2 := b2.lt
  have f1 := fun i => b1.free i
  have f2 := fun i => b2.free i
  have d0 := b1.cellAt (i := 0) (v := .bool on) rfl
  have d1 := b1.cellAt (i := 1) (v := .bool bc) rfl
  have d2 := b1.cellAt (i := 2) (v := .bool oi) rfl
  have d3 := b1.cellAt (i := 3) (v := .bool oo) rfl
  have d4 := b1.cellAt (i := 4) (v := .bool nl) rfl
  have d5 := b1.cellAt (i := 5) (v := .int .i64 rd) rfl
  have d6 := b1.cellAt (i := 6) (v := .slice p np c) rfl
  have e0 := b2.cellAt (i := 0) (v := .bool false) rfl
  have e1 := b2.cellAt (i := 1) (v := .bool false) rfl
  have e2 := b2.cellAt (i := 2) (v := .bool false) rfl
  have e3 := b2.cellAt (i := 3) (v := .bool false) rfl
  have e4 := b2.cellAt (i := 4) (v := .bool false) rfl
  have e5 := b2.cellAt (i := 5) (v := .int .i64 0) rfl
  have e6 := b2.cellAt (i := 6) (v := .slice none 0 0) rfl
  have T5 := Lib.hid t5
  have U5 := Lib.hid u5
  have B12 := Lib.hid (And.intro b1 b2)
  have UW := Lib.hid ((U1.out _ _).trans u5 (fun _ _ h => h))
  clear t5 u5 b1 b2 K1
  go_wp2
  have bF : Blk _ (w.heap.size + 1) [.bool on, .bool bc, .bool oi, .bool oo, .bool nl, .int .i64 rd, .slice p4 np c4] 24 := (((((((B12.out.2.set_other (b' := w.heap.size) (o := 6) (v := .slice p4 np c4) (by omega)).set 0 (.bool on)).set 1 (.bool bc)).set 2 (.bool oi)).set 3 (.bool oo)).set 4 (.bool nl)).set 5 (.int .i64 rd)).set 6 (.slice p4 np c4)
  have h0 := bF.cellAt (i := 0) (v := .bool on) rfl
  have h1 := bF.cellAt (i := 1) (v := .bool bc) rfl
  have h2 := bF.cellAt (i := 2) (v := .bool oi) rfl
  have h3 := bF.cellAt (i := 3) (v := .bool oo) rfl
  have h4 := bF.cellAt (i := 4) (v := .bool nl) rfl
  have h5 := bF.cellAt (i := 5) (v := .int .i64 rd) rfl
  have h6 := bF.cellAt (i := 6) (v := .slice p4 np c4) rfl
  refine bodyPost_ret (v := .agg #[.bool on, .bool bc, .bool oi, .bool oo, .bool nl, .int .i64 rd, .slice p4 np c4]) (by simp [results, Tryd.results16, go_sem, h0, h1, h2, h3, h4, h5, h6]) rfl ⟨_, rfl, ?_, ?_⟩
  · have us : Upd (fun b => b = w.heap.size ∨ b = w.heap.size + 1) w5 _ := ((((((((Upd.refl (fun b => b = w.heap.size ∨ b = w.heap.size + 1) w5).set (b := w.heap.size) (o := 6) (v := .slice p4 np c4) (fun _ => Or.inl rfl)).set (b := w.heap.size + 1) (o := 0) (v := .bool on) (fun _ => Or.inr rfl)).set (b := w.heap.size + 1) (o := 1) (v := .bool bc) (fun _ => Or.inr rfl)).set (b := w.heap.size + 1) (o := 2) (v := .bool oi) (fun _ => Or.inr rfl)).set (b := w.heap.size + 1) (o := 3) (v := .bool oo) (fun _ => Or.inr rfl)).set (b := w.heap.size + 1) (o := 4) (v := .bool nl) (fun _ => Or.inr rfl)).set (b := w.heap.size + 1) (o := 5) (v := .int .i64 rd) (fun _ => Or.inr rfl)).set (b := w.heap.size + 1) (o := 6) (v := .slice p4 np c4) (fun _ => Or.inr rfl)
    refine own_keep T5.out us (fun b hb e => ?_)
    obtain ⟨_, _, cs, hs⟩ := own_lt T5.out hb
    rcases e with rfl | rfl
    · exact absurd (B12.out.1.ty hs) (by decide)
    · exact absurd (B12.out.2.ty hs) (by decide)
  · exact ((((((((UW.out.set (fun h => absurd h (Nat.lt_irrefl _))).set (fun h => by omega)).set (fun h => by omega)).set (fun h => by omega)).set (fun h => by omega)).set (fun h => by omega)).set (fun h => by omega)).set (fun h => by omega))
end Go.Proofs.YtcpfkkbegnhofaaDoor
