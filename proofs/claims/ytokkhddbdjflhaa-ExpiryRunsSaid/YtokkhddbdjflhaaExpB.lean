/- Walks: the row of entries: which is ahead, two change places, one more, the last one goes. -/
import Derived.Test.YtokkhddbdjflhaaExpA
import Derived.Deep.RegionHeld3
set_option linter.unusedVariables false
set_option linter.unusedSimpArgs false
namespace Go.Proofs.Ytokkhddbdjflhaa
open Go.RowKit

theorem own_blk {w : World} {base n : Nat} {e : TypeId} {v : Value} {xs : List Value} (h : w.ownsRow base e 1 v n xs) : xs.length = n ∧ ((v = .slice none 0 0 ∧ n = 0) ∨ ∃ b cap cs, v = .slice (some ⟨b, 0, none⟩) n cap ∧ base ≤ b ∧ Blk w b (xs ++ cs) e ∧ n + cs.length = cap ∧ cap ≤ maxLen) := by
  obtain ⟨h0, ⟨rfl, e⟩ | ⟨g, cap, cur, rfl, hg, hh, h1, h2, h3, h4⟩⟩ := h
  · exact ⟨by simpa using h0, Or.inl ⟨rfl, e⟩⟩
  · rw [Nat.mul_one] at h0 h4
    refine ⟨h0, Or.inr ⟨g, cap, cur.toList.drop n, rfl, hg, ?_, ?_, h2⟩⟩
    · unfold Blk
      rw [← h4, List.take_append_drop]; exact hh
    · simp; omega
theorem own_of {w : World} {base b cap n : Nat} {e : TypeId} {xs cs : List Value} (hb : base ≤ b) (h : Blk w b (xs ++ cs) e) (hn : xs.length = n) (hc : n + cs.length = cap) (hm : cap ≤ maxLen) : w.ownsRow base e 1 (.slice (some ⟨b, 0, none⟩) n cap) n xs :=
  ⟨by omega, Or.inr ⟨b, cap, _, rfl, hb, h, by omega, hm, by simp; omega, by subst hn; simp⟩⟩

/-- The cells of an entry: when, which key, its place. -/
def entc (d : DueP) (i : Nat) : List Value := [.int .i64 d.1, .string d.2, .int .i64 (i : Int)]
/-- Behind xa lies a row of entries: those of the blocks bs, each of which knows its place. -/
structure RowM (w : World) (base xa : Nat) (mv v : Value) (bs : List Nat) (ent : Nat → DueP) : Prop where
  x : Blk w xa [v, mv] 58
  own : w.ownsRow base 61 1 v bs.length (bs.map ptr)
  at_ : ∀ i b, bs[i]? = some b → Blk w b (entc (ent b) i) 60
  nd : bs.Nodup
  xn : xa ∉ bs
  vx : v.ownBlock ≠ some xa
  vn : ∀ k, v.ownBlock = some k → k ∉ bs
def rowF (v : Value) (bs : List Nat) : Nat → Prop := fun k => v.ownBlock = some k ∨ k ∈ bs
section
variable {w w' : World} {base xa : Nat} {mv v : Value} {bs : List Nat} {ent : Nat → DueP}
theorem RowM.keep {F : Nat → Prop} (h : RowM w base xa mv v bs ent) (u : Upd F w w') (hx : ¬ F xa) (hF : ∀ k, rowF v bs k → ¬ F k) : RowM w' base xa mv v bs ent :=
  ⟨u.blk h.x hx, own_keep h.own u (fun k hk => hF k (Or.inl hk)), fun i b hb => u.blk (h.at_ i b hb) (hF b (Or.inr (List.mem_of_getElem? hb))), h.nd, h.xn, h.vx, h.vn⟩
theorem RowM.keep0 (h : RowM w base xa mv v bs ent) (u : Upd (fun _ => False) w w') : RowM w' base xa mv v bs ent := h.keep u (fun h => h) (fun _ _ h => h)
theorem RowM.len (h : RowM w base xa mv v bs ent) : bs.length ≤ maxLen := by obtain ⟨p, c, _, h⟩ := own_slice h.own; exact h
theorem RowM.mem (h : RowM w base xa mv v bs ent) {i : Nat} (hi : i < bs.length) : ∃ g cap cs, v = .slice (some ⟨g, 0, none⟩) bs.length cap ∧ base ≤ g ∧ Blk w g (bs.map ptr ++ cs) 61 ∧ bs.length + cs.length = cap ∧ cap ≤ maxLen ∧ g ∉ bs := by
  obtain ⟨_, ⟨_, e⟩ | ⟨b, cap, cs, e, h1, h2, h3, h4⟩⟩ := own_blk h.own
  · omega
  · exact ⟨b, cap, cs, e, h1, h2, h3, h4, h.vn b (by rw [e]; rfl)⟩
end
theorem map_at {bs : List Nat} {cs : List Value} {i b : Nat} (h : bs[i]? = some b) : (bs.map ptr ++ cs)[i]? = some (ptr b) := by
  have hi := (List.getElem?_eq_some_iff.1 h).1
  rw [List.getElem?_append_left (by simpa using hi), List.getElem?_map, h]; rfl

set_option maxHeartbeats 4000000 in
set_option maxRecDepth 100000 in
theorem less_any (base xa : Nat) (mv v : Value) (bs : List Nat) (ent : Nat → DueP) (i j bi bj : Nat) (w : World) (h : RowM w base xa mv v bs ent) (hi : bs[i]? = some bi) (hj : bs[j]? = some bj) :
    Calls Try.prog 73 #[v, .int .i64 (i : Int), .int .i64 (j : Int)] w fun e w' => e = .returned (.bool (decide (ltD (ent bi) (ent bj)))) ∧ Upd (fun _ => False) w w' := by
  have hil := (List.getElem?_eq_some_iff.1 hi).1
  have hjl := (List.getElem?_eq_some_iff.1 hj).1
  have hlm := h.len
  unfold maxLen at hlm
  obtain ⟨g, cap, cs, rfl, hg, hB, hc, hm, hgn⟩ := h.mem hil
  have c1 : w.cell? ⟨g, i, none⟩ = some (.pointer (some ⟨bi, 0, none⟩)) := hB.cellAt (map_at hi)
  have c2 : w.cell? ⟨g, j, none⟩ = some (.pointer (some ⟨bj, 0, none⟩)) := hB.cellAt (map_at hj)
  have d1 : w.cell? ⟨bi, 0, none⟩ = some (.int .i64 (ent bi).1) := (h.at_ i bi hi).cellAt rfl
  have d2 : w.cell? ⟨bi, 1, none⟩ = some (.string (ent bi).2) := (h.at_ i bi hi).cellAt rfl
  have e1 : w.cell? ⟨bj, 0, none⟩ = some (.int .i64 (ent bj).1) := (h.at_ j bj hj).cellAt rfl
  have e2 : w.cell? ⟨bj, 1, none⟩ = some (.string (ent bj).2) := (h.at_ j bj hj).cellAt rfl
  have N := Lib.hid (ord_neg (ent bi).1 (ent bi).2 (ent bj).1 (ent bj).2)
  have q1 : (i : Int) < (bs.length : Int) := by omega
  have q2 : (j : Int) < (bs.length : Int) := by omega
  obtain ⟨wi, ki, E1⟩ : ∃ a b, ent bi = (a, b) := ⟨_, _, rfl⟩
  obtain ⟨wj, kj, E2⟩ : ∃ a b, ent bj = (a, b) := ⟨_, _, rfl⟩
  rw [E1] at d1 d2 N
  rw [E2] at e1 e2 N
  rw [E1, E2]
  have KP := Lib.hid (fun (w' : World) (u : Upd (fun _ => False) w w') => (⟨(u.cell (p := ⟨g, i, none⟩) hB.lt (fun h => h)).trans c1, (u.cell (p := ⟨g, j, none⟩) hB.lt (fun h => h)).trans c2, (u.cell (p := ⟨bi, 0, none⟩) (h.at_ i bi hi).lt (fun h => h)).trans d1, (u.cell (p := ⟨bi, 1, none⟩) (h.at_ i bi hi).lt (fun h => h)).trans d2,
    (u.cell (p := ⟨bj, 0, none⟩) (h.at_ j bj hj).lt (fun h => h)).trans e1, (u.cell (p := ⟨bj, 1, none⟩) (h.at_ j bj hj).lt (fun h => h)).trans e2⟩ : w'.cell? ⟨g, i, none⟩ = some (.pointer (some ⟨bi, 0, none⟩)) ∧ w'.cell? ⟨g, j, none⟩ = some (.pointer (some ⟨bj, 0, none⟩)) ∧ w'.cell? ⟨bi, 0, none⟩ = some (.int .i64 wi) ∧ w'.cell? ⟨bi, 1, none⟩ = some (.string ki) ∧ w'.cell? ⟨bj, 0, none⟩ = some (.int .i64 wj) ∧ w'.cell? ⟨bj, 1, none⟩ = some (.string kj)))
  clear h hB hi hj hc hm hg hgn E1 E2
  go_enter Try.func73, Try.ntmps73
  go_wp2
  go_region_held3 (fun w' => w'.cell? ⟨g, i, none⟩ = some (.pointer (some ⟨bi, 0, none⟩)) ∧ w'.cell? ⟨g, j, none⟩ = some (.pointer (some ⟨bj, 0, none⟩)) ∧ w'.cell? ⟨bi, 0, none⟩ = some (.int .i64 wi) ∧ w'.cell? ⟨bi, 1, none⟩ = some (.string ki) ∧ w'.cell? ⟨bj, 0, none⟩ = some (.int .i64 wj) ∧ w'.cell? ⟨bj, 1, none⟩ = some (.string kj)) (go_keep) (first
    | (go_at_call 27; refine (order_any _ _ _ _ _).mono ?_; rintro e w' ⟨rfl, u⟩; (have y := KP.out _ (by first | exact u | exact (Upd.refl _ w).drew.trans u (fun _ _ h => h))); (have U := Lib.hid u); clear u))
  go_wp2
  go_ret
  exact ⟨congrArg (fun b => Ending.returned (.bool b)) N.out, (Upd.refl _ w).drew.trans U.out (fun _ _ h => h)⟩

theorem map_swp {bs : List Nat} {cs : List Value} {i j bi bj : Nat} (hi : bs[i]? = some bi) (hj : bs[j]? = some bj) : ((bs.map ptr ++ cs).set i (ptr bj)).set j (ptr bi) = (swp bs i j).map ptr ++ cs := by
  obtain ⟨hi1, e1⟩ := List.getElem?_eq_some_iff.1 hi
  obtain ⟨hj1, e2⟩ := List.getElem?_eq_some_iff.1 hj
  rw [swp_eq hi1 hj1, e1, e2, List.set_append_left _ _ (by simpa using hi1), List.set_append_left _ _ (by simpa using hj1), List.map_set, List.map_set]
/-- Two have changed places. -/
theorem RowM.swapped {w w' : World} {base xa : Nat} {mv v : Value} {bs : List Nat} {ent : Nat → DueP} {g cap : Nat} {cs : List Value} {i j bi bj : Nat} (h : RowM w base xa mv v bs ent) (hi : bs[i]? = some bi) (hj : bs[j]? = some bj) (hv : v = .slice (some ⟨g, 0, none⟩) bs.length cap) (hg : base ≤ g) (hc : bs.length + cs.length = cap) (hm : cap ≤ maxLen)
    (u : Upd (rowF v bs) w w') (hB : Blk w' g ((bs.map ptr ++ cs).set i (ptr bj) |>.set j (ptr bi)) 61) (h1 : Blk w' bi (entc (ent bi) j) 60) (h2 : Blk w' bj (entc (ent bj) i) 60) (h3 : ∀ b, b ∈ bs → b ≠ bi → b ≠ bj → w'.heap[b]? = w.heap[b]?) : RowM w' base xa mv v (swp bs i j) ent := by
  have hil := (List.getElem?_eq_some_iff.1 hi).1
  have hjl := (List.getElem?_eq_some_iff.1 hj).1
  have pm := swp_perm bs i j
  refine ⟨u.blk h.x (fun e => by rcases e with e | e; exact h.vx e; exact h.xn e), ?_, fun k b hk => ?_, pm.nodup_iff.2 h.nd, fun hm => h.xn (pm.mem_iff.1 hm), h.vx, fun k hk hm => h.vn k hk (pm.mem_iff.1 hm)⟩
  · rw [swp_len, hv]
    rw [map_swp hi hj] at hB
    exact own_of hg hB (by simp [swp_len]) hc hm
  · rw [swp_get hil hjl] at hk
    by_cases ki : k = i
    · rw [if_pos ki] at hk
      rw [hj] at hk; cases hk; rw [ki]; exact h2
    · rw [if_neg ki] at hk
      by_cases kj : k = j
      · rw [if_pos kj] at hk
        rw [hi] at hk; cases hk; rw [kj]; exact h1
      · rw [if_neg kj] at hk
        have hb := List.mem_of_getElem? hk
        have n1 : b ≠ bi := fun e => ki ((List.getElem?_inj (List.getElem?_eq_some_iff.1 hk).1 h.nd).1 (by rw [hk, hi, e]))
        have n2 : b ≠ bj := fun e => kj ((List.getElem?_inj (List.getElem?_eq_some_iff.1 hk).1 h.nd).1 (by rw [hk, hj, e]))
        have := h.at_ k b hk
        unfold Blk at this ⊢
        rw [h3 b hb n1 n2]; exact this
theorem swp_same {l : List Nat} {i b : Nat} (h : l[i]? = some b) : swp l i i = l := by
  obtain ⟨h1, e⟩ := List.getElem?_eq_some_iff.1 h
  rw [swp_eq h1 h1, e]; subst e; simp
set_option maxHeartbeats 4000000 in
set_option maxRecDepth 100000 in
theorem swap_any (base xa : Nat) (mv v : Value) (bs : List Nat) (ent : Nat → DueP) (i j bi bj : Nat) (w : World) (h : RowM w base xa mv v bs ent) (hi : bs[i]? = some bi) (hj : bs[j]? = some bj) :
    Calls Try.prog 74 #[v, .int .i64 (i : Int), .int .i64 (j : Int)] w fun e w' => e = .returned (.tuple #[]) ∧ RowM w' base xa mv v (swp bs i j) ent ∧ Upd (rowF v bs) w w' := by
  have hil := (List.getElem?_eq_some_iff.1 hi).1
  have hjl := (List.getElem?_eq_some_iff.1 hj).1
  have hlm := h.len
  unfold maxLen at hlm
  have H := Lib.hid h
  obtain ⟨g, cap, cs, ev, hg, hB, hc, hm, hgn⟩ := h.mem hil
  subst ev
  have c1 : w.cell? ⟨g, i, none⟩ = some (.pointer (some ⟨bi, 0, none⟩)) := hB.cellAt (map_at hi)
  have c2 : w.cell? ⟨g, j, none⟩ = some (.pointer (some ⟨bj, 0, none⟩)) := hB.cellAt (map_at hj)
  have f1 : w.frozen? ⟨g, i, none⟩ = false := hB.free i
  have f2 : w.frozen? ⟨g, j, none⟩ = false := hB.free j
  have g1 : w.frozen? ⟨bi, 2, none⟩ = false := (h.at_ i bi hi).free 2
  have g2 : w.frozen? ⟨bj, 2, none⟩ = false := (h.at_ j bj hj).free 2
  have d1 : w.cell? ⟨bi, 2, none⟩ = some (.int .i64 (i : Int)) := (h.at_ i bi hi).cellAt rfl
  have d2 : w.cell? ⟨bj, 2, none⟩ = some (.int .i64 (j : Int)) := (h.at_ j bj hj).cellAt rfl
  have q1 : (i : Int) < (bs.length : Int) := by omega
  have q2 : (j : Int) < (bs.length : Int) := by omega
  have n1 : ¬ bi = g := fun e => hgn (e ▸ List.mem_of_getElem? hi)
  have n2 : ¬ bj = g := fun e => hgn (e ▸ List.mem_of_getElem? hj)
  have n3 : ¬ g = bi := fun e => n1 e.symm
  have n4 : ¬ g = bj := fun e => n2 e.symm
  have HI := Lib.hid hi
  have HJ := Lib.hid hj
  have HB := Lib.hid hB
  have HG := Lib.hid hg
  have HC := Lib.hid hc
  have HM := Lib.hid hm
  by_cases hij : i = j
  · subst hij
    have : bi = bj := by rw [hi] at hj; exact Option.some.inj hj
    subst this
    clear h hB hi hj hc hm hg hgn
    go_enter Try.func74, Try.ntmps74
    go_wp2
    go_region
    go_wp2
    go_region
    go_wp2
    go_returns
    have hb := HB.out
    have ha := H.out.at_ i bi HI.out
    have U : Upd (rowF (.slice (some ⟨g, 0, none⟩) bs.length cap) bs) w (((((w.setCell ⟨g, i, none⟩ (.pointer (some ⟨bi, 0, none⟩))).setCell ⟨g, i, none⟩ (.pointer (some ⟨bi, 0, none⟩))).setCell ⟨bi, 2, none⟩ (.int .i64 (i : Int))).setCell ⟨bi, 2, none⟩ (.int .i64 (i : Int))).drew.drew) :=
      (((((((Upd.refl _ w).set (fun _ => Or.inl rfl)).set (fun _ => Or.inl rfl)).set (fun _ => Or.inr (List.mem_of_getElem? HI.out))).set (fun _ => Or.inr (List.mem_of_getElem? HI.out))).drew).drew)
    refine ⟨rfl, H.out.swapped (i := i) (j := i) HI.out HI.out rfl HG.out HC.out HM.out U ?_ ?_ ?_ (fun b hb h1 h2 => ?_), U⟩
    · exact (((((hb.set i (ptr bi)).set i (ptr bi)).set_other n3).set_other n3).drew).drew
    · exact ((((((ha.set_other n1).set_other n1).set 2 _).set 2 _).drew).drew : Blk _ bi (((entc (ent bi) i).set 2 (.int .i64 (i : Int))).set 2 (.int .i64 (i : Int))) _)
    · exact ((((((ha.set_other n1).set_other n1).set 2 _).set 2 _).drew).drew : Blk _ bi (((entc (ent bi) i).set 2 (.int .i64 (i : Int))).set 2 (.int .i64 (i : Int))) _)
    · have hg : b ≠ g := fun e => H.out.vn g rfl (e ▸ hb)
      show (World.setCell _ _ _).heap[b]? = _
      rw [Below.heap_setCell _ _ _ _ h1, Below.heap_setCell _ _ _ _ h1, Below.heap_setCell _ _ _ _ hg, Below.heap_setCell _ _ _ _ hg]
  · have hji : ¬ j = i := fun e => hij e.symm
    have hbb : ¬ bi = bj := fun e => hij ((List.getElem?_inj hil h.nd).1 (by rw [hi, hj, e]))
    have hbb2 : ¬ bj = bi := fun e => hbb e.symm
    clear h hB hi hj hc hm hg hgn
    go_enter Try.func74, Try.ntmps74
    go_wp2
    go_region
    go_wp2
    go_region
    go_wp2
    go_returns
    have hb := HB.out
    have ha := H.out.at_ i bi HI.out
    have hc := H.out.at_ j bj HJ.out
    have U : Upd (rowF (.slice (some ⟨g, 0, none⟩) bs.length cap) bs) w (((((w.setCell ⟨g, i, none⟩ (.pointer (some ⟨bj, 0, none⟩))).setCell ⟨g, j, none⟩ (.pointer (some ⟨bi, 0, none⟩))).setCell ⟨bj, 2, none⟩ (.int .i64 (i : Int))).setCell ⟨bi, 2, none⟩ (.int .i64 (j : Int))).drew.drew) :=
      (((((((Upd.refl _ w).set (fun _ => Or.inl rfl)).set (fun _ => Or.inl rfl)).set (fun _ => Or.inr (List.mem_of_getElem? HJ.out))).set (fun _ => Or.inr (List.mem_of_getElem? HI.out))).drew).drew)
    refine ⟨rfl, H.out.swapped (i := i) (j := j) HI.out HJ.out rfl HG.out HC.out HM.out U ?_ ?_ ?_ (fun b hb h1 h2 => ?_), U⟩
    · exact (((((hb.set i (ptr bj)).set j (ptr bi)).set_other n4).set_other n3).drew).drew
    · exact ((((((ha.set_other n1).set_other n1).set_other hbb).set 2 _).drew).drew : Blk _ bi ((entc (ent bi) i).set 2 (.int .i64 (j : Int))) _)
    · exact ((((((hc.set_other n2).set_other n2).set 2 _).set_other hbb2).drew).drew : Blk _ bj ((entc (ent bj) j).set 2 (.int .i64 (i : Int))) _)
    · have hg : b ≠ g := fun e => H.out.vn g rfl (e ▸ hb)
      show (World.setCell _ _ _).heap[b]? = _
      rw [Below.heap_setCell _ _ _ _ h1, Below.heap_setCell _ _ _ _ h2, Below.heap_setCell _ _ _ _ hg, Below.heap_setCell _ _ _ _ hg]
end Go.Proofs.Ytokkhddbdjflhaa
