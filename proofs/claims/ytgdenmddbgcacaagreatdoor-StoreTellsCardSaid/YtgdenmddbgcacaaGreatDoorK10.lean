/- Walks: the row of entries: which is ahead, two change places, one more, the last one goes. -/
import Derived.Test.YtgdenmddbgcacaaGreatDoorK09
import Derived.Deep.RegionHeld3
import Derived.Test.YtgdenmddbgcacaaGreatDoorK01
import Derived.Laws.AppendOwn
set_option linter.unusedVariables false
set_option linter.unusedSimpArgs false
namespace Go.Proofs.YtgdenmddbgcacaaGreatDoor
open Go.RowKit

theorem own_blk {w : World} {base n : Nat} {e : TypeId} {v : Value} {xs : List Value} (h : w.ownsRow base e 1 v n xs) : xs.length = n ∧ ((v = .slice none 0 0 ∧ n = 0) ∨ ∃ b cap cs, v = .slice (some ⟨b, 0, none⟩) n cap ∧ base ≤ b ∧ Blk w b (xs ++ cs) e ∧ n + cs.length = cap ∧ cap ≤ maxLen) := by
  obtain ⟨h0, ⟨rfl, e⟩ | ⟨g, cap, cur, rfl, hg, hh, h1, h2, h3, h4⟩⟩ := h
  · exact ⟨by simpa using h0, Or.inl ⟨rfl, e⟩⟩
  · rw [Nat.mul_one] at h0 h4
    refine ⟨h0, Or.inr ⟨g, cap, cur.toList.drop n, rfl, hg, ?_, ?_, h2⟩⟩
    · unfold Blk
      rw [← h4, List.take_append_drop]; exact hh
    · simp; omega
theorem own_of {w : World} {base b cap n : Nat} {e : TypeId} {xs cs : List Value} (hb : base ≤ b) (h : Blk w b (xs ++ cs) e) (hn : xs.length = n) (hc : n + cs.length = cap) (hm : cap ≤ maxLen) : w.ownsRow base e 1 (.slice (some ⟨b, 0, none⟩) n cap) n xs :=
  ⟨by omega, Or.inr ⟨b, cap, _, rfl, hb, h, by omega, hm, by simp; omega, by subst hn; simp⟩⟩

/-- The cells of an entry: when, which key, its place. -/
def entc (d : DueP) (i : Nat) : List Value := [.int .i64 d.1, .string d.2, .int .i64 (i : Int)]
/-- Behind xa lies a row of entries: those of the blocks bs, each of which knows its place. -/
structure RowM (w : World) (base xa : Nat) (mv v : Value) (bs : List Nat) (ent : Nat → DueP) : Prop where
  x : Blk w xa [v, mv] 116
  own : w.ownsRow base 140 1 v bs.length (bs.map ptr)
  at_ : ∀ i b, bs[i]? = some b → Blk w b (entc (ent b) i) 147
  nd : bs.Nodup
  xn : xa ∉ bs
  vx : v.ownBlock ≠ some xa
  vn : ∀ k, v.ownBlock = some k → k ∉ bs
def rowF (v : Value) (bs : List Nat) : Nat → Prop := fun k => v.ownBlock = some k ∨ k ∈ bs
section
variable {w w' : World} {base xa : Nat} {mv v : Value} {bs : List Nat} {ent : Nat → DueP}
theorem RowM.keep {F : Nat → Prop} (h : RowM w base xa mv v bs ent) (u : Upd F w w') (hx : ¬ F xa) (hF : ∀ k, rowF v bs k → ¬ F k) : RowM w' base xa mv v bs ent :=
  ⟨u.blk h.x hx, own_keep h.own u (fun k hk => hF k (Or.inl hk)), fun i b hb => u.blk (h.at_ i b hb) (hF b (Or.inr (List.mem_of_getElem? hb))), h.nd, h.xn, h.vx, h.vn⟩
theorem RowM.keep0 (h : RowM w base xa mv v bs ent) (u : Upd (fun _ => False) w w') : RowM w' base xa mv v bs ent := h.keep u (fun h => h) (fun _ _ h => h)
theorem RowM.len (h : RowM w base xa mv v bs ent) : bs.length ≤ maxLen := by obtain ⟨p, c, _, h⟩ := own_slice h.own; exact h
theorem RowM.mem (h : RowM w base xa mv v bs ent) {i : Nat} (hi : i < bs.length) : ∃ g cap cs, v = .slice (some ⟨g, 0, none⟩) bs.length cap ∧ base ≤ g ∧ Blk w g (bs.map ptr ++ cs) 140 ∧ bs.length + cs.length = cap ∧ cap ≤ maxLen ∧ g ∉ bs := by
  obtain ⟨_, ⟨_, e⟩ | ⟨b, cap, cs, e, h1, h2, h3, h4⟩⟩ := own_blk h.own
  · omega
  · exact ⟨b, cap, cs, e, h1, h2, h3, h4, h.vn b (by rw [e]; rfl)⟩
end
theorem map_at {bs : List Nat} {cs : List Value} {i b : Nat} (h : bs[i]? = some b) : (bs.map ptr ++ cs)[i]? = some (ptr b) := by
  have hi := (List.getElem?_eq_some_iff.1 h).1
  rw [List.getElem?_append_left (by simpa using hi), List.getElem?_map, h]; rfl

set_option maxHeartbeats 4000000 in
set_option maxRecDepth 100000 in
theorem less_any (base xa : Nat) (mv v : Value) (bs : List Nat) (ent : Nat → DueP) (i j bi bj : Nat) (w : World) (h : RowM w base xa mv v bs ent) (hi : bs[i]? = some bi) (hj : bs[j]? = some bj) :
    Calls Tryz.prog 162 #[v, .int .i64 (i : Int), .int .i64 (j : Int)] w fun e w' => e = .returned (.bool (decide (ltD (ent bi) (ent bj)))) ∧ Upd (fun _ => False) w w' := by
  have hil := (List.getElem?_eq_some_iff.1 hi).1
  have hjl := (List.getElem?_eq_some_iff.1 hj).1
  have hlm := h.len
  unfold maxLen at hlm
  obtain ⟨g, cap, cs, rfl, hg, hB, hc, hm, hgn⟩ := h.mem hil
  have c1 : w.cell? ⟨g, i, none⟩ = some (.pointer (some ⟨bi, 0, none⟩)) := hB.cellAt (map_at hi)
  have c2 : w.cell? ⟨g, j, none⟩ = some (.pointer (some ⟨bj, 0, none⟩)) := hB.cellAt (map_at hj)
  have d1 : w.cell? ⟨bi, 0, none⟩ = some (.int .i64 (ent bi).1) := (h.at_ i bi hi).cellAt rfl
  have d2 : w.cell? ⟨bi, 1, none⟩ = some (.string (ent bi).2) := (h.at_ i bi hi).cellAt rfl
  have e1 : w.cell? ⟨bj, 0, none⟩ = some (.int .i64 (ent bj).1) := (h.at_ j bj hj).cellAt rfl
  have e2 : w.cell? ⟨bj, 1, none⟩ = some (.string (ent bj).2) := (h.at_ j bj hj).cellAt rfl
  have N := Lib.hid (ord_neg (ent bi).1 (ent bi).2 (ent bj).1 (ent bj).2)
  have q1 : (i : Int) < (bs.length : Int) := by omega
  have q2 : (j : Int) < (bs.length : Int) := by omega
  obtain ⟨wi, ki, E1⟩ : ∃ a b, ent bi = (a, b) := ⟨_, _, rfl⟩
  obtain ⟨wj, kj, E2⟩ : ∃ a b, ent bj = (a, b) := ⟨_, _, rfl⟩
  rw [E1] at d1 d2 N
  rw [E2] at e1 e2 N
  rw [E1, E2]
  have KP := Lib.hid (fun (w' : World) (u : Upd (fun _ => False) w w') => (⟨(u.cell (p := ⟨g, i, none⟩) hB.lt (fun h => h)).trans c1, (u.cell (p := ⟨g, j, none⟩) hB.lt (fun h => h)).trans c2, (u.cell (p := ⟨bi, 0, none⟩) (h.at_ i bi hi).lt (fun h => h)).trans d1, (u.cell (p := ⟨bi, 1, none⟩) (h.at_ i bi hi).lt (fun h => h)).trans d2,
    (u.cell (p := ⟨bj, 0, none⟩) (h.at_ j bj hj).lt (fun h => h)).trans e1, (u.cell (p := ⟨bj, 1, none⟩) (h.at_ j bj hj).lt (fun h => h)).trans e2⟩ : w'.cell? ⟨g, i, none⟩ = some (.pointer (some ⟨bi, 0, none⟩)) ∧ w'.cell? ⟨g, j, none⟩ = some (.pointer (some ⟨bj, 0, none⟩)) ∧ w'.cell? ⟨bi, 0, none⟩ = some (.int .i64 wi) ∧ w'.cell? ⟨bi, 1, none⟩ = some (.string ki) ∧ w'.cell? ⟨bj, 0, none⟩ = some (.int .i64 wj) ∧ w'.cell? ⟨bj, 1, none⟩ = some (.string kj)))
  clear h hB hi hj hc hm hg hgn E1 E2
  go_enter Tryz.func162, Tryz.ntmps162
  go_wp2
  go_region_held3 (fun w' => w'.cell? ⟨g, i, none⟩ = some (.pointer (some ⟨bi, 0, none⟩)) ∧ w'.cell? ⟨g, j, none⟩ = some (.pointer (some ⟨bj, 0, none⟩)) ∧ w'.cell? ⟨bi, 0, none⟩ = some (.int .i64 wi) ∧ w'.cell? ⟨bi, 1, none⟩ = some (.string ki) ∧ w'.cell? ⟨bj, 0, none⟩ = some (.int .i64 wj) ∧ w'.cell? ⟨bj, 1, none⟩ = some (.string kj)) (go_keep) (first
    | (go_at_call 164; refine (order_any _ _ _ _ _).mono ?_; rintro e w' ⟨rfl, u⟩; (have y := KP.out _ (by first | exact u | exact (Upd.refl _ w).drew.trans u (fun _ _ h => h))); (have U := Lib.hid u); clear u))
  go_wp2
  go_ret
  exact ⟨congrArg (fun b => Ending.returned (.bool b)) N.out, (Upd.refl _ w).drew.trans U.out (fun _ _ h => h)⟩

theorem map_swp {bs : List Nat} {cs : List Value} {i j bi bj : Nat} (hi : bs[i]? = some bi) (hj : bs[j]? = some bj) : ((bs.map ptr ++ cs).set i (ptr bj)).set j (ptr bi) = (swp bs i j).map ptr ++ cs := by
  obtain ⟨hi1, e1⟩ := List.getElem?_eq_some_iff.1 hi
  obtain ⟨hj1, e2⟩ := List.getElem?_eq_some_iff.1 hj
  rw [swp_eq hi1 hj1, e1, e2, List.set_append_left _ _ (by simpa using hi1), List.set_append_left _ _ (by simpa using hj1), List.map_set, List.map_set]
/-- Two have changed places. -/
theorem RowM.swapped {w w' : World} {base xa : Nat} {mv v : Value} {bs : List Nat} {ent : Nat → DueP} {g cap : Nat} {cs : List Value} {i j bi bj : Nat} (h : RowM w base xa mv v bs ent) (hi : bs[i]? = some bi) (hj : bs[j]? = some bj) (hv : v = .slice (some ⟨g, 0, none⟩) bs.length cap) (hg : base ≤ g) (hc : bs.length + cs.length = cap) (hm : cap ≤ maxLen)
    (u : Upd (rowF v bs) w w') (hB : Blk w' g ((bs.map ptr ++ cs).set i (ptr bj) |>.set j (ptr bi)) 140) (h1 : Blk w' bi (entc (ent bi) j) 147) (h2 : Blk w' bj (entc (ent bj) i) 147) (h3 : ∀ b, b ∈ bs → b ≠ bi → b ≠ bj → w'.heap[b]? = w.heap[b]?) : RowM w' base xa mv v (swp bs i j) ent := by
  have hil := (List.getElem?_eq_some_iff.1 hi).1
  have hjl := (List.getElem?_eq_some_iff.1 hj).1
  have pm := swp_perm bs i j
  refine ⟨u.blk h.x (fun e => by rcases e with e | e; exact h.vx e; exact h.xn e), ?_, fun k b hk => ?_, pm.nodup_iff.2 h.nd, fun hm => h.xn (pm.mem_iff.1 hm), h.vx, fun k hk hm => h.vn k hk (pm.mem_iff.1 hm)⟩
  · rw [swp_len, hv]
    rw [map_swp hi hj] at hB
    exact own_of hg hB (by simp [swp_len]) hc hm
  · rw [swp_get hil hjl] at hk
    by_cases ki : k = i
    · rw [if_pos ki] at hk
      rw [hj] at hk; cases hk; rw [ki]; exact h2
    · rw [if_neg ki] at hk
      by_cases kj : k = j
      · rw [if_pos kj] at hk
        rw [hi] at hk; cases hk; rw [kj]; exact h1
      · rw [if_neg kj] at hk
        have hb := List.mem_of_getElem? hk
        have n1 : b ≠ bi := fun e => ki ((List.getElem?_inj (List.getElem?_eq_some_iff.1 hk).1 h.nd).1 (by rw [hk, hi, e]))
        have n2 : b ≠ bj := fun e => kj ((List.getElem?_inj (List.getElem?_eq_some_iff.1 hk).1 h.nd).1 (by rw [hk, hj, e]))
        have := h.at_ k b hk
        unfold Blk at this ⊢
        rw [h3 b hb n1 n2]; exact this
theorem swp_same {l : List Nat} {i b : Nat} (h : l[i]? = some b) : swp l i i = l := by
  obtain ⟨h1, e⟩ := List.getElem?_eq_some_iff.1 h
  rw [swp_eq h1 h1, e]; subst e; simp
set_option maxHeartbeats 4000000 in
set_option maxRecDepth 100000 in
theorem swap_any (base xa : Nat) (mv v : Value) (bs : List Nat) (ent : Nat → DueP) (i j bi bj : Nat) (w : World) (h : RowM w base xa mv v bs ent) (hi : bs[i]? = some bi) (hj : bs[j]? = some bj) :
    Calls Tryz.prog 163 #[v, .int .i64 (i : Int), .int .i64 (j : Int)] w fun e w' => e = .returned (.tuple #[]) ∧ RowM w' base xa mv v (swp bs i j) ent ∧ Upd (rowF v bs) w w' := by
  have hil := (List.getElem?_eq_some_iff.1 hi).1
  have hjl := (List.getElem?_eq_some_iff.1 hj).1
  have hlm := h.len
  unfold maxLen at hlm
  have H := Lib.hid h
  obtain ⟨g, cap, cs, ev, hg, hB, hc, hm, hgn⟩ := h.mem hil
  subst ev
  have c1 : w.cell? ⟨g, i, none⟩ = some (.pointer (some ⟨bi, 0, none⟩)) := hB.cellAt (map_at hi)
  have c2 : w.cell? ⟨g, j, none⟩ = some (.pointer (some ⟨bj, 0, none⟩)) := hB.cellAt (map_at hj)
  have f1 : w.frozen? ⟨g, i, none⟩ = false := hB.free i
  have f2 : w.frozen? ⟨g, j, none⟩ = false := hB.free j
  have g1 : w.frozen? ⟨bi, 2, none⟩ = false := (h.at_ i bi hi).free 2
  have g2 : w.frozen? ⟨bj, 2, none⟩ = false := (h.at_ j bj hj).free 2
  have d1 : w.cell? ⟨bi, 2, none⟩ = some (.int .i64 (i : Int)) := (h.at_ i bi hi).cellAt rfl
  have d2 : w.cell? ⟨bj, 2, none⟩ = some (.int .i64 (j : Int)) := (h.at_ j bj hj).cellAt rfl
  have q1 : (i : Int) < (bs.length : Int) := by omega
  have q2 : (j : Int) < (bs.length : Int) := by omega
  have n1 : ¬ bi = g := fun e => hgn (e ▸ List.mem_of_getElem? hi)
  have n2 : ¬ bj = g := fun e => hgn (e ▸ List.mem_of_getElem? hj)
  have n3 : ¬ g = bi := fun e => n1 e.symm
  have n4 : ¬ g = bj := fun e => n2 e.symm
  have HI := Lib.hid hi
  have HJ := Lib.hid hj
  have HB := Lib.hid hB
  have HG := Lib.hid hg
  have HC := Lib.hid hc
  have HM := Lib.hid hm
  by_cases hij : i = j
  · subst hij
    have : bi = bj := by rw [hi] at hj; exact Option.some.inj hj
    subst this
    clear h hB hi hj hc hm hg hgn
    go_enter Tryz.func163, Tryz.ntmps163
    go_wp2
    go_region
    go_wp2
    go_region
    go_wp2
    go_returns
    have hb := HB.out
    have ha := H.out.at_ i bi HI.out
    have U : Upd (rowF (.slice (some ⟨g, 0, none⟩) bs.length cap) bs) w (((((w.setCell ⟨g, i, none⟩ (.pointer (some ⟨bi, 0, none⟩))).setCell ⟨g, i, none⟩ (.pointer (some ⟨bi, 0, none⟩))).setCell ⟨bi, 2, none⟩ (.int .i64 (i : Int))).setCell ⟨bi, 2, none⟩ (.int .i64 (i : Int))).drew.drew) :=
      (((((((Upd.refl _ w).set (fun _ => Or.inl rfl)).set (fun _ => Or.inl rfl)).set (fun _ => Or.inr (List.mem_of_getElem? HI.out))).set (fun _ => Or.inr (List.mem_of_getElem? HI.out))).drew).drew)
    refine ⟨rfl, H.out.swapped (i := i) (j := i) HI.out HI.out rfl HG.out HC.out HM.out U ?_ ?_ ?_ (fun b hb h1 h2 => ?_), U⟩
    · exact (((((hb.set i (ptr bi)).set i (ptr bi)).set_other n3).set_other n3).drew).drew
    · exact ((((((ha.set_other n1).set_other n1).set 2 _).set 2 _).drew).drew : Blk _ bi (((entc (ent bi) i).set 2 (.int .i64 (i : Int))).set 2 (.int .i64 (i : Int))) _)
    · exact ((((((ha.set_other n1).set_other n1).set 2 _).set 2 _).drew).drew : Blk _ bi (((entc (ent bi) i).set 2 (.int .i64 (i : Int))).set 2 (.int .i64 (i : Int))) _)
    · have hg : b ≠ g := fun e => H.out.vn g rfl (e ▸ hb)
      show (World.setCell _ _ _).heap[b]? = _
      rw [Below.heap_setCell _ _ _ _ h1, Below.heap_setCell _ _ _ _ h1, Below.heap_setCell _ _ _ _ hg, Below.heap_setCell _ _ _ _ hg]
  · have hji : ¬ j = i := fun e => hij e.symm
    have hbb : ¬ bi = bj := fun e => hij ((List.getElem?_inj hil h.nd).1 (by rw [hi, hj, e]))
    have hbb2 : ¬ bj = bi := fun e => hbb e.symm
    clear h hB hi hj hc hm hg hgn
    go_enter Tryz.func163, Tryz.ntmps163
    go_wp2
    go_region
    go_wp2
    go_region
    go_wp2
    go_returns
    have hb := HB.out
    have ha := H.out.at_ i bi HI.out
    have hc := H.out.at_ j bj HJ.out
    have U : Upd (rowF (.slice (some ⟨g, 0, none⟩) bs.length cap) bs) w (((((w.setCell ⟨g, i, none⟩ (.pointer (some ⟨bj, 0, none⟩))).setCell ⟨g, j, none⟩ (.pointer (some ⟨bi, 0, none⟩))).setCell ⟨bj, 2, none⟩ (.int .i64 (i : Int))).setCell ⟨bi, 2, none⟩ (.int .i64 (j : Int))).drew.drew) :=
      (((((((Upd.refl _ w).set (fun _ => Or.inl rfl)).set (fun _ => Or.inl rfl)).set (fun _ => Or.inr (List.mem_of_getElem? HJ.out))).set (fun _ => Or.inr (List.mem_of_getElem? HI.out))).drew).drew)
    refine ⟨rfl, H.out.swapped (i := i) (j := j) HI.out HJ.out rfl HG.out HC.out HM.out U ?_ ?_ ?_ (fun b hb h1 h2 => ?_), U⟩
    · exact (((((hb.set i (ptr bj)).set j (ptr bi)).set_other n4).set_other n3).drew).drew
    · exact ((((((ha.set_other n1).set_other n1).set_other hbb).set 2 _).drew).drew : Blk _ bi ((entc (ent bi) i).set 2 (.int .i64 (j : Int))) _)
    · exact ((((((hc.set_other n2).set_other n2).set 2 _).set_other hbb2).drew).drew : Blk _ bj ((entc (ent bj) j).set 2 (.int .i64 (i : Int))) _)
    · have hg : b ≠ g := fun e => H.out.vn g rfl (e ▸ hb)
      show (World.setCell _ _ _).heap[b]? = _
      rw [Below.heap_setCell _ _ _ _ h1, Below.heap_setCell _ _ _ _ h2, Below.heap_setCell _ _ _ _ hg, Below.heap_setCell _ _ _ _ hg]
end Go.Proofs.YtgdenmddbgcacaaGreatDoor
/- The methods of the row, called through the heap's interface. -/
set_option linter.unusedVariables false
set_option linter.unusedSimpArgs false
namespace Go.Proofs.YtgdenmddbgcacaaGreatDoor
open Go.RowKit
theorem chkNil (a : Addr) (s t : ByteArray) (w : World) : (Builtin.ssaWrapNilChk_ #[143] 143 #[.pointer (some a), .string s, .string t]).run Tryz.prog w = .ok (.pointer (some a)) w := by
  kernel_rfl
theorem rcvRow (a : Addr) (w : World) (o : Option String) (v : Value) (h : (loadVar 114 a).run Tryz.prog w = .ok v w) : (receiverAt 143 (.val (.pointer (some a))) false o).run Tryz.prog w = .ok v w := by
  unfold receiverAt
  cases o <;> simp [run_underlying Tryz.underlying143, Place.get, strVal, chkNil, Result.andThen, asAddr, h]
theorem loadRow (xa : Nat) (p : Option Addr) (n c : Nat) (w : World) (h : w.cell? ⟨xa, 0, none⟩ = some (.slice p n c)) : (loadVar 114 ⟨xa, 0, none⟩).run Tryz.prog w = .ok (.slice p n c) w := by
  simp [go_sem, h, loadVar, run_underlying Tryz.underlying114]
theorem typeInfo_run {P : Program} {t : TypeId} {i : TypeInfo} (h : P.info? t = some i) (w : World) : (typeInfo t).run P w = .ok i w := by
  simp [typeInfo, h]
theorem methRow (k : Nat) (nm : String) (f : FuncId) (hf : ((Tryz.prog.info? 143).bind fun i => (i.methods.find? (·.name == nm)).map fun m => (m.path, m.func)) = some (#[], some (f, false))) (xa : Nat) (p : Option Addr) (n c : Nat) (w : World) (h : w.cell? ⟨xa, 0, none⟩ = some (.slice p n c)) :
    (method (k + 1) 143 (.pointer (some ⟨xa, 0, none⟩)) nm).run Tryz.prog w = .ok (f, .slice p n c) w := by
  obtain ⟨i, hi, hm⟩ := Option.bind_eq_some_iff.1 hf
  obtain ⟨m, h1, h2⟩ := Option.map_eq_some_iff.1 hm
  have h3 : m.func = some (f, false) := congrArg Prod.snd h2
  replace h2 : m.path = #[] := congrArg Prod.fst h2
  rw [method]
  simp only [Sem.run_bind, typeInfo_run hi, Result.andThen, h1, h2, h3, follow, Sem.run_pure]
  simp [rcvRow _ w _ _ (loadRow xa p n c w h), Result.andThen, follow]
theorem meth_less (xa : Nat) (p : Option Addr) (n c : Nat) (w : World) (h : w.cell? ⟨xa, 0, none⟩ = some (.slice p n c)) : (method 341 143 (.pointer (some ⟨xa, 0, none⟩)) "Less").run Tryz.prog w = .ok (162, .slice p n c) w := methRow 340 _ _ (by kernel_rfl) xa p n c w h
theorem meth_swap (xa : Nat) (p : Option Addr) (n c : Nat) (w : World) (h : w.cell? ⟨xa, 0, none⟩ = some (.slice p n c)) : (method 341 143 (.pointer (some ⟨xa, 0, none⟩)) "Swap").run Tryz.prog w = .ok (163, .slice p n c) w := methRow 340 _ _ (by kernel_rfl) xa p n c w h
theorem meth_len (xa : Nat) (p : Option Addr) (n c : Nat) (w : World) (h : w.cell? ⟨xa, 0, none⟩ = some (.slice p n c)) : (method 341 143 (.pointer (some ⟨xa, 0, none⟩)) "Len").run Tryz.prog w = .ok (161, .slice p n c) w := methRow 340 _ _ (by kernel_rfl) xa p n c w h
theorem meth_pop (a : Addr) (w : World) : (method 341 143 (.pointer (some a)) "Pop").run Tryz.prog w = .ok (169, .pointer (some a)) w := by kernel_rfl
theorem meth_push (a : Addr) (w : World) : (method 341 143 (.pointer (some a)) "Push").run Tryz.prog w = .ok (170, .pointer (some a)) w := by kernel_rfl
end Go.Proofs.YtgdenmddbgcacaaGreatDoor
/- Walks: container/heap over the row of entries: up, down. -/
set_option linter.unusedVariables false
set_option linter.unusedSimpArgs false
namespace Go.Proofs.YtgdenmddbgcacaaGreatDoor
open Go.RowKit

def hv (xa : Nat) : Value := .iface 143 (.pointer (some ⟨xa, 0, none⟩))
def eo (ent : Nat → DueP) (bs : List Nat) : Nat → DueP := fun k => ent ((bs[k]?).getD 0)
theorem eo_at {ent : Nat → DueP} {bs : List Nat} {i b : Nat} (h : bs[i]? = some b) : eo ent bs i = ent b := by unfold eo; rw [h]; rfl
theorem eo_swp {ent : Nat → DueP} {bs : List Nat} {i j : Nat} (hi : i < bs.length) (hj : j < bs.length) : eo ent (swp bs i j) = Pq.sw (eo ent bs) i j := by
  funext k
  unfold eo Pq.sw
  rw [swp_get hi hj]
  split
  · rfl
  · split <;> rfl
theorem rowF_perm {v : Value} {bs bs' : List Nat} (h : bs'.Perm bs) {k : Nat} (hk : rowF v bs' k) : rowF v bs k := by
  rcases hk with hk | hk
  · exact Or.inl hk
  · exact Or.inr (h.mem_iff.1 hk)
/-- The row is in a heap's order again. -/
def Heaped (base xa : Nat) (mv v : Value) (bs : List Nat) (ent : Nat → DueP) (n : Nat) (w w' : World) : Prop := ∃ bs', RowM w' base xa mv v bs' ent ∧ bs'.Perm bs ∧ Pq.Heap leD (eo ent bs') n ∧ (∀ k, n ≤ k → bs'[k]? = bs[k]?) ∧ Upd (rowF v bs) w w'
theorem swp_above {l : List Nat} {i j n k : Nat} (hi : i < n) (hj : j < n) (hk : n ≤ k) : (swp l i j)[k]? = l[k]? := by
  unfold swp; split
  · rw [List.getElem?_set_ne (by omega), List.getElem?_set_ne (by omega)]
  · rfl
set_option maxHeartbeats 4000000 in
set_option maxRecDepth 100000 in
theorem up_any (base xa : Nat) (mv v : Value) (bs : List Nat) (ent : Nat → DueP) (n j : Nat) (w : World) (h : RowM w base xa mv v bs ent) (hj : j < n) (hn : n ≤ bs.length) (hu : Pq.UpOk leD (eo ent bs) n j) :
    Calls Tryz.prog 105 #[hv xa, .int .i64 (j : Int)] w fun e w' => e = .returned (.tuple #[]) ∧ Heaped base xa mv v bs ent n w w' := by
  unfold hv
  have hlm := h.len
  unfold maxLen at hlm
  obtain ⟨g, cap, cs, ev, hg, hB, hc, hm, hgn⟩ := h.mem (i := j) (by omega)
  have EV := Lib.hid (show v = v from rfl)
  subst ev
  have H := Lib.hid h
  have HU := Lib.hid hu
  have HN := Lib.hid hn
  clear h hu hB hg hc hm hgn
  go_enter Tryz.func105, Tryz.ntmps105
  go_wp2
  go_loopw [1] (fun x1 wr => ∃ (bs' : List Nat) (j : Nat), x1 = .int .i64 (j : Int) ∧ j < n ∧ Hid (RowM wr base xa mv (.slice (some ⟨g, 0, none⟩) bs.length cap) bs' ent) ∧ Hid (bs'.Perm bs) ∧ Hid (Pq.UpOk leD (eo ent bs') n j) ∧ Hid (∀ k, n ≤ k → bs'[k]? = bs[k]?) ∧ Hid (Upd (rowF (.slice (some ⟨g, 0, none⟩) bs.length cap) bs) w wr)) (fun x1 _ => (intOf x1).toNat)
  case atStart => exact ⟨bs, j, rfl, hj, H, Lib.hid (List.Perm.refl _), HU, Lib.hid (fun _ _ => rfl), Lib.hid (Upd.refl _ _)⟩
  case round =>
    clear H HU hj
    obtain ⟨bs', j, rfl, hj, H, PM, HU, HA, U⟩ := hrel
    by_cases h0 : j = 0
    · subst h0
      go_wp2
      go_returns
      exact ⟨rfl, bs', H.out, PM.out, HU.out.done0, HA.out, U.out⟩
    · have hlen : bs'.length = bs.length := PM.out.length_eq
      have hjl : j < bs'.length := by have := HN.out; omega
      obtain ⟨i, hi⟩ : ∃ i, (j - 1) / 2 = i := ⟨_, rfl⟩
      have hil : i < bs'.length := by omega
      have hij : i < j := by omega
      have hq : ((j : Int) - 1) / 2 = (i : Int) := by omega
      have hj1 : (0 : Int) ≤ (j : Int) - 1 := by omega
      have hj2 : (j : Int) ≤ 9223372036854775807 := by have := HN.out; omega
      have hj3 : ((i : Int) == (j : Int)) = false := by simp; omega
      have LS := Lib.hid (less_any base xa mv _ bs' ent j i bs'[j] bs'[i] wr H.out (List.getElem?_eq_getElem hjl) (List.getElem?_eq_getElem hil))
      have ML := meth_less xa _ _ _ wr (H.out.x.cellAt (i := 0) rfl)
      have HI := Lib.hid hi
      have HIJ := Lib.hid (And.intro hij hj)
      have HL := Lib.hid hlen
      have e1 : eo ent bs' j = ent bs'[j] := eo_at (List.getElem?_eq_getElem hjl)
      have e2 : eo ent bs' i = ent bs'[i] := eo_at (List.getElem?_eq_getElem hil)
      by_cases hlt : ltD (ent bs'[j]) (ent bs'[i])
      · have D : decide (ltD (ent bs'[j]) (ent bs'[i])) = true := decide_eq_true hlt
        rw [D] at LS
        have ST := Lib.hid (HU.out.step leD_trans (by omega) hj (by rw [hi, e1, e2]; exact leD_lt hlt))
        rw [hi, ← eo_swp hil hjl] at ST
        have GI := Lib.hid (And.intro hil hjl)
        clear hi hij hj hlen D hlt e1 e2 h0 hil hjl HU
        go_wp2_with fail
        refine (LS.out).mono ?_
        rintro e w2 ⟨rfl, u2⟩
        have H2 := Lib.hid (H.out.keep0 u2)
        have U2 := Lib.hid (U.out.trans u2 (fun _ _ h => h.elim))
        have MS := meth_swap xa _ _ _ w2 (H2.out.x.cellAt (i := 0) rfl)
        have SW := Lib.hid (swap_any base xa mv _ bs' ent i j _ _ w2 H2.out (List.getElem?_eq_getElem GI.out.1) (List.getElem?_eq_getElem GI.out.2))
        clear u2 ML LS H U
        go_wp2_with fail
        refine (SW.out).mono ?_
        rintro e w3 ⟨rfl, h3, u3⟩
        have H3 := Lib.hid h3
        have U3 := Lib.hid (U2.out.trans u3 (fun k _ hk => rowF_perm PM.out hk))
        clear h3 u3 MS
        go_wp2
        go_roundw
        case rel => exact ⟨swp bs' i j, i, rfl, by have := HIJ.out; omega, H3, Lib.hid ((swp_perm _ _ _).trans PM.out), ST, Lib.hid (fun k hk => (swp_above (by have := HIJ.out; omega) (by have := HIJ.out; omega) hk).trans (HA.out k hk)), U3⟩
        case measure => have := HIJ.out; simp [intOf]; omega
      · have D : decide (ltD (ent bs'[j]) (ent bs'[i])) = false := decide_eq_false hlt
        rw [D] at LS
        have DN := Lib.hid (HU.out.done (by rw [hi, e1, e2]; exact hlt))
        clear hi hij hj hlen D hlt e1 e2 h0 hil hjl HU
        go_wp2_with fail
        refine (LS.out).mono ?_
        rintro e w2 ⟨rfl, u2⟩
        have H2 := Lib.hid (H.out.keep0 u2)
        have U2 := Lib.hid (U.out.trans u2 (fun _ _ h => h.elim))
        clear u2 ML
        go_wp2
        go_returns
        exact ⟨rfl, bs', H2.out, PM.out, DN.out, HA.out, U2.out⟩
end Go.Proofs.YtgdenmddbgcacaaGreatDoor
/- Walks: container/heap over the row of entries: down. -/
set_option linter.unusedVariables false
set_option linter.unusedSimpArgs false
namespace Go.Proofs.YtgdenmddbgcacaaGreatDoor
open Go.RowKit

theorem down_end {e : Nat → DueP} {n i0 i : Nat} (h : Pq.DownOk leD e n i0 i) (hc : ∀ k, 0 < k → k < n → (k - 1) / 2 = i → leD (e i) (e k)) :
    (decide (i0 < i) = true → Pq.Heap leD e n) ∧ (decide (i0 < i) = false → Pq.UpOk leD e n i0) := by
  refine ⟨fun hd => h.heap (by simp at hd; omega) hc, fun hd => ?_⟩
  have : i = i0 := by have := h.1; simp at hd; omega
  subst this
  exact h.up hc
/-- One has gone down; has it gone at all? -/
def Downed (base xa : Nat) (mv v : Value) (bs : List Nat) (ent : Nat → DueP) (n i0 : Nat) (w : World) (e : Ending) (w' : World) : Prop := ∃ (b : Bool) (bs' : List Nat), e = .returned (.bool b) ∧ RowM w' base xa mv v bs' ent ∧ bs'.Perm bs ∧ (b = true → Pq.Heap leD (eo ent bs') n) ∧ (b = false → Pq.UpOk leD (eo ent bs') n i0) ∧ (∀ k, n ≤ k → bs'[k]? = bs[k]?) ∧ Upd (rowF v bs) w w'
set_option maxHeartbeats 4000000 in
set_option maxRecDepth 100000 in
theorem down_any (base xa : Nat) (mv v : Value) (bs : List Nat) (ent : Nat → DueP) (n i0 : Nat) (w : World) (h : RowM w base xa mv v bs ent) (hi0 : i0 < bs.length) (hn : n ≤ bs.length) (hb0 : bs.length ≤ 1000000) (hd : Pq.DownOk leD (eo ent bs) n i0 i0) :
    Calls Tryz.prog 104 #[hv xa, .int .i64 (i0 : Int), .int .i64 (n : Int)] w (Downed base xa mv v bs ent n i0 w) := by
  unfold hv Downed
  have hlm := h.len
  unfold maxLen at hlm
  obtain ⟨g, cap, cs, ev, hg, hB, hc, hm, hgn⟩ := h.mem (i := i0) (by omega)
  have hcap : (bs.length : Int) ≤ 1000000 := by omega
  subst ev
  have H := Lib.hid h
  have HD := Lib.hid hd
  have HN := Lib.hid hn
  have HI0 := Lib.hid hi0
  clear h hd hB hg hc hm hgn
  go_enter Tryz.func104, Tryz.ntmps104
  go_wp2
  go_loopw [7] (fun x7 wr => ∃ (bs' : List Nat) (i : Nat), x7 = .int .i64 (i : Int) ∧ Hid (i < bs.length) ∧ Hid (RowM wr base xa mv (.slice (some ⟨g, 0, none⟩) bs.length cap) bs' ent) ∧ Hid (bs'.Perm bs) ∧ Hid (Pq.DownOk leD (eo ent bs') n i0 i) ∧ Hid (∀ k, n ≤ k → bs'[k]? = bs[k]?) ∧ Hid (Upd (rowF (.slice (some ⟨g, 0, none⟩) bs.length cap) bs) w wr)) (fun x7 _ => n - (intOf x7).toNat)
  case atStart => exact ⟨bs, i0, rfl, HI0, H, Lib.hid (List.Perm.refl _), HD, Lib.hid (fun _ _ => rfl), Lib.hid (Upd.refl _ _)⟩
  case round =>
    clear H HD hi0
    obtain ⟨bs', i, rfl, HI, H, PM, HD, HA, U⟩ := hrel
    have hil := HI.out
    have hib : (i : Int) ≤ 1000000 := by omega
    have hi00 : (0 : Int) ≤ (i : Int) := by omega
    have s1 : decide (2 * (i : Int) + 1 < 0) = false := decide_eq_false (by omega)
    by_cases hn1 : n ≤ 2 * i + 1
    · have s2 : decide ((n : Int) ≤ 2 * (i : Int) + 1) = true := decide_eq_true (by omega)
      have ED := Lib.hid (down_end HD.out (fun k h0 h1 h2 => by omega))
      go_wp2
      go_ret
      exact ⟨_, bs', rfl, H.out, PM.out, ED.out.1, ED.out.2, HA.out, U.out⟩
    · have hlen : bs'.length = bs.length := PM.out.length_eq
      have hnn := HN.out
      have hil : i < bs'.length := by omega
      have s2 : decide ((n : Int) ≤ 2 * (i : Int) + 1) = false := decide_eq_false (by omega)
      by_cases hn2 : 2 * i + 2 < n
      · have s3 : decide (2 * (i : Int) + 1 + 1 < (n : Int)) = true := decide_eq_true (by omega)
        have h1l : 2 * i + 1 < bs'.length := by omega
        have h2l : 2 * i + 2 < bs'.length := by omega
        have L0 := less_any base xa mv _ bs' ent (2 * i + 2) (2 * i + 1) bs'[2 * i + 2] bs'[2 * i + 1] wr H.out (List.getElem?_eq_getElem h2l) (List.getElem?_eq_getElem h1l)
        rw [show ((2 * i + 2 : Nat) : Int) = 2 * (i : Int) + 1 + 1 by omega, show ((2 * i + 1 : Nat) : Int) = 2 * (i : Int) + 1 by omega] at L0
        have M1 := meth_less xa _ _ _ wr (H.out.x.cellAt (i := 0) rfl)
        have E1 := eo_at (ent := ent) (List.getElem?_eq_getElem h1l)
        have E2 := eo_at (ent := ent) (List.getElem?_eq_getElem h2l)
        by_cases hl1 : ltD (ent bs'[2 * i + 2]) (ent bs'[2 * i + 1])
        · have MIN : Hid (∀ k, 0 < k → k < n → (k - 1) / 2 = i → leD (eo ent bs' (2 * i + 2)) (eo ent bs' k)) := by
            intro k k0 k1 k2
            rcases (show k = 2 * i + 1 ∨ k = 2 * i + 2 by omega) with rfl | rfl
            · rw [E1, E2]; exact leD_lt hl1
            · exact leD_refl _
          have D1 : decide (ltD (ent bs'[2 * i + 2]) (ent bs'[2 * i + 1])) = true := decide_eq_true hl1
          rw [D1] at L0
          have L1 := Lib.hid L0
          have hjl := h2l
          have HO := Lib.hid (And.intro hlen (And.intro hnn (And.intro hil hjl)))
          clear hlen E1 E2 D1 hl1 L0
          go_wp2_with fail
          refine (L1.out).mono ?_
          rintro e w2 ⟨rfl, u2⟩
          have H2 := Lib.hid (H.out.keep0 u2)
          have U2 := Lib.hid (U.out.trans u2 (fun _ _ h => h.elim))
          clear u2 M1 L1
          obtain ⟨hlen, hnn, hil, hjl⟩ := HO.out
          have L0 := less_any base xa mv _ bs' ent (2 * i + 2) i bs'[2 * i + 2] bs'[i] w2 H2.out (List.getElem?_eq_getElem hjl) (List.getElem?_eq_getElem hil)
          rw [show ((2 * i + 2 : Nat) : Int) = 2 * (i : Int) + 1 + 1 by omega] at L0
          have ML := meth_less xa _ _ _ w2 (H2.out.x.cellAt (i := 0) rfl)
          by_cases hlt : ltD (ent bs'[2 * i + 2]) (ent bs'[i])
          · have D : decide (ltD (ent bs'[2 * i + 2]) (ent bs'[i])) = true := decide_eq_true hlt
            rw [D] at L0
            have LS := Lib.hid L0
            have ST := Lib.hid (HD.out.step leD_trans (j := 2 * i + 2) (by omega) (by omega) (by omega) (by rw [eo_at (List.getElem?_eq_getElem hjl), eo_at (List.getElem?_eq_getElem hil)]; exact leD_lt hlt) MIN.out)
            rw [← eo_swp hil hjl] at ST
            have SW0 := fun (v : World) (u : Upd (fun _ => False) w2 v) => swap_any base xa mv _ bs' ent i (2 * i + 2) _ _ v (H2.out.keep0 u) (List.getElem?_eq_getElem hil) (List.getElem?_eq_getElem hjl)
            rw [show ((2 * i + 2 : Nat) : Int) = 2 * (i : Int) + 1 + 1 by omega] at SW0
            have SWH := Lib.hid SW0
            have MSH := Lib.hid (fun (v : World) (u : Upd (fun _ => False) w2 v) => meth_swap xa _ _ _ v ((H2.out.keep0 u).x.cellAt (i := 0) rfl))
            have GO := Lib.hid (show 2 * i + 2 < bs.length ∧ i < 2 * i + 2 ∧ i < n ∧ 2 * i + 2 < n by omega)
            clear hlen D hlt HD MIN L0 SW0
            go_wp2_with fail
            refine (LS.out).mono ?_
            rintro e w3 ⟨rfl, u3⟩
            have MS := MSH.out _ u3
            have SW := Lib.hid (SWH.out _ u3)
            have U3 := Lib.hid (U2.out.trans u3 (fun _ _ h => h.elim))
            clear u3 ML LS
            go_wp2_with fail
            refine (SW.out).mono ?_
            rintro e w4 ⟨rfl, h4, u4⟩
            have H4 := Lib.hid h4
            have U4 := Lib.hid (U3.out.trans u4 (fun k _ hk => rowF_perm PM.out hk))
            clear h4 u4 MS
            go_wp2
            go_roundw
            case rel => exact ⟨swp bs' i (2 * i + 2), 2 * i + 2, by go_num, Lib.hid GO.out.1, H4, Lib.hid ((swp_perm _ _ _).trans PM.out), ST, Lib.hid (fun k hk => (swp_above GO.out.2.2.1 GO.out.2.2.2 hk).trans (HA.out k hk)), U4⟩
            case measure => have := GO.out; simp [intOf]; omega
          · have D : decide (ltD (ent bs'[2 * i + 2]) (ent bs'[i])) = false := decide_eq_false hlt
            rw [D] at L0
            have LS := Lib.hid L0
            have ED := Lib.hid (down_end HD.out (fun k h0 h1 h2 => leD_trans _ _ _ (show leD (eo ent bs' i) (eo ent bs' (2 * i + 2)) by rw [eo_at (List.getElem?_eq_getElem hjl), eo_at (List.getElem?_eq_getElem hil)]; exact hlt) (MIN.out k h0 h1 h2)))
            clear hlen D hlt HD MIN L0
            go_wp2_with fail
            refine (LS.out).mono ?_
            rintro e w3 ⟨rfl, u3⟩
            have H3 := Lib.hid (H2.out.keep0 u3)
            have U3 := Lib.hid (U2.out.trans u3 (fun _ _ h => h.elim))
            clear u3 ML LS
            go_wp2
            go_ret
            exact ⟨_, bs', rfl, H3.out, PM.out, ED.out.1, ED.out.2, HA.out, U3.out⟩
        · have MIN : Hid (∀ k, 0 < k → k < n → (k - 1) / 2 = i → leD (eo ent bs' (2 * i + 1)) (eo ent bs' k)) := by
            intro k k0 k1 k2
            rcases (show k = 2 * i + 1 ∨ k = 2 * i + 2 by omega) with rfl | rfl
            · exact leD_refl _
            · rw [E1, E2]; exact hl1
          have D1 : decide (ltD (ent bs'[2 * i + 2]) (ent bs'[2 * i + 1])) = false := decide_eq_false hl1
          rw [D1] at L0
          have L1 := Lib.hid L0
          have hjl := h1l
          have HO := Lib.hid (And.intro hlen (And.intro hnn (And.intro hil hjl)))
          clear hlen E1 E2 D1 hl1 L0
          go_wp2_with fail
          refine (L1.out).mono ?_
          rintro e w2 ⟨rfl, u2⟩
          have H2 := Lib.hid (H.out.keep0 u2)
          have U2 := Lib.hid (U.out.trans u2 (fun _ _ h => h.elim))
          clear u2 M1 L1
          obtain ⟨hlen, hnn, hil, hjl⟩ := HO.out
          have L0 := less_any base xa mv _ bs' ent (2 * i + 1) i bs'[2 * i + 1] bs'[i] w2 H2.out (List.getElem?_eq_getElem hjl) (List.getElem?_eq_getElem hil)
          rw [show ((2 * i + 1 : Nat) : Int) = 2 * (i : Int) + 1 by omega] at L0
          have ML := meth_less xa _ _ _ w2 (H2.out.x.cellAt (i := 0) rfl)
          by_cases hlt : ltD (ent bs'[2 * i + 1]) (ent bs'[i])
          · have D : decide (ltD (ent bs'[2 * i + 1]) (ent bs'[i])) = true := decide_eq_true hlt
            rw [D] at L0
            have LS := Lib.hid L0
            have ST := Lib.hid (HD.out.step leD_trans (j := 2 * i + 1) (by omega) (by omega) (by omega) (by rw [eo_at (List.getElem?_eq_getElem hjl), eo_at (List.getElem?_eq_getElem hil)]; exact leD_lt hlt) MIN.out)
            rw [← eo_swp hil hjl] at ST
            have SW0 := fun (v : World) (u : Upd (fun _ => False) w2 v) => swap_any base xa mv _ bs' ent i (2 * i + 1) _ _ v (H2.out.keep0 u) (List.getElem?_eq_getElem hil) (List.getElem?_eq_getElem hjl)
            rw [show ((2 * i + 1 : Nat) : Int) = 2 * (i : Int) + 1 by omega] at SW0
            have SWH := Lib.hid SW0
            have MSH := Lib.hid (fun (v : World) (u : Upd (fun _ => False) w2 v) => meth_swap xa _ _ _ v ((H2.out.keep0 u).x.cellAt (i := 0) rfl))
            have GO := Lib.hid (show 2 * i + 1 < bs.length ∧ i < 2 * i + 1 ∧ i < n ∧ 2 * i + 1 < n by omega)
            clear hlen D hlt HD MIN L0 SW0
            go_wp2_with fail
            refine (LS.out).mono ?_
            rintro e w3 ⟨rfl, u3⟩
            have MS := MSH.out _ u3
            have SW := Lib.hid (SWH.out _ u3)
            have U3 := Lib.hid (U2.out.trans u3 (fun _ _ h => h.elim))
            clear u3 ML LS
            go_wp2_with fail
            refine (SW.out).mono ?_
            rintro e w4 ⟨rfl, h4, u4⟩
            have H4 := Lib.hid h4
            have U4 := Lib.hid (U3.out.trans u4 (fun k _ hk => rowF_perm PM.out hk))
            clear h4 u4 MS
            go_wp2
            go_roundw
            case rel => exact ⟨swp bs' i (2 * i + 1), 2 * i + 1, by go_num, Lib.hid GO.out.1, H4, Lib.hid ((swp_perm _ _ _).trans PM.out), ST, Lib.hid (fun k hk => (swp_above GO.out.2.2.1 GO.out.2.2.2 hk).trans (HA.out k hk)), U4⟩
            case measure => have := GO.out; simp [intOf]; omega
          · have D : decide (ltD (ent bs'[2 * i + 1]) (ent bs'[i])) = false := decide_eq_false hlt
            rw [D] at L0
            have LS := Lib.hid L0
            have ED := Lib.hid (down_end HD.out (fun k h0 h1 h2 => leD_trans _ _ _ (show leD (eo ent bs' i) (eo ent bs' (2 * i + 1)) by rw [eo_at (List.getElem?_eq_getElem hjl), eo_at (List.getElem?_eq_getElem hil)]; exact hlt) (MIN.out k h0 h1 h2)))
            clear hlen D hlt HD MIN L0
            go_wp2_with fail
            refine (LS.out).mono ?_
            rintro e w3 ⟨rfl, u3⟩
            have H3 := Lib.hid (H2.out.keep0 u3)
            have U3 := Lib.hid (U2.out.trans u3 (fun _ _ h => h.elim))
            clear u3 ML LS
            go_wp2
            go_ret
            exact ⟨_, bs', rfl, H3.out, PM.out, ED.out.1, ED.out.2, HA.out, U3.out⟩
      · have s3 : decide (2 * (i : Int) + 1 + 1 < (n : Int)) = false := decide_eq_false (by omega)
        have MIN : Hid (∀ k, 0 < k → k < n → (k - 1) / 2 = i → leD (eo ent bs' (2 * i + 1)) (eo ent bs' k)) := by
          intro k k0 k1 k2
          obtain rfl : k = 2 * i + 1 := by omega
          exact leD_refl _
        have hjl : 2 * i + 1 < bs'.length := by omega
        have L0 := less_any base xa mv _ bs' ent (2 * i + 1) i bs'[2 * i + 1] bs'[i] wr H.out (List.getElem?_eq_getElem hjl) (List.getElem?_eq_getElem hil)
        rw [show ((2 * i + 1 : Nat) : Int) = 2 * (i : Int) + 1 by omega] at L0
        have ML := meth_less xa _ _ _ wr (H.out.x.cellAt (i := 0) rfl)
        by_cases hlt : ltD (ent bs'[2 * i + 1]) (ent bs'[i])
        · have D : decide (ltD (ent bs'[2 * i + 1]) (ent bs'[i])) = true := decide_eq_true hlt
          rw [D] at L0
          have LS := Lib.hid L0
          have ST := Lib.hid (HD.out.step leD_trans (j := 2 * i + 1) (by omega) (by omega) (by omega) (by rw [eo_at (List.getElem?_eq_getElem hjl), eo_at (List.getElem?_eq_getElem hil)]; exact leD_lt hlt) MIN.out)
          rw [← eo_swp hil hjl] at ST
          have SW0 := fun (v : World) (u : Upd (fun _ => False) wr v) => swap_any base xa mv _ bs' ent i (2 * i + 1) _ _ v (H.out.keep0 u) (List.getElem?_eq_getElem hil) (List.getElem?_eq_getElem hjl)
          rw [show ((2 * i + 1 : Nat) : Int) = 2 * (i : Int) + 1 by omega] at SW0
          have SWH := Lib.hid SW0
          have MSH := Lib.hid (fun (v : World) (u : Upd (fun _ => False) wr v) => meth_swap xa _ _ _ v ((H.out.keep0 u).x.cellAt (i := 0) rfl))
          have GO := Lib.hid (show 2 * i + 1 < bs.length ∧ i < 2 * i + 1 ∧ i < n ∧ 2 * i + 1 < n by omega)
          clear hlen D hlt HD MIN L0 SW0
          go_wp2_with fail
          refine (LS.out).mono ?_
          rintro e w3 ⟨rfl, u3⟩
          have MS := MSH.out _ u3
          have SW := Lib.hid (SWH.out _ u3)
          have U3 := Lib.hid (U.out.trans u3 (fun _ _ h => h.elim))
          clear u3 ML LS
          go_wp2_with fail
          refine (SW.out).mono ?_
          rintro e w4 ⟨rfl, h4, u4⟩
          have H4 := Lib.hid h4
          have U4 := Lib.hid (U3.out.trans u4 (fun k _ hk => rowF_perm PM.out hk))
          clear h4 u4 MS
          go_wp2
          go_roundw
          case rel => exact ⟨swp bs' i (2 * i + 1), 2 * i + 1, by go_num, Lib.hid GO.out.1, H4, Lib.hid ((swp_perm _ _ _).trans PM.out), ST, Lib.hid (fun k hk => (swp_above GO.out.2.2.1 GO.out.2.2.2 hk).trans (HA.out k hk)), U4⟩
          case measure => have := GO.out; simp [intOf]; omega
        · have D : decide (ltD (ent bs'[2 * i + 1]) (ent bs'[i])) = false := decide_eq_false hlt
          rw [D] at L0
          have LS := Lib.hid L0
          have ED := Lib.hid (down_end HD.out (fun k h0 h1 h2 => leD_trans _ _ _ (show leD (eo ent bs' i) (eo ent bs' (2 * i + 1)) by rw [eo_at (List.getElem?_eq_getElem hjl), eo_at (List.getElem?_eq_getElem hil)]; exact hlt) (MIN.out k h0 h1 h2)))
          clear hlen D hlt HD MIN L0
          go_wp2_with fail
          refine (LS.out).mono ?_
          rintro e w3 ⟨rfl, u3⟩
          have H3 := Lib.hid (H.out.keep0 u3)
          have U3 := Lib.hid (U.out.trans u3 (fun _ _ h => h.elim))
          clear u3 ML LS
          go_wp2
          go_ret
          exact ⟨_, bs', rfl, H3.out, PM.out, ED.out.1, ED.out.2, HA.out, U3.out⟩
end Go.Proofs.YtgdenmddbgcacaaGreatDoor
/- Append to a row of the call's own: where the longer row lies. -/
set_option linter.unusedVariables false
set_option linter.unusedSimpArgs false
namespace Go.Proofs.YtgdenmddbgcacaaGreatDoor
open Go.RowKit

/-- Rows that lie where the old one lay, or in a new block. -/
def NewOr (v v' : Value) (w : World) : Prop := ∀ k, v'.ownBlock = some k → v.ownBlock = some k ∨ w.heap.size ≤ k
theorem run_append_where {P : Program} (w : World) (base : Nat) (t ty e : TypeId) (i : TypeInfo) (z : Value) (size bytes : Nat) (ht : P.underlying t = some (.slice e)) (hi : P.info? e = some i) (hz : i.zero = some z)
    (hsize : i.size = size) (hby : i.bytes = bytes) (v : Value) (n : Nat) (xs : List Value) (hown : w.ownsRow base e size v n xs)
    (a : Addr) (m c : Nat) (news : List Value) (hl : news.length = m * size) (hnews : ∀ j u, news[j]? = some u → w.cell? (a.add j) = some u) (h1 : ∀ u ∈ news, u.oneCell' = true) (hm : 0 < m)
    (h63 : n + m ≤ maxLen) (hbytes : (n + m) * bytes ≤ 140737488355328) :
    ∀ v' w', (Builtin.append_ #[t, t] ty #[v, .slice (some a) m c]).run P w = .ok v' w' → NewOr v v' w := by
  intro v' w' hr k hk
  subst hsize hby
  have h64 : n + m ≤ 9223372036854775807 := by simp only [maxLen] at h63; omega
  have hn := hown.1
  rcases hown.2 with ⟨rfl, rfl⟩ | ⟨g, cap, cur, rfl, _, hg, hnc, hcm, hcs, _⟩
  · have := run_append_nil (P := P) (ty := ty) w t e i z ht hi hz a m c news hl hnews hm (by omega) (by simp only [Nat.zero_add] at hbytes; omega)
    rw [this] at hr
    injection hr with e1 e2
    subst e1; cases hk; exact Or.inr (Nat.le_refl _)
  · by_cases hroom : n + m ≤ cap
    · have := run_append_room (P := P) (ty := ty) w t e i ht hi g n cap cur hg a m c news hl hnews h1 hroom (by rw [hl, hcs, ← Nat.add_mul]; exact Nat.mul_le_mul_right _ hroom)
      rw [this] at hr
      injection hr with e1 e2
      subst e1; exact Or.inl hk
    · have := run_append_grow (P := P) (ty := ty) w t e i z ht hi hz ⟨g, 0, none⟩ n cap xs hn (hown.cells (g := g) rfl) a m c news hl hnews (by omega) (by omega) (growslice_fits (by omega) hbytes)
      rw [this] at hr
      injection hr with e1 e2
      subst e1; cases hk; exact Or.inr (Nat.le_refl _)
theorem wpList_append_where {P : Program} {ops : Array Oper} {rest : List Oper} {o : Oper} {a : Act} {Q : Exit → Act → World → Prop} (w : World) (hgd : o.guard = none) (s x : Operand) (t : TypeId)
    (ho : o.op = .call { callee := .builtin .append, args := #[s, x], argTypes := #[t, t] })
    (base : Nat) (e : TypeId) (i : TypeInfo) (z : Value) (size bytes : Nat) (ht : P.underlying t = some (.slice e)) (hi : P.info? e = some i) (hz : i.zero = some z)
    (hsize : i.size = size) (hby : i.bytes = bytes) (hzs : z.cells.size = size) (hsz : 0 < size)
    (v : Value) (n : Nat) (xs : List Value) (hs : a.eval s = v) (hown : w.ownsRow base e size v n xs)
    (ad : Addr) (m c : Nat) (news : List Value) (hx : a.eval x = .slice (some ad) m c) (hl : news.length = m * size) (hnews : ∀ j u, news[j]? = some u → w.cell? (ad.add j) = some u) (h1 : ∀ u ∈ news, u.oneCell' = true)
    (h63 : n + m ≤ maxLen) (hbytes : (n + m) * bytes ≤ 140737488355328) (hbase : base ≤ w.heap.size) (hm : 0 < m)
    (h : ∀ v' w', w'.ownsRow base e size v' (n + m) (xs ++ news) → Upd (fun k => v.ownBlock = some k) w w' → NewOr v v' w → wpList P ops Q rest (a.put o.dst v') w') : wpList P ops Q (o :: rest) a w :=
  wpList_plain hgd fun K hK => by
    obtain ⟨v', w', hr, h2, h3, _⟩ := run_append_own (P := P) w base t o.type e i z size bytes ht hi hz hsize hby hzs hsz v n xs hown ad m c news hl hnews h1 h63 hbytes hbase
    have hw := run_append_where (P := P) w base t o.type e i z size bytes ht hi hz hsize hby v n xs hown ad m c news hl hnews h1 hm h63 hbytes v' w' hr
    unfold Oper.wp execOp
    simp only [ho, resolve, invoke, builtin, Sem.run_bind, Sem.run_pure, Result.andThen_ok, List.map_toArray, List.map_cons, List.map_nil, hs, hx, hr]
    exact hK _ _ (h v' w' h2 ((Upd.of_grown h3).weaken (fun k _ hk => hk.symm)) hw)
end Go.Proofs.YtgdenmddbgcacaaGreatDoor
