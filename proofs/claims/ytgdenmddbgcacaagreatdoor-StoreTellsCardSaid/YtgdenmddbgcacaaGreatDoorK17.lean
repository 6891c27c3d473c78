/- The document's store: its states; walks of gone, due. -/
import Derived.Test.YtgdenmddbgcacaaGreatDoorK16
set_option linter.unusedVariables false
set_option linter.unusedSimpArgs false
set_option linter.unusedSectionVars false
namespace Go.Proofs.YtgdenmddbgcacaaGreatDoor
open Go.RowKit

section
variable {w w' w1 w2 : World} {base wb : Nat} {vs ve : Value} {C : List RCe} {S S1 S2 : PS} {key : ByteArray} {X X1 : Nat → Prop}
/-- An event more. -/
theorem RMem.tell (h : RMem w base wb vs ve C S) (kind : Int) (key : ByteArray) (hl : S.events.length ≤ 1000000) :
    ∃ p0 c0 p c w1, ve = .slice p0 S.events.length c0 ∧ (Builtin.append_ #[42, 42] 42 #[ve, .slice (some ⟨w.heap.size, 0, none⟩) 1 1]).run Tryz.prog (w.alloc (.cells #[.int .i64 kind, .string key] 63)) = .ok (.slice p (S.events.length + 1) c) w1 ∧
      Blk w1 wb [vs, .int .i64 S.budget, ve] 47 ∧ RMem (w1.setCell ⟨wb, 2, none⟩ (.slice p (S.events.length + 1) c)) base wb vs (.slice p (S.events.length + 1) c) C { S with events := S.events ++ [(kind, key)] } ∧
      Upd (rfoot wb vs ve) w (w1.setCell ⟨wb, 2, none⟩ (.slice p (S.events.length + 1) c)) ∧ ∀ b, rfoot wb vs (.slice p (S.events.length + 1) c) b → rfoot wb vs ve b ∨ w.heap.size ≤ b := by
  obtain ⟨i0, hi0, hz0, hz1, hz2⟩ := info_parts ev_info
  have u0 : Upd (fun _ => False) w (w.alloc (.cells #[.int .i64 kind, .string key] 63)) := (Upd.refl _ _).alloc _
  have m0 := h.keep0 u0
  obtain ⟨p0, c0, e0, _⟩ := h.evs.slice
  obtain ⟨v', w1, a, b, c, d⟩ := OwnN.append (P := Tryz.prog) 42 42 i0 (.agg #[.int .i64 0, .string ByteArray.empty]) 24 Tryz.underlying42 hi0 hz0 hz1 hz2 rfl (by decide) (fun _ => rfl) (fun x _ => fun u hu => by simp [evc] at hu; rcases hu with rfl | rfl <;> rfl) m0.evs (RowOf.lit (f := evc) (k := 2) w (kind, key) [.int .i64 kind, .string key] 63 rfl rfl) (by unfold maxLen; simp; omega) (by simp; omega) m0.bl
  obtain ⟨p, k, e, _⟩ := b.slice
  rw [List.length_append, List.length_singleton] at e
  subst e
  refine ⟨p0, c0, p, k, w1, e0, a, c.blk m0.blk (fun g => m0.nev g rfl), m0.evsTo c b, ?_, ?_⟩
  · have u1 : Upd (rfoot wb vs ve) w w1 := (u0.weaken (F := rfoot wb vs ve) fun _ _ h => h.elim).trans c (fun i _ hi => Or.inr (Or.inr hi))
    exact u1.set (fun _ => Or.inl rfl)
  · rintro b (g | g | g)
    · exact Or.inl (Or.inl g)
    · exact Or.inl (Or.inr (Or.inl g))
    · rcases d b g with g | g
      · exact Or.inl (Or.inr (Or.inr g))
      · right; have := u0.size; omega
/-- The document's store, its blocks in X. -/
def RSt (w : World) (base wb : Nat) (X : Nat → Prop) (S : PS) : Prop := ∃ vs ve C, RMem w base wb vs ve C S ∧ POk S ∧ (∀ b, rfoot wb vs ve b → X b) ∧ ∀ b, X b → base ≤ b ∧ b < w.heap.size
/-- From one state of it to the next. -/
def RGo (w : World) (base wb : Nat) (X : Nat → Prop) (w' : World) (S' : PS) : Prop := ∃ X', RSt w' base wb X' S' ∧ (∀ b, X' b → X b ∨ w.heap.size ≤ b) ∧ Upd X w w'
theorem RSt.ok (h : RSt w base wb X S) : POk S := by obtain ⟨_, _, _, _, h, _⟩ := h; exact h
theorem RSt.keep {F : Nat → Prop} (h : RSt w base wb X S) (u : Upd F w w') (hd : ∀ b, F b → base ≤ b ∧ ¬ X b) : RSt w' base wb X S := by
  obtain ⟨vs, ve, C, m, ok, hx, xl⟩ := h
  exact ⟨vs, ve, C, m.keep u (fun b hb => ⟨(hd b hb).1, fun g => (hd b hb).2 (hx b g)⟩), ok, hx, fun b hb => ⟨(xl b hb).1, Nat.lt_of_lt_of_le (xl b hb).2 u.size⟩⟩
theorem RSt.keep0 (h : RSt w base wb X S) (u : Upd (fun _ => False) w w') : RSt w' base wb X S := h.keep u fun _ h => h.elim
theorem RSt.go0 (h : RSt w base wb X S) (u : Upd (fun _ => False) w w') : RGo w base wb X w' S := ⟨X, h.keep0 u, fun b hb => Or.inl hb, u.weaken fun _ _ h => h.elim⟩
theorem RGo.onTo (f1 : ∀ b, X1 b → X b ∨ w.heap.size ≤ b) (u1 : Upd X w w1) (h : RGo w1 base wb X1 w2 S2) : RGo w base wb X w2 S2 := by
  obtain ⟨X2, r2, f2, u2⟩ := h
  refine ⟨X2, r2, fun b hb => ?_, u1.trans u2 (fun i hi g => ?_)⟩
  · rcases f2 b hb with g | g
    · exact f1 b g
    · right; have := u1.size; omega
  · rcases f1 i g with g | g
    · exact g
    · omega
theorem RGo.pre (u1 : Upd (fun _ => False) w w1) (h : RGo w1 base wb X w2 S2) : RGo w base wb X w2 S2 := h.onTo (fun b hb => Or.inl hb) (u1.weaken fun _ _ h => h.elim)
/-- The parts are others now. -/
theorem RMem.st (h : RMem w' base wb vs ve C S) (ok : POk S) (hf : ∀ b, rfoot wb vs ve b → X b ∨ w.heap.size ≤ b) (u : Upd X w w') : RGo w base wb X w' S :=
  ⟨rfoot wb vs ve, ⟨vs, ve, C, h, ok, fun _ h => h, fun b hb => h.fLt hb⟩, hf, u⟩
theorem erase_delC {l : List Ce} (h : (keysC l).Nodup) : ∀ {k : Nat} {c : Ce}, l[k]? = some c → l.eraseIdx k = delC l c.key := by
  induction l with
  | nil => intro k c hk; simp at hk
  | cons x r ih =>
    have h2 := keysC_cons h
    intro k c hk
    cases k with
    | zero =>
      simp at hk; subst hk
      have := delC_none (l := r) h2.1
      unfold delC at this ⊢
      simp only [List.eraseIdx_cons_zero, List.filter_cons, ne_eq, not_true_eq_false, decide_false, Bool.false_eq_true, if_false]; exact this.symm
    | succ k =>
      have hk : r[k]? = some c := by simpa using hk
      have hne : ¬ x.key = c.key := fun e => h2.1 (by rw [e]; exact List.mem_map.2 ⟨c, List.mem_of_getElem? hk, rfl⟩)
      rw [List.eraseIdx_cons_succ, ih h2.2 hk]
      unfold delC; simp only [List.filter_cons, ne_eq, hne, not_false_eq_true, decide_true, if_true]
theorem AtK.look {r : Int} (h : AtK C key r) (e : C.map (·.c) = S.cells) (hn : (keysC S.cells).Nodup) : (r = -1 ∧ lookC S.cells key = none ∧ key ∉ keysC S.cells) ∨ ∃ k t, r = ((k : Nat) : Int) ∧ C[k]? = some t ∧ S.cells[k]? = some t.c ∧ t.c.key = key ∧ lookC S.cells key = some t.c ∧ key ∈ keysC S.cells := by
  rcases h with ⟨rfl, h⟩ | ⟨k, t, rfl, hk, ht⟩
  · have : key ∉ keysC S.cells := fun g => by
      obtain ⟨c, hc, e2⟩ := List.mem_map.1 g
      rw [← e] at hc
      obtain ⟨t, ht, rfl⟩ := List.mem_map.1 hc
      exact h t ht e2
    exact Or.inl ⟨rfl, lookC_none.2 this, this⟩
  · have hs : S.cells[k]? = some t.c := by rw [← e, List.getElem?_map, hk]; rfl
    have hm := List.mem_of_getElem? hs
    refine Or.inr ⟨k, t, rfl, hk, hs, ht, ?_, List.mem_map.2 ⟨t.c, hm, ht⟩⟩
    rw [← ht]; exact lookC_of hn hm
end
set_option maxHeartbeats 4000000 in
set_option maxRecDepth 100000 in
theorem rgone_any {w : World} {base wb : Nat} {X : Nat → Prop} {S : PS} (h : RSt w base wb X S) (key : ByteArray) (kind : Int) (hc : S.cells.length ≤ 10000) (hl : S.events.length ≤ 1000000) :
    Calls Tryz.prog 60 #[.pointer (some ⟨wb, 0, none⟩), .string key, .int .i64 kind] w fun e w' => e = .returned (.bool (wasP S key)) ∧ RGo w base wb X w' (goneP S key kind) := by
  have H := Lib.hid h
  obtain ⟨vs, ve, C, m, ok, hx, xl⟩ := h
  have hcl : C.length ≤ 100000 := by rw [m.len]; omega
  have FI := Lib.hid (rfind_any m hcl key)
  have M := Lib.hid m
  have OK := Lib.hid ok
  have HX := Lib.hid hx
  have HCL := Lib.hid hcl
  clear m ok hx hcl xl
  go_enter Tryz.func60, Tryz.ntmps60
  go_wp2_with fail
  refine (FI.out).mono ?_
  rintro e w1 ⟨r, rfl, hat, u1⟩
  have U1 := Lib.hid u1
  clear u1 FI
  rcases hat.look M.out.eq OK.out.nd with ⟨rfl, _, hn⟩ | ⟨k, t, rfl, hk, hs, ht, _, hn⟩
  · have hw : Hid (wasP S key = false) := decide_eq_false hn
    have hg : Hid (goneP S key kind = S) := if_neg hn
    clear hn hat
    go_wp2
    go_ret
    rw [hw.out, hg.out]
    exact ⟨rfl, H.out.go0 U1.out⟩
  · have hw : Hid (wasP S key = true) := decide_eq_true hn
    have hg : goneP S key kind = { S with cells := delC S.cells key, events := S.events ++ [(kind, key)] } := if_pos hn
    have OKG : Hid (POk { S with cells := delC S.cells key, events := S.events ++ [(kind, key)] }) := by have := OK.out.gone key kind; rw [hg] at this; exact this
    have hg := Lib.hid hg
    have hkl : k < C.length := (List.getElem?_eq_some_iff.1 hk).1
    have WO := Lib.hid (rwithout_any (M.out.keep0 U1.out) HCL.out hkl)
    have EQ : Hid (S.cells.eraseIdx k = delC S.cells key) := by show _ = _; rw [erase_delC OK.out.nd hs, ht]
    clear hn hat hk hs ht hkl
    have q1 : ¬ (k : Int) < 0 := by omega
    go_wp2_with (fail)
    go_at_call 58
    refine WO.out.mono ?_
    rintro e w2 ⟨rfl, vs2, m2, u2, f2⟩
    rw [EQ.out] at m2
    obtain ⟨p0, c0, p, c, w3, e0, hr, hB, m3, u3, f3⟩ := m2.tell kind key hl
    have d2 := m2.blk.cellAt (i := 2) rfl
    have hwb := m2.blk.lt
    have k2 := hB.cellAt (i := 2) rfl
    have l3 := hB.lt
    have f3b := hB.free 2
    have FIN : Hid (RGo w base wb X (w3.setCell ⟨wb, 2, none⟩ (.slice p (S.events.length + 1) c)) { S with cells := delC S.cells key, events := S.events ++ [(kind, key)] }) := by
      have s1 := U1.out.size
      have s2 := u2.size
      have hF : ∀ b, rfoot wb vs2 ve b → X b ∨ w.heap.size ≤ b := by
        rintro b (g | g | g)
        · exact Or.inl (HX.out b (Or.inl g))
        · right; have := f2 b g; omega
        · exact Or.inl (HX.out b (Or.inr (Or.inr g)))
      refine m3.st OKG.out (fun b hb => ?_) (((U1.out.weaken (F := X) fun _ _ h => h.elim).trans u2 (fun i _ e => HX.out i (Or.inl e))).trans u3 (fun i hi g => ?_))
      · rcases f3 b hb with g | g
        · exact hF b g
        · right; omega
      · rcases hF i g with g | g
        · exact g
        · omega
    subst e0
    have s2 := u2.size
    clear u2 u3 f2 f3 m2 m3 hB WO
    generalize S.events.length = n at *
    go_wp2_with (at_builtin; refine wpList_builtinN rfl _ _ 42 rfl _ _ rfl rfl hr ?_)
    go_wp2
    go_ret
    rw [hw.out, hg.out]
    exact ⟨rfl, FIN.out⟩
/-- From one state of it to the next, and where a key stands there. -/
def RAt (w : World) (base wb : Nat) (X : Nat → Prop) (w' : World) (S' : PS) (key : ByteArray) (r : Int) : Prop :=
  ∃ vs ve C, RMem w' base wb vs ve C S' ∧ POk S' ∧ (∀ b, rfoot wb vs ve b → X b ∨ w.heap.size ≤ b) ∧ Upd X w w' ∧ AtK C key r
section
variable {w w' w1 w2 : World} {base wb : Nat} {vs ve : Value} {C : List RCe} {S S1 S2 : PS} {key : ByteArray} {X X1 : Nat → Prop}
theorem RAt.go {r : Int} (h : RAt w base wb X w' S key r) : RGo w base wb X w' S := by
  obtain ⟨vs, ve, C, m, ok, hf, u, _⟩ := h; exact m.st ok hf u
theorem RAt.onTo {r : Int} (f1 : ∀ b, X1 b → X b ∨ w.heap.size ≤ b) (u1 : Upd X w w1) (h : RAt w1 base wb X1 w2 S2 key r) : RAt w base wb X w2 S2 key r := by
  obtain ⟨vs, ve, C, m, ok, f2, u2, a⟩ := h
  refine ⟨vs, ve, C, m, ok, fun b hb => ?_, u1.trans u2 (fun i hi g => ?_), a⟩
  · rcases f2 b hb with g | g
    · exact f1 b g
    · right; have := u1.size; omega
  · rcases f1 i g with g | g
    · exact g
    · omega
theorem RMem.rst (m : RMem w base wb vs ve C S) (ok : POk S) : RSt w base wb (rfoot wb vs ve) S := ⟨vs, ve, C, m, ok, fun _ h => h, fun b hb => m.fLt hb⟩
theorem RGo.none (h : RGo w base wb X w' S) (hk : key ∉ keysC S.cells) : RAt w base wb X w' S key (-1) := by
  obtain ⟨X', ⟨vs, ve, C, m, ok, hx, _⟩, hf, u⟩ := h
  exact ⟨vs, ve, C, m, ok, fun b hb => hf b (hx b hb), u, Or.inl ⟨rfl, fun t ht e => hk (by rw [← m.eq, ← e]; exact List.mem_map_of_mem (List.mem_map_of_mem ht))⟩⟩
theorem goneP_gone (S : PS) (key : ByteArray) (kind : Int) : key ∉ keysC (goneP S key kind).cells := by
  unfold goneP; split
  · exact not_mem_delC _ _
  · assumption
theorem goneP_len (S : PS) (key : ByteArray) (kind : Int) : (goneP S key kind).cells.length ≤ S.cells.length ∧ (goneP S key kind).events.length ≤ S.events.length + 1 := by
  unfold goneP; split
  · exact ⟨delC_len _ _, by simp⟩
  · exact ⟨Nat.le_refl _, by omega⟩
theorem dueP_lenR (S : PS) (key : ByteArray) (now : Int) : (dueP S key now).cells.length ≤ S.cells.length ∧ (dueP S key now).events.length ≤ S.events.length + 1 := by
  unfold dueP; split
  · exact goneP_len _ _ _
  · exact ⟨Nat.le_refl _, by omega⟩
end
set_option maxHeartbeats 4000000 in
set_option maxRecDepth 100000 in
theorem rdue_any {w : World} {base wb : Nat} {X : Nat → Prop} {S : PS} (h : RSt w base wb X S) (key : ByteArray) (now : Int) (hc : S.cells.length ≤ 10000) (hl : S.events.length ≤ 1000000) :
    Calls Tryz.prog 57 #[.pointer (some ⟨wb, 0, none⟩), .string key, .int .i64 now] w fun e w' => ∃ r, e = .returned (.int .i64 r) ∧ RAt w base wb X w' (dueP S key now) key r := by
  have H := Lib.hid h
  obtain ⟨vs, ve, C, m, ok, hx, xl⟩ := h
  have hcl : C.length ≤ 100000 := by rw [m.len]; omega
  have FI := Lib.hid (rfind_any m hcl key)
  obtain ⟨p, c, ev, hm, hle⟩ := m.cells.slice
  subst ev
  unfold maxLen at hm
  have M := Lib.hid m
  have OK := Lib.hid ok
  have HX := Lib.hid hx
  clear m ok hx xl
  go_enter Tryz.func57, Tryz.ntmps57
  go_wp2_with fail
  refine (FI.out).mono ?_
  rintro e w1 ⟨r, rfl, hat, u1⟩
  have m1 := M.out.keep0 u1
  have x0 := m1.blk.cellAt (i := 0) (v := .slice p C.length c) rfl
  have hwb := m1.blk.lt
  have M1 := Lib.hid m1
  have U1 := Lib.hid u1
  have HAT := Lib.hid hat
  clear u1 FI m1 M
  rcases hat.look M1.out.eq OK.out.nd with ⟨rfl, hlk, hn⟩ | ⟨k, t, rfl, hk, hs, ht, hlk, hn⟩
  · have hg : Hid (dueP S key now = S) := by show _ = _; unfold dueP isDue; rw [hlk]; rfl
    have FIN : Hid (RAt w base wb X w1 S key (-1)) := ⟨_, _, _, M1.out, OK.out, fun b hb => Or.inl (HX.out b hb), U1.out.weaken fun _ _ h => h.elim, HAT.out⟩
    clear hn hat hlk
    go_wp2
    go_ret
    rw [hg.out]
    exact ⟨_, rfl, FIN.out⟩
  · have hkl : k < C.length := (List.getElem?_eq_some_iff.1 hk).1
    obtain ⟨b, t2, ep, hb, hbl, hk2, hcs, _⟩ := cel_cells M1.out.cells hkl
    rw [hk] at hk2
    injection hk2 with e
    subst e ep
    have c4 := hcs 4 (by omega)
    simp only [rcs, List.getElem?_cons_zero, List.getElem?_cons_succ] at c4
    have q0 : (k : Int) < (C.length : Int) := by omega
    obtain ⟨wn, hwn⟩ : ∃ wn, wn = t.c.when := ⟨_, rfl⟩
    rw [← hwn] at c4
    have ID : Hid (isDue S.cells key now = (decide (0 ≤ wn) && decide (wn ≤ now))) := by show _ = _; unfold isDue; rw [hlk, hwn]
    have FIN : Hid (RAt w base wb X w1 S key (k : Int)) := ⟨_, _, _, M1.out, OK.out, fun b hb => Or.inl (HX.out b hb), U1.out.weaken fun _ _ h => h.elim, HAT.out⟩
    clear hn hat hlk hk hs ht hcs hwn
    generalize C.length = nl at *
    by_cases a1 : 0 ≤ wn
    · by_cases a2 : wn ≤ now
      · have hg : Hid (dueP S key now = goneP S key 3) := by show _ = _; unfold dueP; rw [ID.out]; simp [a1, a2]
        have GO := Lib.hid (rgone_any (H.out.keep0 U1.out) key 3 hc hl)
        clear ID
        go_wp2_with (fail)
        go_at_call 60
        refine GO.out.mono ?_
        rintro e w2 ⟨rfl, g2⟩
        have FIN2 : Hid (RAt w base wb X w2 (goneP S key 3) key (-1)) := (g2.pre U1.out).none (goneP_gone _ _ _)
        go_wp2
        go_ret
        rw [hg.out]
        exact ⟨_, rfl, FIN2.out⟩
      · have hg : Hid (dueP S key now = S) := by show _ = _; unfold dueP; rw [ID.out]; simp [a2]
        clear ID
        go_wp2
        go_ret
        rw [hg.out]
        exact ⟨_, rfl, FIN.out⟩
    · have hg : Hid (dueP S key now = S) := by show _ = _; unfold dueP; rw [ID.out]; simp [a1]
      clear ID
      go_wp2
      go_ret
      rw [hg.out]
      exact ⟨_, rfl, FIN.out⟩
end Go.Proofs.YtgdenmddbgcacaaGreatDoor
/- The document's store: walks of New, Drop, Ttl, Persist, Expire, Flush, Tell. -/
set_option linter.unusedVariables false
set_option linter.unusedSimpArgs false
set_option linter.unusedSectionVars false
namespace Go.Proofs.YtgdenmddbgcacaaGreatDoor
open Go.RowKit

section
variable {w w' w1 w2 : World} {base wb : Nat} {vs ve : Value} {C : List RCe} {S S1 S2 : PS} {key : ByteArray} {X X1 : Nat → Prop}
theorem set_setC {l : List Ce} (h : (keysC l).Nodup) (x : Int) : ∀ {k : Nat} {c : Ce}, l[k]? = some c → l.set k { c with when := x } = setC l c.key x := by
  induction l with
  | nil => intro k c hk; simp at hk
  | cons y r ih =>
    have h2 := keysC_cons h
    intro k c hk
    cases k with
    | zero =>
      simp at hk; subst hk
      unfold setC
      rw [List.set_cons_zero, List.map_cons, if_pos rfl]
      congr 1
      symm
      rw [List.map_congr_left (g := fun c => c) (fun d hd => if_neg fun e => h2.1 (by rw [← e]; exact List.mem_map_of_mem hd))]
      simp
    | succ k =>
      have hk : r[k]? = some c := by simpa using hk
      have hne : ¬ y.key = c.key := fun e => h2.1 (by rw [e]; exact List.mem_map.2 ⟨c, List.mem_of_getElem? hk, rfl⟩)
      rw [List.set_cons_succ, ih h2.2 hk]
      unfold setC; rw [List.map_cons, if_neg hne]
/-- When a key ends, at its cell. -/
theorem RMem.whenTo (h : RMem w base wb vs ve C S) (hn : (keysC S.cells).Nodup) {b n c k : Nat} {t : RCe} (x : Int) (ev : vs = .slice (some ⟨b, 0, none⟩) n c) (hk : C[k]? = some t) :
    RMem (w.setCell ⟨b, k * 5 + 4, none⟩ (.int .i64 x)) base wb vs ve (C.set k ⟨{ t.c with when := x }, t.v⟩) { S with cells := setC S.cells t.c.key x } ∧ Upd (rfoot wb vs ve) w (w.setCell ⟨b, k * 5 + 4, none⟩ (.int .i64 x)) := by
  have hb : vs.ownBlock = some b := by rw [ev]; rfl
  have u : Upd (fun q => q = b) w (w.setCell ⟨b, k * 5 + 4, none⟩ (.int .i64 x)) := (Upd.refl _ _).set fun _ => rfl
  have ne := h.nes hb
  refine ⟨⟨u.blk h.blk (fun e => ne.1 e.symm), ?_, h.evs.keep u (fun q hq e => ne.2 (by rw [← e]; exact hq)), ?_, fun s hs => ?_, h.lo, Nat.le_trans h.bl u.size⟩, u.weaken fun q _ e => Or.inr (Or.inl (by rw [e]; exact hb))⟩
  · have o := h.cells
    rw [ev] at o ⊢
    exact OwnN.set (f := rcs) (k := 5) o (fun _ => rfl) (by omega) hk rfl
  · have hs : S.cells[k]? = some t.c := by rw [← h.eq, List.getElem?_map, hk]; rfl
    show _ = setC S.cells t.c.key x
    rw [← set_setC hn x hs, List.map_set, h.eq]
  · rcases List.mem_or_eq_of_mem_set hs with g | g
    · exact (h.flds s g).keep u (fun q hq e => by have := (h.cells.lt hb).1; omega)
    · subst g
      exact (h.flds t (List.mem_of_getElem? hk)).keep u (fun q hq e => by have := (h.cells.lt hb).1; omega)
end
set_option maxHeartbeats 4000000 in
set_option maxRecDepth 100000 in
theorem qnew_any (w : World) (base : Nat) (bud : Int) (hb : base ≤ w.heap.size) :
    Calls Tryz.prog 8 #[.int .i64 bud] w fun e w' => e = .returned (.pointer (some ⟨w.heap.size, 0, none⟩)) ∧ RSt w' base w.heap.size (fun b => b = w.heap.size) (newP bud) ∧ Upd (fun _ => False) w w' ∧ w'.heap.size = w.heap.size + 1 := by
  have FIN : Hid (∀ x, x = (newP bud).budget → RSt (w.alloc (.cells #[.slice none 0 0, .int .i64 x, .slice none 0 0] 47)) base w.heap.size (fun b => b = w.heap.size) (newP bud)) := fun x hx => by
    subst hx
    have u : Upd (fun _ => False) w (w.alloc (.cells #[.slice none 0 0, .int .i64 (newP bud).budget, .slice none 0 0] 47)) := (Upd.refl _ _).alloc _
    refine ⟨.slice none 0 0, .slice none 0 0, [], ⟨Blk.made w _ _, OwnN.none, OwnN.none, rfl, fun t ht => by simp at ht, hb, Nat.le_trans hb u.size⟩, POk.new bud, fun b hb => ?_, fun b e => ?_⟩
    · rcases hb with g | g | g
      · exact g
      · cases g
      · cases g
    · rw [e]; exact ⟨hb, by simp⟩
  by_cases h0 : bud < 0
  · have q : Hid ((0 : Int) = (newP bud).budget) := by show _ = max 0 (min bud 1000000000000); omega
    go_enter Tryz.func8, Tryz.ntmps8
    go_wp2
    go_ret
    exact ⟨rfl, FIN.out _ q.out, (Upd.refl _ _).alloc _, by simp⟩
  · by_cases h1 : 1000000000000 < bud
    · have q : Hid ((1000000000000 : Int) = (newP bud).budget) := by show _ = max 0 (min bud 1000000000000); omega
      go_enter Tryz.func8, Tryz.ntmps8
      go_wp2
      go_ret
      exact ⟨rfl, FIN.out _ q.out, (Upd.refl _ _).alloc _, by simp⟩
    · have q : Hid (bud = (newP bud).budget) := by show _ = max 0 (min bud 1000000000000); omega
      go_enter Tryz.func8, Tryz.ntmps8
      go_wp2
      go_ret
      exact ⟨rfl, FIN.out _ q.out, (Upd.refl _ _).alloc _, by simp⟩
set_option maxHeartbeats 4000000 in
set_option maxRecDepth 100000 in
theorem qtell_any {w : World} {base wb : Nat} {X : Nat → Prop} {S : PS} (h : RSt w base wb X S) :
    Calls Tryz.prog 15 #[.pointer (some ⟨wb, 0, none⟩)] w fun e w' => ∃ v, e = .returned v ∧ OwnN evc 2 63 w' base v S.events ∧ RSt w' base wb X { S with events := [] } ∧ Upd X w w' := by
  obtain ⟨vs, ve, C, m, ok, hx, xl⟩ := h
  obtain ⟨p, c, ev, hm, hle⟩ := m.evs.slice
  subst ev
  have m2 := m.evsTo (Upd.refl _ w) (OwnN.none (f := evc) (k := 2) (e := 63) (w := w) (base := base))
  have u : Upd (fun b => b = wb) w (w.setCell ⟨wb, 2, none⟩ (.slice none 0 0)) := (Upd.refl _ _).set fun _ => rfl
  have o := m.evs.keep u (fun b hb e => m.nev hb e)
  have FIN : Hid (OwnN evc 2 63 (w.setCell ⟨wb, 2, none⟩ (.slice none 0 0)) base (.slice p S.events.length c) S.events ∧ RSt (w.setCell ⟨wb, 2, none⟩ (.slice none 0 0)) base wb X { S with events := [] } ∧ Upd X w (w.setCell ⟨wb, 2, none⟩ (.slice none 0 0))) := by
    refine ⟨o, ⟨_, _, _, m2, ok.tell [], fun b hb => ?_, fun b hb => ⟨(xl b hb).1, Nat.lt_of_lt_of_le (xl b hb).2 u.size⟩⟩, u.weaken fun b _ e => hx b (Or.inl e)⟩
    rcases hb with g | g | g
    · exact hx b (Or.inl g)
    · exact hx b (Or.inr (Or.inl g))
    · cases g
  have x2 := m.blk.cellAt (i := 2) rfl
  have hwb := m.blk.lt
  have f2 := m.blk.free 2
  generalize S.events.length = n at *
  clear m ok hx xl m2 u o hm hle
  go_enter Tryz.func15, Tryz.ntmps15
  go_wp2
  go_ret
  exact ⟨_, rfl, FIN.out⟩
set_option maxHeartbeats 4000000 in
set_option maxRecDepth 100000 in
theorem qflush_any {w : World} {base wb : Nat} {X : Nat → Prop} {S : PS} (h : RSt w base wb X S) (hl : S.events.length ≤ 1000000) :
    Calls Tryz.prog 41 #[.pointer (some ⟨wb, 0, none⟩)] w fun e w' => e = .returned (.tuple #[]) ∧ RGo w base wb X w' (flushP S) := by
  obtain ⟨vs, ve, C, m, ok, hx, xl⟩ := h
  have m2 := m.cellsTo (C' := []) (cs := []) (Upd.refl _ w) (OwnN.none (f := rcs) (k := 5) (e := 90) (w := w) (base := base)) rfl (fun t ht => by simp at ht)
  have u : Upd (fun b => b = wb) w (w.setCell ⟨wb, 0, none⟩ (.slice none 0 0)) := (Upd.refl _ _).set fun _ => rfl
  obtain ⟨p0, c0, p, c, w3, e0, hr, hB, m3, u3, f3⟩ := m2.tell 5 ByteArray.empty hl
  have FIN : Hid (RGo w base wb X (w3.setCell ⟨wb, 2, none⟩ (.slice p (S.events.length + 1) c)) (flushP S)) := by
    have hF : ∀ b, rfoot wb (.slice none 0 0) ve b → X b := by
      rintro b (g | g | g)
      · exact hx b (Or.inl g)
      · cases g
      · exact hx b (Or.inr (Or.inr g))
    refine m3.st ok.flush (fun b hb => ?_) ((u.weaken (F := X) fun b _ e => hx b (Or.inl e)).trans u3 (fun i hi g => hF i g))
    rcases f3 b hb with g | g
    · exact Or.inl (hF b g)
    · right; have := u.size; omega
  have x0 := m.blk.cellAt (i := 0) rfl
  have hwb := m.blk.lt
  have f0 := m.blk.free 0
  have x2 : w.cell? ⟨wb, 2, none⟩ = some ve := m.blk.cellAt (i := 2) rfl
  have k2 := hB.cellAt (i := 2) rfl
  have l3 := hB.lt
  have f3b := hB.free 2
  have hr : (Builtin.append_ #[42, 42] 42 #[ve, .slice (some ⟨w.heap.size, 0, none⟩) 1 1]).run Tryz.prog ((w.setCell ⟨wb, 0, none⟩ (.slice none 0 0)).alloc (.cells #[.int .i64 5, .string { data := #[] }] 63)) = .ok (.slice p (S.events.length + 1) c) w3 := by
    rw [World.size_setCell] at hr; exact hr
  subst e0
  clear m ok hx xl m2 u m3 u3 f3 hB
  have e1 : ({ cells := [], budget := S.budget, events := S.events } : PS).events = S.events := rfl
  rw [e1] at hr k2 x2
  generalize S.events.length = n at *
  go_enter Tryz.func41, Tryz.ntmps41
  go_wp2_with (at_builtin; refine wpList_builtinN rfl _ _ 42 rfl _ _ rfl rfl hr ?_)
  go_wp2
  go_end0
  exact ⟨rfl, FIN.out⟩
set_option maxHeartbeats 4000000 in
set_option maxRecDepth 100000 in
theorem qdrop_any {w : World} {base wb : Nat} {X : Nat → Prop} {S : PS} (h : RSt w base wb X S) (key : ByteArray) (now : Int) (hc : S.cells.length ≤ 10000) (hl : S.events.length ≤ 900000) :
    Calls Tryz.prog 31 #[.pointer (some ⟨wb, 0, none⟩), .string key, .int .i64 now] w fun e w' => e = .returned (.bool (wasP (dueP S key now) key)) ∧ RGo w base wb X w' (dropP S key now) := by
  have D := Lib.hid (rdue_any h key now hc (by omega))
  have L := Lib.hid (dueP_lenR S key now)
  have HC := Lib.hid (And.intro hc hl)
  unfold dropP
  generalize dueP S key now = S1 at *
  clear h hc hl
  go_enter Tryz.func31, Tryz.ntmps31
  go_wp2_with fail
  refine (D.out).mono ?_
  rintro e w1 ⟨r, rfl, a1⟩
  obtain ⟨X1, r1, f1, u1⟩ := a1.go
  have G := Lib.hid (rgone_any r1 key 2 (by have := L.out; have := HC.out; omega) (by have := L.out; have := HC.out; omega))
  have F1 := Lib.hid (And.intro f1 u1)
  clear a1 r1 f1 u1 D
  go_wp2_with fail
  refine (G.out).mono ?_
  rintro e w2 ⟨rfl, g2⟩
  have FIN := Lib.hid (g2.onTo F1.out.1 F1.out.2)
  clear g2 F1 G
  go_wp2
  go_ret
  exact ⟨rfl, FIN.out⟩
set_option maxHeartbeats 4000000 in
set_option maxRecDepth 100000 in
theorem qttl_any {w : World} {base wb : Nat} {X : Nat → Prop} {S : PS} (h : RSt w base wb X S) (key : ByteArray) (now : Int) (hc : S.cells.length ≤ 10000) (hl : S.events.length ≤ 900000) (h0 : 0 ≤ now) (h1 : now ≤ 4611686018427387904) :
    Calls Tryz.prog 37 #[.pointer (some ⟨wb, 0, none⟩), .string key, .int .i64 now] w fun e w' => e = .returned (.int .i64 (ttlA (dueP S key now) key now)) ∧ RGo w base wb X w' (dueP S key now) := by
  have D := Lib.hid (rdue_any h key now hc (by omega))
  have L := Lib.hid (dueP_lenR S key now)
  have HC := Lib.hid (And.intro hc hl)
  generalize dueP S key now = S1 at *
  clear h hc hl
  go_enter Tryz.func37, Tryz.ntmps37
  go_wp2_with fail
  refine (D.out).mono ?_
  rintro e w1 ⟨r, rfl, a1⟩
  have GO := Lib.hid a1.go
  obtain ⟨vs, ve, C, m1, ok1, f1, u1, hat⟩ := a1
  obtain ⟨p, c, ev, hm, hle⟩ := m1.cells.slice
  subst ev
  unfold maxLen at hm
  have x0 := m1.blk.cellAt (i := 0) (v := .slice p C.length c) rfl
  have hwb := m1.blk.lt
  have M1 := Lib.hid m1
  have OK1 := Lib.hid ok1
  have F1 := Lib.hid (And.intro f1 u1)
  clear D m1 ok1 f1 u1
  rcases hat.look M1.out.eq OK1.out.nd with ⟨rfl, hlk, hn⟩ | ⟨k, t, rfl, hk, hs, ht, hlk, hn⟩
  · have R : Hid (ttlA S1 key now = -2) := by show _ = _; unfold ttlA; rw [hlk]
    clear hn hat hlk
    go_wp2
    go_ret
    rw [R.out]
    exact ⟨rfl, GO.out⟩
  · have hkl : k < C.length := (List.getElem?_eq_some_iff.1 hk).1
    obtain ⟨b, t2, ep, hb, hbl, hk2, hcs, hfz⟩ := cel_cells M1.out.cells hkl
    rw [hk] at hk2
    injection hk2 with e
    subst e ep
    have c4 := hcs 4 (by omega)
    simp only [rcs, List.getElem?_cons_zero, List.getElem?_cons_succ] at c4
    have q0 : (k : Int) < (C.length : Int) := by omega
    have hw := OK1.out.whens t.c (List.mem_of_getElem? hs)
    obtain ⟨wn, hwn⟩ : ∃ wn, wn = t.c.when := ⟨_, rfl⟩
    rw [← hwn] at c4 hw
    have R : Hid (ttlA S1 key now = if 0 ≤ wn then wn - now else -1) := by show _ = _; unfold ttlA; rw [hlk, hwn]
    clear hn hat hlk hk hs ht hcs hwn
    generalize C.length = nl at *
    by_cases a1 : 0 ≤ wn
    · have q2 : ¬ wn < 0 := by omega
      have q3 : IntKind.i64.wrap (wn - now) = wn - now := i64w (by omega) (by omega)
      go_wp2
      go_ret
      rw [R.out, if_pos a1]
      exact ⟨rfl, GO.out⟩
    · have q2 : wn < 0 := by omega
      go_wp2
      go_ret
      rw [R.out, if_neg (by omega)]
      exact ⟨rfl, GO.out⟩
set_option maxHeartbeats 4000000 in
set_option maxRecDepth 100000 in
theorem qpersist_any {w : World} {base wb : Nat} {X : Nat → Prop} {S : PS} (h : RSt w base wb X S) (key : ByteArray) (now : Int) (hc : S.cells.length ≤ 10000) (hl : S.events.length ≤ 900000) :
    Calls Tryz.prog 35 #[.pointer (some ⟨wb, 0, none⟩), .string key, .int .i64 now] w fun e w' => e = .returned (.bool (endsP (dueP S key now) key)) ∧ RGo w base wb X w' (persistP S key now) := by
  obtain ⟨S2, hS2⟩ : ∃ S2, persistP S key now = S2 := ⟨_, rfl⟩
  rw [hS2]
  unfold persistP at hS2
  have PE := Lib.hid hS2
  clear hS2
  have D := Lib.hid (rdue_any h key now hc (by omega))
  have L := Lib.hid (dueP_lenR S key now)
  have HC := Lib.hid (And.intro hc hl)
  generalize dueP S key now = S1 at *
  clear h hc hl
  go_enter Tryz.func35, Tryz.ntmps35
  go_wp2_with fail
  refine (D.out).mono ?_
  rintro e w1 ⟨r, rfl, a1⟩
  have GO := Lib.hid a1.go
  obtain ⟨vs, ve, C, m1, ok1, f1, u1, hat⟩ := a1
  obtain ⟨p, c, ev, hm, hle⟩ := m1.cells.slice
  subst ev
  unfold maxLen at hm
  have x0 := m1.blk.cellAt (i := 0) (v := .slice p C.length c) rfl
  have hwb := m1.blk.lt
  have M1 := Lib.hid m1
  have OK1 := Lib.hid ok1
  have F1 := Lib.hid (And.intro f1 u1)
  clear D m1 ok1 f1 u1
  rcases hat.look M1.out.eq OK1.out.nd with ⟨rfl, hlk, hn⟩ | ⟨k, t, rfl, hk, hs, ht, hlk, hn⟩
  · have R : Hid (endsP S1 key = false) := by show _ = _; unfold endsP; rw [hlk]
    clear hn hat hlk
    go_wp2
    go_ret
    rw [← PE.out, R.out, if_neg (by simp)]
    exact ⟨rfl, GO.out⟩
  · have hkl : k < C.length := (List.getElem?_eq_some_iff.1 hk).1
    obtain ⟨b, t2, ep, hb, hbl, hk2, hcs, hfz⟩ := cel_cells M1.out.cells hkl
    rw [hk] at hk2
    injection hk2 with e
    subst e ep
    have c4 := hcs 4 (by omega)
    simp only [rcs, List.getElem?_cons_zero, List.getElem?_cons_succ] at c4
    have q0 : (k : Int) < (C.length : Int) := by omega
    obtain ⟨wn, hwn⟩ : ∃ wn, wn = t.c.when := ⟨_, rfl⟩
    rw [← hwn] at c4
    have R : Hid (endsP S1 key = decide (0 ≤ wn)) := by show _ = _; unfold endsP; rw [hlk, hwn]
    by_cases a1 : 0 ≤ wn
    · have q2 : ¬ wn < 0 := by omega
      obtain ⟨m2, u2⟩ := M1.out.whenTo OK1.out.nd (-1) rfl hk
      obtain ⟨p0, c0, pp, cc, w3, e0, hr, hB, m3, u3, f3⟩ := m2.tell 1 key (by have := L.out; have := HC.out; show S1.events.length ≤ _; omega)
      have FIN : Hid (RGo w base wb X (w3.setCell ⟨wb, 2, none⟩ (.slice pp (S1.events.length + 1) cc)) { S1 with cells := setC S1.cells t.c.key (-1), events := S1.events ++ [(1, key)] }) := by
        have hF : ∀ b, rfoot wb _ ve b → X b ∨ w.heap.size ≤ b := F1.out.1
        refine m3.st (OK1.out.setW (by omega) (by omega)) (fun b hb => ?_) ((F1.out.2.trans u2 (fun i hi g => ?_)).trans u3 (fun i hi g => ?_))
        · rcases f3 b hb with g | g
          · exact hF b g
          · right; have := F1.out.2.size; have := u2.size; omega
        · rcases hF i g with g | g
          · exact g
          · omega
        · rcases hF i g with g | g
          · exact g
          · omega
      rw [ht] at FIN
      have x2 : w1.cell? ⟨wb, 2, none⟩ = some ve := M1.out.blk.cellAt (i := 2) rfl
      have k2 := hB.cellAt (i := 2) rfl
      have l3 := hB.lt
      have f3b := hB.free 2
      have nb : ¬ b = wb := (M1.out.nes rfl).1
      have nb2 : ¬ wb = b := fun e => nb e.symm
      have fb := hfz (k * 5 + 4)
      have hr : (Builtin.append_ #[42, 42] 42 #[ve, .slice (some ⟨w1.heap.size, 0, none⟩) 1 1]).run Tryz.prog ((w1.setCell ⟨b, k * 5 + 4, none⟩ (.int .i64 (-1))).alloc (.cells #[.int .i64 1, .string key] 63)) = .ok (.slice pp (S1.events.length + 1) cc) w3 := by
        rw [World.size_setCell] at hr; exact hr
      subst e0
      clear m2 u2 m3 u3 f3 hB hfz
      have e1 : ({ cells := setC S1.cells t.c.key (-1), budget := S1.budget, events := S1.events } : PS).events = S1.events := rfl
      rw [e1] at hr k2 x2
      clear hn hat hlk hk hs ht hcs hwn
      generalize C.length = nl at *
      generalize S1.events.length = ne at *
      go_wp2_with (at_builtin; refine wpList_builtinN rfl _ _ 42 rfl _ _ rfl rfl hr ?_)
      go_wp2
      go_ret
      rw [← PE.out, R.out, if_pos (decide_eq_true a1)]
      exact ⟨by simp [a1], FIN.out⟩
    · have q2 : wn < 0 := by omega
      clear hn hat hlk hk hs ht hcs hwn
      generalize C.length = nl at *
      go_wp2
      go_ret
      rw [← PE.out, R.out, if_neg (by simp; omega)]
      exact ⟨by simp; omega, GO.out⟩
set_option maxHeartbeats 4000000 in
set_option maxRecDepth 100000 in
theorem qexpire_any {w : World} {base wb : Nat} {X : Nat → Prop} {S : PS} (h : RSt w base wb X S) (key : ByteArray) (tt now : Int) (hc : S.cells.length ≤ 10000) (hl : S.events.length ≤ 900000) (hn0 : 0 ≤ now) :
    Calls Tryz.prog 33 #[.pointer (some ⟨wb, 0, none⟩), .string key, .int .i64 tt, .int .i64 now] w fun e w' => e = .returned (.bool (wasP (dueP S key now) key)) ∧ RGo w base wb X w' (expireP S key tt now) := by
  obtain ⟨S2, hS2⟩ : ∃ S2, expireP S key tt now = S2 := ⟨_, rfl⟩
  rw [hS2]
  unfold expireP at hS2
  have PE := Lib.hid hS2
  clear hS2
  have D := Lib.hid (rdue_any h key now hc (by omega))
  have L := Lib.hid (dueP_lenR S key now)
  have HC := Lib.hid (And.intro hc hl)
  generalize dueP S key now = S1 at *
  clear h hc hl
  go_enter Tryz.func33, Tryz.ntmps33
  go_wp2_with fail
  refine (D.out).mono ?_
  rintro e w1 ⟨r, rfl, a1⟩
  have GO := Lib.hid a1.go
  obtain ⟨vs, ve, C, m1, ok1, f1, u1, hat⟩ := a1
  obtain ⟨p, c, ev, hm, hle⟩ := m1.cells.slice
  subst ev
  unfold maxLen at hm
  have x0 := m1.blk.cellAt (i := 0) (v := .slice p C.length c) rfl
  have hwb := m1.blk.lt
  have M1 := Lib.hid m1
  have OK1 := Lib.hid ok1
  have F1 := Lib.hid (And.intro f1 u1)
  clear D m1 ok1 f1 u1
  rcases hat.look M1.out.eq OK1.out.nd with ⟨rfl, hlk, hn⟩ | ⟨k, t, rfl, hk, hs, ht, hlk, hn⟩
  · have R : Hid (wasP S1 key = false) := decide_eq_false hn
    clear hn hat hlk
    go_wp2
    go_ret
    rw [← PE.out, R.out, if_neg (by simp)]
    exact ⟨rfl, GO.out⟩
  · have R : Hid (wasP S1 key = true) := decide_eq_true hn
    by_cases a1 : tt ≤ now
    · obtain ⟨X1, r1, fx, ux⟩ := GO.out
      have G := Lib.hid (rgone_any r1 key 2 (by have := L.out; have := HC.out; omega) (by have := L.out; have := HC.out; omega))
      have FX := Lib.hid (And.intro fx ux)
      clear hn hat hlk hk hs ht r1 fx ux
      generalize C.length = nl at *
      go_wp2_with (fail)
      go_at_call 60
      refine G.out.mono ?_
      rintro e w2 ⟨rfl, g2⟩
      have FIN := Lib.hid (g2.onTo FX.out.1 FX.out.2)
      clear g2 FX G
      go_wp2
      go_ret
      rw [← PE.out, if_pos R.out, if_pos a1]
      exact ⟨rfl, FIN.out⟩
    · have hkl : k < C.length := (List.getElem?_eq_some_iff.1 hk).1
      obtain ⟨b, t2, ep, hb, hbl, hk2, hcs, hfz⟩ := cel_cells M1.out.cells hkl
      rw [hk] at hk2
      injection hk2 with e
      subst e ep
      have c4 := hcs 4 (by omega)
      simp only [rcs, List.getElem?_cons_zero, List.getElem?_cons_succ] at c4
      have q0 : (k : Int) < (C.length : Int) := by omega
      by_cases a2 : 4611686018427387904 < tt
      · obtain ⟨m2, u2⟩ := M1.out.whenTo OK1.out.nd 4611686018427387904 rfl hk
        obtain ⟨p0, c0, pp, cc, w3, e0, hr, hB, m3, u3, f3⟩ := m2.tell 1 key (by have := L.out; have := HC.out; show S1.events.length ≤ _; omega)
        have FIN : Hid (RGo w base wb X (w3.setCell ⟨wb, 2, none⟩ (.slice pp (S1.events.length + 1) cc)) { S1 with cells := setC S1.cells t.c.key 4611686018427387904, events := S1.events ++ [(1, key)] }) := by
          have hF : ∀ b, rfoot wb _ ve b → X b ∨ w.heap.size ≤ b := F1.out.1
          refine m3.st (OK1.out.setW (by omega) (by omega)) (fun b hb => ?_) ((F1.out.2.trans u2 (fun i hi g => ?_)).trans u3 (fun i hi g => ?_))
          · rcases f3 b hb with g | g
            · exact hF b g
            · right; have := F1.out.2.size; have := u2.size; omega
          · rcases hF i g with g | g
            · exact g
            · omega
          · rcases hF i g with g | g
            · exact g
            · omega
        rw [ht] at FIN
        have x2 : w1.cell? ⟨wb, 2, none⟩ = some ve := M1.out.blk.cellAt (i := 2) rfl
        have k2 := hB.cellAt (i := 2) rfl
        have l3 := hB.lt
        have f3b := hB.free 2
        have nb : ¬ b = wb := (M1.out.nes rfl).1
        have nb2 : ¬ wb = b := fun e => nb e.symm
        have fb := hfz (k * 5 + 4)
        have hr : (Builtin.append_ #[42, 42] 42 #[ve, .slice (some ⟨w1.heap.size, 0, none⟩) 1 1]).run Tryz.prog ((w1.setCell ⟨b, k * 5 + 4, none⟩ (.int .i64 4611686018427387904)).alloc (.cells #[.int .i64 1, .string key] 63)) = .ok (.slice pp (S1.events.length + 1) cc) w3 := by
          rw [World.size_setCell] at hr; exact hr
        subst e0
        clear m2 u2 m3 u3 f3 hB hfz
        have e1 : ({ cells := setC S1.cells t.c.key 4611686018427387904, budget := S1.budget, events := S1.events } : PS).events = S1.events := rfl
        rw [e1] at hr k2 x2
        clear hn hat hlk hk hs ht hcs
        generalize C.length = nl at *
        generalize S1.events.length = ne at *
        go_wp2_with (at_builtin; refine wpList_builtinN rfl _ _ 42 rfl _ _ rfl rfl hr ?_)
        go_wp2
        go_ret
        rw [← PE.out, if_pos R.out, if_neg (show ¬ tt ≤ now by omega), show min tt 4611686018427387904 = 4611686018427387904 by omega]
        exact ⟨by rw [R.out]; rfl, FIN.out⟩
      · obtain ⟨m2, u2⟩ := M1.out.whenTo OK1.out.nd tt rfl hk
        obtain ⟨p0, c0, pp, cc, w3, e0, hr, hB, m3, u3, f3⟩ := m2.tell 1 key (by have := L.out; have := HC.out; show S1.events.length ≤ _; omega)
        have FIN : Hid (RGo w base wb X (w3.setCell ⟨wb, 2, none⟩ (.slice pp (S1.events.length + 1) cc)) { S1 with cells := setC S1.cells t.c.key tt, events := S1.events ++ [(1, key)] }) := by
          have hF : ∀ b, rfoot wb _ ve b → X b ∨ w.heap.size ≤ b := F1.out.1
          refine m3.st (OK1.out.setW (by omega) (by omega)) (fun b hb => ?_) ((F1.out.2.trans u2 (fun i hi g => ?_)).trans u3 (fun i hi g => ?_))
          · rcases f3 b hb with g | g
            · exact hF b g
            · right; have := F1.out.2.size; have := u2.size; omega
          · rcases hF i g with g | g
            · exact g
            · omega
          · rcases hF i g with g | g
            · exact g
            · omega
        rw [ht] at FIN
        have x2 : w1.cell? ⟨wb, 2, none⟩ = some ve := M1.out.blk.cellAt (i := 2) rfl
        have k2 := hB.cellAt (i := 2) rfl
        have l3 := hB.lt
        have f3b := hB.free 2
        have nb : ¬ b = wb := (M1.out.nes rfl).1
        have nb2 : ¬ wb = b := fun e => nb e.symm
        have fb := hfz (k * 5 + 4)
        have hr : (Builtin.append_ #[42, 42] 42 #[ve, .slice (some ⟨w1.heap.size, 0, none⟩) 1 1]).run Tryz.prog ((w1.setCell ⟨b, k * 5 + 4, none⟩ (.int .i64 tt)).alloc (.cells #[.int .i64 1, .string key] 63)) = .ok (.slice pp (S1.events.length + 1) cc) w3 := by
          rw [World.size_setCell] at hr; exact hr
        subst e0
        clear m2 u2 m3 u3 f3 hB hfz
        have e1 : ({ cells := setC S1.cells t.c.key tt, budget := S1.budget, events := S1.events } : PS).events = S1.events := rfl
        rw [e1] at hr k2 x2
        clear hn hat hlk hk hs ht hcs
        generalize C.length = nl at *
        generalize S1.events.length = ne at *
        go_wp2_with (at_builtin; refine wpList_builtinN rfl _ _ 42 rfl _ _ rfl rfl hr ?_)
        go_wp2
        go_ret
        rw [← PE.out, if_pos R.out, if_neg (show ¬ tt ≤ now by omega), show min tt 4611686018427387904 = tt by omega]
        exact ⟨by rw [R.out]; rfl, FIN.out⟩
end Go.Proofs.YtgdenmddbgcacaaGreatDoor
