/- KeysRuns: the walk. -/
import Derived.Test.YthgojhchakclcaaRefM
import Derived.Test.YthgojhchakclcaaKeyL
import Derived.Test.YthgojhchakclcaaActs14
set_option linter.unusedVariables false
set_option linter.unusedSimpArgs false
set_option linter.unusedSectionVars false
namespace Go.Proofs.Ythgojhchakclcaa
open Go.RowKit

theorem adel_filter {ν : Type} {L : List (ByteArray × ν)} (hn : (akeys L).Nodup) (k : ByteArray) : adel L k = L.filter fun p => decide (p.1 ≠ k) := by
  induction L with
  | nil => rfl
  | cons q L ih =>
    simp only [akeys, List.map_cons, List.nodup_cons] at hn
    by_cases e : q.1 = k
    · simp only [adel, if_pos e]
      rw [List.filter_cons_of_neg (by simp [e])]
      refine (List.filter_eq_self.2 (fun p hp => ?_)).symm
      have : p.1 ≠ k := fun e2 => hn.1 (by rw [e, ← e2]; exact List.mem_map_of_mem hp)
      simpa using this
    · simp only [adel, if_neg e]
      rw [List.filter_cons_of_pos (by simpa using e), ih hn.2]
/-- Who has read what, and the document's rows beside it. -/
structure KR (w wr : World) (base kb wb : Nat) (most : Int) (v : Value) (T : List RowK) (n : Nat) : Prop where
  ex : ∃ E, KAt wr base kb most (T.map rk) n E ∧ ∀ b, refF wb v T b → ¬ E b
  ref : RefRaw wr base wb most v T
  upd : Upd (fun _ => False) w wr
  lo : w.heap.size ≤ base
  bl : base ≤ wr.heap.size
  sz : ∀ t ∈ T, t.key.size ≤ maxLen
section
variable {w wr w' : World} {base kb wb : Nat} {most : Int} {v : Value} {T : List RowK} {n : Nat}
theorem KR.keep0 (h : KR w wr base kb wb most v T n) (u : Upd (fun _ => False) wr w') : KR w w' base kb wb most v T n := by
  obtain ⟨E, h1, h2⟩ := h.ex
  exact ⟨⟨E, h1.keep u (fun _ _ h => h), h2⟩, h.ref.keep0 u, h.upd.trans u (fun _ _ h => h), h.lo, Nat.le_trans h.bl u.size, h.sz⟩
theorem KR.inv (h : KR w wr base kb wb most v T n) : KInv (T.map rk) n ∧ (akeys (T.map rk)).Nodup := by
  obtain ⟨E, h1, h2⟩ := h.ex
  exact ⟨h1.inv, h1.nodup⟩
theorem KR.len (h : KR w wr base kb wb most v T n) : T.length ≤ n := by have := h.inv.1.len; rwa [List.length_map] at this
theorem KR.rise (h : KR w wr base kb wb most v T n) : ∀ t ∈ T, Rising t.ids ∧ t.ids.length ≤ n := fun t ht => by
  have := h.inv.1.rise t.key t.ids (aget_of_mem (p := rk t) h.inv.2 (List.mem_map_of_mem ht))
  exact ⟨this.1, this.2.2⟩
theorem KR.more (h : KR w wr base kb wb most v T n) {m : Nat} (hm : n ≤ m) : KR w wr base kb wb most v T m := by
  obtain ⟨E, h1, h2⟩ := h.ex
  exact ⟨⟨E, h1.mono hm, h2⟩, h.ref, h.upd, h.lo, h.bl, h.sz⟩
/-- Behind the program's step, ahead of the document's. -/
structure KH (w wr : World) (base kb wb : Nat) (most : Int) (v : Value) (T : List RowK) (L' : Rows14) (n : Nat) : Prop where
  ex : ∃ E, KAt wr base kb most L' n E ∧ ∀ b, refF wb v T b → ¬ E b
  ref : RefRaw wr base wb most v T
  upd : Upd (fun _ => False) w wr
  lo : w.heap.size ≤ base
  bl : base ≤ wr.heap.size
theorem KR.half (h : KR w wr base kb wb most v T n) {E E' : Nat → Prop} {L' : Rows14} {m : Nat} (h1 : KAt wr base kb most (T.map rk) n E) (h2 : ∀ b, refF wb v T b → ¬ E b) (k : KAt w' base kb most L' m E') (u : Upd E wr w') (f : FromF E E' wr) : KH w w' base kb wb most v T L' m := by
  refine ⟨⟨E', k, fun b hb he => ?_⟩, h.ref.keep u h2, h.upd.trans u (fun b hb e => by have := (h1.lt b e).1; have := h.lo; omega), h.lo, Nat.le_trans h.bl u.size⟩
  rcases f b he with g | g
  · exact h2 b hb g
  · have := (h.ref.lt hb).2; omega
theorem KH.next {v' : Value} {T' : List RowK} {L' : Rows14} (h : KH w wr base kb wb most v T L' n) (e : T'.map rk = L') (r : RefRaw w' base wb most v' T') (u : Upd (refW wb v) wr w') (f : From2 (refF wb v T) (refF wb v' T') wr) (sz : ∀ t ∈ T', t.key.size ≤ maxLen) : KR w w' base kb wb most v' T' n := by
  obtain ⟨E, h1, h2⟩ := h.ex
  have hw : ∀ b, refW wb v b → refF wb v T b := fun b hb => hb.elim Or.inl (fun g => Or.inr (Or.inl g))
  refine ⟨⟨E, by rw [e]; exact h1.keep u (fun b he hb => h2 b (hw b hb) he), fun b hb he => ?_⟩, r, h.upd.trans u (fun b hb e => by have := (h.ref.lt (hw b e)).1; have := h.lo; omega), h.lo, Nat.le_trans h.bl u.size, sz⟩
  rcases f b hb with g | g
  · exact h2 b g he
  · have := (h1.lt b he).2; omega
theorem KR.addD (h : KR w wr base kb wb most v T n) (hn : n ≤ 9000) (hm : 1 ≤ most) (key : ByteArray) (id : Int) (cs : List Value) (ty : TypeId) (V : World) (uv : Upd (fun _ => False) (wr.alloc (.cells cs.toArray ty)) V) :
    Calls Try.prog 8 #[.pointer (some ⟨kb, 0, none⟩), .string key, .int .i64 id] V fun e w' => ∃ u, e = .returned (.tuple #[.string (add14 most (T.map rk) key id).1, u, .bool (add14 most (T.map rk) key id).2.2.1]) ∧ IntsAt w' base u (add14 most (T.map rk) key id).2.1 ∧
      KH w w' base kb wb most v T (add14 most (T.map rk) key id).2.2.2 (n + 1) ∧ Blk w' wr.heap.size cs ty := by
  obtain ⟨E, h1, h2⟩ := h.ex
  have ua : Upd (fun _ => False) wr V := ((Upd.refl _ _).alloc _).trans uv (fun _ _ h => h)
  refine (kadd_any base kb most _ n E key id V (h1.keep ua (fun _ _ h => h)) (by omega) hm).mono ?_
  rintro e w' ⟨u, rfl, hu, E', k, up, f, _⟩
  exact ⟨u, rfl, hu, (h.keep0 ua).half (h1.keep ua (fun _ _ h => h)) h2 k up f, up.blk (uv.blk (Blk.made wr cs ty) (fun h => h)) (fun e => by have := (h1.lt _ e).2; omega)⟩
theorem KR.takeD (h : KR w wr base kb wb most v T n) (hn : n ≤ 9000) (key : ByteArray) (cs : List Value) (ty : TypeId) (V : World) (uv : Upd (fun _ => False) (wr.alloc (.cells cs.toArray ty)) V) :
    Calls Try.prog 15 #[.pointer (some ⟨kb, 0, none⟩), .string key] V fun e w' => ∃ u, e = .returned u ∧ IntsAt w' base u ((aget (T.map rk) key).getD []) ∧
      KH w w' base kb wb most v T ((T.map rk).filter fun p => decide (p.1 ≠ key)) n ∧ Blk w' wr.heap.size cs ty := by
  obtain ⟨E, h1, h2⟩ := h.ex
  have ua : Upd (fun _ => False) wr V := ((Upd.refl _ _).alloc _).trans uv (fun _ _ h => h)
  have e0 := adel_filter h1.nodup key
  refine (take_any base kb most _ n E key V (h1.keep ua (fun _ _ h => h)) (by omega)).mono ?_
  rintro e w' ⟨u, rfl, hu, E', k, up, f, _⟩
  rw [e0] at k
  exact ⟨u, rfl, hu, (h.keep0 ua).half (h1.keep ua (fun _ _ h => h)) h2 k up f, up.blk (uv.blk (Blk.made wr cs ty) (fun h => h)) (fun e => by have := (h1.lt _ e).2; omega)⟩
theorem KR.dropD (h : KR w wr base kb wb most v T n) (hn : n ≤ 9000) (id : Int) (cs : List Value) (ty : TypeId) (V : World) (uv : Upd (fun _ => False) (wr.alloc (.cells cs.toArray ty)) V) :
    Calls Try.prog 10 #[.pointer (some ⟨kb, 0, none⟩), .int .i64 id] V fun e w' => e = .returned (.int .i64 ((T.length : Int) - ((drop14 (T.map rk) id).length : Int))) ∧
      KH w w' base kb wb most v T (drop14 (T.map rk) id) n ∧ Blk w' wr.heap.size cs ty := by
  obtain ⟨E, h1, h2⟩ := h.ex
  have ua : Upd (fun _ => False) wr V := ((Upd.refl _ _).alloc _).trans uv (fun _ _ h => h)
  refine (kdrop_any base kb most _ n E id V (h1.keep ua (fun _ _ h => h)) (by omega) (fun k hk => by
    simp only [akeys, List.map_map, List.mem_map, Function.comp] at hk
    obtain ⟨t, ht, rfl⟩ := hk
    exact h.sz t ht)).mono ?_
  rintro e w' ⟨rfl, E', k, up, f⟩
  exact ⟨by rw [List.length_map], (h.keep0 ua).half (h1.keep ua (fun _ _ h => h)) h2 k up f, up.blk (uv.blk (Blk.made wr cs ty) (fun h => h)) (fun e => by have := (h1.lt _ e).2; omega)⟩
theorem KR.clearD (h : KR w wr base kb wb most v T n) (cs : List Value) (ty : TypeId) (V : World) (uv : Upd (fun _ => False) (wr.alloc (.cells cs.toArray ty)) V) :
    Calls Try.prog 17 #[.pointer (some ⟨kb, 0, none⟩)] V fun e w' => e = .returned (.tuple #[]) ∧ KH w w' base kb wb most v T [] 0 ∧ Blk w' wr.heap.size cs ty := by
  obtain ⟨E, h1, h2⟩ := h.ex
  have ua : Upd (fun _ => False) wr V := ((Upd.refl _ _).alloc _).trans uv (fun _ _ h => h)
  refine (kclear_any base kb most _ n E V (h1.keep ua (fun _ _ h => h))).mono ?_
  rintro e w' ⟨rfl, E', k, up, f⟩
  exact ⟨rfl, (h.keep0 ua).half (h1.keep ua (fun _ _ h => h)) h2 k up f, up.blk (uv.blk (Blk.made wr cs ty) (fun h => h)) (fun e => by have := (h1.lt _ e).2; omega)⟩
theorem sz_drop {T' : List RowK} {id : Int} (h : ∀ t ∈ T, t.key.size ≤ maxLen) (e : T'.map rk = drop14 (T.map rk) id) : ∀ t ∈ T', t.key.size ≤ maxLen := fun t ht => by
  have : rk t ∈ drop14 (T.map rk) id := by rw [← e]; exact List.mem_map_of_mem ht
  unfold drop14 at this
  obtain ⟨p, hp, hq⟩ := List.mem_filterMap.1 this
  obtain ⟨s, hs, rfl⟩ := List.mem_map.1 hp
  have : s.key = t.key := by
    by_cases hc : cutId id (rk s).2 = []
    · rw [if_pos hc] at hq; cases hq
    · rw [if_neg hc] at hq; injection hq with hq; exact congrArg Prod.fst hq
  rw [← this]; exact h s hs
theorem sz_add {T' : List RowK} {key : ByteArray} {id : Int} (h : ∀ t ∈ T, t.key.size ≤ maxLen) (hk : key.size ≤ maxLen) (e : T'.map rk = (add14 most (T.map rk) key id).2.2.2) : ∀ t ∈ T', t.key.size ≤ maxLen := fun t ht => by
  have hm : t.key ∈ akeys (add14 most (T.map rk) key id).2.2.2 := by rw [← e]; simp only [akeys, List.map_map, List.mem_map]; exact ⟨t, ht, rfl⟩
  have hT : ∀ x ∈ akeys (T.map rk), x.size ≤ maxLen := fun x hx => by
    simp only [akeys, List.map_map, List.mem_map] at hx
    obtain ⟨s, hs, rfl⟩ := hx
    exact h s hs
  unfold add14 at hm
  split at hm
  · rw [mem_aset] at hm
    rcases hm with g | g
    · exact hT _ g
    · rw [g]; exact hk
  · split at hm
    · split at hm
      · simp [akeys] at hm; rw [hm]; exact hk
      · rename_i p r heq
        simp only [akeys, List.map_append, List.mem_append, List.map_cons, List.map_nil, List.mem_singleton] at hm
        rcases hm with g | g
        · exact hT _ (by rw [heq]; simp only [akeys, List.map_cons, List.mem_cons]; exact Or.inr g)
        · rw [g]; exact hk
    · simp only [akeys, List.map_append, List.mem_append, List.map_cons, List.map_nil, List.mem_singleton] at hm
      rcases hm with g | g
      · exact hT _ g
      · rw [g]; exact hk
end
set_option maxHeartbeats 32000000 in
set_option maxRecDepth 100000 in
theorem lawKRuns (most : Int) (hm1 : -9223372036854775808 ≤ most) (hm2 : most ≤ 9223372036854775807) (v0 : Value) (l : List Act14) (w : World) (h : RowOf act14c 3 w v0 l) (s : ∀ a ∈ l, a.key.size ≤ maxLen) :
    Calls Try.prog 4 #[.int .i64 most, v0] w fun e w' => e = .returned (.bool true) ∧ Upd (fun _ => False) w w' := by
  obtain ⟨p1, k1, rfl, b1⟩ := h.len
  unfold maxLen at b1
  have R0 := Lib.hid h
  have S1 := Lib.hid s
  have AL := Lib.hid (alive_any w)
  clear h s
  go_enter Try.func4, Try.ntmps4
  go_wp2_with fail
  refine (AL.out).mono ?_
  rintro e w1 ⟨rfl, u1⟩
  have U1 := Lib.hid u1
  clear u1 AL
  by_cases hgr : 80 < l.length
  · have q0 : (80 : Int) < (l.length : Int) := by omega
    generalize l.length = nl at *
    go_wp2
    go_ret
    exact ⟨rfl, U1.out⟩
  · have q0 : ¬ (80 : Int) < (l.length : Int) := by omega
    have NW := Lib.hid (knew_any most w1 hm1 hm2 w1.heap.size (Nat.le_refl _))
    clear hm1 hm2
    go_wp2_with fail
    refine (NW.out).mono ?_
    rintro e w2 ⟨kb, E2, rfl, k2, u2, f2⟩
    have K2 := Lib.hid k2
    have U2 := Lib.hid u2
    have RN := Lib.hid (ref_new most w2 w1.heap.size u2.size)
    clear k2 u2 f2 NW
    go_wp2_with fail
    refine (RN.out).mono ?_
    rintro e w3 ⟨wb, rfl, r3, u3, f3⟩
    obtain ⟨M, hM⟩ : ∃ M, M = max most 1 := ⟨_, rfl⟩
    rw [← hM] at r3
    have HM : Hid (1 ≤ M) := by show 1 ≤ M; omega
    obtain ⟨base, hbase⟩ : ∃ base, base = w1.heap.size := ⟨_, rfl⟩
    rw [← hbase] at r3
    have K0 : Hid (KR w w3 base kb wb M (.slice none 0 0) [] 0) := by
      have kk := K2.out
      rw [← hM, ← hbase] at kk
      exact ⟨⟨E2, kk.keep u3 (fun _ _ h => h), fun b hb he => by have := f3 b hb; have := (kk.lt b he).2; omega⟩, r3, (U1.out.trans U2.out (fun _ _ h => h)).trans u3 (fun _ _ h => h), by rw [hbase]; exact U1.out.size, by rw [hbase]; exact Nat.le_trans U2.out.size u3.size, fun t ht => by simp at ht⟩
    clear r3 u3 f3 RN hM hbase K2 U2 U1
    go_wp2
    go_loopw [26] (fun x26 wr => ∃ (k : Nat) (v : Value) (T : List RowK), x26 = .int .i64 (k : Int) ∧ k ≤ l.length ∧ Hid (KR w wr base kb wb M v T k)) (fun x26 _ => l.length - (intOf x26).toNat)
    case atStart => exact ⟨0, _, [], rfl, Nat.zero_le _, K0⟩
    case round =>
      clear K0
      obtain ⟨k, v, T, rfl, hk, KK0⟩ := hrel
      by_cases hlt : k < l.length
      · have q1 : (k : Int) < (l.length : Int) := by omega
        obtain ⟨b, off, a, ep, hb, hak, c0, c1, c2'⟩ := act14_cells (R0.out.keep KK0.out.upd (fun _ _ _ h => h)) hlt
        subst ep
        have HSZ := Lib.hid (S1.out a (List.mem_of_getElem? hak))
        have hTl := KK0.out.len
        have RIS := Lib.hid KK0.out.rise
        have HDB := Lib.hid (fun q hq => (KK0.out.ref.lt (b := q) hq).2)
        clear hak
        by_cases hk0 : a.kind = 0
        · have AD := Lib.hid (KK0.out.addD (by omega) HM.out a.key a.id [.int .i64 0, .int .i64 a.id, .string a.key] 28 _ (Upd.refl _ _))
          rw [hk0] at c0
          go_wp2_with fail
          refine (AD.out).mono ?_
          rintro e w4 ⟨u4, rfl, i4, kh4, bx4⟩
          have x1 := bx4.cellAt (i := 1) (v := .int .i64 a.id) rfl
          have x2 := bx4.cellAt (i := 2) (v := .string a.key) rfl
          have RD := Lib.hid (ref_add kh4.ref (by omega) (fun t ht => ⟨(RIS.out t ht).1, by have := (RIS.out t ht).2; omega⟩) HM.out kh4.bl a.key a.id)
          have I4 := Lib.hid i4
          have KH4 := Lib.hid kh4
          have BX4 := Lib.hid bx4
          clear i4 kh4 bx4 AD
          go_wp2_with fail
          refine (RD.out).mono ?_
          rintro e w6 ⟨u5, v6, T6, rfl, i5, e6, r6, up6, f6⟩
          obtain ⟨p2, c2, ev6, _, _⟩ := r6.rows.slice
          subst ev6
          have KK : Hid (KR w w6 base kb wb M (.slice p2 T6.length c2) T6 (k + 1)) := KH4.out.next e6 r6 up6 f6 (sz_add KK0.out.sz HSZ.out e6)
          have BX6 : Hid (Blk w6 wr.heap.size [.int .i64 0, .int .i64 a.id, .string a.key] 28) := up6.blk BX4.out (fun e => by have := HDB.out _ (e.elim Or.inl (fun g => Or.inr (Or.inl g))); omega)
          have SM := Lib.hid (same14_any u4 u5 _ _ w6 (KH4.out.ref.intsW I4.out up6).row i5.row)
          clear i5 e6 r6 up6 f6 RD x1 x2 I4 BX4
          generalize (add14 M (T.map rk) a.key a.id).1 = k0 at *
          generalize (add14 M (T.map rk) a.key a.id).2.1 = ids0 at *
          generalize (add14 M (T.map rk) a.key a.id).2.2.1 = fl at *
          clear KH4 HDB RIS c0 c1 c2' hTl KK0
          obtain ⟨n2, hn2⟩ : ∃ n2, n2 = T6.length := ⟨_, rfl⟩
          have NN := Lib.hid hn2
          rw [← hn2] at KK
          clear hn2
          generalize wr.heap.size = ab at *
          go_wp2_with fail
          refine (SM.out).mono ?_
          rintro e w7 ⟨rfl, nq, rfl⟩
          have KK := Lib.hid (KK.out.keep0 ((Upd.refl _ _).drewN nq))
          have BX6 := Lib.hid (BX6.out.drewN nq)
          obtain ⟨w7, hw7⟩ : ∃ w7, w7 = w6.drewN nq := ⟨_, rfl⟩
          rw [← hw7] at KK BX6 ⊢
          clear hw7 SM
          obtain ⟨w6, rfl⟩ : ∃ w6, w6 = w7 := ⟨_, rfl⟩
          obtain ⟨E6, kat6, dis6⟩ := KK.out.ex
          obtain ⟨rb, F6, cb, hr⟩ := kat6.rec
          have HLn : Hid ((akeys (T6.map rk)).length = n2) := by show _ = _; rw [NN.out]; simp [akeys]
          have hl6 := KK.out.len
          have REF6 := Lib.hid KK.out.ref
          have LE : Hid (∀ v, Upd (fun _ => False) w6 v → Calls Try.prog 9 #[.pointer (some ⟨rb, 0, none⟩)] v fun e w' => e = .returned (.int .i64 (n2 : Int)) ∧ Upd (fun _ => False) w6 w') := by
            intro v u
            refine (rlen_any rb _ F6 v (hr.keep u (fun _ _ h => h)) (by rw [HLn.out, NN.out]; omega)).mono ?_
            rintro e w' ⟨rfl, rfl⟩
            exact ⟨by rw [HLn.out], u⟩
          have LA : Hid (∀ v, Upd (fun _ => False) w6 v → Calls Try.prog 20 #[.pointer (some ⟨rb, 0, none⟩)] v fun e w' => ∃ v', e = .returned v' ∧ RowOf strc 1 w' v' (akeys (T6.map rk)) ∧ Upd (fun _ => False) v w') := by
            intro v u
            refine (all_any rb _ F6 v (hr.keep u (fun _ _ h => h)) (by rw [HLn.out, NN.out]; omega)).mono ?_
            rintro e w' ⟨v', rfl, i, u2⟩
            exact ⟨v', rfl, i.row, u2⟩
          have RA : Hid (∀ v, Upd (fun _ => False) w6 v → Calls Try.prog 21 #[.pointer (some ⟨wb, 0, none⟩)] v fun e w' => ∃ v', e = .returned v' ∧ RowOf strc 1 w' v' (akeys (T6.map rk)) ∧ Upd (fun _ => False) v w') := by
            intro v u
            refine (ref_all (REF6.out.keep0 u) (by omega)).mono ?_
            rintro e w' ⟨v', rfl, i, u2⟩
            exact ⟨v', rfl, i.row, u2⟩
          have S6 : Hid (∀ v3 v4 v, RowOf strc 1 v v3 (akeys (T6.map rk)) → RowOf strc 1 v v4 (akeys (T6.map rk)) → Calls Try.prog 19 #[v3, v4] v fun e w' => e = .returned (.bool true) ∧ Upd (fun _ => False) v w') := by
            intro v3 v4 v r r2
            refine (same06_any v3 v4 _ _ v r r2).mono ?_
            rintro e w' ⟨rfl, n, rfl⟩
            exact ⟨by rw [decide_eq_true rfl], (Upd.refl _ _).drewN n⟩
          have KI : Hid (∀ v, Upd (fun _ => False) w6 v → Calls Try.prog 11 #[.pointer (some ⟨kb, 0, none⟩), .string a.key] v fun e w' => ∃ v', e = .returned v' ∧ RowOf intc 1 w' v' ((aget (T6.map rk) a.key).getD []) ∧ Upd (fun _ => False) v w') := by
            intro v u
            refine (kids_any base kb M _ (k + 1) E6 a.key v (kat6.keep u (fun _ _ h => h)) (by omega)).mono ?_
            rintro e w' ⟨v', rfl, i, u2⟩
            exact ⟨v', rfl, i.row, u2⟩
          have RI : Hid (∀ v, Upd (fun _ => False) w6 v → Calls Try.prog 22 #[.pointer (some ⟨wb, 0, none⟩), .string a.key] v fun e w' => ∃ v', e = .returned v' ∧ RowOf intc 1 w' v' ((aget (T6.map rk) a.key).getD []) ∧ Upd (fun _ => False) v w') := by
            intro v u
            refine (ref_ids (REF6.out.keep0 u) (by omega) a.key).mono ?_
            rintro e w' ⟨v', rfl, i, u2⟩
            exact ⟨v', rfl, i.row, u2⟩
          have S4 : Hid (∀ v3 v4 v, RowOf intc 1 v v3 ((aget (T6.map rk) a.key).getD []) → RowOf intc 1 v v4 ((aget (T6.map rk) a.key).getD []) → Calls Try.prog 14 #[v3, v4] v fun e w' => e = .returned (.bool true) ∧ Upd (fun _ => False) v w') := by
            intro v3 v4 v r r2
            refine (same14_any v3 v4 _ _ v r r2).mono ?_
            rintro e w' ⟨rfl, n, rfl⟩
            exact ⟨by rw [decide_eq_true rfl], (Upd.refl _ _).drewN n⟩
          have cbl : kb < w6.heap.size := by
            rcases Nat.lt_or_ge kb w6.heap.size with g | g
            · exact g
            · simp [World.cell?, Array.getElem?_eq_none g] at cb
          have PS : Hid (∀ v, Upd (fun _ => False) w6 v → v.cell? ⟨kb, 0, none⟩ = some (.pointer (some ⟨rb, 0, none⟩)) ∧ v.cell? ⟨wb, 0, none⟩ = some (.slice p2 n2 c2) ∧ v.cell? ⟨ab, 2, none⟩ = some (.string a.key)) := fun v u =>
            ⟨(u.cell (p := ⟨kb, 0, none⟩) cbl (fun h => h)).trans cb, (REF6.out.keep0 u).blk.cellAt (i := 0) rfl, (u.blk BX6.out (fun h => h)).cellAt (i := 2) (v := .string a.key) rfl⟩
          obtain ⟨y0, y1, y2⟩ := PS.out w6 (Upd.refl _ _)
          clear kat6 dis6 cb hr hl6 cbl HLn REF6
          go_wp2_with fail
          refine wp_region_held_drew (S := (fun w' => w'.cell? ⟨kb, 0, none⟩ = some (.pointer (some ⟨rb, 0, none⟩)) ∧ w'.cell? ⟨wb, 0, none⟩ = some (.slice p2 n2 c2) ∧ w'.cell? ⟨ab, 2, none⟩ = some (.string a.key))) (by kernel_rfl) ?_ (fun hHeld => ?_)
          · (try dsimp only); go_keep
          try simp only [Array.replicate, Act.put, List.setIfInBounds_toArray]
          refine' wpAnyH_take (i := 0) (oi := _) (v := _) ?hiRA1 (by kernel_rfl) (by kernel_rfl) (by kernel_rfl) ?hQRA1 ?hyRA1 (by assumption) ?restRA1
          case' hiRA1 => (first | (simp only [List.getElem?_toArray, List.getElem?_cons_succ, List.getElem?_cons_zero]; done) | (simp only [List.getElem?_toArray, List.getElem?_cons_succ, List.getElem?_cons_zero]; rfl))
          case' hQRA1 => exact fun _ _ _ h => h
          case' hyRA1 => refine Or.inl ⟨by rfl, ?_⟩
          (intro w hSw; (try dsimp only at hSw); go_simp; try with_reducible rfl)
          try simp only [Act.put, List.setIfInBounds_toArray, List.set_cons_zero, List.set_cons_succ]
          refine' wpAnyH_take (i := 1) (oi := _) (v := _) ?hiRA2 (by kernel_rfl) (by kernel_rfl) (by kernel_rfl) ?hQRA2 ?hyRA2 (by assumption) ?restRA2
          case' hiRA2 => (first | (simp only [List.getElem?_toArray, List.getElem?_cons_succ, List.getElem?_cons_zero]; done) | (simp only [List.getElem?_toArray, List.getElem?_cons_succ, List.getElem?_cons_zero]; rfl))
          case' hQRA2 => exact fun _ _ _ h => h
          case' hyRA2 => refine Or.inl ⟨by rfl, ?_⟩
          (intro w hSw; (try dsimp only at hSw); go_simp; try with_reducible rfl)
          try simp only [Act.put, List.setIfInBounds_toArray, List.set_cons_zero, List.set_cons_succ]
          refine' wpAnyH_take (i := 2) (oi := _) (v := _) ?hiRA3 (by kernel_rfl) (by kernel_rfl) (by kernel_rfl) ?hQRA3 ?hyRA3 (by assumption) ?restRA3
          case' hiRA3 => (first | (simp only [List.getElem?_toArray, List.getElem?_cons_succ, List.getElem?_cons_zero]; done) | (simp only [List.getElem?_toArray, List.getElem?_cons_succ, List.getElem?_cons_zero]; rfl))
          case' hQRA3 => exact fun _ _ _ h => h
          case' hyRA3 => refine Or.inl ⟨by rfl, ?_⟩
          (intro w hSw; (try dsimp only at hSw); go_simp; try with_reducible rfl)
          try simp only [Act.put, List.setIfInBounds_toArray, List.set_cons_zero, List.set_cons_succ]
          refine' wpAnyH_take (i := 3) (oi := _) (v := _) ?hiRA4 (by kernel_rfl) (by kernel_rfl) (by kernel_rfl) ?hQRA4 ?hyRA4 (by assumption) ?restRA4
          case' hiRA4 => (first | (simp only [List.getElem?_toArray, List.getElem?_cons_succ, List.getElem?_cons_zero]; done) | (simp only [List.getElem?_toArray, List.getElem?_cons_succ, List.getElem?_cons_zero]; rfl))
          case' hQRA4 => exact fun _ _ _ h => h
          case' hyRA4 => refine Or.inl ⟨by rfl, ?_⟩
          (intro w hSw; (try dsimp only at hSw); go_simp; try with_reducible rfl)
          try simp only [Act.put, List.setIfInBounds_toArray, List.set_cons_zero, List.set_cons_succ]
          refine' wpAnyH_take (i := 5) (oi := _) (v := _) ?hiRA5 (by kernel_rfl) (by kernel_rfl) (by kernel_rfl) ?hQRA5 ?hyRA5 (by assumption) ?restRA5
          case' hiRA5 => (first | (simp only [List.getElem?_toArray, List.getElem?_cons_succ, List.getElem?_cons_zero]; done) | (simp only [List.getElem?_toArray, List.getElem?_cons_succ, List.getElem?_cons_zero]; rfl))
          case' hQRA5 => exact fun _ _ _ h => h
          case' hyRA5 => refine Or.inl ⟨by rfl, ?_⟩
          (intro w hSw; (try dsimp only at hSw); go_simp; try with_reducible rfl)
          try simp only [Act.put, List.setIfInBounds_toArray, List.set_cons_zero, List.set_cons_succ]
          refine' wpAnyH_take (i := 6) (oi := _) (v := _) ?hiRA6 (by kernel_rfl) (by kernel_rfl) (by kernel_rfl) ?hQRA6 ?hyRA6 (by assumption) ?restRA6
          case' hiRA6 => (first | (simp only [List.getElem?_toArray, List.getElem?_cons_succ, List.getElem?_cons_zero]; done) | (simp only [List.getElem?_toArray, List.getElem?_cons_succ, List.getElem?_cons_zero]; rfl))
          case' hQRA6 => exact fun _ _ _ h => h
          case' hyRA6 => refine Or.inl ⟨by rfl, ?_⟩
          (intro w hSw; (try dsimp only at hSw); go_simp; try with_reducible rfl)
          try simp only [Act.put, List.setIfInBounds_toArray, List.set_cons_zero, List.set_cons_succ]
          refine' wpAnyH_take (i := 7) (oi := _) (v := _) ?hiRA7 (by kernel_rfl) (by kernel_rfl) (by kernel_rfl) ?hQRA7 ?hyRA7 (by assumption) ?restRA7
          case' hiRA7 => (first | (simp only [List.getElem?_toArray, List.getElem?_cons_succ, List.getElem?_cons_zero]; done) | (simp only [List.getElem?_toArray, List.getElem?_cons_succ, List.getElem?_cons_zero]; rfl))
          case' hQRA7 => exact fun _ _ _ h => h
          case' hyRA7 => refine Or.inl ⟨by rfl, ?_⟩
          (intro w hSw; (try dsimp only at hSw); go_simp; try with_reducible rfl)
          try simp only [Act.put, List.setIfInBounds_toArray, List.set_cons_zero, List.set_cons_succ]
          refine' wpAnyH_take (i := 8) (oi := _) (v := _) ?hiRA8 (by kernel_rfl) (by kernel_rfl) (by kernel_rfl) ?hQRA8 ?hyRA8 (by assumption) ?restRA8
          case' hiRA8 => (first | (simp only [List.getElem?_toArray, List.getElem?_cons_succ, List.getElem?_cons_zero]; done) | (simp only [List.getElem?_toArray, List.getElem?_cons_succ, List.getElem?_cons_zero]; rfl))
          case' hQRA8 => exact fun _ _ _ h => h
          case' hyRA8 => refine Or.inl ⟨by rfl, ?_⟩
          (intro w hSw; (try dsimp only at hSw); go_simp; try with_reducible rfl)
          try simp only [Act.put, List.setIfInBounds_toArray, List.set_cons_zero, List.set_cons_succ]
          refine' wpAnyH_take (i := 9) (oi := _) (v := _) ?hiRA9 (by kernel_rfl) (by kernel_rfl) (by kernel_rfl) ?hQRA9 ?hyRA9 (by assumption) ?restRA9
          case' hiRA9 => (first | (simp only [List.getElem?_toArray, List.getElem?_cons_succ, List.getElem?_cons_zero]; done) | (simp only [List.getElem?_toArray, List.getElem?_cons_succ, List.getElem?_cons_zero]; rfl))
          case' hQRA9 => exact fun _ _ _ h => h
          case' hyRA9 => refine Or.inl ⟨by rfl, ?_⟩
          (intro w hSw; (try dsimp only at hSw); go_simp; try with_reducible rfl)
          try simp only [Act.put, List.setIfInBounds_toArray, List.set_cons_zero, List.set_cons_succ]
          refine wpAnyH_ready (rs := [4]) (by kernel_rfl) (by simp) ?_
          refine' AllReadyH.cons (o := _) ?hiRA10 (fun K hK => ?hKRA10) AllReadyH.nil
          case' hiRA10 => (first | (simp only [List.getElem?_toArray, List.getElem?_cons_succ, List.getElem?_cons_zero]; done) | (simp only [List.getElem?_toArray, List.getElem?_cons_succ, List.getElem?_cons_zero]; rfl))
          go_simp
          (go_at_call 9; refine (LE.out _ (by first | exact Upd.refl _ _ | exact (Upd.refl _ _).drew)).mono ?_; rintro e w7 ⟨rfl, u7⟩; (have y7 := PS.out _ u7))
          refine hK.out _ _ ?_ (fun hHeld => ?_)
          · (try dsimp only); go_keep
          clear hK K
          try simp only [Act.put, List.setIfInBounds_toArray, List.set_cons_zero, List.set_cons_succ]
          refine' wpAnyH_take (i := 10) (oi := _) (v := _) ?hiRA11 (by kernel_rfl) (by kernel_rfl) (by kernel_rfl) ?hQRA11 ?hyRA11 (by assumption) ?restRA11
          case' hiRA11 => (first | (simp only [List.getElem?_toArray, List.getElem?_cons_succ, List.getElem?_cons_zero]; done) | (simp only [List.getElem?_toArray, List.getElem?_cons_succ, List.getElem?_cons_zero]; rfl))
          case' hQRA11 => exact fun _ _ _ h => h
          case' hyRA11 => refine Or.inl ⟨by rfl, ?_⟩
          (intro w hSw; (try dsimp only at hSw); go_simp; try with_reducible rfl)
          try simp only [Act.put, List.setIfInBounds_toArray, List.set_cons_zero, List.set_cons_succ]
          refine' wpAnyH_take (i := 11) (oi := _) (v := _) ?hiRA12 (by kernel_rfl) (by kernel_rfl) (by kernel_rfl) ?hQRA12 ?hyRA12 (by assumption) ?restRA12
          case' hiRA12 => (first | (simp only [List.getElem?_toArray, List.getElem?_cons_succ, List.getElem?_cons_zero]; done) | (simp only [List.getElem?_toArray, List.getElem?_cons_succ, List.getElem?_cons_zero]; rfl))
          case' hQRA12 => exact fun _ _ _ h => h
          case' hyRA12 => refine Or.inl ⟨by rfl, ?_⟩
          (intro w hSw; (try dsimp only at hSw); go_simp; try with_reducible rfl)
          try simp only [Act.put, List.setIfInBounds_toArray, List.set_cons_zero, List.set_cons_succ]
          refine' wpAnyH_take (i := 12) (oi := _) (v := _) ?hiRA13 (by kernel_rfl) (by kernel_rfl) (by kernel_rfl) ?hQRA13 ?hyRA13 (by assumption) ?restRA13
          case' hiRA13 => (first | (simp only [List.getElem?_toArray, List.getElem?_cons_succ, List.getElem?_cons_zero]; done) | (simp only [List.getElem?_toArray, List.getElem?_cons_succ, List.getElem?_cons_zero]; rfl))
          case' hQRA13 => exact fun _ _ _ h => h
          case' hyRA13 => refine Or.inl ⟨by rfl, ?_⟩
          (intro w hSw; (try dsimp only at hSw); go_simp; try with_reducible rfl)
          try simp only [Act.put, List.setIfInBounds_toArray, List.set_cons_zero, List.set_cons_succ]
          refine' wpAnyH_take (i := 13) (oi := _) (v := _) ?hiRA14 (by kernel_rfl) (by kernel_rfl) (by kernel_rfl) ?hQRA14 ?hyRA14 (by assumption) ?restRA14
          case' hiRA14 => (first | (simp only [List.getElem?_toArray, List.getElem?_cons_succ, List.getElem?_cons_zero]; done) | (simp only [List.getElem?_toArray, List.getElem?_cons_succ, List.getElem?_cons_zero]; rfl))
          case' hQRA14 => exact fun _ _ _ h => h
          case' hyRA14 => refine Or.inl ⟨by rfl, ?_⟩
          (intro w hSw; (try dsimp only at hSw); go_simp; try with_reducible rfl)
          try simp only [Act.put, List.setIfInBounds_toArray, List.set_cons_zero, List.set_cons_succ]
          refine' wpAnyH_take (i := 14) (oi := _) (v := _) ?hiRA15 (by kernel_rfl) (by kernel_rfl) (by kernel_rfl) ?hQRA15 ?hyRA15 (by assumption) ?restRA15
          case' hiRA15 => (first | (simp only [List.getElem?_toArray, List.getElem?_cons_succ, List.getElem?_cons_zero]; done) | (simp only [List.getElem?_toArray, List.getElem?_cons_succ, List.getElem?_cons_zero]; rfl))
          case' hQRA15 => exact fun _ _ _ h => h
          case' hyRA15 => refine Or.inl ⟨by rfl, ?_⟩
          (intro w hSw; (try dsimp only at hSw); go_simp; try with_reducible rfl)
          try simp only [Act.put, List.setIfInBounds_toArray, List.set_cons_zero, List.set_cons_succ]
          refine' wpAnyH_take (i := 15) (oi := _) (v := _) ?hiRA16 (by kernel_rfl) (by kernel_rfl) (by kernel_rfl) ?hQRA16 ?hyRA16 (by assumption) ?restRA16
          case' hiRA16 => (first | (simp only [List.getElem?_toArray, List.getElem?_cons_succ, List.getElem?_cons_zero]; done) | (simp only [List.getElem?_toArray, List.getElem?_cons_succ, List.getElem?_cons_zero]; rfl))
          case' hQRA16 => exact fun _ _ _ h => h
          case' hyRA16 => refine Or.inl ⟨by rfl, ?_⟩
          (intro w hSw; (try dsimp only at hSw); go_simp; try with_reducible rfl)
          try simp only [Act.put, List.setIfInBounds_toArray, List.set_cons_zero, List.set_cons_succ]
          refine' wpAnyH_take (i := 17) (oi := _) (v := _) ?hiRA17 (by kernel_rfl) (by kernel_rfl) (by kernel_rfl) ?hQRA17 ?hyRA17 (by assumption) ?restRA17
          case' hiRA17 => (first | (simp only [List.getElem?_toArray, List.getElem?_cons_succ, List.getElem?_cons_zero]; done) | (simp only [List.getElem?_toArray, List.getElem?_cons_succ, List.getElem?_cons_zero]; rfl))
          case' hQRA17 => exact fun _ _ _ h => h
          case' hyRA17 => refine Or.inl ⟨by rfl, ?_⟩
          (intro w hSw; (try dsimp only at hSw); go_simp; try with_reducible rfl)
          try simp only [Act.put, List.setIfInBounds_toArray, List.set_cons_zero, List.set_cons_succ]
          refine wpAnyH_ready (rs := [16]) (by kernel_rfl) (by simp) ?_
          refine' AllReadyH.cons (o := _) ?hiRA18 (fun K hK => ?hKRA18) AllReadyH.nil
          case' hiRA18 => (first | (simp only [List.getElem?_toArray, List.getElem?_cons_succ, List.getElem?_cons_zero]; done) | (simp only [List.getElem?_toArray, List.getElem?_cons_succ, List.getElem?_cons_zero]; rfl))
          go_simp
          (go_at_call 20; refine (LA.out w7 u7).mono ?_; rintro e w8 ⟨v8, rfl, i8, v_8⟩; (have u8 := u7.trans v_8 (fun _ _ h => h)); (have y8 := PS.out _ u8))
          refine hK.out _ _ ?_ (fun hHeld => ?_)
          · (try dsimp only); go_keep
          clear hK K
          try simp only [Act.put, List.setIfInBounds_toArray, List.set_cons_zero, List.set_cons_succ]
          refine wpAnyH_ready (rs := [18]) (by kernel_rfl) (by simp) ?_
          refine' AllReadyH.cons (o := _) ?hiRA19 (fun K hK => ?hKRA19) AllReadyH.nil
          case' hiRA19 => (first | (simp only [List.getElem?_toArray, List.getElem?_cons_succ, List.getElem?_cons_zero]; done) | (simp only [List.getElem?_toArray, List.getElem?_cons_succ, List.getElem?_cons_zero]; rfl))
          go_simp
          (go_at_call 21; refine (RA.out w8 u8).mono ?_; rintro e w9 ⟨v9, rfl, i9, v_9⟩; (have i8 := i8.keep v_9 (fun _ _ _ h => h)); (have u9 := u8.trans v_9 (fun _ _ h => h)); (have y9 := PS.out _ u9))
          refine hK.out _ _ ?_ (fun hHeld => ?_)
          · (try dsimp only); go_keep
          clear hK K
          try simp only [Act.put, List.setIfInBounds_toArray, List.set_cons_zero, List.set_cons_succ]
          refine wpAnyH_ready (rs := [19]) (by kernel_rfl) (by simp) ?_
          refine' AllReadyH.cons (o := _) ?hiRA20 (fun K hK => ?hKRA20) AllReadyH.nil
          case' hiRA20 => (first | (simp only [List.getElem?_toArray, List.getElem?_cons_succ, List.getElem?_cons_zero]; done) | (simp only [List.getElem?_toArray, List.getElem?_cons_succ, List.getElem?_cons_zero]; rfl))
          go_simp
          (go_at_call 19; refine (S6.out v8 v9 w9 i8 i9).mono ?_; rintro e w10 ⟨rfl, v_10⟩; (have u10 := u9.trans v_10 (fun _ _ h => h)); (have y10 := PS.out _ u10); clear i8 i9)
          refine hK.out _ _ ?_ (fun hHeld => ?_)
          · (try dsimp only); go_keep
          clear hK K
          try simp only [Act.put, List.setIfInBounds_toArray, List.set_cons_zero, List.set_cons_succ]
          refine' wpAnyH_take (i := 20) (oi := _) (v := _) ?hiRA21 (by kernel_rfl) (by kernel_rfl) (by kernel_rfl) ?hQRA21 ?hyRA21 (by assumption) ?restRA21
          case' hiRA21 => (first | (simp only [List.getElem?_toArray, List.getElem?_cons_succ, List.getElem?_cons_zero]; done) | (simp only [List.getElem?_toArray, List.getElem?_cons_succ, List.getElem?_cons_zero]; rfl))
          case' hQRA21 => exact fun _ _ _ h => h
          case' hyRA21 => refine Or.inl ⟨by rfl, ?_⟩
          (intro w hSw; (try dsimp only at hSw); go_simp; try with_reducible rfl)
          try simp only [Act.put, List.setIfInBounds_toArray, List.set_cons_zero, List.set_cons_succ]
          refine' wpAnyH_take (i := 21) (oi := _) (v := _) ?hiRA22 (by kernel_rfl) (by kernel_rfl) (by kernel_rfl) ?hQRA22 ?hyRA22 (by assumption) ?restRA22
          case' hiRA22 => (first | (simp only [List.getElem?_toArray, List.getElem?_cons_succ, List.getElem?_cons_zero]; done) | (simp only [List.getElem?_toArray, List.getElem?_cons_succ, List.getElem?_cons_zero]; rfl))
          case' hQRA22 => exact fun _ _ _ h => h
          case' hyRA22 => refine Or.inl ⟨by rfl, ?_⟩
          (intro w hSw; (try dsimp only at hSw); go_simp; try with_reducible rfl)
          try simp only [Act.put, List.setIfInBounds_toArray, List.set_cons_zero, List.set_cons_succ]
          refine' wpAnyH_take (i := 22) (oi := _) (v := _) ?hiRA23 (by kernel_rfl) (by kernel_rfl) (by kernel_rfl) ?hQRA23 ?hyRA23 (by assumption) ?restRA23
          case' hiRA23 => (first | (simp only [List.getElem?_toArray, List.getElem?_cons_succ, List.getElem?_cons_zero]; done) | (simp only [List.getElem?_toArray, List.getElem?_cons_succ, List.getElem?_cons_zero]; rfl))
          case' hQRA23 => exact fun _ _ _ h => h
          case' hyRA23 => refine Or.inl ⟨by rfl, ?_⟩
          (intro w hSw; (try dsimp only at hSw); go_simp; try with_reducible rfl)
          try simp only [Act.put, List.setIfInBounds_toArray, List.set_cons_zero, List.set_cons_succ]
          refine' wpAnyH_take (i := 23) (oi := _) (v := _) ?hiRA24 (by kernel_rfl) (by kernel_rfl) (by kernel_rfl) ?hQRA24 ?hyRA24 (by assumption) ?restRA24
          case' hiRA24 => (first | (simp only [List.getElem?_toArray, List.getElem?_cons_succ, List.getElem?_cons_zero]; done) | (simp only [List.getElem?_toArray, List.getElem?_cons_succ, List.getElem?_cons_zero]; rfl))
          case' hQRA24 => exact fun _ _ _ h => h
          case' hyRA24 => refine Or.inl ⟨by rfl, ?_⟩
          (intro w hSw; (try dsimp only at hSw); go_simp; try with_reducible rfl)
          try simp only [Act.put, List.setIfInBounds_toArray, List.set_cons_zero, List.set_cons_succ]
          refine' wpAnyH_take (i := 24) (oi := _) (v := _) ?hiRA25 (by kernel_rfl) (by kernel_rfl) (by kernel_rfl) ?hQRA25 ?hyRA25 (by assumption) ?restRA25
          case' hiRA25 => (first | (simp only [List.getElem?_toArray, List.getElem?_cons_succ, List.getElem?_cons_zero]; done) | (simp only [List.getElem?_toArray, List.getElem?_cons_succ, List.getElem?_cons_zero]; rfl))
          case' hQRA25 => exact fun _ _ _ h => h
          case' hyRA25 => refine Or.inl ⟨by rfl, ?_⟩
          (intro w hSw; (try dsimp only at hSw); go_simp; try with_reducible rfl)
          try simp only [Act.put, List.setIfInBounds_toArray, List.set_cons_zero, List.set_cons_succ]
          refine' wpAnyH_take (i := 25) (oi := _) (v := _) ?hiRA26 (by kernel_rfl) (by kernel_rfl) (by kernel_rfl) ?hQRA26 ?hyRA26 (by assumption) ?restRA26
          case' hiRA26 => (first | (simp only [List.getElem?_toArray, List.getElem?_cons_succ, List.getElem?_cons_zero]; done) | (simp only [List.getElem?_toArray, List.getElem?_cons_succ, List.getElem?_cons_zero]; rfl))
          case' hQRA26 => exact fun _ _ _ h => h
          case' hyRA26 => refine Or.inl ⟨by rfl, ?_⟩
          (intro w hSw; (try dsimp only at hSw); go_simp; try with_reducible rfl)
          try simp only [Act.put, List.setIfInBounds_toArray, List.set_cons_zero, List.set_cons_succ]
          refine' wpAnyH_take (i := 27) (oi := _) (v := _) ?hiRA27 (by kernel_rfl) (by kernel_rfl) (by kernel_rfl) ?hQRA27 ?hyRA27 (by assumption) ?restRA27
          case' hiRA27 => (first | (simp only [List.getElem?_toArray, List.getElem?_cons_succ, List.getElem?_cons_zero]; done) | (simp only [List.getElem?_toArray, List.getElem?_cons_succ, List.getElem?_cons_zero]; rfl))
          case' hQRA27 => exact fun _ _ _ h => h
          case' hyRA27 => refine Or.inl ⟨by rfl, ?_⟩
          (intro w hSw; (try dsimp only at hSw); go_simp; try with_reducible rfl)
          try simp only [Act.put, List.setIfInBounds_toArray, List.set_cons_zero, List.set_cons_succ]
          refine' wpAnyH_take (i := 28) (oi := _) (v := _) ?hiRA28 (by kernel_rfl) (by kernel_rfl) (by kernel_rfl) ?hQRA28 ?hyRA28 (by assumption) ?restRA28
          case' hiRA28 => (first | (simp only [List.getElem?_toArray, List.getElem?_cons_succ, List.getElem?_cons_zero]; done) | (simp only [List.getElem?_toArray, List.getElem?_cons_succ, List.getElem?_cons_zero]; rfl))
          case' hQRA28 => exact fun _ _ _ h => h
          case' hyRA28 => refine Or.inl ⟨by rfl, ?_⟩
          (intro w hSw; (try dsimp only at hSw); go_simp; try with_reducible rfl)
          try simp only [Act.put, List.setIfInBounds_toArray, List.set_cons_zero, List.set_cons_succ]
          refine' wpAnyH_take (i := 29) (oi := _) (v := _) ?hiRA29 (by kernel_rfl) (by kernel_rfl) (by kernel_rfl) ?hQRA29 ?hyRA29 (by assumption) ?restRA29
          case' hiRA29 => (first | (simp only [List.getElem?_toArray, List.getElem?_cons_succ, List.getElem?_cons_zero]; done) | (simp only [List.getElem?_toArray, List.getElem?_cons_succ, List.getElem?_cons_zero]; rfl))
          case' hQRA29 => exact fun _ _ _ h => h
          case' hyRA29 => refine Or.inl ⟨by rfl, ?_⟩
          (intro w hSw; (try dsimp only at hSw); go_simp; try with_reducible rfl)
          try simp only [Act.put, List.setIfInBounds_toArray, List.set_cons_zero, List.set_cons_succ]
          refine wpAnyH_ready (rs := [26]) (by kernel_rfl) (by simp) ?_
          refine' AllReadyH.cons (o := _) ?hiRA30 (fun K hK => ?hKRA30) AllReadyH.nil
          case' hiRA30 => (first | (simp only [List.getElem?_toArray, List.getElem?_cons_succ, List.getElem?_cons_zero]; done) | (simp only [List.getElem?_toArray, List.getElem?_cons_succ, List.getElem?_cons_zero]; rfl))
          go_simp
          (go_at_call 11; refine (KI.out w10 u10).mono ?_; rintro e w11 ⟨v11, rfl, i11, v_11⟩; (have u11 := u10.trans v_11 (fun _ _ h => h)); (have y11 := PS.out _ u11))
          refine hK.out _ _ ?_ (fun hHeld => ?_)
          · (try dsimp only); go_keep
          clear hK K
          try simp only [Act.put, List.setIfInBounds_toArray, List.set_cons_zero, List.set_cons_succ]
          refine wpAnyH_ready (rs := [30]) (by kernel_rfl) (by simp) ?_
          refine' AllReadyH.cons (o := _) ?hiRA31 (fun K hK => ?hKRA31) AllReadyH.nil
          case' hiRA31 => (first | (simp only [List.getElem?_toArray, List.getElem?_cons_succ, List.getElem?_cons_zero]; done) | (simp only [List.getElem?_toArray, List.getElem?_cons_succ, List.getElem?_cons_zero]; rfl))
          go_simp
          (go_at_call 22; refine (RI.out w11 u11).mono ?_; rintro e w12 ⟨v12, rfl, i12, v_12⟩; (have i11 := i11.keep v_12 (fun _ _ _ h => h)); (have u12 := u11.trans v_12 (fun _ _ h => h)); (have y12 := PS.out _ u12))
          refine hK.out _ _ ?_ (fun hHeld => ?_)
          · (try dsimp only); go_keep
          clear hK K
          try simp only [Act.put, List.setIfInBounds_toArray, List.set_cons_zero, List.set_cons_succ]
          refine wpAnyH_ready (rs := [31]) (by kernel_rfl) (by simp) ?_
          refine' AllReadyH.cons (o := _) ?hiRA32 (fun K hK => ?hKRA32) AllReadyH.nil
          case' hiRA32 => (first | (simp only [List.getElem?_toArray, List.getElem?_cons_succ, List.getElem?_cons_zero]; done) | (simp only [List.getElem?_toArray, List.getElem?_cons_succ, List.getElem?_cons_zero]; rfl))
          go_simp
          (go_at_call 14; refine (S4.out v11 v12 w12 i11 i12).mono ?_; rintro e w13 ⟨rfl, v_13⟩; (have u13 := u12.trans v_13 (fun _ _ h => h)); (have y13 := PS.out _ u13); clear i11 i12)
          refine hK.out _ _ ?_ (fun hHeld => ?_)
          · (try dsimp only); go_keep
          clear hK K
          try simp only [Act.put, List.setIfInBounds_toArray, List.set_cons_zero, List.set_cons_succ]
          refine' wpAnyH_take (i := 32) (oi := _) (v := _) ?hiRA33 (by kernel_rfl) (by kernel_rfl) (by kernel_rfl) ?hQRA33 ?hyRA33 (by assumption) ?restRA33
          case' hiRA33 => (first | (simp only [List.getElem?_toArray, List.getElem?_cons_succ, List.getElem?_cons_zero]; done) | (simp only [List.getElem?_toArray, List.getElem?_cons_succ, List.getElem?_cons_zero]; rfl))
          case' hQRA33 => exact fun _ _ _ h => h
          case' hyRA33 => refine Or.inl ⟨by rfl, ?_⟩
          (intro w hSw; (try dsimp only at hSw); go_simp; try with_reducible rfl)
          try simp only [Act.put, List.setIfInBounds_toArray, List.set_cons_zero, List.set_cons_succ]
          refine' wpAnyH_take (i := 33) (oi := _) (v := _) ?hiRA34 (by kernel_rfl) (by kernel_rfl) (by kernel_rfl) ?hQRA34 ?hyRA34 (by assumption) ?restRA34
          case' hiRA34 => (first | (simp only [List.getElem?_toArray, List.getElem?_cons_succ, List.getElem?_cons_zero]; done) | (simp only [List.getElem?_toArray, List.getElem?_cons_succ, List.getElem?_cons_zero]; rfl))
          case' hQRA34 => exact fun _ _ _ h => h
          case' hyRA34 => refine Or.inl ⟨by rfl, ?_⟩
          (intro w hSw; (try dsimp only at hSw); go_simp; try with_reducible rfl)
          try simp only [Act.put, List.setIfInBounds_toArray, List.set_cons_zero, List.set_cons_succ]
          refine wpAnyH_done (by kernel_rfl) ?_ _
          have KF := Lib.hid (KK.out.keep0 u13)
          go_wp2
          go_roundw
          case rel => exact ⟨k + 1, _, T6, by simp, by omega, KF⟩
          case measure => simp [intOf]; omega
        · by_cases hk1 : a.kind = 1
          · have TK : Hid (∀ V, Upd (fun _ => False) (wr.alloc (.cells #[.int .i64 1, .int .i64 a.id, .string a.key] 28)) V → _) := fun V uv => KK0.out.takeD (by omega) a.key [.int .i64 1, .int .i64 a.id, .string a.key] 28 V uv
            rw [hk1] at c0
            have RT : Hid (∀ w4, KH w w4 base kb wb M v T ((T.map rk).filter fun p => decide (p.1 ≠ a.key)) k → Calls Try.prog 16 #[.pointer (some ⟨wb, 0, none⟩), .string a.key] w4 fun e w' => ∃ u, e = .returned u ∧ RowOf intc 1 w' u ((aget (T.map rk) a.key).getD []) ∧ ∃ v' T', KR w w' base kb wb M v' T' (k + 1) ∧ Upd (refW wb v) w4 w') := fun w4 kh4 => by
              refine (ref_take kh4.ref (by omega) kh4.bl a.key).mono ?_
              rintro e w' ⟨u, rfl, hu, v', r6, up6, f6⟩
              exact ⟨u, rfl, hu.row, v', _, (kh4.next (cutT_map a.key T) r6 up6 f6 (fun t ht => KK0.out.sz t (List.mem_filter.1 ht).1)).more (by omega), up6⟩
            have IW : Hid (∀ w4 w5 u, KH w w4 base kb wb M v T ((T.map rk).filter fun p => decide (p.1 ≠ a.key)) k → IntsAt w4 base u ((aget (T.map rk) a.key).getD []) → Upd (refW wb v) w4 w5 → RowOf intc 1 w5 u ((aget (T.map rk) a.key).getD [])) := fun w4 w5 u kh4 i4 up => (kh4.ref.intsW i4 up).row
            have S1 : Hid (∀ v3 v4 V, RowOf intc 1 V v3 ((aget (T.map rk) a.key).getD []) → RowOf intc 1 V v4 ((aget (T.map rk) a.key).getD []) → Calls Try.prog 14 #[v3, v4] V fun e w' => e = .returned (.bool true) ∧ ∃ nq, w' = V.drewN nq) := by
              intro v3 v4 V r r2
              refine (same14_any v3 v4 _ _ V r r2).mono ?_
              rintro e w' ⟨rfl, n, rfl⟩
              exact ⟨by rw [decide_eq_true rfl], n, rfl⟩
            have YC : Hid (∀ W, Blk W wr.heap.size [.int .i64 1, .int .i64 a.id, .string a.key] 28 → W.cell? ⟨wr.heap.size, 2, none⟩ = some (.string a.key)) := fun W h => h.cellAt (i := 2) rfl
            have y0 := YC.out _ (Blk.made wr [.int .i64 1, .int .i64 a.id, .string a.key] _)
            clear RIS hTl
            go_wp2
            go_region_held3 (fun w' => w'.cell? ⟨wr.heap.size, 2, none⟩ = some (.string a.key)) (go_keep) (first
              | (go_at_call 15; refine (TK.out _ (by first | exact Upd.refl _ _ | exact (Upd.refl _ _).drew)).mono ?_; rintro e w4 ⟨u4, rfl, i4, kh4, bx4⟩; (have z4 := YC.out w4 bx4))
              | (go_at_call 16; refine (RT.out _ kh4).mono ?_; rintro e w5 ⟨u5, rfl, i5, v6, T6, kk5, up6⟩; (have bx5 := up6.blk bx4 (fun e => by have := HDB.out _ (e.elim Or.inl (fun g => Or.inr (Or.inl g))); omega)); (have j4 := IW.out w4 w5 u4 kh4 i4 up6); (have z5 := YC.out w5 bx5))
              | (go_at_call 14; refine (S1.out _ _ _ j4 i5).mono ?_; rintro e w6 ⟨rfl, nq, hnq⟩; (have kk6 : KR w w6 base kb wb M v6 T6 (k + 1) := by rw [hnq]; exact kk5.keep0 ((Upd.refl _ _).drewN nq)); (have bx6 : Blk w6 wr.heap.size [.int .i64 1, .int .i64 a.id, .string a.key] 28 := by rw [hnq]; exact bx5.drewN nq); (have z6 := YC.out w6 bx6); clear hnq))
            obtain ⟨p2, c2, ev6, _, _⟩ := kk6.ref.rows.slice
            subst ev6
            have KK := Lib.hid kk6
            have BX6 := Lib.hid bx6
            obtain ⟨n2, hn2⟩ : ∃ n2, n2 = T6.length := ⟨_, rfl⟩
            have NN := Lib.hid hn2
            rw [← hn2] at KK
            clear hn2 kk6 bx6 kh4 bx4 up6 HDB KK0 YC c0 c1 c2'
            generalize wr.heap.size = ab at *
            obtain ⟨E6, kat6, dis6⟩ := KK.out.ex
            obtain ⟨rb, F6, cb, hr⟩ := kat6.rec
            have HLn : Hid ((akeys (T6.map rk)).length = n2) := by show _ = _; rw [NN.out]; simp [akeys]
            have hl6 := KK.out.len
            have REF6 := Lib.hid KK.out.ref
            have LE : Hid (∀ v, Upd (fun _ => False) w6 v → Calls Try.prog 9 #[.pointer (some ⟨rb, 0, none⟩)] v fun e w' => e = .returned (.int .i64 (n2 : Int)) ∧ Upd (fun _ => False) w6 w') := by
              intro v u
              refine (rlen_any rb _ F6 v (hr.keep u (fun _ _ h => h)) (by rw [HLn.out, NN.out]; omega)).mono ?_
              rintro e w' ⟨rfl, rfl⟩
              exact ⟨by rw [HLn.out], u⟩
            have LA : Hid (∀ v, Upd (fun _ => False) w6 v → Calls Try.prog 20 #[.pointer (some ⟨rb, 0, none⟩)] v fun e w' => ∃ v', e = .returned v' ∧ RowOf strc 1 w' v' (akeys (T6.map rk)) ∧ Upd (fun _ => False) v w') := by
              intro v u
              refine (all_any rb _ F6 v (hr.keep u (fun _ _ h => h)) (by rw [HLn.out, NN.out]; omega)).mono ?_
              rintro e w' ⟨v', rfl, i, u2⟩
              exact ⟨v', rfl, i.row, u2⟩
            have RA : Hid (∀ v, Upd (fun _ => False) w6 v → Calls Try.prog 21 #[.pointer (some ⟨wb, 0, none⟩)] v fun e w' => ∃ v', e = .returned v' ∧ RowOf strc 1 w' v' (akeys (T6.map rk)) ∧ Upd (fun _ => False) v w') := by
              intro v u
              refine (ref_all (REF6.out.keep0 u) (by omega)).mono ?_
              rintro e w' ⟨v', rfl, i, u2⟩
              exact ⟨v', rfl, i.row, u2⟩
            have S6 : Hid (∀ v3 v4 v, RowOf strc 1 v v3 (akeys (T6.map rk)) → RowOf strc 1 v v4 (akeys (T6.map rk)) → Calls Try.prog 19 #[v3, v4] v fun e w' => e = .returned (.bool true) ∧ Upd (fun _ => False) v w') := by
              intro v3 v4 v r r2
              refine (same06_any v3 v4 _ _ v r r2).mono ?_
              rintro e w' ⟨rfl, n, rfl⟩
              exact ⟨by rw [decide_eq_true rfl], (Upd.refl _ _).drewN n⟩
            have KI : Hid (∀ v, Upd (fun _ => False) w6 v → Calls Try.prog 11 #[.pointer (some ⟨kb, 0, none⟩), .string a.key] v fun e w' => ∃ v', e = .returned v' ∧ RowOf intc 1 w' v' ((aget (T6.map rk) a.key).getD []) ∧ Upd (fun _ => False) v w') := by
              intro v u
              refine (kids_any base kb M _ (k + 1) E6 a.key v (kat6.keep u (fun _ _ h => h)) (by omega)).mono ?_
              rintro e w' ⟨v', rfl, i, u2⟩
              exact ⟨v', rfl, i.row, u2⟩
            have RI : Hid (∀ v, Upd (fun _ => False) w6 v → Calls Try.prog 22 #[.pointer (some ⟨wb, 0, none⟩), .string a.key] v fun e w' => ∃ v', e = .returned v' ∧ RowOf intc 1 w' v' ((aget (T6.map rk) a.key).getD []) ∧ Upd (fun _ => False) v w') := by
              intro v u
              refine (ref_ids (REF6.out.keep0 u) (by omega) a.key).mono ?_
              rintro e w' ⟨v', rfl, i, u2⟩
              exact ⟨v', rfl, i.row, u2⟩
            have S4 : Hid (∀ v3 v4 v, RowOf intc 1 v v3 ((aget (T6.map rk) a.key).getD []) → RowOf intc 1 v v4 ((aget (T6.map rk) a.key).getD []) → Calls Try.prog 14 #[v3, v4] v fun e w' => e = .returned (.bool true) ∧ Upd (fun _ => False) v w') := by
              intro v3 v4 v r r2
              refine (same14_any v3 v4 _ _ v r r2).mono ?_
              rintro e w' ⟨rfl, n, rfl⟩
              exact ⟨by rw [decide_eq_true rfl], (Upd.refl _ _).drewN n⟩
            have cbl : kb < w6.heap.size := by
              rcases Nat.lt_or_ge kb w6.heap.size with g | g
              · exact g
              · simp [World.cell?, Array.getElem?_eq_none g] at cb
            have PS : Hid (∀ v, Upd (fun _ => False) w6 v → v.cell? ⟨kb, 0, none⟩ = some (.pointer (some ⟨rb, 0, none⟩)) ∧ v.cell? ⟨wb, 0, none⟩ = some (.slice p2 n2 c2) ∧ v.cell? ⟨ab, 2, none⟩ = some (.string a.key)) := fun v u =>
              ⟨(u.cell (p := ⟨kb, 0, none⟩) cbl (fun h => h)).trans cb, (REF6.out.keep0 u).blk.cellAt (i := 0) rfl, (u.blk BX6.out (fun h => h)).cellAt (i := 2) (v := .string a.key) rfl⟩
            obtain ⟨y0, y1, y2⟩ := PS.out w6 (Upd.refl _ _)
            clear kat6 dis6 cb hr hl6 cbl HLn REF6
            go_wp2_with fail
            refine wp_region_held_drew (S := (fun w' => w'.cell? ⟨kb, 0, none⟩ = some (.pointer (some ⟨rb, 0, none⟩)) ∧ w'.cell? ⟨wb, 0, none⟩ = some (.slice p2 n2 c2) ∧ w'.cell? ⟨ab, 2, none⟩ = some (.string a.key))) (by kernel_rfl) ?_ (fun hHeld => ?_)
            · (try dsimp only); go_keep
            try simp only [Array.replicate, Act.put, List.setIfInBounds_toArray]
            refine' wpAnyH_take (i := 0) (oi := _) (v := _) ?hiRB1 (by kernel_rfl) (by kernel_rfl) (by kernel_rfl) ?hQRB1 ?hyRB1 (by assumption) ?restRB1
            case' hiRB1 => (first | (simp only [List.getElem?_toArray, List.getElem?_cons_succ, List.getElem?_cons_zero]; done) | (simp only [List.getElem?_toArray, List.getElem?_cons_succ, List.getElem?_cons_zero]; rfl))
            case' hQRB1 => exact fun _ _ _ h => h
            case' hyRB1 => refine Or.inl ⟨by rfl, ?_⟩
            (intro w hSw; (try dsimp only at hSw); go_simp; try with_reducible rfl)
            try simp only [Act.put, List.setIfInBounds_toArray, List.set_cons_zero, List.set_cons_succ]
            refine' wpAnyH_take (i := 1) (oi := _) (v := _) ?hiRB2 (by kernel_rfl) (by kernel_rfl) (by kernel_rfl) ?hQRB2 ?hyRB2 (by assumption) ?restRB2
            case' hiRB2 => (first | (simp only [List.getElem?_toArray, List.getElem?_cons_succ, List.getElem?_cons_zero]; done) | (simp only [List.getElem?_toArray, List.getElem?_cons_succ, List.getElem?_cons_zero]; rfl))
            case' hQRB2 => exact fun _ _ _ h => h
            case' hyRB2 => refine Or.inl ⟨by rfl, ?_⟩
            (intro w hSw; (try dsimp only at hSw); go_simp; try with_reducible rfl)
            try simp only [Act.put, List.setIfInBounds_toArray, List.set_cons_zero, List.set_cons_succ]
            refine' wpAnyH_take (i := 2) (oi := _) (v := _) ?hiRB3 (by kernel_rfl) (by kernel_rfl) (by kernel_rfl) ?hQRB3 ?hyRB3 (by assumption) ?restRB3
            case' hiRB3 => (first | (simp only [List.getElem?_toArray, List.getElem?_cons_succ, List.getElem?_cons_zero]; done) | (simp only [List.getElem?_toArray, List.getElem?_cons_succ, List.getElem?_cons_zero]; rfl))
            case' hQRB3 => exact fun _ _ _ h => h
            case' hyRB3 => refine Or.inl ⟨by rfl, ?_⟩
            (intro w hSw; (try dsimp only at hSw); go_simp; try with_reducible rfl)
            try simp only [Act.put, List.setIfInBounds_toArray, List.set_cons_zero, List.set_cons_succ]
            refine' wpAnyH_take (i := 3) (oi := _) (v := _) ?hiRB4 (by kernel_rfl) (by kernel_rfl) (by kernel_rfl) ?hQRB4 ?hyRB4 (by assumption) ?restRB4
            case' hiRB4 => (first | (simp only [List.getElem?_toArray, List.getElem?_cons_succ, List.getElem?_cons_zero]; done) | (simp only [List.getElem?_toArray, List.getElem?_cons_succ, List.getElem?_cons_zero]; rfl))
            case' hQRB4 => exact fun _ _ _ h => h
            case' hyRB4 => refine Or.inl ⟨by rfl, ?_⟩
            (intro w hSw; (try dsimp only at hSw); go_simp; try with_reducible rfl)
            try simp only [Act.put, List.setIfInBounds_toArray, List.set_cons_zero, List.set_cons_succ]
            refine' wpAnyH_take (i := 5) (oi := _) (v := _) ?hiRB5 (by kernel_rfl) (by kernel_rfl) (by kernel_rfl) ?hQRB5 ?hyRB5 (by assumption) ?restRB5
            case' hiRB5 => (first | (simp only [List.getElem?_toArray, List.getElem?_cons_succ, List.getElem?_cons_zero]; done) | (simp only [List.getElem?_toArray, List.getElem?_cons_succ, List.getElem?_cons_zero]; rfl))
            case' hQRB5 => exact fun _ _ _ h => h
            case' hyRB5 => refine Or.inl ⟨by rfl, ?_⟩
            (intro w hSw; (try dsimp only at hSw); go_simp; try with_reducible rfl)
            try simp only [Act.put, List.setIfInBounds_toArray, List.set_cons_zero, List.set_cons_succ]
            refine' wpAnyH_take (i := 6) (oi := _) (v := _) ?hiRB6 (by kernel_rfl) (by kernel_rfl) (by kernel_rfl) ?hQRB6 ?hyRB6 (by assumption) ?restRB6
            case' hiRB6 => (first | (simp only [List.getElem?_toArray, List.getElem?_cons_succ, List.getElem?_cons_zero]; done) | (simp only [List.getElem?_toArray, List.getElem?_cons_succ, List.getElem?_cons_zero]; rfl))
            case' hQRB6 => exact fun _ _ _ h => h
            case' hyRB6 => refine Or.inl ⟨by rfl, ?_⟩
            (intro w hSw; (try dsimp only at hSw); go_simp; try with_reducible rfl)
            try simp only [Act.put, List.setIfInBounds_toArray, List.set_cons_zero, List.set_cons_succ]
            refine' wpAnyH_take (i := 7) (oi := _) (v := _) ?hiRB7 (by kernel_rfl) (by kernel_rfl) (by kernel_rfl) ?hQRB7 ?hyRB7 (by assumption) ?restRB7
            case' hiRB7 => (first | (simp only [List.getElem?_toArray, List.getElem?_cons_succ, List.getElem?_cons_zero]; done) | (simp only [List.getElem?_toArray, List.getElem?_cons_succ, List.getElem?_cons_zero]; rfl))
            case' hQRB7 => exact fun _ _ _ h => h
            case' hyRB7 => refine Or.inl ⟨by rfl, ?_⟩
            (intro w hSw; (try dsimp only at hSw); go_simp; try with_reducible rfl)
            try simp only [Act.put, List.setIfInBounds_toArray, List.set_cons_zero, List.set_cons_succ]
            refine' wpAnyH_take (i := 8) (oi := _) (v := _) ?hiRB8 (by kernel_rfl) (by kernel_rfl) (by kernel_rfl) ?hQRB8 ?hyRB8 (by assumption) ?restRB8
            case' hiRB8 => (first | (simp only [List.getElem?_toArray, List.getElem?_cons_succ, List.getElem?_cons_zero]; done) | (simp only [List.getElem?_toArray, List.getElem?_cons_succ, List.getElem?_cons_zero]; rfl))
            case' hQRB8 => exact fun _ _ _ h => h
            case' hyRB8 => refine Or.inl ⟨by rfl, ?_⟩
            (intro w hSw; (try dsimp only at hSw); go_simp; try with_reducible rfl)
            try simp only [Act.put, List.setIfInBounds_toArray, List.set_cons_zero, List.set_cons_succ]
            refine' wpAnyH_take (i := 9) (oi := _) (v := _) ?hiRB9 (by kernel_rfl) (by kernel_rfl) (by kernel_rfl) ?hQRB9 ?hyRB9 (by assumption) ?restRB9
            case' hiRB9 => (first | (simp only [List.getElem?_toArray, List.getElem?_cons_succ, List.getElem?_cons_zero]; done) | (simp only [List.getElem?_toArray, List.getElem?_cons_succ, List.getElem?_cons_zero]; rfl))
            case' hQRB9 => exact fun _ _ _ h => h
            case' hyRB9 => refine Or.inl ⟨by rfl, ?_⟩
            (intro w hSw; (try dsimp only at hSw); go_simp; try with_reducible rfl)
            try simp only [Act.put, List.setIfInBounds_toArray, List.set_cons_zero, List.set_cons_succ]
            refine wpAnyH_ready (rs := [4]) (by kernel_rfl) (by simp) ?_
            refine' AllReadyH.cons (o := _) ?hiRB10 (fun K hK => ?hKRB10) AllReadyH.nil
            case' hiRB10 => (first | (simp only [List.getElem?_toArray, List.getElem?_cons_succ, List.getElem?_cons_zero]; done) | (simp only [List.getElem?_toArray, List.getElem?_cons_succ, List.getElem?_cons_zero]; rfl))
            go_simp
            (go_at_call 9; refine (LE.out _ (by first | exact Upd.refl _ _ | exact (Upd.refl _ _).drew)).mono ?_; rintro e w7 ⟨rfl, u7⟩; (have y7 := PS.out _ u7))
            refine hK.out _ _ ?_ (fun hHeld => ?_)
            · (try dsimp only); go_keep
            clear hK K
            try simp only [Act.put, List.setIfInBounds_toArray, List.set_cons_zero, List.set_cons_succ]
            refine' wpAnyH_take (i := 10) (oi := _) (v := _) ?hiRB11 (by kernel_rfl) (by kernel_rfl) (by kernel_rfl) ?hQRB11 ?hyRB11 (by assumption) ?restRB11
            case' hiRB11 => (first | (simp only [List.getElem?_toArray, List.getElem?_cons_succ, List.getElem?_cons_zero]; done) | (simp only [List.getElem?_toArray, List.getElem?_cons_succ, List.getElem?_cons_zero]; rfl))
            case' hQRB11 => exact fun _ _ _ h => h
            case' hyRB11 => refine Or.inl ⟨by rfl, ?_⟩
            (intro w hSw; (try dsimp only at hSw); go_simp; try with_reducible rfl)
            try simp only [Act.put, List.setIfInBounds_toArray, List.set_cons_zero, List.set_cons_succ]
            refine' wpAnyH_take (i := 11) (oi := _) (v := _) ?hiRB12 (by kernel_rfl) (by kernel_rfl) (by kernel_rfl) ?hQRB12 ?hyRB12 (by assumption) ?restRB12
            case' hiRB12 => (first | (simp only [List.getElem?_toArray, List.getElem?_cons_succ, List.getElem?_cons_zero]; done) | (simp only [List.getElem?_toArray, List.getElem?_cons_succ, List.getElem?_cons_zero]; rfl))
            case' hQRB12 => exact fun _ _ _ h => h
            case' hyRB12 => refine Or.inl ⟨by rfl, ?_⟩
            (intro w hSw; (try dsimp only at hSw); go_simp; try with_reducible rfl)
            try simp only [Act.put, List.setIfInBounds_toArray, List.set_cons_zero, List.set_cons_succ]
            refine' wpAnyH_take (i := 12) (oi := _) (v := _) ?hiRB13 (by kernel_rfl) (by kernel_rfl) (by kernel_rfl) ?hQRB13 ?hyRB13 (by assumption) ?restRB13
            case' hiRB13 => (first | (simp only [List.getElem?_toArray, List.getElem?_cons_succ, List.getElem?_cons_zero]; done) | (simp only [List.getElem?_toArray, List.getElem?_cons_succ, List.getElem?_cons_zero]; rfl))
            case' hQRB13 => exact fun _ _ _ h => h
            case' hyRB13 => refine Or.inl ⟨by rfl, ?_⟩
            (intro w hSw; (try dsimp only at hSw); go_simp; try with_reducible rfl)
            try simp only [Act.put, List.setIfInBounds_toArray, List.set_cons_zero, List.set_cons_succ]
            refine' wpAnyH_take (i := 13) (oi := _) (v := _) ?hiRB14 (by kernel_rfl) (by kernel_rfl) (by kernel_rfl) ?hQRB14 ?hyRB14 (by assumption) ?restRB14
            case' hiRB14 => (first | (simp only [List.getElem?_toArray, List.getElem?_cons_succ, List.getElem?_cons_zero]; done) | (simp only [List.getElem?_toArray, List.getElem?_cons_succ, List.getElem?_cons_zero]; rfl))
            case' hQRB14 => exact fun _ _ _ h => h
            case' hyRB14 => refine Or.inl ⟨by rfl, ?_⟩
            (intro w hSw; (try dsimp only at hSw); go_simp; try with_reducible rfl)
            try simp only [Act.put, List.setIfInBounds_toArray, List.set_cons_zero, List.set_cons_succ]
            refine' wpAnyH_take (i := 14) (oi := _) (v := _) ?hiRB15 (by kernel_rfl) (by kernel_rfl) (by kernel_rfl) ?hQRB15 ?hyRB15 (by assumption) ?restRB15
            case' hiRB15 => (first | (simp only [List.getElem?_toArray, List.getElem?_cons_succ, List.getElem?_cons_zero]; done) | (simp only [List.getElem?_toArray, List.getElem?_cons_succ, List.getElem?_cons_zero]; rfl))
            case' hQRB15 => exact fun _ _ _ h => h
            case' hyRB15 => refine Or.inl ⟨by rfl, ?_⟩
            (intro w hSw; (try dsimp only at hSw); go_simp; try with_reducible rfl)
            try simp only [Act.put, List.setIfInBounds_toArray, List.set_cons_zero, List.set_cons_succ]
            refine' wpAnyH_take (i := 15) (oi := _) (v := _) ?hiRB16 (by kernel_rfl) (by kernel_rfl) (by kernel_rfl) ?hQRB16 ?hyRB16 (by assumption) ?restRB16
            case' hiRB16 => (first | (simp only [List.getElem?_toArray, List.getElem?_cons_succ, List.getElem?_cons_zero]; done) | (simp only [List.getElem?_toArray, List.getElem?_cons_succ, List.getElem?_cons_zero]; rfl))
            case' hQRB16 => exact fun _ _ _ h => h
            case' hyRB16 => refine Or.inl ⟨by rfl, ?_⟩
            (intro w hSw; (try dsimp only at hSw); go_simp; try with_reducible rfl)
            try simp only [Act.put, List.setIfInBounds_toArray, List.set_cons_zero, List.set_cons_succ]
            refine' wpAnyH_take (i := 17) (oi := _) (v := _) ?hiRB17 (by kernel_rfl) (by kernel_rfl) (by kernel_rfl) ?hQRB17 ?hyRB17 (by assumption) ?restRB17
            case' hiRB17 => (first | (simp only [List.getElem?_toArray, List.getElem?_cons_succ, List.getElem?_cons_zero]; done) | (simp only [List.getElem?_toArray, List.getElem?_cons_succ, List.getElem?_cons_zero]; rfl))
            case' hQRB17 => exact fun _ _ _ h => h
            case' hyRB17 => refine Or.inl ⟨by rfl, ?_⟩
            (intro w hSw; (try dsimp only at hSw); go_simp; try with_reducible rfl)
            try simp only [Act.put, List.setIfInBounds_toArray, List.set_cons_zero, List.set_cons_succ]
            refine wpAnyH_ready (rs := [16]) (by kernel_rfl) (by simp) ?_
            refine' AllReadyH.cons (o := _) ?hiRB18 (fun K hK => ?hKRB18) AllReadyH.nil
            case' hiRB18 => (first | (simp only [List.getElem?_toArray, List.getElem?_cons_succ, List.getElem?_cons_zero]; done) | (simp only [List.getElem?_toArray, List.getElem?_cons_succ, List.getElem?_cons_zero]; rfl))
            go_simp
            (go_at_call 20; refine (LA.out w7 u7).mono ?_; rintro e w8 ⟨v8, rfl, i8, v_8⟩; (have u8 := u7.trans v_8 (fun _ _ h => h)); (have y8 := PS.out _ u8))
            refine hK.out _ _ ?_ (fun hHeld => ?_)
            · (try dsimp only); go_keep
            clear hK K
            try simp only [Act.put, List.setIfInBounds_toArray, List.set_cons_zero, List.set_cons_succ]
            refine wpAnyH_ready (rs := [18]) (by kernel_rfl) (by simp) ?_
            refine' AllReadyH.cons (o := _) ?hiRB19 (fun K hK => ?hKRB19) AllReadyH.nil
            case' hiRB19 => (first | (simp only [List.getElem?_toArray, List.getElem?_cons_succ, List.getElem?_cons_zero]; done) | (simp only [List.getElem?_toArray, List.getElem?_cons_succ, List.getElem?_cons_zero]; rfl))
            go_simp
            (go_at_call 21; refine (RA.out w8 u8).mono ?_; rintro e w9 ⟨v9, rfl, i9, v_9⟩; (have i8 := i8.keep v_9 (fun _ _ _ h => h)); (have u9 := u8.trans v_9 (fun _ _ h => h)); (have y9 := PS.out _ u9))
            refine hK.out _ _ ?_ (fun hHeld => ?_)
            · (try dsimp only); go_keep
            clear hK K
            try simp only [Act.put, List.setIfInBounds_toArray, List.set_cons_zero, List.set_cons_succ]
            refine wpAnyH_ready (rs := [19]) (by kernel_rfl) (by simp) ?_
            refine' AllReadyH.cons (o := _) ?hiRB20 (fun K hK => ?hKRB20) AllReadyH.nil
            case' hiRB20 => (first | (simp only [List.getElem?_toArray, List.getElem?_cons_succ, List.getElem?_cons_zero]; done) | (simp only [List.getElem?_toArray, List.getElem?_cons_succ, List.getElem?_cons_zero]; rfl))
            go_simp
            (go_at_call 19; refine (S6.out v8 v9 w9 i8 i9).mono ?_; rintro e w10 ⟨rfl, v_10⟩; (have u10 := u9.trans v_10 (fun _ _ h => h)); (have y10 := PS.out _ u10); clear i8 i9)
            refine hK.out _ _ ?_ (fun hHeld => ?_)
            · (try dsimp only); go_keep
            clear hK K
            try simp only [Act.put, List.setIfInBounds_toArray, List.set_cons_zero, List.set_cons_succ]
            refine' wpAnyH_take (i := 20) (oi := _) (v := _) ?hiRB21 (by kernel_rfl) (by kernel_rfl) (by kernel_rfl) ?hQRB21 ?hyRB21 (by assumption) ?restRB21
            case' hiRB21 => (first | (simp only [List.getElem?_toArray, List.getElem?_cons_succ, List.getElem?_cons_zero]; done) | (simp only [List.getElem?_toArray, List.getElem?_cons_succ, List.getElem?_cons_zero]; rfl))
            case' hQRB21 => exact fun _ _ _ h => h
            case' hyRB21 => refine Or.inl ⟨by rfl, ?_⟩
            (intro w hSw; (try dsimp only at hSw); go_simp; try with_reducible rfl)
            try simp only [Act.put, List.setIfInBounds_toArray, List.set_cons_zero, List.set_cons_succ]
            refine' wpAnyH_take (i := 21) (oi := _) (v := _) ?hiRB22 (by kernel_rfl) (by kernel_rfl) (by kernel_rfl) ?hQRB22 ?hyRB22 (by assumption) ?restRB22
            case' hiRB22 => (first | (simp only [List.getElem?_toArray, List.getElem?_cons_succ, List.getElem?_cons_zero]; done) | (simp only [List.getElem?_toArray, List.getElem?_cons_succ, List.getElem?_cons_zero]; rfl))
            case' hQRB22 => exact fun _ _ _ h => h
            case' hyRB22 => refine Or.inl ⟨by rfl, ?_⟩
            (intro w hSw; (try dsimp only at hSw); go_simp; try with_reducible rfl)
            try simp only [Act.put, List.setIfInBounds_toArray, List.set_cons_zero, List.set_cons_succ]
            refine' wpAnyH_take (i := 22) (oi := _) (v := _) ?hiRB23 (by kernel_rfl) (by kernel_rfl) (by kernel_rfl) ?hQRB23 ?hyRB23 (by assumption) ?restRB23
            case' hiRB23 => (first | (simp only [List.getElem?_toArray, List.getElem?_cons_succ, List.getElem?_cons_zero]; done) | (simp only [List.getElem?_toArray, List.getElem?_cons_succ, List.getElem?_cons_zero]; rfl))
            case' hQRB23 => exact fun _ _ _ h => h
            case' hyRB23 => refine Or.inl ⟨by rfl, ?_⟩
            (intro w hSw; (try dsimp only at hSw); go_simp; try with_reducible rfl)
            try simp only [Act.put, List.setIfInBounds_toArray, List.set_cons_zero, List.set_cons_succ]
            refine' wpAnyH_take (i := 23) (oi := _) (v := _) ?hiRB24 (by kernel_rfl) (by kernel_rfl) (by kernel_rfl) ?hQRB24 ?hyRB24 (by assumption) ?restRB24
            case' hiRB24 => (first | (simp only [List.getElem?_toArray, List.getElem?_cons_succ, List.getElem?_cons_zero]; done) | (simp only [List.getElem?_toArray, List.getElem?_cons_succ, List.getElem?_cons_zero]; rfl))
            case' hQRB24 => exact fun _ _ _ h => h
            case' hyRB24 => refine Or.inl ⟨by rfl, ?_⟩
            (intro w hSw; (try dsimp only at hSw); go_simp; try with_reducible rfl)
            try simp only [Act.put, List.setIfInBounds_toArray, List.set_cons_zero, List.set_cons_succ]
            refine' wpAnyH_take (i := 24) (oi := _) (v := _) ?hiRB25 (by kernel_rfl) (by kernel_rfl) (by kernel_rfl) ?hQRB25 ?hyRB25 (by assumption) ?restRB25
            case' hiRB25 => (first | (simp only [List.getElem?_toArray, List.getElem?_cons_succ, List.getElem?_cons_zero]; done) | (simp only [List.getElem?_toArray, List.getElem?_cons_succ, List.getElem?_cons_zero]; rfl))
            case' hQRB25 => exact fun _ _ _ h => h
            case' hyRB25 => refine Or.inl ⟨by rfl, ?_⟩
            (intro w hSw; (try dsimp only at hSw); go_simp; try with_reducible rfl)
            try simp only [Act.put, List.setIfInBounds_toArray, List.set_cons_zero, List.set_cons_succ]
            refine' wpAnyH_take (i := 25) (oi := _) (v := _) ?hiRB26 (by kernel_rfl) (by kernel_rfl) (by kernel_rfl) ?hQRB26 ?hyRB26 (by assumption) ?restRB26
            case' hiRB26 => (first | (simp only [List.getElem?_toArray, List.getElem?_cons_succ, List.getElem?_cons_zero]; done) | (simp only [List.getElem?_toArray, List.getElem?_cons_succ, List.getElem?_cons_zero]; rfl))
            case' hQRB26 => exact fun _ _ _ h => h
            case' hyRB26 => refine Or.inl ⟨by rfl, ?_⟩
            (intro w hSw; (try dsimp only at hSw); go_simp; try with_reducible rfl)
            try simp only [Act.put, List.setIfInBounds_toArray, List.set_cons_zero, List.set_cons_succ]
            refine' wpAnyH_take (i := 27) (oi := _) (v := _) ?hiRB27 (by kernel_rfl) (by kernel_rfl) (by kernel_rfl) ?hQRB27 ?hyRB27 (by assumption) ?restRB27
            case' hiRB27 => (first | (simp only [List.getElem?_toArray, List.getElem?_cons_succ, List.getElem?_cons_zero]; done) | (simp only [List.getElem?_toArray, List.getElem?_cons_succ, List.getElem?_cons_zero]; rfl))
            case' hQRB27 => exact fun _ _ _ h => h
            case' hyRB27 => refine Or.inl ⟨by rfl, ?_⟩
            (intro w hSw; (try dsimp only at hSw); go_simp; try with_reducible rfl)
            try simp only [Act.put, List.setIfInBounds_toArray, List.set_cons_zero, List.set_cons_succ]
            refine' wpAnyH_take (i := 28) (oi := _) (v := _) ?hiRB28 (by kernel_rfl) (by kernel_rfl) (by kernel_rfl) ?hQRB28 ?hyRB28 (by assumption) ?restRB28
            case' hiRB28 => (first | (simp only [List.getElem?_toArray, List.getElem?_cons_succ, List.getElem?_cons_zero]; done) | (simp only [List.getElem?_toArray, List.getElem?_cons_succ, List.getElem?_cons_zero]; rfl))
            case' hQRB28 => exact fun _ _ _ h => h
            case' hyRB28 => refine Or.inl ⟨by rfl, ?_⟩
            (intro w hSw; (try dsimp only at hSw); go_simp; try with_reducible rfl)
            try simp only [Act.put, List.setIfInBounds_toArray, List.set_cons_zero, List.set_cons_succ]
            refine' wpAnyH_take (i := 29) (oi := _) (v := _) ?hiRB29 (by kernel_rfl) (by kernel_rfl) (by kernel_rfl) ?hQRB29 ?hyRB29 (by assumption) ?restRB29
            case' hiRB29 => (first | (simp only [List.getElem?_toArray, List.getElem?_cons_succ, List.getElem?_cons_zero]; done) | (simp only [List.getElem?_toArray, List.getElem?_cons_succ, List.getElem?_cons_zero]; rfl))
            case' hQRB29 => exact fun _ _ _ h => h
            case' hyRB29 => refine Or.inl ⟨by rfl, ?_⟩
            (intro w hSw; (try dsimp only at hSw); go_simp; try with_reducible rfl)
            try simp only [Act.put, List.setIfInBounds_toArray, List.set_cons_zero, List.set_cons_succ]
            refine wpAnyH_ready (rs := [26]) (by kernel_rfl) (by simp) ?_
            refine' AllReadyH.cons (o := _) ?hiRB30 (fun K hK => ?hKRB30) AllReadyH.nil
            case' hiRB30 => (first | (simp only [List.getElem?_toArray, List.getElem?_cons_succ, List.getElem?_cons_zero]; done) | (simp only [List.getElem?_toArray, List.getElem?_cons_succ, List.getElem?_cons_zero]; rfl))
            go_simp
            (go_at_call 11; refine (KI.out w10 u10).mono ?_; rintro e w11 ⟨v11, rfl, i11, v_11⟩; (have u11 := u10.trans v_11 (fun _ _ h => h)); (have y11 := PS.out _ u11))
            refine hK.out _ _ ?_ (fun hHeld => ?_)
            · (try dsimp only); go_keep
            clear hK K
            try simp only [Act.put, List.setIfInBounds_toArray, List.set_cons_zero, List.set_cons_succ]
            refine wpAnyH_ready (rs := [30]) (by kernel_rfl) (by simp) ?_
            refine' AllReadyH.cons (o := _) ?hiRB31 (fun K hK => ?hKRB31) AllReadyH.nil
            case' hiRB31 => (first | (simp only [List.getElem?_toArray, List.getElem?_cons_succ, List.getElem?_cons_zero]; done) | (simp only [List.getElem?_toArray, List.getElem?_cons_succ, List.getElem?_cons_zero]; rfl))
            go_simp
            (go_at_call 22; refine (RI.out w11 u11).mono ?_; rintro e w12 ⟨v12, rfl, i12, v_12⟩; (have i11 := i11.keep v_12 (fun _ _ _ h => h)); (have u12 := u11.trans v_12 (fun _ _ h => h)); (have y12 := PS.out _ u12))
            refine hK.out _ _ ?_ (fun hHeld => ?_)
            · (try dsimp only); go_keep
            clear hK K
            try simp only [Act.put, List.setIfInBounds_toArray, List.set_cons_zero, List.set_cons_succ]
            refine wpAnyH_ready (rs := [31]) (by kernel_rfl) (by simp) ?_
            refine' AllReadyH.cons (o := _) ?hiRB32 (fun K hK => ?hKRB32) AllReadyH.nil
            case' hiRB32 => (first | (simp only [List.getElem?_toArray, List.getElem?_cons_succ, List.getElem?_cons_zero]; done) | (simp only [List.getElem?_toArray, List.getElem?_cons_succ, List.getElem?_cons_zero]; rfl))
            go_simp
            (go_at_call 14; refine (S4.out v11 v12 w12 i11 i12).mono ?_; rintro e w13 ⟨rfl, v_13⟩; (have u13 := u12.trans v_13 (fun _ _ h => h)); (have y13 := PS.out _ u13); clear i11 i12)
            refine hK.out _ _ ?_ (fun hHeld => ?_)
            · (try dsimp only); go_keep
            clear hK K
            try simp only [Act.put, List.setIfInBounds_toArray, List.set_cons_zero, List.set_cons_succ]
            refine' wpAnyH_take (i := 32) (oi := _) (v := _) ?hiRB33 (by kernel_rfl) (by kernel_rfl) (by kernel_rfl) ?hQRB33 ?hyRB33 (by assumption) ?restRB33
            case' hiRB33 => (first | (simp only [List.getElem?_toArray, List.getElem?_cons_succ, List.getElem?_cons_zero]; done) | (simp only [List.getElem?_toArray, List.getElem?_cons_succ, List.getElem?_cons_zero]; rfl))
            case' hQRB33 => exact fun _ _ _ h => h
            case' hyRB33 => refine Or.inl ⟨by rfl, ?_⟩
            (intro w hSw; (try dsimp only at hSw); go_simp; try with_reducible rfl)
            try simp only [Act.put, List.setIfInBounds_toArray, List.set_cons_zero, List.set_cons_succ]
            refine' wpAnyH_take (i := 33) (oi := _) (v := _) ?hiRB34 (by kernel_rfl) (by kernel_rfl) (by kernel_rfl) ?hQRB34 ?hyRB34 (by assumption) ?restRB34
            case' hiRB34 => (first | (simp only [List.getElem?_toArray, List.getElem?_cons_succ, List.getElem?_cons_zero]; done) | (simp only [List.getElem?_toArray, List.getElem?_cons_succ, List.getElem?_cons_zero]; rfl))
            case' hQRB34 => exact fun _ _ _ h => h
            case' hyRB34 => refine Or.inl ⟨by rfl, ?_⟩
            (intro w hSw; (try dsimp only at hSw); go_simp; try with_reducible rfl)
            try simp only [Act.put, List.setIfInBounds_toArray, List.set_cons_zero, List.set_cons_succ]
            refine wpAnyH_done (by kernel_rfl) ?_ _
            have KF := Lib.hid (KK.out.keep0 u13)
            go_wp2
            go_roundw
            case rel => exact ⟨k + 1, _, T6, by simp, by omega, KF⟩
            case measure => simp [intOf]; omega
          · by_cases hk3 : a.kind = 3
            · have AD := Lib.hid (KK0.out.clearD [.int .i64 3, .int .i64 a.id, .string a.key] 28 _ (Upd.refl _ _))
              rw [hk3] at c0
              go_wp2_with fail
              refine (AD.out).mono ?_
              rintro e w4 ⟨rfl, kh4, bx4⟩
              have B4 := Lib.hid kh4.ref.blk
              have RF := Lib.hid (RefRaw.of (T' := []) (v' := .slice none 0 0) kh4.ref.blk kh4.ref.lo ⟨OwnN.none, fun t ht => by simp at ht⟩)
              obtain ⟨p2, c2, n2, T6, ev6, eT6, NN⟩ : ∃ p2 c2 n2, ∃ T6 : List RowK, Value.slice none 0 0 = .slice p2 n2 c2 ∧ T6 = [] ∧ Hid (n2 = T6.length) := ⟨_, _, _, [], rfl, rfl, rfl⟩
              have KK : Hid (KR w (w4.setCell ⟨wb, 0, none⟩ (.slice none 0 0)) base kb wb M (.slice none 0 0) [] (k + 1)) :=
                (kh4.next rfl RF.out ((Upd.refl _ _).set (fun _ => Or.inl rfl)) (fun q hq => by
                  rcases hq with h | h | ⟨s, hs, _⟩
                  · exact Or.inl (Or.inl h)
                  · cases h
                  · simp at hs) (fun t ht => by simp at ht)).more (by omega)
              have BX6 : Hid (Blk (w4.setCell ⟨wb, 0, none⟩ (.slice none 0 0)) wr.heap.size [.int .i64 3, .int .i64 a.id, .string a.key] 28) := bx4.set_other (fun e => by have := HDB.out wb (Or.inl rfl); omega)
              rw [← eT6] at KK
              have EV6 := Lib.hid ev6
              have xb := B4.out.lt
              have xc := B4.out.cellAt (i := 0) (v := v) rfl
              have xf := B4.out.free 0
              clear kh4 bx4 RF AD c0 c1 c2' HDB RIS KK0 eT6 ev6
              generalize wr.heap.size = ab at *
              go_wp2_with fail
              obtain ⟨w6, hw6⟩ : ∃ w6, w6 = w4.setCell ⟨wb, 0, none⟩ (.slice none 0 0) := ⟨_, rfl⟩
              rw [← hw6] at KK BX6 ⊢
              rw [EV6.out] at KK
              clear hw6 xb xc xf B4
              obtain ⟨E6, kat6, dis6⟩ := KK.out.ex
              obtain ⟨rb, F6, cb, hr⟩ := kat6.rec
              have HLn : Hid ((akeys (T6.map rk)).length = n2) := by show _ = _; rw [NN.out]; simp [akeys]
              have hl6 := KK.out.len
              have REF6 := Lib.hid KK.out.ref
              have LE : Hid (∀ v, Upd (fun _ => False) w6 v → Calls Try.prog 9 #[.pointer (some ⟨rb, 0, none⟩)] v fun e w' => e = .returned (.int .i64 (n2 : Int)) ∧ Upd (fun _ => False) w6 w') := by
                intro v u
                refine (rlen_any rb _ F6 v (hr.keep u (fun _ _ h => h)) (by rw [HLn.out, NN.out]; omega)).mono ?_
                rintro e w' ⟨rfl, rfl⟩
                exact ⟨by rw [HLn.out], u⟩
              have LA : Hid (∀ v, Upd (fun _ => False) w6 v → Calls Try.prog 20 #[.pointer (some ⟨rb, 0, none⟩)] v fun e w' => ∃ v', e = .returned v' ∧ RowOf strc 1 w' v' (akeys (T6.map rk)) ∧ Upd (fun _ => False) v w') := by
                intro v u
                refine (all_any rb _ F6 v (hr.keep u (fun _ _ h => h)) (by rw [HLn.out, NN.out]; omega)).mono ?_
                rintro e w' ⟨v', rfl, i, u2⟩
                exact ⟨v', rfl, i.row, u2⟩
              have RA : Hid (∀ v, Upd (fun _ => False) w6 v → Calls Try.prog 21 #[.pointer (some ⟨wb, 0, none⟩)] v fun e w' => ∃ v', e = .returned v' ∧ RowOf strc 1 w' v' (akeys (T6.map rk)) ∧ Upd (fun _ => False) v w') := by
                intro v u
                refine (ref_all (REF6.out.keep0 u) (by omega)).mono ?_
                rintro e w' ⟨v', rfl, i, u2⟩
                exact ⟨v', rfl, i.row, u2⟩
              have S6 : Hid (∀ v3 v4 v, RowOf strc 1 v v3 (akeys (T6.map rk)) → RowOf strc 1 v v4 (akeys (T6.map rk)) → Calls Try.prog 19 #[v3, v4] v fun e w' => e = .returned (.bool true) ∧ Upd (fun _ => False) v w') := by
                intro v3 v4 v r r2
                refine (same06_any v3 v4 _ _ v r r2).mono ?_
                rintro e w' ⟨rfl, n, rfl⟩
                exact ⟨by rw [decide_eq_true rfl], (Upd.refl _ _).drewN n⟩
              have KI : Hid (∀ v, Upd (fun _ => False) w6 v → Calls Try.prog 11 #[.pointer (some ⟨kb, 0, none⟩), .string a.key] v fun e w' => ∃ v', e = .returned v' ∧ RowOf intc 1 w' v' ((aget (T6.map rk) a.key).getD []) ∧ Upd (fun _ => False) v w') := by
                intro v u
                refine (kids_any base kb M _ (k + 1) E6 a.key v (kat6.keep u (fun _ _ h => h)) (by omega)).mono ?_
                rintro e w' ⟨v', rfl, i, u2⟩
                exact ⟨v', rfl, i.row, u2⟩
              have RI : Hid (∀ v, Upd (fun _ => False) w6 v → Calls Try.prog 22 #[.pointer (some ⟨wb, 0, none⟩), .string a.key] v fun e w' => ∃ v', e = .returned v' ∧ RowOf intc 1 w' v' ((aget (T6.map rk) a.key).getD []) ∧ Upd (fun _ => False) v w') := by
                intro v u
                refine (ref_ids (REF6.out.keep0 u) (by omega) a.key).mono ?_
                rintro e w' ⟨v', rfl, i, u2⟩
                exact ⟨v', rfl, i.row, u2⟩
              have S4 : Hid (∀ v3 v4 v, RowOf intc 1 v v3 ((aget (T6.map rk) a.key).getD []) → RowOf intc 1 v v4 ((aget (T6.map rk) a.key).getD []) → Calls Try.prog 14 #[v3, v4] v fun e w' => e = .returned (.bool true) ∧ Upd (fun _ => False) v w') := by
                intro v3 v4 v r r2
                refine (same14_any v3 v4 _ _ v r r2).mono ?_
                rintro e w' ⟨rfl, n, rfl⟩
                exact ⟨by rw [decide_eq_true rfl], (Upd.refl _ _).drewN n⟩
              have cbl : kb < w6.heap.size := by
                rcases Nat.lt_or_ge kb w6.heap.size with g | g
                · exact g
                · simp [World.cell?, Array.getElem?_eq_none g] at cb
              have PS : Hid (∀ v, Upd (fun _ => False) w6 v → v.cell? ⟨kb, 0, none⟩ = some (.pointer (some ⟨rb, 0, none⟩)) ∧ v.cell? ⟨wb, 0, none⟩ = some (.slice p2 n2 c2) ∧ v.cell? ⟨ab, 2, none⟩ = some (.string a.key)) := fun v u =>
                ⟨(u.cell (p := ⟨kb, 0, none⟩) cbl (fun h => h)).trans cb, (REF6.out.keep0 u).blk.cellAt (i := 0) rfl, (u.blk BX6.out (fun h => h)).cellAt (i := 2) (v := .string a.key) rfl⟩
              obtain ⟨y0, y1, y2⟩ := PS.out w6 (Upd.refl _ _)
              clear kat6 dis6 cb hr hl6 cbl HLn REF6
              go_wp2_with fail
              refine wp_region_held_drew (S := (fun w' => w'.cell? ⟨kb, 0, none⟩ = some (.pointer (some ⟨rb, 0, none⟩)) ∧ w'.cell? ⟨wb, 0, none⟩ = some (.slice p2 n2 c2) ∧ w'.cell? ⟨ab, 2, none⟩ = some (.string a.key))) (by kernel_rfl) ?_ (fun hHeld => ?_)
              · (try dsimp only); go_keep
              try simp only [Array.replicate, Act.put, List.setIfInBounds_toArray]
              refine' wpAnyH_take (i := 0) (oi := _) (v := _) ?hiRC1 (by kernel_rfl) (by kernel_rfl) (by kernel_rfl) ?hQRC1 ?hyRC1 (by assumption) ?restRC1
              case' hiRC1 => (first | (simp only [List.getElem?_toArray, List.getElem?_cons_succ, List.getElem?_cons_zero]; done) | (simp only [List.getElem?_toArray, List.getElem?_cons_succ, List.getElem?_cons_zero]; rfl))
              case' hQRC1 => exact fun _ _ _ h => h
              case' hyRC1 => refine Or.inl ⟨by rfl, ?_⟩
              (intro w hSw; (try dsimp only at hSw); go_simp; try with_reducible rfl)
              try simp only [Act.put, List.setIfInBounds_toArray, List.set_cons_zero, List.set_cons_succ]
              refine' wpAnyH_take (i := 1) (oi := _) (v := _) ?hiRC2 (by kernel_rfl) (by kernel_rfl) (by kernel_rfl) ?hQRC2 ?hyRC2 (by assumption) ?restRC2
              case' hiRC2 => (first | (simp only [List.getElem?_toArray, List.getElem?_cons_succ, List.getElem?_cons_zero]; done) | (simp only [List.getElem?_toArray, List.getElem?_cons_succ, List.getElem?_cons_zero]; rfl))
              case' hQRC2 => exact fun _ _ _ h => h
              case' hyRC2 => refine Or.inl ⟨by rfl, ?_⟩
              (intro w hSw; (try dsimp only at hSw); go_simp; try with_reducible rfl)
              try simp only [Act.put, List.setIfInBounds_toArray, List.set_cons_zero, List.set_cons_succ]
              refine' wpAnyH_take (i := 2) (oi := _) (v := _) ?hiRC3 (by kernel_rfl) (by kernel_rfl) (by kernel_rfl) ?hQRC3 ?hyRC3 (by assumption) ?restRC3
              case' hiRC3 => (first | (simp only [List.getElem?_toArray, List.getElem?_cons_succ, List.getElem?_cons_zero]; done) | (simp only [List.getElem?_toArray, List.getElem?_cons_succ, List.getElem?_cons_zero]; rfl))
              case' hQRC3 => exact fun _ _ _ h => h
              case' hyRC3 => refine Or.inl ⟨by rfl, ?_⟩
              (intro w hSw; (try dsimp only at hSw); go_simp; try with_reducible rfl)
              try simp only [Act.put, List.setIfInBounds_toArray, List.set_cons_zero, List.set_cons_succ]
              refine' wpAnyH_take (i := 3) (oi := _) (v := _) ?hiRC4 (by kernel_rfl) (by kernel_rfl) (by kernel_rfl) ?hQRC4 ?hyRC4 (by assumption) ?restRC4
              case' hiRC4 => (first | (simp only [List.getElem?_toArray, List.getElem?_cons_succ, List.getElem?_cons_zero]; done) | (simp only [List.getElem?_toArray, List.getElem?_cons_succ, List.getElem?_cons_zero]; rfl))
              case' hQRC4 => exact fun _ _ _ h => h
              case' hyRC4 => refine Or.inl ⟨by rfl, ?_⟩
              (intro w hSw; (try dsimp only at hSw); go_simp; try with_reducible rfl)
              try simp only [Act.put, List.setIfInBounds_toArray, List.set_cons_zero, List.set_cons_succ]
              refine' wpAnyH_take (i := 5) (oi := _) (v := _) ?hiRC5 (by kernel_rfl) (by kernel_rfl) (by kernel_rfl) ?hQRC5 ?hyRC5 (by assumption) ?restRC5
              case' hiRC5 => (first | (simp only [List.getElem?_toArray, List.getElem?_cons_succ, List.getElem?_cons_zero]; done) | (simp only [List.getElem?_toArray, List.getElem?_cons_succ, List.getElem?_cons_zero]; rfl))
              case' hQRC5 => exact fun _ _ _ h => h
              case' hyRC5 => refine Or.inl ⟨by rfl, ?_⟩
              (intro w hSw; (try dsimp only at hSw); go_simp; try with_reducible rfl)
              try simp only [Act.put, List.setIfInBounds_toArray, List.set_cons_zero, List.set_cons_succ]
              refine' wpAnyH_take (i := 6) (oi := _) (v := _) ?hiRC6 (by kernel_rfl) (by kernel_rfl) (by kernel_rfl) ?hQRC6 ?hyRC6 (by assumption) ?restRC6
              case' hiRC6 => (first | (simp only [List.getElem?_toArray, List.getElem?_cons_succ, List.getElem?_cons_zero]; done) | (simp only [List.getElem?_toArray, List.getElem?_cons_succ, List.getElem?_cons_zero]; rfl))
              case' hQRC6 => exact fun _ _ _ h => h
              case' hyRC6 => refine Or.inl ⟨by rfl, ?_⟩
              (intro w hSw; (try dsimp only at hSw); go_simp; try with_reducible rfl)
              try simp only [Act.put, List.setIfInBounds_toArray, List.set_cons_zero, List.set_cons_succ]
              refine' wpAnyH_take (i := 7) (oi := _) (v := _) ?hiRC7 (by kernel_rfl) (by kernel_rfl) (by kernel_rfl) ?hQRC7 ?hyRC7 (by assumption) ?restRC7
              case' hiRC7 => (first | (simp only [List.getElem?_toArray, List.getElem?_cons_succ, List.getElem?_cons_zero]; done) | (simp only [List.getElem?_toArray, List.getElem?_cons_succ, List.getElem?_cons_zero]; rfl))
              case' hQRC7 => exact fun _ _ _ h => h
              case' hyRC7 => refine Or.inl ⟨by rfl, ?_⟩
              (intro w hSw; (try dsimp only at hSw); go_simp; try with_reducible rfl)
              try simp only [Act.put, List.setIfInBounds_toArray, List.set_cons_zero, List.set_cons_succ]
              refine' wpAnyH_take (i := 8) (oi := _) (v := _) ?hiRC8 (by kernel_rfl) (by kernel_rfl) (by kernel_rfl) ?hQRC8 ?hyRC8 (by assumption) ?restRC8
              case' hiRC8 => (first | (simp only [List.getElem?_toArray, List.getElem?_cons_succ, List.getElem?_cons_zero]; done) | (simp only [List.getElem?_toArray, List.getElem?_cons_succ, List.getElem?_cons_zero]; rfl))
              case' hQRC8 => exact fun _ _ _ h => h
              case' hyRC8 => refine Or.inl ⟨by rfl, ?_⟩
              (intro w hSw; (try dsimp only at hSw); go_simp; try with_reducible rfl)
              try simp only [Act.put, List.setIfInBounds_toArray, List.set_cons_zero, List.set_cons_succ]
              refine' wpAnyH_take (i := 9) (oi := _) (v := _) ?hiRC9 (by kernel_rfl) (by kernel_rfl) (by kernel_rfl) ?hQRC9 ?hyRC9 (by assumption) ?restRC9
              case' hiRC9 => (first | (simp only [List.getElem?_toArray, List.getElem?_cons_succ, List.getElem?_cons_zero]; done) | (simp only [List.getElem?_toArray, List.getElem?_cons_succ, List.getElem?_cons_zero]; rfl))
              case' hQRC9 => exact fun _ _ _ h => h
              case' hyRC9 => refine Or.inl ⟨by rfl, ?_⟩
              (intro w hSw; (try dsimp only at hSw); go_simp; try with_reducible rfl)
              try simp only [Act.put, List.setIfInBounds_toArray, List.set_cons_zero, List.set_cons_succ]
              refine wpAnyH_ready (rs := [4]) (by kernel_rfl) (by simp) ?_
              refine' AllReadyH.cons (o := _) ?hiRC10 (fun K hK => ?hKRC10) AllReadyH.nil
              case' hiRC10 => (first | (simp only [List.getElem?_toArray, List.getElem?_cons_succ, List.getElem?_cons_zero]; done) | (simp only [List.getElem?_toArray, List.getElem?_cons_succ, List.getElem?_cons_zero]; rfl))
              go_simp
              (go_at_call 9; refine (LE.out _ (by first | exact Upd.refl _ _ | exact (Upd.refl _ _).drew)).mono ?_; rintro e w7 ⟨rfl, u7⟩; (have y7 := PS.out _ u7))
              refine hK.out _ _ ?_ (fun hHeld => ?_)
              · (try dsimp only); go_keep
              clear hK K
              try simp only [Act.put, List.setIfInBounds_toArray, List.set_cons_zero, List.set_cons_succ]
              refine' wpAnyH_take (i := 10) (oi := _) (v := _) ?hiRC11 (by kernel_rfl) (by kernel_rfl) (by kernel_rfl) ?hQRC11 ?hyRC11 (by assumption) ?restRC11
              case' hiRC11 => (first | (simp only [List.getElem?_toArray, List.getElem?_cons_succ, List.getElem?_cons_zero]; done) | (simp only [List.getElem?_toArray, List.getElem?_cons_succ, List.getElem?_cons_zero]; rfl))
              case' hQRC11 => exact fun _ _ _ h => h
              case' hyRC11 => refine Or.inl ⟨by rfl, ?_⟩
              (intro w hSw; (try dsimp only at hSw); go_simp; try with_reducible rfl)
              try simp only [Act.put, List.setIfInBounds_toArray, List.set_cons_zero, List.set_cons_succ]
              refine' wpAnyH_take (i := 11) (oi := _) (v := _) ?hiRC12 (by kernel_rfl) (by kernel_rfl) (by kernel_rfl) ?hQRC12 ?hyRC12 (by assumption) ?restRC12
              case' hiRC12 => (first | (simp only [List.getElem?_toArray, List.getElem?_cons_succ, List.getElem?_cons_zero]; done) | (simp only [List.getElem?_toArray, List.getElem?_cons_succ, List.getElem?_cons_zero]; rfl))
              case' hQRC12 => exact fun _ _ _ h => h
              case' hyRC12 => refine Or.inl ⟨by rfl, ?_⟩
              (intro w hSw; (try dsimp only at hSw); go_simp; try with_reducible rfl)
              try simp only [Act.put, List.setIfInBounds_toArray, List.set_cons_zero, List.set_cons_succ]
              refine' wpAnyH_take (i := 12) (oi := _) (v := _) ?hiRC13 (by kernel_rfl) (by kernel_rfl) (by kernel_rfl) ?hQRC13 ?hyRC13 (by assumption) ?restRC13
              case' hiRC13 => (first | (simp only [List.getElem?_toArray, List.getElem?_cons_succ, List.getElem?_cons_zero]; done) | (simp only [List.getElem?_toArray, List.getElem?_cons_succ, List.getElem?_cons_zero]; rfl))
              case' hQRC13 => exact fun _ _ _ h => h
              case' hyRC13 => refine Or.inl ⟨by rfl, ?_⟩
              (intro w hSw; (try dsimp only at hSw); go_simp; try with_reducible rfl)
              try simp only [Act.put, List.setIfInBounds_toArray, List.set_cons_zero, List.set_cons_succ]
              refine' wpAnyH_take (i := 13) (oi := _) (v := _) ?hiRC14 (by kernel_rfl) (by kernel_rfl) (by kernel_rfl) ?hQRC14 ?hyRC14 (by assumption) ?restRC14
              case' hiRC14 => (first | (simp only [List.getElem?_toArray, List.getElem?_cons_succ, List.getElem?_cons_zero]; done) | (simp only [List.getElem?_toArray, List.getElem?_cons_succ, List.getElem?_cons_zero]; rfl))
              case' hQRC14 => exact fun _ _ _ h => h
              case' hyRC14 => refine Or.inl ⟨by rfl, ?_⟩
              (intro w hSw; (try dsimp only at hSw); go_simp; try with_reducible rfl)
              try simp only [Act.put, List.setIfInBounds_toArray, List.set_cons_zero, List.set_cons_succ]
              refine' wpAnyH_take (i := 14) (oi := _) (v := _) ?hiRC15 (by kernel_rfl) (by kernel_rfl) (by kernel_rfl) ?hQRC15 ?hyRC15 (by assumption) ?restRC15
              case' hiRC15 => (first | (simp only [List.getElem?_toArray, List.getElem?_cons_succ, List.getElem?_cons_zero]; done) | (simp only [List.getElem?_toArray, List.getElem?_cons_succ, List.getElem?_cons_zero]; rfl))
              case' hQRC15 => exact fun _ _ _ h => h
              case' hyRC15 => refine Or.inl ⟨by rfl, ?_⟩
              (intro w hSw; (try dsimp only at hSw); go_simp; try with_reducible rfl)
              try simp only [Act.put, List.setIfInBounds_toArray, List.set_cons_zero, List.set_cons_succ]
              refine' wpAnyH_take (i := 15) (oi := _) (v := _) ?hiRC16 (by kernel_rfl) (by kernel_rfl) (by kernel_rfl) ?hQRC16 ?hyRC16 (by assumption) ?restRC16
              case' hiRC16 => (first | (simp only [List.getElem?_toArray, List.getElem?_cons_succ, List.getElem?_cons_zero]; done) | (simp only [List.getElem?_toArray, List.getElem?_cons_succ, List.getElem?_cons_zero]; rfl))
              case' hQRC16 => exact fun _ _ _ h => h
              case' hyRC16 => refine Or.inl ⟨by rfl, ?_⟩
              (intro w hSw; (try dsimp only at hSw); go_simp; try with_reducible rfl)
              try simp only [Act.put, List.setIfInBounds_toArray, List.set_cons_zero, List.set_cons_succ]
              refine' wpAnyH_take (i := 17) (oi := _) (v := _) ?hiRC17 (by kernel_rfl) (by kernel_rfl) (by kernel_rfl) ?hQRC17 ?hyRC17 (by assumption) ?restRC17
              case' hiRC17 => (first | (simp only [List.getElem?_toArray, List.getElem?_cons_succ, List.getElem?_cons_zero]; done) | (simp only [List.getElem?_toArray, List.getElem?_cons_succ, List.getElem?_cons_zero]; rfl))
              case' hQRC17 => exact fun _ _ _ h => h
              case' hyRC17 => refine Or.inl ⟨by rfl, ?_⟩
              (intro w hSw; (try dsimp only at hSw); go_simp; try with_reducible rfl)
              try simp only [Act.put, List.setIfInBounds_toArray, List.set_cons_zero, List.set_cons_succ]
              refine wpAnyH_ready (rs := [16]) (by kernel_rfl) (by simp) ?_
              refine' AllReadyH.cons (o := _) ?hiRC18 (fun K hK => ?hKRC18) AllReadyH.nil
              case' hiRC18 => (first | (simp only [List.getElem?_toArray, List.getElem?_cons_succ, List.getElem?_cons_zero]; done) | (simp only [List.getElem?_toArray, List.getElem?_cons_succ, List.getElem?_cons_zero]; rfl))
              go_simp
              (go_at_call 20; refine (LA.out w7 u7).mono ?_; rintro e w8 ⟨v8, rfl, i8, v_8⟩; (have u8 := u7.trans v_8 (fun _ _ h => h)); (have y8 := PS.out _ u8))
              refine hK.out _ _ ?_ (fun hHeld => ?_)
              · (try dsimp only); go_keep
              clear hK K
              try simp only [Act.put, List.setIfInBounds_toArray, List.set_cons_zero, List.set_cons_succ]
              refine wpAnyH_ready (rs := [18]) (by kernel_rfl) (by simp) ?_
              refine' AllReadyH.cons (o := _) ?hiRC19 (fun K hK => ?hKRC19) AllReadyH.nil
              case' hiRC19 => (first | (simp only [List.getElem?_toArray, List.getElem?_cons_succ, List.getElem?_cons_zero]; done) | (simp only [List.getElem?_toArray, List.getElem?_cons_succ, List.getElem?_cons_zero]; rfl))
              go_simp
              (go_at_call 21; refine (RA.out w8 u8).mono ?_; rintro e w9 ⟨v9, rfl, i9, v_9⟩; (have i8 := i8.keep v_9 (fun _ _ _ h => h)); (have u9 := u8.trans v_9 (fun _ _ h => h)); (have y9 := PS.out _ u9))
              refine hK.out _ _ ?_ (fun hHeld => ?_)
              · (try dsimp only); go_keep
              clear hK K
              try simp only [Act.put, List.setIfInBounds_toArray, List.set_cons_zero, List.set_cons_succ]
              refine wpAnyH_ready (rs := [19]) (by kernel_rfl) (by simp) ?_
              refine' AllReadyH.cons (o := _) ?hiRC20 (fun K hK => ?hKRC20) AllReadyH.nil
              case' hiRC20 => (first | (simp only [List.getElem?_toArray, List.getElem?_cons_succ, List.getElem?_cons_zero]; done) | (simp only [List.getElem?_toArray, List.getElem?_cons_succ, List.getElem?_cons_zero]; rfl))
              go_simp
              (go_at_call 19; refine (S6.out v8 v9 w9 i8 i9).mono ?_; rintro e w10 ⟨rfl, v_10⟩; (have u10 := u9.trans v_10 (fun _ _ h => h)); (have y10 := PS.out _ u10); clear i8 i9)
              refine hK.out _ _ ?_ (fun hHeld => ?_)
              · (try dsimp only); go_keep
              clear hK K
              try simp only [Act.put, List.setIfInBounds_toArray, List.set_cons_zero, List.set_cons_succ]
              refine' wpAnyH_take (i := 20) (oi := _) (v := _) ?hiRC21 (by kernel_rfl) (by kernel_rfl) (by kernel_rfl) ?hQRC21 ?hyRC21 (by assumption) ?restRC21
              case' hiRC21 => (first | (simp only [List.getElem?_toArray, List.getElem?_cons_succ, List.getElem?_cons_zero]; done) | (simp only [List.getElem?_toArray, List.getElem?_cons_succ, List.getElem?_cons_zero]; rfl))
              case' hQRC21 => exact fun _ _ _ h => h
              case' hyRC21 => refine Or.inl ⟨by rfl, ?_⟩
              (intro w hSw; (try dsimp only at hSw); go_simp; try with_reducible rfl)
              try simp only [Act.put, List.setIfInBounds_toArray, List.set_cons_zero, List.set_cons_succ]
              refine' wpAnyH_take (i := 21) (oi := _) (v := _) ?hiRC22 (by kernel_rfl) (by kernel_rfl) (by kernel_rfl) ?hQRC22 ?hyRC22 (by assumption) ?restRC22
              case' hiRC22 => (first | (simp only [List.getElem?_toArray, List.getElem?_cons_succ, List.getElem?_cons_zero]; done) | (simp only [List.getElem?_toArray, List.getElem?_cons_succ, List.getElem?_cons_zero]; rfl))
              case' hQRC22 => exact fun _ _ _ h => h
              case' hyRC22 => refine Or.inl ⟨by rfl, ?_⟩
              (intro w hSw; (try dsimp only at hSw); go_simp; try with_reducible rfl)
              try simp only [Act.put, List.setIfInBounds_toArray, List.set_cons_zero, List.set_cons_succ]
              refine' wpAnyH_take (i := 22) (oi := _) (v := _) ?hiRC23 (by kernel_rfl) (by kernel_rfl) (by kernel_rfl) ?hQRC23 ?hyRC23 (by assumption) ?restRC23
              case' hiRC23 => (first | (simp only [List.getElem?_toArray, List.getElem?_cons_succ, List.getElem?_cons_zero]; done) | (simp only [List.getElem?_toArray, List.getElem?_cons_succ, List.getElem?_cons_zero]; rfl))
              case' hQRC23 => exact fun _ _ _ h => h
              case' hyRC23 => refine Or.inl ⟨by rfl, ?_⟩
              (intro w hSw; (try dsimp only at hSw); go_simp; try with_reducible rfl)
              try simp only [Act.put, List.setIfInBounds_toArray, List.set_cons_zero, List.set_cons_succ]
              refine' wpAnyH_take (i := 23) (oi := _) (v := _) ?hiRC24 (by kernel_rfl) (by kernel_rfl) (by kernel_rfl) ?hQRC24 ?hyRC24 (by assumption) ?restRC24
              case' hiRC24 => (first | (simp only [List.getElem?_toArray, List.getElem?_cons_succ, List.getElem?_cons_zero]; done) | (simp only [List.getElem?_toArray, List.getElem?_cons_succ, List.getElem?_cons_zero]; rfl))
              case' hQRC24 => exact fun _ _ _ h => h
              case' hyRC24 => refine Or.inl ⟨by rfl, ?_⟩
              (intro w hSw; (try dsimp only at hSw); go_simp; try with_reducible rfl)
              try simp only [Act.put, List.setIfInBounds_toArray, List.set_cons_zero, List.set_cons_succ]
              refine' wpAnyH_take (i := 24) (oi := _) (v := _) ?hiRC25 (by kernel_rfl) (by kernel_rfl) (by kernel_rfl) ?hQRC25 ?hyRC25 (by assumption) ?restRC25
              case' hiRC25 => (first | (simp only [List.getElem?_toArray, List.getElem?_cons_succ, List.getElem?_cons_zero]; done) | (simp only [List.getElem?_toArray, List.getElem?_cons_succ, List.getElem?_cons_zero]; rfl))
              case' hQRC25 => exact fun _ _ _ h => h
              case' hyRC25 => refine Or.inl ⟨by rfl, ?_⟩
              (intro w hSw; (try dsimp only at hSw); go_simp; try with_reducible rfl)
              try simp only [Act.put, List.setIfInBounds_toArray, List.set_cons_zero, List.set_cons_succ]
              refine' wpAnyH_take (i := 25) (oi := _) (v := _) ?hiRC26 (by kernel_rfl) (by kernel_rfl) (by kernel_rfl) ?hQRC26 ?hyRC26 (by assumption) ?restRC26
              case' hiRC26 => (first | (simp only [List.getElem?_toArray, List.getElem?_cons_succ, List.getElem?_cons_zero]; done) | (simp only [List.getElem?_toArray, List.getElem?_cons_succ, List.getElem?_cons_zero]; rfl))
              case' hQRC26 => exact fun _ _ _ h => h
              case' hyRC26 => refine Or.inl ⟨by rfl, ?_⟩
              (intro w hSw; (try dsimp only at hSw); go_simp; try with_reducible rfl)
              try simp only [Act.put, List.setIfInBounds_toArray, List.set_cons_zero, List.set_cons_succ]
              refine' wpAnyH_take (i := 27) (oi := _) (v := _) ?hiRC27 (by kernel_rfl) (by kernel_rfl) (by kernel_rfl) ?hQRC27 ?hyRC27 (by assumption) ?restRC27
              case' hiRC27 => (first | (simp only [List.getElem?_toArray, List.getElem?_cons_succ, List.getElem?_cons_zero]; done) | (simp only [List.getElem?_toArray, List.getElem?_cons_succ, List.getElem?_cons_zero]; rfl))
              case' hQRC27 => exact fun _ _ _ h => h
              case' hyRC27 => refine Or.inl ⟨by rfl, ?_⟩
              (intro w hSw; (try dsimp only at hSw); go_simp; try with_reducible rfl)
              try simp only [Act.put, List.setIfInBounds_toArray, List.set_cons_zero, List.set_cons_succ]
              refine' wpAnyH_take (i := 28) (oi := _) (v := _) ?hiRC28 (by kernel_rfl) (by kernel_rfl) (by kernel_rfl) ?hQRC28 ?hyRC28 (by assumption) ?restRC28
              case' hiRC28 => (first | (simp only [List.getElem?_toArray, List.getElem?_cons_succ, List.getElem?_cons_zero]; done) | (simp only [List.getElem?_toArray, List.getElem?_cons_succ, List.getElem?_cons_zero]; rfl))
              case' hQRC28 => exact fun _ _ _ h => h
              case' hyRC28 => refine Or.inl ⟨by rfl, ?_⟩
              (intro w hSw; (try dsimp only at hSw); go_simp; try with_reducible rfl)
              try simp only [Act.put, List.setIfInBounds_toArray, List.set_cons_zero, List.set_cons_succ]
              refine' wpAnyH_take (i := 29) (oi := _) (v := _) ?hiRC29 (by kernel_rfl) (by kernel_rfl) (by kernel_rfl) ?hQRC29 ?hyRC29 (by assumption) ?restRC29
              case' hiRC29 => (first | (simp only [List.getElem?_toArray, List.getElem?_cons_succ, List.getElem?_cons_zero]; done) | (simp only [List.getElem?_toArray, List.getElem?_cons_succ, List.getElem?_cons_zero]; rfl))
              case' hQRC29 => exact fun _ _ _ h => h
              case' hyRC29 => refine Or.inl ⟨by rfl, ?_⟩
              (intro w hSw; (try dsimp only at hSw); go_simp; try with_reducible rfl)
              try simp only [Act.put, List.setIfInBounds_toArray, List.set_cons_zero, List.set_cons_succ]
              refine wpAnyH_ready (rs := [26]) (by kernel_rfl) (by simp) ?_
              refine' AllReadyH.cons (o := _) ?hiRC30 (fun K hK => ?hKRC30) AllReadyH.nil
              case' hiRC30 => (first | (simp only [List.getElem?_toArray, List.getElem?_cons_succ, List.getElem?_cons_zero]; done) | (simp only [List.getElem?_toArray, List.getElem?_cons_succ, List.getElem?_cons_zero]; rfl))
              go_simp
              (go_at_call 11; refine (KI.out w10 u10).mono ?_; rintro e w11 ⟨v11, rfl, i11, v_11⟩; (have u11 := u10.trans v_11 (fun _ _ h => h)); (have y11 := PS.out _ u11))
              refine hK.out _ _ ?_ (fun hHeld => ?_)
              · (try dsimp only); go_keep
              clear hK K
              try simp only [Act.put, List.setIfInBounds_toArray, List.set_cons_zero, List.set_cons_succ]
              refine wpAnyH_ready (rs := [30]) (by kernel_rfl) (by simp) ?_
              refine' AllReadyH.cons (o := _) ?hiRC31 (fun K hK => ?hKRC31) AllReadyH.nil
              case' hiRC31 => (first | (simp only [List.getElem?_toArray, List.getElem?_cons_succ, List.getElem?_cons_zero]; done) | (simp only [List.getElem?_toArray, List.getElem?_cons_succ, List.getElem?_cons_zero]; rfl))
              go_simp
              (go_at_call 22; refine (RI.out w11 u11).mono ?_; rintro e w12 ⟨v12, rfl, i12, v_12⟩; (have i11 := i11.keep v_12 (fun _ _ _ h => h)); (have u12 := u11.trans v_12 (fun _ _ h => h)); (have y12 := PS.out _ u12))
              refine hK.out _ _ ?_ (fun hHeld => ?_)
              · (try dsimp only); go_keep
              clear hK K
              try simp only [Act.put, List.setIfInBounds_toArray, List.set_cons_zero, List.set_cons_succ]
              refine wpAnyH_ready (rs := [31]) (by kernel_rfl) (by simp) ?_
              refine' AllReadyH.cons (o := _) ?hiRC32 (fun K hK => ?hKRC32) AllReadyH.nil
              case' hiRC32 => (first | (simp only [List.getElem?_toArray, List.getElem?_cons_succ, List.getElem?_cons_zero]; done) | (simp only [List.getElem?_toArray, List.getElem?_cons_succ, List.getElem?_cons_zero]; rfl))
              go_simp
              (go_at_call 14; refine (S4.out v11 v12 w12 i11 i12).mono ?_; rintro e w13 ⟨rfl, v_13⟩; (have u13 := u12.trans v_13 (fun _ _ h => h)); (have y13 := PS.out _ u13); clear i11 i12)
              refine hK.out _ _ ?_ (fun hHeld => ?_)
              · (try dsimp only); go_keep
              clear hK K
              try simp only [Act.put, List.setIfInBounds_toArray, List.set_cons_zero, List.set_cons_succ]
              refine' wpAnyH_take (i := 32) (oi := _) (v := _) ?hiRC33 (by kernel_rfl) (by kernel_rfl) (by kernel_rfl) ?hQRC33 ?hyRC33 (by assumption) ?restRC33
              case' hiRC33 => (first | (simp only [List.getElem?_toArray, List.getElem?_cons_succ, List.getElem?_cons_zero]; done) | (simp only [List.getElem?_toArray, List.getElem?_cons_succ, List.getElem?_cons_zero]; rfl))
              case' hQRC33 => exact fun _ _ _ h => h
              case' hyRC33 => refine Or.inl ⟨by rfl, ?_⟩
              (intro w hSw; (try dsimp only at hSw); go_simp; try with_reducible rfl)
              try simp only [Act.put, List.setIfInBounds_toArray, List.set_cons_zero, List.set_cons_succ]
              refine' wpAnyH_take (i := 33) (oi := _) (v := _) ?hiRC34 (by kernel_rfl) (by kernel_rfl) (by kernel_rfl) ?hQRC34 ?hyRC34 (by assumption) ?restRC34
              case' hiRC34 => (first | (simp only [List.getElem?_toArray, List.getElem?_cons_succ, List.getElem?_cons_zero]; done) | (simp only [List.getElem?_toArray, List.getElem?_cons_succ, List.getElem?_cons_zero]; rfl))
              case' hQRC34 => exact fun _ _ _ h => h
              case' hyRC34 => refine Or.inl ⟨by rfl, ?_⟩
              (intro w hSw; (try dsimp only at hSw); go_simp; try with_reducible rfl)
              try simp only [Act.put, List.setIfInBounds_toArray, List.set_cons_zero, List.set_cons_succ]
              refine wpAnyH_done (by kernel_rfl) ?_ _
              have KF := Lib.hid (KK.out.keep0 u13)
              go_wp2
              go_roundw
              case rel => exact ⟨k + 1, _, T6, by simp, by omega, KF⟩
              case measure => simp [intOf]; omega
            · have DR : Hid (∀ V, Upd (fun _ => False) (wr.alloc (.cells #[.int .i64 a.kind, .int .i64 a.id, .string a.key] 28)) V → _) := fun V uv => KK0.out.dropD (by omega) a.id [.int .i64 a.kind, .int .i64 a.id, .string a.key] 28 V uv
              have RD : Hid (∀ w4, KH w w4 base kb wb M v T (drop14 (T.map rk) a.id) k → Calls Try.prog 18 #[.pointer (some ⟨wb, 0, none⟩), .int .i64 a.id] w4 fun e w' => e = .returned (.int .i64 ((T.length : Int) - ((drop14 (T.map rk) a.id).length : Int))) ∧ ∃ v' T', KR w w' base kb wb M v' T' (k + 1) ∧ Upd (refW wb v) w4 w') := fun w4 kh4 => by
                refine (ref_drop kh4.ref (by omega) (fun t ht => by have := (RIS.out t ht).2; omega) kh4.bl a.id).mono ?_
                rintro e w' ⟨v', T', rfl, e6, r6, up6, f6⟩
                exact ⟨by rw [← e6, List.length_map], v', T', (kh4.next e6 r6 up6 f6 (sz_drop KK0.out.sz e6)).more (by omega), up6⟩
              have YC : Hid (∀ W, Blk W wr.heap.size [.int .i64 a.kind, .int .i64 a.id, .string a.key] 28 → W.cell? ⟨wr.heap.size, 1, none⟩ = some (.int .i64 a.id)) := fun W h => h.cellAt (i := 1) rfl
              have y0 := YC.out _ (Blk.made wr [.int .i64 a.kind, .int .i64 a.id, .string a.key] _)
              generalize ((T.length : Int) - ((drop14 (T.map rk) a.id).length : Int)) = nd at *
              clear RIS hTl
              go_wp2
              go_region_held3 (fun w' => w'.cell? ⟨wr.heap.size, 1, none⟩ = some (.int .i64 a.id)) (go_keep) (first
                | (go_at_call 10; refine (DR.out _ (by first | exact Upd.refl _ _ | exact (Upd.refl _ _).drew)).mono ?_; rintro e w4 ⟨rfl, kh4, bx4⟩; (have z4 := YC.out w4 bx4))
                | (go_at_call 18; refine (RD.out _ kh4).mono ?_; rintro e w6 ⟨rfl, v6, T6, kk6, up6⟩; (have bx6 := up6.blk bx4 (fun e => by have := HDB.out _ (e.elim Or.inl (fun g => Or.inr (Or.inl g))); omega)); (have z6 := YC.out w6 bx6)))
              obtain ⟨p2, c2, ev6, _, _⟩ := kk6.ref.rows.slice
              subst ev6
              have KK := Lib.hid kk6
              have BX6 := Lib.hid bx6
              obtain ⟨n2, hn2⟩ : ∃ n2, n2 = T6.length := ⟨_, rfl⟩
              have NN := Lib.hid hn2
              rw [← hn2] at KK
              clear hn2 kk6 bx6 kh4 bx4 up6 HDB KK0 YC c0 c1 c2'
              generalize wr.heap.size = ab at *
              obtain ⟨E6, kat6, dis6⟩ := KK.out.ex
              obtain ⟨rb, F6, cb, hr⟩ := kat6.rec
              have HLn : Hid ((akeys (T6.map rk)).length = n2) := by show _ = _; rw [NN.out]; simp [akeys]
              have hl6 := KK.out.len
              have REF6 := Lib.hid KK.out.ref
              have LE : Hid (∀ v, Upd (fun _ => False) w6 v → Calls Try.prog 9 #[.pointer (some ⟨rb, 0, none⟩)] v fun e w' => e = .returned (.int .i64 (n2 : Int)) ∧ Upd (fun _ => False) w6 w') := by
                intro v u
                refine (rlen_any rb _ F6 v (hr.keep u (fun _ _ h => h)) (by rw [HLn.out, NN.out]; omega)).mono ?_
                rintro e w' ⟨rfl, rfl⟩
                exact ⟨by rw [HLn.out], u⟩
              have LA : Hid (∀ v, Upd (fun _ => False) w6 v → Calls Try.prog 20 #[.pointer (some ⟨rb, 0, none⟩)] v fun e w' => ∃ v', e = .returned v' ∧ RowOf strc 1 w' v' (akeys (T6.map rk)) ∧ Upd (fun _ => False) v w') := by
                intro v u
                refine (all_any rb _ F6 v (hr.keep u (fun _ _ h => h)) (by rw [HLn.out, NN.out]; omega)).mono ?_
                rintro e w' ⟨v', rfl, i, u2⟩
                exact ⟨v', rfl, i.row, u2⟩
              have RA : Hid (∀ v, Upd (fun _ => False) w6 v → Calls Try.prog 21 #[.pointer (some ⟨wb, 0, none⟩)] v fun e w' => ∃ v', e = .returned v' ∧ RowOf strc 1 w' v' (akeys (T6.map rk)) ∧ Upd (fun _ => False) v w') := by
                intro v u
                refine (ref_all (REF6.out.keep0 u) (by omega)).mono ?_
                rintro e w' ⟨v', rfl, i, u2⟩
                exact ⟨v', rfl, i.row, u2⟩
              have S6 : Hid (∀ v3 v4 v, RowOf strc 1 v v3 (akeys (T6.map rk)) → RowOf strc 1 v v4 (akeys (T6.map rk)) → Calls Try.prog 19 #[v3, v4] v fun e w' => e = .returned (.bool true) ∧ Upd (fun _ => False) v w') := by
                intro v3 v4 v r r2
                refine (same06_any v3 v4 _ _ v r r2).mono ?_
                rintro e w' ⟨rfl, n, rfl⟩
                exact ⟨by rw [decide_eq_true rfl], (Upd.refl _ _).drewN n⟩
              have KI : Hid (∀ v, Upd (fun _ => False) w6 v → Calls Try.prog 11 #[.pointer (some ⟨kb, 0, none⟩), .string a.key] v fun e w' => ∃ v', e = .returned v' ∧ RowOf intc 1 w' v' ((aget (T6.map rk) a.key).getD []) ∧ Upd (fun _ => False) v w') := by
                intro v u
                refine (kids_any base kb M _ (k + 1) E6 a.key v (kat6.keep u (fun _ _ h => h)) (by omega)).mono ?_
                rintro e w' ⟨v', rfl, i, u2⟩
                exact ⟨v', rfl, i.row, u2⟩
              have RI : Hid (∀ v, Upd (fun _ => False) w6 v → Calls Try.prog 22 #[.pointer (some ⟨wb, 0, none⟩), .string a.key] v fun e w' => ∃ v', e = .returned v' ∧ RowOf intc 1 w' v' ((aget (T6.map rk) a.key).getD []) ∧ Upd (fun _ => False) v w') := by
                intro v u
                refine (ref_ids (REF6.out.keep0 u) (by omega) a.key).mono ?_
                rintro e w' ⟨v', rfl, i, u2⟩
                exact ⟨v', rfl, i.row, u2⟩
              have S4 : Hid (∀ v3 v4 v, RowOf intc 1 v v3 ((aget (T6.map rk) a.key).getD []) → RowOf intc 1 v v4 ((aget (T6.map rk) a.key).getD []) → Calls Try.prog 14 #[v3, v4] v fun e w' => e = .returned (.bool true) ∧ Upd (fun _ => False) v w') := by
                intro v3 v4 v r r2
                refine (same14_any v3 v4 _ _ v r r2).mono ?_
                rintro e w' ⟨rfl, n, rfl⟩
                exact ⟨by rw [decide_eq_true rfl], (Upd.refl _ _).drewN n⟩
              have cbl : kb < w6.heap.size := by
                rcases Nat.lt_or_ge kb w6.heap.size with g | g
                · exact g
                · simp [World.cell?, Array.getElem?_eq_none g] at cb
              have PS : Hid (∀ v, Upd (fun _ => False) w6 v → v.cell? ⟨kb, 0, none⟩ = some (.pointer (some ⟨rb, 0, none⟩)) ∧ v.cell? ⟨wb, 0, none⟩ = some (.slice p2 n2 c2) ∧ v.cell? ⟨ab, 2, none⟩ = some (.string a.key)) := fun v u =>
                ⟨(u.cell (p := ⟨kb, 0, none⟩) cbl (fun h => h)).trans cb, (REF6.out.keep0 u).blk.cellAt (i := 0) rfl, (u.blk BX6.out (fun h => h)).cellAt (i := 2) (v := .string a.key) rfl⟩
              obtain ⟨y0, y1, y2⟩ := PS.out w6 (Upd.refl _ _)
              clear kat6 dis6 cb hr hl6 cbl HLn REF6
              go_wp2_with fail
              refine wp_region_held_drew (S := (fun w' => w'.cell? ⟨kb, 0, none⟩ = some (.pointer (some ⟨rb, 0, none⟩)) ∧ w'.cell? ⟨wb, 0, none⟩ = some (.slice p2 n2 c2) ∧ w'.cell? ⟨ab, 2, none⟩ = some (.string a.key))) (by kernel_rfl) ?_ (fun hHeld => ?_)
              · (try dsimp only); go_keep
              try simp only [Array.replicate, Act.put, List.setIfInBounds_toArray]
              refine' wpAnyH_take (i := 0) (oi := _) (v := _) ?hiRD1 (by kernel_rfl) (by kernel_rfl) (by kernel_rfl) ?hQRD1 ?hyRD1 (by assumption) ?restRD1
              case' hiRD1 => (first | (simp only [List.getElem?_toArray, List.getElem?_cons_succ, List.getElem?_cons_zero]; done) | (simp only [List.getElem?_toArray, List.getElem?_cons_succ, List.getElem?_cons_zero]; rfl))
              case' hQRD1 => exact fun _ _ _ h => h
              case' hyRD1 => refine Or.inl ⟨by rfl, ?_⟩
              (intro w hSw; (try dsimp only at hSw); go_simp; try with_reducible rfl)
              try simp only [Act.put, List.setIfInBounds_toArray, List.set_cons_zero, List.set_cons_succ]
              refine' wpAnyH_take (i := 1) (oi := _) (v := _) ?hiRD2 (by kernel_rfl) (by kernel_rfl) (by kernel_rfl) ?hQRD2 ?hyRD2 (by assumption) ?restRD2
              case' hiRD2 => (first | (simp only [List.getElem?_toArray, List.getElem?_cons_succ, List.getElem?_cons_zero]; done) | (simp only [List.getElem?_toArray, List.getElem?_cons_succ, List.getElem?_cons_zero]; rfl))
              case' hQRD2 => exact fun _ _ _ h => h
              case' hyRD2 => refine Or.inl ⟨by rfl, ?_⟩
              (intro w hSw; (try dsimp only at hSw); go_simp; try with_reducible rfl)
              try simp only [Act.put, List.setIfInBounds_toArray, List.set_cons_zero, List.set_cons_succ]
              refine' wpAnyH_take (i := 2) (oi := _) (v := _) ?hiRD3 (by kernel_rfl) (by kernel_rfl) (by kernel_rfl) ?hQRD3 ?hyRD3 (by assumption) ?restRD3
              case' hiRD3 => (first | (simp only [List.getElem?_toArray, List.getElem?_cons_succ, List.getElem?_cons_zero]; done) | (simp only [List.getElem?_toArray, List.getElem?_cons_succ, List.getElem?_cons_zero]; rfl))
              case' hQRD3 => exact fun _ _ _ h => h
              case' hyRD3 => refine Or.inl ⟨by rfl, ?_⟩
              (intro w hSw; (try dsimp only at hSw); go_simp; try with_reducible rfl)
              try simp only [Act.put, List.setIfInBounds_toArray, List.set_cons_zero, List.set_cons_succ]
              refine' wpAnyH_take (i := 3) (oi := _) (v := _) ?hiRD4 (by kernel_rfl) (by kernel_rfl) (by kernel_rfl) ?hQRD4 ?hyRD4 (by assumption) ?restRD4
              case' hiRD4 => (first | (simp only [List.getElem?_toArray, List.getElem?_cons_succ, List.getElem?_cons_zero]; done) | (simp only [List.getElem?_toArray, List.getElem?_cons_succ, List.getElem?_cons_zero]; rfl))
              case' hQRD4 => exact fun _ _ _ h => h
              case' hyRD4 => refine Or.inl ⟨by rfl, ?_⟩
              (intro w hSw; (try dsimp only at hSw); go_simp; try with_reducible rfl)
              try simp only [Act.put, List.setIfInBounds_toArray, List.set_cons_zero, List.set_cons_succ]
              refine' wpAnyH_take (i := 5) (oi := _) (v := _) ?hiRD5 (by kernel_rfl) (by kernel_rfl) (by kernel_rfl) ?hQRD5 ?hyRD5 (by assumption) ?restRD5
              case' hiRD5 => (first | (simp only [List.getElem?_toArray, List.getElem?_cons_succ, List.getElem?_cons_zero]; done) | (simp only [List.getElem?_toArray, List.getElem?_cons_succ, List.getElem?_cons_zero]; rfl))
              case' hQRD5 => exact fun _ _ _ h => h
              case' hyRD5 => refine Or.inl ⟨by rfl, ?_⟩
              (intro w hSw; (try dsimp only at hSw); go_simp; try with_reducible rfl)
              try simp only [Act.put, List.setIfInBounds_toArray, List.set_cons_zero, List.set_cons_succ]
              refine' wpAnyH_take (i := 6) (oi := _) (v := _) ?hiRD6 (by kernel_rfl) (by kernel_rfl) (by kernel_rfl) ?hQRD6 ?hyRD6 (by assumption) ?restRD6
              case' hiRD6 => (first | (simp only [List.getElem?_toArray, List.getElem?_cons_succ, List.getElem?_cons_zero]; done) | (simp only [List.getElem?_toArray, List.getElem?_cons_succ, List.getElem?_cons_zero]; rfl))
              case' hQRD6 => exact fun _ _ _ h => h
              case' hyRD6 => refine Or.inl ⟨by rfl, ?_⟩
              (intro w hSw; (try dsimp only at hSw); go_simp; try with_reducible rfl)
              try simp only [Act.put, List.setIfInBounds_toArray, List.set_cons_zero, List.set_cons_succ]
              refine' wpAnyH_take (i := 7) (oi := _) (v := _) ?hiRD7 (by kernel_rfl) (by kernel_rfl) (by kernel_rfl) ?hQRD7 ?hyRD7 (by assumption) ?restRD7
              case' hiRD7 => (first | (simp only [List.getElem?_toArray, List.getElem?_cons_succ, List.getElem?_cons_zero]; done) | (simp only [List.getElem?_toArray, List.getElem?_cons_succ, List.getElem?_cons_zero]; rfl))
              case' hQRD7 => exact fun _ _ _ h => h
              case' hyRD7 => refine Or.inl ⟨by rfl, ?_⟩
              (intro w hSw; (try dsimp only at hSw); go_simp; try with_reducible rfl)
              try simp only [Act.put, List.setIfInBounds_toArray, List.set_cons_zero, List.set_cons_succ]
              refine' wpAnyH_take (i := 8) (oi := _) (v := _) ?hiRD8 (by kernel_rfl) (by kernel_rfl) (by kernel_rfl) ?hQRD8 ?hyRD8 (by assumption) ?restRD8
              case' hiRD8 => (first | (simp only [List.getElem?_toArray, List.getElem?_cons_succ, List.getElem?_cons_zero]; done) | (simp only [List.getElem?_toArray, List.getElem?_cons_succ, List.getElem?_cons_zero]; rfl))
              case' hQRD8 => exact fun _ _ _ h => h
              case' hyRD8 => refine Or.inl ⟨by rfl, ?_⟩
              (intro w hSw; (try dsimp only at hSw); go_simp; try with_reducible rfl)
              try simp only [Act.put, List.setIfInBounds_toArray, List.set_cons_zero, List.set_cons_succ]
              refine' wpAnyH_take (i := 9) (oi := _) (v := _) ?hiRD9 (by kernel_rfl) (by kernel_rfl) (by kernel_rfl) ?hQRD9 ?hyRD9 (by assumption) ?restRD9
              case' hiRD9 => (first | (simp only [List.getElem?_toArray, List.getElem?_cons_succ, List.getElem?_cons_zero]; done) | (simp only [List.getElem?_toArray, List.getElem?_cons_succ, List.getElem?_cons_zero]; rfl))
              case' hQRD9 => exact fun _ _ _ h => h
              case' hyRD9 => refine Or.inl ⟨by rfl, ?_⟩
              (intro w hSw; (try dsimp only at hSw); go_simp; try with_reducible rfl)
              try simp only [Act.put, List.setIfInBounds_toArray, List.set_cons_zero, List.set_cons_succ]
              refine wpAnyH_ready (rs := [4]) (by kernel_rfl) (by simp) ?_
              refine' AllReadyH.cons (o := _) ?hiRD10 (fun K hK => ?hKRD10) AllReadyH.nil
              case' hiRD10 => (first | (simp only [List.getElem?_toArray, List.getElem?_cons_succ, List.getElem?_cons_zero]; done) | (simp only [List.getElem?_toArray, List.getElem?_cons_succ, List.getElem?_cons_zero]; rfl))
              go_simp
              (go_at_call 9; refine (LE.out _ (by first | exact Upd.refl _ _ | exact (Upd.refl _ _).drew)).mono ?_; rintro e w7 ⟨rfl, u7⟩; (have y7 := PS.out _ u7))
              refine hK.out _ _ ?_ (fun hHeld => ?_)
              · (try dsimp only); go_keep
              clear hK K
              try simp only [Act.put, List.setIfInBounds_toArray, List.set_cons_zero, List.set_cons_succ]
              refine' wpAnyH_take (i := 10) (oi := _) (v := _) ?hiRD11 (by kernel_rfl) (by kernel_rfl) (by kernel_rfl) ?hQRD11 ?hyRD11 (by assumption) ?restRD11
              case' hiRD11 => (first | (simp only [List.getElem?_toArray, List.getElem?_cons_succ, List.getElem?_cons_zero]; done) | (simp only [List.getElem?_toArray, List.getElem?_cons_succ, List.getElem?_cons_zero]; rfl))
              case' hQRD11 => exact fun _ _ _ h => h
              case' hyRD11 => refine Or.inl ⟨by rfl, ?_⟩
              (intro w hSw; (try dsimp only at hSw); go_simp; try with_reducible rfl)
              try simp only [Act.put, List.setIfInBounds_toArray, List.set_cons_zero, List.set_cons_succ]
              refine' wpAnyH_take (i := 11) (oi := _) (v := _) ?hiRD12 (by kernel_rfl) (by kernel_rfl) (by kernel_rfl) ?hQRD12 ?hyRD12 (by assumption) ?restRD12
              case' hiRD12 => (first | (simp only [List.getElem?_toArray, List.getElem?_cons_succ, List.getElem?_cons_zero]; done) | (simp only [List.getElem?_toArray, List.getElem?_cons_succ, List.getElem?_cons_zero]; rfl))
              case' hQRD12 => exact fun _ _ _ h => h
              case' hyRD12 => refine Or.inl ⟨by rfl, ?_⟩
              (intro w hSw; (try dsimp only at hSw); go_simp; try with_reducible rfl)
              try simp only [Act.put, List.setIfInBounds_toArray, List.set_cons_zero, List.set_cons_succ]
              refine' wpAnyH_take (i := 12) (oi := _) (v := _) ?hiRD13 (by kernel_rfl) (by kernel_rfl) (by kernel_rfl) ?hQRD13 ?hyRD13 (by assumption) ?restRD13
              case' hiRD13 => (first | (simp only [List.getElem?_toArray, List.getElem?_cons_succ, List.getElem?_cons_zero]; done) | (simp only [List.getElem?_toArray, List.getElem?_cons_succ, List.getElem?_cons_zero]; rfl))
              case' hQRD13 => exact fun _ _ _ h => h
              case' hyRD13 => refine Or.inl ⟨by rfl, ?_⟩
              (intro w hSw; (try dsimp only at hSw); go_simp; try with_reducible rfl)
              try simp only [Act.put, List.setIfInBounds_toArray, List.set_cons_zero, List.set_cons_succ]
              refine' wpAnyH_take (i := 13) (oi := _) (v := _) ?hiRD14 (by kernel_rfl) (by kernel_rfl) (by kernel_rfl) ?hQRD14 ?hyRD14 (by assumption) ?restRD14
              case' hiRD14 => (first | (simp only [List.getElem?_toArray, List.getElem?_cons_succ, List.getElem?_cons_zero]; done) | (simp only [List.getElem?_toArray, List.getElem?_cons_succ, List.getElem?_cons_zero]; rfl))
              case' hQRD14 => exact fun _ _ _ h => h
              case' hyRD14 => refine Or.inl ⟨by rfl, ?_⟩
              (intro w hSw; (try dsimp only at hSw); go_simp; try with_reducible rfl)
              try simp only [Act.put, List.setIfInBounds_toArray, List.set_cons_zero, List.set_cons_succ]
              refine' wpAnyH_take (i := 14) (oi := _) (v := _) ?hiRD15 (by kernel_rfl) (by kernel_rfl) (by kernel_rfl) ?hQRD15 ?hyRD15 (by assumption) ?restRD15
              case' hiRD15 => (first | (simp only [List.getElem?_toArray, List.getElem?_cons_succ, List.getElem?_cons_zero]; done) | (simp only [List.getElem?_toArray, List.getElem?_cons_succ, List.getElem?_cons_zero]; rfl))
              case' hQRD15 => exact fun _ _ _ h => h
              case' hyRD15 => refine Or.inl ⟨by rfl, ?_⟩
              (intro w hSw; (try dsimp only at hSw); go_simp; try with_reducible rfl)
              try simp only [Act.put, List.setIfInBounds_toArray, List.set_cons_zero, List.set_cons_succ]
              refine' wpAnyH_take (i := 15) (oi := _) (v := _) ?hiRD16 (by kernel_rfl) (by kernel_rfl) (by kernel_rfl) ?hQRD16 ?hyRD16 (by assumption) ?restRD16
              case' hiRD16 => (first | (simp only [List.getElem?_toArray, List.getElem?_cons_succ, List.getElem?_cons_zero]; done) | (simp only [List.getElem?_toArray, List.getElem?_cons_succ, List.getElem?_cons_zero]; rfl))
              case' hQRD16 => exact fun _ _ _ h => h
              case' hyRD16 => refine Or.inl ⟨by rfl, ?_⟩
              (intro w hSw; (try dsimp only at hSw); go_simp; try with_reducible rfl)
              try simp only [Act.put, List.setIfInBounds_toArray, List.set_cons_zero, List.set_cons_succ]
              refine' wpAnyH_take (i := 17) (oi := _) (v := _) ?hiRD17 (by kernel_rfl) (by kernel_rfl) (by kernel_rfl) ?hQRD17 ?hyRD17 (by assumption) ?restRD17
              case' hiRD17 => (first | (simp only [List.getElem?_toArray, List.getElem?_cons_succ, List.getElem?_cons_zero]; done) | (simp only [List.getElem?_toArray, List.getElem?_cons_succ, List.getElem?_cons_zero]; rfl))
              case' hQRD17 => exact fun _ _ _ h => h
              case' hyRD17 => refine Or.inl ⟨by rfl, ?_⟩
              (intro w hSw; (try dsimp only at hSw); go_simp; try with_reducible rfl)
              try simp only [Act.put, List.setIfInBounds_toArray, List.set_cons_zero, List.set_cons_succ]
              refine wpAnyH_ready (rs := [16]) (by kernel_rfl) (by simp) ?_
              refine' AllReadyH.cons (o := _) ?hiRD18 (fun K hK => ?hKRD18) AllReadyH.nil
              case' hiRD18 => (first | (simp only [List.getElem?_toArray, List.getElem?_cons_succ, List.getElem?_cons_zero]; done) | (simp only [List.getElem?_toArray, List.getElem?_cons_succ, List.getElem?_cons_zero]; rfl))
              go_simp
              (go_at_call 20; refine (LA.out w7 u7).mono ?_; rintro e w8 ⟨v8, rfl, i8, v_8⟩; (have u8 := u7.trans v_8 (fun _ _ h => h)); (have y8 := PS.out _ u8))
              refine hK.out _ _ ?_ (fun hHeld => ?_)
              · (try dsimp only); go_keep
              clear hK K
              try simp only [Act.put, List.setIfInBounds_toArray, List.set_cons_zero, List.set_cons_succ]
              refine wpAnyH_ready (rs := [18]) (by kernel_rfl) (by simp) ?_
              refine' AllReadyH.cons (o := _) ?hiRD19 (fun K hK => ?hKRD19) AllReadyH.nil
              case' hiRD19 => (first | (simp only [List.getElem?_toArray, List.getElem?_cons_succ, List.getElem?_cons_zero]; done) | (simp only [List.getElem?_toArray, List.getElem?_cons_succ, List.getElem?_cons_zero]; rfl))
              go_simp
              (go_at_call 21; refine (RA.out w8 u8).mono ?_; rintro e w9 ⟨v9, rfl, i9, v_9⟩; (have i8 := i8.keep v_9 (fun _ _ _ h => h)); (have u9 := u8.trans v_9 (fun _ _ h => h)); (have y9 := PS.out _ u9))
              refine hK.out _ _ ?_ (fun hHeld => ?_)
              · (try dsimp only); go_keep
              clear hK K
              try simp only [Act.put, List.setIfInBounds_toArray, List.set_cons_zero, List.set_cons_succ]
              refine wpAnyH_ready (rs := [19]) (by kernel_rfl) (by simp) ?_
              refine' AllReadyH.cons (o := _) ?hiRD20 (fun K hK => ?hKRD20) AllReadyH.nil
              case' hiRD20 => (first | (simp only [List.getElem?_toArray, List.getElem?_cons_succ, List.getElem?_cons_zero]; done) | (simp only [List.getElem?_toArray, List.getElem?_cons_succ, List.getElem?_cons_zero]; rfl))
              go_simp
              (go_at_call 19; refine (S6.out v8 v9 w9 i8 i9).mono ?_; rintro e w10 ⟨rfl, v_10⟩; (have u10 := u9.trans v_10 (fun _ _ h => h)); (have y10 := PS.out _ u10); clear i8 i9)
              refine hK.out _ _ ?_ (fun hHeld => ?_)
              · (try dsimp only); go_keep
              clear hK K
              try simp only [Act.put, List.setIfInBounds_toArray, List.set_cons_zero, List.set_cons_succ]
              refine' wpAnyH_take (i := 20) (oi := _) (v := _) ?hiRD21 (by kernel_rfl) (by kernel_rfl) (by kernel_rfl) ?hQRD21 ?hyRD21 (by assumption) ?restRD21
              case' hiRD21 => (first | (simp only [List.getElem?_toArray, List.getElem?_cons_succ, List.getElem?_cons_zero]; done) | (simp only [List.getElem?_toArray, List.getElem?_cons_succ, List.getElem?_cons_zero]; rfl))
              case' hQRD21 => exact fun _ _ _ h => h
              case' hyRD21 => refine Or.inl ⟨by rfl, ?_⟩
              (intro w hSw; (try dsimp only at hSw); go_simp; try with_reducible rfl)
              try simp only [Act.put, List.setIfInBounds_toArray, List.set_cons_zero, List.set_cons_succ]
              refine' wpAnyH_take (i := 21) (oi := _) (v := _) ?hiRD22 (by kernel_rfl) (by kernel_rfl) (by kernel_rfl) ?hQRD22 ?hyRD22 (by assumption) ?restRD22
              case' hiRD22 => (first | (simp only [List.getElem?_toArray, List.getElem?_cons_succ, List.getElem?_cons_zero]; done) | (simp only [List.getElem?_toArray, List.getElem?_cons_succ, List.getElem?_cons_zero]; rfl))
              case' hQRD22 => exact fun _ _ _ h => h
              case' hyRD22 => refine Or.inl ⟨by rfl, ?_⟩
              (intro w hSw; (try dsimp only at hSw); go_simp; try with_reducible rfl)
              try simp only [Act.put, List.setIfInBounds_toArray, List.set_cons_zero, List.set_cons_succ]
              refine' wpAnyH_take (i := 22) (oi := _) (v := _) ?hiRD23 (by kernel_rfl) (by kernel_rfl) (by kernel_rfl) ?hQRD23 ?hyRD23 (by assumption) ?restRD23
              case' hiRD23 => (first | (simp only [List.getElem?_toArray, List.getElem?_cons_succ, List.getElem?_cons_zero]; done) | (simp only [List.getElem?_toArray, List.getElem?_cons_succ, List.getElem?_cons_zero]; rfl))
              case' hQRD23 => exact fun _ _ _ h => h
              case' hyRD23 => refine Or.inl ⟨by rfl, ?_⟩
              (intro w hSw; (try dsimp only at hSw); go_simp; try with_reducible rfl)
              try simp only [Act.put, List.setIfInBounds_toArray, List.set_cons_zero, List.set_cons_succ]
              refine' wpAnyH_take (i := 23) (oi := _) (v := _) ?hiRD24 (by kernel_rfl) (by kernel_rfl) (by kernel_rfl) ?hQRD24 ?hyRD24 (by assumption) ?restRD24
              case' hiRD24 => (first | (simp only [List.getElem?_toArray, List.getElem?_cons_succ, List.getElem?_cons_zero]; done) | (simp only [List.getElem?_toArray, List.getElem?_cons_succ, List.getElem?_cons_zero]; rfl))
              case' hQRD24 => exact fun _ _ _ h => h
              case' hyRD24 => refine Or.inl ⟨by rfl, ?_⟩
              (intro w hSw; (try dsimp only at hSw); go_simp; try with_reducible rfl)
              try simp only [Act.put, List.setIfInBounds_toArray, List.set_cons_zero, List.set_cons_succ]
              refine' wpAnyH_take (i := 24) (oi := _) (v := _) ?hiRD25 (by kernel_rfl) (by kernel_rfl) (by kernel_rfl) ?hQRD25 ?hyRD25 (by assumption) ?restRD25
              case' hiRD25 => (first | (simp only [List.getElem?_toArray, List.getElem?_cons_succ, List.getElem?_cons_zero]; done) | (simp only [List.getElem?_toArray, List.getElem?_cons_succ, List.getElem?_cons_zero]; rfl))
              case' hQRD25 => exact fun _ _ _ h => h
              case' hyRD25 => refine Or.inl ⟨by rfl, ?_⟩
              (intro w hSw; (try dsimp only at hSw); go_simp; try with_reducible rfl)
              try simp only [Act.put, List.setIfInBounds_toArray, List.set_cons_zero, List.set_cons_succ]
              refine' wpAnyH_take (i := 25) (oi := _) (v := _) ?hiRD26 (by kernel_rfl) (by kernel_rfl) (by kernel_rfl) ?hQRD26 ?hyRD26 (by assumption) ?restRD26
              case' hiRD26 => (first | (simp only [List.getElem?_toArray, List.getElem?_cons_succ, List.getElem?_cons_zero]; done) | (simp only [List.getElem?_toArray, List.getElem?_cons_succ, List.getElem?_cons_zero]; rfl))
              case' hQRD26 => exact fun _ _ _ h => h
              case' hyRD26 => refine Or.inl ⟨by rfl, ?_⟩
              (intro w hSw; (try dsimp only at hSw); go_simp; try with_reducible rfl)
              try simp only [Act.put, List.setIfInBounds_toArray, List.set_cons_zero, List.set_cons_succ]
              refine' wpAnyH_take (i := 27) (oi := _) (v := _) ?hiRD27 (by kernel_rfl) (by kernel_rfl) (by kernel_rfl) ?hQRD27 ?hyRD27 (by assumption) ?restRD27
              case' hiRD27 => (first | (simp only [List.getElem?_toArray, List.getElem?_cons_succ, List.getElem?_cons_zero]; done) | (simp only [List.getElem?_toArray, List.getElem?_cons_succ, List.getElem?_cons_zero]; rfl))
              case' hQRD27 => exact fun _ _ _ h => h
              case' hyRD27 => refine Or.inl ⟨by rfl, ?_⟩
              (intro w hSw; (try dsimp only at hSw); go_simp; try with_reducible rfl)
              try simp only [Act.put, List.setIfInBounds_toArray, List.set_cons_zero, List.set_cons_succ]
              refine' wpAnyH_take (i := 28) (oi := _) (v := _) ?hiRD28 (by kernel_rfl) (by kernel_rfl) (by kernel_rfl) ?hQRD28 ?hyRD28 (by assumption) ?restRD28
              case' hiRD28 => (first | (simp only [List.getElem?_toArray, List.getElem?_cons_succ, List.getElem?_cons_zero]; done) | (simp only [List.getElem?_toArray, List.getElem?_cons_succ, List.getElem?_cons_zero]; rfl))
              case' hQRD28 => exact fun _ _ _ h => h
              case' hyRD28 => refine Or.inl ⟨by rfl, ?_⟩
              (intro w hSw; (try dsimp only at hSw); go_simp; try with_reducible rfl)
              try simp only [Act.put, List.setIfInBounds_toArray, List.set_cons_zero, List.set_cons_succ]
              refine' wpAnyH_take (i := 29) (oi := _) (v := _) ?hiRD29 (by kernel_rfl) (by kernel_rfl) (by kernel_rfl) ?hQRD29 ?hyRD29 (by assumption) ?restRD29
              case' hiRD29 => (first | (simp only [List.getElem?_toArray, List.getElem?_cons_succ, List.getElem?_cons_zero]; done) | (simp only [List.getElem?_toArray, List.getElem?_cons_succ, List.getElem?_cons_zero]; rfl))
              case' hQRD29 => exact fun _ _ _ h => h
              case' hyRD29 => refine Or.inl ⟨by rfl, ?_⟩
              (intro w hSw; (try dsimp only at hSw); go_simp; try with_reducible rfl)
              try simp only [Act.put, List.setIfInBounds_toArray, List.set_cons_zero, List.set_cons_succ]
              refine wpAnyH_ready (rs := [26]) (by kernel_rfl) (by simp) ?_
              refine' AllReadyH.cons (o := _) ?hiRD30 (fun K hK => ?hKRD30) AllReadyH.nil
              case' hiRD30 => (first | (simp only [List.getElem?_toArray, List.getElem?_cons_succ, List.getElem?_cons_zero]; done) | (simp only [List.getElem?_toArray, List.getElem?_cons_succ, List.getElem?_cons_zero]; rfl))
              go_simp
              (go_at_call 11; refine (KI.out w10 u10).mono ?_; rintro e w11 ⟨v11, rfl, i11, v_11⟩; (have u11 := u10.trans v_11 (fun _ _ h => h)); (have y11 := PS.out _ u11))
              refine hK.out _ _ ?_ (fun hHeld => ?_)
              · (try dsimp only); go_keep
              clear hK K
              try simp only [Act.put, List.setIfInBounds_toArray, List.set_cons_zero, List.set_cons_succ]
              refine wpAnyH_ready (rs := [30]) (by kernel_rfl) (by simp) ?_
              refine' AllReadyH.cons (o := _) ?hiRD31 (fun K hK => ?hKRD31) AllReadyH.nil
              case' hiRD31 => (first | (simp only [List.getElem?_toArray, List.getElem?_cons_succ, List.getElem?_cons_zero]; done) | (simp only [List.getElem?_toArray, List.getElem?_cons_succ, List.getElem?_cons_zero]; rfl))
              go_simp
              (go_at_call 22; refine (RI.out w11 u11).mono ?_; rintro e w12 ⟨v12, rfl, i12, v_12⟩; (have i11 := i11.keep v_12 (fun _ _ _ h => h)); (have u12 := u11.trans v_12 (fun _ _ h => h)); (have y12 := PS.out _ u12))
              refine hK.out _ _ ?_ (fun hHeld => ?_)
              · (try dsimp only); go_keep
              clear hK K
              try simp only [Act.put, List.setIfInBounds_toArray, List.set_cons_zero, List.set_cons_succ]
              refine wpAnyH_ready (rs := [31]) (by kernel_rfl) (by simp) ?_
              refine' AllReadyH.cons (o := _) ?hiRD32 (fun K hK => ?hKRD32) AllReadyH.nil
              case' hiRD32 => (first | (simp only [List.getElem?_toArray, List.getElem?_cons_succ, List.getElem?_cons_zero]; done) | (simp only [List.getElem?_toArray, List.getElem?_cons_succ, List.getElem?_cons_zero]; rfl))
              go_simp
              (go_at_call 14; refine (S4.out v11 v12 w12 i11 i12).mono ?_; rintro e w13 ⟨rfl, v_13⟩; (have u13 := u12.trans v_13 (fun _ _ h => h)); (have y13 := PS.out _ u13); clear i11 i12)
              refine hK.out _ _ ?_ (fun hHeld => ?_)
              · (try dsimp only); go_keep
              clear hK K
              try simp only [Act.put, List.setIfInBounds_toArray, List.set_cons_zero, List.set_cons_succ]
              refine' wpAnyH_take (i := 32) (oi := _) (v := _) ?hiRD33 (by kernel_rfl) (by kernel_rfl) (by kernel_rfl) ?hQRD33 ?hyRD33 (by assumption) ?restRD33
              case' hiRD33 => (first | (simp only [List.getElem?_toArray, List.getElem?_cons_succ, List.getElem?_cons_zero]; done) | (simp only [List.getElem?_toArray, List.getElem?_cons_succ, List.getElem?_cons_zero]; rfl))
              case' hQRD33 => exact fun _ _ _ h => h
              case' hyRD33 => refine Or.inl ⟨by rfl, ?_⟩
              (intro w hSw; (try dsimp only at hSw); go_simp; try with_reducible rfl)
              try simp only [Act.put, List.setIfInBounds_toArray, List.set_cons_zero, List.set_cons_succ]
              refine' wpAnyH_take (i := 33) (oi := _) (v := _) ?hiRD34 (by kernel_rfl) (by kernel_rfl) (by kernel_rfl) ?hQRD34 ?hyRD34 (by assumption) ?restRD34
              case' hiRD34 => (first | (simp only [List.getElem?_toArray, List.getElem?_cons_succ, List.getElem?_cons_zero]; done) | (simp only [List.getElem?_toArray, List.getElem?_cons_succ, List.getElem?_cons_zero]; rfl))
              case' hQRD34 => exact fun _ _ _ h => h
              case' hyRD34 => refine Or.inl ⟨by rfl, ?_⟩
              (intro w hSw; (try dsimp only at hSw); go_simp; try with_reducible rfl)
              try simp only [Act.put, List.setIfInBounds_toArray, List.set_cons_zero, List.set_cons_succ]
              refine wpAnyH_done (by kernel_rfl) ?_ _
              have KF := Lib.hid (KK.out.keep0 u13)
              go_wp2
              go_roundw
              case rel => exact ⟨k + 1, _, T6, by simp, by omega, KF⟩
              case measure => simp [intOf]; omega
      · have q1 : ¬ (k : Int) < (l.length : Int) := by omega
        have UR := Lib.hid KK0.out.upd
        clear KK0
        go_wp2
        go_ret
        exact ⟨rfl, UR.out⟩
end Go.Proofs.Ythgojhchakclcaa
