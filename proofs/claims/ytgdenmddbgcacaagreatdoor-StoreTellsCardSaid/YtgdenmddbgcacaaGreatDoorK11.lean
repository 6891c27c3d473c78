/- Walks: the row of entries: how many, one more, the last one goes. -/
import Derived.Test.YtgdenmddbgcacaaGreatDoorK10
import Derived.Test.YtgdenmddbgcacaaGreatDoorK05
import Derived.Test.YtgdenmddbgcacaaGreatDoorK02
set_option linter.unusedVariables false
set_option linter.unusedSimpArgs false
namespace Go.Proofs.YtgdenmddbgcacaaGreatDoor
open Go.RowKit

theorem rowlen_any (p : Option Addr) (n c : Nat) (w : World) (hn : n ≤ 1000000) : Calls Tryz.prog 161 #[.slice p n c] w fun e w' => e = .returned (.int .i64 (n : Int)) ∧ w' = w := by
  go_enter Tryz.func161, Tryz.ntmps161
  go_wp2
  go_ret
  exact ⟨rfl, rfl⟩
theorem ptr_info : (Tryz.prog.info? 140).map (fun i => (i.zero, i.size, i.bytes)) = some (some (.pointer none), 1, 8) := by kernel_rfl
theorem asrtE (a : Addr) (w : World) : (Instr.typeAssert (.iface 140 (.pointer (some a))) 20 140 false).run Tryz.prog w = .ok (.pointer (some a)) w := by kernel_rfl
/-- The row with one more, not yet in its place. -/
def Pushed (base xa : Nat) (mv v : Value) (bs : List Nat) (ent : Nat → DueP) (b : Nat) (w : World) (e : Ending) (w' : World) : Prop := ∃ v', e = .returned (.tuple #[]) ∧ RowM w' base xa mv v' (bs ++ [b]) ent ∧ Upd (fun k => k = xa ∨ k = b ∨ v.ownBlock = some k) w w' ∧ (∀ k, v'.ownBlock = some k → v.ownBlock = some k ∨ w.heap.size ≤ k)
set_option maxHeartbeats 4000000 in
set_option maxRecDepth 100000 in
theorem rowPush_any (base xa : Nat) (mv v : Value) (bs : List Nat) (ent : Nat → DueP) (b i : Nat) (w : World) (h : RowM w base xa mv v bs ent) (hb0 : base ≤ w.heap.size) (hl : bs.length ≤ 1000000) (hB : Blk w b (entc (ent b) i) 147) (hb : b ∉ bs) (hbx : b ≠ xa) (hbv : v.ownBlock ≠ some b) :
    Calls Tryz.prog 170 #[.pointer (some ⟨xa, 0, none⟩), .iface 140 (ptr b)] w (Pushed base xa mv v bs ent b w) := by
  unfold Pushed ptr
  obtain ⟨p, c, ev, hm⟩ := own_slice h.own
  subst ev
  have c1 : w.cell? ⟨xa, 0, none⟩ = some (.slice p bs.length c) := h.x.cellAt (i := 0) rfl
  have f1 : w.frozen? ⟨xa, 0, none⟩ = false := h.x.free 0
  have c2 : w.cell? ⟨b, 2, none⟩ = some (.int .i64 (i : Int)) := hB.cellAt (i := 2) rfl
  have f2 : w.frozen? ⟨b, 2, none⟩ = false := hB.free 2
  have n1 : ¬ xa = b := fun e => hbx e.symm
  have hbl := hB.lt
  have hxl := h.x.lt
  have H := Lib.hid h
  have HB := Lib.hid hB
  have N := Lib.hid (And.intro hb (And.intro hbx hbv))
  obtain ⟨i0, hi0, hz0, hz1, hz2⟩ := info_parts ptr_info
  have OWN : Hid ((w.setCell ⟨b, 2, none⟩ (.int .i64 (bs.length : Int))).ownsRow base 140 1 (.slice p bs.length c) bs.length (bs.map ptr)) := own_keep h.own ((Upd.refl (fun k => k = b) w).set (fun _ => rfl)) (fun k hk e => hbv (by rw [hk, e]))
  have AS := asrtE ⟨b, 0, none⟩ w
  clear h hB hb
  go_enter Tryz.func170, Tryz.ntmps170
  have U1 : Hid (Upd (fun k => k = b ∨ (Value.slice p bs.length c).ownBlock = some k) w ((w.setCell ⟨b, 2, none⟩ (.int .i64 (bs.length : Int))).alloc (.cells #[.pointer (some ⟨b, 0, none⟩)] 140))) := ((Upd.refl _ w).set (fun _ => Or.inl rfl)).alloc _
  have HB1 : Hid (Blk ((w.setCell ⟨b, 2, none⟩ (.int .i64 (bs.length : Int))).alloc (.cells #[.pointer (some ⟨b, 0, none⟩)] 140)) b (entc (ent b) bs.length) 147) := (HB.out.set 2 _).alloc _
  go_wp2_with (at_builtin; refine wpList_append_where _ rfl _ _ 114 rfl (base) 140 i0 (.pointer none) 1 8 Tryz.underlying114 hi0 hz0 hz1 hz2 rfl (by decide) _ _ _ rfl (OWN.out.alloc _) ⟨w.heap.size, 0, none⟩ 1 1 [.pointer (some ⟨b, 0, none⟩)] rfl rfl ?c1 ?c2 ?c3 ?c4 ?c5 (by decide) ?_)
  try (case c1 =>
    intro x u hx
    match x with
    | 0 => simp at hx; subst hx; simp [Addr.add, World.cell?_alloc_at]
    | 1 => simp at hx <;> (subst hx; simp [Addr.add, World.cell?_alloc_at])
    | 2 => simp at hx <;> (subst hx; simp [Addr.add, World.cell?_alloc_at])
    | x + 3 => simp at hx)
  try (case c2 => first | rfl | exact ⟨rfl, rfl⟩ | exact ⟨rfl, rfl, rfl⟩ | (intro u hu; simp at hu; subst hu; rfl) | (intro u hu; simp at hu; rcases hu with rfl | rfl <;> rfl))
  case c3 => unfold maxLen; omega
  case c4 => first | omega | (simp; omega)
  case c5 => first | (simp; omega) | omega
  intro v' w' hown' hupd hnew
  have U2 := Lib.hid (U1.out.trans hupd (fun _ _ h => Or.inr h))
  have HB2 := Lib.hid (hupd.blk HB1.out N.out.2.2)
  have NW : Hid (∀ k, v'.ownBlock = some k → (Value.slice p bs.length c).ownBlock = some k ∨ w.heap.size ≤ k) := fun k hk => by
    rcases hnew k hk with g | g
    · exact Or.inl g
    · right; simp at g; omega
  have OW2 : Hid (w'.ownsRow base 140 1 v' (bs.length + 1) ((bs ++ [b]).map ptr)) := by
    show World.ownsRow _ _ _ _ _ _ _
    have := hown'
    simpa [ptr] using this
  have HX2 := Lib.hid (U2.out.blk H.out.x (fun e => by
    rcases e with e | e
    · exact n1 e
    · exact H.out.vx e))
  clear hown' hupd hnew U1 HB1 OWN hbv
  have d1 : w'.cell? ⟨xa, 0, none⟩ = some (.slice p bs.length c) := HX2.out.cellAt (i := 0) rfl
  have g1 : w'.frozen? ⟨xa, 0, none⟩ = false := HX2.out.free 0
  obtain ⟨p2, c2', ev2, _⟩ := own_slice OW2.out
  subst ev2
  go_wp2
  go_returns
  have U3 : Upd (fun k => k = xa ∨ k = b ∨ (Value.slice p bs.length c).ownBlock = some k) w (w'.setCell ⟨xa, 0, none⟩ (.slice p2 (bs.length + 1) c2')) := (U2.out.weaken (fun _ _ h => Or.inr h)).set (fun _ => Or.inl rfl)
  have u4 : Upd (fun k => k = xa) w' (w'.setCell ⟨xa, 0, none⟩ (.slice p2 (bs.length + 1) c2')) := (Upd.refl _ w').set (fun _ => rfl)
  have tg : ∀ k, (Value.slice p2 (bs.length + 1) c2').ownBlock = some k → ∃ cs, w'.heap[k]? = some (.cells cs 140 (0, 0)) := fun k hk => by
    rcases OW2.out.2 with ⟨e, _⟩ | ⟨g, cap, cur, e, _, hh, _⟩
    · rw [e] at hk; cases hk
    · rw [e] at hk; cases hk; exact ⟨_, hh⟩
  have hvx : (Value.slice p2 (bs.length + 1) c2').ownBlock ≠ some xa := fun e => by
    obtain ⟨cs, hh⟩ := tg xa e
    have := HX2.out; unfold Blk at this; rw [hh] at this; simp at this
  have hbn : ∀ k, (Value.slice p bs.length c).ownBlock = some k → k ∉ bs := H.out.vn
  refine ⟨_, rfl, ⟨HX2.out.set 0 _, by rw [List.length_append]; exact own_keep OW2.out u4 (fun k hk e => hvx (by rw [hk, e])), fun j d hj => ?_, ?_, ?_, hvx, fun k hk hm => ?_⟩, U3, NW.out⟩
  · by_cases hjl : j < bs.length
    · rw [List.getElem?_append_left hjl] at hj
      have hd := List.mem_of_getElem? hj
      refine u4.blk (U2.out.blk (H.out.at_ j d hj) (fun e => ?_)) (fun e => H.out.xn (e ▸ hd))
      rcases e with e | e
      · exact N.out.1 (e ▸ hd)
      · exact hbn d e hd
    · rw [List.getElem?_append_right (by omega)] at hj
      have hj0 : j - bs.length = 0 := by
        have := (List.getElem?_eq_some_iff.1 hj).1; simp at this; omega
      rw [hj0] at hj
      simp at hj
      subst hj
      obtain rfl : j = bs.length := by omega
      exact u4.blk HB2.out N.out.2.1
  · refine List.nodup_append.2 ⟨H.out.nd, by simp, fun x hx y hy e => ?_⟩
    simp at hy; subst hy; subst e; exact N.out.1 hx
  · intro hm
    rcases List.mem_append.1 hm with h | h
    · exact H.out.xn h
    · simp at h; exact n1 h
  · obtain ⟨cs, hh⟩ := tg k hk
    rcases List.mem_append.1 hm with h | h
    · obtain ⟨j, hj⟩ := List.mem_iff_getElem?.1 h
      have := U2.out.blk (H.out.at_ j k hj) (fun e => by
        rcases e with e | e
        · exact N.out.1 (e ▸ h)
        · exact hbn k e h)
      unfold Blk at this; rw [hh] at this; simp at this
    · simp at h
      subst h
      have := HB2.out; unfold Blk at this; rw [hh] at this; simp at this
set_option maxHeartbeats 4000000 in
theorem rowPop_any (base xa : Nat) (mv v : Value) (bs : List Nat) (ent : Nat → DueP) (b : Nat) (w : World) (h : RowM w base xa mv v (bs ++ [b]) ent) (hl : bs.length + 1 ≤ 1000000) :
    Calls Tryz.prog 169 #[.pointer (some ⟨xa, 0, none⟩)] w fun e w' => ∃ v', e = .returned (.iface 140 (ptr b)) ∧ RowM w' base xa mv v' bs ent ∧ Upd (fun k => k = xa) w w' ∧ v'.ownBlock = v.ownBlock := by
  have hl2 : (bs ++ [b]).length = bs.length + 1 := by simp
  obtain ⟨g, cap, cs, ev, hg, hB, hc, hm, hgn⟩ := h.mem (i := bs.length) (by omega)
  rw [hl2] at ev hc
  subst ev
  have c1 : w.cell? ⟨xa, 0, none⟩ = some (.slice (some ⟨g, 0, none⟩) (bs.length + 1) cap) := h.x.cellAt (i := 0) rfl
  have f1 : w.frozen? ⟨xa, 0, none⟩ = false := h.x.free 0
  have c2 : w.cell? ⟨g, bs.length, none⟩ = some (.pointer (some ⟨b, 0, none⟩)) := hB.cellAt (map_at (by simp))
  have hcap : (bs.length : Int) ≤ (cap : Int) := by omega
  have hcap2 : bs.length ≤ cap := by omega
  have H := Lib.hid h
  have HB := Lib.hid hB
  have HG := Lib.hid (And.intro hg (And.intro hc hm))
  clear h hB hc hl2 hm
  go_enter Tryz.func169, Tryz.ntmps169
  go_wp2
  go_ret
  have u : Upd (fun k => k = xa) w (w.setCell ⟨xa, 0, none⟩ (.slice (some ⟨g, 0, none⟩) bs.length cap)) := (Upd.refl _ w).set (fun _ => rfl)
  have hxg : ¬ g = xa := fun e => H.out.vx (by rw [← e]; rfl)
  obtain ⟨n1, _, n2⟩ := List.nodup_append.1 H.out.nd
  refine ⟨_, rfl, ⟨H.out.x.set 0 _, ?_, fun i c hi => ?_, n1, fun hm => H.out.xn (by simp [hm]), H.out.vx, fun k hk hm => H.out.vn k hk (by simp [hm])⟩, u, rfl⟩
  · have hB := u.blk HB.out hxg
    rw [List.map_append, List.append_assoc] at hB
    exact own_of HG.out.1 hB (by simp) (by have := HG.out.2.1; simp; omega) HG.out.2.2
  · have h1 : (bs ++ [b])[i]? = some c := by rw [List.getElem?_append_left (List.getElem?_eq_some_iff.1 hi).1]; exact hi
    exact u.blk (H.out.at_ i c h1) (fun e => H.out.xn (e ▸ List.mem_of_getElem? h1))
end Go.Proofs.YtgdenmddbgcacaaGreatDoor
/- Walks: container/heap over the row of entries: one comes, one goes, one is turned. -/
set_option linter.unusedVariables false
set_option linter.unusedSimpArgs false
namespace Go.Proofs.YtgdenmddbgcacaaGreatDoor
open Go.RowKit

/-- A row of entries, in a heap's order. -/
structure HeapM (w : World) (base xa : Nat) (mv v : Value) (bs : List Nat) (ent : Nat → DueP) : Prop where
  row : RowM w base xa mv v bs ent
  heap : Pq.Heap leD (eo ent bs) bs.length
theorem eo_snoc {ent : Nat → DueP} {bs : List Nat} {b k : Nat} (h : k < bs.length) : eo ent (bs ++ [b]) k = eo ent bs k := by
  unfold eo; rw [List.getElem?_append_left h]
theorem snoc_of {l : List Nat} {n b : Nat} (hl : l.length = n + 1) (hb : l[n]? = some b) : l = l.take n ++ [b] := by
  obtain ⟨h, e⟩ := List.getElem?_eq_some_iff.1 hb
  have := List.take_succ_eq_append_getElem h
  rw [List.take_of_length_le (by omega), e] at this
  exact this
theorem rowF_own {v : Value} {bs : List Nat} {k : Nat} (h : v.ownBlock = some k) : rowF v bs k := Or.inl h
/-- With one more. -/
def Come (base xa : Nat) (mv v : Value) (bs : List Nat) (ent : Nat → DueP) (b : Nat) (w : World) (e : Ending) (w' : World) : Prop := ∃ v' bs', e = .returned (.tuple #[]) ∧ HeapM w' base xa mv v' bs' ent ∧ bs'.Perm (b :: bs) ∧ Upd (fun k => k = xa ∨ k = b ∨ rowF v bs k) w w' ∧ NewOr v v' w
set_option maxHeartbeats 4000000 in
set_option maxRecDepth 100000 in
theorem hpush_any (base xa : Nat) (mv v : Value) (bs : List Nat) (ent : Nat → DueP) (b i : Nat) (w : World) (h : HeapM w base xa mv v bs ent) (hb0 : base ≤ w.heap.size) (hl : bs.length + 1 ≤ 1000000) (hB : Blk w b (entc (ent b) i) 147) (hb : b ∉ bs) (hbx : b ≠ xa) (hbv : v.ownBlock ≠ some b) :
    Calls Tryz.prog 86 #[hv xa, .iface 140 (ptr b)] w (Come base xa mv v bs ent b w) := by
  have PU := Lib.hid (rowPush_any base xa mv v bs ent b i w h.row hb0 (by omega) hB hb hbx hbv)
  have H := Lib.hid h
  have HP : Hid (∀ {e' : Nat → DueP}, (∀ k, k < bs.length → e' k = eo ent bs k) → Pq.Heap leD e' bs.length) := fun he => h.heap.congr he
  have MP := meth_push ⟨xa, 0, none⟩ w
  unfold Pushed at PU
  unfold ptr at PU
  unfold Come hv ptr
  clear h hB hb hbx hbv
  go_enter Tryz.func86, Tryz.ntmps86
  go_wp2_with fail
  refine (PU.out).mono ?_
  rintro e w1 ⟨v1, rfl, h1, u1, o1⟩
  obtain ⟨p1, c1, ev1, hm1⟩ := own_slice h1.own
  subst ev1
  have LN := Lib.hid (rowlen_any p1 (bs ++ [b]).length c1 w1 (by simpa using hl))
  have ML := meth_len xa _ _ _ w1 (h1.x.cellAt (i := 0) rfl)
  have e1 : (bs ++ [b]).length = bs.length + 1 := by simp
  have UPA := Lib.hid (up_any base xa mv _ (bs ++ [b]) ent (bs.length + 1) bs.length w1 h1 (by omega) (by simp) (Pq.Heap.push (HP.out (fun k hk => eo_snoc hk))))
  rw [e1] at LN ML UPA
  have U1 := Lib.hid u1
  have O1 : Hid (∀ k, (Value.slice p1 (bs.length + 1) c1).ownBlock = some k → v.ownBlock = some k ∨ w.heap.size ≤ k) := fun k hk => o1 k (by rw [e1]; exact hk)
  have H1 := Lib.hid h1
  unfold hv at UPA
  clear u1 o1 h1 MP e1 hm1
  go_wp2_with fail
  refine (LN.out).mono ?_
  rintro e w2 ⟨rfl, rfl⟩
  go_wp2_with fail
  refine (UPA.out).mono ?_
  rintro e w3 ⟨rfl, bs', h3, pm, hh, _, u3⟩
  have H3 := Lib.hid (And.intro h3 (And.intro pm (And.intro hh u3)))
  clear h3 pm hh u3 ML
  go_wp2
  go_returns
  obtain ⟨h3, pm, hh, u3⟩ := H3.out
  have el : bs'.length = bs.length + 1 := by rw [pm.length_eq]; simp
  refine ⟨_, bs', rfl, ⟨h3, by rw [el]; exact hh⟩, pm.trans (List.perm_append_singleton b bs), ?_, O1.out⟩
  refine (U1.out.weaken (fun k _ hk => ?_)).trans u3 (fun k hk hr => ?_)
  · rcases hk with g | g | g
    · exact Or.inl g
    · exact Or.inr (Or.inl g)
    · exact Or.inr (Or.inr (Or.inl g))
  · rcases hr with g | g
    · rcases O1.out k g with g | g
      · exact Or.inr (Or.inr (Or.inl g))
      · omega
    · rcases List.mem_append.1 g with g | g
      · exact Or.inr (Or.inr (Or.inr g))
      · simp at g; exact Or.inr (Or.inl g)
set_option maxHeartbeats 4000000 in
set_option maxRecDepth 100000 in
theorem hfix_any (base xa : Nat) (mv v : Value) (bs : List Nat) (ent : Nat → DueP) (i : Nat) (w : World) (h : RowM w base xa mv v bs ent) (hi : i < bs.length) (hl : bs.length ≤ 1000000) (hd : Pq.DownOk leD (eo ent bs) bs.length i i) :
    Calls Tryz.prog 85 #[hv xa, .int .i64 (i : Int)] w fun e w' => ∃ bs', e = .returned (.tuple #[]) ∧ HeapM w' base xa mv v bs' ent ∧ bs'.Perm bs ∧ Upd (rowF v bs) w w' := by
  obtain ⟨p1, c1, ev1, hm1⟩ := own_slice h.own
  subst ev1
  have LN := Lib.hid (rowlen_any p1 bs.length c1 w hl)
  have ML := meth_len xa _ _ _ w (h.x.cellAt (i := 0) rfl)
  have DN := Lib.hid (down_any base xa mv _ bs ent bs.length i w h hi (Nat.le_refl _) hl hd)
  have HI := Lib.hid hi
  unfold Downed at DN
  unfold hv at DN ⊢
  clear h hd hm1 hi
  go_enter Tryz.func85, Tryz.ntmps85
  go_wp2_with fail
  refine (LN.out).mono ?_
  rintro e w2 ⟨rfl, rfl⟩
  go_wp2_with fail
  refine (DN.out).mono ?_
  rintro e w3 ⟨b, bs', rfl, h3, pm, hT, hF, _, u3⟩
  have H3 := Lib.hid (And.intro h3 (And.intro pm u3))
  have HT := Lib.hid hT
  have HF := Lib.hid hF
  clear h3 pm u3 ML hT hF
  cases b with
  | true =>
    go_wp2
    go_returns
    obtain ⟨h3, pm, u3⟩ := H3.out
    exact ⟨bs', rfl, ⟨h3, by rw [pm.length_eq]; first | exact HT.out rfl | exact HT.out trivial⟩, pm, u3⟩
  | false =>
    have UPA := Lib.hid (up_any base xa mv _ bs' ent bs.length i w3 H3.out.1 HI.out (by rw [H3.out.2.1.length_eq]; exact Nat.le_refl _) (by first | exact HF.out rfl | exact HF.out trivial))
    unfold hv at UPA
    go_wp2_with fail
    refine (UPA.out).mono ?_
    rintro e w4 ⟨rfl, bs2, h4, pm4, hh, _, u4⟩
    have H4 := Lib.hid (And.intro h4 (And.intro pm4 (And.intro hh u4)))
    clear h4 pm4 hh u4
    go_wp2
    go_returns
    obtain ⟨h3, pm, u3⟩ := H3.out
    obtain ⟨h4, pm4, hh, u4⟩ := H4.out
    exact ⟨bs2, rfl, ⟨h4, by rw [(pm4.trans pm).length_eq]; exact hh⟩, pm4.trans pm, u3.trans u4 (fun k _ hk => rowF_perm pm hk)⟩
/-- One has gone. -/
def Gone (base xa : Nat) (mv v : Value) (bs : List Nat) (ent : Nat → DueP) (b : Nat) (w : World) (e : Ending) (w' : World) : Prop := ∃ v' bs' i, e = .returned (.iface 140 (ptr b)) ∧ HeapM w' base xa mv v' bs' ent ∧ (b :: bs').Perm bs ∧ Upd (fun k => k = xa ∨ rowF v bs k) w w' ∧ v'.ownBlock = v.ownBlock ∧ Blk w' b (entc (ent b) i) 147
/-- What is left when the last one has gone. -/
theorem gone_of {base xa : Nat} {mv v v' : Value} {bs bs1 : List Nat} {ent : Nat → DueP} {b n : Nat} {w w1 w' : World} (h : RowM w1 base xa mv v (bs1 ++ [b]) ent) (hp : (bs1 ++ [b]).Perm bs) (hn : bs1.length = n) (hh : Pq.Heap leD (eo ent (bs1 ++ [b])) n) (u : Upd (rowF v bs) w w1)
    (h' : RowM w' base xa mv v' bs1 ent) (u' : Upd (fun k => k = xa) w1 w') (o' : v'.ownBlock = v.ownBlock) : Gone base xa mv v bs ent b w (.returned (.iface 140 (ptr b))) w' := by
  subst hn
  refine ⟨v', bs1, bs1.length, rfl, ⟨h', hh.congr (fun k hk => (eo_snoc hk).symm)⟩, (List.perm_append_singleton b bs1).symm.trans hp, (u.weaken (fun _ _ h => Or.inr h)).trans u' (fun _ _ h => Or.inl h), o', ?_⟩
  exact u'.blk (h.at_ bs1.length b (by simp)) (fun e => h.xn (e ▸ by simp))
end Go.Proofs.YtgdenmddbgcacaaGreatDoor
/- Walks: container/heap over the row of entries: the first one goes, any one goes. -/
set_option linter.unusedVariables false
set_option linter.unusedSimpArgs false
namespace Go.Proofs.YtgdenmddbgcacaaGreatDoor
open Go.RowKit

set_option maxHeartbeats 4000000 in
set_option maxRecDepth 100000 in
theorem hpop_any (base xa : Nat) (mv v : Value) (bs : List Nat) (ent : Nat → DueP) (b : Nat) (w : World) (h : HeapM w base xa mv v bs ent) (hb : bs[0]? = some b) (hl : bs.length ≤ 1000000) :
    Calls Tryz.prog 87 #[hv xa] w (Gone base xa mv v bs ent b w) := by
  have h0 := (List.getElem?_eq_some_iff.1 hb).1
  obtain ⟨n, hn⟩ : ∃ n, bs.length = n + 1 := ⟨bs.length - 1, by omega⟩
  obtain ⟨p1, c1, ev1, hm1⟩ := own_slice h.row.own
  rw [hn] at ev1
  subst ev1
  have LN := rowlen_any p1 (n + 1) c1 w (by omega)
  have ML := meth_len xa _ _ _ w (h.row.x.cellAt (i := 0) rfl)
  have MS := meth_swap xa _ _ _ w (h.row.x.cellAt (i := 0) rfl)
  obtain ⟨c, hc⟩ : ∃ c, bs[n]? = some c := ⟨_, List.getElem?_eq_getElem (by omega)⟩
  have SW := Lib.hid (swap_any base xa mv _ bs ent 0 n b c w h.row hb hc)
  have HT : Hid (Pq.DownOk leD (eo ent (swp bs 0 n)) n 0 0) := (h.heap.less (by omega : n ≤ bs.length)).turn leD_trans 0 (fun k hk hk0 => by
    rw [eo_swp h0 (by omega)]; unfold Pq.sw; rw [if_neg hk0, if_neg (by omega)])
  have AB : Hid ((swp bs 0 n)[n]? = some b) := by
    show _ = _
    rw [swp_get h0 (by omega)]
    by_cases e : n = 0
    · rw [if_pos e, e]; exact hb
    · rw [if_neg e, if_pos rfl]; exact hb
  have HL := Lib.hid (show (swp bs 0 n).length = n + 1 by rw [swp_len]; exact hn)
  have HL1 := Lib.hid (show n + 1 ≤ 1000000 by omega)
  have hnb : n ≤ 1000000 := by omega
  have LN := Lib.hid LN
  have HN := Lib.hid hn
  unfold hv
  clear h hb hc hm1 hn h0 hl
  go_enter Tryz.func87, Tryz.ntmps87
  go_wp2_with fail
  refine (LN.out).mono ?_
  rintro e w1 ⟨rfl, rfl⟩
  go_wp2_with fail
  refine (SW.out).mono ?_
  rintro e w2 ⟨rfl, h2, u2⟩
  have H2 := Lib.hid (And.intro h2 u2)
  have DN := Lib.hid (down_any base xa mv _ (swp bs 0 n) ent n 0 w2 h2 (by rw [HL.out]; omega) (by rw [HL.out]; omega) (by rw [HL.out]; exact HL1.out) HT.out)
  unfold Downed hv at DN
  clear h2 u2 ML MS
  go_wp2_with fail
  refine (DN.out).mono ?_
  rintro e w3 ⟨bb, bs3, rfl, h3, pm3, hT3, hF3, ab3, u3⟩
  have H4 := Lib.hid (And.intro h3 (And.intro (pm3.trans (swp_perm bs 0 n)) (And.intro (show Pq.Heap leD (eo ent bs3) n by cases bb with | true => exact hT3 rfl | false => exact (hF3 rfl).done0) (And.intro ab3 (H2.out.2.trans u3 (fun k _ hk => rowF_perm (swp_perm bs 0 n) hk))))))
  have HLB := Lib.hid (HN.out)
  clear h3 pm3 hT3 hF3 ab3 u3 HL
  have HL := HLB
  obtain ⟨h4, pm4, hh4, ab4, u4⟩ := H4.out
  have el : bs3.length = n + 1 := by rw [pm4.length_eq]; exact HL.out
  have es := snoc_of el (b := b) ((ab4 n (Nat.le_refl _)).trans AB.out)
  have hn : (bs3.take n).length = n := by simp; omega
  have pm5 : (bs3.take n ++ [b]).Perm bs := by rw [← es] <;> exact pm4
  replace pm4 := pm5
  clear pm5
  rw [es] at h4 hh4
  generalize bs3.take n = bs1 at *
  have RP := Lib.hid (rowPop_any base xa mv _ bs1 ent b w3 h4 (by have := HL1.out; omega))
  have FIN := Lib.hid (And.intro h4 (And.intro pm4 (And.intro hn (And.intro hh4 u4))))
  unfold ptr at RP
  clear h4 pm4 hh4 ab4 u4 el es hn
  have MP := meth_pop ⟨xa, 0, none⟩ w3
  go_wp2_with fail
  refine (RP.out).mono ?_
  rintro e w9 ⟨v9, rfl, h9, u9, o9⟩
  have H9 := Lib.hid (And.intro h9 (And.intro u9 o9))
  clear h9 u9 o9 MP
  go_wp2
  go_ret
  obtain ⟨h4, pm4, hn, hh4, u4⟩ := FIN.out
  exact gone_of h4 pm4 hn hh4 u4 H9.out.1 H9.out.2.1 H9.out.2.2
set_option maxHeartbeats 4000000 in
set_option maxRecDepth 100000 in
theorem hremove_any (base xa : Nat) (mv v : Value) (bs : List Nat) (ent : Nat → DueP) (i b : Nat) (w : World) (h : HeapM w base xa mv v bs ent) (hb : bs[i]? = some b) (hl : bs.length ≤ 1000000) :
    Calls Tryz.prog 81 #[hv xa, .int .i64 (i : Int)] w (Gone base xa mv v bs ent b w) := by
  have h0 := (List.getElem?_eq_some_iff.1 hb).1
  obtain ⟨n, hn⟩ : ∃ n, bs.length = n + 1 := ⟨bs.length - 1, by omega⟩
  obtain ⟨p1, c1, ev1, hm1⟩ := own_slice h.row.own
  rw [hn] at ev1
  subst ev1
  have LN := rowlen_any p1 (n + 1) c1 w (by omega)
  have ML := meth_len xa _ _ _ w (h.row.x.cellAt (i := 0) rfl)
  have MS := meth_swap xa _ _ _ w (h.row.x.cellAt (i := 0) rfl)
  obtain ⟨c, hc⟩ : ∃ c, bs[n]? = some c := ⟨_, List.getElem?_eq_getElem (by omega)⟩
  have HL := Lib.hid hn
  have HL1 := Lib.hid (show n + 1 ≤ 1000000 by omega)
  have hnb : n ≤ 1000000 := by omega
  have LN := Lib.hid LN
  by_cases hin : n = i
  · subst hin
    have q1 : ((n : Int) == (n : Int)) = true := by simp
    have q2 : (!((n : Int) == (n : Int))) = false := by simp
    have H4 : Hid (RowM w base xa mv (Value.slice p1 (n + 1) c1) bs ent ∧ bs.Perm bs ∧ Pq.Heap leD (eo ent bs) n ∧ (∀ k, n ≤ k → bs[k]? = bs[k]?) ∧ Upd (rowF (Value.slice p1 (n + 1) c1) bs) w w) := ⟨h.row, List.Perm.refl _, h.heap.less (by omega), fun _ _ => rfl, Upd.refl _ _⟩
    have AB := Lib.hid hb
    unfold hv
    clear h hb hc hm1 hn h0 hl MS
    go_enter Tryz.func81, Tryz.ntmps81
    go_wp2_with fail
    refine (LN.out).mono ?_
    rintro e w1 ⟨rfl, rfl⟩
    obtain ⟨h4, pm4, hh4, ab4, u4⟩ := H4.out
    have el : bs.length = n + 1 := by rw [pm4.length_eq]; exact HL.out
    have es := snoc_of el (b := b) (AB.out)
    have hn : (bs.take n).length = n := by simp; omega
    have pm5 : (bs.take n ++ [b]).Perm bs := by rw [← es] <;> exact pm4
    replace pm4 := pm5
    clear pm5
    rw [es] at h4 hh4
    generalize bs.take n = bs1 at *
    have RP := Lib.hid (rowPop_any base xa mv _ bs1 ent b w1 h4 (by have := HL1.out; omega))
    have FIN := Lib.hid (And.intro h4 (And.intro pm4 (And.intro hn (And.intro hh4 u4))))
    unfold ptr at RP
    clear h4 pm4 hh4 ab4 u4 el es hn
    have MP := meth_pop ⟨xa, 0, none⟩ w1
    go_wp2_with fail
    refine (RP.out).mono ?_
    rintro e w9 ⟨v9, rfl, h9, u9, o9⟩
    have H9 := Lib.hid (And.intro h9 (And.intro u9 o9))
    clear h9 u9 o9 MP
    go_wp2
    go_ret
    obtain ⟨h4, pm4, hn, hh4, u4⟩ := FIN.out
    exact gone_of h4 pm4 hn hh4 u4 H9.out.1 H9.out.2.1 H9.out.2.2
  · have q1 : ((n : Int) == (i : Int)) = false := by simp; omega
    have q2 : (!((n : Int) == (i : Int))) = true := by rw [q1]; rfl
    have hni : ¬ i = n := fun e => hin e.symm
    have SW := Lib.hid (swap_any base xa mv _ bs ent i n b c w h.row hb hc)
    have HT : Hid (Pq.DownOk leD (eo ent (swp bs i n)) n i i) := (h.heap.less (by omega : n ≤ bs.length)).turn leD_trans i (fun k hk hk0 => by
      rw [eo_swp h0 (by omega)]; unfold Pq.sw; rw [if_neg hk0, if_neg (by omega)])
    have AB : Hid ((swp bs i n)[n]? = some b) := by
      show _ = _
      rw [swp_get h0 (by omega), if_neg hin, if_pos rfl]; exact hb
    have HLS := Lib.hid (show (swp bs i n).length = n + 1 by rw [swp_len]; exact hn)
    have HIN := Lib.hid (show i < n by omega)
    unfold hv
    clear h hb hc hm1 hn h0 hl hin
    go_enter Tryz.func81, Tryz.ntmps81
    go_wp2_with fail
    refine (LN.out).mono ?_
    rintro e w1 ⟨rfl, rfl⟩
    go_wp2_with fail
    refine (SW.out).mono ?_
    rintro e w2 ⟨rfl, h2, u2⟩
    have H2 := Lib.hid (And.intro h2 u2)
    have DN := Lib.hid (down_any base xa mv _ (swp bs i n) ent n i w2 h2 (by rw [HLS.out]; have := HIN.out; omega) (by rw [HLS.out]; omega) (by rw [HLS.out]; exact HL1.out) HT.out)
    unfold Downed hv at DN
    clear h2 u2 ML MS
    go_wp2_with fail
    refine (DN.out).mono ?_
    rintro e w3 ⟨bb, bs3, rfl, h3, pm3, hT3, hF3, ab3, u3⟩
    have H3 := Lib.hid (And.intro h3 (And.intro pm3 (And.intro ab3 (H2.out.2.trans u3 (fun k _ hk => rowF_perm (swp_perm bs i n) hk)))))
    have HT3 := Lib.hid hT3
    have HF3 := Lib.hid hF3
    clear h3 pm3 hT3 hF3 ab3 u3
    cases bb with
    | true =>
      have H4 := Lib.hid (And.intro H3.out.1 (And.intro (H3.out.2.1.trans (swp_perm bs i n)) (And.intro (show Pq.Heap leD (eo ent bs3) n by first | exact HT3.out rfl | exact HT3.out trivial) (And.intro H3.out.2.2.1 H3.out.2.2.2))))
      obtain ⟨h4, pm4, hh4, ab4, u4⟩ := H4.out
      have el : bs3.length = n + 1 := by rw [pm4.length_eq]; exact HL.out
      have es := snoc_of el (b := b) ((ab4 n (Nat.le_refl _)).trans AB.out)
      have hn : (bs3.take n).length = n := by simp; omega
      have pm5 : (bs3.take n ++ [b]).Perm bs := by rw [← es] <;> exact pm4
      replace pm4 := pm5
      clear pm5
      rw [es] at h4 hh4
      generalize bs3.take n = bs1 at *
      have RP := Lib.hid (rowPop_any base xa mv _ bs1 ent b w3 h4 (by have := HL1.out; omega))
      have FIN := Lib.hid (And.intro h4 (And.intro pm4 (And.intro hn (And.intro hh4 u4))))
      unfold ptr at RP
      clear h4 pm4 hh4 ab4 u4 el es hn
      have MP := meth_pop ⟨xa, 0, none⟩ w3
      go_wp2_with fail
      refine (RP.out).mono ?_
      rintro e w9 ⟨v9, rfl, h9, u9, o9⟩
      have H9 := Lib.hid (And.intro h9 (And.intro u9 o9))
      clear h9 u9 o9 MP
      go_wp2
      go_ret
      obtain ⟨h4, pm4, hn, hh4, u4⟩ := FIN.out
      exact gone_of h4 pm4 hn hh4 u4 H9.out.1 H9.out.2.1 H9.out.2.2
    | false =>
      have UPA := Lib.hid (up_any base xa mv _ bs3 ent n i w3 H3.out.1 HIN.out (by rw [H3.out.2.1.length_eq, HLS.out]; omega) (by first | exact HF3.out rfl | exact HF3.out trivial))
      unfold hv at UPA
      go_wp2_with fail
      refine (UPA.out).mono ?_
      rintro e w4 ⟨rfl, bs4, h4, pm4, hh4, ab4, u4⟩
      have H4 := Lib.hid (And.intro h4 (And.intro ((pm4.trans H3.out.2.1).trans (swp_perm bs i n)) (And.intro hh4 (And.intro (fun k hk => (ab4 k hk).trans (H3.out.2.2.1 k hk)) (H3.out.2.2.2.trans u4 (fun k _ hk => rowF_perm (H3.out.2.1.trans (swp_perm bs i n)) hk))))))
      have AB4 := Lib.hid AB.out
      clear h4 pm4 hh4 ab4 u4
      obtain ⟨h4, pm4, hh4, ab4, u4⟩ := H4.out
      have el : bs4.length = n + 1 := by rw [pm4.length_eq]; exact HL.out
      have es := snoc_of el (b := b) ((ab4 n (Nat.le_refl _)).trans AB.out)
      have hn : (bs4.take n).length = n := by simp; omega
      have pm5 : (bs4.take n ++ [b]).Perm bs := by rw [← es] <;> exact pm4
      replace pm4 := pm5
      clear pm5
      rw [es] at h4 hh4
      generalize bs4.take n = bs1 at *
      have RP := Lib.hid (rowPop_any base xa mv _ bs1 ent b w4 h4 (by have := HL1.out; omega))
      have FIN := Lib.hid (And.intro h4 (And.intro pm4 (And.intro hn (And.intro hh4 u4))))
      unfold ptr at RP
      clear h4 pm4 hh4 ab4 u4 el es hn
      have MP := meth_pop ⟨xa, 0, none⟩ w4
      go_wp2_with fail
      refine (RP.out).mono ?_
      rintro e w9 ⟨v9, rfl, h9, u9, o9⟩
      have H9 := Lib.hid (And.intro h9 (And.intro u9 o9))
      clear h9 u9 o9 MP
      go_wp2
      go_ret
      obtain ⟨h4, pm4, hn, hh4, u4⟩ := FIN.out
      exact gone_of h4 pm4 hn hh4 u4 H9.out.1 H9.out.2.1 H9.out.2.2
end Go.Proofs.YtgdenmddbgcacaaGreatDoor
/- Expiry in memory; walks: New, Clear, Len, Get, Next. -/
set_option linter.unusedVariables false
set_option linter.unusedSimpArgs false
namespace Go.Proofs.YtgdenmddbgcacaaGreatDoor
open Go.RowKit

/-- In block xa lies when keys end: the entries bs, in a heap's order, and the map m of their keys; in order they are l. -/
structure ExpR (w : World) (base xa mb : Nat) (v : Value) (bs : List Nat) (ent : Nat → DueP) (m : List (ByteArray × Nat)) (l : List DueP) : Prop where
  heap : HeapM w base xa (.map (some mb)) v bs ent
  map : MapAt strEnc w mb (pm m)
  mnd : (akeys m).Nodup
  mem : ∀ k b, aget m k = some b ↔ b ∈ bs ∧ (ent b).2 = k
  rise : Rise l
  perm : (bs.map ent).Perm l
def expF (xa mb : Nat) (v : Value) (bs : List Nat) : Nat → Prop := fun k => k = xa ∨ k = mb ∨ rowF v bs k
def ExpAt (w : World) (base xa : Nat) (l : List DueP) (E : Nat → Prop) : Prop := ∃ mb v bs ent m, ExpR w base xa mb v bs ent m l ∧ E = expF xa mb v bs
/-- From one state to the next. -/
def ExpTo (w w' : World) (base xa : Nat) (E : Nat → Prop) (l' : List DueP) : Prop := ∃ E', ExpAt w' base xa l' E' ∧ Upd E w w' ∧ FromF E E' w
section
variable {w w' : World} {base xa mb : Nat} {v : Value} {bs : List Nat} {ent : Nat → DueP} {m : List (ByteArray × Nat)} {l : List DueP} {E : Nat → Prop}
theorem RowM.rowlt (h : RowM w base xa (.map (some mb)) v bs ent) : ∀ k, rowF v bs k → k < w.heap.size := by
  rintro k (hk | hk)
  · exact (World.ownsRow.lt h.own k hk).2
  · obtain ⟨i, hi⟩ := List.mem_iff_getElem?.1 hk
    exact (h.at_ i k hi).lt
theorem ExpR.lt (h : ExpR w base xa mb v bs ent m l) : ∀ k, expF xa mb v bs k → k < w.heap.size := by
  rintro k (rfl | rfl | hk)
  · exact h.heap.row.x.lt
  · exact h.map.lt
  · exact h.heap.row.rowlt k hk
theorem ExpR.keep {F : Nat → Prop} (h : ExpR w base xa mb v bs ent m l) (u : Upd F w w') (hF : ∀ k, expF xa mb v bs k → ¬ F k) : ExpR w' base xa mb v bs ent m l :=
  ⟨⟨h.heap.row.keep u (hF _ (Or.inl rfl)) (fun k hk => hF k (Or.inr (Or.inr hk))), h.heap.heap⟩, h.map.keep u (hF _ (Or.inr (Or.inl rfl))), h.mnd, h.mem, h.rise, h.perm⟩
theorem ExpAt.lt (h : ExpAt w base xa l E) : ∀ k, E k → k < w.heap.size := by
  obtain ⟨mb, v, bs, ent, m, h, rfl⟩ := h; exact h.lt
theorem ExpAt.keep {F : Nat → Prop} (h : ExpAt w base xa l E) (u : Upd F w w') (hF : ∀ k, E k → ¬ F k) : ExpAt w' base xa l E := by
  obtain ⟨mb, v, bs, ent, m, h, rfl⟩ := h; exact ⟨mb, v, bs, ent, m, h.keep u hF, rfl⟩
theorem ExpAt.rise (h : ExpAt w base xa l E) : Rise l := by
  obtain ⟨mb, v, bs, ent, m, h, rfl⟩ := h; exact h.rise
theorem ExpR.mx (h : ExpR w base xa mb v bs ent m l) : mb ≠ xa := h.map.notCells h.heap.row.x
theorem ExpR.mbs (h : ExpR w base xa mb v bs ent m l) : mb ∉ bs := fun hm => by
  obtain ⟨i, hi⟩ := List.mem_iff_getElem?.1 hm
  exact h.map.notCells (h.heap.row.at_ i mb hi) rfl
theorem ExpR.mv (h : ExpR w base xa mb v bs ent m l) : v.ownBlock ≠ some mb := fun e => by
  rcases h.heap.row.own.2 with ⟨ev, _⟩ | ⟨g, cap, cur, ev, _, hh, _⟩
  · rw [ev] at e; cases e
  · rw [ev] at e; cases e; exact h.map.notCells hh rfl
theorem ExpR.inj (h : ExpR w base xa mb v bs ent m l) {b c : Nat} (hb : b ∈ bs) (hc : c ∈ bs) (e : (ent b).2 = (ent c).2) : b = c := by
  have h1 := (h.mem (ent b).2 b).2 ⟨hb, rfl⟩
  have h2 := (h.mem (ent b).2 c).2 ⟨hc, e.symm⟩
  rw [h1] at h2; exact Option.some.inj h2
theorem ExpR.llen (h : ExpR w base xa mb v bs ent m l) : bs.length = l.length := by rw [← h.perm.length_eq]; simp
theorem ExpR.keyl (h : ExpR w base xa mb v bs ent m l) (k : ByteArray) : (aget m k).isSome = decide (k ∈ l.map (·.2)) := by
  rw [Bool.eq_iff_iff, decide_eq_true_eq, List.mem_map]
  constructor
  · intro hs
    obtain ⟨b, hb⟩ := Option.isSome_iff_exists.1 hs
    obtain ⟨h1, h2⟩ := (h.mem k b).1 hb
    exact ⟨ent b, h.perm.mem_iff.1 (List.mem_map.2 ⟨b, h1, rfl⟩), h2⟩
  · rintro ⟨d, hd, e⟩
    obtain ⟨b, hb, e2⟩ := List.mem_map.1 (h.perm.mem_iff.2 hd)
    rw [(h.mem k b).2 ⟨hb, by rw [e2]; exact e⟩]; rfl
theorem ExpR.mlen (h : ExpR w base xa mb v bs ent m l) : m.length = bs.length := by
  have hn : (bs.map fun b => (ent b).2).Nodup := by
    have := h.heap.row.nd
    rw [List.nodup_iff_pairwise_ne, List.pairwise_map]
    refine List.Pairwise.imp_of_mem (fun {a b} ha hb hab e => hab (h.inj ha hb e)) (List.nodup_iff_pairwise_ne.1 this)
  have := List.Perm.length_eq ((List.perm_ext_iff_of_nodup h.mnd hn).2 fun k => by
    rw [List.mem_map]
    constructor
    · intro hk
      cases e : aget m k with
      | none => exact absurd hk (aget_none.1 e)
      | some b => obtain ⟨h1, h2⟩ := (h.mem k b).1 e; exact ⟨b, h1, h2⟩
    · rintro ⟨b, hb, e⟩
      have := (h.mem k b).2 ⟨hb, e⟩
      exact Decidable.not_not.1 fun hh => by rw [aget_none.2 hh] at this; cases this)
  simpa [akeys] using this
theorem zeroE (w : World) : (zeroValue 140).run Tryz.prog w = .ok (.pointer none) w := by kernel_rfl
theorem ExpR.look (h : ExpR w base xa mb v bs ent m l) (key : ByteArray) (co : Bool) :
    (Instr.lookup 112 (.map (some mb)) (.string key) co).run Tryz.prog w = .ok (if co then .tuple #[lv (aget m key), .bool (aget m key).isSome] else lv (aget m key)) w := by
  have := h.map.look keyS Tryz.underlying112 (zeroE w) key co
  refine Eq.trans this ?_
  rw [pm_get]
  cases aget m key <;> rfl
/-- The first one in a heap's order is the first one in order. -/
theorem heap_first {mv : Value} (h : HeapM w base xa mv v bs ent) (hr : Rise l) (hp : (bs.map ent).Perm l) {b : Nat} (hb : bs[0]? = some b) : l.head? = some (ent b) := by
  have hall : ∀ c ∈ bs, leD (ent b) (ent c) := fun c hc => by
    obtain ⟨k, hk⟩ := List.mem_iff_getElem?.1 hc
    have := Pq.Heap.first leD_refl leD_trans h.heap k (List.getElem?_eq_some_iff.1 hk).1
    rw [eo_at hb, eo_at hk] at this; exact this
  have hm : ent b ∈ l := hp.mem_iff.1 (List.mem_map.2 ⟨b, List.mem_of_getElem? hb, rfl⟩)
  cases hl : l with
  | nil => rw [hl] at hm; simp at hm
  | cons d r =>
    rw [hl] at hr hm
    obtain ⟨c, hc, e⟩ := List.mem_map.1 (hp.mem_iff.2 (show d ∈ l by rw [hl]; simp))
    have h1 := hall c hc
    rw [e] at h1
    rcases List.mem_cons.1 hm with e2 | e2
    · rw [e2]; rfl
    · exact absurd ((List.pairwise_cons.1 hr).1 _ e2) h1
theorem ExpR.first (h : ExpR w base xa mb v bs ent m l) {b : Nat} (hb : bs[0]? = some b) : l.head? = some (ent b) := heap_first h.heap h.rise h.perm hb
/-- The same entries, in another order. -/
theorem ExpR.re {v' : Value} {bs' : List Nat} (h : ExpR w base xa mb v bs ent m l) (h' : HeapM w' base xa (.map (some mb)) v' bs' ent) (hp : bs'.Perm bs) (hm : MapAt strEnc w' mb (pm m)) : ExpR w' base xa mb v' bs' ent m l :=
  ⟨h', hm, h.mnd, fun k b => by rw [hp.mem_iff]; exact h.mem k b, h.rise, (hp.map ent).trans h.perm⟩
/-- Rows of another type lie apart. -/
theorem ExpR.apart (h : ExpR w base xa mb v bs ent m l) {k : Nat} {cs : Array Value} {T : TypeId} (hk : w.heap[k]? = some (.cells cs T (0, 0))) (h1 : T ≠ 116) (h2 : T ≠ 140) (h3 : T ≠ 147) : ¬ expF xa mb v bs k := by
  rintro (rfl | rfl | hh | hh)
  · have := h.heap.row.x; unfold Blk at this; rw [hk] at this; simp at this; exact h1 this.2
  · exact h.map.notCells hk rfl
  · rcases h.heap.row.own.2 with ⟨ev, _⟩ | ⟨g, cap, cur, ev, _, hg, _⟩
    · rw [ev] at hh; cases hh
    · rw [ev] at hh; cases hh; rw [hk] at hg; simp at hg; exact h2 hg.2
  · obtain ⟨i, hi⟩ := List.mem_iff_getElem?.1 hh
    have := h.heap.row.at_ i k hi; unfold Blk at this; rw [hk] at this; simp at this; exact h3 this.2
theorem own_cells {w : World} {base n size : Nat} {e : TypeId} {v : Value} {xs : List Value} (h : w.ownsRow base e size v n xs) {k : Nat} (hk : v.ownBlock = some k) : ∃ cs, w.heap[k]? = some (.cells cs e (0, 0)) := by
  rcases h.2 with ⟨ev, _⟩ | ⟨g, cap, cur, ev, _, hg, _⟩
  · rw [ev] at hk; cases hk
  · rw [ev] at hk; cases hk; exact ⟨_, hg⟩
theorem ExpAt.apart {size n b0 : Nat} {T : TypeId} {x : Value} {xs : List Value} (h : ExpAt w base xa l E) (hx : w.ownsRow b0 T size x n xs) (h1 : T ≠ 116) (h2 : T ≠ 140) (h3 : T ≠ 147) : ∀ k, x.ownBlock = some k → ¬ E k := by
  obtain ⟨mb, v, bs, ent, m, h, rfl⟩ := h
  intro k hk
  obtain ⟨cs, hc⟩ := own_cells hx hk
  exact h.apart hc h1 h2 h3
end

def newW (w : World) : World := (w.alloc (.map #[] 0)).alloc (.cells #[.slice none 0 0, .map (some w.heap.size)] 116)
set_option maxHeartbeats 1000000 in
theorem xnew_raw (w : World) :
    Calls Tryz.prog 26 #[] w fun e w' => e = .returned (.pointer (some ⟨w.heap.size + 1, 0, none⟩)) ∧ w' = newW w := by
  have mk := run_makeMap (P := Tryz.prog) 112 w
  unfold newW
  go_enter Tryz.func26, Tryz.ntmps26
  go_wp2
  go_ret
  exact ⟨rfl, rfl⟩
/-- What is empty. -/
theorem expR_nil {w : World} {base xa mb : Nat} (hx : Blk w xa [.slice none 0 0, .map (some mb)] 116) (hm : MapAt strEnc w mb []) : ExpR w base xa mb (.slice none 0 0) [] (fun _ => (0, ByteArray.empty)) [] [] :=
  ⟨⟨⟨hx, World.ownsRow_nil _ _ _ _, fun i b hb => by simp at hb, List.nodup_nil, by simp, by simp [Value.ownBlock], fun k hk => by cases hk⟩, fun k _ hk => by simp at hk⟩, hm, List.nodup_nil, fun k b => by simp [aget], List.Pairwise.nil, List.Perm.refl _⟩
theorem newW_blk (w : World) : Blk (newW w) (w.heap.size + 1) [.slice none 0 0, .map (some w.heap.size)] 116 := by
  have := Blk.made (w.alloc (.map #[] 0)) [.slice none 0 0, .map (some w.heap.size)] 116
  unfold newW
  simpa using this
theorem newW_map (w : World) : MapAt strEnc (newW w) w.heap.size [] := (MapAt.made (enc := strEnc) w).keep ((Upd.refl (fun _ => False) _).alloc (.cells #[.slice none 0 0, .map (some w.heap.size)] 116)) (fun h => h)
theorem newW_upd (w : World) : Upd (fun _ => False) w (newW w) := ((Upd.refl _ w).alloc _).alloc _
theorem xnew_any (w : World) (base : Nat) :
    Calls Tryz.prog 26 #[] w fun e w' => ∃ xa E, e = .returned (.pointer (some ⟨xa, 0, none⟩)) ∧ ExpAt w' base xa [] E ∧ Upd (fun _ => False) w w' ∧ (∀ k, E k → w.heap.size ≤ k) := by
  refine (xnew_raw w).mono ?_
  rintro e w' ⟨rfl, rfl⟩
  refine ⟨w.heap.size + 1, _, rfl, ⟨w.heap.size, _, [], _, [], expR_nil (newW_blk w) (newW_map w), rfl⟩, newW_upd w, fun k hk => ?_⟩
  rcases hk with rfl | rfl | hk | hk
  · omega
  · omega
  · cases hk
  · simp at hk
theorem xlen_any (w : World) (base xa : Nat) (l : List DueP) (E : Nat → Prop) (h : ExpAt w base xa l E) (hl : l.length ≤ 1000000) :
    Calls Tryz.prog 160 #[.pointer (some ⟨xa, 0, none⟩)] w fun e w' => e = .returned (.int .i64 (l.length : Int)) ∧ w' = w := by
  obtain ⟨mb, v, bs, ent, m, h, rfl⟩ := h
  have c1 := h.heap.row.x.cellAt (i := 1) rfl
  have el : (pm m).length = l.length := by rw [pm_len, h.mlen, h.llen]
  have ln := h.map.len 3 Tryz.underlying112 (by omega)
  rw [el] at ln
  clear h el
  go_enter Tryz.func160, Tryz.ntmps160
  go_wp2
  go_ret
  exact ⟨rfl, rfl⟩
/-- When a key ends, as the program says it. -/
def getV (l : List DueP) (k : ByteArray) : Int × Bool := match l.find? fun d => decide (d.2 = k) with
  | some d => (d.1, true)
  | none => (0, false)
theorem ExpR.getV {w : World} {base xa mb : Nat} {v : Value} {bs : List Nat} {ent : Nat → DueP} {m : List (ByteArray × Nat)} {l : List DueP} (h : ExpR w base xa mb v bs ent m l) (key : ByteArray) : getV l key = match aget m key with | some b => ((ent b).1, true) | none => (0, false) := by
  unfold YtgdenmddbgcacaaGreatDoor.getV
  cases e : aget m key with
  | none =>
    have : l.find? (fun d => decide (d.2 = key)) = none := List.find?_eq_none.2 fun d hd hk => by
      have h2 := h.keyl key
      rw [e] at h2
      simp at hk
      have h3 : key ∈ l.map (·.2) := List.mem_map.2 ⟨d, hd, hk⟩
      simp [h3] at h2
    rw [this]
  | some b =>
    obtain ⟨h1, h2⟩ := (h.mem key b).1 e
    have hm : ent b ∈ l := h.perm.mem_iff.1 (List.mem_map.2 ⟨b, h1, rfl⟩)
    cases hf : l.find? (fun d => decide (d.2 = key)) with
    | none => have := List.find?_eq_none.1 hf _ hm; simp [h2] at this
    | some d =>
      have hd := List.find?_some hf
      have hd2 := List.mem_of_find?_eq_some hf
      simp at hd
      obtain ⟨c, hc, e2⟩ := List.mem_map.1 (h.perm.mem_iff.2 hd2)
      have := h.inj hc h1 (by rw [e2, hd, h2])
      rw [← e2, this]
theorem xget_any (w : World) (base xa : Nat) (l : List DueP) (E : Nat → Prop) (key : ByteArray) (h : ExpAt w base xa l E) :
    Calls Tryz.prog 63 #[.pointer (some ⟨xa, 0, none⟩), .string key] w fun e w' => e = .returned (.tuple #[.int .i64 (getV l key).1, .bool (getV l key).2]) ∧ w' = w := by
  obtain ⟨mb, v, bs, ent, m, h, rfl⟩ := h
  have c1 := h.heap.row.x.cellAt (i := 1) rfl
  have lk := h.look key true
  rw [h.getV key]
  simp only [if_true] at lk
  unfold lv at lk
  cases e : aget m key with
  | none =>
    rw [e] at lk
    clear e h
    simp only [Option.map_none, Option.isSome_none] at lk
    go_enter Tryz.func63, Tryz.ntmps63
    go_wp2
    go_ret2
    exact ⟨rfl, rfl⟩
  | some b =>
    rw [e] at lk
    obtain ⟨h1, h2⟩ := (h.mem key b).1 e
    obtain ⟨i, hi⟩ := List.mem_iff_getElem?.1 h1
    have d0 := (h.heap.row.at_ i b hi).cellAt (i := 0) rfl
    clear e h h1 h2 hi
    simp only [Option.map_some, Option.isSome_some] at lk
    go_enter Tryz.func63, Tryz.ntmps63
    go_wp2
    go_ret2
    exact ⟨rfl, rfl⟩
end Go.Proofs.YtgdenmddbgcacaaGreatDoor
