/- Walks: container/heap over the row of entries: one comes, one goes, one is turned. -/
import Derived.Test.YtokkhddbdjflhaaExpE
set_option linter.unusedVariables false
set_option linter.unusedSimpArgs false
namespace Go.Proofs.Ytokkhddbdjflhaa
open Go.RowKit

/-- A row of entries, in a heap's order. -/
structure HeapM (w : World) (base xa : Nat) (mv v : Value) (bs : List Nat) (ent : Nat → DueP) : Prop where
  row : RowM w base xa mv v bs ent
  heap : Pq.Heap leD (eo ent bs) bs.length
theorem eo_snoc {ent : Nat → DueP} {bs : List Nat} {b k : Nat} (h : k < bs.length) : eo ent (bs ++ [b]) k = eo ent bs k := by
  unfold eo; rw [List.getElem?_append_left h]
theorem snoc_of {l : List Nat} {n b : Nat} (hl : l.length = n + 1) (hb : l[n]? = some b) : l = l.take n ++ [b] := by
  obtain ⟨h, e⟩ := List.getElem?_eq_some_iff.1 hb
  have := List.take_succ_eq_append_getElem h
  rw [List.take_of_length_le (by omega), e] at this
  exact this
theorem rowF_own {v : Value} {bs : List Nat} {k : Nat} (h : v.ownBlock = some k) : rowF v bs k := Or.inl h
/-- With one more. -/
def Come (base xa : Nat) (mv v : Value) (bs : List Nat) (ent : Nat → DueP) (b : Nat) (w : World) (e : Ending) (w' : World) : Prop := ∃ v' bs', e = .returned (.tuple #[]) ∧ HeapM w' base xa mv v' bs' ent ∧ bs'.Perm (b :: bs) ∧ Upd (fun k => k = xa ∨ k = b ∨ rowF v bs k) w w' ∧ NewOr v v' w
set_option maxHeartbeats 4000000 in
set_option maxRecDepth 100000 in
theorem hpush_any (base xa : Nat) (mv v : Value) (bs : List Nat) (ent : Nat → DueP) (b i : Nat) (w : World) (h : HeapM w base xa mv v bs ent) (hb0 : base ≤ w.heap.size) (hl : bs.length + 1 ≤ 1000000) (hB : Blk w b (entc (ent b) i) 60) (hb : b ∉ bs) (hbx : b ≠ xa) (hbv : v.ownBlock ≠ some b) :
    Calls Try.prog 24 #[hv xa, .iface 61 (ptr b)] w (Come base xa mv v bs ent b w) := by
  have PU := Lib.hid (rowPush_any base xa mv v bs ent b i w h.row hb0 (by omega) hB hb hbx hbv)
  have H := Lib.hid h
  have HP : Hid (∀ {e' : Nat → DueP}, (∀ k, k < bs.length → e' k = eo ent bs k) → Pq.Heap leD e' bs.length) := fun he => h.heap.congr he
  have MP := meth_push ⟨xa, 0, none⟩ w
  unfold Pushed at PU
  unfold ptr at PU
  unfold Come hv ptr
  clear h hB hb hbx hbv
  go_enter Try.func24, Try.ntmps24
  go_wp2_with fail
  refine (PU.out).mono ?_
  rintro e w1 ⟨v1, rfl, h1, u1, o1⟩
  obtain ⟨p1, c1, ev1, hm1⟩ := own_slice h1.own
  subst ev1
  have LN := Lib.hid (rowlen_any p1 (bs ++ [b]).length c1 w1 (by simpa using hl))
  have ML := meth_len xa _ _ _ w1 (h1.x.cellAt (i := 0) rfl)
  have e1 : (bs ++ [b]).length = bs.length + 1 := by simp
  have UPA := Lib.hid (up_any base xa mv _ (bs ++ [b]) ent (bs.length + 1) bs.length w1 h1 (by omega) (by simp) (Pq.Heap.push (HP.out (fun k hk => eo_snoc hk))))
  rw [e1] at LN ML UPA
  have U1 := Lib.hid u1
  have O1 : Hid (∀ k, (Value.slice p1 (bs.length + 1) c1).ownBlock = some k → v.ownBlock = some k ∨ w.heap.size ≤ k) := fun k hk => o1 k (by rw [e1]; exact hk)
  have H1 := Lib.hid h1
  unfold hv at UPA
  clear u1 o1 h1 MP e1 hm1
  go_wp2_with fail
  refine (LN.out).mono ?_
  rintro e w2 ⟨rfl, rfl⟩
  go_wp2_with fail
  refine (UPA.out).mono ?_
  rintro e w3 ⟨rfl, bs', h3, pm, hh, _, u3⟩
  have H3 := Lib.hid (And.intro h3 (And.intro pm (And.intro hh u3)))
  clear h3 pm hh u3 ML
  go_wp2
  go_returns
  obtain ⟨h3, pm, hh, u3⟩ := H3.out
  have el : bs'.length = bs.length + 1 := by rw [pm.length_eq]; simp
  refine ⟨_, bs', rfl, ⟨h3, by rw [el]; exact hh⟩, pm.trans (List.perm_append_singleton b bs), ?_, O1.out⟩
  refine (U1.out.weaken (fun k _ hk => ?_)).trans u3 (fun k hk hr => ?_)
  · rcases hk with g | g | g
    · exact Or.inl g
    · exact Or.inr (Or.inl g)
    · exact Or.inr (Or.inr (Or.inl g))
  · rcases hr with g | g
    · rcases O1.out k g with g | g
      · exact Or.inr (Or.inr (Or.inl g))
      · omega
    · rcases List.mem_append.1 g with g | g
      · exact Or.inr (Or.inr (Or.inr g))
      · simp at g; exact Or.inr (Or.inl g)
set_option maxHeartbeats 4000000 in
set_option maxRecDepth 100000 in
theorem hfix_any (base xa : Nat) (mv v : Value) (bs : List Nat) (ent : Nat → DueP) (i : Nat) (w : World) (h : RowM w base xa mv v bs ent) (hi : i < bs.length) (hl : bs.length ≤ 1000000) (hd : Pq.DownOk leD (eo ent bs) bs.length i i) :
    Calls Try.prog 23 #[hv xa, .int .i64 (i : Int)] w fun e w' => ∃ bs', e = .returned (.tuple #[]) ∧ HeapM w' base xa mv v bs' ent ∧ bs'.Perm bs ∧ Upd (rowF v bs) w w' := by
  obtain ⟨p1, c1, ev1, hm1⟩ := own_slice h.own
  subst ev1
  have LN := Lib.hid (rowlen_any p1 bs.length c1 w hl)
  have ML := meth_len xa _ _ _ w (h.x.cellAt (i := 0) rfl)
  have DN := Lib.hid (down_any base xa mv _ bs ent bs.length i w h hi (Nat.le_refl _) hl hd)
  have HI := Lib.hid hi
  unfold Downed at DN
  unfold hv at DN ⊢
  clear h hd hm1 hi
  go_enter Try.func23, Try.ntmps23
  go_wp2_with fail
  refine (LN.out).mono ?_
  rintro e w2 ⟨rfl, rfl⟩
  go_wp2_with fail
  refine (DN.out).mono ?_
  rintro e w3 ⟨b, bs', rfl, h3, pm, hT, hF, _, u3⟩
  have H3 := Lib.hid (And.intro h3 (And.intro pm u3))
  have HT := Lib.hid hT
  have HF := Lib.hid hF
  clear h3 pm u3 ML hT hF
  cases b with
  | true =>
    go_wp2
    go_returns
    obtain ⟨h3, pm, u3⟩ := H3.out
    exact ⟨bs', rfl, ⟨h3, by rw [pm.length_eq]; first | exact HT.out rfl | exact HT.out trivial⟩, pm, u3⟩
  | false =>
    have UPA := Lib.hid (up_any base xa mv _ bs' ent bs.length i w3 H3.out.1 HI.out (by rw [H3.out.2.1.length_eq]; exact Nat.le_refl _) (by first | exact HF.out rfl | exact HF.out trivial))
    unfold hv at UPA
    go_wp2_with fail
    refine (UPA.out).mono ?_
    rintro e w4 ⟨rfl, bs2, h4, pm4, hh, _, u4⟩
    have H4 := Lib.hid (And.intro h4 (And.intro pm4 (And.intro hh u4)))
    clear h4 pm4 hh u4
    go_wp2
    go_returns
    obtain ⟨h3, pm, u3⟩ := H3.out
    obtain ⟨h4, pm4, hh, u4⟩ := H4.out
    exact ⟨bs2, rfl, ⟨h4, by rw [(pm4.trans pm).length_eq]; exact hh⟩, pm4.trans pm, u3.trans u4 (fun k _ hk => rowF_perm pm hk)⟩
/-- One has gone. -/
def Gone (base xa : Nat) (mv v : Value) (bs : List Nat) (ent : Nat → DueP) (b : Nat) (w : World) (e : Ending) (w' : World) : Prop := ∃ v' bs' i, e = .returned (.iface 61 (ptr b)) ∧ HeapM w' base xa mv v' bs' ent ∧ (b :: bs').Perm bs ∧ Upd (fun k => k = xa ∨ rowF v bs k) w w' ∧ v'.ownBlock = v.ownBlock ∧ Blk w' b (entc (ent b) i) 60
/-- What is left when the last one has gone. -/
theorem gone_of {base xa : Nat} {mv v v' : Value} {bs bs1 : List Nat} {ent : Nat → DueP} {b n : Nat} {w w1 w' : World} (h : RowM w1 base xa mv v (bs1 ++ [b]) ent) (hp : (bs1 ++ [b]).Perm bs) (hn : bs1.length = n) (hh : Pq.Heap leD (eo ent (bs1 ++ [b])) n) (u : Upd (rowF v bs) w w1)
    (h' : RowM w' base xa mv v' bs1 ent) (u' : Upd (fun k => k = xa) w1 w') (o' : v'.ownBlock = v.ownBlock) : Gone base xa mv v bs ent b w (.returned (.iface 61 (ptr b))) w' := by
  subst hn
  refine ⟨v', bs1, bs1.length, rfl, ⟨h', hh.congr (fun k hk => (eo_snoc hk).symm)⟩, (List.perm_append_singleton b bs1).symm.trans hp, (u.weaken (fun _ _ h => Or.inr h)).trans u' (fun _ _ h => Or.inl h), o', ?_⟩
  exact u'.blk (h.at_ bs1.length b (by simp)) (fun e => h.xn (e ▸ by simp))
end Go.Proofs.Ytokkhddbdjflhaa
