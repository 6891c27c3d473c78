/- Walks: expiry's Next, Clear, Put, Drop. -/
import Derived.Test.YtgdenmddbgcacaaGreatDoorK11
import Derived.Deep.RegionWith
set_option linter.unusedVariables false
set_option linter.unusedSimpArgs false
namespace Go.Proofs.YtgdenmddbgcacaaGreatDoor
open Go.RowKit

def dueV (o : Option DueP) : Value := match o with | some d => .agg #[.int .i64 d.1, .string d.2] | none => .agg #[.int .i64 0, .string ByteArray.empty]
theorem xclear_any (w : World) (base xa : Nat) (l : List DueP) (E : Nat → Prop) (h : ExpAt w base xa l E) :
    Calls Tryz.prog 66 #[.pointer (some ⟨xa, 0, none⟩)] w fun e w' => e = .returned (.tuple #[]) ∧ ExpTo w w' base xa E [] := by
  obtain ⟨mb, v, bs, ent, m, h, rfl⟩ := h
  have hb := h.heap.row.x
  have NW := xnew_raw w
  have B := newW_blk w
  have X := (newW_upd w).blk hb (fun h => h)
  have c0 := B.cellAt (i := 0) rfl
  have c1 := B.cellAt (i := 1) rfl
  have x0 := X.cellAt (i := 0) rfl
  have x1 := X.cellAt (i := 1) rfl
  have f0 := X.free 0
  have f1 := X.free 1
  have hxl := hb.lt
  have HB := Lib.hid hb
  clear h B hb X
  generalize hw1 : newW w = w1 at *
  have W1 := Lib.hid hw1
  clear hw1
  go_enter Tryz.func66, Tryz.ntmps66
  go_wp2_with fail
  refine (NW).mono ?_
  rintro e w2 ⟨rfl, rfl⟩
  go_wp2
  go_returns
  have e := W1.out
  subst e
  have hb := (newW_upd w).blk HB.out (fun h => h)
  have u : Upd (fun k => k = xa) (newW w) (((newW w).setCell ⟨xa, 0, none⟩ (.slice none 0 0)).setCell ⟨xa, 1, none⟩ (.map (some w.heap.size))) := ((Upd.refl (fun k => k = xa) _).set (fun _ => rfl)).set (fun _ => rfl)
  refine ⟨rfl, _, ⟨w.heap.size, _, [], _, [], expR_nil ((hb.set 0 _).set 1 _) ((newW_map w).keep u (fun e => by omega)), rfl⟩, ((newW_upd w).weaken (fun _ _ h => h.elim)).trans u (fun k _ hk => Or.inl hk), fun k hk => ?_⟩
  rcases hk with rfl | rfl | hk | hk
  · exact Or.inl (Or.inl rfl)
  · exact Or.inr (Nat.le_refl _)
  · cases hk
  · simp at hk
/-- A key's entry is turned. -/
def entSet (ent : Nat → DueP) (b : Nat) (d : DueP) : Nat → DueP := fun c => if c = b then d else ent c
theorem map_entSet {ent : Nat → DueP} {bs : List Nat} {b : Nat} {d : DueP} (h : b ∉ bs) : bs.map (entSet ent b d) = bs.map ent := by
  refine List.map_congr_left fun c hc => ?_
  unfold entSet; rw [if_neg (fun e => h (by rw [← e]; exact hc))]
theorem dropD_perm {l l' : List DueP} (k : ByteArray) (h : l.Perm l') : (dropD k l).Perm (dropD k l') := h.filter _
section
variable {w w' : World} {base xa mb : Nat} {v : Value} {bs : List Nat} {ent : Nat → DueP} {m : List (ByteArray × Nat)} {l : List DueP}
theorem ExpR.rest (h : ExpR w base xa mb v bs ent m l) {b : Nat} (hb : b ∈ bs) : dropD (ent b).2 (bs.map ent) = (bs.erase b).map ent := by
  have hin := fun c (hc : c ∈ bs) (e : (ent c).2 = (ent b).2) => h.inj hc hb e
  have nd := h.heap.row.nd
  clear h
  induction bs with
  | nil => simp at hb
  | cons a r ih =>
    obtain ⟨n1, n2⟩ := List.nodup_cons.1 nd
    by_cases e : a = b
    · subst e
      rw [List.erase_cons_head, List.map_cons]
      have : dropD (ent a).2 (ent a :: r.map ent) = dropD (ent a).2 (r.map ent) := by unfold dropD; simp
      rw [this]
      refine dropD_none fun hm => ?_
      obtain ⟨d, hd, e2⟩ := List.mem_map.1 hm
      obtain ⟨c, hc, e3⟩ := List.mem_map.1 hd
      have := hin c (by simp [hc]) (by rw [e3, e2])
      exact n1 (this ▸ hc)
    · have hbr : b ∈ r := by rcases List.mem_cons.1 hb with h | h; exact absurd h.symm e; exact h
      have hne : (ent a).2 ≠ (ent b).2 := fun e2 => e (hin a (by simp) e2)
      rw [List.erase_cons_tail (by simpa using e), List.map_cons, List.map_cons]
      have : dropD (ent b).2 (ent a :: r.map ent) = ent a :: dropD (ent b).2 (r.map ent) := by unfold dropD; simp [hne]
      rw [this, ih hbr (fun c hc => hin c (by simp [hc])) n2]
theorem erase_map_entSet {ent : Nat → DueP} {bs : List Nat} {b : Nat} {d : DueP} (nd : bs.Nodup) : (bs.erase b).map (entSet ent b d) = (bs.erase b).map ent := map_entSet (fun hm => by
  have := (List.Nodup.mem_erase_iff nd).1 hm; exact this.1 rfl)
/-- A key's time is set anew. -/
theorem ExpR.turned (h : ExpR w base xa mb v bs ent m l) {b : Nat} {bs' : List Nat} {key : ByteArray} {t : Int} (hk : aget m key = some b) (h' : HeapM w' base xa (.map (some mb)) v bs' (entSet ent b (t, key))) (hp : bs'.Perm bs) (hm : MapAt strEnc w' mb (pm m)) :
    ExpR w' base xa mb v bs' (entSet ent b (t, key)) m (putD key t l) := by
  obtain ⟨h1, h2⟩ := (h.mem key b).1 hk
  have k2 : ∀ c, (entSet ent b (t, key) c).2 = (ent c).2 := fun c => by
    unfold entSet; split
    · next e => rw [e, h2]
    · rfl
  refine ⟨h', hm, h.mnd, fun k c => by rw [k2, hp.mem_iff]; exact h.mem k c, putD_rise h.rise key t, ?_⟩
  have p1 : (bs'.map (entSet ent b (t, key))).Perm ((b :: bs.erase b).map (entSet ent b (t, key))) := (hp.trans (List.perm_cons_erase h1)).map _
  have e1 : (b :: bs.erase b).map (entSet ent b (t, key)) = (t, key) :: (bs.erase b).map ent := by
    rw [List.map_cons, erase_map_entSet h.heap.row.nd]; unfold entSet; rw [if_pos rfl]
  rw [e1, ← h.rest h1, h2] at p1
  exact p1.trans (((dropD_perm key h.perm).cons _).trans (putD_perm l key t).symm)
/-- A key has come. -/
theorem ExpR.came (h : ExpR w base xa mb v bs ent m l) {b : Nat} {v' : Value} {bs' : List Nat} {key : ByteArray} {t : Int} (hk : aget m key = none) (hb : b ∉ bs) (h' : HeapM w' base xa (.map (some mb)) v' bs' (entSet ent b (t, key))) (hp : bs'.Perm (b :: bs)) (hm : MapAt strEnc w' mb (pm (aset m key b))) :
    ExpR w' base xa mb v' bs' (entSet ent b (t, key)) (aset m key b) (putD key t l) := by
  have hkl : key ∉ l.map (·.2) := by have := h.keyl key; rw [hk] at this; simpa using this
  refine ⟨h', hm, nodup_aset h.mnd key b, fun k c => ?_, putD_rise h.rise key t, ?_⟩
  · rw [aget_aset, hp.mem_iff, List.mem_cons]
    unfold entSet
    by_cases e : key = k
    · subst e
      rw [if_pos rfl]
      constructor
      · intro e; cases e; exact ⟨Or.inl rfl, by rw [if_pos rfl]⟩
      · rintro ⟨h1 | h1, h2⟩
        · rw [h1]
        · have hcb : ¬ c = b := fun e => hb (e ▸ h1)
          rw [if_neg hcb] at h2
          have := (h.mem key c).2 ⟨h1, h2⟩
          rw [hk] at this; cases this
    · rw [if_neg e, h.mem k c]
      constructor
      · rintro ⟨h1, h2⟩
        have hcb : ¬ c = b := fun e => hb (e ▸ h1)
        exact ⟨Or.inr h1, by rw [if_neg hcb]; exact h2⟩
      · rintro ⟨h1 | h1, h2⟩
        · rw [if_pos h1] at h2; exact absurd h2 e
        · have hcb : ¬ c = b := fun e => hb (e ▸ h1)
          rw [if_neg hcb] at h2; exact ⟨h1, h2⟩
  · have p1 := hp.map (entSet ent b (t, key))
    rw [List.map_cons, map_entSet hb, show entSet ent b (t, key) b = (t, key) by unfold entSet; rw [if_pos rfl]] at p1
    refine p1.trans ((h.perm.cons _).trans ?_)
    have := putD_perm l key t
    rw [dropD_none hkl] at this
    exact this.symm
/-- A key has gone. -/
theorem ExpR.went (h : ExpR w base xa mb v bs ent m l) {b : Nat} {v' : Value} {bs' : List Nat} {key : ByteArray} (hk : aget m key = some b) (h' : HeapM w' base xa (.map (some mb)) v' bs' ent) (hp : (b :: bs').Perm bs) (hm : MapAt strEnc w' mb (pm (adel m key))) :
    ExpR w' base xa mb v' bs' ent (adel m key) (dropD key l) := by
  obtain ⟨h1, h2⟩ := (h.mem key b).1 hk
  have pe : bs'.Perm (bs.erase b) := by
    have := (hp.trans (List.perm_cons_erase h1)); exact this.cons_inv
  have hmm : ∀ c, c ∈ bs' ↔ c ∈ bs ∧ c ≠ b := fun c => by
    rw [pe.mem_iff, List.Nodup.mem_erase_iff h.heap.row.nd]; exact And.comm
  refine ⟨h', hm, nodup_adel h.mnd key, fun k c => ?_, dropD_rise h.rise key, ?_⟩
  · rw [aget_adel h.mnd, hmm]
    by_cases e : key = k
    · subst e
      rw [if_pos rfl]
      constructor
      · intro e; cases e
      · rintro ⟨⟨h3, h4⟩, h5⟩; exact absurd (h.inj h3 h1 (by rw [h5, h2])) h4
    · rw [if_neg e, h.mem k c]
      constructor
      · rintro ⟨h3, h4⟩; exact ⟨⟨h3, fun e2 => e (by rw [← h4, e2, h2])⟩, h4⟩
      · rintro ⟨⟨h3, _⟩, h4⟩; exact ⟨h3, h4⟩
  · have p1 := pe.map ent
    rw [← h.rest h1, h2] at p1
    exact p1.trans (dropD_perm key h.perm)
end
end Go.Proofs.YtgdenmddbgcacaaGreatDoor
/- Walks: expiry's Put, Drop. -/
set_option linter.unusedVariables false
set_option linter.unusedSimpArgs false
namespace Go.Proofs.YtgdenmddbgcacaaGreatDoor
open Go.RowKit

theorem xput_bad (w : World) (xa : Nat) (key : ByteArray) (t : Int) (h : t < 0 ∨ 4611686018427387904 < t) :
    Calls Tryz.prog 62 #[.pointer (some ⟨xa, 0, none⟩), .string key, .int .i64 t] w fun e w' => e = .returned (.int .i64 111) ∧ w' = w := by
  by_cases h0 : t < 0
  · have h1 : decide (t < 0) = true := decide_eq_true h0
    go_enter Tryz.func62, Tryz.ntmps62
    go_wp2
    go_ret
    exact ⟨rfl, rfl⟩
  · have h1 : decide (t < 0) = false := decide_eq_false h0
    have h2 : decide (4611686018427387904 < t) = true := decide_eq_true (by omega)
    go_enter Tryz.func62, Tryz.ntmps62
    go_wp2
    go_ret
    exact ⟨rfl, rfl⟩
set_option maxHeartbeats 4000000 in
set_option maxRecDepth 100000 in
theorem xput_any (w : World) (base xa : Nat) (l : List DueP) (E : Nat → Prop) (key : ByteArray) (t : Int) (h : ExpAt w base xa l E) (hb0 : base ≤ w.heap.size) (hl : l.length ≤ 10000) (ht0 : 0 ≤ t) (ht1 : t ≤ 4611686018427387904) :
    Calls Tryz.prog 62 #[.pointer (some ⟨xa, 0, none⟩), .string key, .int .i64 t] w fun e w' => e = .returned (.int .i64 0) ∧ ExpTo w w' base xa E (putD key t l) := by
  obtain ⟨mb, v, bs, ent, m, h, rfl⟩ := h
  have h1 : decide (t < 0) = false := decide_eq_false (by omega)
  have h2 : decide (4611686018427387904 < t) = false := decide_eq_false (by omega)
  have c1 := h.heap.row.x.cellAt (i := 1) rfl
  have lk := h.look key true
  simp only [if_true] at lk
  unfold lv at lk
  have hbl := h.llen
  cases e : aget m key with
  | some b =>
    rw [e] at lk
    obtain ⟨hb, hk⟩ := (h.mem key b).1 e
    obtain ⟨i, hi⟩ := List.mem_iff_getElem?.1 hb
    have hil := (List.getElem?_eq_some_iff.1 hi).1
    have HE := Lib.hid e
    simp only [Option.map_some, Option.isSome_some] at lk
    have hB := h.heap.row.at_ i b hi
    have d0 := hB.cellAt (i := 0) rfl
    have f0 := hB.free 0
    have d2 := hB.cellAt (i := 2) rfl
    have u1 : Upd (fun k => k = b) w (w.setCell ⟨b, 0, none⟩ (.int .i64 t)) := (Upd.refl (fun k => k = b) w).set (fun _ => rfl)
    have R1 : RowM (w.setCell ⟨b, 0, none⟩ (.int .i64 t)) base xa (.map (some mb)) v bs (entSet ent b (t, key)) := by
      refine ⟨u1.blk h.heap.row.x (fun e => h.heap.row.xn (e ▸ hb)), own_keep h.heap.row.own u1 (fun k hk e => h.heap.row.vn k hk (e ▸ hb)), fun j c hj => ?_, h.heap.row.nd, h.heap.row.xn, h.heap.row.vx, h.heap.row.vn⟩
      unfold entSet
      by_cases ec : c = b
      · subst ec
        obtain rfl : j = i := (List.getElem?_inj (List.getElem?_eq_some_iff.1 hj).1 h.heap.row.nd).1 (by rw [hj, hi])
        rw [if_pos rfl]
        have := hB.set 0 (.int .i64 t)
        rw [show (entc (ent c) j).set 0 (.int .i64 t) = entc (t, key) j by simp [entc, hk]] at this
        exact this
      · rw [if_neg ec]
        exact u1.blk (h.heap.row.at_ j c hj) ec
    have hd : Pq.DownOk leD (eo (entSet ent b (t, key)) bs) bs.length i i := h.heap.heap.turn leD_trans i (fun k hk hki => by
      have e1 : bs[k]? = some bs[k] := List.getElem?_eq_getElem hk
      rw [eo_at e1, eo_at e1]
      unfold entSet
      rw [if_neg (fun e2 => hki ((List.getElem?_inj hk h.heap.row.nd).1 (by rw [e1, e2, hi])))])
    have FX := Lib.hid (fun (w' : World) (u : Upd (fun _ => False) (w.setCell ⟨b, 0, none⟩ (.int .i64 t)) w') => hfix_any base xa (.map (some mb)) v bs (entSet ent b (t, key)) i w' (R1.keep0 u) hil (by omega) hd)
    have H := Lib.hid h
    have HU := Lib.hid u1
    have HBB := Lib.hid hb
    unfold hv at FX
    clear h e hb hk hi hbl hB R1 hd u1
    go_enter Tryz.func62, Tryz.ntmps62
    go_wp2
    go_region_with (go_at_call 85; refine (FX.out _ (by first | exact Upd.refl _ _ | exact (Upd.refl _ _).drew)).mono ?_; rintro e w3 ⟨bs3, rfl, h3, pm3, u3⟩; (have H3 := Lib.hid (And.intro h3 (And.intro pm3 u3))); clear h3 pm3 u3)
    go_wp2
    go_ret
    obtain ⟨h3, pm3, u3⟩ := H3.out
    have u13 : Upd (expF xa mb v bs) w w3 := ((HU.out.weaken (F := expF xa mb v bs) (fun k _ e => Or.inr (Or.inr (Or.inr (e ▸ HBB.out))))).drew).trans u3 (fun k _ hk => Or.inr (Or.inr hk))
    have hm3 : MapAt strEnc w3 mb (pm m) := (H.out.map.keep HU.out (fun e => H.out.mbs (e ▸ HBB.out))).keep (((Upd.refl _ _).drew).trans u3 (fun _ _ h => h)) (fun hk => by
      rcases hk with hk | hk
      · exact H.out.mv hk
      · exact H.out.mbs hk)
    exact ⟨rfl, _, ⟨mb, v, bs3, _, m, H.out.turned HE.out h3 pm3 hm3, rfl⟩, u13, fun k hk => Or.inl (by
      rcases hk with hk | hk | hk
      · exact Or.inl hk
      · exact Or.inr (Or.inl hk)
      · exact Or.inr (Or.inr (rowF_perm pm3 hk)))⟩
  | none =>
    rw [e] at lk
    have HE := Lib.hid e
    simp only [Option.map_none, Option.isSome_none] at lk
    have hxl := h.heap.row.x.lt
    have hlt := h.lt
    obtain ⟨W1, hW1⟩ : ∃ W1, W1 = w.alloc (.cells #[.int .i64 t, .string key, .int .i64 0] 147) := ⟨_, rfl⟩
    have u1 : Upd (fun _ => False) w W1 := by rw [hW1]; exact (Upd.refl _ w).alloc _
    have hB1 : Blk W1 w.heap.size (entc (t, key) 0) 147 := by rw [hW1]; exact Blk.made w (entc (t, key) 0) _
    have h1' := h.keep u1 (fun _ _ h => h)
    obtain ⟨w2, mu, m2, u2⟩ := h1'.map.put keyS Tryz.underlying112 key (ptr w.heap.size)
    rw [pm_set] at m2
    rw [hW1] at mu
    unfold strEnc ptr at mu
    have hbn : w.heap.size ∉ bs := fun hm => by have := hlt _ (Or.inr (Or.inr (Or.inr hm))); omega
    have hbv : v.ownBlock ≠ some w.heap.size := fun hm => by have := hlt _ (Or.inr (Or.inr (Or.inl hm))); omega
    have hbm : mb ≠ w.heap.size := fun hm => by have := hlt mb (Or.inr (Or.inl rfl)); omega
    have R2 : RowM w2 base xa (.map (some mb)) v bs (entSet ent w.heap.size (t, key)) := by
      have hk := h1'.heap.row.keep u2 (fun e => h.mx e.symm) (fun k hk e => by
        rcases hk with hk | hk
        · exact h.mv (e ▸ hk)
        · exact h.mbs (e ▸ hk))
      refine ⟨hk.x, hk.own, fun j c hj => ?_, hk.nd, hk.xn, hk.vx, hk.vn⟩
      have : ¬ c = w.heap.size := fun e => hbn (e ▸ List.mem_of_getElem? hj)
      unfold entSet; rw [if_neg this]; exact hk.at_ j c hj
    have HP2 : HeapM w2 base xa (.map (some mb)) v bs (entSet ent w.heap.size (t, key)) := ⟨R2, h.heap.heap.congr (fun k hk => by
      have e1 : bs[k]? = some bs[k] := List.getElem?_eq_getElem hk
      have hcb : ¬ bs[k] = w.heap.size := fun e => hbn (e ▸ List.mem_of_getElem? e1)
      rw [eo_at e1, eo_at e1]; unfold entSet
      rw [if_neg hcb])⟩
    have PU := Lib.hid (hpush_any base xa (.map (some mb)) v bs (entSet ent w.heap.size (t, key)) w.heap.size 0 w2 HP2 (by have := u1.size; have := u2.size; omega) (by omega)
      (by unfold entSet; rw [if_pos rfl]; exact u2.blk hB1 (fun e => hbm e.symm)) hbn (fun e => by omega) hbv)
    have H := Lib.hid h
    have U12 := Lib.hid ((u1.weaken (F := expF xa mb v bs) (fun _ _ h => h.elim)).trans u2 (fun k _ e => Or.inr (Or.inl e)))
    have N := Lib.hid (And.intro hbn hbm)
    have M2 := Lib.hid m2
    have SZ : Hid (w.heap.size ≤ w2.heap.size) := Nat.le_trans u1.size u2.size
    unfold hv Come ptr at PU
    have HW := Lib.hid hW1
    clear h e hbl hlt u1 hB1 h1' m2 u2 hbn hbv R2 HP2 hW1 hbm
    go_enter Tryz.func62, Tryz.ntmps62
    go_wp2_with fail
    refine (PU.out).mono ?_
    rintro e w3 ⟨v3, bs3, rfl, h3, pm3, u3, o3⟩
    have H3 := Lib.hid (And.intro h3 (And.intro pm3 (And.intro u3 o3)))
    clear h3 pm3 u3 o3
    go_wp2
    go_ret
    obtain ⟨h3, pm3, u3, o3⟩ := H3.out
    refine ⟨rfl, _, ⟨mb, v3, bs3, _, aset m key w.heap.size, H.out.came HE.out N.out.1 h3 pm3 (M2.out.keep u3 (fun hk => ?_)), rfl⟩, U12.out.trans u3 (fun k hk hf => ?_), fun k hk => ?_⟩
    · rcases hk with hk | hk | hk | hk
      · exact H.out.mx hk
      · exact N.out.2 hk
      · exact H.out.mv hk
      · exact H.out.mbs hk
    · rcases hf with hf | hf | hf
      · exact Or.inl hf
      · omega
      · exact Or.inr (Or.inr hf)
    · rcases hk with hk | hk | hk | hk
      · exact Or.inl (Or.inl hk)
      · exact Or.inl (Or.inr (Or.inl hk))
      · rcases o3 k hk with g | g
        · exact Or.inl (Or.inr (Or.inr (Or.inl g)))
        · exact Or.inr (Nat.le_trans SZ.out g)
      · rcases List.mem_cons.1 (pm3.mem_iff.1 hk) with g | g
        · exact Or.inr (by omega)
        · exact Or.inl (Or.inr (Or.inr (Or.inr g)))
set_option maxHeartbeats 4000000 in
set_option maxRecDepth 100000 in
theorem xdrop_any (w : World) (base xa : Nat) (l : List DueP) (E : Nat → Prop) (key : ByteArray) (h : ExpAt w base xa l E) (hl : l.length ≤ 10000) :
    Calls Tryz.prog 52 #[.pointer (some ⟨xa, 0, none⟩), .string key] w fun e w' => e = .returned (.bool (decide (key ∈ l.map (·.2)))) ∧ ExpTo w w' base xa E (dropD key l) := by
  obtain ⟨mb, v, bs, ent, m, h, rfl⟩ := h
  have c1 := h.heap.row.x.cellAt (i := 1) rfl
  have lk := h.look key true
  simp only [if_true] at lk
  rw [← h.keyl key]
  unfold lv at lk
  have hbl := h.llen
  cases e : aget m key with
  | some b =>
    rw [e] at lk
    obtain ⟨hb, hk⟩ := (h.mem key b).1 e
    obtain ⟨i, hi⟩ := List.mem_iff_getElem?.1 hb
    have HE := Lib.hid e
    simp only [Option.map_some, Option.isSome_some] at lk ⊢
    have d2 := (h.heap.row.at_ i b hi).cellAt (i := 2) rfl
    have FX := Lib.hid (fun (w' : World) (u : Upd (fun _ => False) w w') => hremove_any base xa (.map (some mb)) v bs ent i b w' ⟨h.heap.row.keep0 u, h.heap.heap⟩ hi (by omega))
    have H := Lib.hid h
    unfold hv at FX
    clear h e hb hk hi hbl
    go_enter Tryz.func52, Tryz.ntmps52
    go_wp2
    go_region_with (go_at_call 81; refine (FX.out _ (by first | exact Upd.refl _ _ | exact (Upd.refl _ _).drew)).mono ?_; rintro e w3 ⟨v3, bs3, i3, rfl, h3, pm3, u3, o3, b3⟩; (have H3 := Lib.hid (And.intro h3 (And.intro pm3 (And.intro u3 o3)))); clear h3 pm3 u3 o3 b3)
    have M3 : Hid (MapAt strEnc w3 mb (pm m)) := H.out.map.keep (((Upd.refl _ w).drew).trans H3.out.2.2.1 (fun _ _ h => h)) (fun hk => by
      rcases hk with hk | hk | hk
      · exact H.out.mx hk
      · exact H.out.mv hk
      · exact H.out.mbs hk)
    have c3 := H3.out.1.row.x.cellAt (i := 1) rfl
    obtain ⟨w4, de, m4, u4⟩ := M3.out.del keyS Tryz.underlying112 key 0
    rw [pm_del] at m4
    unfold strEnc at de
    have M4 := Lib.hid m4
    have U4 := Lib.hid u4
    clear m4 u4
    go_wp2
    go_ret
    obtain ⟨h3, pm3, u3, o3⟩ := H3.out
    have hb3 : ∀ k, k ∈ bs3 → k ∈ bs := fun k hk => pm3.mem_iff.1 (List.mem_cons_of_mem _ hk)
    have hr : RowM w4 base xa (.map (some mb)) v3 bs3 ent := h3.row.keep U4.out (fun e => H.out.mx e.symm) (fun k hk e => by
      rcases hk with hk | hk
      · exact H.out.mv (by rw [← o3, ← e]; exact hk)
      · exact H.out.mbs (e ▸ hb3 k hk))
    refine ⟨rfl, _, ⟨mb, v3, bs3, ent, adel m key, H.out.went HE.out ⟨hr, h3.heap⟩ pm3 M4.out, rfl⟩, (((Upd.refl _ w).drew).trans (u3.weaken (F := expF xa mb v bs) (fun k _ hk => ?_)) (fun _ _ h => h)).trans U4.out (fun k _ e => Or.inr (Or.inl e)), fun k hk => Or.inl ?_⟩
    · rcases hk with hk | hk
      · exact Or.inl hk
      · exact Or.inr (Or.inr hk)
    · rcases hk with hk | hk | hk | hk
      · exact Or.inl hk
      · exact Or.inr (Or.inl hk)
      · exact Or.inr (Or.inr (Or.inl (by rw [← o3]; exact hk)))
      · exact Or.inr (Or.inr (Or.inr (hb3 k hk)))
  | none =>
    rw [e] at lk
    have HE := Lib.hid e
    simp only [Option.map_none, Option.isSome_none] at lk ⊢
    have hkl : key ∉ l.map (·.2) := by have := h.keyl key; rw [e] at this; simpa using this
    have H := Lib.hid h
    have HK := Lib.hid hkl
    clear h e hbl hkl
    go_enter Tryz.func52, Tryz.ntmps52
    go_wp2
    go_ret
    exact ⟨rfl, _, ⟨mb, v, bs, ent, m, by rw [dropD_none HK.out]; exact H.out, rfl⟩, Upd.refl _ _, FromF.refl _ _⟩
end Go.Proofs.YtgdenmddbgcacaaGreatDoor
