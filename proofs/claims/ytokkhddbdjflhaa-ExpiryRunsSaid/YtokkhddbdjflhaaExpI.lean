/- Walks: expiry's Next, Clear, Put, Drop. -/
import Derived.Test.YtokkhddbdjflhaaExpH
import Derived.Deep.RegionWith
set_option linter.unusedVariables false
set_option linter.unusedSimpArgs false
namespace Go.Proofs.Ytokkhddbdjflhaa
open Go.RowKit

def dueV (o : Option DueP) : Value := match o with | some d => .agg #[.int .i64 d.1, .string d.2] | none => .agg #[.int .i64 0, .string ByteArray.empty]
theorem xnext_any (w : World) (base xa : Nat) (l : List DueP) (E : Nat → Prop) (h : ExpAt w base xa l E) (hl : l.length ≤ 1000000) :
    Calls Try.prog 9 #[.pointer (some ⟨xa, 0, none⟩)] w fun e w' => e = .returned (.tuple #[dueV l.head?, .bool l.head?.isSome]) ∧ Upd (fun _ => False) w w' := by
  obtain ⟨mb, v, bs, ent, m, h, rfl⟩ := h
  have hx := h.heap.row.x.lt
  cases hb : bs[0]? with
  | none =>
    have e0 : bs = [] := by cases bs with | nil => rfl | cons a r => simp at hb
    have el : l = [] := by have := h.llen; rw [e0] at this; exact List.length_eq_zero_iff.1 this.symm
    subst e0 el
    obtain ⟨p, c, ev, _⟩ := own_slice h.heap.row.own
    have c1 := h.heap.row.x.cellAt (i := 0) rfl
    rw [ev] at c1
    clear h hb ev
    go_enter Try.func9, Try.ntmps9
    go_wp2
    exact bodyPost_ret (v := .tuple #[.agg #[.int .i64 0, .string ByteArray.empty], .bool false]) (by simp [results, Try.results9, go_sem]; rfl) rfl ⟨rfl, (Upd.refl _ w).alloc _⟩
  | some b =>
    have hf := h.first hb
    rw [hf]
    have h0 := (List.getElem?_eq_some_iff.1 hb).1
    obtain ⟨g, cap, cs, ev, hg, hB, hc, hm, hgn⟩ := h.heap.row.mem h0
    have c1 := h.heap.row.x.cellAt (i := 0) rfl
    rw [ev] at c1
    have c2 : w.cell? ⟨g, 0, none⟩ = some (.pointer (some ⟨b, 0, none⟩)) := hB.cellAt (map_at hb)
    have d0 := (h.heap.row.at_ 0 b hb).cellAt (i := 0) rfl
    have d1 := (h.heap.row.at_ 0 b hb).cellAt (i := 1) rfl
    have hbl := (h.heap.row.at_ 0 b hb).lt
    have hgl := hB.lt
    have q0 : ((bs.length : Int) == 0) = false := by simp; exact fun e => by rw [e] at h0; simp at h0
    have q1 : (0 : Int) < (bs.length : Int) := by omega
    have hll := h.llen
    have q2 : bs.length ≤ 1000000 := by omega
    generalize ent b = d at *
    clear h hb hf hB hc hm hgn ev hll
    go_enter Try.func9, Try.ntmps9
    go_wp2
    exact bodyPost_ret (v := .tuple #[.agg #[.int .i64 d.1, .string d.2], .bool true]) (by simp [results, Try.results9, go_sem]) rfl ⟨rfl, (Upd.refl _ w).alloc _⟩
theorem xclear_any (w : World) (base xa : Nat) (l : List DueP) (E : Nat → Prop) (h : ExpAt w base xa l E) :
    Calls Try.prog 18 #[.pointer (some ⟨xa, 0, none⟩)] w fun e w' => e = .returned (.tuple #[]) ∧ ExpTo w w' base xa E [] := by
  obtain ⟨mb, v, bs, ent, m, h, rfl⟩ := h
  have hb := h.heap.row.x
  have NW := xnew_raw w
  have B := newW_blk w
  have X := (newW_upd w).blk hb (fun h => h)
  have c0 := B.cellAt (i := 0) rfl
  have c1 := B.cellAt (i := 1) rfl
  have x0 := X.cellAt (i := 0) rfl
  have x1 := X.cellAt (i := 1) rfl
  have f0 := X.free 0
  have f1 := X.free 1
  have hxl := hb.lt
  have HB := Lib.hid hb
  clear h B hb X
  generalize hw1 : newW w = w1 at *
  have W1 := Lib.hid hw1
  clear hw1
  go_enter Try.func18, Try.ntmps18
  go_wp2_with fail
  refine (NW).mono ?_
  rintro e w2 ⟨rfl, rfl⟩
  go_wp2
  go_returns
  have e := W1.out
  subst e
  have hb := (newW_upd w).blk HB.out (fun h => h)
  have u : Upd (fun k => k = xa) (newW w) (((newW w).setCell ⟨xa, 0, none⟩ (.slice none 0 0)).setCell ⟨xa, 1, none⟩ (.map (some w.heap.size))) := ((Upd.refl (fun k => k = xa) _).set (fun _ => rfl)).set (fun _ => rfl)
  refine ⟨rfl, _, ⟨w.heap.size, _, [], _, [], expR_nil ((hb.set 0 _).set 1 _) ((newW_map w).keep u (fun e => by omega)), rfl⟩, ((newW_upd w).weaken (fun _ _ h => h.elim)).trans u (fun k _ hk => Or.inl hk), fun k hk => ?_⟩
  rcases hk with rfl | rfl | hk | hk
  · exact Or.inl (Or.inl rfl)
  · exact Or.inr (Nat.le_refl _)
  · cases hk
  · simp at hk
/-- A key's entry is turned. -/
def entSet (ent : Nat → DueP) (b : Nat) (d : DueP) : Nat → DueP := fun c => if c = b then d else ent c
theorem map_entSet {ent : Nat → DueP} {bs : List Nat} {b : Nat} {d : DueP} (h : b ∉ bs) : bs.map (entSet ent b d) = bs.map ent := by
  refine List.map_congr_left fun c hc => ?_
  unfold entSet; rw [if_neg (fun e => h (by rw [← e]; exact hc))]
theorem dropD_perm {l l' : List DueP} (k : ByteArray) (h : l.Perm l') : (dropD k l).Perm (dropD k l') := h.filter _
section
variable {w w' : World} {base xa mb : Nat} {v : Value} {bs : List Nat} {ent : Nat → DueP} {m : List (ByteArray × Nat)} {l : List DueP}
theorem ExpR.rest (h : ExpR w base xa mb v bs ent m l) {b : Nat} (hb : b ∈ bs) : dropD (ent b).2 (bs.map ent) = (bs.erase b).map ent := by
  have hin := fun c (hc : c ∈ bs) (e : (ent c).2 = (ent b).2) => h.inj hc hb e
  have nd := h.heap.row.nd
  clear h
  induction bs with
  | nil => simp at hb
  | cons a r ih =>
    obtain ⟨n1, n2⟩ := List.nodup_cons.1 nd
    by_cases e : a = b
    · subst e
      rw [List.erase_cons_head, List.map_cons]
      have : dropD (ent a).2 (ent a :: r.map ent) = dropD (ent a).2 (r.map ent) := by unfold dropD; simp
      rw [this]
      refine dropD_none fun hm => ?_
      obtain ⟨d, hd, e2⟩ := List.mem_map.1 hm
      obtain ⟨c, hc, e3⟩ := List.mem_map.1 hd
      have := hin c (by simp [hc]) (by rw [e3, e2])
      exact n1 (this ▸ hc)
    · have hbr : b ∈ r := by rcases List.mem_cons.1 hb with h | h; exact absurd h.symm e; exact h
      have hne : (ent a).2 ≠ (ent b).2 := fun e2 => e (hin a (by simp) e2)
      rw [List.erase_cons_tail (by simpa using e), List.map_cons, List.map_cons]
      have : dropD (ent b).2 (ent a :: r.map ent) = ent a :: dropD (ent b).2 (r.map ent) := by unfold dropD; simp [hne]
      rw [this, ih hbr (fun c hc => hin c (by simp [hc])) n2]
theorem erase_map_entSet {ent : Nat → DueP} {bs : List Nat} {b : Nat} {d : DueP} (nd : bs.Nodup) : (bs.erase b).map (entSet ent b d) = (bs.erase b).map ent := map_entSet (fun hm => by
  have := (List.Nodup.mem_erase_iff nd).1 hm; exact this.1 rfl)
/-- A key's time is set anew. -/
theorem ExpR.turned (h : ExpR w base xa mb v bs ent m l) {b : Nat} {bs' : List Nat} {key : ByteArray} {t : Int} (hk : aget m key = some b) (h' : HeapM w' base xa (.map (some mb)) v bs' (entSet ent b (t, key))) (hp : bs'.Perm bs) (hm : MapAt strEnc w' mb (pm m)) :
    ExpR w' base xa mb v bs' (entSet ent b (t, key)) m (putD key t l) := by
  obtain ⟨h1, h2⟩ := (h.mem key b).1 hk
  have k2 : ∀ c, (entSet ent b (t, key) c).2 = (ent c).2 := fun c => by
    unfold entSet; split
    · next e => rw [e, h2]
    · rfl
  refine ⟨h', hm, h.mnd, fun k c => by rw [k2, hp.mem_iff]; exact h.mem k c, putD_rise h.rise key t, ?_⟩
  have p1 : (bs'.map (entSet ent b (t, key))).Perm ((b :: bs.erase b).map (entSet ent b (t, key))) := (hp.trans (List.perm_cons_erase h1)).map _
  have e1 : (b :: bs.erase b).map (entSet ent b (t, key)) = (t, key) :: (bs.erase b).map ent := by
    rw [List.map_cons, erase_map_entSet h.heap.row.nd]; unfold entSet; rw [if_pos rfl]
  rw [e1, ← h.rest h1, h2] at p1
  exact p1.trans (((dropD_perm key h.perm).cons _).trans (putD_perm l key t).symm)
/-- A key has come. -/
theorem ExpR.came (h : ExpR w base xa mb v bs ent m l) {b : Nat} {v' : Value} {bs' : List Nat} {key : ByteArray} {t : Int} (hk : aget m key = none) (hb : b ∉ bs) (h' : HeapM w' base xa (.map (some mb)) v' bs' (entSet ent b (t, key))) (hp : bs'.Perm (b :: bs)) (hm : MapAt strEnc w' mb (pm (aset m key b))) :
    ExpR w' base xa mb v' bs' (entSet ent b (t, key)) (aset m key b) (putD key t l) := by
  have hkl : key ∉ l.map (·.2) := by have := h.keyl key; rw [hk] at this; simpa using this
  refine ⟨h', hm, nodup_aset h.mnd key b, fun k c => ?_, putD_rise h.rise key t, ?_⟩
  · rw [aget_aset, hp.mem_iff, List.mem_cons]
    unfold entSet
    by_cases e : key = k
    · subst e
      rw [if_pos rfl]
      constructor
      · intro e; cases e; exact ⟨Or.inl rfl, by rw [if_pos rfl]⟩
      · rintro ⟨h1 | h1, h2⟩
        · rw [h1]
        · have hcb : ¬ c = b := fun e => hb (e ▸ h1)
          rw [if_neg hcb] at h2
          have := (h.mem key c).2 ⟨h1, h2⟩
          rw [hk] at this; cases this
    · rw [if_neg e, h.mem k c]
      constructor
      · rintro ⟨h1, h2⟩
        have hcb : ¬ c = b := fun e => hb (e ▸ h1)
        exact ⟨Or.inr h1, by rw [if_neg hcb]; exact h2⟩
      · rintro ⟨h1 | h1, h2⟩
        · rw [if_pos h1] at h2; exact absurd h2 e
        · have hcb : ¬ c = b := fun e => hb (e ▸ h1)
          rw [if_neg hcb] at h2; exact ⟨h1, h2⟩
  · have p1 := hp.map (entSet ent b (t, key))
    rw [List.map_cons, map_entSet hb, show entSet ent b (t, key) b = (t, key) by unfold entSet; rw [if_pos rfl]] at p1
    refine p1.trans ((h.perm.cons _).trans ?_)
    have := putD_perm l key t
    rw [dropD_none hkl] at this
    exact this.symm
/-- A key has gone. -/
theorem ExpR.went (h : ExpR w base xa mb v bs ent m l) {b : Nat} {v' : Value} {bs' : List Nat} {key : ByteArray} (hk : aget m key = some b) (h' : HeapM w' base xa (.map (some mb)) v' bs' ent) (hp : (b :: bs').Perm bs) (hm : MapAt strEnc w' mb (pm (adel m key))) :
    ExpR w' base xa mb v' bs' ent (adel m key) (dropD key l) := by
  obtain ⟨h1, h2⟩ := (h.mem key b).1 hk
  have pe : bs'.Perm (bs.erase b) := by
    have := (hp.trans (List.perm_cons_erase h1)); exact this.cons_inv
  have hmm : ∀ c, c ∈ bs' ↔ c ∈ bs ∧ c ≠ b := fun c => by
    rw [pe.mem_iff, List.Nodup.mem_erase_iff h.heap.row.nd]; exact And.comm
  refine ⟨h', hm, nodup_adel h.mnd key, fun k c => ?_, dropD_rise h.rise key, ?_⟩
  · rw [aget_adel h.mnd, hmm]
    by_cases e : key = k
    · subst e
      rw [if_pos rfl]
      constructor
      · intro e; cases e
      · rintro ⟨⟨h3, h4⟩, h5⟩; exact absurd (h.inj h3 h1 (by rw [h5, h2])) h4
    · rw [if_neg e, h.mem k c]
      constructor
      · rintro ⟨h3, h4⟩; exact ⟨⟨h3, fun e2 => e (by rw [← h4, e2, h2])⟩, h4⟩
      · rintro ⟨⟨h3, _⟩, h4⟩; exact ⟨h3, h4⟩
  · have p1 := pe.map ent
    rw [← h.rest h1, h2] at p1
    exact p1.trans (dropD_perm key h.perm)
end
end Go.Proofs.Ytokkhddbdjflhaa
