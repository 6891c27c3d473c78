/- Expiry in memory; walks: New, Clear, Len, Get, Next. -/
import Derived.Test.YtcdihffcncaibaaDoorK10
import Derived.Test.YtcdihffcncaibaaDoorK02
import Derived.Deep.RegionWith
import Derived.Test.YtcdihffcncaibaaDoorK05
import Derived.Test.YtcdihffcncaibaaDoorK01
import Derived.Deep.Upon
import Derived.Test.YtcdihffcncaibaaDoorChecked
import Derived.Lib.LaidTab
import Derived.Lib.ItoaNum
set_option linter.unusedVariables false
set_option linter.unusedSimpArgs false
namespace Go.Proofs.YtcdihffcncaibaaDoor
open Go.RowKit

/-- In block xa lies when keys end: the entries bs, in a heap's order, and the map m of their keys; in order they are l. -/
structure ExpR (w : World) (base xa mb : Nat) (v : Value) (bs : List Nat) (ent : Nat → DueP) (m : List (ByteArray × Nat)) (l : List DueP) : Prop where
  heap : HeapM w base xa (.map (some mb)) v bs ent
  map : MapAt strEnc w mb (pm m)
  mnd : (akeys m).Nodup
  mem : ∀ k b, aget m k = some b ↔ b ∈ bs ∧ (ent b).2 = k
  rise : Rise l
  perm : (bs.map ent).Perm l
def expF (xa mb : Nat) (v : Value) (bs : List Nat) : Nat → Prop := fun k => k = xa ∨ k = mb ∨ rowF v bs k
def ExpAt (w : World) (base xa : Nat) (l : List DueP) (E : Nat → Prop) : Prop := ∃ mb v bs ent m, ExpR w base xa mb v bs ent m l ∧ E = expF xa mb v bs
/-- From one state to the next. -/
def ExpTo (w w' : World) (base xa : Nat) (E : Nat → Prop) (l' : List DueP) : Prop := ∃ E', ExpAt w' base xa l' E' ∧ Upd E w w' ∧ FromF E E' w
section
variable {w w' : World} {base xa mb : Nat} {v : Value} {bs : List Nat} {ent : Nat → DueP} {m : List (ByteArray × Nat)} {l : List DueP} {E : Nat → Prop}
theorem RowM.rowlt (h : RowM w base xa (.map (some mb)) v bs ent) : ∀ k, rowF v bs k → k < w.heap.size := by
  rintro k (hk | hk)
  · exact (World.ownsRow.lt h.own k hk).2
  · obtain ⟨i, hi⟩ := List.mem_iff_getElem?.1 hk
    exact (h.at_ i k hi).lt
theorem ExpR.lt (h : ExpR w base xa mb v bs ent m l) : ∀ k, expF xa mb v bs k → k < w.heap.size := by
  rintro k (rfl | rfl | hk)
  · exact h.heap.row.x.lt
  · exact h.map.lt
  · exact h.heap.row.rowlt k hk
theorem ExpR.keep {F : Nat → Prop} (h : ExpR w base xa mb v bs ent m l) (u : Upd F w w') (hF : ∀ k, expF xa mb v bs k → ¬ F k) : ExpR w' base xa mb v bs ent m l :=
  ⟨⟨h.heap.row.keep u (hF _ (Or.inl rfl)) (fun k hk => hF k (Or.inr (Or.inr hk))), h.heap.heap⟩, h.map.keep u (hF _ (Or.inr (Or.inl rfl))), h.mnd, h.mem, h.rise, h.perm⟩
theorem ExpAt.lt (h : ExpAt w base xa l E) : ∀ k, E k → k < w.heap.size := by
  obtain ⟨mb, v, bs, ent, m, h, rfl⟩ := h; exact h.lt
theorem ExpAt.keep {F : Nat → Prop} (h : ExpAt w base xa l E) (u : Upd F w w') (hF : ∀ k, E k → ¬ F k) : ExpAt w' base xa l E := by
  obtain ⟨mb, v, bs, ent, m, h, rfl⟩ := h; exact ⟨mb, v, bs, ent, m, h.keep u hF, rfl⟩
theorem ExpAt.rise (h : ExpAt w base xa l E) : Rise l := by
  obtain ⟨mb, v, bs, ent, m, h, rfl⟩ := h; exact h.rise
theorem ExpR.mx (h : ExpR w base xa mb v bs ent m l) : mb ≠ xa := h.map.notCells h.heap.row.x
theorem ExpR.mbs (h : ExpR w base xa mb v bs ent m l) : mb ∉ bs := fun hm => by
  obtain ⟨i, hi⟩ := List.mem_iff_getElem?.1 hm
  exact h.map.notCells (h.heap.row.at_ i mb hi) rfl
theorem ExpR.mv (h : ExpR w base xa mb v bs ent m l) : v.ownBlock ≠ some mb := fun e => by
  rcases h.heap.row.own.2 with ⟨ev, _⟩ | ⟨g, cap, cur, ev, _, hh, _⟩
  · rw [ev] at e; cases e
  · rw [ev] at e; cases e; exact h.map.notCells hh rfl
theorem ExpR.inj (h : ExpR w base xa mb v bs ent m l) {b c : Nat} (hb : b ∈ bs) (hc : c ∈ bs) (e : (ent b).2 = (ent c).2) : b = c := by
  have h1 := (h.mem (ent b).2 b).2 ⟨hb, rfl⟩
  have h2 := (h.mem (ent b).2 c).2 ⟨hc, e.symm⟩
  rw [h1] at h2; exact Option.some.inj h2
theorem ExpR.llen (h : ExpR w base xa mb v bs ent m l) : bs.length = l.length := by rw [← h.perm.length_eq]; simp
theorem ExpR.keyl (h : ExpR w base xa mb v bs ent m l) (k : ByteArray) : (aget m k).isSome = decide (k ∈ l.map (·.2)) := by
  rw [Bool.eq_iff_iff, decide_eq_true_eq, List.mem_map]
  constructor
  · intro hs
    obtain ⟨b, hb⟩ := Option.isSome_iff_exists.1 hs
    obtain ⟨h1, h2⟩ := (h.mem k b).1 hb
    exact ⟨ent b, h.perm.mem_iff.1 (List.mem_map.2 ⟨b, h1, rfl⟩), h2⟩
  · rintro ⟨d, hd, e⟩
    obtain ⟨b, hb, e2⟩ := List.mem_map.1 (h.perm.mem_iff.2 hd)
    rw [(h.mem k b).2 ⟨hb, by rw [e2]; exact e⟩]; rfl
theorem ExpR.mlen (h : ExpR w base xa mb v bs ent m l) : m.length = bs.length := by
  have hn : (bs.map fun b => (ent b).2).Nodup := by
    have := h.heap.row.nd
    rw [List.nodup_iff_pairwise_ne, List.pairwise_map]
    refine List.Pairwise.imp_of_mem (fun {a b} ha hb hab e => hab (h.inj ha hb e)) (List.nodup_iff_pairwise_ne.1 this)
  have := List.Perm.length_eq ((List.perm_ext_iff_of_nodup h.mnd hn).2 fun k => by
    rw [List.mem_map]
    constructor
    · intro hk
      cases e : aget m k with
      | none => exact absurd hk (aget_none.1 e)
      | some b => obtain ⟨h1, h2⟩ := (h.mem k b).1 e; exact ⟨b, h1, h2⟩
    · rintro ⟨b, hb, e⟩
      have := (h.mem k b).2 ⟨hb, e⟩
      exact Decidable.not_not.1 fun hh => by rw [aget_none.2 hh] at this; cases this)
  simpa [akeys] using this
theorem zeroE (w : World) : (zeroValue 95).run Tryd.prog w = .ok (.pointer none) w := by kernel_rfl
theorem ExpR.look (h : ExpR w base xa mb v bs ent m l) (key : ByteArray) (co : Bool) :
    (Instr.lookup 75 (.map (some mb)) (.string key) co).run Tryd.prog w = .ok (if co then .tuple #[lv (aget m key), .bool (aget m key).isSome] else lv (aget m key)) w := by
  have := h.map.look keyS Tryd.underlying75 (zeroE w) key co
  refine Eq.trans this ?_
  rw [pm_get]
  cases aget m key <;> rfl
/-- The first one in a heap's order is the first one in order. -/
theorem heap_first {mv : Value} (h : HeapM w base xa mv v bs ent) (hr : Rise l) (hp : (bs.map ent).Perm l) {b : Nat} (hb : bs[0]? = some b) : l.head? = some (ent b) := by
  have hall : ∀ c ∈ bs, leD (ent b) (ent c) := fun c hc => by
    obtain ⟨k, hk⟩ := List.mem_iff_getElem?.1 hc
    have := Pq.Heap.first leD_refl leD_trans h.heap k (List.getElem?_eq_some_iff.1 hk).1
    rw [eo_at hb, eo_at hk] at this; exact this
  have hm : ent b ∈ l := hp.mem_iff.1 (List.mem_map.2 ⟨b, List.mem_of_getElem? hb, rfl⟩)
  cases hl : l with
  | nil => rw [hl] at hm; simp at hm
  | cons d r =>
    rw [hl] at hr hm
    obtain ⟨c, hc, e⟩ := List.mem_map.1 (hp.mem_iff.2 (show d ∈ l by rw [hl]; simp))
    have h1 := hall c hc
    rw [e] at h1
    rcases List.mem_cons.1 hm with e2 | e2
    · rw [e2]; rfl
    · exact absurd ((List.pairwise_cons.1 hr).1 _ e2) h1
theorem ExpR.first (h : ExpR w base xa mb v bs ent m l) {b : Nat} (hb : bs[0]? = some b) : l.head? = some (ent b) := heap_first h.heap h.rise h.perm hb
/-- The same entries, in another order. -/
theorem ExpR.re {v' : Value} {bs' : List Nat} (h : ExpR w base xa mb v bs ent m l) (h' : HeapM w' base xa (.map (some mb)) v' bs' ent) (hp : bs'.Perm bs) (hm : MapAt strEnc w' mb (pm m)) : ExpR w' base xa mb v' bs' ent m l :=
  ⟨h', hm, h.mnd, fun k b => by rw [hp.mem_iff]; exact h.mem k b, h.rise, (hp.map ent).trans h.perm⟩
/-- Rows of another type lie apart. -/
theorem ExpR.apart (h : ExpR w base xa mb v bs ent m l) {k : Nat} {cs : Array Value} {T : TypeId} (hk : w.heap[k]? = some (.cells cs T (0, 0))) (h1 : T ≠ 79) (h2 : T ≠ 95) (h3 : T ≠ 102) : ¬ expF xa mb v bs k := by
  rintro (rfl | rfl | hh | hh)
  · have := h.heap.row.x; unfold Blk at this; rw [hk] at this; simp at this; exact h1 this.2
  · exact h.map.notCells hk rfl
  · rcases h.heap.row.own.2 with ⟨ev, _⟩ | ⟨g, cap, cur, ev, _, hg, _⟩
    · rw [ev] at hh; cases hh
    · rw [ev] at hh; cases hh; rw [hk] at hg; simp at hg; exact h2 hg.2
  · obtain ⟨i, hi⟩ := List.mem_iff_getElem?.1 hh
    have := h.heap.row.at_ i k hi; unfold Blk at this; rw [hk] at this; simp at this; exact h3 this.2
theorem own_cells {w : World} {base n size : Nat} {e : TypeId} {v : Value} {xs : List Value} (h : w.ownsRow base e size v n xs) {k : Nat} (hk : v.ownBlock = some k) : ∃ cs, w.heap[k]? = some (.cells cs e (0, 0)) := by
  rcases h.2 with ⟨ev, _⟩ | ⟨g, cap, cur, ev, _, hg, _⟩
  · rw [ev] at hk; cases hk
  · rw [ev] at hk; cases hk; exact ⟨_, hg⟩
theorem ExpAt.apart {size n b0 : Nat} {T : TypeId} {x : Value} {xs : List Value} (h : ExpAt w base xa l E) (hx : w.ownsRow b0 T size x n xs) (h1 : T ≠ 79) (h2 : T ≠ 95) (h3 : T ≠ 102) : ∀ k, x.ownBlock = some k → ¬ E k := by
  obtain ⟨mb, v, bs, ent, m, h, rfl⟩ := h
  intro k hk
  obtain ⟨cs, hc⟩ := own_cells hx hk
  exact h.apart hc h1 h2 h3
end

def newW (w : World) : World := (w.alloc (.map #[] 0)).alloc (.cells #[.slice none 0 0, .map (some w.heap.size)] 79)
set_option maxHeartbeats 1000000 in
theorem xnew_raw (w : World) :
    Calls Tryd.prog 15 #[] w fun e w' => e = .returned (.pointer (some ⟨w.heap.size + 1, 0, none⟩)) ∧ w' = newW w := by
  have mk := run_makeMap (P := Tryd.prog) 75 w
  unfold newW
  go_enter Tryd.func15, Tryd.ntmps15
  go_wp2
  go_ret
  exact ⟨rfl, rfl⟩
/-- What is empty. -/
theorem expR_nil {w : World} {base xa mb : Nat} (hx : Blk w xa [.slice none 0 0, .map (some mb)] 79) (hm : MapAt strEnc w mb []) : ExpR w base xa mb (.slice none 0 0) [] (fun _ => (0, ByteArray.empty)) [] [] :=
  ⟨⟨⟨hx, World.ownsRow_nil _ _ _ _, fun i b hb => by simp at hb, List.nodup_nil, by simp, by simp [Value.ownBlock], fun k hk => by cases hk⟩, fun k _ hk => by simp at hk⟩, hm, List.nodup_nil, fun k b => by simp [aget], List.Pairwise.nil, List.Perm.refl _⟩
theorem newW_blk (w : World) : Blk (newW w) (w.heap.size + 1) [.slice none 0 0, .map (some w.heap.size)] 79 := by
  have := Blk.made (w.alloc (.map #[] 0)) [.slice none 0 0, .map (some w.heap.size)] 79
  unfold newW
  simpa using this
theorem newW_map (w : World) : MapAt strEnc (newW w) w.heap.size [] := (MapAt.made (enc := strEnc) w).keep ((Upd.refl (fun _ => False) _).alloc (.cells #[.slice none 0 0, .map (some w.heap.size)] 79)) (fun h => h)
theorem newW_upd (w : World) : Upd (fun _ => False) w (newW w) := ((Upd.refl _ w).alloc _).alloc _
theorem xnew_any (w : World) (base : Nat) :
    Calls Tryd.prog 15 #[] w fun e w' => ∃ xa E, e = .returned (.pointer (some ⟨xa, 0, none⟩)) ∧ ExpAt w' base xa [] E ∧ Upd (fun _ => False) w w' ∧ (∀ k, E k → w.heap.size ≤ k) := by
  refine (xnew_raw w).mono ?_
  rintro e w' ⟨rfl, rfl⟩
  refine ⟨w.heap.size + 1, _, rfl, ⟨w.heap.size, _, [], _, [], expR_nil (newW_blk w) (newW_map w), rfl⟩, newW_upd w, fun k hk => ?_⟩
  rcases hk with rfl | rfl | hk | hk
  · omega
  · omega
  · cases hk
  · simp at hk
theorem xlen_any (w : World) (base xa : Nat) (l : List DueP) (E : Nat → Prop) (h : ExpAt w base xa l E) (hl : l.length ≤ 1000000) :
    Calls Tryd.prog 103 #[.pointer (some ⟨xa, 0, none⟩)] w fun e w' => e = .returned (.int .i64 (l.length : Int)) ∧ w' = w := by
  obtain ⟨mb, v, bs, ent, m, h, rfl⟩ := h
  have c1 := h.heap.row.x.cellAt (i := 1) rfl
  have el : (pm m).length = l.length := by rw [pm_len, h.mlen, h.llen]
  have ln := h.map.len 3 Tryd.underlying75 (by omega)
  rw [el] at ln
  clear h el
  go_enter Tryd.func103, Tryd.ntmps103
  go_wp2
  go_ret
  exact ⟨rfl, rfl⟩
/-- When a key ends, as the program says it. -/
def getV (l : List DueP) (k : ByteArray) : Int × Bool := match l.find? fun d => decide (d.2 = k) with
  | some d => (d.1, true)
  | none => (0, false)
theorem ExpR.getV {w : World} {base xa mb : Nat} {v : Value} {bs : List Nat} {ent : Nat → DueP} {m : List (ByteArray × Nat)} {l : List DueP} (h : ExpR w base xa mb v bs ent m l) (key : ByteArray) : getV l key = match aget m key with | some b => ((ent b).1, true) | none => (0, false) := by
  unfold YtcdihffcncaibaaDoor.getV
  cases e : aget m key with
  | none =>
    have : l.find? (fun d => decide (d.2 = key)) = none := List.find?_eq_none.2 fun d hd hk => by
      have h2 := h.keyl key
      rw [e] at h2
      simp at hk
      have h3 : key ∈ l.map (·.2) := List.mem_map.2 ⟨d, hd, hk⟩
      simp [h3] at h2
    rw [this]
  | some b =>
    obtain ⟨h1, h2⟩ := (h.mem key b).1 e
    have hm : ent b ∈ l := h.perm.mem_iff.1 (List.mem_map.2 ⟨b, h1, rfl⟩)
    cases hf : l.find? (fun d => decide (d.2 = key)) with
    | none => have := List.find?_eq_none.1 hf _ hm; simp [h2] at this
    | some d =>
      have hd := List.find?_some hf
      have hd2 := List.mem_of_find?_eq_some hf
      simp at hd
      obtain ⟨c, hc, e2⟩ := List.mem_map.1 (h.perm.mem_iff.2 hd2)
      have := h.inj hc h1 (by rw [e2, hd, h2])
      rw [← e2, this]
theorem xget_any (w : World) (base xa : Nat) (l : List DueP) (E : Nat → Prop) (key : ByteArray) (h : ExpAt w base xa l E) :
    Calls Tryd.prog 27 #[.pointer (some ⟨xa, 0, none⟩), .string key] w fun e w' => e = .returned (.tuple #[.int .i64 (getV l key).1, .bool (getV l key).2]) ∧ w' = w := by
  obtain ⟨mb, v, bs, ent, m, h, rfl⟩ := h
  have c1 := h.heap.row.x.cellAt (i := 1) rfl
  have lk := h.look key true
  rw [h.getV key]
  simp only [if_true] at lk
  unfold lv at lk
  cases e : aget m key with
  | none =>
    rw [e] at lk
    clear e h
    simp only [Option.map_none, Option.isSome_none] at lk
    go_enter Tryd.func27, Tryd.ntmps27
    go_wp2
    go_ret2
    exact ⟨rfl, rfl⟩
  | some b =>
    rw [e] at lk
    obtain ⟨h1, h2⟩ := (h.mem key b).1 e
    obtain ⟨i, hi⟩ := List.mem_iff_getElem?.1 h1
    have d0 := (h.heap.row.at_ i b hi).cellAt (i := 0) rfl
    clear e h h1 h2 hi
    simp only [Option.map_some, Option.isSome_some] at lk
    go_enter Tryd.func27, Tryd.ntmps27
    go_wp2
    go_ret2
    exact ⟨rfl, rfl⟩
end Go.Proofs.YtcdihffcncaibaaDoor
/- Walks: expiry's Next, Clear, Put, Drop. -/
set_option linter.unusedVariables false
set_option linter.unusedSimpArgs false
namespace Go.Proofs.YtcdihffcncaibaaDoor
open Go.RowKit

def dueV (o : Option DueP) : Value := match o with | some d => .agg #[.int .i64 d.1, .string d.2] | none => .agg #[.int .i64 0, .string ByteArray.empty]
/-- A key's entry is turned. -/
def entSet (ent : Nat → DueP) (b : Nat) (d : DueP) : Nat → DueP := fun c => if c = b then d else ent c
theorem map_entSet {ent : Nat → DueP} {bs : List Nat} {b : Nat} {d : DueP} (h : b ∉ bs) : bs.map (entSet ent b d) = bs.map ent := by
  refine List.map_congr_left fun c hc => ?_
  unfold entSet; rw [if_neg (fun e => h (by rw [← e]; exact hc))]
theorem dropD_perm {l l' : List DueP} (k : ByteArray) (h : l.Perm l') : (dropD k l).Perm (dropD k l') := h.filter _
section
variable {w w' : World} {base xa mb : Nat} {v : Value} {bs : List Nat} {ent : Nat → DueP} {m : List (ByteArray × Nat)} {l : List DueP}
theorem ExpR.rest (h : ExpR w base xa mb v bs ent m l) {b : Nat} (hb : b ∈ bs) : dropD (ent b).2 (bs.map ent) = (bs.erase b).map ent := by
  have hin := fun c (hc : c ∈ bs) (e : (ent c).2 = (ent b).2) => h.inj hc hb e
  have nd := h.heap.row.nd
  clear h
  induction bs with
  | nil => simp at hb
  | cons a r ih =>
    obtain ⟨n1, n2⟩ := List.nodup_cons.1 nd
    by_cases e : a = b
    · subst e
      rw [List.erase_cons_head, List.map_cons]
      have : dropD (ent a).2 (ent a :: r.map ent) = dropD (ent a).2 (r.map ent) := by unfold dropD; simp
      rw [this]
      refine dropD_none fun hm => ?_
      obtain ⟨d, hd, e2⟩ := List.mem_map.1 hm
      obtain ⟨c, hc, e3⟩ := List.mem_map.1 hd
      have := hin c (by simp [hc]) (by rw [e3, e2])
      exact n1 (this ▸ hc)
    · have hbr : b ∈ r := by rcases List.mem_cons.1 hb with h | h; exact absurd h.symm e; exact h
      have hne : (ent a).2 ≠ (ent b).2 := fun e2 => e (hin a (by simp) e2)
      rw [List.erase_cons_tail (by simpa using e), List.map_cons, List.map_cons]
      have : dropD (ent b).2 (ent a :: r.map ent) = ent a :: dropD (ent b).2 (r.map ent) := by unfold dropD; simp [hne]
      rw [this, ih hbr (fun c hc => hin c (by simp [hc])) n2]
theorem erase_map_entSet {ent : Nat → DueP} {bs : List Nat} {b : Nat} {d : DueP} (nd : bs.Nodup) : (bs.erase b).map (entSet ent b d) = (bs.erase b).map ent := map_entSet (fun hm => by
  have := (List.Nodup.mem_erase_iff nd).1 hm; exact this.1 rfl)
/-- A key's time is set anew. -/
theorem ExpR.turned (h : ExpR w base xa mb v bs ent m l) {b : Nat} {bs' : List Nat} {key : ByteArray} {t : Int} (hk : aget m key = some b) (h' : HeapM w' base xa (.map (some mb)) v bs' (entSet ent b (t, key))) (hp : bs'.Perm bs) (hm : MapAt strEnc w' mb (pm m)) :
    ExpR w' base xa mb v bs' (entSet ent b (t, key)) m (putD key t l) := by
  obtain ⟨h1, h2⟩ := (h.mem key b).1 hk
  have k2 : ∀ c, (entSet ent b (t, key) c).2 = (ent c).2 := fun c => by
    unfold entSet; split
    · next e => rw [e, h2]
    · rfl
  refine ⟨h', hm, h.mnd, fun k c => by rw [k2, hp.mem_iff]; exact h.mem k c, putD_rise h.rise key t, ?_⟩
  have p1 : (bs'.map (entSet ent b (t, key))).Perm ((b :: bs.erase b).map (entSet ent b (t, key))) := (hp.trans (List.perm_cons_erase h1)).map _
  have e1 : (b :: bs.erase b).map (entSet ent b (t, key)) = (t, key) :: (bs.erase b).map ent := by
    rw [List.map_cons, erase_map_entSet h.heap.row.nd]; unfold entSet; rw [if_pos rfl]
  rw [e1, ← h.rest h1, h2] at p1
  exact p1.trans (((dropD_perm key h.perm).cons _).trans (putD_perm l key t).symm)
/-- A key has come. -/
theorem ExpR.came (h : ExpR w base xa mb v bs ent m l) {b : Nat} {v' : Value} {bs' : List Nat} {key : ByteArray} {t : Int} (hk : aget m key = none) (hb : b ∉ bs) (h' : HeapM w' base xa (.map (some mb)) v' bs' (entSet ent b (t, key))) (hp : bs'.Perm (b :: bs)) (hm : MapAt strEnc w' mb (pm (aset m key b))) :
    ExpR w' base xa mb v' bs' (entSet ent b (t, key)) (aset m key b) (putD key t l) := by
  have hkl : key ∉ l.map (·.2) := by have := h.keyl key; rw [hk] at this; simpa using this
  refine ⟨h', hm, nodup_aset h.mnd key b, fun k c => ?_, putD_rise h.rise key t, ?_⟩
  · rw [aget_aset, hp.mem_iff, List.mem_cons]
    unfold entSet
    by_cases e : key = k
    · subst e
      rw [if_pos rfl]
      constructor
      · intro e; cases e; exact ⟨Or.inl rfl, by rw [if_pos rfl]⟩
      · rintro ⟨h1 | h1, h2⟩
        · rw [h1]
        · have hcb : ¬ c = b := fun e => hb (e ▸ h1)
          rw [if_neg hcb] at h2
          have := (h.mem key c).2 ⟨h1, h2⟩
          rw [hk] at this; cases this
    · rw [if_neg e, h.mem k c]
      constructor
      · rintro ⟨h1, h2⟩
        have hcb : ¬ c = b := fun e => hb (e ▸ h1)
        exact ⟨Or.inr h1, by rw [if_neg hcb]; exact h2⟩
      · rintro ⟨h1 | h1, h2⟩
        · rw [if_pos h1] at h2; exact absurd h2 e
        · have hcb : ¬ c = b := fun e => hb (e ▸ h1)
          rw [if_neg hcb] at h2; exact ⟨h1, h2⟩
  · have p1 := hp.map (entSet ent b (t, key))
    rw [List.map_cons, map_entSet hb, show entSet ent b (t, key) b = (t, key) by unfold entSet; rw [if_pos rfl]] at p1
    refine p1.trans ((h.perm.cons _).trans ?_)
    have := putD_perm l key t
    rw [dropD_none hkl] at this
    exact this.symm
/-- A key has gone. -/
theorem ExpR.went (h : ExpR w base xa mb v bs ent m l) {b : Nat} {v' : Value} {bs' : List Nat} {key : ByteArray} (hk : aget m key = some b) (h' : HeapM w' base xa (.map (some mb)) v' bs' ent) (hp : (b :: bs').Perm bs) (hm : MapAt strEnc w' mb (pm (adel m key))) :
    ExpR w' base xa mb v' bs' ent (adel m key) (dropD key l) := by
  obtain ⟨h1, h2⟩ := (h.mem key b).1 hk
  have pe : bs'.Perm (bs.erase b) := by
    have := (hp.trans (List.perm_cons_erase h1)); exact this.cons_inv
  have hmm : ∀ c, c ∈ bs' ↔ c ∈ bs ∧ c ≠ b := fun c => by
    rw [pe.mem_iff, List.Nodup.mem_erase_iff h.heap.row.nd]; exact And.comm
  refine ⟨h', hm, nodup_adel h.mnd key, fun k c => ?_, dropD_rise h.rise key, ?_⟩
  · rw [aget_adel h.mnd, hmm]
    by_cases e : key = k
    · subst e
      rw [if_pos rfl]
      constructor
      · intro e; cases e
      · rintro ⟨⟨h3, h4⟩, h5⟩; exact absurd (h.inj h3 h1 (by rw [h5, h2])) h4
    · rw [if_neg e, h.mem k c]
      constructor
      · rintro ⟨h3, h4⟩; exact ⟨⟨h3, fun e2 => e (by rw [← h4, e2, h2])⟩, h4⟩
      · rintro ⟨⟨h3, _⟩, h4⟩; exact ⟨h3, h4⟩
  · have p1 := pe.map ent
    rw [← h.rest h1, h2] at p1
    exact p1.trans (dropD_perm key h.perm)
end
end Go.Proofs.YtcdihffcncaibaaDoor
/- Walks: expiry's Put, Drop. -/
set_option linter.unusedVariables false
set_option linter.unusedSimpArgs false
namespace Go.Proofs.YtcdihffcncaibaaDoor
open Go.RowKit

set_option maxHeartbeats 4000000 in
set_option maxRecDepth 100000 in
theorem xdrop_any (w : World) (base xa : Nat) (l : List DueP) (E : Nat → Prop) (key : ByteArray) (h : ExpAt w base xa l E) (hl : l.length ≤ 10000) :
    Calls Tryd.prog 23 #[.pointer (some ⟨xa, 0, none⟩), .string key] w fun e w' => e = .returned (.bool (decide (key ∈ l.map (·.2)))) ∧ ExpTo w w' base xa E (dropD key l) := by
  obtain ⟨mb, v, bs, ent, m, h, rfl⟩ := h
  have c1 := h.heap.row.x.cellAt (i := 1) rfl
  have lk := h.look key true
  simp only [if_true] at lk
  rw [← h.keyl key]
  unfold lv at lk
  have hbl := h.llen
  cases e : aget m key with
  | some b =>
    rw [e] at lk
    obtain ⟨hb, hk⟩ := (h.mem key b).1 e
    obtain ⟨i, hi⟩ := List.mem_iff_getElem?.1 hb
    have HE := Lib.hid e
    simp only [Option.map_some, Option.isSome_some] at lk ⊢
    have d2 := (h.heap.row.at_ i b hi).cellAt (i := 2) rfl
    have FX := Lib.hid (fun (w' : World) (u : Upd (fun _ => False) w w') => hremove_any base xa (.map (some mb)) v bs ent i b w' ⟨h.heap.row.keep0 u, h.heap.heap⟩ hi (by omega))
    have H := Lib.hid h
    unfold hv at FX
    clear h e hb hk hi hbl
    go_enter Tryd.func23, Tryd.ntmps23
    go_wp2
    go_region_with (go_at_call 43; refine (FX.out _ (by first | exact Upd.refl _ _ | exact (Upd.refl _ _).drew)).mono ?_; rintro e w3 ⟨v3, bs3, i3, rfl, h3, pm3, u3, o3, b3⟩; (have H3 := Lib.hid (And.intro h3 (And.intro pm3 (And.intro u3 o3)))); clear h3 pm3 u3 o3 b3)
    have M3 : Hid (MapAt strEnc w3 mb (pm m)) := H.out.map.keep (((Upd.refl _ w).drew).trans H3.out.2.2.1 (fun _ _ h => h)) (fun hk => by
      rcases hk with hk | hk | hk
      · exact H.out.mx hk
      · exact H.out.mv hk
      · exact H.out.mbs hk)
    have c3 := H3.out.1.row.x.cellAt (i := 1) rfl
    obtain ⟨w4, de, m4, u4⟩ := M3.out.del keyS Tryd.underlying75 key 0
    rw [pm_del] at m4
    unfold strEnc at de
    have M4 := Lib.hid m4
    have U4 := Lib.hid u4
    clear m4 u4
    go_wp2
    go_ret
    obtain ⟨h3, pm3, u3, o3⟩ := H3.out
    have hb3 : ∀ k, k ∈ bs3 → k ∈ bs := fun k hk => pm3.mem_iff.1 (List.mem_cons_of_mem _ hk)
    have hr : RowM w4 base xa (.map (some mb)) v3 bs3 ent := h3.row.keep U4.out (fun e => H.out.mx e.symm) (fun k hk e => by
      rcases hk with hk | hk
      · exact H.out.mv (by rw [← o3, ← e]; exact hk)
      · exact H.out.mbs (e ▸ hb3 k hk))
    refine ⟨rfl, _, ⟨mb, v3, bs3, ent, adel m key, H.out.went HE.out ⟨hr, h3.heap⟩ pm3 M4.out, rfl⟩, (((Upd.refl _ w).drew).trans (u3.weaken (F := expF xa mb v bs) (fun k _ hk => ?_)) (fun _ _ h => h)).trans U4.out (fun k _ e => Or.inr (Or.inl e)), fun k hk => Or.inl ?_⟩
    · rcases hk with hk | hk
      · exact Or.inl hk
      · exact Or.inr (Or.inr hk)
    · rcases hk with hk | hk | hk | hk
      · exact Or.inl hk
      · exact Or.inr (Or.inl hk)
      · exact Or.inr (Or.inr (Or.inl (by rw [← o3]; exact hk)))
      · exact Or.inr (Or.inr (Or.inr (hb3 k hk)))
  | none =>
    rw [e] at lk
    have HE := Lib.hid e
    simp only [Option.map_none, Option.isSome_none] at lk ⊢
    have hkl : key ∉ l.map (·.2) := by have := h.keyl key; rw [e] at this; simpa using this
    have H := Lib.hid h
    have HK := Lib.hid hkl
    clear h e hbl hkl
    go_enter Tryd.func23, Tryd.ntmps23
    go_wp2
    go_ret
    exact ⟨rfl, _, ⟨mb, v, bs, ent, m, by rw [dropD_none HK.out]; exact H.out, rfl⟩, Upd.refl _ _, FromF.refl _ _⟩
end Go.Proofs.YtcdihffcncaibaaDoor
/- Walk: expiry's Due. -/
set_option linter.unusedVariables false
set_option linter.unusedSimpArgs false
namespace Go.Proofs.YtcdihffcncaibaaDoor
open Go.RowKit

/-- Entries that were taken out. -/
def TakenAt (w : World) (base : Nat) (v : Value) (ts : List Nat) : Prop := w.ownsRow base 95 1 v ts.length (ts.map ptr)
def dueF (xa : Nat) (v : Value) (bs : List Nat) : Nat → Prop := fun k => k = xa ∨ rowF v bs k
theorem own_get {w : World} {base n : Nat} {e : TypeId} {v : Value} {xs : List Value} (h : w.ownsRow base e 1 v n xs) {j : Nat} {x : Value} (hj : xs[j]? = some x) : ∃ g cap, v = .slice (some ⟨g, 0, none⟩) n cap ∧ w.cell? ⟨g, j, none⟩ = some x ∧ g < w.heap.size ∧ base ≤ g := by
  obtain ⟨hl, ⟨_, e⟩ | ⟨b, cap, cs, e, h1, h2, h3, h4⟩⟩ := own_blk h
  · have := (List.getElem?_eq_some_iff.1 hj).1; omega
  · exact ⟨b, cap, e, h2.cellAt (by rw [List.getElem?_append_left (List.getElem?_eq_some_iff.1 hj).1]; exact hj), h2.lt, h1⟩
theorem HeapM.keepLow {w w' : World} {base xa B : Nat} {mv v : Value} {bs : List Nat} {ent : Nat → DueP} (h : HeapM w base xa mv v bs ent) (u : Upd (fun q => B ≤ q) w w') (hx : xa < B) (hv : ∀ k, rowF v bs k → k < B) : HeapM w' base xa mv v bs ent :=
  ⟨h.row.keep u (by omega) (fun k hk e => by have := hv k hk; omega), h.heap⟩
theorem take_succ_of {l : List DueP} {k : Nat} {d : DueP} (h : (l.drop k).head? = some d) : k < l.length ∧ l.take (k + 1) = l.take k ++ [d] ∧ l.drop k = d :: l.drop (k + 1) := by
  cases hl : l.drop k with
  | nil => rw [hl] at h; cases h
  | cons x r =>
    rw [hl] at h; cases h
    have hk : k < l.length := by
      have := congrArg List.length hl; simp at this; omega
    have e1 := List.drop_eq_getElem_cons hk
    rw [hl] at e1
    injection e1 with e1 e2
    refine ⟨hk, ?_, by rw [e2]⟩
    rw [List.take_succ_eq_append_getElem hk, ← e1]
/-- The last step: all that was taken out is put back. -/
def DueEnd (w : World) (base xa mb : Nat) (l : List DueP) (now most : Int) (E : Nat → Prop) (e : Ending) (w' : World) : Prop := ∃ v, e = .returned v ∧ StrsAt w' w.heap.size v (((dueD now l).take most.toNat).map (·.2)) ∧ ExpTo w w' base xa E l
end Go.Proofs.YtcdihffcncaibaaDoor
/- A slice of things of k cells each, that is only read. -/
set_option linter.unusedVariables false
set_option linter.unusedSimpArgs false
namespace Go.Proofs.YtcdihffcncaibaaDoor
open Go.RowKit

/-- v is a slice that reads as l, each thing by its k cells. -/
def RowOf {α : Type} (f : α → List Value) (k : Nat) (w : World) (v : Value) (l : List α) : Prop :=
  (∃ p cap, v = .slice p 0 cap ∧ l = []) ∨
  ∃ b off cap, v = .slice (some ⟨b, off, none⟩) l.length cap ∧ b < w.heap.size ∧ l.length ≤ maxLen ∧ ∀ i a, l[i]? = some a → ∀ j, j < k → w.cell? ⟨b, off + (i * k + j), none⟩ = (f a)[j]?

theorem RowOf.keep {α : Type} {f : α → List Value} {k : Nat} {w w' : World} {v : Value} {l : List α} (h : RowOf f k w v l) {F : Nat → Prop} (u : Upd F w w') (hd : ∀ b, b < w.heap.size → v.ownBlock = some b → ¬ F b) : RowOf f k w' v l := by
  rcases h with h | ⟨b, off, cap, rfl, hb, hl, hc⟩
  · exact Or.inl h
  · refine Or.inr ⟨b, off, cap, rfl, Nat.lt_of_lt_of_le hb u.size, hl, fun i a hi j hj => ?_⟩
    rw [u.cell (p := ⟨b, off + (i * k + j), none⟩) hb (hd b hb rfl)]
    exact hc i a hi j hj
theorem RowOf.len {α : Type} {f : α → List Value} {k : Nat} {w : World} {v : Value} {l : List α} (h : RowOf f k w v l) : ∃ p cap, v = .slice p l.length cap ∧ l.length ≤ maxLen := by
  rcases h with ⟨p, cap, rfl, rfl⟩ | ⟨b, off, cap, rfl, _, hl, _⟩
  · exact ⟨p, cap, rfl, by unfold maxLen; simp⟩
  · exact ⟨_, cap, rfl, hl⟩

def strc (s : ByteArray) : List Value := [.string s]
end Go.Proofs.YtcdihffcncaibaaDoor
/- Rows of structs of k cells each, of the call's own: read, append, store. -/
set_option linter.unusedVariables false
set_option linter.unusedSimpArgs false
namespace Go.Proofs.YtcdihffcncaibaaDoor
open Go.RowKit

section
variable {α : Type} {f : α → List Value} {k : Nat} {w w' : World} {base : Nat} {e : TypeId} {v : Value} {l : List α}
/-- v is a slice of the call's own, from block base on, that holds l, each thing by its k cells. -/
def OwnN (f : α → List Value) (k : Nat) (e : TypeId) (w : World) (base : Nat) (v : Value) (l : List α) : Prop := w.ownsRow base e k v l.length (flat f l)
theorem OwnN.keep {F : Nat → Prop} (h : OwnN f k e w base v l) (u : Upd F w w') (hd : ∀ b, v.ownBlock = some b → ¬ F b) : OwnN f k e w' base v l := own_keep h u hd
theorem OwnN.keep0 (h : OwnN f k e w base v l) (u : Upd (fun _ => False) w w') : OwnN f k e w' base v l := own_keep h u (fun _ _ h => h)
theorem OwnN.mono {b2 : Nat} (h : OwnN f k e w base v l) (hb : b2 ≤ base) : OwnN f k e w b2 v l := by
  refine ⟨h.1, h.2.imp id ?_⟩
  rintro ⟨g, cap, cur, a, b, c⟩
  exact ⟨g, cap, cur, a, Nat.le_trans hb b, c⟩
theorem OwnN.blk (h : OwnN f k e w base v l) : (v = .slice none 0 0 ∧ l = []) ∨ ∃ b cap cs, v = .slice (some ⟨b, 0, none⟩) l.length cap ∧ base ≤ b ∧ Blk w b (flat f l ++ cs) e ∧ l.length * k + cs.length = cap * k ∧ cap ≤ maxLen ∧ l.length ≤ cap := by
  obtain ⟨h0, ⟨rfl, e0⟩ | ⟨g, cap, cur, rfl, hg, hh, h1, h2, h3, h4⟩⟩ := h
  · exact Or.inl ⟨rfl, List.length_eq_zero_iff.1 e0⟩
  · refine Or.inr ⟨g, cap, cur.toList.drop (l.length * k), rfl, hg, ?_, ?_, h2, h1⟩
    · unfold Blk
      rw [← h4, List.take_append_drop]; exact hh
    · have : l.length * k ≤ cap * k := Nat.mul_le_mul_right _ h1
      simp; omega
theorem OwnN.lt (h : OwnN f k e w base v l) {b : Nat} (hb : v.ownBlock = some b) : base ≤ b ∧ b < w.heap.size ∧ ∃ cs, Blk w b cs e := by
  rcases h.blk with ⟨rfl, _⟩ | ⟨g, cap, cs, rfl, hg, hB, _⟩
  · cases hb
  · cases hb; exact ⟨hg, hB.lt, _, hB⟩
theorem OwnN.slice (h : OwnN f k e w base v l) : ∃ p c, v = .slice p l.length c ∧ l.length ≤ maxLen ∧ l.length ≤ c := by
  rcases h.blk with ⟨rfl, rfl⟩ | ⟨g, cap, cs, rfl, hg, hB, _, h1, h2⟩
  · exact ⟨_, _, rfl, by unfold maxLen; simp, by simp⟩
  · exact ⟨_, _, rfl, by omega, h2⟩
theorem OwnN.row (h : OwnN f k e w base v l) (hf : ∀ a, (f a).length = k) : RowOf f k w v l := by
  rcases h.blk with ⟨rfl, rfl⟩ | ⟨g, cap, cs, rfl, hg, hB, _, h1, h2⟩
  · exact Or.inl ⟨none, 0, rfl, rfl⟩
  · refine Or.inr ⟨g, 0, cap, rfl, hB.lt, by omega, fun i a hi j hj => ?_⟩
    have hil : i < l.length := (List.getElem?_eq_some_iff.1 hi).1
    have hlt : i * k + j < l.length * k := by
      have : (i + 1) * k ≤ l.length * k := Nat.mul_le_mul_right _ hil
      rw [Nat.add_mul] at this; omega
    rw [Nat.zero_add, hB.cell, List.getElem?_append_left (by rw [flat_length f k hf]; exact hlt), flat_get f k hf l i j hj, hi]; rfl
theorem OwnN.none : OwnN f k e w base (.slice none 0 0) ([] : List α) := ⟨by simp [flat], Or.inl ⟨rfl, rfl⟩⟩
theorem OwnN.ofBlk {b cap : Nat} {cs : List Value} (hb : base ≤ b) (hf : ∀ a, (f a).length = k) (h : Blk w b (flat f l ++ cs) e) (hc : l.length * k + cs.length = cap * k) (hm : cap ≤ maxLen) (hle : l.length ≤ cap) : OwnN f k e w base (.slice (some ⟨b, 0, Option.none⟩) l.length cap) l := by
  have hl := flat_length f k hf l
  exact ⟨hl, Or.inr ⟨b, cap, _, rfl, hb, h, hle, hm, by simp; omega, by rw [← hl]; simp⟩⟩
/-- An empty row, made. -/
theorem OwnN.made (w : World) (e : TypeId) : OwnN f k e (w.alloc (.cells #[] e)) w.heap.size (.slice (some ⟨w.heap.size, 0, Option.none⟩) 0 0) ([] : List α) :=
  ⟨by simp [flat], Or.inr ⟨w.heap.size, 0, _, rfl, Nat.le_refl _, by
    have := Blk.made w [] e; exact this, Nat.le_refl _, by unfold maxLen; omega, by simp, by simp [flat]⟩⟩
/-- A thing's cells in a block of their own: a row of one. -/
theorem RowOf.lit (w : World) (a : α) (cs : List Value) (e : TypeId) (hcs : f a = cs) (hk : cs.length = k) : RowOf f k (w.alloc (.cells cs.toArray e)) (.slice (some ⟨w.heap.size, 0, Option.none⟩) 1 1) [a] := by
  refine Or.inr ⟨w.heap.size, 0, 1, rfl, by simp, by unfold maxLen; simp, fun i x hi j hj => ?_⟩
  cases i with
  | zero =>
    simp at hi; subst hi
    rw [Nat.zero_mul, Nat.zero_add, Nat.zero_add, (Blk.made w cs e).cell, hcs]
  | succ i => simp at hi
/-- A cell of a thing is written. -/
theorem OwnN.set {g n c i j : Nat} {a b : α} {x : Value} (h : OwnN f k e w base (.slice (some ⟨g, 0, Option.none⟩) n c) l) (hf : ∀ a, (f a).length = k) (hj : j < k) (ha : l[i]? = some a) (hb : f b = (f a).set j x) :
    OwnN f k e (w.setCell ⟨g, i * k + j, Option.none⟩ x) base (.slice (some ⟨g, 0, Option.none⟩) n c) (l.set i b) := by
  rcases h.blk with ⟨e1, _⟩ | ⟨g', cap, cs, e1, hg, hB, h1, h2, h3⟩
  · cases e1
  · injection e1 with e1 e2 e3
    injection e1 with e1; injection e1 with e1
    subst e1 e3
    have hil : i < l.length := (List.getElem?_eq_some_iff.1 ha).1
    have hlt : i * k + j < l.length * k := by
      have : (i + 1) * k ≤ l.length * k := Nat.mul_le_mul_right _ hil
      rw [Nat.add_mul] at this; omega
    have hs := hB.set (i * k + j) x
    rw [List.set_append_left _ _ (by rw [flat_length f k hf]; exact hlt), flat_set f k hf l i j hj a b x ha hb] at hs
    have := OwnN.ofBlk (base := base) (cap := c) (l := l.set i b) hg hf hs (by rw [List.length_set]; exact h1) h2 (by rw [List.length_set]; exact h3)
    rw [List.length_set] at this
    rw [e2]; exact this
theorem OwnN.cell {g n c : Nat} (h : OwnN f k e w base (.slice (some ⟨g, 0, Option.none⟩) n c) l) (hf : ∀ a, (f a).length = k) {i j : Nat} {a : α} (hj : j < k) (ha : l[i]? = some a) : w.cell? ⟨g, i * k + j, Option.none⟩ = (f a)[j]? := by
  rcases h.row hf with ⟨_, _, _, e1⟩ | ⟨b, off, cap, e1, _, _, hc⟩
  · subst e1; simp at ha
  · have h0 := h.blk
    rcases h0 with ⟨e2, _⟩ | ⟨g', cap', cs, e2, hg, hB, h1, h2, h3⟩
    · cases e2
    · injection e2 with e2 e3 e4
      injection e2 with e2; injection e2 with e2
      subst e2
      have hil : i < l.length := (List.getElem?_eq_some_iff.1 ha).1
      have hlt : i * k + j < l.length * k := by
        have : (i + 1) * k ≤ l.length * k := Nat.mul_le_mul_right _ hil
        rw [Nat.add_mul] at this; omega
      rw [hB.cell, List.getElem?_append_left (by rw [flat_length f k hf]; exact hlt), flat_get f k hf l i j hj, ha]; rfl
/-- append(v, v2...): v of the call's own, v2 any row. -/
theorem OwnN.append {P : Program} {v2 : Value} {l2 : List α} (t ty : TypeId) (i : TypeInfo) (z : Value) (bytes : Nat) (ht : P.underlying t = some (.slice e)) (hi : P.info? e = some i) (hz : i.zero = some z)
    (hsize : i.size = k) (hby : i.bytes = bytes) (hzs : z.cells.size = k) (hk : 0 < k) (hf : ∀ a, (f a).length = k) (h1 : ∀ a ∈ l2, ∀ u ∈ f a, u.oneCell' = true)
    (h : OwnN f k e w base v l) (h2 : RowOf f k w v2 l2) (h63 : l.length + l2.length ≤ maxLen) (hbytes : (l.length + l2.length) * bytes ≤ 140737488355328) (hb : base ≤ w.heap.size) :
    ∃ v' w', (Builtin.append_ #[t, t] ty #[v, v2]).run P w = .ok v' w' ∧ OwnN f k e w' base v' (l ++ l2) ∧ Upd (fun b => v.ownBlock = some b) w w' ∧ NewOr v v' w := by
  have hfl := flat_length f k hf l2
  have e2 : flat f (l ++ l2) = flat f l ++ flat f l2 := by simp [flat]
  have ho : ∀ u ∈ flat f l2, u.oneCell' = true := by
    intro u hu
    unfold flat at hu
    obtain ⟨m, hml, hm⟩ := List.mem_flatMap.1 hu
    exact h1 m hml u hm
  by_cases h0 : l2 = []
  · subst h0
    obtain ⟨p, cp, rfl, _, hle⟩ := h.slice
    obtain ⟨a, c, rfl⟩ : ∃ a c, v2 = .slice a 0 c := by
      rcases h2 with ⟨a, c, e, _⟩ | ⟨b, off, cap, e, _⟩
      · exact ⟨_, _, e⟩
      · exact ⟨_, _, e⟩
    have hs : Src P i.size t (.slice a 0 c) 0 [] w := by
      cases a with
      | none => exact Src.ofNil w ht c
      | some a => exact Src.ofSlice w ht a 0 c [] (by simp) (fun j u h => by simp at h) (fun u h => by cases h)
    refine ⟨_, _, run_append_nothing (P := P) w t t ty e i ht hi p l.length cp hle _ hs, by simpa using h, Upd.refl _ _, fun k hk => Or.inl hk⟩
  · obtain ⟨b, off, c, rfl, hb2, _, hc⟩ : ∃ b off cap, v2 = .slice (some ⟨b, off, Option.none⟩) l2.length cap ∧ b < w.heap.size ∧ l2.length ≤ maxLen ∧ ∀ i a, l2[i]? = some a → ∀ j, j < k → w.cell? ⟨b, off + (i * k + j), Option.none⟩ = (f a)[j]? := by
      rcases h2 with ⟨_, _, _, e⟩ | h2
      · exact absurd e h0
      · exact h2
    have hn : ∀ j u, (flat f l2)[j]? = some u → w.cell? ((⟨b, off, Option.none⟩ : Addr).add j) = some u := by
      intro j u hj
      have hjl := (List.getElem?_eq_some_iff.1 hj).1
      rw [hfl] at hjl
      have hi : j / k < l2.length := (Nat.div_lt_iff_lt_mul hk).2 hjl
      have hmod := Nat.mod_lt j hk
      have h1 := hc (j / k) l2[j / k] (List.getElem?_eq_getElem hi) (j % k) hmod
      have h3 := flat_get f k hf l2 (j / k) (j % k) hmod
      have ej : j / k * k + j % k = j := Nat.div_add_mod' j k
      rw [ej] at h1 h3
      rw [hj, List.getElem?_eq_getElem hi] at h3
      have e : (⟨b, off, Option.none⟩ : Addr).add j = ⟨b, off + j, Option.none⟩ := by simp [Addr.add]
      rw [e, h1]; exact h3.symm
    have hpos := List.length_pos_iff.2 h0
    obtain ⟨v', w', hr, q2, q3, _⟩ := run_append_own (P := P) w base t ty e i z k bytes ht hi hz hsize hby hzs hk v l.length _ h ⟨b, off, Option.none⟩ l2.length c _ hfl hn ho h63 hbytes hb
    have hw := run_append_where (P := P) w base t ty e i z k bytes ht hi hz hsize hby v l.length _ h ⟨b, off, Option.none⟩ l2.length c _ hfl hn ho hpos h63 hbytes v' w' hr
    refine ⟨v', w', hr, ?_, (Upd.of_grown q3).weaken (fun k _ hk => hk.symm), hw⟩
    unfold OwnN
    rw [e2, List.length_append]; exact q2
end
/-- A step of a region that draws its order: append. -/
theorem step_builtinN {P : Program} {ops : Array Oper} {o : Oper} {a : Act} {w w' : World} {K : Act → World → Prop} {Q : Exit → Act → World → Prop} {E : Prop} {v' : Value} (hg : o.guard = none) (s x : Operand) (t : TypeId)
    (ho : o.op = .call { callee := .builtin .append, args := #[s, x], argTypes := #[t, t] }) (u y : Value) (hs : a.eval s = u) (hx : a.eval x = y)
    (hr : (Builtin.append_ #[t, t] o.type #[u, y]).run P w = .ok v' w') (hK : K (a.put o.dst v') w') :
    if Region.wanted o (yielded ops a.tmps) = true then Oper.wp P o a w K Q else E := by
  have hw : Region.wanted o (yielded ops a.tmps) = true := by simp [Region.wanted, hg]
  rw [if_pos hw]
  unfold Oper.wp execOp
  subst hs hx
  simp only [ho, resolve, invoke, builtin, Sem.run_bind, Sem.run_pure, Result.andThen_ok, List.map_toArray, List.map_cons, List.map_nil, hr]
  exact hK
theorem wpList_builtinN {P : Program} {ops : Array Oper} {rest : List Oper} {o : Oper} {a : Act} {w w' : World} {Q : Exit → Act → World → Prop} {v' : Value} (hg : o.guard = none) (s x : Operand) (t : TypeId)
    (ho : o.op = .call { callee := .builtin .append, args := #[s, x], argTypes := #[t, t] }) (u y : Value) (hs : a.eval s = u) (hx : a.eval x = y)
    (hr : (Builtin.append_ #[t, t] o.type #[u, y]).run P w = .ok v' w') (hK : wpList P ops Q rest (a.put o.dst v') w') : wpList P ops Q (o :: rest) a w :=
  wpList_plain hg fun K hK' => by
    unfold Oper.wp execOp
    subst hs hx
    simp only [ho, resolve, invoke, builtin, Sem.run_bind, Sem.run_pure, Result.andThen_ok, List.map_toArray, List.map_cons, List.map_nil, hr]
    exact hK' _ _ hK
theorem info_parts {o : Option TypeInfo} {x : Option Value × Nat × Nat} (h : o.map (fun i => (i.zero, i.size, i.bytes)) = some x) : ∃ i, o = some i ∧ i.zero = x.1 ∧ i.size = x.2.1 ∧ i.bytes = x.2.2 := by
  cases o with
  | none => cases h
  | some i => simp only [Option.map_some, Option.some.injEq] at h; subst h; exact ⟨i, rfl, rfl, rfl, rfl⟩
end Go.Proofs.YtcdihffcncaibaaDoor
/- What start-up code has laid, as far as it is read; it stays, as long as its blocks are left alone. -/
set_option linter.unusedVariables false
set_option linter.unusedSimpArgs false
namespace Go.Proofs.YtcdihffcncaibaaDoor
open Go.RowKit Go.Proofs

/-- What start-up code has laid, as far as it is read. -/
structure Std (w : World) : Prop where
  tab : Lib.TabIs Tryd.prog w "internal/strconv.uint64pow10" .u64 Lib.pow10Tab
  syn : ∃ te pe, w.var? Tryd.prog "strconv.ErrSyntax" = some #[.iface te pe]
  rng : ∃ te pe, w.var? Tryd.prog "strconv.ErrRange" = some #[.iface te pe]
theorem var_keep {w w' : World} (u : Upd (fun _ => False) w w') {n : String} {cs : Array Value} (h : w.var? Tryd.prog n = some cs) : w'.var? Tryd.prog n = some cs := by
  unfold World.var? at h ⊢
  cases hg : Tryd.prog.globalNamed n with
  | none => rw [hg] at h; cases h
  | some g =>
    rw [hg] at h
    simp only [Option.bind_some] at h ⊢
    have hl : g < w.heap.size := by
      by_cases hl : g < w.heap.size
      · exact hl
      · rw [Array.getElem?_eq_none (by omega : w.heap.size ≤ g)] at h; cases h
    rw [u.block g hl id]
    exact h
theorem Std.keep {w w' : World} (h : Std w) (u : Upd (fun _ => False) w w') : Std w' :=
  ⟨var_keep u h.tab, by obtain ⟨a, b, c⟩ := h.syn; exact ⟨a, b, var_keep u c⟩, by obtain ⟨a, b, c⟩ := h.rng; exact ⟨a, b, var_keep u c⟩⟩
theorem var_lt {w : World} {n : String} {cs : Array Value} {g : Nat} (hg : Tryd.prog.globalNamed n = some g) (h : w.var? Tryd.prog n = some cs) : g < w.heap.size := by
  unfold World.var? at h
  rw [hg] at h
  simp only [Option.bind_some] at h
  by_cases hl : g < w.heap.size
  · exact hl
  · rw [Array.getElem?_eq_none (by omega : w.heap.size ≤ g)] at h; cases h
/-- The blocks from here on hold nothing that start-up code has laid and that is read. -/
def lowB : Nat := 3 + 1 + 2 - min (min (3 + 1) (1 + 2)) (3 + 2) + 1
theorem Std.low {w : World} (h : Std w) : lowB ≤ w.heap.size := by
  have h1 := var_lt (g := 3) (by kernel_rfl) h.tab
  obtain ⟨a, b, hv⟩ := h.rng
  have h2 := var_lt (g := 2) (by kernel_rfl) hv
  obtain ⟨a, b, hv⟩ := h.syn
  have h3 := var_lt (g := 1) (by kernel_rfl) hv
  unfold lowB; omega
theorem var_keepB {w w' : World} {F : Nat → Prop} (u : Upd F w w') {n : String} {cs : Array Value} {g : Nat} (hg : Tryd.prog.globalNamed n = some g) (hF : ¬ F g) (h : w.var? Tryd.prog n = some cs) : w'.var? Tryd.prog n = some cs := by
  unfold World.var? at h ⊢
  rw [hg] at h ⊢
  simp only [Option.bind_some] at h ⊢
  have hl : g < w.heap.size := by
    by_cases hl : g < w.heap.size
    · exact hl
    · rw [Array.getElem?_eq_none (by omega : w.heap.size ≤ g)] at h; cases h
  rw [u.block g hl hF]
  exact h
theorem Std.keepB {w w' : World} {F : Nat → Prop} (h : Std w) (u : Upd F w w') (hF : ∀ k, F k → lowB ≤ k) : Std w' := by
  have n3 : ¬ F 3 := fun h => by have := hF _ h; unfold lowB at this; omega
  have n4 : ¬ F 1 := fun h => by have := hF _ h; unfold lowB at this; omega
  have n5 : ¬ F 2 := fun h => by have := hF _ h; unfold lowB at this; omega
  exact ⟨var_keepB u (by kernel_rfl) n3 h.tab, by obtain ⟨a, b, c⟩ := h.syn; exact ⟨a, b, var_keepB u (by kernel_rfl) n4 c⟩, by obtain ⟨a, b, c⟩ := h.rng; exact ⟨a, b, var_keepB u (by kernel_rfl) n5 c⟩⟩
end Go.Proofs.YtcdihffcncaibaaDoor
