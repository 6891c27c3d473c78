/- Expiry in memory; walks: New, Clear, Len, Get, Next. -/
import Derived.Test.YtokkhddbdjflhaaExpG
import Derived.Test.YtokkhddbdjflhaaStrMap
set_option linter.unusedVariables false
set_option linter.unusedSimpArgs false
namespace Go.Proofs.Ytokkhddbdjflhaa
open Go.RowKit

/-- In block xa lies when keys end: the entries bs, in a heap's order, and the map m of their keys; in order they are l. -/
structure ExpR (w : World) (base xa mb : Nat) (v : Value) (bs : List Nat) (ent : Nat → DueP) (m : List (ByteArray × Nat)) (l : List DueP) : Prop where
  heap : HeapM w base xa (.map (some mb)) v bs ent
  map : MapAt strEnc w mb (pm m)
  mnd : (akeys m).Nodup
  mem : ∀ k b, aget m k = some b ↔ b ∈ bs ∧ (ent b).2 = k
  rise : Rise l
  perm : (bs.map ent).Perm l
def expF (xa mb : Nat) (v : Value) (bs : List Nat) : Nat → Prop := fun k => k = xa ∨ k = mb ∨ rowF v bs k
def ExpAt (w : World) (base xa : Nat) (l : List DueP) (E : Nat → Prop) : Prop := ∃ mb v bs ent m, ExpR w base xa mb v bs ent m l ∧ E = expF xa mb v bs
/-- From one state to the next. -/
def ExpTo (w w' : World) (base xa : Nat) (E : Nat → Prop) (l' : List DueP) : Prop := ∃ E', ExpAt w' base xa l' E' ∧ Upd E w w' ∧ FromF E E' w
section
variable {w w' : World} {base xa mb : Nat} {v : Value} {bs : List Nat} {ent : Nat → DueP} {m : List (ByteArray × Nat)} {l : List DueP} {E : Nat → Prop}
theorem RowM.rowlt (h : RowM w base xa (.map (some mb)) v bs ent) : ∀ k, rowF v bs k → k < w.heap.size := by
  rintro k (hk | hk)
  · exact (World.ownsRow.lt h.own k hk).2
  · obtain ⟨i, hi⟩ := List.mem_iff_getElem?.1 hk
    exact (h.at_ i k hi).lt
theorem ExpR.lt (h : ExpR w base xa mb v bs ent m l) : ∀ k, expF xa mb v bs k → k < w.heap.size := by
  rintro k (rfl | rfl | hk)
  · exact h.heap.row.x.lt
  · exact h.map.lt
  · exact h.heap.row.rowlt k hk
theorem ExpR.keep {F : Nat → Prop} (h : ExpR w base xa mb v bs ent m l) (u : Upd F w w') (hF : ∀ k, expF xa mb v bs k → ¬ F k) : ExpR w' base xa mb v bs ent m l :=
  ⟨⟨h.heap.row.keep u (hF _ (Or.inl rfl)) (fun k hk => hF k (Or.inr (Or.inr hk))), h.heap.heap⟩, h.map.keep u (hF _ (Or.inr (Or.inl rfl))), h.mnd, h.mem, h.rise, h.perm⟩
theorem ExpAt.lt (h : ExpAt w base xa l E) : ∀ k, E k → k < w.heap.size := by
  obtain ⟨mb, v, bs, ent, m, h, rfl⟩ := h; exact h.lt
theorem ExpAt.keep {F : Nat → Prop} (h : ExpAt w base xa l E) (u : Upd F w w') (hF : ∀ k, E k → ¬ F k) : ExpAt w' base xa l E := by
  obtain ⟨mb, v, bs, ent, m, h, rfl⟩ := h; exact ⟨mb, v, bs, ent, m, h.keep u hF, rfl⟩
theorem ExpAt.rise (h : ExpAt w base xa l E) : Rise l := by
  obtain ⟨mb, v, bs, ent, m, h, rfl⟩ := h; exact h.rise
theorem ExpR.mx (h : ExpR w base xa mb v bs ent m l) : mb ≠ xa := h.map.notCells h.heap.row.x
theorem ExpR.mbs (h : ExpR w base xa mb v bs ent m l) : mb ∉ bs := fun hm => by
  obtain ⟨i, hi⟩ := List.mem_iff_getElem?.1 hm
  exact h.map.notCells (h.heap.row.at_ i mb hi) rfl
theorem ExpR.mv (h : ExpR w base xa mb v bs ent m l) : v.ownBlock ≠ some mb := fun e => by
  rcases h.heap.row.own.2 with ⟨ev, _⟩ | ⟨g, cap, cur, ev, _, hh, _⟩
  · rw [ev] at e; cases e
  · rw [ev] at e; cases e; exact h.map.notCells hh rfl
theorem ExpR.inj (h : ExpR w base xa mb v bs ent m l) {b c : Nat} (hb : b ∈ bs) (hc : c ∈ bs) (e : (ent b).2 = (ent c).2) : b = c := by
  have h1 := (h.mem (ent b).2 b).2 ⟨hb, rfl⟩
  have h2 := (h.mem (ent b).2 c).2 ⟨hc, e.symm⟩
  rw [h1] at h2; exact Option.some.inj h2
theorem ExpR.llen (h : ExpR w base xa mb v bs ent m l) : bs.length = l.length := by rw [← h.perm.length_eq]; simp
theorem ExpR.keyl (h : ExpR w base xa mb v bs ent m l) (k : ByteArray) : (aget m k).isSome = decide (k ∈ l.map (·.2)) := by
  rw [Bool.eq_iff_iff, decide_eq_true_eq, List.mem_map]
  constructor
  · intro hs
    obtain ⟨b, hb⟩ := Option.isSome_iff_exists.1 hs
    obtain ⟨h1, h2⟩ := (h.mem k b).1 hb
    exact ⟨ent b, h.perm.mem_iff.1 (List.mem_map.2 ⟨b, h1, rfl⟩), h2⟩
  · rintro ⟨d, hd, e⟩
    obtain ⟨b, hb, e2⟩ := List.mem_map.1 (h.perm.mem_iff.2 hd)
    rw [(h.mem k b).2 ⟨hb, by rw [e2]; exact e⟩]; rfl
theorem ExpR.mlen (h : ExpR w base xa mb v bs ent m l) : m.length = bs.length := by
  have hn : (bs.map fun b => (ent b).2).Nodup := by
    have := h.heap.row.nd
    rw [List.nodup_iff_pairwise_ne, List.pairwise_map]
    refine List.Pairwise.imp_of_mem (fun {a b} ha hb hab e => hab (h.inj ha hb e)) (List.nodup_iff_pairwise_ne.1 this)
  have := List.Perm.length_eq ((List.perm_ext_iff_of_nodup h.mnd hn).2 fun k => by
    rw [List.mem_map]
    constructor
    · intro hk
      cases e : aget m k with
      | none => exact absurd hk (aget_none.1 e)
      | some b => obtain ⟨h1, h2⟩ := (h.mem k b).1 e; exact ⟨b, h1, h2⟩
    · rintro ⟨b, hb, e⟩
      have := (h.mem k b).2 ⟨hb, e⟩
      exact Decidable.not_not.1 fun hh => by rw [aget_none.2 hh] at this; cases this)
  simpa [akeys] using this
theorem zeroE (w : World) : (zeroValue 61).run Try.prog w = .ok (.pointer none) w := by kernel_rfl
theorem ExpR.look (h : ExpR w base xa mb v bs ent m l) (key : ByteArray) (co : Bool) :
    (Instr.lookup 54 (.map (some mb)) (.string key) co).run Try.prog w = .ok (if co then .tuple #[lv (aget m key), .bool (aget m key).isSome] else lv (aget m key)) w := by
  have := h.map.look keyS Try.underlying54 (zeroE w) key co
  refine Eq.trans this ?_
  rw [pm_get]
  cases aget m key <;> rfl
/-- The first one in a heap's order is the first one in order. -/
theorem heap_first {mv : Value} (h : HeapM w base xa mv v bs ent) (hr : Rise l) (hp : (bs.map ent).Perm l) {b : Nat} (hb : bs[0]? = some b) : l.head? = some (ent b) := by
  have hall : ∀ c ∈ bs, leD (ent b) (ent c) := fun c hc => by
    obtain ⟨k, hk⟩ := List.mem_iff_getElem?.1 hc
    have := Pq.Heap.first leD_refl leD_trans h.heap k (List.getElem?_eq_some_iff.1 hk).1
    rw [eo_at hb, eo_at hk] at this; exact this
  have hm : ent b ∈ l := hp.mem_iff.1 (List.mem_map.2 ⟨b, List.mem_of_getElem? hb, rfl⟩)
  cases hl : l with
  | nil => rw [hl] at hm; simp at hm
  | cons d r =>
    rw [hl] at hr hm
    obtain ⟨c, hc, e⟩ := List.mem_map.1 (hp.mem_iff.2 (show d ∈ l by rw [hl]; simp))
    have h1 := hall c hc
    rw [e] at h1
    rcases List.mem_cons.1 hm with e2 | e2
    · rw [e2]; rfl
    · exact absurd ((List.pairwise_cons.1 hr).1 _ e2) h1
theorem ExpR.first (h : ExpR w base xa mb v bs ent m l) {b : Nat} (hb : bs[0]? = some b) : l.head? = some (ent b) := heap_first h.heap h.rise h.perm hb
/-- The same entries, in another order. -/
theorem ExpR.re {v' : Value} {bs' : List Nat} (h : ExpR w base xa mb v bs ent m l) (h' : HeapM w' base xa (.map (some mb)) v' bs' ent) (hp : bs'.Perm bs) (hm : MapAt strEnc w' mb (pm m)) : ExpR w' base xa mb v' bs' ent m l :=
  ⟨h', hm, h.mnd, fun k b => by rw [hp.mem_iff]; exact h.mem k b, h.rise, (hp.map ent).trans h.perm⟩
/-- Rows of another type lie apart. -/
theorem ExpR.apart (h : ExpR w base xa mb v bs ent m l) {k : Nat} {cs : Array Value} {T : TypeId} (hk : w.heap[k]? = some (.cells cs T (0, 0))) (h1 : T ≠ 58) (h2 : T ≠ 61) (h3 : T ≠ 60) : ¬ expF xa mb v bs k := by
  rintro (rfl | rfl | hh | hh)
  · have := h.heap.row.x; unfold Blk at this; rw [hk] at this; simp at this; exact h1 this.2
  · exact h.map.notCells hk rfl
  · rcases h.heap.row.own.2 with ⟨ev, _⟩ | ⟨g, cap, cur, ev, _, hg, _⟩
    · rw [ev] at hh; cases hh
    · rw [ev] at hh; cases hh; rw [hk] at hg; simp at hg; exact h2 hg.2
  · obtain ⟨i, hi⟩ := List.mem_iff_getElem?.1 hh
    have := h.heap.row.at_ i k hi; unfold Blk at this; rw [hk] at this; simp at this; exact h3 this.2
theorem own_cells {w : World} {base n size : Nat} {e : TypeId} {v : Value} {xs : List Value} (h : w.ownsRow base e size v n xs) {k : Nat} (hk : v.ownBlock = some k) : ∃ cs, w.heap[k]? = some (.cells cs e (0, 0)) := by
  rcases h.2 with ⟨ev, _⟩ | ⟨g, cap, cur, ev, _, hg, _⟩
  · rw [ev] at hk; cases hk
  · rw [ev] at hk; cases hk; exact ⟨_, hg⟩
theorem ExpAt.apart {size n b0 : Nat} {T : TypeId} {x : Value} {xs : List Value} (h : ExpAt w base xa l E) (hx : w.ownsRow b0 T size x n xs) (h1 : T ≠ 58) (h2 : T ≠ 61) (h3 : T ≠ 60) : ∀ k, x.ownBlock = some k → ¬ E k := by
  obtain ⟨mb, v, bs, ent, m, h, rfl⟩ := h
  intro k hk
  obtain ⟨cs, hc⟩ := own_cells hx hk
  exact h.apart hc h1 h2 h3
end

def newW (w : World) : World := (w.alloc (.map #[] 0)).alloc (.cells #[.slice none 0 0, .map (some w.heap.size)] 58)
set_option maxHeartbeats 1000000 in
theorem xnew_raw (w : World) :
    Calls Try.prog 8 #[] w fun e w' => e = .returned (.pointer (some ⟨w.heap.size + 1, 0, none⟩)) ∧ w' = newW w := by
  have mk := run_makeMap (P := Try.prog) 54 w
  unfold newW
  go_enter Try.func8, Try.ntmps8
  go_wp2
  go_ret
  exact ⟨rfl, rfl⟩
/-- What is empty. -/
theorem expR_nil {w : World} {base xa mb : Nat} (hx : Blk w xa [.slice none 0 0, .map (some mb)] 58) (hm : MapAt strEnc w mb []) : ExpR w base xa mb (.slice none 0 0) [] (fun _ => (0, ByteArray.empty)) [] [] :=
  ⟨⟨⟨hx, World.ownsRow_nil _ _ _ _, fun i b hb => by simp at hb, List.nodup_nil, by simp, by simp [Value.ownBlock], fun k hk => by cases hk⟩, fun k _ hk => by simp at hk⟩, hm, List.nodup_nil, fun k b => by simp [aget], List.Pairwise.nil, List.Perm.refl _⟩
theorem newW_blk (w : World) : Blk (newW w) (w.heap.size + 1) [.slice none 0 0, .map (some w.heap.size)] 58 := by
  have := Blk.made (w.alloc (.map #[] 0)) [.slice none 0 0, .map (some w.heap.size)] 58
  unfold newW
  simpa using this
theorem newW_map (w : World) : MapAt strEnc (newW w) w.heap.size [] := (MapAt.made (enc := strEnc) w).keep ((Upd.refl (fun _ => False) _).alloc (.cells #[.slice none 0 0, .map (some w.heap.size)] 58)) (fun h => h)
theorem newW_upd (w : World) : Upd (fun _ => False) w (newW w) := ((Upd.refl _ w).alloc _).alloc _
theorem xnew_any (w : World) (base : Nat) :
    Calls Try.prog 8 #[] w fun e w' => ∃ xa E, e = .returned (.pointer (some ⟨xa, 0, none⟩)) ∧ ExpAt w' base xa [] E ∧ Upd (fun _ => False) w w' ∧ (∀ k, E k → w.heap.size ≤ k) := by
  refine (xnew_raw w).mono ?_
  rintro e w' ⟨rfl, rfl⟩
  refine ⟨w.heap.size + 1, _, rfl, ⟨w.heap.size, _, [], _, [], expR_nil (newW_blk w) (newW_map w), rfl⟩, newW_upd w, fun k hk => ?_⟩
  rcases hk with rfl | rfl | hk | hk
  · omega
  · omega
  · cases hk
  · simp at hk
theorem xlen_any (w : World) (base xa : Nat) (l : List DueP) (E : Nat → Prop) (h : ExpAt w base xa l E) (hl : l.length ≤ 1000000) :
    Calls Try.prog 21 #[.pointer (some ⟨xa, 0, none⟩)] w fun e w' => e = .returned (.int .i64 (l.length : Int)) ∧ w' = w := by
  obtain ⟨mb, v, bs, ent, m, h, rfl⟩ := h
  have c1 := h.heap.row.x.cellAt (i := 1) rfl
  have el : (pm m).length = l.length := by rw [pm_len, h.mlen, h.llen]
  have ln := h.map.len 3 Try.underlying54 (by omega)
  rw [el] at ln
  clear h el
  go_enter Try.func21, Try.ntmps21
  go_wp2
  go_ret
  exact ⟨rfl, rfl⟩
/-- When a key ends, as the program says it. -/
def getV (l : List DueP) (k : ByteArray) : Int × Bool := match l.find? fun d => decide (d.2 = k) with
  | some d => (d.1, true)
  | none => (0, false)
theorem ExpR.getV {w : World} {base xa mb : Nat} {v : Value} {bs : List Nat} {ent : Nat → DueP} {m : List (ByteArray × Nat)} {l : List DueP} (h : ExpR w base xa mb v bs ent m l) (key : ByteArray) : getV l key = match aget m key with | some b => ((ent b).1, true) | none => (0, false) := by
  unfold Ytokkhddbdjflhaa.getV
  cases e : aget m key with
  | none =>
    have : l.find? (fun d => decide (d.2 = key)) = none := List.find?_eq_none.2 fun d hd hk => by
      have h2 := h.keyl key
      rw [e] at h2
      simp at hk
      have h3 : key ∈ l.map (·.2) := List.mem_map.2 ⟨d, hd, hk⟩
      simp [h3] at h2
    rw [this]
  | some b =>
    obtain ⟨h1, h2⟩ := (h.mem key b).1 e
    have hm : ent b ∈ l := h.perm.mem_iff.1 (List.mem_map.2 ⟨b, h1, rfl⟩)
    cases hf : l.find? (fun d => decide (d.2 = key)) with
    | none => have := List.find?_eq_none.1 hf _ hm; simp [h2] at this
    | some d =>
      have hd := List.find?_some hf
      have hd2 := List.mem_of_find?_eq_some hf
      simp at hd
      obtain ⟨c, hc, e2⟩ := List.mem_map.1 (h.perm.mem_iff.2 hd2)
      have := h.inj hc h1 (by rw [e2, hd, h2])
      rw [← e2, this]
theorem xget_any (w : World) (base xa : Nat) (l : List DueP) (E : Nat → Prop) (key : ByteArray) (h : ExpAt w base xa l E) :
    Calls Try.prog 16 #[.pointer (some ⟨xa, 0, none⟩), .string key] w fun e w' => e = .returned (.tuple #[.int .i64 (getV l key).1, .bool (getV l key).2]) ∧ w' = w := by
  obtain ⟨mb, v, bs, ent, m, h, rfl⟩ := h
  have c1 := h.heap.row.x.cellAt (i := 1) rfl
  have lk := h.look key true
  rw [h.getV key]
  simp only [if_true] at lk
  unfold lv at lk
  cases e : aget m key with
  | none =>
    rw [e] at lk
    clear e h
    simp only [Option.map_none, Option.isSome_none] at lk
    go_enter Try.func16, Try.ntmps16
    go_wp2
    go_ret2
    exact ⟨rfl, rfl⟩
  | some b =>
    rw [e] at lk
    obtain ⟨h1, h2⟩ := (h.mem key b).1 e
    obtain ⟨i, hi⟩ := List.mem_iff_getElem?.1 h1
    have d0 := (h.heap.row.at_ i b hi).cellAt (i := 0) rfl
    clear e h h1 h2 hi
    simp only [Option.map_some, Option.isSome_some] at lk
    go_enter Try.func16, Try.ntmps16
    go_wp2
    go_ret2
    exact ⟨rfl, rfl⟩
end Go.Proofs.Ytokkhddbdjflhaa
