/- Keys that share their beginnings: how nodes lie in memory; where one below stands. -/
import Derived.Test.YtnlbmplbaalgmaaRadA
import Derived.Test.YtnlbmplbaalgmaaLayRad
import Derived.Shelf.SlCmpFuncs.BinarySearchFunc
import Derived.Shelf.SlCmpFuncs.None
set_option linter.unusedVariables false
set_option linter.unusedSimpArgs false
namespace Go.Proofs.Ytnlbmplbaalgmaa
open Go.RowKit Go.Sort Go.Proofs

/-- A node's cells. -/
def ndc (d : Nd) (v : Value) : List Value := [.string (ofL d.part), .bool d.there, .int .i64 d.n, v]
structure RadR (w : World) (base xa : Nat) (bs : List Nat) (G : Nat → Nd) (T : Nat → Txt) (row : Nat → Value) (many : Int) : Prop where
  flat : Flat xa bs G T
  x : Blk w xa (ndc (G xa) (row xa) ++ [.int .i64 many]) 79
  at_ : ∀ b ∈ bs, b ≠ xa → Blk w b (ndc (G b) (row b)) 77
  own : ∀ b ∈ bs, w.ownsRow base 80 1 (row b) (G b).kids.length ((G b).kids.map ptr)
  apart : ∀ b ∈ bs, ∀ c ∈ bs, b ≠ c → ∀ k, (row b).ownBlock = some k → (row c).ownBlock ≠ some k
  lo : ∀ b ∈ bs, base ≤ b
  small : ∀ b ∈ bs, (T b).length ≤ maxLen
/-- The blocks that it takes. -/
def radF (bs : List Nat) (row : Nat → Value) : Nat → Prop := fun k => k ∈ bs ∨ ∃ b ∈ bs, (row b).ownBlock = some k
theorem own_blk {w : World} {base n : Nat} {e : TypeId} {v : Value} {xs : List Value} (h : w.ownsRow base e 1 v n xs) : xs.length = n ∧ ((v = .slice none 0 0 ∧ n = 0) ∨ ∃ b cap cs, v = .slice (some ⟨b, 0, none⟩) n cap ∧ base ≤ b ∧ Blk w b (xs ++ cs) e ∧ n + cs.length = cap ∧ cap ≤ maxLen) := by
  obtain ⟨h0, ⟨rfl, e⟩ | ⟨g, cap, cur, rfl, hg, hh, h1, h2, h3, h4⟩⟩ := h
  · exact ⟨by simpa using h0, Or.inl ⟨rfl, e⟩⟩
  · rw [Nat.mul_one] at h0 h4
    refine ⟨h0, Or.inr ⟨g, cap, cur.toList.drop n, rfl, hg, ?_, ?_, h2⟩⟩
    · unfold Blk
      rw [← h4, List.take_append_drop]; exact hh
    · simp; omega
theorem own_of {w : World} {base b cap n : Nat} {e : TypeId} {xs cs : List Value} (hb : base ≤ b) (h : Blk w b (xs ++ cs) e) (hn : xs.length = n) (hc : n + cs.length = cap) (hm : cap ≤ maxLen) : w.ownsRow base e 1 (.slice (some ⟨b, 0, none⟩) n cap) n xs :=
  ⟨by omega, Or.inr ⟨b, cap, _, rfl, hb, h, by omega, hm, by simp; omega, by subst hn; simp⟩⟩
theorem Blk.ty {w : World} {b : Nat} {cs cs' : List Value} {T T' : TypeId} (h : Blk w b cs T) (h' : Blk w b cs' T') : T = T' := by
  unfold Blk at *; rw [h] at h'; simp at h'; exact h'.2
theorem own_lt {w : World} {base n : Nat} {e : TypeId} {v : Value} {xs : List Value} (h : w.ownsRow base e 1 v n xs) {k : Nat} (hk : v.ownBlock = some k) : k < w.heap.size ∧ base ≤ k ∧ ∃ cs, Blk w k cs e := by
  obtain ⟨_, ⟨rfl, _⟩ | ⟨b, cap, cs, rfl, hb, hB, _⟩⟩ := own_blk h
  · cases hk
  · cases hk; exact ⟨hB.lt, hb, _, hB⟩
section
variable {w w' : World} {base xa : Nat} {bs : List Nat} {G : Nat → Nd} {T : Nat → Txt} {row : Nat → Value} {many : Int}
theorem RadR.blk (h : RadR w base xa bs G T row many) {b : Nat} (hb : b ∈ bs) : ∃ cs ty, Blk w b (ndc (G b) (row b) ++ cs) ty ∧ (ty = 79 ∨ ty = 77) := by
  by_cases e : b = xa
  · subst e; exact ⟨_, _, h.x, Or.inl rfl⟩
  · exact ⟨[], _, by rw [List.append_nil]; exact h.at_ b hb e, Or.inr rfl⟩
theorem RadR.c0 (h : RadR w base xa bs G T row many) {b : Nat} (hb : b ∈ bs) : w.cell? ⟨b, 0, none⟩ = some (.string (ofL (G b).part)) := by obtain ⟨cs, ty, hB, _⟩ := h.blk hb; exact hB.cellAt rfl
theorem RadR.c1 (h : RadR w base xa bs G T row many) {b : Nat} (hb : b ∈ bs) : w.cell? ⟨b, 1, none⟩ = some (.bool (G b).there) := by obtain ⟨cs, ty, hB, _⟩ := h.blk hb; exact hB.cellAt rfl
theorem RadR.c2 (h : RadR w base xa bs G T row many) {b : Nat} (hb : b ∈ bs) : w.cell? ⟨b, 2, none⟩ = some (.int .i64 (G b).n) := by obtain ⟨cs, ty, hB, _⟩ := h.blk hb; exact hB.cellAt rfl
theorem RadR.c3 (h : RadR w base xa bs G T row many) {b : Nat} (hb : b ∈ bs) : w.cell? ⟨b, 3, none⟩ = some (row b) := by obtain ⟨cs, ty, hB, _⟩ := h.blk hb; exact hB.cellAt rfl
theorem RadR.lt (h : RadR w base xa bs G T row many) {b : Nat} (hb : b ∈ bs) : b < w.heap.size := by obtain ⟨cs, ty, hB, _⟩ := h.blk hb; exact hB.lt
theorem RadR.row_ne (h : RadR w base xa bs G T row many) {b c k : Nat} (hb : b ∈ bs) (hc : c ∈ bs) (hk : (row c).ownBlock = some k) : k ≠ b := by
  rintro rfl
  obtain ⟨cs, ty, hB, ht⟩ := h.blk hb
  obtain ⟨_, _, cs', hB'⟩ := own_lt (h.own c hc) hk
  have := hB.ty hB'
  rcases ht with rfl | rfl <;> exact absurd this (by decide)
theorem RadR.keep {F : Nat → Prop} (h : RadR w base xa bs G T row many) (u : Upd F w w') (hF : ∀ k, radF bs row k → ¬ F k) : RadR w' base xa bs G T row many :=
  ⟨h.flat, u.blk h.x (hF xa (Or.inl h.flat.root)), fun b hb e => u.blk (h.at_ b hb e) (hF b (Or.inl hb)), fun b hb => own_keep (h.own b hb) u (fun k hk => hF k (Or.inr ⟨b, hb, hk⟩)), h.apart, h.lo, h.small⟩
theorem RadR.keep0 (h : RadR w base xa bs G T row many) (u : Upd (fun _ => False) w w') : RadR w' base xa bs G T row many := h.keep u (fun _ _ h => h)
theorem RadR.ge (h : RadR w base xa bs G T row many) {k : Nat} (hk : radF bs row k) : base ≤ k ∧ k < w.heap.size := by
  rcases hk with hk | ⟨b, hb, hk⟩
  · exact ⟨h.lo k hk, h.lt hk⟩
  · obtain ⟨h1, h2, _⟩ := own_lt (h.own b hb) hk; exact ⟨h2, h1⟩
theorem RadR.part_len (h : RadR w base xa bs G T row many) {b c : Nat} (hb : b ∈ bs) (hc : c ∈ (G b).kids) : (G c).part.length ≤ maxLen := by
  obtain ⟨m, _, e⟩ := h.flat.kid b hb c hc
  have := h.small c m
  rw [e, List.length_append] at this; omega
theorem Flat.kids_few (h : Flat xa bs G T) {b : Nat} (hb : b ∈ bs) : (G b).kids.length ≤ 256 := by
  have : ((G b).kids.map fun c => (hdN G c).toNat).length ≤ (List.range 256).length := by
    refine len_le_of_nodup ?_ fun x hx => ?_
    · unfold List.Nodup
      rw [List.pairwise_map]
      exact (h.sorted b hb).imp fun hlt e => by rw [UInt8.lt_iff_toNat_lt] at hlt; omega
    · obtain ⟨c, _, rfl⟩ := List.mem_map.1 hx
      rw [List.mem_range]; exact (hdN G c).toNat_lt
  simpa using this
end
/-- Where one stands that goes on with c, or would. -/
def Place (G : Nat → Nd) (K : List Nat) (c : UInt8) (i : Nat) (f : Bool) : Prop :=
  ∃ K1 K2, K = K1 ++ K2 ∧ i = K1.length ∧ (∀ x ∈ K1, hdN G x < c) ∧ ((f = true ∧ ∃ y K3, K2 = y :: K3 ∧ hdN G y = c) ∨ (f = false ∧ ∀ x ∈ K2, c < hdN G x))
theorem cmpB_lt (a b : UInt8) : cmpB a b < 0 ↔ a < b := by
  unfold cmpB; split
  · rename_i h; simp [h]
  · rename_i h; split <;> simp [h]
theorem cmpB_zero (a b : UInt8) : cmpB a b = 0 ↔ a = b := by
  unfold cmpB; split
  · rename_i h; simp; rintro rfl; exact UInt8.lt_irrefl _ h
  · rename_i h; split
    · rename_i h2; simp; rintro rfl; exact UInt8.lt_irrefl _ h2
    · rename_i h2; simp; exact UInt8.le_antisymm (UInt8.not_lt.1 h2) (UInt8.not_lt.1 h)
theorem split_at (G : Nat → Nd) (c : UInt8) : ∀ {K : List Nat}, K.Pairwise (fun a b => hdN G a < hdN G b) → ∃ K1 K2, K = K1 ++ K2 ∧ (∀ x ∈ K1, hdN G x < c) ∧ (∀ x ∈ K2, ¬ hdN G x < c)
  | [], _ => ⟨[], [], rfl, by simp, by simp⟩
  | a :: K, h => by
    rw [List.pairwise_cons] at h
    by_cases ha : hdN G a < c
    · obtain ⟨K1, K2, e, h1, h2⟩ := split_at G c h.2
      exact ⟨a :: K1, K2, by rw [e]; rfl, fun x hx => (List.mem_cons.1 hx).elim (fun e => e ▸ ha) (fun hx => h1 x hx), h2⟩
    · refine ⟨[], a :: K, rfl, by simp, fun x hx => ?_⟩
      rcases List.mem_cons.1 hx with rfl | hx
      · exact ha
      · exact fun hlt => ha (UInt8.lt_trans (h.1 x hx) hlt)
theorem placed {G : Nat → Nd} {K : List Nat} {c : UInt8} (h : K.Pairwise fun a b => hdN G a < hdN G b) (n : Nat) (f : Bool) (hn : n = K.countP fun x => decide (hdN G x < c)) (hf : f = true ↔ ∃ y, K[n]? = some y ∧ hdN G y = c) : Place G K c n f := by
  obtain ⟨K1, K2, e, h1, h2⟩ := split_at G c h
  have hc : n = K1.length := by
    rw [hn, e, List.countP_append, List.countP_eq_length.2 (fun x hx => decide_eq_true (h1 x hx)), List.countP_eq_zero.2 (fun x hx => by simpa using h2 x hx)]; rfl
  refine ⟨K1, K2, e, hc, h1, ?_⟩
  rw [e, hc, List.getElem?_append_right (Nat.le_refl _), Nat.sub_self] at hf
  cases f with
  | true =>
    obtain ⟨y, hy, he⟩ := hf.1 rfl
    cases K2 with
    | nil => cases hy
    | cons z K3 => cases hy; exact Or.inl ⟨rfl, _, _, rfl, he⟩
  | false =>
    refine Or.inr ⟨rfl, ?_⟩
    cases K2 with
    | nil => simp
    | cons z K3 =>
      have hz : c < hdN G z := by
        rcases UInt8.lt_or_lt_of_ne (a := c) (b := hdN G z) (fun e => by have := hf.2 ⟨z, rfl, e.symm⟩; cases this) with h | h
        · exact h
        · exact absurd h (h2 z (List.mem_cons_self ..))
      rw [e, List.pairwise_append, List.pairwise_cons] at h
      intro x hx
      rcases List.mem_cons.1 hx with rfl | hx
      · exact hz
      · exact UInt8.lt_trans hz (h.2.1.1 x hx)
theorem sub_list {α : Type} {p : α → Prop} : ∀ (K : List α), (∀ x ∈ K, p x) → ∃ K' : List { x // p x }, K'.map Subtype.val = K
  | [], _ => ⟨[], rfl⟩
  | a :: K, h => by
    obtain ⟨K', e⟩ := sub_list K (fun x hx => h x (List.mem_cons_of_mem _ hx))
    exact ⟨⟨a, h a (List.mem_cons_self ..)⟩ :: K', by rw [List.map_cons, e]⟩
section
variable {w : World} {base xa : Nat} {bs : List Nat} {G : Nat → Nd} {T : Nat → Txt} {row : Nat → Value} {many : Int}
set_option maxHeartbeats 4000000 in
set_option maxRecDepth 100000 in
theorem bsf_any (h : RadR w base xa bs G T row many) {b : Nat} (hb : b ∈ bs) (c : UInt8) :
    Calls Try.prog 62 #[row b, .int .u8 (c.toNat : Int), .func (.func 63) #[] #[]] w fun e w' => ∃ (i : Nat) (f : Bool), e = .returned (.tuple #[.int .i64 (i : Int), .bool f]) ∧ Place G (G b).kids c i f ∧ Upd (fun _ => False) w w' := by
  obtain ⟨hlen, ⟨e, e0⟩ | ⟨g, cap, cs, e, hg, hB, hc, hm⟩⟩ := own_blk (h.own b hb)
  · rw [e]
    refine (Any.slices_BinarySearchFunc_none Try.layBsf none 0 _ _ w).mono ?_
    rintro e w' ⟨rfl, rfl⟩
    refine ⟨0, false, rfl, ⟨[], [], ?_, rfl, by simp, Or.inr ⟨rfl, by simp⟩⟩, Upd.refl _ _⟩
    exact List.length_eq_zero_iff.1 e0
  · rw [e]
    have hk : ∀ x ∈ (G b).kids, x ∈ bs ∧ x ≠ xa := fun x hx => ⟨(h.flat.kid b hb x hx).1, h.flat.not_root hb hx⟩
    obtain ⟨K', hK'⟩ := sub_list (p := fun x => x ∈ bs ∧ (G x).part ≠ []) (G b).kids fun x hx => ⟨(h.flat.kid b hb x hx).1, (h.flat.kid b hb x hx).2.1⟩
    have hgb : ∀ x ∈ bs, g ≠ x := fun x hx => h.row_ne hx hb (k := g) (by rw [e]; rfl)
    have hsz : K'.toArray.size = (G b).kids.length := by rw [← hK']; simp
    by_cases hne : K' = []
    · subst hne
      have hz : (G b).kids.length = 0 := by rw [← hK']; rfl
      rw [hz]
      refine (Any.slices_BinarySearchFunc_none Try.layBsf (some ⟨g, 0, none⟩) cap _ _ w).mono ?_
      rintro e w' ⟨rfl, rfl⟩
      refine ⟨0, false, rfl, ⟨[], [], ?_, rfl, by simp, Or.inr ⟨rfl, by simp⟩⟩, Upd.refl _ _⟩
      exact List.length_eq_zero_iff.1 hz
    · obtain ⟨x0, hx0⟩ := List.exists_mem_of_ne_nil _ hne
      haveI : Inhabited { x // x ∈ bs ∧ (G x).part ≠ [] } := ⟨x0⟩
      have eg : ∀ args w, (callFunc 63 args).run Try.prog w = .ok (.enter 63 args) w := enters_of Try.func63 (by kernel_rfl) rfl
      have getK : ∀ t, t < K'.toArray.size → (G b).kids[t]? = some (K'.toArray[t]!).1 := fun t ht => by
        rw [← hK', List.getElem?_map, getElem!_pos _ t ht, List.getElem_toArray, List.getElem?_eq_getElem (by simpa using ht)]; rfl
      have hH : Holds (fun x : { x // x ∈ bs ∧ (G x).part ≠ [] } => ptr x.1) w g 0 K'.toArray := fun t ht => by
        have hg' := getK t ht
        rw [Nat.zero_add]
        refine ⟨hB.cellAt ?_, hB.free t⟩
        have htl := (List.getElem?_eq_some_iff.1 hg').1
        rw [List.getElem?_append_left (by simpa using htl), List.getElem?_map, hg']; rfl
      have := Any.slices_BinarySearchFunc Try.layBsf (fun x : { x // x ∈ bs ∧ (G x).part ≠ [] } => ptr x.1) (fun _ => rfl) (.int .u8 (c.toNat : Int)) (fun x => cmpB (hdN G x.1) c) 63 #[] g 0 cap K'.toArray w eg
        (fun m os dk hdk x => by
          refine (byte_any x.1 (G x.1).part c _ x.2.2 ?_).mono ?_
          · have hc0 := h.c0 x.2.1
            have hlt := h.lt x.2.1
            refine (World.cell?_of_block (w := w) (a := ⟨x.1, 0, none⟩) ?_).trans hc0
            unfold sortWorld
            rw [heap_grow_old _ _ (by simpa [putRow, mapBlock] using hlt)]
            have := hgb x.1 x.2.1
            simp [putRow, mapBlock, Sort.ahead, Array.getElem?_modify, this]
          · rintro e w' ⟨rfl, rfl⟩
            exact ⟨rfl, 0, #[], by rw [grow_empty]; rfl⟩) hH hB.lt (by rw [hsz]; have := h.flat.kids_few hb; omega)
        (fun s t hst ht hlt => by
          rw [cmpB_lt] at hlt ⊢
          by_cases est : s = t
          · subst est; exact hlt
          · have h1 := getK s (by omega)
            have h2 := getK t ht
            obtain ⟨q1, p1⟩ := List.getElem?_eq_some_iff.1 h1
            obtain ⟨q2, p2⟩ := List.getElem?_eq_some_iff.1 h2
            have := List.pairwise_iff_getElem.1 (h.flat.sorted b hb) s t q1 q2 (by omega)
            rw [p1, p2] at this
            exact UInt8.lt_trans this hlt)
      rw [hsz] at this
      refine Calls.mono this ?_
      rintro e' w' ⟨rfl, n, os, rfl⟩
      have hcnt : List.countP (fun x : { x // x ∈ bs ∧ (G x).part ≠ [] } => decide (cmpB (hdN G x.1) c < 0)) K' = (G b).kids.countP fun x => decide (hdN G x < c) := by
        rw [← hK', List.countP_map]
        refine List.countP_congr fun x _ => ?_
        simp [cmpB_lt]
      refine ⟨_, _, rfl, placed (h.flat.sorted b hb) _ _ hcnt ?_, ?_⟩
      · rw [Bool.and_eq_true, decide_eq_true_eq, decide_eq_true_eq, cmpB_zero]
        constructor
        · rintro ⟨h1, h2⟩
          exact ⟨_, getK _ (by rw [hsz]; exact h1), h2⟩
        · rintro ⟨y, hy, h2⟩
          have hlt := (List.getElem?_eq_some_iff.1 hy).1
          have := getK _ (by rw [hsz]; exact hlt)
          rw [this] at hy
          cases hy
          exact ⟨hlt, h2⟩
      · have hp := putRow_self (fun x : { x // x ∈ bs ∧ (G x).part ≠ [] } => ptr x.1) (Sort.ahead w n) g 0 K'.toArray (fun t ht => hH t ht)
        unfold sortWorld
        rw [hp]
        exact ⟨rfl, rfl, rfl, by simp [grow, Sort.ahead], fun k hk _ => by rw [heap_grow_old _ _ (by simpa [Sort.ahead] using hk)]; rfl⟩
set_option maxHeartbeats 4000000 in
set_option maxRecDepth 100000 in
theorem place_any (h : RadR w base xa bs G T row many) {b : Nat} (hb : b ∈ bs) (c : UInt8) :
    Calls Try.prog 41 #[.pointer (some ⟨b, 0, none⟩), .int .u8 (c.toNat : Int)] w fun e w' => ∃ (i : Nat) (f : Bool), e = .returned (.tuple #[.int .i64 (i : Int), .bool f]) ∧ Place G (G b).kids c i f ∧ Upd (fun _ => False) w w' := by
  have BS := Lib.hid (bsf_any h hb c)
  have c3 := h.c3 hb
  generalize row b = v at *
  generalize (c.toNat : Int) = y at *
  clear h
  go_enter Try.func41, Try.ntmps41
  go_wp2_with fail
  refine (BS.out).mono ?_
  rintro e w1 ⟨i, f, rfl, hp, u⟩
  have HP := Lib.hid hp
  have U := Lib.hid u
  clear hp u
  go_wp2
  go_ret2
  exact ⟨i, f, rfl, HP.out, U.out⟩
end
end Go.Proofs.Ytnlbmplbaalgmaa
