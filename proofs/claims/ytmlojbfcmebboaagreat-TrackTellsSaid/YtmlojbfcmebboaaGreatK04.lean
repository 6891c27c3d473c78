/- Keys that share their beginnings: how nodes lie in memory; where one below stands. -/
import Derived.Test.YtmlojbfcmebboaaGreatK03
import Derived.Test.YtmlojbfcmebboaaGreatLayRad
import Derived.Shelf.SlCmpFuncs.BinarySearchFunc
import Derived.Shelf.SlCmpFuncs.None
import Derived.Test.YtmlojbfcmebboaaGreatK02
import Derived.Test.YtmlojbfcmebboaaGreatShelf
import Derived.Test.YtmlojbfcmebboaaGreatK01
import Derived.Laws.AppendOwn
set_option linter.unusedVariables false
set_option linter.unusedSimpArgs false
namespace Go.Proofs.YtmlojbfcmebboaaGreat
open Go.RowKit Go.Sort Go.Proofs

/-- A node's cells. -/
def ndc (d : Nd) (v : Value) : List Value := [.string (ofL d.part), .bool d.there, .int .i64 d.n, v]
structure RadR (w : World) (base xa : Nat) (bs : List Nat) (G : Nat → Nd) (T : Nat → Txt) (row : Nat → Value) (many : Int) : Prop where
  flat : Flat xa bs G T
  x : Blk w xa (ndc (G xa) (row xa) ++ [.int .i64 many]) 186
  at_ : ∀ b ∈ bs, b ≠ xa → Blk w b (ndc (G b) (row b)) 184
  own : ∀ b ∈ bs, w.ownsRow base 192 1 (row b) (G b).kids.length ((G b).kids.map ptr)
  apart : ∀ b ∈ bs, ∀ c ∈ bs, b ≠ c → ∀ k, (row b).ownBlock = some k → (row c).ownBlock ≠ some k
  lo : ∀ b ∈ bs, base ≤ b
  small : ∀ b ∈ bs, (T b).length ≤ maxLen
/-- The blocks that it takes. -/
def radF (bs : List Nat) (row : Nat → Value) : Nat → Prop := fun k => k ∈ bs ∨ ∃ b ∈ bs, (row b).ownBlock = some k
section
variable {w w' : World} {base xa : Nat} {bs : List Nat} {G : Nat → Nd} {T : Nat → Txt} {row : Nat → Value} {many : Int}
theorem RadR.blk (h : RadR w base xa bs G T row many) {b : Nat} (hb : b ∈ bs) : ∃ cs ty, Blk w b (ndc (G b) (row b) ++ cs) ty ∧ (ty = 186 ∨ ty = 184) := by
  by_cases e : b = xa
  · subst e; exact ⟨_, _, h.x, Or.inl rfl⟩
  · exact ⟨[], _, by rw [List.append_nil]; exact h.at_ b hb e, Or.inr rfl⟩
theorem RadR.c0 (h : RadR w base xa bs G T row many) {b : Nat} (hb : b ∈ bs) : w.cell? ⟨b, 0, none⟩ = some (.string (ofL (G b).part)) := by obtain ⟨cs, ty, hB, _⟩ := h.blk hb; exact hB.cellAt rfl
theorem RadR.c1 (h : RadR w base xa bs G T row many) {b : Nat} (hb : b ∈ bs) : w.cell? ⟨b, 1, none⟩ = some (.bool (G b).there) := by obtain ⟨cs, ty, hB, _⟩ := h.blk hb; exact hB.cellAt rfl
theorem RadR.c2 (h : RadR w base xa bs G T row many) {b : Nat} (hb : b ∈ bs) : w.cell? ⟨b, 2, none⟩ = some (.int .i64 (G b).n) := by obtain ⟨cs, ty, hB, _⟩ := h.blk hb; exact hB.cellAt rfl
theorem RadR.c3 (h : RadR w base xa bs G T row many) {b : Nat} (hb : b ∈ bs) : w.cell? ⟨b, 3, none⟩ = some (row b) := by obtain ⟨cs, ty, hB, _⟩ := h.blk hb; exact hB.cellAt rfl
theorem RadR.lt (h : RadR w base xa bs G T row many) {b : Nat} (hb : b ∈ bs) : b < w.heap.size := by obtain ⟨cs, ty, hB, _⟩ := h.blk hb; exact hB.lt
theorem RadR.row_ne (h : RadR w base xa bs G T row many) {b c k : Nat} (hb : b ∈ bs) (hc : c ∈ bs) (hk : (row c).ownBlock = some k) : k ≠ b := by
  rintro rfl
  obtain ⟨cs, ty, hB, ht⟩ := h.blk hb
  obtain ⟨_, _, cs', hB'⟩ := own_lt (h.own c hc) hk
  have := hB.ty hB'
  rcases ht with rfl | rfl <;> exact absurd this (by decide)
theorem RadR.keep {F : Nat → Prop} (h : RadR w base xa bs G T row many) (u : Upd F w w') (hF : ∀ k, radF bs row k → ¬ F k) : RadR w' base xa bs G T row many :=
  ⟨h.flat, u.blk h.x (hF xa (Or.inl h.flat.root)), fun b hb e => u.blk (h.at_ b hb e) (hF b (Or.inl hb)), fun b hb => own_keep (h.own b hb) u (fun k hk => hF k (Or.inr ⟨b, hb, hk⟩)), h.apart, h.lo, h.small⟩
theorem RadR.keep0 (h : RadR w base xa bs G T row many) (u : Upd (fun _ => False) w w') : RadR w' base xa bs G T row many := h.keep u (fun _ _ h => h)
theorem RadR.ge (h : RadR w base xa bs G T row many) {k : Nat} (hk : radF bs row k) : base ≤ k ∧ k < w.heap.size := by
  rcases hk with hk | ⟨b, hb, hk⟩
  · exact ⟨h.lo k hk, h.lt hk⟩
  · obtain ⟨h1, h2, _⟩ := own_lt (h.own b hb) hk; exact ⟨h2, h1⟩
theorem RadR.part_len (h : RadR w base xa bs G T row many) {b c : Nat} (hb : b ∈ bs) (hc : c ∈ (G b).kids) : (G c).part.length ≤ maxLen := by
  obtain ⟨m, _, e⟩ := h.flat.kid b hb c hc
  have := h.small c m
  rw [e, List.length_append] at this; omega
theorem Flat.kids_few (h : Flat xa bs G T) {b : Nat} (hb : b ∈ bs) : (G b).kids.length ≤ 256 := by
  have : ((G b).kids.map fun c => (hdN G c).toNat).length ≤ (List.range 256).length := by
    refine len_le_of_nodup ?_ fun x hx => ?_
    · unfold List.Nodup
      rw [List.pairwise_map]
      exact (h.sorted b hb).imp fun hlt e => by rw [UInt8.lt_iff_toNat_lt] at hlt; omega
    · obtain ⟨c, _, rfl⟩ := List.mem_map.1 hx
      rw [List.mem_range]; exact (hdN G c).toNat_lt
  simpa using this
end
/-- Where one stands that goes on with c, or would. -/
def Place (G : Nat → Nd) (K : List Nat) (c : UInt8) (i : Nat) (f : Bool) : Prop :=
  ∃ K1 K2, K = K1 ++ K2 ∧ i = K1.length ∧ (∀ x ∈ K1, hdN G x < c) ∧ ((f = true ∧ ∃ y K3, K2 = y :: K3 ∧ hdN G y = c) ∨ (f = false ∧ ∀ x ∈ K2, c < hdN G x))
theorem cmpB_lt (a b : UInt8) : cmpB a b < 0 ↔ a < b := by
  unfold cmpB; split
  · rename_i h; simp [h]
  · rename_i h; split <;> simp [h]
theorem cmpB_zero (a b : UInt8) : cmpB a b = 0 ↔ a = b := by
  unfold cmpB; split
  · rename_i h; simp; rintro rfl; exact UInt8.lt_irrefl _ h
  · rename_i h; split
    · rename_i h2; simp; rintro rfl; exact UInt8.lt_irrefl _ h2
    · rename_i h2; simp; exact UInt8.le_antisymm (UInt8.not_lt.1 h2) (UInt8.not_lt.1 h)
theorem split_at (G : Nat → Nd) (c : UInt8) : ∀ {K : List Nat}, K.Pairwise (fun a b => hdN G a < hdN G b) → ∃ K1 K2, K = K1 ++ K2 ∧ (∀ x ∈ K1, hdN G x < c) ∧ (∀ x ∈ K2, ¬ hdN G x < c)
  | [], _ => ⟨[], [], rfl, by simp, by simp⟩
  | a :: K, h => by
    rw [List.pairwise_cons] at h
    by_cases ha : hdN G a < c
    · obtain ⟨K1, K2, e, h1, h2⟩ := split_at G c h.2
      exact ⟨a :: K1, K2, by rw [e]; rfl, fun x hx => (List.mem_cons.1 hx).elim (fun e => e ▸ ha) (fun hx => h1 x hx), h2⟩
    · refine ⟨[], a :: K, rfl, by simp, fun x hx => ?_⟩
      rcases List.mem_cons.1 hx with rfl | hx
      · exact ha
      · exact fun hlt => ha (UInt8.lt_trans (h.1 x hx) hlt)
theorem placed {G : Nat → Nd} {K : List Nat} {c : UInt8} (h : K.Pairwise fun a b => hdN G a < hdN G b) (n : Nat) (f : Bool) (hn : n = K.countP fun x => decide (hdN G x < c)) (hf : f = true ↔ ∃ y, K[n]? = some y ∧ hdN G y = c) : Place G K c n f := by
  obtain ⟨K1, K2, e, h1, h2⟩ := split_at G c h
  have hc : n = K1.length := by
    rw [hn, e, List.countP_append, List.countP_eq_length.2 (fun x hx => decide_eq_true (h1 x hx)), List.countP_eq_zero.2 (fun x hx => by simpa using h2 x hx)]; rfl
  refine ⟨K1, K2, e, hc, h1, ?_⟩
  rw [e, hc, List.getElem?_append_right (Nat.le_refl _), Nat.sub_self] at hf
  cases f with
  | true =>
    obtain ⟨y, hy, he⟩ := hf.1 rfl
    cases K2 with
    | nil => cases hy
    | cons z K3 => cases hy; exact Or.inl ⟨rfl, _, _, rfl, he⟩
  | false =>
    refine Or.inr ⟨rfl, ?_⟩
    cases K2 with
    | nil => simp
    | cons z K3 =>
      have hz : c < hdN G z := by
        rcases UInt8.lt_or_lt_of_ne (a := c) (b := hdN G z) (fun e => by have := hf.2 ⟨z, rfl, e.symm⟩; cases this) with h | h
        · exact h
        · exact absurd h (h2 z (List.mem_cons_self ..))
      rw [e, List.pairwise_append, List.pairwise_cons] at h
      intro x hx
      rcases List.mem_cons.1 hx with rfl | hx
      · exact hz
      · exact UInt8.lt_trans hz (h.2.1.1 x hx)
theorem sub_list {α : Type} {p : α → Prop} : ∀ (K : List α), (∀ x ∈ K, p x) → ∃ K' : List { x // p x }, K'.map Subtype.val = K
  | [], _ => ⟨[], rfl⟩
  | a :: K, h => by
    obtain ⟨K', e⟩ := sub_list K (fun x hx => h x (List.mem_cons_of_mem _ hx))
    exact ⟨⟨a, h a (List.mem_cons_self ..)⟩ :: K', by rw [List.map_cons, e]⟩
section
variable {w : World} {base xa : Nat} {bs : List Nat} {G : Nat → Nd} {T : Nat → Txt} {row : Nat → Value} {many : Int}
set_option maxHeartbeats 4000000 in
set_option maxRecDepth 100000 in
theorem bsf_any (h : RadR w base xa bs G T row many) {b : Nat} (hb : b ∈ bs) (c : UInt8) :
    Calls Tryz.prog 159 #[row b, .int .u8 (c.toNat : Int), .func (.func 160) #[] #[]] w fun e w' => ∃ (i : Nat) (f : Bool), e = .returned (.tuple #[.int .i64 (i : Int), .bool f]) ∧ Place G (G b).kids c i f ∧ Upd (fun _ => False) w w' := by
  obtain ⟨hlen, ⟨e, e0⟩ | ⟨g, cap, cs, e, hg, hB, hc, hm⟩⟩ := own_blk (h.own b hb)
  · rw [e]
    refine (Any.slices_BinarySearchFunc_none Tryz.layBsf none 0 _ _ w).mono ?_
    rintro e w' ⟨rfl, rfl⟩
    refine ⟨0, false, rfl, ⟨[], [], ?_, rfl, by simp, Or.inr ⟨rfl, by simp⟩⟩, Upd.refl _ _⟩
    exact List.length_eq_zero_iff.1 e0
  · rw [e]
    have hk : ∀ x ∈ (G b).kids, x ∈ bs ∧ x ≠ xa := fun x hx => ⟨(h.flat.kid b hb x hx).1, h.flat.not_root hb hx⟩
    obtain ⟨K', hK'⟩ := sub_list (p := fun x => x ∈ bs ∧ (G x).part ≠ []) (G b).kids fun x hx => ⟨(h.flat.kid b hb x hx).1, (h.flat.kid b hb x hx).2.1⟩
    have hgb : ∀ x ∈ bs, g ≠ x := fun x hx => h.row_ne hx hb (k := g) (by rw [e]; rfl)
    have hsz : K'.toArray.size = (G b).kids.length := by rw [← hK']; simp
    by_cases hne : K' = []
    · subst hne
      have hz : (G b).kids.length = 0 := by rw [← hK']; rfl
      rw [hz]
      refine (Any.slices_BinarySearchFunc_none Tryz.layBsf (some ⟨g, 0, none⟩) cap _ _ w).mono ?_
      rintro e w' ⟨rfl, rfl⟩
      refine ⟨0, false, rfl, ⟨[], [], ?_, rfl, by simp, Or.inr ⟨rfl, by simp⟩⟩, Upd.refl _ _⟩
      exact List.length_eq_zero_iff.1 hz
    · obtain ⟨x0, hx0⟩ := List.exists_mem_of_ne_nil _ hne
      haveI : Inhabited { x // x ∈ bs ∧ (G x).part ≠ [] } := ⟨x0⟩
      have eg : ∀ args w, (callFunc 160 args).run Tryz.prog w = .ok (.enter 160 args) w := enters_of Tryz.func160 (by kernel_rfl) rfl
      have getK : ∀ t, t < K'.toArray.size → (G b).kids[t]? = some (K'.toArray[t]!).1 := fun t ht => by
        rw [← hK', List.getElem?_map, getElem!_pos _ t ht, List.getElem_toArray, List.getElem?_eq_getElem (by simpa using ht)]; rfl
      have hH : Holds (fun x : { x // x ∈ bs ∧ (G x).part ≠ [] } => ptr x.1) w g 0 K'.toArray := fun t ht => by
        have hg' := getK t ht
        rw [Nat.zero_add]
        refine ⟨hB.cellAt ?_, hB.free t⟩
        have htl := (List.getElem?_eq_some_iff.1 hg').1
        rw [List.getElem?_append_left (by simpa using htl), List.getElem?_map, hg']; rfl
      have := Any.slices_BinarySearchFunc Tryz.layBsf (fun x : { x // x ∈ bs ∧ (G x).part ≠ [] } => ptr x.1) (fun _ => rfl) (.int .u8 (c.toNat : Int)) (fun x => cmpB (hdN G x.1) c) 160 #[] g 0 cap K'.toArray w eg
        (fun m os dk hdk x => by
          refine (byte_any x.1 (G x.1).part c _ x.2.2 ?_).mono ?_
          · have hc0 := h.c0 x.2.1
            have hlt := h.lt x.2.1
            refine (World.cell?_of_block (w := w) (a := ⟨x.1, 0, none⟩) ?_).trans hc0
            unfold sortWorld
            rw [heap_grow_old _ _ (by simpa [putRow, mapBlock] using hlt)]
            have := hgb x.1 x.2.1
            simp [putRow, mapBlock, Sort.ahead, Array.getElem?_modify, this]
          · rintro e w' ⟨rfl, rfl⟩
            exact ⟨rfl, 0, #[], by rw [grow_empty]; rfl⟩) hH hB.lt (by rw [hsz]; have := h.flat.kids_few hb; omega)
        (fun s t hst ht hlt => by
          rw [cmpB_lt] at hlt ⊢
          by_cases est : s = t
          · subst est; exact hlt
          · have h1 := getK s (by omega)
            have h2 := getK t ht
            obtain ⟨q1, p1⟩ := List.getElem?_eq_some_iff.1 h1
            obtain ⟨q2, p2⟩ := List.getElem?_eq_some_iff.1 h2
            have := List.pairwise_iff_getElem.1 (h.flat.sorted b hb) s t q1 q2 (by omega)
            rw [p1, p2] at this
            exact UInt8.lt_trans this hlt)
      rw [hsz] at this
      refine Calls.mono this ?_
      rintro e' w' ⟨rfl, n, os, rfl⟩
      have hcnt : List.countP (fun x : { x // x ∈ bs ∧ (G x).part ≠ [] } => decide (cmpB (hdN G x.1) c < 0)) K' = (G b).kids.countP fun x => decide (hdN G x < c) := by
        rw [← hK', List.countP_map]
        refine List.countP_congr fun x _ => ?_
        simp [cmpB_lt]
      refine ⟨_, _, rfl, placed (h.flat.sorted b hb) _ _ hcnt ?_, ?_⟩
      · rw [Bool.and_eq_true, decide_eq_true_eq, decide_eq_true_eq, cmpB_zero]
        constructor
        · rintro ⟨h1, h2⟩
          exact ⟨_, getK _ (by rw [hsz]; exact h1), h2⟩
        · rintro ⟨y, hy, h2⟩
          have hlt := (List.getElem?_eq_some_iff.1 hy).1
          have := getK _ (by rw [hsz]; exact hlt)
          rw [this] at hy
          cases hy
          exact ⟨hlt, h2⟩
      · have hp := putRow_self (fun x : { x // x ∈ bs ∧ (G x).part ≠ [] } => ptr x.1) (Sort.ahead w n) g 0 K'.toArray (fun t ht => hH t ht)
        unfold sortWorld
        rw [hp]
        exact ⟨rfl, rfl, rfl, by simp [grow, Sort.ahead], fun k hk _ => by rw [heap_grow_old _ _ (by simpa [Sort.ahead] using hk)]; rfl⟩
set_option maxHeartbeats 4000000 in
set_option maxRecDepth 100000 in
theorem place_any (h : RadR w base xa bs G T row many) {b : Nat} (hb : b ∈ bs) (c : UInt8) :
    Calls Tryz.prog 123 #[.pointer (some ⟨b, 0, none⟩), .int .u8 (c.toNat : Int)] w fun e w' => ∃ (i : Nat) (f : Bool), e = .returned (.tuple #[.int .i64 (i : Int), .bool f]) ∧ Place G (G b).kids c i f ∧ Upd (fun _ => False) w w' := by
  have BS := Lib.hid (bsf_any h hb c)
  have c3 := h.c3 hb
  generalize row b = v at *
  generalize (c.toNat : Int) = y at *
  clear h
  go_enter Tryz.func123, Tryz.ntmps123
  go_wp2_with fail
  refine (BS.out).mono ?_
  rintro e w1 ⟨i, f, rfl, hp, u⟩
  have HP := Lib.hid hp
  have U := Lib.hid u
  clear hp u
  go_wp2
  go_ret2
  exact ⟨i, f, rfl, HP.out, U.out⟩
end
end Go.Proofs.YtmlojbfcmebboaaGreat
/- Keys that share their beginnings: texts cut and joined. -/
set_option linter.unusedVariables false
set_option linter.unusedSimpArgs false
namespace Go.Proofs.YtmlojbfcmebboaaGreat
open Go.RowKit

theorem ofL_extract (a : Txt) (i j : Nat) : (ofL a).extract i j = ofL ((a.take j).drop i) := by
  rw [← ofL_of ((ofL a).extract i j)]
  congr 1
  rw [ByteArray.toList_eq]
  show ((ofL a).extract i j).data.toList = _
  rw [ByteArray.data_extract]
  unfold ofL
  simp [Array.toList_extract, List.drop_take]
theorem ofL_append (a b : Txt) : ofL a ++ ofL b = ofL (a ++ b) := by
  rw [← ofL_of (ofL a ++ ofL b)]
  congr 1
  rw [ByteArray.toList_eq, ByteArray.data_append]
  unfold ofL; simp
/-- A text's first k bytes. -/
theorem run_take (a : Txt) (k : Int) (h0 : 0 ≤ k) (h1 : k ≤ (a.length : Int)) (w : World) : (Instr.slice 9 (.string (ofL a)) none (some (.int .i64 k)) none).run Tryz.prog w = .ok (.string (ofL (a.take k.toNat))) w := by
  have hs := ofL_size a
  have h2 : k ≤ ((ofL a).size : Int) := by rw [hs]; exact h1
  simp [Instr.slice, run_underlying Tryz.underlying9, Instr.sliceBounds, run_sliceBound, h0, h2, ofL_extract]
/-- A text from its byte k on. -/
theorem run_drop (a : Txt) (k : Int) (h0 : 0 ≤ k) (h1 : k ≤ (a.length : Int)) (w : World) : (Instr.slice 9 (.string (ofL a)) (some (.int .i64 k)) none none).run Tryz.prog w = .ok (.string (ofL (a.drop k.toNat))) w := by
  have hs := ofL_size a
  have h2 : k ≤ ((ofL a).size : Int) := by rw [hs]; exact h1
  simp [Instr.slice, run_underlying Tryz.underlying9, Instr.sliceBounds, run_sliceBound, h0, h1, h2, ofL_extract, hs]
theorem take_pre {a p : Txt} : a.take p.length = p ↔ p <+: a := by
  rw [List.prefix_iff_eq_take]; exact eq_comm
set_option maxHeartbeats 4000000 in
set_option maxRecDepth 100000 in
theorem begins_any (a p : Txt) (w : World) : Calls Tryz.prog 117 #[.string (ofL a), .string (ofL p)] w fun e w' => e = .returned (.bool (decide (p <+: a))) ∧ w' = w := by
  have s1 := ofL_size a
  have s2 := ofL_size p
  have key : Calls Tryz.prog 149 #[.string (ofL a), .string (ofL p)] w fun e w' => e = .returned (.bool (decide (p <+: a))) ∧ w' = w := by
    by_cases hl : p.length ≤ a.length
    · have q1 : (p.length : Int) ≤ (a.length : Int) := by omega
      have q2 : ((p.length : Int)).toNat = p.length := by omega
      have rt := run_take a (p.length : Int) (by omega) (by omega)
      rw [q2] at rt
      have hb : ((ofL (a.take p.length)).toList == (ofL p).toList) = decide (p <+: a) := by
        rw [ofL_toList, ofL_toList]
        by_cases h : p <+: a
        · rw [decide_eq_true h, take_pre.2 h]; simp
        · rw [decide_eq_false h]
          rw [beq_eq_false_iff_ne]; exact fun e => h (take_pre.1 e)
      generalize decide (p <+: a) = res at *
      generalize ofL (a.take p.length) = t at *
      generalize ofL a = sa at *
      generalize ofL p = sp at *
      generalize a.length = la at *
      generalize p.length = lp at *
      clear hl
      go_enter Tryz.func149, Tryz.ntmps149
      go_wp2
      go_ret
      exact ⟨rfl, rfl⟩
    · have q1 : ¬ (p.length : Int) ≤ (a.length : Int) := by omega
      have hr : decide (p <+: a) = false := decide_eq_false fun h => hl h.length_le
      rw [hr]
      generalize ofL a = sa at *
      generalize ofL p = sp at *
      generalize a.length = la at *
      generalize p.length = lp at *
      clear hl hr
      go_enter Tryz.func149, Tryz.ntmps149
      go_wp2
      go_ret
      exact ⟨rfl, rfl⟩
  have KK := Lib.hid key
  clear key
  generalize decide (p <+: a) = res at *
  generalize ofL a = sa at *
  generalize ofL p = sp at *
  go_enter Tryz.func117, Tryz.ntmps117
  go_wp2_with fail
  refine (KK.out).mono ?_
  rintro e w1 ⟨rfl, rfl⟩
  go_wp2
  go_ret
  exact ⟨rfl, rfl⟩
end Go.Proofs.YtmlojbfcmebboaaGreat
/- Modes: what may be said, and what is told; the same mode; which can be. -/
set_option linter.unusedVariables false
set_option linter.unusedSimpArgs false
namespace Go.Proofs.YtmlojbfcmebboaaGreat
open Go.RowKit

def txtc (t : Txt) : List Value := [.string (ofL t)]
def mdc (m : MD) (v : Value) : List Value := [.bool m.on, .bool m.bc, .bool m.oi, .bool m.oo, .bool m.nl, .int .i64 m.rd, v]
def mdV (m : MD) (v : Value) : Value := .agg #[.bool m.on, .bool m.bc, .bool m.oi, .bool m.oo, .bool m.nl, .int .i64 m.rd, v]
theorem txts_row {w : World} {base : Nat} {v : Value} {l : List Txt} (h : TxtsAt w base v l) : RowOf txtc 1 w v l := by
  obtain ⟨_, ⟨rfl, e⟩ | ⟨g, cap, cs, rfl, hg, hB, hc, hm⟩⟩ := own_blk h
  · exact Or.inl ⟨none, 0, rfl, List.length_eq_zero_iff.1 e⟩
  · refine Or.inr ⟨g, 0, cap, rfl, hB.lt, by omega, fun i t hi j hj => ?_⟩
    obtain rfl : j = 0 := by omega
    have hil := (List.getElem?_eq_some_iff.1 hi).1
    rw [Nat.mul_one, Nat.zero_add, Nat.add_zero, hB.cell, List.getElem?_append_left (by simpa using hil), List.getElem?_map, hi]; rfl
theorem txt_rcell {w : World} {p : Option Addr} {cap : Nat} {l : List Txt} (h : RowOf txtc 1 w (.slice p l.length cap) l) {k : Nat} (hk : k < l.length) :
    ∃ b off, p = some ⟨b, off, none⟩ ∧ b < w.heap.size ∧ w.cell? ⟨b, off + k, none⟩ = some (.string (ofL l[k])) := by
  rcases h with ⟨_, _, _, e⟩ | ⟨b, off, c, e, hb, _, hc⟩
  · rw [e] at hk; simp at hk
  · simp only [Value.slice.injEq] at e
    refine ⟨b, off, e.1, hb, ?_⟩
    have := hc k _ (List.getElem?_eq_getElem hk) 0 (by omega); simpa [txtc] using this
set_option maxHeartbeats 2000000 in
theorem tracks_any (m : MD) (v : Value) (c : Int) (w : World) : Calls Tryz.prog 49 #[mdV m v, .int .i64 c] w fun e w' => e = .returned (.bool (tracksM m c)) ∧ Upd (fun _ => False) w w' := by
  obtain ⟨on, bc, oi, oo, nl, rd, ps⟩ := m
  have U : Hid (∀ o, Upd (fun _ => False) w (w.alloc o)) := fun o => (Upd.refl _ _).alloc o
  unfold mdV tracksM
  dsimp only
  by_cases h1 : c = 1
  · subst h1
    cases on <;> cases bc <;> cases oi <;> cases oo <;> (
      go_enter Tryz.func49, Tryz.ntmps49
      go_wp2
      go_ret
      exact ⟨rfl, U.out _⟩)
  · by_cases h2 : c = 2
    · subst h2
      cases on <;> cases bc <;> cases oi <;> cases oo <;> (
        go_enter Tryz.func49, Tryz.ntmps49
        go_wp2
        go_ret
        exact ⟨rfl, U.out _⟩)
    · have e1 : decide (c = 1) = false := decide_eq_false h1
      have e2 : decide (c ≠ 2) = true := decide_eq_true h2
      have e3 : (c == 1) = false := beq_eq_false_iff_ne.2 h1
      have e4 : (c != 2) = true := by rw [bne_iff_ne]; exact h2
      rw [e1, e2]
      cases on <;> cases bc <;> cases oi <;> cases oo <;> (
        go_enter Tryz.func49, Tryz.ntmps49
        go_wp2
        go_ret
        exact ⟨rfl, U.out _⟩)
set_option maxHeartbeats 2000000 in
theorem caching_any (m : MD) (v : Value) (yes : Bool) (w : World) : Calls Tryz.prog 60 #[mdV m v, .bool yes] w fun e w' => e = .returned (.int .i64 (cachM m yes)) ∧ Upd (fun _ => False) w w' := by
  obtain ⟨on, bc, oi, oo, nl, rd, ps⟩ := m
  have U : Hid (∀ o, Upd (fun _ => False) w (w.alloc o)) := fun o => (Upd.refl _ _).alloc o
  unfold mdV cachM
  dsimp only
  cases on <;> cases oi <;> cases oo <;> cases yes <;> (
    go_enter Tryz.func60, Tryz.ntmps60
    go_wp2
    go_ret
    exact ⟨rfl, U.out _⟩)
set_option maxHeartbeats 4000000 in
set_option maxRecDepth 100000 in
theorem prefixes_any (v : Value) (l : List Txt) (w : World) (h : RowOf txtc 1 w v l) (hl : l.length ≤ 1000000) (hs : ∀ t ∈ l, t.length ≤ maxLen) :
    Calls Tryz.prog 85 #[v] w fun e w' => e = .returned (.bool (decide (preR l))) ∧ Upd (fun _ => False) w w' := by
  obtain ⟨p, c, ev, hm⟩ := h.len
  subst ev
  have H := Lib.hid h
  have HS := Lib.hid hs
  obtain ⟨nl, hnl⟩ : ∃ nl, nl = l.length := ⟨_, rfl⟩
  rw [← hnl] at hl hm ⊢
  have NL := Lib.hid hnl
  have PR := Lib.hid (preR_iff (l := l))
  clear h hs hnl
  go_enter Tryz.func85, Tryz.ntmps85
  go_wp2
  go_loopw [7] (fun x7 wr => ∃ (k : Nat), k ≤ nl ∧ x7 = .int .i64 (k : Int) ∧ Hid (preA l k) ∧ Hid (Upd (fun _ => False) w wr)) (fun x7 _ => nl - (intOf x7).toNat)
  case atStart => exact ⟨0, by omega, rfl, Lib.hid (preA_zero l), Lib.hid (Upd.refl _ _)⟩
  case round =>
    obtain ⟨k, hk, rfl, PA, U⟩ := hrel
    by_cases hlt : k < nl
    · have q1 : (k : Int) < (nl : Int) := by omega
      have hkl : k < l.length := by rw [← NL.out]; exact hlt
      obtain ⟨b, off, ep, hb, c0⟩ := txt_rcell (H.out.keep U.out (fun _ _ _ h => h)) hkl
      have GK := Lib.hid (List.getElem?_eq_getElem hkl)
      obtain ⟨t, ht⟩ : ∃ t, t = l[k] := ⟨_, rfl⟩
      rw [← ht] at c0 GK
      have tsz := ofL_size t
      have HT := Lib.hid (HS.out t (List.mem_of_getElem? GK.out))
      clear ht
      have CELL : Hid (∀ j (hj : j < l.length), wr.cell? ⟨b, off + j, none⟩ = some (.string (ofL l[j])) ∧ l[j]? = some l[j]) := fun j hjl => by
        obtain ⟨b', off', ep', hb', c0'⟩ := txt_rcell (H.out.keep U.out (fun _ _ _ h => h)) hjl
        obtain ⟨rfl, rfl⟩ : b = b' ∧ off = off' := by rw [ep] at ep'; injection ep' with e; injection e with e1 e2; exact ⟨e1, e2⟩
        exact ⟨c0', List.getElem?_eq_getElem hjl⟩
      subst ep
      by_cases h5 : 512 < t.length
      · have q2 : (512 : Int) < (t.length : Int) := by omega
        have R : Hid (decide (preR l) = false) := decide_eq_false (fun hR => preA_not hkl GK.out (Or.inl h5) (PR.out.1 hR).1)
        clear hkl CELL
        generalize ofL t = st at *
        generalize t.length = lt at *
        go_wp2
        go_ret
        exact ⟨by rw [R.out]; rfl, U.out⟩
      · have q2 : ¬ (512 : Int) < (t.length : Int) := by omega
        have H5 := Lib.hid h5
        by_cases hk0 : k = 0
        · subst hk0
          rw [Nat.add_zero] at c0
          have PA2 : Hid (preA l (0 + 1)) := preA_succ PA.out GK.out (by have := H5.out; omega) (fun q h0 => by omega)
          clear hkl CELL h5
          generalize ofL t = st at *
          generalize t.length = lt at *
          go_wp2
          go_roundw
          case rel => exact ⟨0 + 1, by omega, by simp, PA2, U⟩
          case measure => simp [intOf]; omega
        · obtain ⟨j, rfl⟩ : ∃ j, k = j + 1 := ⟨k - 1, by omega⟩
          obtain ⟨c1, gj⟩ := CELL.out j (by have := NL.out; omega)
          have GJ := Lib.hid gj
          obtain ⟨q, hq⟩ : ∃ q, q = l[j]'(by have := NL.out; omega) := ⟨_, rfl⟩
          rw [← hq] at c1 GJ
          have q3 : (0 : Int) < (j : Int) + 1 := by omega
          have q4 : (j : Int) < (nl : Int) := by omega
          have LQ := less_txt q t
          have BE := Lib.hid (begins_any t q wr)
          clear hq gj CELL hkl hk0 h5
          have NO : Hid ((¬ q < t ∨ q <+: t) → decide (preR l) = false) := fun hh => decide_eq_false (fun hR => preA_not (k := j + 1) (by have := NL.out; omega) GK.out (Or.inr ⟨q, by omega, by rw [Nat.add_sub_cancel]; exact GJ.out, hh⟩) (PR.out.1 hR).1)
          by_cases hlt2 : q < t
          · rw [decide_eq_true hlt2] at LQ
            by_cases hpre : q <+: t
            · rw [decide_eq_true hpre] at BE
              have R := Lib.hid (NO.out (Or.inr hpre))
              clear hlt2 hpre NO
              generalize ofL q = sq at *
              generalize ofL t = st at *
              generalize t.length = lt at *
              go_wp2_with (go_at_call 117; refine (BE.out).mono ?_; rintro e w5 ⟨rfl, rfl⟩)
              go_ret
              exact ⟨by rw [R.out]; rfl, U.out⟩
            · rw [decide_eq_false hpre] at BE
              have PA2 : Hid (preA l (j + 1 + 1)) := preA_succ PA.out GK.out (by have := H5.out; omega) (fun q' h0 hq' => by
                rw [Nat.add_sub_cancel, GJ.out] at hq'; injection hq' with e; subst e; exact ⟨hlt2, hpre⟩)
              clear hlt2 hpre NO
              generalize ofL q = sq at *
              generalize ofL t = st at *
              generalize t.length = lt at *
              go_wp2_with (go_at_call 117; refine (BE.out).mono ?_; rintro e w5 ⟨rfl, rfl⟩)
              go_roundw
              case rel => exact ⟨j + 1 + 1, by omega, by simp, PA2, U⟩
              case measure => simp [intOf]; omega
          · rw [decide_eq_false hlt2] at LQ
            have R := Lib.hid (NO.out (Or.inl hlt2))
            clear hlt2 NO BE
            generalize ofL q = sq at *
            generalize ofL t = st at *
            generalize t.length = lt at *
            go_wp2
            go_ret
            exact ⟨by rw [R.out]; rfl, U.out⟩
    · have q1 : ¬ (k : Int) < (nl : Int) := by omega
      have ek : k = l.length := by have := NL.out; omega
      have PA3 : Hid (preA l l.length) := by rw [ek] at PA; exact PA
      clear PA ek
      by_cases h1 : 1 ≤ nl
      · have q5 : (1 : Int) ≤ (nl : Int) := by omega
        by_cases h2 : nl ≤ 32
        · have q6 : (nl : Int) ≤ 32 := by omega
          have R : Hid (decide (preR l) = true) := decide_eq_true (PR.out.2 ⟨PA3.out, by rw [← NL.out]; exact h1, by rw [← NL.out]; exact h2⟩)
          clear h1 h2
          go_wp2
          go_ret
          exact ⟨by rw [R.out]; first | rfl | simp [q6], U.out⟩
        · have q6 : ¬ (nl : Int) ≤ 32 := by omega
          have R : Hid (decide (preR l) = false) := decide_eq_false (fun hR => by have := (PR.out.1 hR).2.2; rw [← NL.out] at this; exact h2 this)
          clear h1 h2
          go_wp2
          go_ret
          exact ⟨by rw [R.out]; first | rfl | simp [q6], U.out⟩
      · have q5 : ¬ (1 : Int) ≤ (nl : Int) := by omega
        have R : Hid (decide (preR l) = false) := decide_eq_false (fun hR => by have := (PR.out.1 hR).2.1; rw [← NL.out] at this; exact h1 this)
        clear h1
        go_wp2
        go_ret
        exact ⟨by rw [R.out]; first | rfl | simp [q5], U.out⟩
end Go.Proofs.YtmlojbfcmebboaaGreat
/- Append to a row of the call's own: where the longer row lies. -/
set_option linter.unusedVariables false
set_option linter.unusedSimpArgs false
namespace Go.Proofs.YtmlojbfcmebboaaGreat
open Go.RowKit

/-- Rows that lie where the old one lay, or in a new block. -/
def NewOr (v v' : Value) (w : World) : Prop := ∀ k, v'.ownBlock = some k → v.ownBlock = some k ∨ w.heap.size ≤ k
theorem run_append_where {P : Program} (w : World) (base : Nat) (t ty e : TypeId) (i : TypeInfo) (z : Value) (size bytes : Nat) (ht : P.underlying t = some (.slice e)) (hi : P.info? e = some i) (hz : i.zero = some z)
    (hsize : i.size = size) (hby : i.bytes = bytes) (v : Value) (n : Nat) (xs : List Value) (hown : w.ownsRow base e size v n xs)
    (a : Addr) (m c : Nat) (news : List Value) (hl : news.length = m * size) (hnews : ∀ j u, news[j]? = some u → w.cell? (a.add j) = some u) (h1 : ∀ u ∈ news, u.oneCell' = true) (hm : 0 < m)
    (h63 : n + m ≤ maxLen) (hbytes : (n + m) * bytes ≤ 140737488355328) :
    ∀ v' w', (Builtin.append_ #[t, t] ty #[v, .slice (some a) m c]).run P w = .ok v' w' → NewOr v v' w := by
  intro v' w' hr k hk
  subst hsize hby
  have h64 : n + m ≤ 9223372036854775807 := by simp only [maxLen] at h63; omega
  have hn := hown.1
  rcases hown.2 with ⟨rfl, rfl⟩ | ⟨g, cap, cur, rfl, _, hg, hnc, hcm, hcs, _⟩
  · have := run_append_nil (P := P) (ty := ty) w t e i z ht hi hz a m c news hl hnews hm (by omega) (by simp only [Nat.zero_add] at hbytes; omega)
    rw [this] at hr
    injection hr with e1 e2
    subst e1; cases hk; exact Or.inr (Nat.le_refl _)
  · by_cases hroom : n + m ≤ cap
    · have := run_append_room (P := P) (ty := ty) w t e i ht hi g n cap cur hg a m c news hl hnews h1 hroom (by rw [hl, hcs, ← Nat.add_mul]; exact Nat.mul_le_mul_right _ hroom)
      rw [this] at hr
      injection hr with e1 e2
      subst e1; exact Or.inl hk
    · have := run_append_grow (P := P) (ty := ty) w t e i z ht hi hz ⟨g, 0, none⟩ n cap xs hn (hown.cells (g := g) rfl) a m c news hl hnews (by omega) (by omega) (growslice_fits (by omega) hbytes)
      rw [this] at hr
      injection hr with e1 e2
      subst e1; cases hk; exact Or.inr (Nat.le_refl _)
theorem wpList_append_where {P : Program} {ops : Array Oper} {rest : List Oper} {o : Oper} {a : Act} {Q : Exit → Act → World → Prop} (w : World) (hgd : o.guard = none) (s x : Operand) (t : TypeId)
    (ho : o.op = .call { callee := .builtin .append, args := #[s, x], argTypes := #[t, t] })
    (base : Nat) (e : TypeId) (i : TypeInfo) (z : Value) (size bytes : Nat) (ht : P.underlying t = some (.slice e)) (hi : P.info? e = some i) (hz : i.zero = some z)
    (hsize : i.size = size) (hby : i.bytes = bytes) (hzs : z.cells.size = size) (hsz : 0 < size)
    (v : Value) (n : Nat) (xs : List Value) (hs : a.eval s = v) (hown : w.ownsRow base e size v n xs)
    (ad : Addr) (m c : Nat) (news : List Value) (hx : a.eval x = .slice (some ad) m c) (hl : news.length = m * size) (hnews : ∀ j u, news[j]? = some u → w.cell? (ad.add j) = some u) (h1 : ∀ u ∈ news, u.oneCell' = true)
    (h63 : n + m ≤ maxLen) (hbytes : (n + m) * bytes ≤ 140737488355328) (hbase : base ≤ w.heap.size) (hm : 0 < m)
    (h : ∀ v' w', w'.ownsRow base e size v' (n + m) (xs ++ news) → Upd (fun k => v.ownBlock = some k) w w' → NewOr v v' w → wpList P ops Q rest (a.put o.dst v') w') : wpList P ops Q (o :: rest) a w :=
  wpList_plain hgd fun K hK => by
    obtain ⟨v', w', hr, h2, h3, _⟩ := run_append_own (P := P) w base t o.type e i z size bytes ht hi hz hsize hby hzs hsz v n xs hown ad m c news hl hnews h1 h63 hbytes hbase
    have hw := run_append_where (P := P) w base t o.type e i z size bytes ht hi hz hsize hby v n xs hown ad m c news hl hnews h1 hm h63 hbytes v' w' hr
    unfold Oper.wp execOp
    simp only [ho, resolve, invoke, builtin, Sem.run_bind, Sem.run_pure, Result.andThen_ok, List.map_toArray, List.map_cons, List.map_nil, hs, hx, hr]
    exact hK _ _ (h v' w' h2 ((Upd.of_grown h3).weaken (fun k _ hk => hk.symm)) hw)
end Go.Proofs.YtmlojbfcmebboaaGreat
