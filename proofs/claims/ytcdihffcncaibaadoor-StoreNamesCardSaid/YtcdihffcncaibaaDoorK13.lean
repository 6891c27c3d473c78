/- The store beside other things: what its parts' calls do; how it stands for the plain one. -/
import Derived.Test.YtcdihffcncaibaaDoorK12
import Derived.Test.YtcdihffcncaibaaDoorShelf
import Derived.Test.YtcdihffcncaibaaDoorK11
import Derived.Test.YtcdihffcncaibaaDoorK02
import Derived.Deep.RegionHeld3
import Derived.Deep.DeepCutAuto
set_option linter.unusedVariables false
set_option linter.unusedSimpArgs false
set_option linter.unusedSectionVars false
namespace Go.Proofs.YtcdihffcncaibaaDoor
open Go.RowKit

section
variable {w w' : World} {base sb : Nat} {s : SV} {X Y : Nat → Prop}
theorem SMem.tget (h : SMem w base sb X s) (key : ByteArray) (hn : s.n ≤ 10000) (hk : key.size ≤ 100000) :
    Calls Tryd.prog 35 #[.pointer (some ⟨s.tb, 0, none⟩), .string key] w fun e w' => e = .returned (.tuple #[.int .i64 ((aget s.m key).getD 0), .bool (aget s.m key).isSome]) ∧ PartTo w base sb X w' s := by
  obtain ⟨E, t, k⟩ := h.tab
  refine (mget_any w s.tb s.n s.m E key t hn hk).mono ?_
  rintro e w' ⟨E', rfl, a, b, c⟩
  exact ⟨rfl, k w' _ _ _ a b c⟩
theorem SMem.tput (h : SMem w base sb X s) (key : ByteArray) (x : Int) (hn : s.n ≤ 10000) (hk : key.size ≤ 100000) :
    Calls Tryd.prog 21 #[.pointer (some ⟨s.tb, 0, none⟩), .string key, .int .i64 x] w fun e w' => ∃ b, e = .returned (.bool b) ∧ PartTo w base sb X w' { s with m := aset s.m key x, n := s.n + 1 } := by
  obtain ⟨E, t, k⟩ := h.tab
  refine (mput_any w s.tb s.n s.m E key x t hn hk).mono ?_
  rintro e w' ⟨r, E', rfl, a, b, c⟩
  exact ⟨r, rfl, k w' _ _ _ a b c⟩
theorem SMem.tdrop (h : SMem w base sb X s) (key : ByteArray) (hn : s.n ≤ 10000) (hk : key.size ≤ 100000) :
    Calls Tryd.prog 53 #[.pointer (some ⟨s.tb, 0, none⟩), .string key] w fun e w' => e = .returned (.tuple #[.int .i64 ((aget s.m key).getD 0), .bool (aget s.m key).isSome]) ∧ PartTo w base sb X w' { s with m := adel s.m key } := by
  obtain ⟨E, t, k⟩ := h.tab
  refine (mdrop_any w s.tb s.n s.m E key t hn hk).mono ?_
  rintro e w' ⟨E', rfl, a, b, c⟩
  exact ⟨rfl, k w' _ _ _ a b c⟩
theorem SMem.tlen (h : SMem w base sb X s) (hn : s.n ≤ 10000) :
    Calls Tryd.prog 11 #[.pointer (some ⟨s.tb, 0, none⟩)] w fun e w' => e = .returned (.int .i64 (s.m.length : Int)) ∧ Upd (fun _ => False) w w' := by
  obtain ⟨E, t, k⟩ := h.tab
  exact mlen_any w s.tb s.n s.m E t hn
theorem SMem.rtouch (h : SMem w base sb X s) (key : ByteArray) :
    Calls Tryd.prog 22 #[.pointer (some ⟨s.rb, 0, none⟩), .string key] w fun e w' => e = .returned (.bool (!decide (key ∈ s.ks))) ∧ PartTo w base sb X w' { s with ks := touched s.ks key } := by
  obtain ⟨E, t, k⟩ := h.rcn
  refine (touch_any s.rb s.ks E key w t).mono ?_
  rintro e w' ⟨rfl, E', a, b, c⟩
  exact ⟨rfl, k w' _ _ a b c⟩
theorem SMem.rdrop (h : SMem w base sb X s) (key : ByteArray) :
    Calls Tryd.prog 54 #[.pointer (some ⟨s.rb, 0, none⟩), .string key] w fun e w' => e = .returned (.bool (decide (key ∈ s.ks))) ∧ PartTo w base sb X w' { s with ks := s.ks.erase key } := by
  obtain ⟨E, t, k⟩ := h.rcn
  refine (rdrop_any s.rb s.ks E key w t).mono ?_
  rintro e w' ⟨rfl, E', a, b, c⟩
  exact ⟨rfl, k w' _ _ a b c⟩
theorem SMem.rclear (h : SMem w base sb X s) :
    Calls Tryd.prog 30 #[.pointer (some ⟨s.rb, 0, none⟩)] w fun e w' => e = .returned (.tuple #[]) ∧ PartTo w base sb X w' { s with ks := [] } := by
  obtain ⟨E, t, k⟩ := h.rcn
  refine (clear_any s.rb s.ks E w t).mono ?_
  rintro e w' ⟨rfl, E', a, b, c⟩
  exact ⟨rfl, k w' _ _ a b c⟩
theorem SMem.roldest (h : SMem w base sb X s) (but : ByteArray) :
    Calls Tryd.prog 44 #[.pointer (some ⟨s.rb, 0, none⟩), .string but] w fun e w' => e = .returned (.tuple #[.string (oldest but s.ks).1, .bool (oldest but s.ks).2]) ∧ ∃ n, w' = w.drewN n := by
  obtain ⟨E, t, k⟩ := h.rcn
  exact oldest_any s.rb s.ks E but w t
theorem SMem.xget (h : SMem w base sb X s) (key : ByteArray) :
    Calls Tryd.prog 27 #[.pointer (some ⟨s.xb, 0, none⟩), .string key] w fun e w' => e = .returned (.tuple #[.int .i64 (getV s.l key).1, .bool (getV s.l key).2]) ∧ w' = w := by
  obtain ⟨E, t, k⟩ := h.dues
  exact xget_any w base s.xb s.l E key t
theorem SMem.xdrop (h : SMem w base sb X s) (key : ByteArray) (hl : s.l.length ≤ 10000) :
    Calls Tryd.prog 23 #[.pointer (some ⟨s.xb, 0, none⟩), .string key] w fun e w' => e = .returned (.bool (decide (key ∈ s.l.map (·.2)))) ∧ PartTo w base sb X w' { s with l := dropD key s.l } := by
  obtain ⟨E, x, k⟩ := h.dues
  refine (xdrop_any w base s.xb s.l E key x hl).mono ?_
  rintro e w' ⟨rfl, E', a, b, c⟩
  exact ⟨rfl, k w' _ _ a b c⟩
end

/-- Fields that lie in blocks of Y. -/
def FldAt (w : World) (Y : Nat → Prop) (v : Value) (l : List Fd) : Prop := RowOf fdc 2 w v l ∧ (l = [] ∨ ∀ b, v.ownBlock = some b → Y b)
theorem FldAt.keep {w w' : World} {Y G : Nat → Prop} {v : Value} {l : List Fd} (h : FldAt w Y v l) (u : Upd G w w') (hd : ∀ b, Y b → ¬ G b) : FldAt w' Y v l := by
  refine ⟨?_, h.2⟩
  rcases h.2 with e | g
  · subst e; exact h.1.nilTo
  · exact h.1.keep u fun b _ hb => hd b (g b hb)
theorem FldAt.to {w : World} {Y Z : Nat → Prop} {v : Value} {l : List Fd} (h : FldAt w Y v l) (hz : ∀ b, Y b → Z b) : FldAt w Z v l :=
  ⟨h.1, h.2.imp id fun g b hb => hz b (g b hb)⟩
/-- What a store holds stands for the plain one; its items' fields lie in Y. -/
structure SRel (w : World) (Y : Nat → Prop) (s : SV) (S : PS) : Prop where
  ok : POk S
  km : ∀ k, (aget s.m k).isSome = decide (k ∈ keysC S.cells)
  nd : (akeys s.m).Nodup
  at_ : ∀ c ∈ S.cells, ∃ (i : Nat) (v : Value), aget s.m c.key = some (i : Int) ∧ s.sl[i]? = some (c.item.kind, c.item.text, v) ∧ FldAt w Y v c.item.flds
  inj : ∀ k k' i, aget s.m k = some i → aget s.m k' = some i → k = k'
  frOk : ∀ i ∈ s.fr, ∃ j : Nat, i = (j : Int) ∧ j < s.sl.length ∧ ∀ k, aget s.m k ≠ some i
  frnd : s.fr.Nodup
  ks : s.ks = keysC S.cells
  l : s.l = duesC S.cells
  byt : s.byt = bytesC S.cells
  bud : s.bud = S.budget
  ev : s.ev = S.events
  sln : s.sl.length ≤ s.n
  cln : S.cells.length ≤ s.n
def Or2 (X Z : Nat → Prop) : Nat → Prop := fun b => X b ∨ Z b
/-- A store that stands for the plain one, beside the blocks of X, behind N puts at most. -/
def SSt (w : World) (base sb : Nat) (X : Nat → Prop) (S : PS) (N : Nat) : Prop := ∃ s Z, SMem w base sb (Or2 X Z) s ∧ (∀ b, Z b → ¬ X b) ∧ SRel w Z s S ∧ s.n ≤ N
section
variable {w w' : World} {base sb : Nat} {s : SV} {X Y Z : Nat → Prop} {S : PS} {N : Nat}
theorem SRel.keep {G : Nat → Prop} (h : SRel w Y s S) (u : Upd G w w') (hd : ∀ b, Y b → ¬ G b) : SRel w' Y s S :=
  { h with at_ := fun c hc => let ⟨i, v, a, b, f⟩ := h.at_ c hc; ⟨i, v, a, b, f.keep u hd⟩ }
theorem SRel.keepF (h : SRel w Y s S) (u : Upd (Fr base (Or2 X Y)) w w') : SRel w' Y s S := h.keep u fun b hb g => g.2 (Or.inr hb)
theorem SRel.keep0 (h : SRel w Y s S) (u : Upd (fun _ => False) w w') : SRel w' Y s S := h.keep u fun b hb g => g
theorem SRel.to (h : SRel w Y s S) (hz : ∀ b, Y b → Z b) : SRel w Z s S :=
  { h with at_ := fun c hc => let ⟨i, v, a, b, f⟩ := h.at_ c hc; ⟨i, v, a, b, f.to hz⟩ }
theorem SRel.fr_len (h : SRel w Y s S) : s.fr.length ≤ s.sl.length := by
  have : (s.fr.map Int.toNat).Nodup := by
    rw [List.nodup_iff_pairwise_ne, List.pairwise_map]
    refine List.Pairwise.imp_of_mem (fun {a b} ha hb hab e => ?_) (List.nodup_iff_pairwise_ne.1 h.frnd)
    obtain ⟨i, rfl, _⟩ := h.frOk a ha
    obtain ⟨j, rfl, _⟩ := h.frOk b hb
    exact hab (by simp at e; rw [e])
  have := subset_len (m := List.range s.sl.length) this fun x hx => by
    obtain ⟨a, ha, rfl⟩ := List.mem_map.1 hx
    obtain ⟨j, rfl, hj, _⟩ := h.frOk a ha
    simpa using hj
  simpa using this
theorem SRel.l_len (h : SRel w Y s S) : s.l.length ≤ s.n := by rw [h.l]; exact Nat.le_trans (duesC_len _) h.cln
theorem SRel.get_none (h : SRel w Y s S) {k : ByteArray} (hk : k ∉ keysC S.cells) : aget s.m k = none := by
  have := h.km k
  rw [decide_eq_false hk] at this
  cases hg : aget s.m k with
  | none => rfl
  | some i => rw [hg] at this; cases this
theorem SRel.get_some (h : SRel w Y s S) {k : ByteArray} (hk : k ∈ keysC S.cells) : ∃ c, lookC S.cells k = some c ∧ c ∈ S.cells ∧ c.key = k ∧ ∃ (i : Nat) (v : Value), aget s.m k = some (i : Int) ∧ s.sl[i]? = some (c.item.kind, c.item.text, v) ∧ FldAt w Y v c.item.flds := by
  obtain ⟨c, hc, rfl⟩ := List.mem_map.1 hk
  obtain ⟨i, v, a, b, f⟩ := h.at_ c hc
  exact ⟨c, lookC_of h.ok.nd hc, hc, rfl, i, v, a, b, f⟩
theorem SRel.byt_range (h : SRel w Y s S) (hn : s.n ≤ 10000) : 0 ≤ s.byt ∧ s.byt ≤ 3000000000000 := by
  rw [h.byt]
  have h1 := bytesC_nonneg S.cells
  have h2 := bytesC_le (l := S.cells) fun c hc => ⟨small_of_right (h.ok.small c hc).1, by have := (h.ok.small c hc).2; omega⟩
  have h3 := h.cln
  exact ⟨h1, by omega⟩
theorem SRel.mlen (h : SRel w Y s S) : s.m.length = S.cells.length := by
  have hp : (akeys s.m).Perm (keysC S.cells) := (List.perm_ext_iff_of_nodup h.nd h.ok.nd).2 fun k => by
    have := h.km k
    rw [Bool.eq_iff_iff, decide_eq_true_eq] at this
    rw [← this]
    cases hk : aget s.m k with
    | none => simp [aget_none.1 hk]
    | some b => simp; exact Decidable.not_not.1 fun hh => by rw [aget_none.2 hh] at hk; cases hk
  have := hp.length_eq
  simpa [akeys, keysC] using this
theorem SRel.mkeys (h : SRel w Y s S) : sortStr (akeys s.m) = sortStr (keysC S.cells) := sortStr_congr ((List.perm_ext_iff_of_nodup h.nd h.ok.nd).2 fun k => by
    have := h.km k
    rw [Bool.eq_iff_iff, decide_eq_true_eq] at this
    rw [← this]
    cases hk : aget s.m k with
    | none => simp [aget_none.1 hk]
    | some b => simp; exact Decidable.not_not.1 fun hh => by rw [aget_none.2 hh] at hk; cases hk)
/-- When a key ends, as the dues have it. -/
theorem SRel.getV (h : SRel w Y s S) (k : ByteArray) : Go.Proofs.YtcdihffcncaibaaDoor.getV s.l k = (match lookC S.cells k with | none => (0, false) | some c => if 0 ≤ c.when then (c.when, true) else (0, false)) := by
  unfold Go.Proofs.YtcdihffcncaibaaDoor.getV
  rw [h.l]
  cases hf : (duesC S.cells).find? (fun d => decide (d.2 = k)) with
  | none =>
    rw [List.find?_eq_none] at hf
    cases hl : lookC S.cells k with
    | none => rfl
    | some c =>
      obtain ⟨h1, rfl⟩ := lookC_some hl
      simp only
      rw [if_neg]
      intro g
      have := hf (c.when, c.key) (duesC_mem.2 ⟨c, h1, g, rfl⟩)
      simp at this
  | some d =>
    have h1 := List.mem_of_find?_eq_some hf
    have h2 := List.find?_some hf
    obtain ⟨c, hc, g, rfl⟩ := duesC_mem.1 h1
    simp only [decide_eq_true_eq] at h2
    subst h2
    rw [lookC_of h.ok.nd hc]
    simp only
    rw [if_pos g]
/-- A key goes: what the parts hold behind it. -/
theorem SRel.del (h : SRel w Y s S) {k : ByteArray} (hk : k ∈ keysC S.cells) {i : Nat} (hi : aget s.m k = some (i : Int)) {z : SlV} {ev : List Ev} {cost : Int} (hc : ∀ c, lookC S.cells k = some c → cost = costI k c.item) :
    SRel w Y { s with m := adel s.m k, byt := s.byt - cost, sl := s.sl.set i z, fr := s.fr ++ [(i : Int)], ks := s.ks.erase k, l := dropD k s.l, ev := ev } { S with cells := delC S.cells k, events := ev } := by
  obtain ⟨c0, hl0, hc0, rfl, i0, v0, a0, b0, f0⟩ := h.get_some hk
  have ei : i0 = i := by rw [a0] at hi; have := Option.some.inj hi; omega
  subst ei
  refine ⟨h.ok.sub (fun c hc => (delC_mem.1 hc).1) (delC_nd h.ok.nd _), fun k' => ?_, nodup_adel h.nd _, fun c hc => ?_, fun k1 k2 j h1 h2 => ?_, fun j hj => ?_, ?_, ?_, ?_, ?_, h.bud, rfl, ?_, ?_⟩
  · show (aget (adel s.m c0.key) k').isSome = decide (k' ∈ keysC (delC S.cells c0.key))
    rw [aget_adel h.nd, ← lookC_isSome, lookC_delC]
    by_cases e : c0.key = k'
    · subst e; simp
    · have e2 : ¬ k' = c0.key := fun g => e g.symm
      rw [if_neg e, if_neg e2, h.km, ← lookC_isSome]
  · obtain ⟨h1, h2⟩ := delC_mem.1 hc
    obtain ⟨j, v, a, b, f⟩ := h.at_ c h1
    have hne : j ≠ i0 := by
      rintro rfl
      exact h2 (h.inj _ _ _ a a0)
    refine ⟨j, v, ?_, ?_, f⟩
    · show aget (adel s.m c0.key) c.key = _
      rw [aget_adel h.nd, if_neg (fun e => h2 e.symm)]; exact a
    · show (s.sl.set i0 z)[j]? = _
      rw [List.getElem?_set_ne hne.symm]; exact b
  · simp only [aget_adel h.nd] at h1 h2
    split at h1
    · cases h1
    · split at h2
      · cases h2
      · exact h.inj _ _ _ h1 h2
  · show ∃ n : Nat, j = (n : Int) ∧ n < (s.sl.set i0 z).length ∧ ∀ k, aget (adel s.m c0.key) k ≠ some j
    rw [List.length_set]
    rcases List.mem_append.1 hj with g | g
    · obtain ⟨n, e, hn, hq⟩ := h.frOk j g
      refine ⟨n, e, hn, fun k' hk' => ?_⟩
      rw [aget_adel h.nd] at hk'
      split at hk'
      · cases hk'
      · exact hq k' hk'
    · obtain rfl := List.mem_singleton.1 g
      refine ⟨i0, rfl, (List.getElem?_eq_some_iff.1 b0).1, fun k' hk' => ?_⟩
      rw [aget_adel h.nd] at hk'
      split at hk'
      · cases hk'
      · next hne => exact hne (h.inj _ _ _ a0 hk')
  · show (s.fr ++ [(i0 : Int)]).Nodup
    rw [List.nodup_append]
    refine ⟨h.frnd, by simp, fun a ha b hb e => ?_⟩
    obtain rfl := List.mem_singleton.1 hb
    subst e
    obtain ⟨n, e, hn, hq⟩ := h.frOk _ ha
    exact hq _ a0
  · show s.ks.erase c0.key = _
    rw [h.ks, delC_erase h.ok.nd]
  · show dropD c0.key s.l = _
    rw [h.l, duesC_del h.ok.nd]
  · show s.byt - cost = _
    rw [bytesC_del h.ok.nd hc0, h.byt, hc c0 hl0]
  · show (s.sl.set i0 z).length ≤ s.n
    rw [List.length_set]; exact h.sln
  · exact Nat.le_trans (delC_len _ _) h.cln
theorem SSt.ok (h : SSt w base sb X S N) : POk S := by obtain ⟨s, Z, m, hx, r, hn⟩ := h; exact r.ok
theorem SSt.bl (h : SSt w base sb X S N) : base ≤ w.heap.size := by obtain ⟨s, Z, m, hx, r, hn⟩ := h; exact m.bl
theorem SSt.more (h : SSt w base sb X S N) {N' : Nat} (hN : N ≤ N') : SSt w base sb X S N' := by obtain ⟨s, Z, m, hx, r, hn⟩ := h; exact ⟨s, Z, m, hx, r, Nat.le_trans hn hN⟩
theorem SSt.keepG {G : Nat → Prop} (h : SSt w base sb X S N) (u : Upd G w w') (hG : ∀ b, G b → X b ∧ lowB ≤ b) : SSt w' base sb X S N := by
  obtain ⟨s, Z, ⟨F, m, d, x⟩, hx, r, hn⟩ := h
  exact ⟨s, Z, ⟨F, m.keepAll u (fun i b hb hg => d i b hb (Or.inl (hG b hg).1)) (m.std.keepB u fun b hb => (hG b hb).2), d, fun b hb => Nat.lt_of_lt_of_le (x b hb) u.size⟩, hx, r.keep u (fun b hb hg => hx b hb (hG b hg).1), hn⟩
theorem SSt.keep0 (h : SSt w base sb X S N) (u : Upd (fun _ => False) w w') : SSt w' base sb X S N := h.keepG u fun _ h => h.elim
theorem SSt.std (h : SSt w base sb X S N) : Std w := by obtain ⟨s, Z, m, _⟩ := h; exact m.std
theorem SSt.lt (h : SSt w base sb X S N) : ∀ b, X b → b < w.heap.size := by
  obtain ⟨s, Z, ⟨F, m, d, x⟩, hx, r, hn⟩ := h
  exact fun b hb => x b (Or.inl hb)
theorem SMem.xlt (h : SMem w base sb X s) : ∀ b, X b → b < w.heap.size := by
  obtain ⟨F, m, d, x⟩ := h; exact x
theorem SSt.also (h : SSt w base sb X S N) (u : Upd (fun _ => False) w w') (hY : ∀ b, Y b → X b ∨ (w.heap.size ≤ b ∧ b < w'.heap.size)) : SSt w' base sb Y S N := by
  obtain ⟨s, Z, m, hx, r, hn⟩ := h
  refine ⟨s, Z, m.also u fun b hb => ?_, fun b hb hy => ?_, r.keep0 u, hn⟩
  · rcases hb with g | g
    · rcases hY b g with g | g
      · exact Or.inl (Or.inl g)
      · exact Or.inr g
    · exact Or.inl (Or.inr g)
  · rcases hY b hy with g | g
    · exact hx b hb g
    · have := m.xlt b (Or.inr hb); omega
theorem SSt.less (h : SSt w base sb X S N) (hY : ∀ b, Y b → X b) : SSt w base sb Y S N := h.also (Upd.refl _ _) fun b hb => Or.inl (hY b hb)
theorem SSt.blk (h : SSt w base sb X S N) : ∃ s, Blk w sb (storeC s) 45 ∧ s.byt = bytesC S.cells ∧ s.bud = S.budget := by
  obtain ⟨s, Z, m, hx, r, hn⟩ := h
  exact ⟨s, m.blk, r.byt, r.bud⟩
end
end Go.Proofs.YtcdihffcncaibaaDoor
/- Walks: whole numbers as text, and the document's answer. -/
set_option linter.unusedVariables false
set_option linter.unusedSimpArgs false
namespace Go.Proofs.YtcdihffcncaibaaDoor
open Go.RowKit Go.Sort Go.Proofs
open Whole (wparse refParse)

theorem upd_grow (w : World) (k : Nat) (os : Array Obj) : Upd (fun _ => False) w (grow (w.drewN k) os) :=
  ⟨rfl, rfl, rfl, by unfold grow; simp, fun i hi _ => by unfold grow; simp only; rw [Array.getElem?_append_left (show i < (w.drewN k).heap.size from hi)]; rfl⟩
theorem upd_fresh {w w' : World} (h : Below w.heap.size w w') : Upd (fun _ => False) w w' := (Upd.of_below h).weaken fun i hi h2 => by omega
theorem upd_bytes (w : World) (e : TypeId) (s : ByteArray) : Upd (fun _ => False) w (Lib.bytesWorld w e s) :=
  ⟨rfl, rfl, rfl, by simp [Lib.bytesWorld, World.freeze, World.alloc, World.drew, -World.alloc_eq, -World.drew_eq], fun i hi _ => Lib.bytesWorld_at_old w e s i hi⟩

def txt (n : Int) : ByteArray := ⟨(Lib.itoa n).toArray⟩
theorem txt_list (n : Int) : (txt n).data.toList = Lib.itoa n := rfl
theorem text_any (n : Int) (h0 : -9223372036854775808 ≤ n) (h1 : n ≤ 9223372036854775807) (w : World) (hs : Std w) :
    Calls Tryd.prog 48 #[.int .i64 n] w fun e w' => e = .returned (.string (txt n)) ∧ Upd (fun _ => False) w w' := by
  have F := Lib.hid (Tryd.strconv_FormatInt_10 n h0 h1 w hs.tab)
  clear hs h0 h1
  go_enter Tryd.func48, Tryd.ntmps48
  go_wp2_with fail
  refine F.out.mono ?_
  rintro e w' ⟨rfl, k, os, rfl⟩
  go_wp2
  go_ret
  exact ⟨rfl, upd_grow _ _ _⟩

theorem bytes_eq {a b : ByteArray} : (a.toList == b.toList) = decide (a.data.toList = b.data.toList) := by
  rw [ByteArray.toList_eq, ByteArray.toList_eq]
  rw [Bool.eq_iff_iff, beq_iff_eq, decide_eq_true_eq]
def pnum (s : ByteArray) : Int := (wparse s.data.toList).getD 0
def perr (s : ByteArray) : Int := if (wparse s.data.toList).isSome then 0 else 11

set_option maxHeartbeats 1000000 in
theorem parse_any (s : ByteArray) (hz : s.size ≤ 100000) (w : World) (hs : Std w) :
    Calls Tryd.prog 34 #[.string s] w fun e w' => e = .returned (.tuple #[.int .i64 (pnum s), .int .i64 (perr s)]) ∧ Upd (fun _ => False) w w' := by
  rcases hp : Lib.parseIntB 64 s.data.toList with v | _ | _
  case ok =>
    obtain ⟨v0, v1⟩ := Whole.parse_range hp
    have F := Lib.hid (Tryd.strconv_ParseInt_10_at64_ok s (by omega) v hp w)
    have HS := Lib.hid hs
    have HP := Lib.hid hp
    have hr : Hid (wparse s.data.toList = if Lib.itoa v = s.data.toList then some v else none) := by show wparse _ = _; unfold wparse; rw [hp]
    clear hs hp
    go_enter Tryd.func34, Tryd.ntmps34
    go_wp2_with fail
    refine F.out.mono ?_
    rintro e w1 ⟨rfl, hw⟩
    have U : Upd (fun _ => False) w w1 := by
      rcases hw with rfl | ⟨t, rfl⟩
      · exact Upd.refl _ _
      · exact upd_bytes _ _ _
    have T := Lib.hid (text_any v v0 v1 w1 (HS.out.keep U))
    have UU := Lib.hid U
    clear U hw F
    go_wp2_with fail
    refine T.out.mono ?_
    rintro e w2 ⟨rfl, u2⟩
    have U2 := Lib.hid (UU.out.trans u2 (fun _ _ h => h))
    clear u2 T UU
    by_cases hh : Lib.itoa v = s.data.toList
    · have hb : ((txt v).toList == s.toList) = true := by rw [bytes_eq, txt_list]; simp [hh]
      rw [if_pos hh] at hr
      go_wp2
      go_ret2
      refine ⟨?_, U2.out⟩
      unfold pnum perr; rw [hr.out]; rfl
    · have hb : ((txt v).toList == s.toList) = false := by rw [bytes_eq, txt_list]; simp [hh]
      rw [if_neg hh] at hr
      go_wp2
      go_ret2
      refine ⟨?_, U2.out⟩
      unfold pnum perr; rw [hr.out]; rfl
  rotate_left
  case range =>
    obtain ⟨te, pe, hv⟩ := hs.rng
    have F := Lib.hid (Tryd.strconv_ParseInt_10_at64_range_var s (by omega) hp te pe w hv)
    have hr : Hid (wparse s.data.toList = none) := by show wparse _ = _; unfold wparse; rw [hp]
    clear hs hp hv
    go_enter Tryd.func34, Tryd.ntmps34
    go_wp2_with fail
    refine F.out.mono ?_
    rintro e w1 ⟨N, rfl, _, _, hb⟩
    have U := Lib.hid (upd_fresh hb)
    clear hb F
    go_wp2
    go_ret2
    refine ⟨?_, U.out⟩
    unfold pnum perr; rw [hr.out]; rfl
  · obtain ⟨te, pe, hv⟩ := hs.syn
    have F := Lib.hid (Tryd.strconv_ParseInt_10_at64_syntax_var s (by omega) hp te pe w hv)
    have hr : Hid (wparse s.data.toList = none) := by show wparse _ = _; unfold wparse; rw [hp]
    clear hs hp hv
    go_enter Tryd.func34, Tryd.ntmps34
    go_wp2_with fail
    refine F.out.mono ?_
    rintro e w1 ⟨N, rfl, _, _, hb⟩
    have U := Lib.hid (upd_fresh hb)
    clear hb F
    go_wp2
    go_ret2
    refine ⟨?_, U.out⟩
    unfold pnum perr; rw [hr.out]; rfl
end Go.Proofs.YtcdihffcncaibaaDoor
/- Items: what they count. -/
set_option linter.unusedVariables false
set_option linter.unusedSimpArgs false
namespace Go.Proofs.YtcdihffcncaibaaDoor
open Go.RowKit

theorem perr_num (s : ByteArray) : perr s = if isNum s = true then 0 else 11 := rfl
set_option maxHeartbeats 4000000 in
set_option maxRecDepth 100000 in
theorem cost_any (key : ByteArray) (i : It) (v : Value) (w : World) (hs : Std w) (hv : RowOf fdc 2 w v i.flds) (hi : SmallI i) (hk : key.size ≤ 100000) :
    Calls Tryd.prog 18 #[.string key, itV i v] w fun e w' => e = .returned (.int .i64 (costI key i)) ∧ Upd (fun _ => False) w w' := by
  obtain ⟨kind, text, l⟩ := i
  obtain ⟨p, c, ev, hm⟩ := hv.len
  obtain ⟨h1, h2, h3⟩ := hi
  simp only at h1 h2 h3 ev hm hv
  subst ev
  show Calls _ _ #[.string key, .agg #[.int .i64 kind, .string text, .slice p l.length c]] _ _
  have HV := Lib.hid hv
  have HS := Lib.hid hs
  have FL := Lib.hid (fcost_le l h3)
  have H3 := Lib.hid h3
  have W0 : Hid (IntKind.i64.wrap (48 + (key.size : Int)) = 48 + (key.size : Int)) := i64w (by omega) (by omega)
  clear hv hs h3
  by_cases hk1 : kind = 1
  · subst hk1
    cases hn : isNum text with
    | true =>
      have CE : Hid (costI key ⟨1, text, l⟩ = 48 + (key.size : Int) + 8) := by show _ = _; unfold costI bodyI; simp [hn]
      have PE : perr text = 0 := by rw [perr_num, hn]; rfl
      have PA := Lib.hid (parse_any text h1 (w.alloc (.cells #[.int .i64 1, .string text, .slice p l.length c] 29)) (HS.out.keep ((Upd.refl _ _).alloc _)))
      rw [PE] at PA
      clear PE hn
      go_enter Tryd.func18, Tryd.ntmps18
      go_wp2_with fail
      refine (PA.out).mono ?_
      rintro e w1 ⟨rfl, u1⟩
      have U := Lib.hid (((Upd.refl (fun _ => False) w).alloc _).trans u1 (fun _ _ h => h))
      clear u1 PA
      go_wp2
      go_ret
      rw [CE.out]
      exact ⟨ret_int (by omega), U.out⟩
    | false =>
      have CE : Hid (costI key ⟨1, text, l⟩ = 48 + (key.size : Int) + (text.size : Int)) := by show _ = _; unfold costI bodyI; simp [hn]
      have PE : perr text = 11 := by rw [perr_num, hn]; rfl
      have PA := Lib.hid (parse_any text h1 (w.alloc (.cells #[.int .i64 1, .string text, .slice p l.length c] 29)) (HS.out.keep ((Upd.refl _ _).alloc _)))
      rw [PE] at PA
      clear PE hn
      have hB : Blk (w.alloc (.cells #[.int .i64 1, .string text, .slice p l.length c] 29)) w.heap.size [.int .i64 1, .string text, .slice p l.length c] 29 := Blk.made _ _ _
      go_enter Tryd.func18, Tryd.ntmps18
      go_wp2_with fail
      refine (PA.out).mono ?_
      rintro e w1 ⟨rfl, u1⟩
      have c1 : w1.cell? ⟨w.heap.size, 1, none⟩ = some (.string text) := (u1.blk hB (fun h => h)).cellAt (i := 1) rfl
      have U := Lib.hid (((Upd.refl (fun _ => False) w).alloc _).trans u1 (fun _ _ h => h))
      clear u1 PA hB
      go_wp2
      go_ret
      rw [CE.out]
      exact ⟨ret_int (by omega), U.out⟩
  · have CE : Hid (costI key ⟨kind, text, l⟩ = 48 + (key.size : Int) + fcost l) := by show _ = _; unfold costI bodyI; simp [hk1]
    have hk2 : (kind == 1) = false := by simp [hk1]
    have U0 : Hid (Upd (fun _ => False) w (w.alloc (.cells #[.int .i64 kind, .string text, .slice p l.length c] 29))) := (Upd.refl _ _).alloc _
    clear hk1 HS
    go_enter Tryd.func18, Tryd.ntmps18
    go_wp2
    go_loopw [5, 34] (fun n x wr => ∃ (k : Nat), k ≤ l.length ∧ x = .int .i64 (k : Int) ∧ n = .int .i64 (48 + (key.size : Int) + fcost (l.take k)) ∧ Hid (Upd (fun _ => False) w wr)) (fun _ x _ => l.length - (intOf x).toNat)
    case atStart => exact ⟨0, by omega, rfl, by simp [fcost], U0⟩
    case round =>
      clear U0
      obtain ⟨k, hkl, rfl, rfl, U⟩ := hrel
      by_cases hlt : k < l.length
      · obtain ⟨d, hd⟩ : ∃ d, l[k]? = some d := ⟨_, List.getElem?_eq_getElem hlt⟩
        obtain ⟨b, off, cap, ev, hb, c0, c1⟩ := fd_cells HV.out hd
        injection ev with ev1 _ ev3
        subst ev1 ev3
        have c0 := (U.out.cell (p := ⟨b, off + k * 2, none⟩) hb (fun h => h)).trans c0
        have c1 := (U.out.cell (p := ⟨b, off + k * 2 + 1, none⟩) hb (fun h => h)).trans c1
        have hq : (k : Int) < (l.length : Int) := by omega
        have T : Hid (fcost (l.take (k + 1)) = fcost (l.take k) + (16 + (d.1.size : Int) + (d.2.size : Int))) := by
          show _ = _
          rw [take_snocF hd, fcost_app]; simp [fcost]
        have B0 : Hid (0 ≤ fcost (l.take k)) := fcost_nonneg _
        have B1 : Hid (fcost (l.take (k + 1)) ≤ fcost l) := fcost_take_le _ _
        obtain ⟨z1, z2⟩ := H3.out d (List.mem_of_getElem? hd)
        obtain ⟨d1, d2⟩ := d
        simp only at c0 c1 T z1 z2
        clear hd
        generalize hx : fcost (l.take k) = x at *
        have TT := T.out
        have b0 := B0.out
        have b1 := B1.out
        have b2 := FL.out
        have x1 : x ≤ 200016000 := by omega
        have HH := Lib.hid (And.intro TT (And.intro b1 b2))
        clear TT b1 b2 hx B0 B1 T
        go_wp2
        go_roundw
        case rel => exact ⟨k + 1, by omega, by go_num, by rw [HH.out.1]; have := HH.out; congr 1; omega, U.out.alloc _⟩
        case measure => simp [intOf]; omega
      · obtain rfl : k = l.length := by omega
        rw [List.take_length]
        go_wp2
        go_ret
        rw [CE.out]
        exact ⟨rfl, U.out⟩
end Go.Proofs.YtcdihffcncaibaaDoor
/- Walks: the store tells, takes. -/
set_option linter.unusedVariables false
set_option linter.unusedSimpArgs false
set_option linter.unusedSectionVars false
namespace Go.Proofs.YtcdihffcncaibaaDoor
open Go.RowKit

theorem ev_info : (Tryd.prog.info? 37).map (fun i => (i.zero, i.size, i.bytes)) = some (some (.agg #[.int .i64 0, .string ByteArray.empty]), 2, 24) := by kernel_rfl
theorem it_info : (Tryd.prog.info? 29).map (fun i => (i.zero, i.size, i.bytes)) = some (some (.agg #[.int .i64 0, .string ByteArray.empty, .slice none 0 0]), 3, 48) := by kernel_rfl
theorem flat_oneS {α : Type} (g : α → Value) : ∀ l : List α, flat (fun a => [g a]) l = l.map g
  | [] => rfl
  | a :: l => by show [g a] ++ flat (fun a => [g a]) l = _; rw [flat_oneS g l]; rfl
def intcS (n : Int) : List Value := [.int .i64 n]
theorem IntsAt.ownS {w : World} {base : Nat} {v : Value} {l : List Int} : IntsAt w base v l ↔ OwnN intcS 1 3 w base v l := by
  unfold IntsAt OwnN intcS; rw [flat_oneS]
section
variable {w w' : World} {base sb : Nat} {s : SV} {X Y : Nat → Prop}
theorem SMem.lo (h : SMem w base sb X s) : base ≤ sb := by obtain ⟨F, r, _⟩ := h; exact (r.lt 0 sb r.f0).1
theorem SMem.nsb (h : SMem w base sb X s) {b : Nat} : (fOf s.slv b → b ≠ sb) ∧ (fOf s.frv b → b ≠ sb) ∧ (fOf s.evv b → b ≠ sb) := by
  obtain ⟨F, r, _⟩ := h
  exact ⟨fun g e => absurd (r.uniq 2 0 b (r.f2 b g) (e ▸ r.f0)) (by decide), fun g e => absurd (r.uniq 3 0 b (r.f3 b g) (e ▸ r.f0)) (by decide), fun g e => absurd (r.uniq 6 0 b (r.f6 b g) (e ▸ r.f0)) (by decide)⟩
theorem SMem.evs_app (h : SMem w base sb X s) (kind : Int) (key : ByteArray) (hl : s.ev.length ≤ 1000000) :
    ∃ p c w1, (Builtin.append_ #[32, 32] 32 #[s.evv, .slice (some ⟨w.heap.size, 0, none⟩) 1 1]).run Tryd.prog (w.alloc (.cells #[.int .i64 kind, .string key] 37)) = .ok (.slice p (s.ev.length + 1) c) w1 ∧ Blk w1 sb (storeC s) 45 ∧
      PartTo w base sb X (w1.setCell ⟨sb, 7, none⟩ (.slice p (s.ev.length + 1) c)) { s with evv := .slice p (s.ev.length + 1) c, ev := s.ev ++ [(kind, key)] } := by
  obtain ⟨i0, hi0, hz0, hz1, hz2⟩ := info_parts ev_info
  have u0 : Upd (fun _ => False) w (w.alloc (.cells #[.int .i64 kind, .string key] 37)) := (Upd.refl _ _).alloc _
  have m0 := h.keep0 u0
  obtain ⟨v', w1, a, b, c, d⟩ := OwnN.append (P := Tryd.prog) 32 32 i0 (.agg #[.int .i64 0, .string ByteArray.empty]) 24 Tryd.underlying32 hi0 hz0 hz1 hz2 rfl (by decide) (fun _ => rfl) (fun x _ => fun u hu => by simp [evc] at hu; rcases hu with rfl | rfl <;> rfl) m0.evs (RowOf.lit (f := evc) (k := 2) w (kind, key) [.int .i64 kind, .string key] 37 rfl rfl) (by unfold maxLen; simp; omega) (by simp; omega) m0.bl
  obtain ⟨p, k, e, _⟩ := b.slice
  rw [List.length_append, List.length_singleton] at e
  subst e
  have hB1 : Blk w1 sb (storeC s) 45 := c.blk m0.blk fun g => (m0.nsb).2.2 g rfl
  have hs := hB1.set 7 (.slice p (s.ev.length + 1) k)
  have P := m0.evsTo b c d ((Upd.refl (fun b => b = sb) w1).set (b := sb) (o := 7) (v := .slice p (s.ev.length + 1) k) (fun _ => rfl)) hs
  exact ⟨p, k, w1, a, hB1, P.1, Fr.trans (Fr.of0 u0) P.2⟩
end
set_option maxHeartbeats 4000000 in
set_option maxRecDepth 100000 in
theorem tell_any {w : World} {base sb : Nat} {s : SV} {X : Nat → Prop} (h : SMem w base sb X s) (kind : Int) (key : ByteArray) (hl : s.ev.length ≤ 1000000) :
    Calls Tryd.prog 24 #[.pointer (some ⟨sb, 0, none⟩), .int .i64 kind, .string key] w fun e w' => e = .returned (.tuple #[]) ∧ ∃ v, PartTo w base sb X w' { s with evv := v, ev := s.ev ++ [(kind, key)] } := by
  obtain ⟨p0, c0, e0, _⟩ := h.evs.slice
  obtain ⟨p, c, w1, hr1, hB1, P⟩ := h.evs_app kind key hl
  have d7 := h.blk.cellAt (i := 7) rfl
  have hsb := h.blk.lt
  have k7 := hB1.cellAt (i := 7) rfl
  have l1 := hB1.lt
  have f1 := hB1.free 7
  rw [e0] at hr1 d7 k7
  have PP := Lib.hid P
  clear P hB1 h
  generalize s.ev.length = n at *
  go_enter Tryd.func24, Tryd.ntmps24
  go_wp2_with (at_builtin; refine wpList_builtinN rfl _ _ 32 rfl _ _ rfl rfl hr1 ?_)
  go_wp2
  go_end0
  exact ⟨rfl, _, PP.out⟩
section
variable {w w' : World} {base sb : Nat} {s : SV} {X Y : Nat → Prop}
/-- A slot's cells. -/
theorem SMem.slot (h : SMem w base sb X s) {i : Nat} {x : SlV} (hx : s.sl[i]? = some x) : ∃ b c, s.slv = .slice (some ⟨b, 0, none⟩) s.sl.length c ∧ b < w.heap.size ∧ b ≠ sb ∧ w.cell? ⟨b, i * 3, none⟩ = some (.int .i64 x.1) ∧ w.cell? ⟨b, i * 3 + 1, none⟩ = some (.string x.2.1) ∧ w.cell? ⟨b, i * 3 + 2, none⟩ = some x.2.2 ∧ (∀ o, w.frozen? ⟨b, o, none⟩ = false) ∧ s.sl.length ≤ maxLen := by
  have o := h.slots
  rcases o.blk with ⟨_, e⟩ | ⟨b, cap, cs, e, hb, hB, h1, h2, h3⟩
  · rw [e] at hx; simp at hx
  · have o2 := o
    rw [e] at o2
    refine ⟨b, cap, e, hB.lt, (h.nsb (b := b)).1 (by unfold fOf; rw [e]; rfl), ?_, ?_, ?_, fun o => hB.free o, by omega⟩
    · have := o2.cell (fun _ => rfl) (i := i) (j := 0) (by omega) hx; simpa [slc] using this
    · have := o2.cell (fun _ => rfl) (i := i) (j := 1) (by omega) hx; simpa [slc] using this
    · have := o2.cell (fun _ => rfl) (i := i) (j := 2) (by omega) hx; simpa [slc] using this
/-- A slot is written. -/
theorem SMem.slotTo (h : SMem w base sb X s) {i : Nat} {x y : SlV} (hx : s.sl[i]? = some x) {b c : Nat} (e : s.slv = .slice (some ⟨b, 0, none⟩) s.sl.length c) :
    PartTo w base sb X (((w.setCell ⟨b, i * 3, none⟩ (.int .i64 y.1)).setCell ⟨b, i * 3 + 1, none⟩ (.string y.2.1)).setCell ⟨b, i * 3 + 2, none⟩ y.2.2) { s with sl := s.sl.set i y } := by
  have o := h.slots
  rw [e] at o
  have hil := (List.getElem?_eq_some_iff.1 hx).1
  have o1 := o.set (i := i) (j := 0) (a := x) (b := (y.1, x.2.1, x.2.2)) (x := .int .i64 y.1) (fun _ => rfl) (by omega) hx rfl
  have o2 := o1.set (i := i) (j := 1) (a := (y.1, x.2.1, x.2.2)) (b := (y.1, y.2.1, x.2.2)) (x := .string y.2.1) (fun _ => rfl) (by omega) (by rw [List.getElem?_set_self hil]) rfl
  have o3 := o2.set (i := i) (j := 2) (a := (y.1, y.2.1, x.2.2)) (b := y) (x := y.2.2) (fun _ => rfl) (by omega) (by rw [List.getElem?_set_self (by rw [List.length_set]; exact hil)]) rfl
  rw [List.set_set, List.set_set] at o3
  rw [← e] at o3
  have u : Upd (fOf s.slv) w (((w.setCell ⟨b, i * 3, none⟩ (.int .i64 y.1)).setCell ⟨b, i * 3 + 1, none⟩ (.string y.2.1)).setCell ⟨b, i * 3 + 2, none⟩ y.2.2) := by
    have hb : fOf s.slv b := by unfold fOf; rw [e]; rfl
    exact (((Upd.refl (fOf s.slv) w).set (b := b) (o := i * 3) (v := .int .i64 y.1) (fun _ => hb)).set (b := b) (o := i * 3 + 1) (v := .string y.2.1) (fun _ => hb)).set (b := b) (o := i * 3 + 2) (v := y.2.2) (fun _ => hb)
  exact h.slotSet (by simpa using o3) u
theorem SMem.free_app (h : SMem w base sb X s) (x : Int) (hl : s.fr.length ≤ 1000000) :
    ∃ p c w1, (Builtin.append_ #[41, 41] 41 #[s.frv, .slice (some ⟨w.heap.size, 0, none⟩) 1 1]).run Tryd.prog (w.alloc (.cells #[.int .i64 x] 3)) = .ok (.slice p (s.fr.length + 1) c) w1 ∧ Blk w1 sb (storeC s) 45 ∧
      PartTo w base sb X (w1.setCell ⟨sb, 2, none⟩ (.slice p (s.fr.length + 1) c)) { s with frv := .slice p (s.fr.length + 1) c, fr := s.fr ++ [x] } := by
  obtain ⟨i0, hi0, hz0, hz1, hz2⟩ := info_parts int_info
  have u0 : Upd (fun _ => False) w (w.alloc (.cells #[.int .i64 x] 3)) := (Upd.refl _ _).alloc _
  have m0 := h.keep0 u0
  obtain ⟨v', w1, a, b, c, d⟩ := OwnN.append (P := Tryd.prog) 41 41 i0 (.int .i64 0) 8 Tryd.underlying41 hi0 hz0 hz1 hz2 rfl (by decide) (fun _ => rfl) (fun _ _ => fun u hu => by simp [intcS] at hu; subst hu; rfl) (IntsAt.ownS.1 m0.free) (RowOf.lit (f := intcS) (k := 1) w x [.int .i64 x] 3 rfl rfl) (by unfold maxLen; simp; omega) (by simp; omega) m0.bl
  obtain ⟨p, k, e, _⟩ := b.slice
  rw [List.length_append, List.length_singleton] at e
  subst e
  have hB1 : Blk w1 sb (storeC s) 45 := c.blk m0.blk fun g => (m0.nsb).2.1 g rfl
  have hs := hB1.set 2 (.slice p (s.fr.length + 1) k)
  have P := m0.freeTo (IntsAt.ownS.2 b) c d ((Upd.refl (fun b => b = sb) w1).set (b := sb) (o := 2) (v := .slice p (s.fr.length + 1) k) (fun _ => rfl)) hs
  exact ⟨p, k, w1, a, hB1, P.1, Fr.trans (Fr.of0 u0) P.2⟩
theorem PartTo.trans {w1 w2 : World} {s1 s2 : SV} (h : PartTo w base sb X w1 s1) (k : PartTo w1 base sb X w2 s2) : PartTo w base sb X w2 s2 := ⟨k.1, Fr.trans h.2 k.2⟩
theorem PartTo.of0 (h : SMem w base sb X s) (u : Upd (fun _ => False) w w') : PartTo w base sb X w' s := ⟨h.keep0 u, Fr.of0 u⟩
theorem SMem.bytSet (h : SMem w base sb X s) (x : Int) : PartTo w base sb X (w.setCell ⟨sb, 5, none⟩ (.int .i64 x)) { s with byt := x } :=
  h.bytTo ((Upd.refl (fun b => b = sb) w).set (b := sb) (o := 5) (v := .int .i64 x) (fun _ => rfl)) (h.blk.set 5 (.int .i64 x))
end
end Go.Proofs.YtcdihffcncaibaaDoor
/- Walk: a key's item is taken out. -/
set_option linter.unusedVariables false
set_option linter.unusedSimpArgs false
namespace Go.Proofs.YtcdihffcncaibaaDoor
open Go.RowKit

theorem adel_none {κ ν : Type} [DecidableEq κ] {m : List (κ × ν)} {k : κ} (h : aget m k = none) : adel m k = m := by
  induction m with
  | nil => rfl
  | cons p r ih =>
    simp only [aget] at h
    split at h
    · cases h
    · next hp => unfold adel; rw [if_neg hp, ih h]
theorem itV_eta (i : It) (v : Value) : Value.agg #[.int .i64 i.kind, .string i.text, v] = itV i v := rfl
set_option maxHeartbeats 8000000 in
set_option maxRecDepth 100000 in
theorem take_any {w : World} {base sb : Nat} {s : SV} {X Z : Nat → Prop} {S : PS} (m : SMem w base sb (Or2 X Z) s) (r : SRel w Z s S) (key : ByteArray) (hn : s.n ≤ 10000) (hk : key.size ≤ 100000) :
    Calls Tryd.prog 45 #[.pointer (some ⟨sb, 0, none⟩), .string key] w fun e w' => e = .returned (.bool (wasP S key)) ∧ ∃ s', SMem w' base sb (Or2 X Z) s' ∧ SRel w' Z s' { S with cells := delC S.cells key } ∧ s'.n = s.n ∧ Upd (Fr base (Or2 X Z)) w w' := by
  have hsb := m.blk.lt
  have a0 := m.blk.cellAt (i := 0) rfl
  have D := Lib.hid (m.tdrop key hn hk)
  by_cases hw : key ∈ keysC S.cells
  · have hwas : wasP S key = true := decide_eq_true hw
    obtain ⟨c, hlc, hc, rfl, i, v, hg, hsl, hf⟩ := r.get_some hw
    rw [hg] at D
    have R := Lib.hid r
    have HW := Lib.hid hw
    have HG := Lib.hid hg
    have HSL := Lib.hid hsl
    have HF := Lib.hid hf
    have HL := Lib.hid hlc
    have HC := Lib.hid hc
    have HSZ := Lib.hid (small_of_right (r.ok.small c hc).1)
    rw [hwas]
    clear r hw hg hsl hf hlc hc hwas m
    go_enter Tryd.func45, Tryd.ntmps45
    go_wp2_with fail
    refine (D.out).mono ?_
    rintro e w1 ⟨rfl, P1⟩
    simp only [Option.getD_some, Option.isSome_some]
    have m1 := P1.1
    have U1 := Lib.hid P1.2
    obtain ⟨b, cp, e, hb, hne, c0, c1, c2, fr, hm⟩ := m1.slot HSL.out
    have f1 := HF.out.keep U1.out (fun b hb g => g.2 (Or.inr hb))
    have CO := Lib.hid (fun W (u : Upd (fun _ => False) w1 W) => cost_any c.key c.item v W (m1.std.keep u) (f1.1.keep u (fun _ _ _ h => h)) HSZ.out hk)
    have x1 : w1.cell? ⟨sb, 1, none⟩ = some (.slice (some ⟨b, 0, none⟩) s.sl.length cp) := by rw [m1.blk.cellAt (i := 1) rfl]; exact congrArg some e
    have x5 : w1.cell? ⟨sb, 5, none⟩ = some (.int .i64 s.byt) := m1.blk.cellAt (i := 5) rfl
    have l1 := m1.blk.lt
    have fx := m1.blk.free 5
    have HB := Lib.hid m1.blk
    have M1 := Lib.hid m1
    have hil := (List.getElem?_eq_some_iff.1 HSL.out).1
    have q0 := costI_pos c.key c.item
    have q1 := costI_le HSZ.out hk
    have q2 := R.out.byt_range hn
    simp only at c0 c1 c2
    clear P1 m1 D e
    generalize hco : costI c.key c.item = co at *
    have HCO := Lib.hid hco
    have HWR : Hid (IntKind.i64.wrap (s.byt - co) = s.byt - co) := i64w (by omega) (by omega)
    clear hco
    go_upto_region 4 with (fail)
    go_cut [5] (fun v5 wx => v5 = .int .i64 (i : Int) ∧ Hid (PartTo w1 base sb (Or2 X Z) wx { s with m := adel s.m c.key, byt := s.byt - co }))
    case first =>
      go_region_with (go_at_call 18; refine (CO.out _ (by first | exact Upd.refl _ _ | exact (Upd.refl _ _).drew)).mono ?_; rintro e2 w2 ⟨rfl, u2⟩; have B2 := u2.blk HB.out (fun h => h); have y5 : w2.cell? ⟨sb, 5, none⟩ = some (.int .i64 s.byt) := B2.cellAt (i := 5) rfl; have y1 : w2.cell? ⟨sb, 1, none⟩ = some (.slice (some ⟨b, 0, none⟩) s.sl.length cp) := (u2.cell (p := ⟨sb, 1, none⟩) l1 (fun h => h)).trans x1; have l2 := B2.lt; have g5 := B2.free 5; have UU : Hid (Upd (fun _ => False) w1 w2) := (by first | exact u2 | exact ((Upd.refl _ _).drew).trans u2 (fun _ _ h => h)))
      all_goals (go_wp2_with fail; go_meet; rw [HWR.out]; exact ⟨rfl, (PartTo.of0 M1.out UU.out).trans ((M1.out.keep0 UU.out).bytSet _)⟩)
    case rest =>
    obtain ⟨rfl, P2⟩ := hcut
    clear x1 x5 l1 fx c0 c1 c2 fr hb
    have l1 := P2.out.1.blk.lt
    obtain ⟨b, cp, e, hb, hne, c0, c1, c2, fr, hm⟩ := P2.out.1.slot HSL.out
    have x1 : wc.cell? ⟨sb, 1, none⟩ = some (.slice (some ⟨b, 0, none⟩) s.sl.length cp) := by rw [P2.out.1.blk.cellAt (i := 1) rfl]; exact congrArg some e
    have fr0 := fr (i * 3)
    have fr1 := fr (i * 3 + 1)
    have fr2 := fr (i * 3 + 2)
    have P3 := P2.out.1.slotTo HSL.out (y := (0, ByteArray.empty, .slice none 0 0)) e
    have PP3 := Lib.hid (P2.out.trans P3)
    simp only at c0 c1 c2
    clear e P3 fr
    go_upto_region 5 with (fail)
    go_cut [5] (fun v5 wx => v5 = .int .i64 (i : Int) ∧ Hid (PartTo w1 base sb (Or2 X Z) wx { s with m := adel s.m c.key, byt := s.byt - co, sl := s.sl.set i (0, ByteArray.empty, .slice none 0 0) }))
    case first =>
      go_wp2_with fail
      go_meet
      exact ⟨rfl, PP3.out⟩
    case rest =>
    obtain ⟨rfl, P4⟩ := hcut
    clear PP3 P2 x1 l1 fr0 fr1 fr2 c0 c1 c2 hb
    have hfl : s.fr.length ≤ 1000000 := by have := R.out.fr_len; have := R.out.sln; omega
    have lx := P4.out.1.blk.lt
    obtain ⟨p0, c0, e0, _⟩ := (IntsAt.ownS.1 P4.out.1.free).slice
    obtain ⟨p, cq, w3, hr1, hB1, P5⟩ := P4.out.1.free_app (i : Int) hfl
    have d2 := P4.out.1.blk.cellAt (i := 2) rfl
    have k2 := hB1.cellAt (i := 2) rfl
    have l3 := hB1.lt
    have f2 := hB1.free 2
    have PP5 := Lib.hid (P4.out.trans P5)
    simp only at e0 hr1 d2 k2
    rw [e0] at hr1 d2 k2
    clear P4 P5 hB1 e0 hfl
    go_upto_region 6 with (fail)
    go_cut [5] (fun v5 wx => v5 = .int .i64 (i : Int) ∧ Hid (∃ v, PartTo w1 base sb (Or2 X Z) wx { s with m := adel s.m c.key, byt := s.byt - co, sl := s.sl.set i (0, ByteArray.empty, .slice none 0 0), frv := v, fr := s.fr ++ [(i : Int)] }))
    case first =>
      go_wp2_with (at_builtin; refine wpList_builtinN rfl _ _ 41 rfl _ _ rfl rfl hr1 ?_)
      go_wp2_with fail
      go_meet
      exact ⟨rfl, _, PP5.out⟩
    case rest =>
    obtain ⟨rfl, HQ⟩ := hcut
    obtain ⟨v6, P6⟩ := HQ.out
    clear PP5 d2 k2 l3 f2 hr1 HQ
    have l6 := P6.1.blk.lt
    have d3 := P6.1.blk.cellAt (i := 3) rfl
    have RD := Lib.hid (P6.1.rdrop c.key)
    have PP6 := Lib.hid P6
    simp only at d3 RD
    clear P6
    go_wp2_with fail
    refine (RD.out).mono ?_
    rintro e w7 ⟨rfl, P7⟩
    have PP7 := Lib.hid (PP6.out.trans P7)
    have l7 := P7.1.blk.lt
    have d4 := P7.1.blk.cellAt (i := 4) rfl
    have XD := Lib.hid (P7.1.xdrop c.key (by have := R.out.l_len; exact Nat.le_trans this hn))
    simp only at d4 XD
    clear P7 RD PP6
    go_wp2_with fail
    refine (XD.out).mono ?_
    rintro e w8 ⟨rfl, P8⟩
    have PP8 := Lib.hid (PP7.out.trans P8)
    clear P8 XD PP7
    go_wp2
    go_ret
    have rr := (R.out.keepF (U1.out.trans PP8.out.2 (fun _ _ h => h))).del HW.out HG.out (z := (0, ByteArray.empty, .slice none 0 0)) (ev := s.ev) (cost := co) (fun c2 h2 => by rw [HL.out] at h2; cases h2; exact HCO.out.symm)
    refine ⟨rfl, _, PP8.out.1, ?_, rfl, Fr.trans U1.out PP8.out.2⟩
    have re := R.out.ev
    rw [re] at rr
    exact ⟨rr.ok, rr.km, rr.nd, rr.at_, rr.inj, rr.frOk, rr.frnd, rr.ks, rr.l, rr.byt, rr.bud, re, rr.sln, rr.cln⟩
  · have hwas : wasP S key = false := decide_eq_false hw
    have hg := r.get_none hw
    rw [hg] at D
    rw [hwas, delC_none hw]
    have R := Lib.hid r
    have HG := Lib.hid hg
    clear r hw hwas hg m
    go_enter Tryd.func45, Tryd.ntmps45
    go_wp2_with fail
    refine (D.out).mono ?_
    rintro e w1 ⟨rfl, P1⟩
    simp only [Option.getD_none, Option.isSome_none]
    have PP := Lib.hid P1
    clear P1 D
    go_wp2
    go_ret
    refine ⟨rfl, _, PP.out.1, ?_, rfl, PP.out.2⟩
    rw [adel_none HG.out]
    exact R.out.keepF PP.out.2
end Go.Proofs.YtcdihffcncaibaaDoor
