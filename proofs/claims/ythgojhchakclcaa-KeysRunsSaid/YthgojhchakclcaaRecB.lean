/- Walks: what was used last, and what longest ago. -/
import Derived.Test.YthgojhchakclcaaRecA
import Derived.Test.YthgojhchakclcaaStrMap
set_option linter.unusedVariables false
set_option linter.unusedSimpArgs false
namespace Go.Proofs.Ythgojhchakclcaa
open Go.RowKit
open Ring (Lk setNext setAhead chain)

/-- In block a lies what is recent: the ring's blocks bs, their links G, and the map m of keys. -/
structure RecAt (w : World) (a mb : Nat) (G : Nat → Lk) (bs : List Nat) (m : List (ByteArray × Nat)) : Prop where
  nodes : Nodes w a mb G (a :: bs)
  root : (G a).key = ByteArray.empty
  map : MapAt strEnc w mb (pm m)
  ring : chain G a bs a
  nd : (a :: bs).Nodup
  mne : mb ∉ a :: bs
  mnd : (akeys m).Nodup
  mem : ∀ k b, aget m k = some b ↔ b ∈ bs ∧ (G b).key = k
def recF (a mb : Nat) (bs : List Nat) : Nat → Prop := fun k => k = a ∨ k = mb ∨ k ∈ bs
def keysOfG (G : Nat → Lk) (bs : List Nat) : List ByteArray := bs.map fun b => (G b).key
/-- In block a lies what is recent: the keys ks, the one used longest ago first; it takes the blocks F. -/
def RecRep (w : World) (a : Nat) (ks : List ByteArray) (F : Nat → Prop) : Prop := ∃ mb G bs m, RecAt w a mb G bs m ∧ ks = keysOfG G bs ∧ F = recF a mb bs
section
variable {w : World} {a mb : Nat} {G : Nat → Lk} {bs : List Nat} {m : List (ByteArray × Nat)}
theorem RecAt.keep {w' : World} {F : Nat → Prop} (h : RecAt w a mb G bs m) (u : Upd F w w') (hF : ∀ k, recF a mb bs k → ¬ F k) : RecAt w' a mb G bs m :=
  ⟨h.nodes.keep u (fun b hb => hF b (by rcases List.mem_cons.1 hb with rfl | hb; exact Or.inl rfl; exact Or.inr (Or.inr hb))), h.root, h.map.keep u (hF _ (Or.inr (Or.inl rfl))), h.ring, h.nd, h.mne, h.mnd, h.mem⟩
theorem RecAt.lt (h : RecAt w a mb G bs m) : ∀ k, recF a mb bs k → k < w.heap.size := by
  rintro k (rfl | rfl | hk)
  · exact (h.nodes _ (by simp)).lt
  · exact h.map.lt
  · exact (h.nodes _ (by simp [hk])).lt
theorem RecAt.knd (h : RecAt w a mb G bs m) : (keysOfG G bs).Nodup := by
  unfold keysOfG
  have hn := (List.nodup_cons.1 h.nd).2
  have inj : ∀ x ∈ bs, ∀ y ∈ bs, (G x).key = (G y).key → x = y := fun x hx y hy e => by
    have h1 := (h.mem (G x).key x).2 ⟨hx, rfl⟩
    have h2 := (h.mem (G x).key y).2 ⟨hy, e.symm⟩
    rw [h1] at h2; exact Option.some.inj h2
  clear h
  induction bs with
  | nil => simp
  | cons b r ih =>
    rw [List.map_cons, List.nodup_cons]
    obtain ⟨n1, n2⟩ := List.nodup_cons.1 hn
    refine ⟨fun hm => ?_, ih n2 (fun x hx y hy e => inj x (by simp [hx]) y (by simp [hy]) e)⟩
    obtain ⟨c, hc, e⟩ := List.mem_map.1 hm
    exact n1 (inj c (by simp [hc]) b (by simp) e ▸ hc)
theorem RecAt.key_mem (h : RecAt w a mb G bs m) (k : ByteArray) : (aget m k).isSome = decide (k ∈ keysOfG G bs) := by
  rw [Bool.eq_iff_iff, decide_eq_true_eq]
  unfold keysOfG
  rw [List.mem_map]
  constructor
  · intro hs
    obtain ⟨b, hb⟩ := Option.isSome_iff_exists.1 hs
    obtain ⟨h1, h2⟩ := (h.mem k b).1 hb
    exact ⟨b, h1, h2⟩
  · rintro ⟨b, hb, e⟩
    rw [(h.mem k b).2 ⟨hb, e⟩]; rfl
theorem RecAt.mlen (h : RecAt w a mb G bs m) : m.length = bs.length := by
  have e1 : (akeys m).length = (keysOfG G bs).length := by
    refine List.Perm.length_eq ((List.perm_ext_iff_of_nodup h.mnd h.knd).2 fun k => ?_)
    have := h.key_mem k
    rw [Bool.eq_iff_iff, decide_eq_true_eq] at this
    rw [← this]
    cases hk : aget m k with
    | none => simp [aget_none.1 hk]
    | some b => simp; exact Decidable.not_not.1 fun hh => by rw [aget_none.2 hh] at hk; cases hk
  simpa [akeys, keysOfG] using e1
theorem zeroP (w : World) : (zeroValue 63).run Try.prog w = .ok (.pointer none) w := by rfl
theorem RecAt.look (h : RecAt w a mb G bs m) (key : ByteArray) (co : Bool) :
    (Instr.lookup 66 (.map (some mb)) (.string key) co).run Try.prog w = .ok (if co then .tuple #[lv (aget m key), .bool (aget m key).isSome] else lv (aget m key)) w := by
  have := h.map.look keyS Try.underlying66 (zeroP w) key co
  refine Eq.trans this ?_
  rw [pm_get]
  cases aget m key <;> rfl
end

set_option maxHeartbeats 400000 in
theorem has_any (a : Nat) (ks : List ByteArray) (F : Nat → Prop) (key : ByteArray) (w : World) (h : RecRep w a ks F) :
    Calls Try.prog 24 #[.pointer (some ⟨a, 0, none⟩), .string key] w fun e w' => e = .returned (.bool (decide (key ∈ ks))) ∧ w' = w := by
  obtain ⟨mb, G, bs, m, h, rfl, rfl⟩ := h
  have c3 := h.nodes.c3 (by simp)
  have lk := h.look key false
  rw [← h.key_mem key]
  simp only [Bool.false_eq_true, if_false] at lk
  clear h
  unfold lv at lk
  cases hk : aget m key with
  | none =>
    rw [hk] at lk
    clear hk
    simp only [Option.map_none] at lk
    go_enter Try.func24, Try.ntmps24
    go_wp2
    go_ret
    exact ⟨rfl, rfl⟩
  | some b =>
    rw [hk] at lk
    clear hk
    simp only [Option.map_some] at lk
    go_enter Try.func24, Try.ntmps24
    go_wp2
    go_ret
    exact ⟨rfl, rfl⟩
theorem rlen_any (a : Nat) (ks : List ByteArray) (F : Nat → Prop) (w : World) (h : RecRep w a ks F) (hl : ks.length ≤ 9223372036854775807) :
    Calls Try.prog 9 #[.pointer (some ⟨a, 0, none⟩)] w fun e w' => e = .returned (.int .i64 (ks.length : Int)) ∧ w' = w := by
  obtain ⟨mb, G, bs, m, h, rfl, rfl⟩ := h
  have c3 := h.nodes.c3 (by simp)
  have e : (pm m).length = (keysOfG G bs).length := by rw [pm_len, h.mlen]; simp [keysOfG]
  have ln := h.map.len 3 Try.underlying66 (by omega)
  rw [e] at ln
  clear h e
  go_enter Try.func9, Try.ntmps9
  go_wp2
  go_ret
  exact ⟨rfl, rfl⟩

/-- From one state to the next: what was written, what is new. -/
def RecTo (w w' : World) (a : Nat) (F : Nat → Prop) (ks' : List ByteArray) : Prop := ∃ F', RecRep w' a ks' F' ∧ Upd F w w' ∧ FromF F F' w
theorem keysOf_app (G : Nat → Lk) (l r : List Nat) : keysOfG G (l ++ r) = keysOfG G l ++ keysOfG G r := by simp [keysOfG]
theorem keysOf_congr {G H : Nat → Lk} {l : List Nat} (h : ∀ b ∈ l, (G b).key = (H b).key) : keysOfG G l = keysOfG H l := List.map_congr_left h
theorem keysOf_mem {G : Nat → Lk} {bs : List Nat} {k : ByteArray} : k ∈ keysOfG G bs ↔ ∃ b ∈ bs, (G b).key = k := by unfold keysOfG; exact List.mem_map
theorem erase_mid {l r : List ByteArray} {k : ByteArray} (h : (l ++ k :: r).Nodup) : (l ++ k :: r).erase k = l ++ r := by
  have hk : k ∉ l := fun hm => (List.nodup_append.1 h).2.2 k hm k (by simp) rfl
  rw [List.erase_append_right _ hk, List.erase_cons_head]

section
variable {w : World} {a mb : Nat} {G : Nat → Lk} {bs : List Nat} {m : List (ByteArray × Nat)}
/-- A key that is there: its block, and those ahead of it and behind. -/
theorem RecAt.split (h : RecAt w a mb G bs m) {key : ByteArray} {b : Nat} (hk : aget m key = some b) : ∃ l r, bs = l ++ b :: r ∧ (G b).key = key ∧ (keysOfG G bs).erase key = keysOfG G (l ++ r) := by
  obtain ⟨h1, h2⟩ := (h.mem key b).1 hk
  obtain ⟨l, r, rfl⟩ := List.append_of_mem h1
  refine ⟨l, r, rfl, h2, ?_⟩
  have hn := h.knd
  have e : keysOfG G (l ++ b :: r) = keysOfG G l ++ key :: keysOfG G r := by rw [keysOf_app]; simp [keysOfG, h2]
  rw [e] at hn ⊢
  rw [erase_mid hn, keysOf_app]
/-- The state without a key. -/
theorem RecAt.cut (h : RecAt w a mb G bs m) {w' : World} {key : ByteArray} {b : Nat} {l r : List Nat} (hk : aget m key = some b) (hb : bs = l ++ b :: r)
    (hN : Nodes w' a mb (Ring.without G b) (a :: (l ++ r))) (hM : MapAt strEnc w' mb (pm (adel m key))) : RecAt w' a mb (Ring.without G b) (l ++ r) (adel m key) := by
  have hkey := ((h.mem key b).1 hk).2
  subst hb
  have nd2 : (a :: (l ++ r)).Nodup := h.nd.sublist (by simp)
  have hmem : ∀ x, x ∈ l ++ r ↔ x ∈ l ++ b :: r ∧ x ≠ b := by
    intro x
    have hn := (List.nodup_cons.1 h.nd).2
    simp only [List.mem_append, List.mem_cons]
    have h1 := (List.nodup_append.1 hn)
    have hbr := (List.nodup_cons.1 h1.2.1).1
    constructor
    · rintro (hx | hx)
      · exact ⟨Or.inl hx, fun e => h1.2.2 x hx b (by simp) e⟩
      · exact ⟨Or.inr (Or.inr hx), fun e => hbr (e ▸ hx)⟩
    · rintro ⟨hx | hx | hx, hne⟩
      · exact Or.inl hx
      · exact absurd hx hne
      · exact Or.inr hx
  refine ⟨hN, by rw [Ring.without_key]; exact h.root, hM, Ring.chain_without h.ring h.nd, nd2, fun hm => h.mne ?_, nodup_adel h.mnd key, fun k c => ?_⟩
  · rcases List.mem_cons.1 hm with e | hm
    · simp [e]
    · have := (hmem mb).1 hm; exact List.mem_cons_of_mem _ this.1
  · rw [aget_adel h.mnd, Ring.without_key]
    by_cases e : key = k
    · rw [if_pos e]
      constructor
      · intro h; cases h
      · rintro ⟨h1, h2⟩
        obtain ⟨h3, h4⟩ := (hmem c).1 h1
        have := (h.mem k c).2 ⟨h3, h2⟩
        rw [← e, hk] at this
        exact absurd (Option.some.inj this).symm h4
    · rw [if_neg e, h.mem k c, hmem c]
      constructor
      · rintro ⟨h1, h2⟩; exact ⟨⟨h1, fun hc => e (by rw [← h2, hc, hkey])⟩, h2⟩
      · rintro ⟨⟨h1, _⟩, h2⟩; exact ⟨h1, h2⟩
/-- The state with a key more, the last one. -/
theorem RecAt.more (h : RecAt w a mb G bs m) {w' : World} {key : ByteArray} {b : Nat} (hk : aget m key = none) (hb : b ∉ a :: bs) (hbm : b ≠ mb)
    (hN : Nodes w' a mb (Ring.withLast G a b key) (b :: a :: bs)) (hM : MapAt strEnc w' mb (pm (aset m key b))) : RecAt w' a mb (Ring.withLast G a b key) (bs ++ [b]) (aset m key b) := by
  refine ⟨fun x hx => hN x ?_, ?_, hM, Ring.chain_with h.ring h.nd hb, ?_, ?_, nodup_aset h.mnd key b, fun k c => ?_⟩
  · simp only [List.mem_cons, List.mem_append] at hx ⊢; rcases hx with h | h | h
    · exact Or.inr (Or.inl h)
    · exact Or.inr (Or.inr h)
    · simp at h; exact Or.inl h
  · rw [Ring.with_key G key (fun e => hb (by simp [e]))]; exact h.root
  · have := h.nd
    simp only [List.nodup_cons, List.mem_cons, not_or, List.mem_append, List.nodup_append, List.not_mem_nil, or_false] at this hb ⊢
    refine ⟨⟨this.1, fun e => hb.1 e.symm⟩, this.2, by simp, ?_⟩
    intro x hx y hy e
    exact hb.2 (hy ▸ e ▸ hx)
  · have := h.mne
    simp only [List.mem_cons, not_or, List.mem_append, List.not_mem_nil, or_false] at this ⊢
    exact ⟨this.1, this.2, fun e => hbm e.symm⟩
  · rw [aget_aset]
    have kc : c ∈ bs → (Ring.withLast G a b key c).key = (G c).key := fun hc => Ring.with_key G key (fun e => hb (by simp [← e, hc]))
    by_cases e : key = k
    · subst e
      rw [if_pos rfl, Option.some.injEq]
      constructor
      · rintro rfl; exact ⟨by simp, Ring.with_key_at G a b key⟩
      · rintro ⟨h1, h2⟩
        simp only [List.mem_append, List.mem_cons, List.not_mem_nil, or_false] at h1
        rcases h1 with h1 | h1
        · rw [kc h1] at h2
          have := (h.mem key c).2 ⟨h1, h2⟩
          rw [hk] at this; cases this
        · exact h1.symm
    · rw [if_neg e, h.mem k c]
      constructor
      · rintro ⟨h1, h2⟩; exact ⟨by simp [h1], by rw [kc h1]; exact h2⟩
      · rintro ⟨h1, h2⟩
        simp only [List.mem_append, List.mem_cons, List.not_mem_nil, or_false] at h1
        rcases h1 with h1 | rfl
        · rw [kc h1] at h2; exact ⟨h1, h2⟩
        · rw [Ring.with_key_at] at h2; exact absurd h2 e
/-- The state with a key that was there, now the last one. -/
theorem RecAt.moved (h : RecAt w a mb G bs m) {w' : World} {key : ByteArray} {b : Nat} {l r : List Nat} (hk : aget m key = some b) (hb : bs = l ++ b :: r)
    (hN : Nodes w' a mb (Ring.withLast (Ring.without G b) a b key) (b :: a :: (l ++ r))) (hM : MapAt strEnc w' mb (pm m)) : RecAt w' a mb (Ring.withLast (Ring.without G b) a b key) (l ++ r ++ [b]) m := by
  have hkey := ((h.mem key b).1 hk).2
  subst hb
  have hp : (l ++ r ++ [b]).Perm (l ++ b :: r) := by
    rw [List.append_assoc]; exact List.Perm.append_left _ (List.perm_append_singleton b r)
  have nd2 : (a :: (l ++ r)).Nodup := h.nd.sublist (by simp)
  have hbn : b ∉ a :: (l ++ r) := by
    have : (a :: (l ++ r ++ [b])).Nodup := (hp.cons a).nodup_iff.2 h.nd
    intro hm
    rw [show a :: (l ++ r ++ [b]) = (a :: (l ++ r)) ++ [b] by simp] at this
    exact (List.nodup_append.1 this).2.2 b hm b (by simp) rfl
  have kk : ∀ c, (Ring.withLast (Ring.without G b) a b key c).key = (G c).key := fun c => by
    by_cases e : c = b
    · rw [e, Ring.with_key_at, hkey]
    · rw [Ring.with_key _ _ e, Ring.without_key]
  refine ⟨fun x hx => hN x ?_, by rw [kk]; exact h.root, hM, Ring.chain_with (Ring.chain_without h.ring h.nd) nd2 hbn, (hp.cons a).nodup_iff.2 h.nd, fun hm => h.mne ?_, h.mnd, fun k c => ?_⟩
  · simp only [List.mem_cons, List.mem_append, List.not_mem_nil, or_false] at hx ⊢
    rcases hx with h | (h | h) | h
    · exact Or.inr (Or.inl h)
    · exact Or.inr (Or.inr (Or.inl h))
    · exact Or.inr (Or.inr (Or.inr h))
    · exact Or.inl h
  · rcases List.mem_cons.1 hm with e | hm
    · simp [e]
    · exact List.mem_cons_of_mem _ (hp.mem_iff.1 hm)
  · rw [kk, hp.mem_iff]; exact h.mem k c
end
end Go.Proofs.Ythgojhchakclcaa
