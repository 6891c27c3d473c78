/- Walks: what was used last, and what longest ago. -/
import Derived.Test.YtgdenmddbgcacaaGreatDoorK08
import Derived.Test.YtgdenmddbgcacaaGreatDoorK02
import Derived.Lib.Builder
import Derived.Test.YtgdenmddbgcacaaGreatDoorK05
import Derived.Test.YtgdenmddbgcacaaGreatDoorK01
import Derived.LoopN
import Derived.Deep.RegionHeld3
import Derived.Sort.Grow
import Derived.Deep.DeepCutAuto
import Derived.Test.YtgdenmddbgcacaaGreatDoorRows
set_option linter.unusedVariables false
set_option linter.unusedSimpArgs false
set_option maxRecDepth 100000
namespace Go.Proofs.YtgdenmddbgcacaaGreatDoor
open Go.RowKit
open Ring (Lk setNext setAhead chain)

/-- In block a lies what is recent: the ring's blocks bs, their links G, and the map m of keys. -/
structure RecAt (w : World) (a mb : Nat) (G : Nat → Lk) (bs : List Nat) (m : List (ByteArray × Nat)) : Prop where
  nodes : Nodes w a mb G (a :: bs)
  root : (G a).key = ByteArray.empty
  map : MapAt strEnc w mb (pm m)
  ring : chain G a bs a
  nd : (a :: bs).Nodup
  mne : mb ∉ a :: bs
  mnd : (akeys m).Nodup
  mem : ∀ k b, aget m k = some b ↔ b ∈ bs ∧ (G b).key = k
def recF (a mb : Nat) (bs : List Nat) : Nat → Prop := fun k => k = a ∨ k = mb ∨ k ∈ bs
def keysOfG (G : Nat → Lk) (bs : List Nat) : List ByteArray := bs.map fun b => (G b).key
/-- In block a lies what is recent: the keys ks, the one used longest ago first; it takes the blocks F. -/
def RecRep (w : World) (a : Nat) (ks : List ByteArray) (F : Nat → Prop) : Prop := ∃ mb G bs m, RecAt w a mb G bs m ∧ ks = keysOfG G bs ∧ F = recF a mb bs
section
variable {w : World} {a mb : Nat} {G : Nat → Lk} {bs : List Nat} {m : List (ByteArray × Nat)}
theorem RecAt.keep {w' : World} {F : Nat → Prop} (h : RecAt w a mb G bs m) (u : Upd F w w') (hF : ∀ k, recF a mb bs k → ¬ F k) : RecAt w' a mb G bs m :=
  ⟨h.nodes.keep u (fun b hb => hF b (by rcases List.mem_cons.1 hb with rfl | hb; exact Or.inl rfl; exact Or.inr (Or.inr hb))), h.root, h.map.keep u (hF _ (Or.inr (Or.inl rfl))), h.ring, h.nd, h.mne, h.mnd, h.mem⟩
theorem RecAt.lt (h : RecAt w a mb G bs m) : ∀ k, recF a mb bs k → k < w.heap.size := by
  rintro k (rfl | rfl | hk)
  · exact (h.nodes _ (by simp)).lt
  · exact h.map.lt
  · exact (h.nodes _ (by simp [hk])).lt
theorem RecAt.knd (h : RecAt w a mb G bs m) : (keysOfG G bs).Nodup := by
  unfold keysOfG
  have hn := (List.nodup_cons.1 h.nd).2
  have inj : ∀ x ∈ bs, ∀ y ∈ bs, (G x).key = (G y).key → x = y := fun x hx y hy e => by
    have h1 := (h.mem (G x).key x).2 ⟨hx, rfl⟩
    have h2 := (h.mem (G x).key y).2 ⟨hy, e.symm⟩
    rw [h1] at h2; exact Option.some.inj h2
  clear h
  induction bs with
  | nil => simp
  | cons b r ih =>
    rw [List.map_cons, List.nodup_cons]
    obtain ⟨n1, n2⟩ := List.nodup_cons.1 hn
    refine ⟨fun hm => ?_, ih n2 (fun x hx y hy e => inj x (by simp [hx]) y (by simp [hy]) e)⟩
    obtain ⟨c, hc, e⟩ := List.mem_map.1 hm
    exact n1 (inj c (by simp [hc]) b (by simp) e ▸ hc)
theorem RecAt.key_mem (h : RecAt w a mb G bs m) (k : ByteArray) : (aget m k).isSome = decide (k ∈ keysOfG G bs) := by
  rw [Bool.eq_iff_iff, decide_eq_true_eq]
  unfold keysOfG
  rw [List.mem_map]
  constructor
  · intro hs
    obtain ⟨b, hb⟩ := Option.isSome_iff_exists.1 hs
    obtain ⟨h1, h2⟩ := (h.mem k b).1 hb
    exact ⟨b, h1, h2⟩
  · rintro ⟨b, hb, e⟩
    rw [(h.mem k b).2 ⟨hb, e⟩]; rfl
theorem RecAt.mlen (h : RecAt w a mb G bs m) : m.length = bs.length := by
  have e1 : (akeys m).length = (keysOfG G bs).length := by
    refine List.Perm.length_eq ((List.perm_ext_iff_of_nodup h.mnd h.knd).2 fun k => ?_)
    have := h.key_mem k
    rw [Bool.eq_iff_iff, decide_eq_true_eq] at this
    rw [← this]
    cases hk : aget m k with
    | none => simp [aget_none.1 hk]
    | some b => simp; exact Decidable.not_not.1 fun hh => by rw [aget_none.2 hh] at hk; cases hk
  simpa [akeys, keysOfG] using e1
theorem zeroP (w : World) : (zeroValue 106).run Tryz.prog w = .ok (.pointer none) w := Tryz.zeroValue106 w
theorem RecAt.look (h : RecAt w a mb G bs m) (key : ByteArray) (co : Bool) :
    (Instr.lookup 109 (.map (some mb)) (.string key) co).run Tryz.prog w = .ok (if co then .tuple #[lv (aget m key), .bool (aget m key).isSome] else lv (aget m key)) w := by
  have := h.map.look keyS Tryz.underlying109 (zeroP w) key co
  refine Eq.trans this ?_
  rw [pm_get]
  cases aget m key <;> rfl
end

theorem rlen_any (a : Nat) (ks : List ByteArray) (F : Nat → Prop) (w : World) (h : RecRep w a ks F) (hl : ks.length ≤ 9223372036854775807) :
    Calls Tryz.prog 159 #[.pointer (some ⟨a, 0, none⟩)] w fun e w' => e = .returned (.int .i64 (ks.length : Int)) ∧ w' = w := by
  obtain ⟨mb, G, bs, m, h, rfl, rfl⟩ := h
  have c3 := h.nodes.c3 (by simp)
  have e : (pm m).length = (keysOfG G bs).length := by rw [pm_len, h.mlen]; simp [keysOfG]
  have ln := h.map.len 3 Tryz.underlying109 (by omega)
  rw [e] at ln
  clear h e
  go_enter Tryz.func159, Tryz.ntmps159
  go_wp2
  go_ret
  exact ⟨rfl, rfl⟩

/-- From one state to the next: what was written, what is new. -/
def RecTo (w w' : World) (a : Nat) (F : Nat → Prop) (ks' : List ByteArray) : Prop := ∃ F', RecRep w' a ks' F' ∧ Upd F w w' ∧ FromF F F' w
theorem keysOf_app (G : Nat → Lk) (l r : List Nat) : keysOfG G (l ++ r) = keysOfG G l ++ keysOfG G r := by simp [keysOfG]
theorem keysOf_congr {G H : Nat → Lk} {l : List Nat} (h : ∀ b ∈ l, (G b).key = (H b).key) : keysOfG G l = keysOfG H l := List.map_congr_left h
theorem keysOf_mem {G : Nat → Lk} {bs : List Nat} {k : ByteArray} : k ∈ keysOfG G bs ↔ ∃ b ∈ bs, (G b).key = k := by unfold keysOfG; exact List.mem_map
theorem erase_mid {l r : List ByteArray} {k : ByteArray} (h : (l ++ k :: r).Nodup) : (l ++ k :: r).erase k = l ++ r := by
  have hk : k ∉ l := fun hm => (List.nodup_append.1 h).2.2 k hm k (by simp) rfl
  rw [List.erase_append_right _ hk, List.erase_cons_head]

section
variable {w : World} {a mb : Nat} {G : Nat → Lk} {bs : List Nat} {m : List (ByteArray × Nat)}
/-- A key that is there: its block, and those ahead of it and behind. -/
theorem RecAt.split (h : RecAt w a mb G bs m) {key : ByteArray} {b : Nat} (hk : aget m key = some b) : ∃ l r, bs = l ++ b :: r ∧ (G b).key = key ∧ (keysOfG G bs).erase key = keysOfG G (l ++ r) := by
  obtain ⟨h1, h2⟩ := (h.mem key b).1 hk
  obtain ⟨l, r, rfl⟩ := List.append_of_mem h1
  refine ⟨l, r, rfl, h2, ?_⟩
  have hn := h.knd
  have e : keysOfG G (l ++ b :: r) = keysOfG G l ++ key :: keysOfG G r := by rw [keysOf_app]; simp [keysOfG, h2]
  rw [e] at hn ⊢
  rw [erase_mid hn, keysOf_app]
/-- The state without a key. -/
theorem RecAt.cut (h : RecAt w a mb G bs m) {w' : World} {key : ByteArray} {b : Nat} {l r : List Nat} (hk : aget m key = some b) (hb : bs = l ++ b :: r)
    (hN : Nodes w' a mb (Ring.without G b) (a :: (l ++ r))) (hM : MapAt strEnc w' mb (pm (adel m key))) : RecAt w' a mb (Ring.without G b) (l ++ r) (adel m key) := by
  have hkey := ((h.mem key b).1 hk).2
  subst hb
  have nd2 : (a :: (l ++ r)).Nodup := h.nd.sublist (by simp)
  have hmem : ∀ x, x ∈ l ++ r ↔ x ∈ l ++ b :: r ∧ x ≠ b := by
    intro x
    have hn := (List.nodup_cons.1 h.nd).2
    simp only [List.mem_append, List.mem_cons]
    have h1 := (List.nodup_append.1 hn)
    have hbr := (List.nodup_cons.1 h1.2.1).1
    constructor
    · rintro (hx | hx)
      · exact ⟨Or.inl hx, fun e => h1.2.2 x hx b (by simp) e⟩
      · exact ⟨Or.inr (Or.inr hx), fun e => hbr (e ▸ hx)⟩
    · rintro ⟨hx | hx | hx, hne⟩
      · exact Or.inl hx
      · exact absurd hx hne
      · exact Or.inr hx
  refine ⟨hN, by rw [Ring.without_key]; exact h.root, hM, Ring.chain_without h.ring h.nd, nd2, fun hm => h.mne ?_, nodup_adel h.mnd key, fun k c => ?_⟩
  · rcases List.mem_cons.1 hm with e | hm
    · simp [e]
    · have := (hmem mb).1 hm; exact List.mem_cons_of_mem _ this.1
  · rw [aget_adel h.mnd, Ring.without_key]
    by_cases e : key = k
    · rw [if_pos e]
      constructor
      · intro h; cases h
      · rintro ⟨h1, h2⟩
        obtain ⟨h3, h4⟩ := (hmem c).1 h1
        have := (h.mem k c).2 ⟨h3, h2⟩
        rw [← e, hk] at this
        exact absurd (Option.some.inj this).symm h4
    · rw [if_neg e, h.mem k c, hmem c]
      constructor
      · rintro ⟨h1, h2⟩; exact ⟨⟨h1, fun hc => e (by rw [← h2, hc, hkey])⟩, h2⟩
      · rintro ⟨⟨h1, _⟩, h2⟩; exact ⟨h1, h2⟩
/-- The state with a key more, the last one. -/
theorem RecAt.more (h : RecAt w a mb G bs m) {w' : World} {key : ByteArray} {b : Nat} (hk : aget m key = none) (hb : b ∉ a :: bs) (hbm : b ≠ mb)
    (hN : Nodes w' a mb (Ring.withLast G a b key) (b :: a :: bs)) (hM : MapAt strEnc w' mb (pm (aset m key b))) : RecAt w' a mb (Ring.withLast G a b key) (bs ++ [b]) (aset m key b) := by
  refine ⟨fun x hx => hN x ?_, ?_, hM, Ring.chain_with h.ring h.nd hb, ?_, ?_, nodup_aset h.mnd key b, fun k c => ?_⟩
  · simp only [List.mem_cons, List.mem_append] at hx ⊢; rcases hx with h | h | h
    · exact Or.inr (Or.inl h)
    · exact Or.inr (Or.inr h)
    · simp at h; exact Or.inl h
  · rw [Ring.with_key G key (fun e => hb (by simp [e]))]; exact h.root
  · have := h.nd
    simp only [List.nodup_cons, List.mem_cons, not_or, List.mem_append, List.nodup_append, List.not_mem_nil, or_false] at this hb ⊢
    refine ⟨⟨this.1, fun e => hb.1 e.symm⟩, this.2, by simp, ?_⟩
    intro x hx y hy e
    exact hb.2 (hy ▸ e ▸ hx)
  · have := h.mne
    simp only [List.mem_cons, not_or, List.mem_append, List.not_mem_nil, or_false] at this ⊢
    exact ⟨this.1, this.2, fun e => hbm e.symm⟩
  · rw [aget_aset]
    have kc : c ∈ bs → (Ring.withLast G a b key c).key = (G c).key := fun hc => Ring.with_key G key (fun e => hb (by simp [← e, hc]))
    by_cases e : key = k
    · subst e
      rw [if_pos rfl, Option.some.injEq]
      constructor
      · rintro rfl; exact ⟨by simp, Ring.with_key_at G a b key⟩
      · rintro ⟨h1, h2⟩
        simp only [List.mem_append, List.mem_cons, List.not_mem_nil, or_false] at h1
        rcases h1 with h1 | h1
        · rw [kc h1] at h2
          have := (h.mem key c).2 ⟨h1, h2⟩
          rw [hk] at this; cases this
        · exact h1.symm
    · rw [if_neg e, h.mem k c]
      constructor
      · rintro ⟨h1, h2⟩; exact ⟨by simp [h1], by rw [kc h1]; exact h2⟩
      · rintro ⟨h1, h2⟩
        simp only [List.mem_append, List.mem_cons, List.not_mem_nil, or_false] at h1
        rcases h1 with h1 | rfl
        · rw [kc h1] at h2; exact ⟨h1, h2⟩
        · rw [Ring.with_key_at] at h2; exact absurd h2 e
/-- The state with a key that was there, now the last one. -/
theorem RecAt.moved (h : RecAt w a mb G bs m) {w' : World} {key : ByteArray} {b : Nat} {l r : List Nat} (hk : aget m key = some b) (hb : bs = l ++ b :: r)
    (hN : Nodes w' a mb (Ring.withLast (Ring.without G b) a b key) (b :: a :: (l ++ r))) (hM : MapAt strEnc w' mb (pm m)) : RecAt w' a mb (Ring.withLast (Ring.without G b) a b key) (l ++ r ++ [b]) m := by
  have hkey := ((h.mem key b).1 hk).2
  subst hb
  have hp : (l ++ r ++ [b]).Perm (l ++ b :: r) := by
    rw [List.append_assoc]; exact List.Perm.append_left _ (List.perm_append_singleton b r)
  have nd2 : (a :: (l ++ r)).Nodup := h.nd.sublist (by simp)
  have hbn : b ∉ a :: (l ++ r) := by
    have : (a :: (l ++ r ++ [b])).Nodup := (hp.cons a).nodup_iff.2 h.nd
    intro hm
    rw [show a :: (l ++ r ++ [b]) = (a :: (l ++ r)) ++ [b] by simp] at this
    exact (List.nodup_append.1 this).2.2 b hm b (by simp) rfl
  have kk : ∀ c, (Ring.withLast (Ring.without G b) a b key c).key = (G c).key := fun c => by
    by_cases e : c = b
    · rw [e, Ring.with_key_at, hkey]
    · rw [Ring.with_key _ _ e, Ring.without_key]
  refine ⟨fun x hx => hN x ?_, by rw [kk]; exact h.root, hM, Ring.chain_with (Ring.chain_without h.ring h.nd) nd2 hbn, (hp.cons a).nodup_iff.2 h.nd, fun hm => h.mne ?_, h.mnd, fun k c => ?_⟩
  · simp only [List.mem_cons, List.mem_append, List.not_mem_nil, or_false] at hx ⊢
    rcases hx with h | (h | h) | h
    · exact Or.inr (Or.inl h)
    · exact Or.inr (Or.inr (Or.inl h))
    · exact Or.inr (Or.inr (Or.inr h))
    · exact Or.inl h
  · rcases List.mem_cons.1 hm with e | hm
    · simp [e]
    · exact List.mem_cons_of_mem _ (hp.mem_iff.1 hm)
  · rw [kk, hp.mem_iff]; exact h.mem k c
end
end Go.Proofs.YtgdenmddbgcacaaGreatDoor
/- Walks: Touch, Drop, Oldest, New, Clear. -/
set_option linter.unusedVariables false
set_option linter.unusedSimpArgs false
set_option maxRecDepth 100000
namespace Go.Proofs.YtgdenmddbgcacaaGreatDoor
open Go.RowKit
open Ring (Lk setNext setAhead chain)

/-- The keys when one was used. -/
def touched (ks : List ByteArray) (k : ByteArray) : List ByteArray := ks.erase k ++ [k]
theorem erase_none {ks : List ByteArray} {k : ByteArray} (h : k ∉ ks) : ks.erase k = ks := List.erase_of_not_mem h

set_option maxHeartbeats 2000000 in
theorem touch_any (a : Nat) (ks : List ByteArray) (F : Nat → Prop) (key : ByteArray) (w : World) (h : RecRep w a ks F) :
    Calls Tryz.prog 51 #[.pointer (some ⟨a, 0, none⟩), .string key] w fun e w' => e = .returned (.bool (!decide (key ∈ ks))) ∧ RecTo w w' a F (touched ks key) := by
  obtain ⟨mb, G, bs, m, h, rfl, rfl⟩ := h
  have c3 := h.nodes.c3 (by simp)
  have lk := h.look key true
  have hkm := h.key_mem key
  simp only [if_true] at lk
  unfold lv at lk
  cases hk : aget m key with
  | none =>
    rw [hk] at lk hkm
    simp only [Option.map_none, Option.isSome_none] at lk hkm
    rw [← hkm]
    have hnk : key ∉ keysOfG G bs := by simpa using hkm.symm
    have al := h.nodes _ (show a ∈ a :: bs by simp)
    have al := al.lt
    have U1 : Upd (fun _ => False) w (w.alloc (.cells #[.string key, .pointer none, .pointer none] 108)) := (Upd.refl _ w).alloc _
    have h1 := h.keep U1 (fun _ _ => id)
    have B1 : Blk (w.alloc (.cells #[.string key, .pointer none, .pointer none] 108)) w.heap.size [.string key, .pointer none, .pointer none] 108 := Blk.made w [.string key, .pointer none, .pointer none] _
    have hfresh : w.heap.size ∉ a :: bs := fun hm => by have := (h.nodes _ hm).lt; omega
    have hmb := h.map.lt
    obtain ⟨w3, de, hm3, u3⟩ := h1.map.put keyS Tryz.underlying109 key (ptr w.heap.size)
    rw [pm_set] at hm3
    have n3 : Nodes w3 a mb G (a :: bs) := h1.nodes.keep u3 (fun b hb e => h.mne (e ▸ hb))
    have B3 := u3.blk B1 (fun e => by have : w.heap.size = mb := e; omega)
    have U3 : Hid (Upd (recF a mb bs) w w3) := (U1.weaken (F := recF a mb bs) (fun _ _ h => h.elim)).trans u3 (fun i _ hi => Or.inr (Or.inl hi))
    have L := Lib.hid (last_any a mb G (a :: bs) w.heap.size key _ _ w3 n3 B3 (by simp) hfresh (by rw [Ring.chain_ahead h.ring]; exact Ring.last_mem a bs))
    have H := Lib.hid h
    have HM3 := Lib.hid hm3
    have HK := Lib.hid hk
    have HX := Lib.hid (show (G a).ahead ∈ a :: bs by rw [Ring.chain_ahead h.ring]; exact Ring.last_mem a bs)
    unfold strEnc ptr at de
    clear h h1 hm3 u3 n3 B3 B1 U1 hk hkm
    go_enter Tryz.func51, Tryz.ntmps51
    go_wp2_with fail
    refine (L.out).mono ?_
    rintro e w4 ⟨rfl, n4, u4⟩
    have N4 := Lib.hid n4
    have U4 := Lib.hid u4
    clear n4 u4 L
    go_wp2
    go_ret
    have hmne := H.out.mne
    have hm4 : MapAt strEnc w4 mb (pm (aset m key w.heap.size)) := HM3.out.keep U4.out (fun e => by
      rcases e with e | e | e
      · exact hmne (by simp [e])
      · omega
      · exact hmne (by rw [e]; exact HX.out))
    refine ⟨rfl, _, ⟨mb, _, _, _, H.out.more HK.out hfresh (by omega) N4.out hm4, ?_, rfl⟩, U3.out.trans U4.out ?_, ?_⟩
    · unfold touched
      rw [erase_none hnk, keysOf_app]
      congr 1
      · exact keysOf_congr fun c hc => (Ring.with_key G key (fun e => hfresh (by rw [← e]; simp [hc]))).symm
      · simp [keysOfG, Ring.with_key_at]
    · rintro i hi (rfl | rfl | rfl)
      · exact Or.inl rfl
      · omega
      · rcases List.mem_cons.1 HX.out with e | e
        · exact Or.inl e
        · exact Or.inr (Or.inr e)
    · rintro i (rfl | rfl | hi)
      · exact Or.inl (Or.inl rfl)
      · exact Or.inl (Or.inr (Or.inl rfl))
      · simp only [List.mem_append, List.mem_cons, List.not_mem_nil, or_false] at hi
        rcases hi with hi | rfl
        · exact Or.inl (Or.inr (Or.inr hi))
        · exact Or.inr (Nat.le_refl _)
  | some b =>
    rw [hk] at lk hkm
    simp only [Option.map_some, Option.isSome_some] at lk hkm
    rw [← hkm]
    obtain ⟨l, r, hb, hkey, he⟩ := h.split hk
    obtain ⟨o1, o2⟩ := Ring.chain_out (b := b) (l := l) (r := r) (by rw [← hb]; exact h.ring) (by rw [← hb]; exact h.nd)
    have sub : ∀ x, x ∈ a :: (l ++ r) → x ∈ a :: bs := fun x hx => by
      rw [hb]; simp only [List.mem_cons, List.mem_append] at hx ⊢
      rcases hx with h | h | h
      · exact Or.inl h
      · exact Or.inr (Or.inl h)
      · exact Or.inr (Or.inr (Or.inr h))
    have bin : b ∈ a :: bs := by rw [hb]; simp
    have O := Lib.hid (out_any a mb G (a :: bs) b w h.nodes bin (sub _ o1) (sub _ o2))
    have H := Lib.hid h
    have HK := Lib.hid hk
    have HE := Lib.hid he
    have HB := Lib.hid hb
    have HS := Lib.hid sub
    have O1 := Lib.hid (And.intro (sub _ o1) (sub _ o2))
    clear h hk hkm he sub o1 o2 hb hkey
    go_enter Tryz.func51, Tryz.ntmps51
    go_wp2_with fail
    refine (O.out).mono ?_
    rintro e w1 ⟨rfl, n1, u1⟩
    have ring1 := Ring.chain_without (b := b) (l := l) (r := r) (by rw [← HB.out]; exact H.out.ring) (by rw [← HB.out]; exact H.out.nd)
    have ahead1 : (Ring.without G b a).ahead ∈ a :: (l ++ r) := by rw [Ring.chain_ahead ring1]; exact Ring.last_mem a _
    have bne : b ≠ a := fun e => by
      have := H.out.nd
      rw [HB.out, e] at this
      exact (List.nodup_cons.1 this).1 (by simp)
    have bout : b ∉ a :: (l ++ r) := fun hm => by
      rcases List.mem_cons.1 hm with e | hm
      · exact bne e
      · have := (List.nodup_cons.1 H.out.nd).2
        rw [HB.out] at this
        have h2 := List.nodup_append.1 this
        rcases List.mem_append.1 hm with hm | hm
        · exact h2.2.2 b hm b (by simp) rfl
        · exact (List.nodup_cons.1 h2.2.1).1 hm
    have hkey := ((H.out.mem key b).1 HK.out).2
    have B1 : Blk w1 b [.string key, ptr (Ring.without G b b).ahead, ptr (Ring.without G b b).next] 108 := by
      have := n1 b bin
      have en : nodec a mb (Ring.without G b) b = [.string key, ptr (Ring.without G b b).ahead, ptr (Ring.without G b b).next] := by simp [nodec, linkc, bne, Ring.without_key, hkey]
      have et : nodet a b = 108 := by simp [nodet, bne]
      rw [en, et] at this; exact this
    have L := Lib.hid (last_any a mb (Ring.without G b) (a :: (l ++ r)) b key _ _ w1 (fun x hx => n1 x (HS.out x hx)) B1 (by simp) bout ahead1)
    have U1 := Lib.hid u1
    have A1 := Lib.hid ahead1
    have BO := Lib.hid bout
    have HKY := Lib.hid hkey
    clear n1 u1 ring1 B1 ahead1 bout hkey O
    go_wp2_with fail
    refine (L.out).mono ?_
    rintro e w2 ⟨rfl, n2, u2⟩
    have N2 := Lib.hid n2
    have U2 := Lib.hid u2
    clear n2 u2 L
    go_wp2
    go_ret
    have hmne := H.out.mne
    have hm2 : MapAt strEnc w2 mb (pm m) := (H.out.map.keep U1.out (fun e => by
      rcases e with e | e
      · exact hmne (by rw [e]; exact O1.out.1)
      · exact hmne (by rw [e]; exact O1.out.2))).keep U2.out (fun e => by
      rcases e with e | e | e
      · exact hmne (by simp [e])
      · exact hmne (by rw [e]; exact bin)
      · exact hmne (by rw [e]; exact HS.out _ A1.out))
    have inF : ∀ x, x ∈ a :: bs → recF a mb bs x := fun x hx => by
      rcases List.mem_cons.1 hx with e | e
      · exact Or.inl e
      · exact Or.inr (Or.inr e)
    refine ⟨rfl, _, ⟨mb, _, _, _, H.out.moved HK.out HB.out N2.out hm2, ?_, rfl⟩, (U1.out.weaken (F := recF a mb bs) ?_).trans U2.out ?_, ?_⟩
    · unfold touched
      rw [HE.out, keysOf_app _ (l ++ r)]
      congr 1
      · refine keysOf_congr fun c hc => ?_
        have : c ≠ b := fun e => BO.out (by rw [← e]; simp only [List.mem_cons]; exact Or.inr hc)
        rw [Ring.with_key _ _ this, Ring.without_key]
      · simp [keysOfG, Ring.with_key_at]
    · rintro i _ (rfl | rfl)
      · exact inF _ O1.out.1
      · exact inF _ O1.out.2
    · rintro i _ (rfl | rfl | rfl)
      · exact Or.inl rfl
      · exact inF _ bin
      · exact inF _ (HS.out _ A1.out)
    · rintro i (rfl | rfl | hi)
      · exact Or.inl (Or.inl rfl)
      · exact Or.inl (Or.inr (Or.inl rfl))
      · refine Or.inl (inF _ ?_)
        rcases List.mem_append.1 hi with hi | hi
        · exact HS.out _ (List.mem_cons_of_mem _ hi)
        · simp at hi; rw [hi]; exact bin
end Go.Proofs.YtgdenmddbgcacaaGreatDoor
/- Walks: Drop, Oldest, New, Clear, All of what is recent. -/
set_option linter.unusedVariables false
set_option linter.unusedSimpArgs false
set_option maxRecDepth 100000
namespace Go.Proofs.YtgdenmddbgcacaaGreatDoor
open Go.RowKit
open Ring (Lk setNext setAhead chain)

set_option maxHeartbeats 2000000 in
theorem rdrop_any (a : Nat) (ks : List ByteArray) (F : Nat → Prop) (key : ByteArray) (w : World) (h : RecRep w a ks F) :
    Calls Tryz.prog 107 #[.pointer (some ⟨a, 0, none⟩), .string key] w fun e w' => e = .returned (.bool (decide (key ∈ ks))) ∧ RecTo w w' a F (ks.erase key) := by
  obtain ⟨mb, G, bs, m, h, rfl, rfl⟩ := h
  have c3 := h.nodes.c3 (by simp)
  have lk := h.look key true
  have hkm := h.key_mem key
  simp only [if_true] at lk
  unfold lv at lk
  cases hk : aget m key with
  | none =>
    rw [hk] at lk hkm
    simp only [Option.map_none, Option.isSome_none] at lk hkm
    rw [← hkm]
    have hnk : key ∉ keysOfG G bs := by simpa using hkm.symm
    rw [erase_none hnk]
    have H := Lib.hid h
    clear h hk hkm
    go_enter Tryz.func107, Tryz.ntmps107
    go_wp2
    go_ret
    exact ⟨rfl, _, ⟨mb, G, bs, m, H.out, rfl, rfl⟩, Upd.refl _ _, FromF.refl _ _⟩
  | some b =>
    rw [hk] at lk hkm
    simp only [Option.map_some, Option.isSome_some] at lk hkm
    rw [← hkm]
    obtain ⟨l, r, hb, hkey, he⟩ := h.split hk
    obtain ⟨o1, o2⟩ := Ring.chain_out (b := b) (l := l) (r := r) (by rw [← hb]; exact h.ring) (by rw [← hb]; exact h.nd)
    have sub : ∀ x, x ∈ a :: (l ++ r) → x ∈ a :: bs := fun x hx => by
      rw [hb]; simp only [List.mem_cons, List.mem_append] at hx ⊢
      rcases hx with h | h | h
      · exact Or.inl h
      · exact Or.inr (Or.inl h)
      · exact Or.inr (Or.inr (Or.inr h))
    have bin : b ∈ a :: bs := by rw [hb]; simp
    have O := Lib.hid (out_any a mb G (a :: bs) b w h.nodes bin (sub _ o1) (sub _ o2))
    have H := Lib.hid h
    have HK := Lib.hid hk
    have HE := Lib.hid he
    have HB := Lib.hid hb
    have HS := Lib.hid sub
    have O1 := Lib.hid (And.intro (sub _ o1) (sub _ o2))
    clear h hk hkm he sub o1 o2 hb hkey
    go_enter Tryz.func107, Tryz.ntmps107
    go_wp2_with fail
    refine (O.out).mono ?_
    rintro e w1 ⟨rfl, n1, u1⟩
    have c4 := n1.c3 (show a ∈ a :: bs by simp)
    have hmne := H.out.mne
    have hm1 : MapAt strEnc w1 mb (pm m) := H.out.map.keep u1 (fun e => by
      rcases e with e | e
      · exact hmne (by rw [e]; exact O1.out.1)
      · exact hmne (by rw [e]; exact O1.out.2))
    obtain ⟨w2, de, hm2, u2⟩ := hm1.del keyS Tryz.underlying109 key 0
    rw [pm_del] at hm2
    have N1 := Lib.hid n1
    have U1 := Lib.hid u1
    have U2 := Lib.hid u2
    have HM2 := Lib.hid hm2
    unfold strEnc at de
    clear n1 u1 u2 hm1 hm2 O c3 hmne
    go_wp2
    go_ret
    have hmne := H.out.mne
    have inF : ∀ x, x ∈ a :: bs → recF a mb bs x := fun x hx => by
      rcases List.mem_cons.1 hx with e | e
      · exact Or.inl e
      · exact Or.inr (Or.inr e)
    have N2 : Nodes w2 a mb (Ring.without G b) (a :: bs) := N1.out.keep U2.out (fun x hx e => hmne (by have : x = mb := e; rw [← this]; exact hx))
    refine ⟨rfl, _, ⟨mb, _, _, _, H.out.cut HK.out HB.out (fun x hx => N2 x (HS.out x hx)) HM2.out, ?_, rfl⟩, (U1.out.weaken (F := recF a mb bs) ?_).trans U2.out (fun i _ e => Or.inr (Or.inl e)), ?_⟩
    · rw [HE.out]; exact keysOf_congr fun c _ => (Ring.without_key G b c).symm
    · rintro i _ (rfl | rfl)
      · exact inF _ O1.out.1
      · exact inF _ O1.out.2
    · rintro i (rfl | rfl | hi)
      · exact Or.inl (Or.inl rfl)
      · exact Or.inl (Or.inr (Or.inl rfl))
      · exact Or.inl (inF _ (HS.out _ (List.mem_cons_of_mem _ hi)))

theorem linkInfo : ∃ j, Tryz.prog.info? 108 = some j ∧ j.size ≠ 0 := by
  have h : (Tryz.prog.info? 108).map (·.size) = some 3 := by kernel_rfl
  cases hj : Tryz.prog.info? 108 with
  | none => rw [hj] at h; cases h
  | some j => rw [hj] at h; exact ⟨j, rfl, by simp at h; omega⟩
theorem neq_same (x : Nat) (w : World) : (binOp .neq 106 (.pointer (some ⟨x, 0, none⟩)) (.pointer (some ⟨x, 0, none⟩))).run Tryz.prog w = .ok (.bool false) w := by
  obtain ⟨j, hj, hz⟩ := linkInfo
  exact Lib.run_neq_ptr_same w _ Tryz.underlying106 hj
theorem neq_other {x y : Nat} {w : World} {cx cy : List Value} {tx ty : TypeId} (hne : x ≠ y) (hx : Blk w x cx tx) (hy : Blk w y cy ty) : (binOp .neq 106 (.pointer (some ⟨x, 0, none⟩)) (.pointer (some ⟨y, 0, none⟩))).run Tryz.prog w = .ok (.bool true) w := by
  obtain ⟨j, hj, hz⟩ := linkInfo
  have h : ∀ d : Nat, (Op.equalIn (d + 1) 106 (.pointer (some ⟨x, 0, none⟩)) (.pointer (some ⟨y, 0, none⟩))).run Tryz.prog w = .ok false w := fun d => by
    simp [Op.equalIn, run_underlying Tryz.underlying106, sizeOf, typeInfo, hj, hz, run_sameAddr_other (a := ⟨x, 0, none⟩) (b := ⟨y, 0, none⟩) w (fun e => hne (congrArg Addr.block e)) hx hy]
  simp only [binOp]
  simp [Op.equal, Op.maxDepth, h 9999]

/-- The one used longest ago, but one. -/
def oldest (but : ByteArray) (ks : List ByteArray) : ByteArray × Bool := match ks with
  | [] => (ByteArray.empty, false)
  | k :: r => if k = but then (match r with
    | [] => (ByteArray.empty, false)
    | k2 :: _ => (k2, true)) else (k, true)

set_option maxHeartbeats 2000000 in
theorem oldest_any (a : Nat) (ks : List ByteArray) (F : Nat → Prop) (but : ByteArray) (w : World) (h : RecRep w a ks F) :
    Calls Tryz.prog 82 #[.pointer (some ⟨a, 0, none⟩), .string but] w fun e w' => e = .returned (.tuple #[.string (oldest but ks).1, .bool (oldest but ks).2]) ∧ ∃ n, w' = w.drewN n := by
  obtain ⟨mb, G, bs, m, h, rfl, rfl⟩ := h
  have a2 := h.nodes.c2 (show a ∈ a :: bs by simp)
  have a0 := h.nodes.c0 (show a ∈ a :: bs by simp)
  rw [h.root] at a0
  have ns := neq_same a w
  have nsd := neq_same a w.drew
  cases bs with
  | nil =>
    have e := h.ring.1
    rw [e] at a2
    clear h
    go_enter Tryz.func82, Tryz.ntmps82
    go_wp2
    go_region
    go_wp2
    go_ret2
    exact ⟨rfl, 1, rfl⟩
  | cons b r =>
    have e := h.ring.1
    rw [e] at a2
    have b0 := h.nodes.c0 (show b ∈ a :: b :: r by simp)
    have b2 := h.nodes.c2 (show b ∈ a :: b :: r by simp)
    have hba : b ≠ a := fun e => (List.nodup_cons.1 h.nd).1 (by simp [e])
    have e2 := Ring.chain_next h.ring.2.2
    rw [e2] at b2
    by_cases hk : (G b).key = but
    · have hkb : ((G b).key.toList == but.toList) = true := by rw [hk]; simp
      have n1 := neq_other hba (h.nodes b (by simp)) (h.nodes a (by simp))
      cases r with
      | nil =>
        have E : Hid (oldest but (keysOfG G [b]) = (ByteArray.empty, false)) := by show oldest _ _ = _; simp [oldest, keysOfG, hk]
        replace b2 : w.cell? ⟨b, 2, none⟩ = some (.pointer (some ⟨a, 0, none⟩)) := b2
        clear h hk e e2 hba
        go_enter Tryz.func82, Tryz.ntmps82
        go_wp2
        go_region
        go_wp2
        go_ret2
        rw [E.out]
        exact ⟨rfl, 1, rfl⟩
      | cons c r =>
        have E : Hid (oldest but (keysOfG G (b :: c :: r)) = ((G c).key, true)) := by show oldest _ _ = _; simp [oldest, keysOfG, hk]
        replace b2 : w.cell? ⟨b, 2, none⟩ = some (.pointer (some ⟨c, 0, none⟩)) := b2
        have d0 := h.nodes.c0 (show c ∈ a :: b :: c :: r by simp)
        have hca : c ≠ a := fun e => (List.nodup_cons.1 h.nd).1 (by simp [e])
        have n2 := neq_other hca (h.nodes c (by simp)).drew (h.nodes a (by simp)).drew
        have n3 := neq_other hca (h.nodes c (by simp)) (h.nodes a (by simp))
        clear h hk e e2 hba hca ns nsd
        go_enter Tryz.func82, Tryz.ntmps82
        go_wp2
        go_region
        go_wp2
        go_ret2
        rw [E.out]
        exact ⟨rfl, 1, rfl⟩
    · have hkb : ((G b).key.toList == but.toList) = false := by
        have : ¬ (G b).key.toList = but.toList := fun e => hk (toList_eq (by simp [e]))
        simpa using this
      have n1 := neq_other hba (h.nodes b (by simp)) (h.nodes a (by simp))
      have n2 := neq_other hba (h.nodes b (by simp)).drew (h.nodes a (by simp)).drew
      have E : Hid (oldest but (keysOfG G (b :: r)) = ((G b).key, true)) := by show oldest _ _ = _; simp [oldest, keysOfG, hk]
      clear h hk e e2 hba ns nsd
      go_enter Tryz.func82, Tryz.ntmps82
      go_wp2
      go_region
      go_wp2
      go_ret2
      rw [E.out]
      exact ⟨rfl, 1, rfl⟩

/-- Cleared: no key, a new map. -/
theorem RecAt.empty {w : World} {a mb : Nat} {G : Nat → Lk} (hN : Nodes w a mb G [a]) (h0 : (G a).key = ByteArray.empty) (h1 : (G a).next = a) (h2 : (G a).ahead = a) (hM : MapAt strEnc w mb []) (hne : mb ≠ a) : RecAt w a mb G [] [] :=
  ⟨hN, h0, hM, ⟨h1, h2⟩, by simp, by simpa using hne, by simp [akeys], fun k b => by simp [aget]⟩

set_option maxHeartbeats 1000000 in
/-- Clear, at whatever the block holds: its root's key alone must be the empty text. -/
theorem clear_raw (a : Nat) (v1 v2 v3 : Value) (w : World) (h : Blk w a [.string ByteArray.empty, v1, v2, v3] 111) :
    Calls Tryz.prog 56 #[.pointer (some ⟨a, 0, none⟩)] w fun e w' => e = .returned (.tuple #[]) ∧ RecRep w' a [] (fun k => k = a ∨ k = w.heap.size) ∧ Upd (fun k => k = a) w w' := by
  have al := h.lt
  have H := Lib.hid h
  have c3 : w.cell? ⟨a, 3, none⟩ = some v3 := h.cellAt rfl
  have f3 := h.free 3
  have mk := run_makeMap (P := Tryz.prog) 109 w
  clear h
  go_enter Tryz.func56, Tryz.ntmps56
  go_wp2
  obtain ⟨w2, E⟩ : ∃ w2, (w.setCell ⟨a, 3, none⟩ (.map (some w.heap.size))).alloc (.map #[] 0) = w2 := ⟨_, rfl⟩
  rw [E]
  have hM2 : MapAt strEnc w2 w.heap.size [] := by
    rw [← E]
    have := MapAt.made (enc := strEnc) (w.setCell ⟨a, 3, none⟩ (.map (some w.heap.size)))
    rw [show (w.setCell ⟨a, 3, none⟩ (.map (some w.heap.size))).heap.size = w.heap.size by simp [World.setCell]] at this
    exact this
  have hB2 : Blk w2 a [.string ByteArray.empty, v1, v2, .map (some w.heap.size)] 111 := by
    rw [← E]; exact (H.out.set 3 (.map (some w.heap.size))).alloc (.map #[] 0)
  have u2 : Upd (fun k => k = a) w w2 := by
    rw [← E]; exact ((Upd.refl (fun k => k = a) w).set (fun _ => rfl)).alloc _
  have d1 : w2.cell? ⟨a, 1, none⟩ = some v1 := hB2.cellAt rfl
  have d2 : w2.cell? ⟨a, 2, none⟩ = some v2 := hB2.cellAt rfl
  have e1 := hB2.free 1
  have e2 := hB2.free 2
  have HB2 := Lib.hid hB2
  have U2 := Lib.hid u2
  have HM2 := Lib.hid hM2
  clear mk c3 f3 E hB2 u2 hM2
  go_wp2
  go_region
  go_end0
  have hne : w.heap.size ≠ a := by omega
  refine ⟨rfl, ⟨w.heap.size, fun _ => ⟨ByteArray.empty, a, a⟩, [], [], RecAt.empty ?_ rfl rfl rfl ?_ hne, rfl, ?_⟩, ((U2.out.set (fun _ => rfl)).set (fun _ => rfl)).drew⟩
  · intro b hb
    obtain rfl : b = a := by simpa using hb
    have := ((HB2.out.set 1 (ptr b)).set 2 (ptr b)).drew
    have en : nodec b w.heap.size (fun _ => ⟨ByteArray.empty, b, b⟩) b = [.string ByteArray.empty, ptr b, ptr b, .map (some w.heap.size)] := by simp [nodec, linkc]
    have et : nodet b b = 111 := by simp [nodet]
    rw [en, et]; exact this
  · exact HM2.out.keep ((((Upd.refl (fun k => k = a) w2).set (fun _ => rfl)).set (fun _ => rfl)).drew) (fun e => hne e)
  · funext k; simp [recF]
theorem clear_any (a : Nat) (ks : List ByteArray) (F : Nat → Prop) (w : World) (h : RecRep w a ks F) :
    Calls Tryz.prog 56 #[.pointer (some ⟨a, 0, none⟩)] w fun e w' => e = .returned (.tuple #[]) ∧ RecTo w w' a F [] := by
  obtain ⟨mb, G, bs, m, h, rfl, rfl⟩ := h
  have hb := h.nodes a (by simp)
  have en : nodec a mb G a = [.string ByteArray.empty, ptr (G a).ahead, ptr (G a).next, .map (some mb)] := by simp [nodec, linkc, h.root]
  have et : nodet a a = 111 := by simp [nodet]
  rw [en, et] at hb
  refine (clear_raw a _ _ _ w hb).mono fun e w' ⟨h1, h2, h3⟩ => ⟨h1, _, h2, h3.weaken (fun i _ e => Or.inl e), fun k hk => ?_⟩
  rcases hk with rfl | rfl
  · exact Or.inl (Or.inl rfl)
  · exact Or.inr (Nat.le_refl _)
theorem rnew_any (w : World) :
    Calls Tryz.prog 25 #[] w fun e w' => ∃ a F, e = .returned (.pointer (some ⟨a, 0, none⟩)) ∧ RecRep w' a [] F ∧ Upd (fun _ => False) w w' ∧ ∀ k, F k → w.heap.size ≤ k := by
  have C := Lib.hid (clear_raw w.heap.size (.pointer none) (.pointer none) (.map none) _ (Blk.made w [.string ByteArray.empty, .pointer none, .pointer none, .map none] 111))
  go_enter Tryz.func25, Tryz.ntmps25
  go_wp2_with fail
  refine (C.out).mono ?_
  rintro e w1 ⟨rfl, h1, u1⟩
  have H1 := Lib.hid h1
  have U1 := Lib.hid u1
  clear h1 u1 C
  go_wp2
  go_ret
  refine ⟨w.heap.size, _, rfl, H1.out, (((Upd.refl (fun _ => False) w).alloc _).trans (U1.out.weaken (F := fun k => k = w.heap.size) (fun _ _ h => h)) (fun i hi e => by omega)), fun k hk => ?_⟩
  rcases hk with rfl | rfl
  · exact Nat.le_refl _
  · simp
end Go.Proofs.YtgdenmddbgcacaaGreatDoor
/- Walk: All of what is recent. -/
set_option linter.unusedVariables false
set_option linter.unusedSimpArgs false
set_option maxRecDepth 100000
namespace Go.Proofs.YtgdenmddbgcacaaGreatDoor
open Go.RowKit
open Ring (Lk setNext setAhead chain)

end Go.Proofs.YtgdenmddbgcacaaGreatDoor
/- Expiry: what is ahead of what. -/
set_option linter.unusedVariables false
set_option linter.unusedSimpArgs false
namespace Go.Proofs.YtgdenmddbgcacaaGreatDoor
open Go.RowKit

theorem cmpI_any (a b : Int) (w : World) : Calls Tryz.prog 166 #[.int .i64 a, .int .i64 b] w fun e w' => e = .returned (.int .i64 (cmpV (decide (a < b)) (decide (b < a)))) ∧ w' = w := by
  cases h1 : decide (a < b) with
  | true =>
    go_enter Tryz.func166, Tryz.ntmps166
    go_wp2
    go_ret
    exact ⟨rfl, rfl⟩
  | false =>
    cases h2 : decide (b < a) with
    | true =>
      go_enter Tryz.func166, Tryz.ntmps166
      go_wp2
      go_ret
      exact ⟨rfl, rfl⟩
    | false =>
      go_enter Tryz.func166, Tryz.ntmps166
      go_wp2
      go_ret
      exact ⟨rfl, rfl⟩
theorem cmpS_any (a b : ByteArray) (w : World) : Calls Tryz.prog 167 #[.string a, .string b] w fun e w' => e = .returned (.int .i64 (cmpS a b)) ∧ w' = w := by
  unfold cmpS
  cases h1 : Op.bytesLess a.toList b.toList with
  | true =>
    go_enter Tryz.func167, Tryz.ntmps167
    go_wp2
    go_ret
    exact ⟨rfl, rfl⟩
  | false =>
    cases h2 : (a.toList == b.toList) with
    | true =>
      have h3 : (!a.toList == b.toList) = false := by rw [h2]; rfl
      go_enter Tryz.func167, Tryz.ntmps167
      go_wp2
      go_ret
      exact ⟨rfl, rfl⟩
    | false =>
      have h3 : (!a.toList == b.toList) = true := by rw [h2]; rfl
      go_enter Tryz.func167, Tryz.ntmps167
      go_wp2
      go_ret
      exact ⟨rfl, rfl⟩
theorem cmpOr_any (b : Nat) (x y : Int) (w : World) (h0 : w.cell? ⟨b, 0, none⟩ = some (.int .i64 x)) (h1 : w.cell? ⟨b, 1, none⟩ = some (.int .i64 y)) :
    Calls Tryz.prog 165 #[.slice (some ⟨b, 0, none⟩) 2 2] w fun e w' => e = .returned (.int .i64 (orI x y)) ∧ w' = w := by
  unfold orI
  cases hx : (x == 0) with
  | false =>
    have hx2 : (!x == 0) = true := by rw [hx]; rfl
    go_enter Tryz.func165, Tryz.ntmps165
    go_wp2
    refine wp_loop_rounds 2 ?_
    rw [rounds_succ]
    go_wp2
    go_ret
    exact ⟨by simp, rfl⟩
  | true =>
    have hx2 : (!x == 0) = false := by rw [hx]; rfl
    have hx0 : x = 0 := by simpa using hx
    cases hy : (y == 0) with
    | false =>
      have hy2 : (!y == 0) = true := by rw [hy]; rfl
      go_enter Tryz.func165, Tryz.ntmps165
      go_wp2
      refine wp_loop_rounds 3 ?_
      rw [rounds_succ]
      go_wp2
      rw [rounds_succ]
      go_wp2
      go_ret
      exact ⟨by simp, rfl⟩
    | true =>
      have hy2 : (!y == 0) = false := by rw [hy]; rfl
      have hy0 : y = 0 := by simpa using hy
      go_enter Tryz.func165, Tryz.ntmps165
      go_wp2
      refine wp_loop_rounds 3 ?_
      rw [rounds_succ]
      go_wp2
      rw [rounds_succ]
      go_wp2
      rw [rounds_succ]
      go_wp2
      go_ret
      exact ⟨by simp [hy0], rfl⟩
set_option maxHeartbeats 8000000 in
set_option maxRecDepth 100000 in
theorem order_raw (w1 w2 : Int) (k1 k2 : ByteArray) (w : World) :
    Calls Tryz.prog 164 #[.agg #[.int .i64 w1, .string k1], .agg #[.int .i64 w2, .string k2]] w fun e w' => e = .returned (.int .i64 (ordV w1 k1 w2 k2)) ∧ w' = (((w.alloc (.cells #[.int .i64 w1, .string k1] 145)).alloc (.cells #[.int .i64 w2, .string k2] 145)).alloc (.cells #[.int .i64 (cmpV (decide (w1 < w2)) (decide (w2 < w1))), .int .i64 (cmpS k1 k2)] 3)).drew := by
  go_enter Tryz.func164, Tryz.ntmps164
  go_wp2


  go_region_held3 (fun w' => w'.cell? ⟨w.heap.size, 0, none⟩ = some (.int .i64 w1) ∧ w'.cell? ⟨w.heap.size, 1, none⟩ = some (.string k1) ∧ w'.cell? ⟨w.heap.size + 1, 0, none⟩ = some (.int .i64 w2) ∧ w'.cell? ⟨w.heap.size + 1, 1, none⟩ = some (.string k2)) (go_keep) (first
    | (go_at_call 166; refine (cmpI_any _ _ _).mono ?_; rintro e w' ⟨rfl, rfl⟩)
    | (go_at_call 167; refine (cmpS_any _ _ _).mono ?_; rintro e w' ⟨rfl, rfl⟩)
    | (go_at_call 165; refine (cmpOr_any _ (cmpV (decide (w1 < w2)) (decide (w2 < w1))) (cmpS k1 k2) _ (by simp [World.cell?_alloc_at]) (by simp [World.cell?_alloc_at])).mono ?_; rintro e w' ⟨rfl, rfl⟩))
  go_wp2
  go_ret
  exact ⟨rfl, rfl⟩
theorem order_any (w1 w2 : Int) (k1 k2 : ByteArray) (w : World) :
    Calls Tryz.prog 164 #[.agg #[.int .i64 w1, .string k1], .agg #[.int .i64 w2, .string k2]] w fun e w' => e = .returned (.int .i64 (ordV w1 k1 w2 k2)) ∧ Upd (fun _ => False) w w' :=
  (order_raw w1 w2 k1 k2 w).mono fun _ _ ⟨h1, h2⟩ => ⟨h1, by rw [h2]; exact ((((Upd.refl _ w).alloc _).alloc _).alloc _).drew⟩
theorem order_grow (w1 w2 : Int) (k1 k2 : ByteArray) (w : World) :
    Calls Tryz.prog 164 #[.agg #[.int .i64 w1, .string k1], .agg #[.int .i64 w2, .string k2]] w fun e w' => e = .returned (.int .i64 (ordV w1 k1 w2 k2)) ∧ ∃ q os', w' = Go.Sort.grow (w.drewN q) os' :=
  (order_raw w1 w2 k1 k2 w).mono fun e w' ⟨h1, h2⟩ => by
    subst h2
    refine ⟨h1, 1, ?_⟩
    rw [Go.Sort.alloc_eq_grow, Go.Sort.alloc_eq_grow, Go.Sort.alloc_eq_grow, Go.Sort.grow_grow, Go.Sort.grow_grow]
    exact ⟨_, rfl⟩
end Go.Proofs.YtgdenmddbgcacaaGreatDoor
