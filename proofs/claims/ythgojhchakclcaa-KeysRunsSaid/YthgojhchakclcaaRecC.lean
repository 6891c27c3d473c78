/- Walks: Touch, Drop, Oldest, New, Clear. -/
import Derived.Test.YthgojhchakclcaaRecB
set_option linter.unusedVariables false
set_option linter.unusedSimpArgs false
namespace Go.Proofs.Ythgojhchakclcaa
open Go.RowKit
open Ring (Lk setNext setAhead chain)

/-- The keys when one was used. -/
def touched (ks : List ByteArray) (k : ByteArray) : List ByteArray := ks.erase k ++ [k]
theorem erase_none {ks : List ByteArray} {k : ByteArray} (h : k ∉ ks) : ks.erase k = ks := List.erase_of_not_mem h

set_option maxHeartbeats 2000000 in
theorem touch_any (a : Nat) (ks : List ByteArray) (F : Nat → Prop) (key : ByteArray) (w : World) (h : RecRep w a ks F) :
    Calls Try.prog 26 #[.pointer (some ⟨a, 0, none⟩), .string key] w fun e w' => e = .returned (.bool (!decide (key ∈ ks))) ∧ RecTo w w' a F (touched ks key) := by
  obtain ⟨mb, G, bs, m, h, rfl, rfl⟩ := h
  have c3 := h.nodes.c3 (by simp)
  have lk := h.look key true
  have hkm := h.key_mem key
  simp only [if_true] at lk
  unfold lv at lk
  cases hk : aget m key with
  | none =>
    rw [hk] at lk hkm
    simp only [Option.map_none, Option.isSome_none] at lk hkm
    rw [← hkm]
    have hnk : key ∉ keysOfG G bs := by simpa using hkm.symm
    have al := h.nodes _ (show a ∈ a :: bs by simp)
    have al := al.lt
    have U1 : Upd (fun _ => False) w (w.alloc (.cells #[.string key, .pointer none, .pointer none] 65)) := (Upd.refl _ w).alloc _
    have h1 := h.keep U1 (fun _ _ => id)
    have B1 : Blk (w.alloc (.cells #[.string key, .pointer none, .pointer none] 65)) w.heap.size [.string key, .pointer none, .pointer none] 65 := Blk.made w [.string key, .pointer none, .pointer none] _
    have hfresh : w.heap.size ∉ a :: bs := fun hm => by have := (h.nodes _ hm).lt; omega
    have hmb := h.map.lt
    obtain ⟨w3, de, hm3, u3⟩ := h1.map.put keyS Try.underlying66 key (ptr w.heap.size)
    rw [pm_set] at hm3
    have n3 : Nodes w3 a mb G (a :: bs) := h1.nodes.keep u3 (fun b hb e => h.mne (e ▸ hb))
    have B3 := u3.blk B1 (fun e => by have : w.heap.size = mb := e; omega)
    have U3 : Hid (Upd (recF a mb bs) w w3) := (U1.weaken (F := recF a mb bs) (fun _ _ h => h.elim)).trans u3 (fun i _ hi => Or.inr (Or.inl hi))
    have L := Lib.hid (last_any a mb G (a :: bs) w.heap.size key _ _ w3 n3 B3 (by simp) hfresh (by rw [Ring.chain_ahead h.ring]; exact Ring.last_mem a bs))
    have H := Lib.hid h
    have HM3 := Lib.hid hm3
    have HK := Lib.hid hk
    have HX := Lib.hid (show (G a).ahead ∈ a :: bs by rw [Ring.chain_ahead h.ring]; exact Ring.last_mem a bs)
    unfold strEnc ptr at de
    clear h h1 hm3 u3 n3 B3 B1 U1 hk hkm
    go_enter Try.func26, Try.ntmps26
    go_wp2_with fail
    refine (L.out).mono ?_
    rintro e w4 ⟨rfl, n4, u4⟩
    have N4 := Lib.hid n4
    have U4 := Lib.hid u4
    clear n4 u4 L
    go_wp2
    go_ret
    have hmne := H.out.mne
    have hm4 : MapAt strEnc w4 mb (pm (aset m key w.heap.size)) := HM3.out.keep U4.out (fun e => by
      rcases e with e | e | e
      · exact hmne (by simp [e])
      · omega
      · exact hmne (by rw [e]; exact HX.out))
    refine ⟨rfl, _, ⟨mb, _, _, _, H.out.more HK.out hfresh (by omega) N4.out hm4, ?_, rfl⟩, U3.out.trans U4.out ?_, ?_⟩
    · unfold touched
      rw [erase_none hnk, keysOf_app]
      congr 1
      · exact keysOf_congr fun c hc => (Ring.with_key G key (fun e => hfresh (by rw [← e]; simp [hc]))).symm
      · simp [keysOfG, Ring.with_key_at]
    · rintro i hi (rfl | rfl | rfl)
      · exact Or.inl rfl
      · omega
      · rcases List.mem_cons.1 HX.out with e | e
        · exact Or.inl e
        · exact Or.inr (Or.inr e)
    · rintro i (rfl | rfl | hi)
      · exact Or.inl (Or.inl rfl)
      · exact Or.inl (Or.inr (Or.inl rfl))
      · simp only [List.mem_append, List.mem_cons, List.not_mem_nil, or_false] at hi
        rcases hi with hi | rfl
        · exact Or.inl (Or.inr (Or.inr hi))
        · exact Or.inr (Nat.le_refl _)
  | some b =>
    rw [hk] at lk hkm
    simp only [Option.map_some, Option.isSome_some] at lk hkm
    rw [← hkm]
    obtain ⟨l, r, hb, hkey, he⟩ := h.split hk
    obtain ⟨o1, o2⟩ := Ring.chain_out (b := b) (l := l) (r := r) (by rw [← hb]; exact h.ring) (by rw [← hb]; exact h.nd)
    have sub : ∀ x, x ∈ a :: (l ++ r) → x ∈ a :: bs := fun x hx => by
      rw [hb]; simp only [List.mem_cons, List.mem_append] at hx ⊢
      rcases hx with h | h | h
      · exact Or.inl h
      · exact Or.inr (Or.inl h)
      · exact Or.inr (Or.inr (Or.inr h))
    have bin : b ∈ a :: bs := by rw [hb]; simp
    have O := Lib.hid (out_any a mb G (a :: bs) b w h.nodes bin (sub _ o1) (sub _ o2))
    have H := Lib.hid h
    have HK := Lib.hid hk
    have HE := Lib.hid he
    have HB := Lib.hid hb
    have HS := Lib.hid sub
    have O1 := Lib.hid (And.intro (sub _ o1) (sub _ o2))
    clear h hk hkm he sub o1 o2 hb hkey
    go_enter Try.func26, Try.ntmps26
    go_wp2_with fail
    refine (O.out).mono ?_
    rintro e w1 ⟨rfl, n1, u1⟩
    have ring1 := Ring.chain_without (b := b) (l := l) (r := r) (by rw [← HB.out]; exact H.out.ring) (by rw [← HB.out]; exact H.out.nd)
    have ahead1 : (Ring.without G b a).ahead ∈ a :: (l ++ r) := by rw [Ring.chain_ahead ring1]; exact Ring.last_mem a _
    have bne : b ≠ a := fun e => by
      have := H.out.nd
      rw [HB.out, e] at this
      exact (List.nodup_cons.1 this).1 (by simp)
    have bout : b ∉ a :: (l ++ r) := fun hm => by
      rcases List.mem_cons.1 hm with e | hm
      · exact bne e
      · have := (List.nodup_cons.1 H.out.nd).2
        rw [HB.out] at this
        have h2 := List.nodup_append.1 this
        rcases List.mem_append.1 hm with hm | hm
        · exact h2.2.2 b hm b (by simp) rfl
        · exact (List.nodup_cons.1 h2.2.1).1 hm
    have hkey := ((H.out.mem key b).1 HK.out).2
    have B1 : Blk w1 b [.string key, ptr (Ring.without G b b).ahead, ptr (Ring.without G b b).next] 65 := by
      have := n1 b bin
      have en : nodec a mb (Ring.without G b) b = [.string key, ptr (Ring.without G b b).ahead, ptr (Ring.without G b b).next] := by simp [nodec, linkc, bne, Ring.without_key, hkey]
      have et : nodet a b = 65 := by simp [nodet, bne]
      rw [en, et] at this; exact this
    have L := Lib.hid (last_any a mb (Ring.without G b) (a :: (l ++ r)) b key _ _ w1 (fun x hx => n1 x (HS.out x hx)) B1 (by simp) bout ahead1)
    have U1 := Lib.hid u1
    have A1 := Lib.hid ahead1
    have BO := Lib.hid bout
    have HKY := Lib.hid hkey
    clear n1 u1 ring1 B1 ahead1 bout hkey O
    go_wp2_with fail
    refine (L.out).mono ?_
    rintro e w2 ⟨rfl, n2, u2⟩
    have N2 := Lib.hid n2
    have U2 := Lib.hid u2
    clear n2 u2 L
    go_wp2
    go_ret
    have hmne := H.out.mne
    have hm2 : MapAt strEnc w2 mb (pm m) := (H.out.map.keep U1.out (fun e => by
      rcases e with e | e
      · exact hmne (by rw [e]; exact O1.out.1)
      · exact hmne (by rw [e]; exact O1.out.2))).keep U2.out (fun e => by
      rcases e with e | e | e
      · exact hmne (by simp [e])
      · exact hmne (by rw [e]; exact bin)
      · exact hmne (by rw [e]; exact HS.out _ A1.out))
    have inF : ∀ x, x ∈ a :: bs → recF a mb bs x := fun x hx => by
      rcases List.mem_cons.1 hx with e | e
      · exact Or.inl e
      · exact Or.inr (Or.inr e)
    refine ⟨rfl, _, ⟨mb, _, _, _, H.out.moved HK.out HB.out N2.out hm2, ?_, rfl⟩, (U1.out.weaken (F := recF a mb bs) ?_).trans U2.out ?_, ?_⟩
    · unfold touched
      rw [HE.out, keysOf_app _ (l ++ r)]
      congr 1
      · refine keysOf_congr fun c hc => ?_
        have : c ≠ b := fun e => BO.out (by rw [← e]; simp only [List.mem_cons]; exact Or.inr hc)
        rw [Ring.with_key _ _ this, Ring.without_key]
      · simp [keysOfG, Ring.with_key_at]
    · rintro i _ (rfl | rfl)
      · exact inF _ O1.out.1
      · exact inF _ O1.out.2
    · rintro i _ (rfl | rfl | rfl)
      · exact Or.inl rfl
      · exact inF _ bin
      · exact inF _ (HS.out _ A1.out)
    · rintro i (rfl | rfl | hi)
      · exact Or.inl (Or.inl rfl)
      · exact Or.inl (Or.inr (Or.inl rfl))
      · refine Or.inl (inF _ ?_)
        rcases List.mem_append.1 hi with hi | hi
        · exact HS.out _ (List.mem_cons_of_mem _ hi)
        · simp at hi; rw [hi]; exact bin
end Go.Proofs.Ythgojhchakclcaa
