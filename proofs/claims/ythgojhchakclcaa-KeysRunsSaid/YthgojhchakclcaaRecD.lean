/- Walks: Drop, Oldest, New, Clear, All of what is recent. -/
import Derived.Test.YthgojhchakclcaaRecC
import Derived.Lib.Builder
set_option linter.unusedVariables false
set_option linter.unusedSimpArgs false
namespace Go.Proofs.Ythgojhchakclcaa
open Go.RowKit
open Ring (Lk setNext setAhead chain)

set_option maxHeartbeats 2000000 in
theorem rdrop_any (a : Nat) (ks : List ByteArray) (F : Nat → Prop) (key : ByteArray) (w : World) (h : RecRep w a ks F) :
    Calls Try.prog 35 #[.pointer (some ⟨a, 0, none⟩), .string key] w fun e w' => e = .returned (.bool (decide (key ∈ ks))) ∧ RecTo w w' a F (ks.erase key) := by
  obtain ⟨mb, G, bs, m, h, rfl, rfl⟩ := h
  have c3 := h.nodes.c3 (by simp)
  have lk := h.look key true
  have hkm := h.key_mem key
  simp only [if_true] at lk
  unfold lv at lk
  cases hk : aget m key with
  | none =>
    rw [hk] at lk hkm
    simp only [Option.map_none, Option.isSome_none] at lk hkm
    rw [← hkm]
    have hnk : key ∉ keysOfG G bs := by simpa using hkm.symm
    rw [erase_none hnk]
    have H := Lib.hid h
    clear h hk hkm
    go_enter Try.func35, Try.ntmps35
    go_wp2
    go_ret
    exact ⟨rfl, _, ⟨mb, G, bs, m, H.out, rfl, rfl⟩, Upd.refl _ _, FromF.refl _ _⟩
  | some b =>
    rw [hk] at lk hkm
    simp only [Option.map_some, Option.isSome_some] at lk hkm
    rw [← hkm]
    obtain ⟨l, r, hb, hkey, he⟩ := h.split hk
    obtain ⟨o1, o2⟩ := Ring.chain_out (b := b) (l := l) (r := r) (by rw [← hb]; exact h.ring) (by rw [← hb]; exact h.nd)
    have sub : ∀ x, x ∈ a :: (l ++ r) → x ∈ a :: bs := fun x hx => by
      rw [hb]; simp only [List.mem_cons, List.mem_append] at hx ⊢
      rcases hx with h | h | h
      · exact Or.inl h
      · exact Or.inr (Or.inl h)
      · exact Or.inr (Or.inr (Or.inr h))
    have bin : b ∈ a :: bs := by rw [hb]; simp
    have O := Lib.hid (out_any a mb G (a :: bs) b w h.nodes bin (sub _ o1) (sub _ o2))
    have H := Lib.hid h
    have HK := Lib.hid hk
    have HE := Lib.hid he
    have HB := Lib.hid hb
    have HS := Lib.hid sub
    have O1 := Lib.hid (And.intro (sub _ o1) (sub _ o2))
    clear h hk hkm he sub o1 o2 hb hkey
    go_enter Try.func35, Try.ntmps35
    go_wp2_with fail
    refine (O.out).mono ?_
    rintro e w1 ⟨rfl, n1, u1⟩
    have c4 := n1.c3 (show a ∈ a :: bs by simp)
    have hmne := H.out.mne
    have hm1 : MapAt strEnc w1 mb (pm m) := H.out.map.keep u1 (fun e => by
      rcases e with e | e
      · exact hmne (by rw [e]; exact O1.out.1)
      · exact hmne (by rw [e]; exact O1.out.2))
    obtain ⟨w2, de, hm2, u2⟩ := hm1.del keyS Try.underlying66 key 0
    rw [pm_del] at hm2
    have N1 := Lib.hid n1
    have U1 := Lib.hid u1
    have U2 := Lib.hid u2
    have HM2 := Lib.hid hm2
    unfold strEnc at de
    clear n1 u1 u2 hm1 hm2 O c3 hmne
    go_wp2
    go_ret
    have hmne := H.out.mne
    have inF : ∀ x, x ∈ a :: bs → recF a mb bs x := fun x hx => by
      rcases List.mem_cons.1 hx with e | e
      · exact Or.inl e
      · exact Or.inr (Or.inr e)
    have N2 : Nodes w2 a mb (Ring.without G b) (a :: bs) := N1.out.keep U2.out (fun x hx e => hmne (by have : x = mb := e; rw [← this]; exact hx))
    refine ⟨rfl, _, ⟨mb, _, _, _, H.out.cut HK.out HB.out (fun x hx => N2 x (HS.out x hx)) HM2.out, ?_, rfl⟩, (U1.out.weaken (F := recF a mb bs) ?_).trans U2.out (fun i _ e => Or.inr (Or.inl e)), ?_⟩
    · rw [HE.out]; exact keysOf_congr fun c _ => (Ring.without_key G b c).symm
    · rintro i _ (rfl | rfl)
      · exact inF _ O1.out.1
      · exact inF _ O1.out.2
    · rintro i (rfl | rfl | hi)
      · exact Or.inl (Or.inl rfl)
      · exact Or.inl (Or.inr (Or.inl rfl))
      · exact Or.inl (inF _ (HS.out _ (List.mem_cons_of_mem _ hi)))

theorem linkInfo : ∃ j, Try.prog.info? 65 = some j ∧ j.size ≠ 0 := by
  have h : (Try.prog.info? 65).map (·.size) = some 3 := by kernel_rfl
  cases hj : Try.prog.info? 65 with
  | none => rw [hj] at h; cases h
  | some j => rw [hj] at h; exact ⟨j, rfl, by simp at h; omega⟩
theorem neq_same (x : Nat) (w : World) : (binOp .neq 63 (.pointer (some ⟨x, 0, none⟩)) (.pointer (some ⟨x, 0, none⟩))).run Try.prog w = .ok (.bool false) w := by
  obtain ⟨j, hj, hz⟩ := linkInfo
  exact Lib.run_neq_ptr_same w _ Try.underlying63 hj
theorem neq_other {x y : Nat} {w : World} {cx cy : List Value} {tx ty : TypeId} (hne : x ≠ y) (hx : Blk w x cx tx) (hy : Blk w y cy ty) : (binOp .neq 63 (.pointer (some ⟨x, 0, none⟩)) (.pointer (some ⟨y, 0, none⟩))).run Try.prog w = .ok (.bool true) w := by
  obtain ⟨j, hj, hz⟩ := linkInfo
  have h : ∀ d : Nat, (Op.equalIn (d + 1) 63 (.pointer (some ⟨x, 0, none⟩)) (.pointer (some ⟨y, 0, none⟩))).run Try.prog w = .ok false w := fun d => by
    simp [Op.equalIn, run_underlying Try.underlying63, sizeOf, typeInfo, hj, hz, run_sameAddr_other (a := ⟨x, 0, none⟩) (b := ⟨y, 0, none⟩) w (fun e => hne (congrArg Addr.block e)) hx hy]
  simp only [binOp]
  simp [Op.equal, Op.maxDepth, h 9999]

/-- The one used longest ago, but one. -/
def oldest (but : ByteArray) (ks : List ByteArray) : ByteArray × Bool := match ks with
  | [] => (ByteArray.empty, false)
  | k :: r => if k = but then (match r with
    | [] => (ByteArray.empty, false)
    | k2 :: _ => (k2, true)) else (k, true)

set_option maxHeartbeats 2000000 in
theorem oldest_any (a : Nat) (ks : List ByteArray) (F : Nat → Prop) (but : ByteArray) (w : World) (h : RecRep w a ks F) :
    Calls Try.prog 25 #[.pointer (some ⟨a, 0, none⟩), .string but] w fun e w' => e = .returned (.tuple #[.string (oldest but ks).1, .bool (oldest but ks).2]) ∧ ∃ n, w' = w.drewN n := by
  obtain ⟨mb, G, bs, m, h, rfl, rfl⟩ := h
  have a2 := h.nodes.c2 (show a ∈ a :: bs by simp)
  have a0 := h.nodes.c0 (show a ∈ a :: bs by simp)
  rw [h.root] at a0
  have ns := neq_same a w
  have nsd := neq_same a w.drew
  cases bs with
  | nil =>
    have e := h.ring.1
    rw [e] at a2
    clear h
    go_enter Try.func25, Try.ntmps25
    go_wp2
    go_region
    go_wp2
    go_ret2
    exact ⟨rfl, 1, rfl⟩
  | cons b r =>
    have e := h.ring.1
    rw [e] at a2
    have b0 := h.nodes.c0 (show b ∈ a :: b :: r by simp)
    have b2 := h.nodes.c2 (show b ∈ a :: b :: r by simp)
    have hba : b ≠ a := fun e => (List.nodup_cons.1 h.nd).1 (by simp [e])
    have e2 := Ring.chain_next h.ring.2.2
    rw [e2] at b2
    by_cases hk : (G b).key = but
    · have hkb : ((G b).key.toList == but.toList) = true := by rw [hk]; simp
      have n1 := neq_other hba (h.nodes b (by simp)) (h.nodes a (by simp))
      cases r with
      | nil =>
        have E : Hid (oldest but (keysOfG G [b]) = (ByteArray.empty, false)) := by show oldest _ _ = _; simp [oldest, keysOfG, hk]
        replace b2 : w.cell? ⟨b, 2, none⟩ = some (.pointer (some ⟨a, 0, none⟩)) := b2
        clear h hk e e2 hba
        go_enter Try.func25, Try.ntmps25
        go_wp2
        go_region
        go_wp2
        go_ret2
        rw [E.out]
        exact ⟨rfl, 1, rfl⟩
      | cons c r =>
        have E : Hid (oldest but (keysOfG G (b :: c :: r)) = ((G c).key, true)) := by show oldest _ _ = _; simp [oldest, keysOfG, hk]
        replace b2 : w.cell? ⟨b, 2, none⟩ = some (.pointer (some ⟨c, 0, none⟩)) := b2
        have d0 := h.nodes.c0 (show c ∈ a :: b :: c :: r by simp)
        have hca : c ≠ a := fun e => (List.nodup_cons.1 h.nd).1 (by simp [e])
        have n2 := neq_other hca (h.nodes c (by simp)).drew (h.nodes a (by simp)).drew
        have n3 := neq_other hca (h.nodes c (by simp)) (h.nodes a (by simp))
        clear h hk e e2 hba hca ns nsd
        go_enter Try.func25, Try.ntmps25
        go_wp2
        go_region
        go_wp2
        go_ret2
        rw [E.out]
        exact ⟨rfl, 1, rfl⟩
    · have hkb : ((G b).key.toList == but.toList) = false := by
        have : ¬ (G b).key.toList = but.toList := fun e => hk (toList_eq (by simp [e]))
        simpa using this
      have n1 := neq_other hba (h.nodes b (by simp)) (h.nodes a (by simp))
      have n2 := neq_other hba (h.nodes b (by simp)).drew (h.nodes a (by simp)).drew
      have E : Hid (oldest but (keysOfG G (b :: r)) = ((G b).key, true)) := by show oldest _ _ = _; simp [oldest, keysOfG, hk]
      clear h hk e e2 hba ns nsd
      go_enter Try.func25, Try.ntmps25
      go_wp2
      go_region
      go_wp2
      go_ret2
      rw [E.out]
      exact ⟨rfl, 1, rfl⟩

/-- Cleared: no key, a new map. -/
theorem RecAt.empty {w : World} {a mb : Nat} {G : Nat → Lk} (hN : Nodes w a mb G [a]) (h0 : (G a).key = ByteArray.empty) (h1 : (G a).next = a) (h2 : (G a).ahead = a) (hM : MapAt strEnc w mb []) (hne : mb ≠ a) : RecAt w a mb G [] [] :=
  ⟨hN, h0, hM, ⟨h1, h2⟩, by simp, by simpa using hne, by simp [akeys], fun k b => by simp [aget]⟩

set_option maxHeartbeats 1000000 in
/-- Clear, at whatever the block holds: its root's key alone must be the empty text. -/
theorem clear_raw (a : Nat) (v1 v2 v3 : Value) (w : World) (h : Blk w a [.string ByteArray.empty, v1, v2, v3] 68) :
    Calls Try.prog 36 #[.pointer (some ⟨a, 0, none⟩)] w fun e w' => e = .returned (.tuple #[]) ∧ RecRep w' a [] (fun k => k = a ∨ k = w.heap.size) ∧ Upd (fun k => k = a) w w' := by
  have al := h.lt
  have H := Lib.hid h
  have c3 : w.cell? ⟨a, 3, none⟩ = some v3 := h.cellAt rfl
  have f3 := h.free 3
  have mk := run_makeMap (P := Try.prog) 66 w
  clear h
  go_enter Try.func36, Try.ntmps36
  go_wp2
  obtain ⟨w2, E⟩ : ∃ w2, (w.setCell ⟨a, 3, none⟩ (.map (some w.heap.size))).alloc (.map #[] 0) = w2 := ⟨_, rfl⟩
  rw [E]
  have hM2 : MapAt strEnc w2 w.heap.size [] := by
    rw [← E]
    have := MapAt.made (enc := strEnc) (w.setCell ⟨a, 3, none⟩ (.map (some w.heap.size)))
    rw [show (w.setCell ⟨a, 3, none⟩ (.map (some w.heap.size))).heap.size = w.heap.size by simp [World.setCell]] at this
    exact this
  have hB2 : Blk w2 a [.string ByteArray.empty, v1, v2, .map (some w.heap.size)] 68 := by
    rw [← E]; exact (H.out.set 3 (.map (some w.heap.size))).alloc (.map #[] 0)
  have u2 : Upd (fun k => k = a) w w2 := by
    rw [← E]; exact ((Upd.refl (fun k => k = a) w).set (fun _ => rfl)).alloc _
  have d1 : w2.cell? ⟨a, 1, none⟩ = some v1 := hB2.cellAt rfl
  have d2 : w2.cell? ⟨a, 2, none⟩ = some v2 := hB2.cellAt rfl
  have e1 := hB2.free 1
  have e2 := hB2.free 2
  have HB2 := Lib.hid hB2
  have U2 := Lib.hid u2
  have HM2 := Lib.hid hM2
  clear mk c3 f3 E hB2 u2 hM2
  go_wp2
  go_region
  go_end0
  have hne : w.heap.size ≠ a := by omega
  refine ⟨rfl, ⟨w.heap.size, fun _ => ⟨ByteArray.empty, a, a⟩, [], [], RecAt.empty ?_ rfl rfl rfl ?_ hne, rfl, ?_⟩, ((U2.out.set (fun _ => rfl)).set (fun _ => rfl)).drew⟩
  · intro b hb
    obtain rfl : b = a := by simpa using hb
    have := ((HB2.out.set 1 (ptr b)).set 2 (ptr b)).drew
    have en : nodec b w.heap.size (fun _ => ⟨ByteArray.empty, b, b⟩) b = [.string ByteArray.empty, ptr b, ptr b, .map (some w.heap.size)] := by simp [nodec, linkc]
    have et : nodet b b = 68 := by simp [nodet]
    rw [en, et]; exact this
  · exact HM2.out.keep ((((Upd.refl (fun k => k = a) w2).set (fun _ => rfl)).set (fun _ => rfl)).drew) (fun e => hne e)
  · funext k; simp [recF]
theorem clear_any (a : Nat) (ks : List ByteArray) (F : Nat → Prop) (w : World) (h : RecRep w a ks F) :
    Calls Try.prog 36 #[.pointer (some ⟨a, 0, none⟩)] w fun e w' => e = .returned (.tuple #[]) ∧ RecTo w w' a F [] := by
  obtain ⟨mb, G, bs, m, h, rfl, rfl⟩ := h
  have hb := h.nodes a (by simp)
  have en : nodec a mb G a = [.string ByteArray.empty, ptr (G a).ahead, ptr (G a).next, .map (some mb)] := by simp [nodec, linkc, h.root]
  have et : nodet a a = 68 := by simp [nodet]
  rw [en, et] at hb
  refine (clear_raw a _ _ _ w hb).mono fun e w' ⟨h1, h2, h3⟩ => ⟨h1, _, h2, h3.weaken (fun i _ e => Or.inl e), fun k hk => ?_⟩
  rcases hk with rfl | rfl
  · exact Or.inl (Or.inl rfl)
  · exact Or.inr (Nat.le_refl _)
theorem rnew_any (w : World) :
    Calls Try.prog 23 #[] w fun e w' => ∃ a F, e = .returned (.pointer (some ⟨a, 0, none⟩)) ∧ RecRep w' a [] F ∧ Upd (fun _ => False) w w' ∧ ∀ k, F k → w.heap.size ≤ k := by
  have C := Lib.hid (clear_raw w.heap.size (.pointer none) (.pointer none) (.map none) _ (Blk.made w [.string ByteArray.empty, .pointer none, .pointer none, .map none] 68))
  go_enter Try.func23, Try.ntmps23
  go_wp2_with fail
  refine (C.out).mono ?_
  rintro e w1 ⟨rfl, h1, u1⟩
  have H1 := Lib.hid h1
  have U1 := Lib.hid u1
  clear h1 u1 C
  go_wp2
  go_ret
  refine ⟨w.heap.size, _, rfl, H1.out, (((Upd.refl (fun _ => False) w).alloc _).trans (U1.out.weaken (F := fun k => k = w.heap.size) (fun _ _ h => h)) (fun i hi e => by omega)), fun k hk => ?_⟩
  rcases hk with rfl | rfl
  · exact Nat.le_refl _
  · simp
end Go.Proofs.Ythgojhchakclcaa
