/- Walks: Drop, Oldest, New, Clear, All of what is recent. -/
import Derived.Test.YtcdihffcncaibaaDoorK08
import Derived.Lib.Builder
import Derived.Test.YtcdihffcncaibaaDoorK05
import Derived.Test.YtcdihffcncaibaaDoorK01
import Derived.LoopN
import Derived.Deep.RegionHeld3
import Derived.Sort.Grow
import Derived.Deep.DeepCutAuto
import Derived.Test.YtcdihffcncaibaaDoorRows
set_option linter.unusedVariables false
set_option linter.unusedSimpArgs false
set_option maxRecDepth 100000
namespace Go.Proofs.YtcdihffcncaibaaDoor
open Go.RowKit
open Ring (Lk setNext setAhead chain)

set_option maxHeartbeats 2000000 in
theorem rdrop_any (a : Nat) (ks : List ByteArray) (F : Nat → Prop) (key : ByteArray) (w : World) (h : RecRep w a ks F) :
    Calls Tryd.prog 54 #[.pointer (some ⟨a, 0, none⟩), .string key] w fun e w' => e = .returned (.bool (decide (key ∈ ks))) ∧ RecTo w w' a F (ks.erase key) := by
  obtain ⟨mb, G, bs, m, h, rfl, rfl⟩ := h
  have c3 := h.nodes.c3 (by simp)
  have lk := h.look key true
  have hkm := h.key_mem key
  simp only [if_true] at lk
  unfold lv at lk
  cases hk : aget m key with
  | none =>
    rw [hk] at lk hkm
    simp only [Option.map_none, Option.isSome_none] at lk hkm
    rw [← hkm]
    have hnk : key ∉ keysOfG G bs := by simpa using hkm.symm
    rw [erase_none hnk]
    have H := Lib.hid h
    clear h hk hkm
    go_enter Tryd.func54, Tryd.ntmps54
    go_wp2
    go_ret
    exact ⟨rfl, _, ⟨mb, G, bs, m, H.out, rfl, rfl⟩, Upd.refl _ _, FromF.refl _ _⟩
  | some b =>
    rw [hk] at lk hkm
    simp only [Option.map_some, Option.isSome_some] at lk hkm
    rw [← hkm]
    obtain ⟨l, r, hb, hkey, he⟩ := h.split hk
    obtain ⟨o1, o2⟩ := Ring.chain_out (b := b) (l := l) (r := r) (by rw [← hb]; exact h.ring) (by rw [← hb]; exact h.nd)
    have sub : ∀ x, x ∈ a :: (l ++ r) → x ∈ a :: bs := fun x hx => by
      rw [hb]; simp only [List.mem_cons, List.mem_append] at hx ⊢
      rcases hx with h | h | h
      · exact Or.inl h
      · exact Or.inr (Or.inl h)
      · exact Or.inr (Or.inr (Or.inr h))
    have bin : b ∈ a :: bs := by rw [hb]; simp
    have O := Lib.hid (out_any a mb G (a :: bs) b w h.nodes bin (sub _ o1) (sub _ o2))
    have H := Lib.hid h
    have HK := Lib.hid hk
    have HE := Lib.hid he
    have HB := Lib.hid hb
    have HS := Lib.hid sub
    have O1 := Lib.hid (And.intro (sub _ o1) (sub _ o2))
    clear h hk hkm he sub o1 o2 hb hkey
    go_enter Tryd.func54, Tryd.ntmps54
    go_wp2_with fail
    refine (O.out).mono ?_
    rintro e w1 ⟨rfl, n1, u1⟩
    have c4 := n1.c3 (show a ∈ a :: bs by simp)
    have hmne := H.out.mne
    have hm1 : MapAt strEnc w1 mb (pm m) := H.out.map.keep u1 (fun e => by
      rcases e with e | e
      · exact hmne (by rw [e]; exact O1.out.1)
      · exact hmne (by rw [e]; exact O1.out.2))
    obtain ⟨w2, de, hm2, u2⟩ := hm1.del keyS Tryd.underlying72 key 0
    rw [pm_del] at hm2
    have N1 := Lib.hid n1
    have U1 := Lib.hid u1
    have U2 := Lib.hid u2
    have HM2 := Lib.hid hm2
    unfold strEnc at de
    clear n1 u1 u2 hm1 hm2 O c3 hmne
    go_wp2
    go_ret
    have hmne := H.out.mne
    have inF : ∀ x, x ∈ a :: bs → recF a mb bs x := fun x hx => by
      rcases List.mem_cons.1 hx with e | e
      · exact Or.inl e
      · exact Or.inr (Or.inr e)
    have N2 : Nodes w2 a mb (Ring.without G b) (a :: bs) := N1.out.keep U2.out (fun x hx e => hmne (by have : x = mb := e; rw [← this]; exact hx))
    refine ⟨rfl, _, ⟨mb, _, _, _, H.out.cut HK.out HB.out (fun x hx => N2 x (HS.out x hx)) HM2.out, ?_, rfl⟩, (U1.out.weaken (F := recF a mb bs) ?_).trans U2.out (fun i _ e => Or.inr (Or.inl e)), ?_⟩
    · rw [HE.out]; exact keysOf_congr fun c _ => (Ring.without_key G b c).symm
    · rintro i _ (rfl | rfl)
      · exact inF _ O1.out.1
      · exact inF _ O1.out.2
    · rintro i (rfl | rfl | hi)
      · exact Or.inl (Or.inl rfl)
      · exact Or.inl (Or.inr (Or.inl rfl))
      · exact Or.inl (inF _ (HS.out _ (List.mem_cons_of_mem _ hi)))

theorem linkInfo : ∃ j, Tryd.prog.info? 71 = some j ∧ j.size ≠ 0 := by
  have h : (Tryd.prog.info? 71).map (·.size) = some 3 := by kernel_rfl
  cases hj : Tryd.prog.info? 71 with
  | none => rw [hj] at h; cases h
  | some j => rw [hj] at h; exact ⟨j, rfl, by simp at h; omega⟩
theorem neq_same (x : Nat) (w : World) : (binOp .neq 69 (.pointer (some ⟨x, 0, none⟩)) (.pointer (some ⟨x, 0, none⟩))).run Tryd.prog w = .ok (.bool false) w := by
  obtain ⟨j, hj, hz⟩ := linkInfo
  exact Lib.run_neq_ptr_same w _ Tryd.underlying69 hj
theorem neq_other {x y : Nat} {w : World} {cx cy : List Value} {tx ty : TypeId} (hne : x ≠ y) (hx : Blk w x cx tx) (hy : Blk w y cy ty) : (binOp .neq 69 (.pointer (some ⟨x, 0, none⟩)) (.pointer (some ⟨y, 0, none⟩))).run Tryd.prog w = .ok (.bool true) w := by
  obtain ⟨j, hj, hz⟩ := linkInfo
  have h : ∀ d : Nat, (Op.equalIn (d + 1) 69 (.pointer (some ⟨x, 0, none⟩)) (.pointer (some ⟨y, 0, none⟩))).run Tryd.prog w = .ok false w := fun d => by
    simp [Op.equalIn, run_underlying Tryd.underlying69, sizeOf, typeInfo, hj, hz, run_sameAddr_other (a := ⟨x, 0, none⟩) (b := ⟨y, 0, none⟩) w (fun e => hne (congrArg Addr.block e)) hx hy]
  simp only [binOp]
  simp [Op.equal, Op.maxDepth, h 9999]

/-- The one used longest ago, but one. -/
def oldest (but : ByteArray) (ks : List ByteArray) : ByteArray × Bool := match ks with
  | [] => (ByteArray.empty, false)
  | k :: r => if k = but then (match r with
    | [] => (ByteArray.empty, false)
    | k2 :: _ => (k2, true)) else (k, true)

set_option maxHeartbeats 2000000 in
theorem oldest_any (a : Nat) (ks : List ByteArray) (F : Nat → Prop) (but : ByteArray) (w : World) (h : RecRep w a ks F) :
    Calls Tryd.prog 44 #[.pointer (some ⟨a, 0, none⟩), .string but] w fun e w' => e = .returned (.tuple #[.string (oldest but ks).1, .bool (oldest but ks).2]) ∧ ∃ n, w' = w.drewN n := by
  obtain ⟨mb, G, bs, m, h, rfl, rfl⟩ := h
  have a2 := h.nodes.c2 (show a ∈ a :: bs by simp)
  have a0 := h.nodes.c0 (show a ∈ a :: bs by simp)
  rw [h.root] at a0
  have ns := neq_same a w
  have nsd := neq_same a w.drew
  cases bs with
  | nil =>
    have e := h.ring.1
    rw [e] at a2
    clear h
    go_enter Tryd.func44, Tryd.ntmps44
    go_wp2
    go_region
    go_wp2
    go_ret2
    exact ⟨rfl, 1, rfl⟩
  | cons b r =>
    have e := h.ring.1
    rw [e] at a2
    have b0 := h.nodes.c0 (show b ∈ a :: b :: r by simp)
    have b2 := h.nodes.c2 (show b ∈ a :: b :: r by simp)
    have hba : b ≠ a := fun e => (List.nodup_cons.1 h.nd).1 (by simp [e])
    have e2 := Ring.chain_next h.ring.2.2
    rw [e2] at b2
    by_cases hk : (G b).key = but
    · have hkb : ((G b).key.toList == but.toList) = true := by rw [hk]; simp
      have n1 := neq_other hba (h.nodes b (by simp)) (h.nodes a (by simp))
      cases r with
      | nil =>
        have E : Hid (oldest but (keysOfG G [b]) = (ByteArray.empty, false)) := by show oldest _ _ = _; simp [oldest, keysOfG, hk]
        replace b2 : w.cell? ⟨b, 2, none⟩ = some (.pointer (some ⟨a, 0, none⟩)) := b2
        clear h hk e e2 hba
        go_enter Tryd.func44, Tryd.ntmps44
        go_wp2
        go_region
        go_wp2
        go_ret2
        rw [E.out]
        exact ⟨rfl, 1, rfl⟩
      | cons c r =>
        have E : Hid (oldest but (keysOfG G (b :: c :: r)) = ((G c).key, true)) := by show oldest _ _ = _; simp [oldest, keysOfG, hk]
        replace b2 : w.cell? ⟨b, 2, none⟩ = some (.pointer (some ⟨c, 0, none⟩)) := b2
        have d0 := h.nodes.c0 (show c ∈ a :: b :: c :: r by simp)
        have hca : c ≠ a := fun e => (List.nodup_cons.1 h.nd).1 (by simp [e])
        have n2 := neq_other hca (h.nodes c (by simp)).drew (h.nodes a (by simp)).drew
        have n3 := neq_other hca (h.nodes c (by simp)) (h.nodes a (by simp))
        clear h hk e e2 hba hca ns nsd
        go_enter Tryd.func44, Tryd.ntmps44
        go_wp2
        go_region
        go_wp2
        go_ret2
        rw [E.out]
        exact ⟨rfl, 1, rfl⟩
    · have hkb : ((G b).key.toList == but.toList) = false := by
        have : ¬ (G b).key.toList = but.toList := fun e => hk (toList_eq (by simp [e]))
        simpa using this
      have n1 := neq_other hba (h.nodes b (by simp)) (h.nodes a (by simp))
      have n2 := neq_other hba (h.nodes b (by simp)).drew (h.nodes a (by simp)).drew
      have E : Hid (oldest but (keysOfG G (b :: r)) = ((G b).key, true)) := by show oldest _ _ = _; simp [oldest, keysOfG, hk]
      clear h hk e e2 hba ns nsd
      go_enter Tryd.func44, Tryd.ntmps44
      go_wp2
      go_region
      go_wp2
      go_ret2
      rw [E.out]
      exact ⟨rfl, 1, rfl⟩

/-- Cleared: no key, a new map. -/
theorem RecAt.empty {w : World} {a mb : Nat} {G : Nat → Lk} (hN : Nodes w a mb G [a]) (h0 : (G a).key = ByteArray.empty) (h1 : (G a).next = a) (h2 : (G a).ahead = a) (hM : MapAt strEnc w mb []) (hne : mb ≠ a) : RecAt w a mb G [] [] :=
  ⟨hN, h0, hM, ⟨h1, h2⟩, by simp, by simpa using hne, by simp [akeys], fun k b => by simp [aget]⟩

set_option maxHeartbeats 1000000 in
/-- Clear, at whatever the block holds: its root's key alone must be the empty text. -/
theorem clear_raw (a : Nat) (v1 v2 v3 : Value) (w : World) (h : Blk w a [.string ByteArray.empty, v1, v2, v3] 74) :
    Calls Tryd.prog 30 #[.pointer (some ⟨a, 0, none⟩)] w fun e w' => e = .returned (.tuple #[]) ∧ RecRep w' a [] (fun k => k = a ∨ k = w.heap.size) ∧ Upd (fun k => k = a) w w' := by
  have al := h.lt
  have H := Lib.hid h
  have c3 : w.cell? ⟨a, 3, none⟩ = some v3 := h.cellAt rfl
  have f3 := h.free 3
  have mk := run_makeMap (P := Tryd.prog) 72 w
  clear h
  go_enter Tryd.func30, Tryd.ntmps30
  go_wp2
  obtain ⟨w2, E⟩ : ∃ w2, (w.setCell ⟨a, 3, none⟩ (.map (some w.heap.size))).alloc (.map #[] 0) = w2 := ⟨_, rfl⟩
  rw [E]
  have hM2 : MapAt strEnc w2 w.heap.size [] := by
    rw [← E]
    have := MapAt.made (enc := strEnc) (w.setCell ⟨a, 3, none⟩ (.map (some w.heap.size)))
    rw [show (w.setCell ⟨a, 3, none⟩ (.map (some w.heap.size))).heap.size = w.heap.size by simp [World.setCell]] at this
    exact this
  have hB2 : Blk w2 a [.string ByteArray.empty, v1, v2, .map (some w.heap.size)] 74 := by
    rw [← E]; exact (H.out.set 3 (.map (some w.heap.size))).alloc (.map #[] 0)
  have u2 : Upd (fun k => k = a) w w2 := by
    rw [← E]; exact ((Upd.refl (fun k => k = a) w).set (fun _ => rfl)).alloc _
  have d1 : w2.cell? ⟨a, 1, none⟩ = some v1 := hB2.cellAt rfl
  have d2 : w2.cell? ⟨a, 2, none⟩ = some v2 := hB2.cellAt rfl
  have e1 := hB2.free 1
  have e2 := hB2.free 2
  have HB2 := Lib.hid hB2
  have U2 := Lib.hid u2
  have HM2 := Lib.hid hM2
  clear mk c3 f3 E hB2 u2 hM2
  go_wp2
  go_region
  go_end0
  have hne : w.heap.size ≠ a := by omega
  refine ⟨rfl, ⟨w.heap.size, fun _ => ⟨ByteArray.empty, a, a⟩, [], [], RecAt.empty ?_ rfl rfl rfl ?_ hne, rfl, ?_⟩, ((U2.out.set (fun _ => rfl)).set (fun _ => rfl)).drew⟩
  · intro b hb
    obtain rfl : b = a := by simpa using hb
    have := ((HB2.out.set 1 (ptr b)).set 2 (ptr b)).drew
    have en : nodec b w.heap.size (fun _ => ⟨ByteArray.empty, b, b⟩) b = [.string ByteArray.empty, ptr b, ptr b, .map (some w.heap.size)] := by simp [nodec, linkc]
    have et : nodet b b = 74 := by simp [nodet]
    rw [en, et]; exact this
  · exact HM2.out.keep ((((Upd.refl (fun k => k = a) w2).set (fun _ => rfl)).set (fun _ => rfl)).drew) (fun e => hne e)
  · funext k; simp [recF]
theorem clear_any (a : Nat) (ks : List ByteArray) (F : Nat → Prop) (w : World) (h : RecRep w a ks F) :
    Calls Tryd.prog 30 #[.pointer (some ⟨a, 0, none⟩)] w fun e w' => e = .returned (.tuple #[]) ∧ RecTo w w' a F [] := by
  obtain ⟨mb, G, bs, m, h, rfl, rfl⟩ := h
  have hb := h.nodes a (by simp)
  have en : nodec a mb G a = [.string ByteArray.empty, ptr (G a).ahead, ptr (G a).next, .map (some mb)] := by simp [nodec, linkc, h.root]
  have et : nodet a a = 74 := by simp [nodet]
  rw [en, et] at hb
  refine (clear_raw a _ _ _ w hb).mono fun e w' ⟨h1, h2, h3⟩ => ⟨h1, _, h2, h3.weaken (fun i _ e => Or.inl e), fun k hk => ?_⟩
  rcases hk with rfl | rfl
  · exact Or.inl (Or.inl rfl)
  · exact Or.inr (Nat.le_refl _)
theorem rnew_any (w : World) :
    Calls Tryd.prog 14 #[] w fun e w' => ∃ a F, e = .returned (.pointer (some ⟨a, 0, none⟩)) ∧ RecRep w' a [] F ∧ Upd (fun _ => False) w w' ∧ ∀ k, F k → w.heap.size ≤ k := by
  have C := Lib.hid (clear_raw w.heap.size (.pointer none) (.pointer none) (.map none) _ (Blk.made w [.string ByteArray.empty, .pointer none, .pointer none, .map none] 74))
  go_enter Tryd.func14, Tryd.ntmps14
  go_wp2_with fail
  refine (C.out).mono ?_
  rintro e w1 ⟨rfl, h1, u1⟩
  have H1 := Lib.hid h1
  have U1 := Lib.hid u1
  clear h1 u1 C
  go_wp2
  go_ret
  refine ⟨w.heap.size, _, rfl, H1.out, (((Upd.refl (fun _ => False) w).alloc _).trans (U1.out.weaken (F := fun k => k = w.heap.size) (fun _ _ h => h)) (fun i hi e => by omega)), fun k hk => ?_⟩
  rcases hk with rfl | rfl
  · exact Nat.le_refl _
  · simp
end Go.Proofs.YtcdihffcncaibaaDoor
/- Walk: All of what is recent. -/
set_option linter.unusedVariables false
set_option linter.unusedSimpArgs false
set_option maxRecDepth 100000
namespace Go.Proofs.YtcdihffcncaibaaDoor
open Go.RowKit
open Ring (Lk setNext setAhead chain)

end Go.Proofs.YtcdihffcncaibaaDoor
/- Expiry: what is ahead of what. -/
set_option linter.unusedVariables false
set_option linter.unusedSimpArgs false
namespace Go.Proofs.YtcdihffcncaibaaDoor
open Go.RowKit

theorem cmpI_any (a b : Int) (w : World) : Calls Tryd.prog 109 #[.int .i64 a, .int .i64 b] w fun e w' => e = .returned (.int .i64 (cmpV (decide (a < b)) (decide (b < a)))) ∧ w' = w := by
  cases h1 : decide (a < b) with
  | true =>
    go_enter Tryd.func109, Tryd.ntmps109
    go_wp2
    go_ret
    exact ⟨rfl, rfl⟩
  | false =>
    cases h2 : decide (b < a) with
    | true =>
      go_enter Tryd.func109, Tryd.ntmps109
      go_wp2
      go_ret
      exact ⟨rfl, rfl⟩
    | false =>
      go_enter Tryd.func109, Tryd.ntmps109
      go_wp2
      go_ret
      exact ⟨rfl, rfl⟩
theorem cmpS_any (a b : ByteArray) (w : World) : Calls Tryd.prog 110 #[.string a, .string b] w fun e w' => e = .returned (.int .i64 (cmpS a b)) ∧ w' = w := by
  unfold cmpS
  cases h1 : Op.bytesLess a.toList b.toList with
  | true =>
    go_enter Tryd.func110, Tryd.ntmps110
    go_wp2
    go_ret
    exact ⟨rfl, rfl⟩
  | false =>
    cases h2 : (a.toList == b.toList) with
    | true =>
      have h3 : (!a.toList == b.toList) = false := by rw [h2]; rfl
      go_enter Tryd.func110, Tryd.ntmps110
      go_wp2
      go_ret
      exact ⟨rfl, rfl⟩
    | false =>
      have h3 : (!a.toList == b.toList) = true := by rw [h2]; rfl
      go_enter Tryd.func110, Tryd.ntmps110
      go_wp2
      go_ret
      exact ⟨rfl, rfl⟩
theorem cmpOr_any (b : Nat) (x y : Int) (w : World) (h0 : w.cell? ⟨b, 0, none⟩ = some (.int .i64 x)) (h1 : w.cell? ⟨b, 1, none⟩ = some (.int .i64 y)) :
    Calls Tryd.prog 108 #[.slice (some ⟨b, 0, none⟩) 2 2] w fun e w' => e = .returned (.int .i64 (orI x y)) ∧ w' = w := by
  unfold orI
  cases hx : (x == 0) with
  | false =>
    have hx2 : (!x == 0) = true := by rw [hx]; rfl
    go_enter Tryd.func108, Tryd.ntmps108
    go_wp2
    refine wp_loop_rounds 2 ?_
    rw [rounds_succ]
    go_wp2
    go_ret
    exact ⟨by simp, rfl⟩
  | true =>
    have hx2 : (!x == 0) = false := by rw [hx]; rfl
    have hx0 : x = 0 := by simpa using hx
    cases hy : (y == 0) with
    | false =>
      have hy2 : (!y == 0) = true := by rw [hy]; rfl
      go_enter Tryd.func108, Tryd.ntmps108
      go_wp2
      refine wp_loop_rounds 3 ?_
      rw [rounds_succ]
      go_wp2
      rw [rounds_succ]
      go_wp2
      go_ret
      exact ⟨by simp, rfl⟩
    | true =>
      have hy2 : (!y == 0) = false := by rw [hy]; rfl
      have hy0 : y = 0 := by simpa using hy
      go_enter Tryd.func108, Tryd.ntmps108
      go_wp2
      refine wp_loop_rounds 3 ?_
      rw [rounds_succ]
      go_wp2
      rw [rounds_succ]
      go_wp2
      rw [rounds_succ]
      go_wp2
      go_ret
      exact ⟨by simp [hy0], rfl⟩
set_option maxHeartbeats 8000000 in
set_option maxRecDepth 100000 in
theorem order_raw (w1 w2 : Int) (k1 k2 : ByteArray) (w : World) :
    Calls Tryd.prog 107 #[.agg #[.int .i64 w1, .string k1], .agg #[.int .i64 w2, .string k2]] w fun e w' => e = .returned (.int .i64 (ordV w1 k1 w2 k2)) ∧ w' = (((w.alloc (.cells #[.int .i64 w1, .string k1] 100)).alloc (.cells #[.int .i64 w2, .string k2] 100)).alloc (.cells #[.int .i64 (cmpV (decide (w1 < w2)) (decide (w2 < w1))), .int .i64 (cmpS k1 k2)] 3)).drew := by
  go_enter Tryd.func107, Tryd.ntmps107
  go_wp2


  go_region_held3 (fun w' => w'.cell? ⟨w.heap.size, 0, none⟩ = some (.int .i64 w1) ∧ w'.cell? ⟨w.heap.size, 1, none⟩ = some (.string k1) ∧ w'.cell? ⟨w.heap.size + 1, 0, none⟩ = some (.int .i64 w2) ∧ w'.cell? ⟨w.heap.size + 1, 1, none⟩ = some (.string k2)) (go_keep) (first
    | (go_at_call 109; refine (cmpI_any _ _ _).mono ?_; rintro e w' ⟨rfl, rfl⟩)
    | (go_at_call 110; refine (cmpS_any _ _ _).mono ?_; rintro e w' ⟨rfl, rfl⟩)
    | (go_at_call 108; refine (cmpOr_any _ (cmpV (decide (w1 < w2)) (decide (w2 < w1))) (cmpS k1 k2) _ (by simp [World.cell?_alloc_at]) (by simp [World.cell?_alloc_at])).mono ?_; rintro e w' ⟨rfl, rfl⟩))
  go_wp2
  go_ret
  exact ⟨rfl, rfl⟩
theorem order_any (w1 w2 : Int) (k1 k2 : ByteArray) (w : World) :
    Calls Tryd.prog 107 #[.agg #[.int .i64 w1, .string k1], .agg #[.int .i64 w2, .string k2]] w fun e w' => e = .returned (.int .i64 (ordV w1 k1 w2 k2)) ∧ Upd (fun _ => False) w w' :=
  (order_raw w1 w2 k1 k2 w).mono fun _ _ ⟨h1, h2⟩ => ⟨h1, by rw [h2]; exact ((((Upd.refl _ w).alloc _).alloc _).alloc _).drew⟩
theorem order_grow (w1 w2 : Int) (k1 k2 : ByteArray) (w : World) :
    Calls Tryd.prog 107 #[.agg #[.int .i64 w1, .string k1], .agg #[.int .i64 w2, .string k2]] w fun e w' => e = .returned (.int .i64 (ordV w1 k1 w2 k2)) ∧ ∃ q os', w' = Go.Sort.grow (w.drewN q) os' :=
  (order_raw w1 w2 k1 k2 w).mono fun e w' ⟨h1, h2⟩ => by
    subst h2
    refine ⟨h1, 1, ?_⟩
    rw [Go.Sort.alloc_eq_grow, Go.Sort.alloc_eq_grow, Go.Sort.alloc_eq_grow, Go.Sort.grow_grow, Go.Sort.grow_grow]
    exact ⟨_, rfl⟩
end Go.Proofs.YtcdihffcncaibaaDoor
/- Walks: the row of entries: which is ahead, two change places, one more, the last one goes. -/
set_option linter.unusedVariables false
set_option linter.unusedSimpArgs false
namespace Go.Proofs.YtcdihffcncaibaaDoor
open Go.RowKit

theorem own_blk {w : World} {base n : Nat} {e : TypeId} {v : Value} {xs : List Value} (h : w.ownsRow base e 1 v n xs) : xs.length = n ∧ ((v = .slice none 0 0 ∧ n = 0) ∨ ∃ b cap cs, v = .slice (some ⟨b, 0, none⟩) n cap ∧ base ≤ b ∧ Blk w b (xs ++ cs) e ∧ n + cs.length = cap ∧ cap ≤ maxLen) := by
  obtain ⟨h0, ⟨rfl, e⟩ | ⟨g, cap, cur, rfl, hg, hh, h1, h2, h3, h4⟩⟩ := h
  · exact ⟨by simpa using h0, Or.inl ⟨rfl, e⟩⟩
  · rw [Nat.mul_one] at h0 h4
    refine ⟨h0, Or.inr ⟨g, cap, cur.toList.drop n, rfl, hg, ?_, ?_, h2⟩⟩
    · unfold Blk
      rw [← h4, List.take_append_drop]; exact hh
    · simp; omega
theorem own_of {w : World} {base b cap n : Nat} {e : TypeId} {xs cs : List Value} (hb : base ≤ b) (h : Blk w b (xs ++ cs) e) (hn : xs.length = n) (hc : n + cs.length = cap) (hm : cap ≤ maxLen) : w.ownsRow base e 1 (.slice (some ⟨b, 0, none⟩) n cap) n xs :=
  ⟨by omega, Or.inr ⟨b, cap, _, rfl, hb, h, by omega, hm, by simp; omega, by subst hn; simp⟩⟩

/-- The cells of an entry: when, which key, its place. -/
def entc (d : DueP) (i : Nat) : List Value := [.int .i64 d.1, .string d.2, .int .i64 (i : Int)]
/-- Behind xa lies a row of entries: those of the blocks bs, each of which knows its place. -/
structure RowM (w : World) (base xa : Nat) (mv v : Value) (bs : List Nat) (ent : Nat → DueP) : Prop where
  x : Blk w xa [v, mv] 79
  own : w.ownsRow base 95 1 v bs.length (bs.map ptr)
  at_ : ∀ i b, bs[i]? = some b → Blk w b (entc (ent b) i) 102
  nd : bs.Nodup
  xn : xa ∉ bs
  vx : v.ownBlock ≠ some xa
  vn : ∀ k, v.ownBlock = some k → k ∉ bs
def rowF (v : Value) (bs : List Nat) : Nat → Prop := fun k => v.ownBlock = some k ∨ k ∈ bs
section
variable {w w' : World} {base xa : Nat} {mv v : Value} {bs : List Nat} {ent : Nat → DueP}
theorem RowM.keep {F : Nat → Prop} (h : RowM w base xa mv v bs ent) (u : Upd F w w') (hx : ¬ F xa) (hF : ∀ k, rowF v bs k → ¬ F k) : RowM w' base xa mv v bs ent :=
  ⟨u.blk h.x hx, own_keep h.own u (fun k hk => hF k (Or.inl hk)), fun i b hb => u.blk (h.at_ i b hb) (hF b (Or.inr (List.mem_of_getElem? hb))), h.nd, h.xn, h.vx, h.vn⟩
theorem RowM.keep0 (h : RowM w base xa mv v bs ent) (u : Upd (fun _ => False) w w') : RowM w' base xa mv v bs ent := h.keep u (fun h => h) (fun _ _ h => h)
theorem RowM.len (h : RowM w base xa mv v bs ent) : bs.length ≤ maxLen := by obtain ⟨p, c, _, h⟩ := own_slice h.own; exact h
theorem RowM.mem (h : RowM w base xa mv v bs ent) {i : Nat} (hi : i < bs.length) : ∃ g cap cs, v = .slice (some ⟨g, 0, none⟩) bs.length cap ∧ base ≤ g ∧ Blk w g (bs.map ptr ++ cs) 95 ∧ bs.length + cs.length = cap ∧ cap ≤ maxLen ∧ g ∉ bs := by
  obtain ⟨_, ⟨_, e⟩ | ⟨b, cap, cs, e, h1, h2, h3, h4⟩⟩ := own_blk h.own
  · omega
  · exact ⟨b, cap, cs, e, h1, h2, h3, h4, h.vn b (by rw [e]; rfl)⟩
end
theorem map_at {bs : List Nat} {cs : List Value} {i b : Nat} (h : bs[i]? = some b) : (bs.map ptr ++ cs)[i]? = some (ptr b) := by
  have hi := (List.getElem?_eq_some_iff.1 h).1
  rw [List.getElem?_append_left (by simpa using hi), List.getElem?_map, h]; rfl

set_option maxHeartbeats 4000000 in
set_option maxRecDepth 100000 in
theorem less_any (base xa : Nat) (mv v : Value) (bs : List Nat) (ent : Nat → DueP) (i j bi bj : Nat) (w : World) (h : RowM w base xa mv v bs ent) (hi : bs[i]? = some bi) (hj : bs[j]? = some bj) :
    Calls Tryd.prog 105 #[v, .int .i64 (i : Int), .int .i64 (j : Int)] w fun e w' => e = .returned (.bool (decide (ltD (ent bi) (ent bj)))) ∧ Upd (fun _ => False) w w' := by
  have hil := (List.getElem?_eq_some_iff.1 hi).1
  have hjl := (List.getElem?_eq_some_iff.1 hj).1
  have hlm := h.len
  unfold maxLen at hlm
  obtain ⟨g, cap, cs, rfl, hg, hB, hc, hm, hgn⟩ := h.mem hil
  have c1 : w.cell? ⟨g, i, none⟩ = some (.pointer (some ⟨bi, 0, none⟩)) := hB.cellAt (map_at hi)
  have c2 : w.cell? ⟨g, j, none⟩ = some (.pointer (some ⟨bj, 0, none⟩)) := hB.cellAt (map_at hj)
  have d1 : w.cell? ⟨bi, 0, none⟩ = some (.int .i64 (ent bi).1) := (h.at_ i bi hi).cellAt rfl
  have d2 : w.cell? ⟨bi, 1, none⟩ = some (.string (ent bi).2) := (h.at_ i bi hi).cellAt rfl
  have e1 : w.cell? ⟨bj, 0, none⟩ = some (.int .i64 (ent bj).1) := (h.at_ j bj hj).cellAt rfl
  have e2 : w.cell? ⟨bj, 1, none⟩ = some (.string (ent bj).2) := (h.at_ j bj hj).cellAt rfl
  have N := Lib.hid (ord_neg (ent bi).1 (ent bi).2 (ent bj).1 (ent bj).2)
  have q1 : (i : Int) < (bs.length : Int) := by omega
  have q2 : (j : Int) < (bs.length : Int) := by omega
  obtain ⟨wi, ki, E1⟩ : ∃ a b, ent bi = (a, b) := ⟨_, _, rfl⟩
  obtain ⟨wj, kj, E2⟩ : ∃ a b, ent bj = (a, b) := ⟨_, _, rfl⟩
  rw [E1] at d1 d2 N
  rw [E2] at e1 e2 N
  rw [E1, E2]
  have KP := Lib.hid (fun (w' : World) (u : Upd (fun _ => False) w w') => (⟨(u.cell (p := ⟨g, i, none⟩) hB.lt (fun h => h)).trans c1, (u.cell (p := ⟨g, j, none⟩) hB.lt (fun h => h)).trans c2, (u.cell (p := ⟨bi, 0, none⟩) (h.at_ i bi hi).lt (fun h => h)).trans d1, (u.cell (p := ⟨bi, 1, none⟩) (h.at_ i bi hi).lt (fun h => h)).trans d2,
    (u.cell (p := ⟨bj, 0, none⟩) (h.at_ j bj hj).lt (fun h => h)).trans e1, (u.cell (p := ⟨bj, 1, none⟩) (h.at_ j bj hj).lt (fun h => h)).trans e2⟩ : w'.cell? ⟨g, i, none⟩ = some (.pointer (some ⟨bi, 0, none⟩)) ∧ w'.cell? ⟨g, j, none⟩ = some (.pointer (some ⟨bj, 0, none⟩)) ∧ w'.cell? ⟨bi, 0, none⟩ = some (.int .i64 wi) ∧ w'.cell? ⟨bi, 1, none⟩ = some (.string ki) ∧ w'.cell? ⟨bj, 0, none⟩ = some (.int .i64 wj) ∧ w'.cell? ⟨bj, 1, none⟩ = some (.string kj)))
  clear h hB hi hj hc hm hg hgn E1 E2
  go_enter Tryd.func105, Tryd.ntmps105
  go_wp2
  go_region_held3 (fun w' => w'.cell? ⟨g, i, none⟩ = some (.pointer (some ⟨bi, 0, none⟩)) ∧ w'.cell? ⟨g, j, none⟩ = some (.pointer (some ⟨bj, 0, none⟩)) ∧ w'.cell? ⟨bi, 0, none⟩ = some (.int .i64 wi) ∧ w'.cell? ⟨bi, 1, none⟩ = some (.string ki) ∧ w'.cell? ⟨bj, 0, none⟩ = some (.int .i64 wj) ∧ w'.cell? ⟨bj, 1, none⟩ = some (.string kj)) (go_keep) (first
    | (go_at_call 107; refine (order_any _ _ _ _ _).mono ?_; rintro e w' ⟨rfl, u⟩; (have y := KP.out _ (by first | exact u | exact (Upd.refl _ w).drew.trans u (fun _ _ h => h))); (have U := Lib.hid u); clear u))
  go_wp2
  go_ret
  exact ⟨congrArg (fun b => Ending.returned (.bool b)) N.out, (Upd.refl _ w).drew.trans U.out (fun _ _ h => h)⟩

theorem map_swp {bs : List Nat} {cs : List Value} {i j bi bj : Nat} (hi : bs[i]? = some bi) (hj : bs[j]? = some bj) : ((bs.map ptr ++ cs).set i (ptr bj)).set j (ptr bi) = (swp bs i j).map ptr ++ cs := by
  obtain ⟨hi1, e1⟩ := List.getElem?_eq_some_iff.1 hi
  obtain ⟨hj1, e2⟩ := List.getElem?_eq_some_iff.1 hj
  rw [swp_eq hi1 hj1, e1, e2, List.set_append_left _ _ (by simpa using hi1), List.set_append_left _ _ (by simpa using hj1), List.map_set, List.map_set]
/-- Two have changed places. -/
theorem RowM.swapped {w w' : World} {base xa : Nat} {mv v : Value} {bs : List Nat} {ent : Nat → DueP} {g cap : Nat} {cs : List Value} {i j bi bj : Nat} (h : RowM w base xa mv v bs ent) (hi : bs[i]? = some bi) (hj : bs[j]? = some bj) (hv : v = .slice (some ⟨g, 0, none⟩) bs.length cap) (hg : base ≤ g) (hc : bs.length + cs.length = cap) (hm : cap ≤ maxLen)
    (u : Upd (rowF v bs) w w') (hB : Blk w' g ((bs.map ptr ++ cs).set i (ptr bj) |>.set j (ptr bi)) 95) (h1 : Blk w' bi (entc (ent bi) j) 102) (h2 : Blk w' bj (entc (ent bj) i) 102) (h3 : ∀ b, b ∈ bs → b ≠ bi → b ≠ bj → w'.heap[b]? = w.heap[b]?) : RowM w' base xa mv v (swp bs i j) ent := by
  have hil := (List.getElem?_eq_some_iff.1 hi).1
  have hjl := (List.getElem?_eq_some_iff.1 hj).1
  have pm := swp_perm bs i j
  refine ⟨u.blk h.x (fun e => by rcases e with e | e; exact h.vx e; exact h.xn e), ?_, fun k b hk => ?_, pm.nodup_iff.2 h.nd, fun hm => h.xn (pm.mem_iff.1 hm), h.vx, fun k hk hm => h.vn k hk (pm.mem_iff.1 hm)⟩
  · rw [swp_len, hv]
    rw [map_swp hi hj] at hB
    exact own_of hg hB (by simp [swp_len]) hc hm
  · rw [swp_get hil hjl] at hk
    by_cases ki : k = i
    · rw [if_pos ki] at hk
      rw [hj] at hk; cases hk; rw [ki]; exact h2
    · rw [if_neg ki] at hk
      by_cases kj : k = j
      · rw [if_pos kj] at hk
        rw [hi] at hk; cases hk; rw [kj]; exact h1
      · rw [if_neg kj] at hk
        have hb := List.mem_of_getElem? hk
        have n1 : b ≠ bi := fun e => ki ((List.getElem?_inj (List.getElem?_eq_some_iff.1 hk).1 h.nd).1 (by rw [hk, hi, e]))
        have n2 : b ≠ bj := fun e => kj ((List.getElem?_inj (List.getElem?_eq_some_iff.1 hk).1 h.nd).1 (by rw [hk, hj, e]))
        have := h.at_ k b hk
        unfold Blk at this ⊢
        rw [h3 b hb n1 n2]; exact this
theorem swp_same {l : List Nat} {i b : Nat} (h : l[i]? = some b) : swp l i i = l := by
  obtain ⟨h1, e⟩ := List.getElem?_eq_some_iff.1 h
  rw [swp_eq h1 h1, e]; subst e; simp
set_option maxHeartbeats 4000000 in
set_option maxRecDepth 100000 in
theorem swap_any (base xa : Nat) (mv v : Value) (bs : List Nat) (ent : Nat → DueP) (i j bi bj : Nat) (w : World) (h : RowM w base xa mv v bs ent) (hi : bs[i]? = some bi) (hj : bs[j]? = some bj) :
    Calls Tryd.prog 106 #[v, .int .i64 (i : Int), .int .i64 (j : Int)] w fun e w' => e = .returned (.tuple #[]) ∧ RowM w' base xa mv v (swp bs i j) ent ∧ Upd (rowF v bs) w w' := by
  have hil := (List.getElem?_eq_some_iff.1 hi).1
  have hjl := (List.getElem?_eq_some_iff.1 hj).1
  have hlm := h.len
  unfold maxLen at hlm
  have H := Lib.hid h
  obtain ⟨g, cap, cs, ev, hg, hB, hc, hm, hgn⟩ := h.mem hil
  subst ev
  have c1 : w.cell? ⟨g, i, none⟩ = some (.pointer (some ⟨bi, 0, none⟩)) := hB.cellAt (map_at hi)
  have c2 : w.cell? ⟨g, j, none⟩ = some (.pointer (some ⟨bj, 0, none⟩)) := hB.cellAt (map_at hj)
  have f1 : w.frozen? ⟨g, i, none⟩ = false := hB.free i
  have f2 : w.frozen? ⟨g, j, none⟩ = false := hB.free j
  have g1 : w.frozen? ⟨bi, 2, none⟩ = false := (h.at_ i bi hi).free 2
  have g2 : w.frozen? ⟨bj, 2, none⟩ = false := (h.at_ j bj hj).free 2
  have d1 : w.cell? ⟨bi, 2, none⟩ = some (.int .i64 (i : Int)) := (h.at_ i bi hi).cellAt rfl
  have d2 : w.cell? ⟨bj, 2, none⟩ = some (.int .i64 (j : Int)) := (h.at_ j bj hj).cellAt rfl
  have q1 : (i : Int) < (bs.length : Int) := by omega
  have q2 : (j : Int) < (bs.length : Int) := by omega
  have n1 : ¬ bi = g := fun e => hgn (e ▸ List.mem_of_getElem? hi)
  have n2 : ¬ bj = g := fun e => hgn (e ▸ List.mem_of_getElem? hj)
  have n3 : ¬ g = bi := fun e => n1 e.symm
  have n4 : ¬ g = bj := fun e => n2 e.symm
  have HI := Lib.hid hi
  have HJ := Lib.hid hj
  have HB := Lib.hid hB
  have HG := Lib.hid hg
  have HC := Lib.hid hc
  have HM := Lib.hid hm
  by_cases hij : i = j
  · subst hij
    have : bi = bj := by rw [hi] at hj; exact Option.some.inj hj
    subst this
    clear h hB hi hj hc hm hg hgn
    go_enter Tryd.func106, Tryd.ntmps106
    go_wp2
    go_region
    go_wp2
    go_region
    go_wp2
    go_returns
    have hb := HB.out
    have ha := H.out.at_ i bi HI.out
    have U : Upd (rowF (.slice (some ⟨g, 0, none⟩) bs.length cap) bs) w (((((w.setCell ⟨g, i, none⟩ (.pointer (some ⟨bi, 0, none⟩))).setCell ⟨g, i, none⟩ (.pointer (some ⟨bi, 0, none⟩))).setCell ⟨bi, 2, none⟩ (.int .i64 (i : Int))).setCell ⟨bi, 2, none⟩ (.int .i64 (i : Int))).drew.drew) :=
      (((((((Upd.refl _ w).set (fun _ => Or.inl rfl)).set (fun _ => Or.inl rfl)).set (fun _ => Or.inr (List.mem_of_getElem? HI.out))).set (fun _ => Or.inr (List.mem_of_getElem? HI.out))).drew).drew)
    refine ⟨rfl, H.out.swapped (i := i) (j := i) HI.out HI.out rfl HG.out HC.out HM.out U ?_ ?_ ?_ (fun b hb h1 h2 => ?_), U⟩
    · exact (((((hb.set i (ptr bi)).set i (ptr bi)).set_other n3).set_other n3).drew).drew
    · exact ((((((ha.set_other n1).set_other n1).set 2 _).set 2 _).drew).drew : Blk _ bi (((entc (ent bi) i).set 2 (.int .i64 (i : Int))).set 2 (.int .i64 (i : Int))) _)
    · exact ((((((ha.set_other n1).set_other n1).set 2 _).set 2 _).drew).drew : Blk _ bi (((entc (ent bi) i).set 2 (.int .i64 (i : Int))).set 2 (.int .i64 (i : Int))) _)
    · have hg : b ≠ g := fun e => H.out.vn g rfl (e ▸ hb)
      show (World.setCell _ _ _).heap[b]? = _
      rw [Below.heap_setCell _ _ _ _ h1, Below.heap_setCell _ _ _ _ h1, Below.heap_setCell _ _ _ _ hg, Below.heap_setCell _ _ _ _ hg]
  · have hji : ¬ j = i := fun e => hij e.symm
    have hbb : ¬ bi = bj := fun e => hij ((List.getElem?_inj hil h.nd).1 (by rw [hi, hj, e]))
    have hbb2 : ¬ bj = bi := fun e => hbb e.symm
    clear h hB hi hj hc hm hg hgn
    go_enter Tryd.func106, Tryd.ntmps106
    go_wp2
    go_region
    go_wp2
    go_region
    go_wp2
    go_returns
    have hb := HB.out
    have ha := H.out.at_ i bi HI.out
    have hc := H.out.at_ j bj HJ.out
    have U : Upd (rowF (.slice (some ⟨g, 0, none⟩) bs.length cap) bs) w (((((w.setCell ⟨g, i, none⟩ (.pointer (some ⟨bj, 0, none⟩))).setCell ⟨g, j, none⟩ (.pointer (some ⟨bi, 0, none⟩))).setCell ⟨bj, 2, none⟩ (.int .i64 (i : Int))).setCell ⟨bi, 2, none⟩ (.int .i64 (j : Int))).drew.drew) :=
      (((((((Upd.refl _ w).set (fun _ => Or.inl rfl)).set (fun _ => Or.inl rfl)).set (fun _ => Or.inr (List.mem_of_getElem? HJ.out))).set (fun _ => Or.inr (List.mem_of_getElem? HI.out))).drew).drew)
    refine ⟨rfl, H.out.swapped (i := i) (j := j) HI.out HJ.out rfl HG.out HC.out HM.out U ?_ ?_ ?_ (fun b hb h1 h2 => ?_), U⟩
    · exact (((((hb.set i (ptr bj)).set j (ptr bi)).set_other n4).set_other n3).drew).drew
    · exact ((((((ha.set_other n1).set_other n1).set_other hbb).set 2 _).drew).drew : Blk _ bi ((entc (ent bi) i).set 2 (.int .i64 (j : Int))) _)
    · exact ((((((hc.set_other n2).set_other n2).set 2 _).set_other hbb2).drew).drew : Blk _ bj ((entc (ent bj) j).set 2 (.int .i64 (i : Int))) _)
    · have hg : b ≠ g := fun e => H.out.vn g rfl (e ▸ hb)
      show (World.setCell _ _ _).heap[b]? = _
      rw [Below.heap_setCell _ _ _ _ h1, Below.heap_setCell _ _ _ _ h2, Below.heap_setCell _ _ _ _ hg, Below.heap_setCell _ _ _ _ hg]
end Go.Proofs.YtcdihffcncaibaaDoor
/- The methods of the row, called through the heap's interface. -/
set_option linter.unusedVariables false
set_option linter.unusedSimpArgs false
namespace Go.Proofs.YtcdihffcncaibaaDoor
open Go.RowKit
theorem chkNil (a : Addr) (s t : ByteArray) (w : World) : (Builtin.ssaWrapNilChk_ #[98] 98 #[.pointer (some a), .string s, .string t]).run Tryd.prog w = .ok (.pointer (some a)) w := by
  kernel_rfl
theorem rcvRow (a : Addr) (w : World) (o : Option String) (v : Value) (h : (loadVar 77 a).run Tryd.prog w = .ok v w) : (receiverAt 98 (.val (.pointer (some a))) false o).run Tryd.prog w = .ok v w := by
  unfold receiverAt
  cases o <;> simp [run_underlying Tryd.underlying98, Place.get, strVal, chkNil, Result.andThen, asAddr, h]
theorem loadRow (xa : Nat) (p : Option Addr) (n c : Nat) (w : World) (h : w.cell? ⟨xa, 0, none⟩ = some (.slice p n c)) : (loadVar 77 ⟨xa, 0, none⟩).run Tryd.prog w = .ok (.slice p n c) w := by
  simp [go_sem, h, loadVar, run_underlying Tryd.underlying77]
theorem typeInfo_run {P : Program} {t : TypeId} {i : TypeInfo} (h : P.info? t = some i) (w : World) : (typeInfo t).run P w = .ok i w := by
  simp [typeInfo, h]
theorem methRow (k : Nat) (nm : String) (f : FuncId) (hf : ((Tryd.prog.info? 98).bind fun i => (i.methods.find? (·.name == nm)).map fun m => (m.path, m.func)) = some (#[], some (f, false))) (xa : Nat) (p : Option Addr) (n c : Nat) (w : World) (h : w.cell? ⟨xa, 0, none⟩ = some (.slice p n c)) :
    (method (k + 1) 98 (.pointer (some ⟨xa, 0, none⟩)) nm).run Tryd.prog w = .ok (f, .slice p n c) w := by
  obtain ⟨i, hi, hm⟩ := Option.bind_eq_some_iff.1 hf
  obtain ⟨m, h1, h2⟩ := Option.map_eq_some_iff.1 hm
  have h3 : m.func = some (f, false) := congrArg Prod.snd h2
  replace h2 : m.path = #[] := congrArg Prod.fst h2
  rw [method]
  simp only [Sem.run_bind, typeInfo_run hi, Result.andThen, h1, h2, h3, follow, Sem.run_pure]
  simp [rcvRow _ w _ _ (loadRow xa p n c w h), Result.andThen, follow]
theorem meth_less (xa : Nat) (p : Option Addr) (n c : Nat) (w : World) (h : w.cell? ⟨xa, 0, none⟩ = some (.slice p n c)) : (method 278 98 (.pointer (some ⟨xa, 0, none⟩)) "Less").run Tryd.prog w = .ok (105, .slice p n c) w := methRow 277 _ _ (by kernel_rfl) xa p n c w h
theorem meth_swap (xa : Nat) (p : Option Addr) (n c : Nat) (w : World) (h : w.cell? ⟨xa, 0, none⟩ = some (.slice p n c)) : (method 278 98 (.pointer (some ⟨xa, 0, none⟩)) "Swap").run Tryd.prog w = .ok (106, .slice p n c) w := methRow 277 _ _ (by kernel_rfl) xa p n c w h
theorem meth_len (xa : Nat) (p : Option Addr) (n c : Nat) (w : World) (h : w.cell? ⟨xa, 0, none⟩ = some (.slice p n c)) : (method 278 98 (.pointer (some ⟨xa, 0, none⟩)) "Len").run Tryd.prog w = .ok (104, .slice p n c) w := methRow 277 _ _ (by kernel_rfl) xa p n c w h
theorem meth_pop (a : Addr) (w : World) : (method 278 98 (.pointer (some a)) "Pop").run Tryd.prog w = .ok (113, .pointer (some a)) w := by kernel_rfl
end Go.Proofs.YtcdihffcncaibaaDoor
/- Walks: container/heap over the row of entries: up, down. -/
set_option linter.unusedVariables false
set_option linter.unusedSimpArgs false
namespace Go.Proofs.YtcdihffcncaibaaDoor
open Go.RowKit

def hv (xa : Nat) : Value := .iface 98 (.pointer (some ⟨xa, 0, none⟩))
def eo (ent : Nat → DueP) (bs : List Nat) : Nat → DueP := fun k => ent ((bs[k]?).getD 0)
theorem eo_at {ent : Nat → DueP} {bs : List Nat} {i b : Nat} (h : bs[i]? = some b) : eo ent bs i = ent b := by unfold eo; rw [h]; rfl
theorem eo_swp {ent : Nat → DueP} {bs : List Nat} {i j : Nat} (hi : i < bs.length) (hj : j < bs.length) : eo ent (swp bs i j) = Pq.sw (eo ent bs) i j := by
  funext k
  unfold eo Pq.sw
  rw [swp_get hi hj]
  split
  · rfl
  · split <;> rfl
theorem rowF_perm {v : Value} {bs bs' : List Nat} (h : bs'.Perm bs) {k : Nat} (hk : rowF v bs' k) : rowF v bs k := by
  rcases hk with hk | hk
  · exact Or.inl hk
  · exact Or.inr (h.mem_iff.1 hk)
/-- The row is in a heap's order again. -/
def Heaped (base xa : Nat) (mv v : Value) (bs : List Nat) (ent : Nat → DueP) (n : Nat) (w w' : World) : Prop := ∃ bs', RowM w' base xa mv v bs' ent ∧ bs'.Perm bs ∧ Pq.Heap leD (eo ent bs') n ∧ (∀ k, n ≤ k → bs'[k]? = bs[k]?) ∧ Upd (rowF v bs) w w'
theorem swp_above {l : List Nat} {i j n k : Nat} (hi : i < n) (hj : j < n) (hk : n ≤ k) : (swp l i j)[k]? = l[k]? := by
  unfold swp; split
  · rw [List.getElem?_set_ne (by omega), List.getElem?_set_ne (by omega)]
  · rfl
set_option maxHeartbeats 4000000 in
set_option maxRecDepth 100000 in
theorem up_any (base xa : Nat) (mv v : Value) (bs : List Nat) (ent : Nat → DueP) (n j : Nat) (w : World) (h : RowM w base xa mv v bs ent) (hj : j < n) (hn : n ≤ bs.length) (hu : Pq.UpOk leD (eo ent bs) n j) :
    Calls Tryd.prog 52 #[hv xa, .int .i64 (j : Int)] w fun e w' => e = .returned (.tuple #[]) ∧ Heaped base xa mv v bs ent n w w' := by
  unfold hv
  have hlm := h.len
  unfold maxLen at hlm
  obtain ⟨g, cap, cs, ev, hg, hB, hc, hm, hgn⟩ := h.mem (i := j) (by omega)
  have EV := Lib.hid (show v = v from rfl)
  subst ev
  have H := Lib.hid h
  have HU := Lib.hid hu
  have HN := Lib.hid hn
  clear h hu hB hg hc hm hgn
  go_enter Tryd.func52, Tryd.ntmps52
  go_wp2
  go_loopw [1] (fun x1 wr => ∃ (bs' : List Nat) (j : Nat), x1 = .int .i64 (j : Int) ∧ j < n ∧ Hid (RowM wr base xa mv (.slice (some ⟨g, 0, none⟩) bs.length cap) bs' ent) ∧ Hid (bs'.Perm bs) ∧ Hid (Pq.UpOk leD (eo ent bs') n j) ∧ Hid (∀ k, n ≤ k → bs'[k]? = bs[k]?) ∧ Hid (Upd (rowF (.slice (some ⟨g, 0, none⟩) bs.length cap) bs) w wr)) (fun x1 _ => (intOf x1).toNat)
  case atStart => exact ⟨bs, j, rfl, hj, H, Lib.hid (List.Perm.refl _), HU, Lib.hid (fun _ _ => rfl), Lib.hid (Upd.refl _ _)⟩
  case round =>
    clear H HU hj
    obtain ⟨bs', j, rfl, hj, H, PM, HU, HA, U⟩ := hrel
    by_cases h0 : j = 0
    · subst h0
      go_wp2
      go_returns
      exact ⟨rfl, bs', H.out, PM.out, HU.out.done0, HA.out, U.out⟩
    · have hlen : bs'.length = bs.length := PM.out.length_eq
      have hjl : j < bs'.length := by have := HN.out; omega
      obtain ⟨i, hi⟩ : ∃ i, (j - 1) / 2 = i := ⟨_, rfl⟩
      have hil : i < bs'.length := by omega
      have hij : i < j := by omega
      have hq : ((j : Int) - 1) / 2 = (i : Int) := by omega
      have hj1 : (0 : Int) ≤ (j : Int) - 1 := by omega
      have hj2 : (j : Int) ≤ 9223372036854775807 := by have := HN.out; omega
      have hj3 : ((i : Int) == (j : Int)) = false := by simp; omega
      have LS := Lib.hid (less_any base xa mv _ bs' ent j i bs'[j] bs'[i] wr H.out (List.getElem?_eq_getElem hjl) (List.getElem?_eq_getElem hil))
      have ML := meth_less xa _ _ _ wr (H.out.x.cellAt (i := 0) rfl)
      have HI := Lib.hid hi
      have HIJ := Lib.hid (And.intro hij hj)
      have HL := Lib.hid hlen
      have e1 : eo ent bs' j = ent bs'[j] := eo_at (List.getElem?_eq_getElem hjl)
      have e2 : eo ent bs' i = ent bs'[i] := eo_at (List.getElem?_eq_getElem hil)
      by_cases hlt : ltD (ent bs'[j]) (ent bs'[i])
      · have D : decide (ltD (ent bs'[j]) (ent bs'[i])) = true := decide_eq_true hlt
        rw [D] at LS
        have ST := Lib.hid (HU.out.step leD_trans (by omega) hj (by rw [hi, e1, e2]; exact leD_lt hlt))
        rw [hi, ← eo_swp hil hjl] at ST
        have GI := Lib.hid (And.intro hil hjl)
        clear hi hij hj hlen D hlt e1 e2 h0 hil hjl HU
        go_wp2_with fail
        refine (LS.out).mono ?_
        rintro e w2 ⟨rfl, u2⟩
        have H2 := Lib.hid (H.out.keep0 u2)
        have U2 := Lib.hid (U.out.trans u2 (fun _ _ h => h.elim))
        have MS := meth_swap xa _ _ _ w2 (H2.out.x.cellAt (i := 0) rfl)
        have SW := Lib.hid (swap_any base xa mv _ bs' ent i j _ _ w2 H2.out (List.getElem?_eq_getElem GI.out.1) (List.getElem?_eq_getElem GI.out.2))
        clear u2 ML LS H U
        go_wp2_with fail
        refine (SW.out).mono ?_
        rintro e w3 ⟨rfl, h3, u3⟩
        have H3 := Lib.hid h3
        have U3 := Lib.hid (U2.out.trans u3 (fun k _ hk => rowF_perm PM.out hk))
        clear h3 u3 MS
        go_wp2
        go_roundw
        case rel => exact ⟨swp bs' i j, i, rfl, by have := HIJ.out; omega, H3, Lib.hid ((swp_perm _ _ _).trans PM.out), ST, Lib.hid (fun k hk => (swp_above (by have := HIJ.out; omega) (by have := HIJ.out; omega) hk).trans (HA.out k hk)), U3⟩
        case measure => have := HIJ.out; simp [intOf]; omega
      · have D : decide (ltD (ent bs'[j]) (ent bs'[i])) = false := decide_eq_false hlt
        rw [D] at LS
        have DN := Lib.hid (HU.out.done (by rw [hi, e1, e2]; exact hlt))
        clear hi hij hj hlen D hlt e1 e2 h0 hil hjl HU
        go_wp2_with fail
        refine (LS.out).mono ?_
        rintro e w2 ⟨rfl, u2⟩
        have H2 := Lib.hid (H.out.keep0 u2)
        have U2 := Lib.hid (U.out.trans u2 (fun _ _ h => h.elim))
        clear u2 ML
        go_wp2
        go_returns
        exact ⟨rfl, bs', H2.out, PM.out, DN.out, HA.out, U2.out⟩
end Go.Proofs.YtcdihffcncaibaaDoor
