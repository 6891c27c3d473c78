/- slices.Sorted(maps.Keys(m)) of a map of numbers: all clients, rising. -/
import Derived.Test.YtmlojbfcmebboaaGreatK21
import Derived.Shelf.SlIterI.Sorted
import Derived.Shelf.SlIterI.Keys
set_option linter.unusedVariables false
set_option linter.unusedSimpArgs false
set_option linter.unusedSectionVars false
namespace Go.Proofs.YtmlojbfcmebboaaGreat
open Go.RowKit Go.Sort Go.Maps Go.WideElems Go.Proofs

def colI : Go.Shelf.Ren := ⟨fun | 6 => 79 | 7 => 80 | 8 => 113 | 9 => 56 | 10 => 114 | 11 => 148 | n => n, fun | 0 => 0 | 3 => 96 | 4 => 4 | 23 => 89 | 24 => 85 | 26 => 3 | 27 => 139 | 28 => 140 | 33 => 27 | n => n, fun | n => n⟩
theorem colI7 : SlLaysZI.n7 Tryz.prog colI := {
  mixed := by kernel_rfl
  f7 := ⟨Tryz.f80.name, by decide, Tryz.func80.trans (congrArg some (by kernel_rfl))⟩
  f10 := ⟨Tryz.f114.name, by decide, Tryz.func114.trans (congrArg some (by kernel_rfl))⟩
  t0 := Tryz.underlying0, a0 := Tryz.isAgg0, z0 := Tryz.sizeOf0, v0 := Tryz.zeroValue0
  t4 := Tryz.underlying4, a4 := Tryz.isAgg4, z4 := Tryz.sizeOf4, v4 := Tryz.zeroValue4
  t23 := Tryz.underlying89, a23 := Tryz.isAgg89, z23 := Tryz.sizeOf89, v23 := Tryz.zeroValue89
  t26 := Tryz.underlying3, a26 := Tryz.isAgg3, z26 := Tryz.sizeOf3, v26 := Tryz.zeroValue3
  t27 := Tryz.underlying139, a27 := Tryz.isAgg139, z27 := Tryz.sizeOf139, v27 := Tryz.zeroValue139
  t28 := Tryz.underlying140, a28 := Tryz.isAgg140, z28 := Tryz.sizeOf140, v28 := Tryz.zeroValue140
  t33 := Tryz.underlying27, a33 := Tryz.isAgg27, z33 := Tryz.sizeOf27, v33 := Tryz.zeroValue27 }
theorem colI6 : SlLaysZI.n6 Tryz.prog colI := {
  mixed := by kernel_rfl
  f6 := ⟨Tryz.f79.name, by decide, Tryz.func79.trans (congrArg some (by kernel_rfl))⟩
  f8 := ⟨Tryz.f113.name, by decide, Tryz.func113.trans (congrArg some (by kernel_rfl))⟩
  f11 := ⟨Tryz.f148.name, by decide, Tryz.func148.trans (congrArg some (by kernel_rfl))⟩
  t0 := Tryz.underlying0, a0 := Tryz.isAgg0, z0 := Tryz.sizeOf0, v0 := Tryz.zeroValue0
  t24 := Tryz.underlying85, a24 := Tryz.isAgg85, z24 := Tryz.sizeOf85, v24 := Tryz.zeroValue85
  t26 := Tryz.underlying3, a26 := Tryz.isAgg3, z26 := Tryz.sizeOf3, v26 := Tryz.zeroValue3
  t28 := Tryz.underlying140, a28 := Tryz.isAgg140, z28 := Tryz.sizeOf140, v28 := Tryz.zeroValue140
  i26 := by kernel_rfl }
theorem colI10 : SlLaysZI.n10 Tryz.prog colI := { colI7 with }

/-- A map of numbers of the call's own, in the library's words. -/
theorem MapAt.ownsI {w : World} {b : Nat} {m : List (Int × Value)} {P : Program} {K : TypeId} (h : MapAt intEnc w b m) (hK : P.underlying K = some (.int .i64)) (hs : ∀ k ∈ akeys m, (Lit.int .i64 k).wf = true) (hl : m.length ≤ maxLen) :
    ∃ D0 : DataW Unit, w.ownsMap P K (fun _ => some (.nil, [])) b m.length D0 ∧ (intKeys D0).Perm (akeys m) ∧ Maps.size D0 ≤ m.length := by
  obtain ⟨es, clock, hb, he, hst⟩ := h
  have hsz : es.size = m.length := by have := congrArg List.length he; simpa using this
  have hkeys : es.toList.map (·.key) = (akeys m).map intEnc := by
    have := congrArg (List.map Prod.fst) he
    simpa [akeys, List.map_map, Function.comp_def] using this
  have hrd : ∀ x ∈ es.toList, ∃ k ∈ akeys m, x.key = intEnc k := fun x hx => by
    have : x.key ∈ es.toList.map (·.key) := List.mem_map.2 ⟨x, hx, rfl⟩
    rw [hkeys] at this
    obtain ⟨k, hk, e⟩ := List.mem_map.1 this
    exact ⟨k, hk, e.symm⟩
  have hrg : ∀ x ∈ es.toList, ∀ k ∈ akeys m, x.key = intEnc k → WideElems.rd P K (fun _ => some ((.nil : DataW Unit), [])) x = some (.int .i64 k, .nil) := fun x _ k hk e => by
    unfold WideElems.rd
    rw [e, show intEnc k = .int .i64 k from rfl, keyOf_int_mk hK (hs k hk)]; rfl
  have F : Fit P K (fun _ => some ((.nil : DataW Unit), [])) es clock := ⟨by omega, hst, fun x hx => by
    obtain ⟨k, hk, e⟩ := hrd x hx
    exact ⟨_, hrg x hx k hk e⟩⟩
  have hl2 : (es.toList.map (rg P K (fun _ => some ((.nil : DataW Unit), [])))).map (fun p => Go.intOf p.1) = akeys m := by
    have e1 : ∀ x ∈ es.toList, Go.intOf (rg P K (fun _ => some ((.nil : DataW Unit), [])) x).1 = (match x.key with | .int _ s => s | _ => 0) := fun x hx => by
      obtain ⟨k, hk, e⟩ := hrd x hx
      unfold rg
      rw [hrg x hx k hk e, e]; rfl
    rw [List.map_map, show (es.toList.map ((fun p : Lit × DataW Unit => Go.intOf p.1) ∘ rg P K (fun _ => some ((.nil : DataW Unit), [])))) = es.toList.map (fun x => match x.key with | .int _ s => s | _ => 0) from List.map_congr_left e1]
    have e2 : es.toList.map (fun x => match x.key with | .int _ s => s | _ => 0) = (es.toList.map (·.key)).map (fun v => match v with | .int _ s => s | _ => 0) := by rw [List.map_map]; rfl
    rw [e2, hkeys, List.map_map]
    conv => rhs; rw [← List.map_id (akeys m)]
    rfl
  refine ⟨.map ((es.toList.map (rg P K (fun _ => some ((.nil : DataW Unit), [])))).foldr DataW.insert []), ⟨es, clock, hb, F, by omega, rfl⟩, ?_, ?_⟩
  · show (((es.toList.map (rg P K (fun _ => some ((.nil : DataW Unit), [])))).foldr DataW.insert []).map fun p => Go.intOf p.1).Perm _
    rw [← hl2]
    exact (WideShapes.sorted_perm _).map _
  · show ((es.toList.map (rg P K (fun _ => some ((.nil : DataW Unit), [])))).foldr DataW.insert []).length ≤ _
    rw [DataW.length_sorted]; simp; omega
theorem keysI_any (mb : Option Nat) (w : World) : Calls Tryz.prog 80 #[.map mb] w fun e w' => e = .returned (.func (.func 114) #[] #[.pointer (some ⟨w.heap.size, 0, none⟩)]) ∧ w' = w.alloc (.cells #[.map mb] 89) :=
  callsIn_wide.1 (AnyZI.keys_in colI7 Fence.wide 5 trivial rfl mb w)
/-- Rising, and the same things: the same row. -/
theorem sort_perm_rising {ss xs : List Int} (hp : ss.Perm xs) (hr : Rising xs) : ss.mergeSort (fun x y => decide (x ≤ y)) = xs := by
  have e := mergeSort_of_perm_i hp
  rw [show (fun x y : Int => decide (x ≤ y)) = leI from rfl, e]
  exact List.mergeSort_of_pairwise (hr.imp (fun h => by simp only [leI, decide_eq_true_eq]; exact Int.le_of_lt h))
theorem sortedI_any (m : List (Int × Value)) (xs : List Int) (b Bm : Nat) (w : World) (hB : Bm < w.heap.size) (hc : w.cell? ⟨Bm, 0, none⟩ = some (.map (some b))) (h : MapAt intEnc w b m) (hs : ∀ k ∈ akeys m, (Lit.int .i64 k).wf = true) (hl : m.length ≤ 100000) (hp : (akeys m).Perm xs) (hr : Rising xs) :
    Calls Tryz.prog 79 #[.func (.func 114) #[] #[.pointer (some ⟨Bm, 0, none⟩)]] w fun e w' => ∃ v, e = .returned v ∧ IntsAt w' w.heap.size v xs ∧ Upd (fun _ => False) w w' := by
  have eg : ∀ args w, (callFunc 114 args).run Tryz.prog w = .ok (.enter 114 args) w := enters_of Tryz.func114 (by kernel_rfl) rfl
  have e9 : ∀ args w, (callFunc 56 args).run Tryz.prog w = .ok (.enter 56 args) w := enters_of Tryz.func56 (by kernel_rfl) rfl
  have SO : AnyZI.SortsIn Tryz.prog colI Fence.wide (6 - 1) := ⟨fun blk off cap ss W hH hb hn => callsIn_wide.2 (Tryz.slices_Sort_int blk off cap ss W hH hb hn), fun p cap W => callsIn_wide.2 (Tryz.slices_Sort_int_none p cap W)⟩
  obtain ⟨D0, hown, hp2, hsz⟩ := h.ownsI (P := Tryz.prog) (K := 3) Tryz.underlying3 hs (by unfold maxLen; omega)
  refine (callsIn_wide.1 (AnyZI.sorted_in colI6 Fence.wide 6 trivial trivial trivial trivial rfl (by omega) SO e9 114 #[.pointer (some ⟨Bm, 0, none⟩)] trivial eg (fun ss => ss.Perm (intKeys D0)) (Maps.size D0) (by unfold maxLen; omega) (by omega) w (AnyZI.keys_gives colI10 Fence.wide _ trivial rfl (by omega) Bm b m.length D0 w hB hc hown))).mono ?_
  rintro e w' ⟨v, ss, rfl, hS, hrow, _, hb⟩
  refine ⟨v, rfl, ?_, (Upd.of_below hb).weaken fun i hi h2 => by omega⟩
  have hq := sort_perm_rising ((hS.trans hp2).trans hp) hr
  rw [hq] at hrow
  have hlen : ss.length = xs.length := ((hS.trans hp2).trans hp).length_eq
  rw [hlen] at hrow
  exact hrow
section
variable {w w' : World} {base tb cm kb pb : Nat} {Q : List (Int × Value)} {cb : Int → Nat} {vs : Int → Value} {M : List (Int × CL)} {most : Int} {L : Rows14} {n : Nat} {E : Nat → Prop} {P : Txt → Int → Prop} {N : Nat} {F : Nat → Prop}
/-- Clients, rising, their numbers as they may be. -/
structure MOk (M : List (Int × CL)) : Prop where
  rise : Rising (akeys M)
  num : ∀ id ∈ akeys M, 1 ≤ id ∧ id ≤ 9223372036854775807
  len : M.length ≤ 10000
  md : ∀ p ∈ M, rightM p.2.md = true
theorem agetM_mem {ν : Type} {m : List (Int × ν)} {k : Int} : k ∈ akeys m ↔ aget m k ≠ none := by
  rw [Ne, aget_none]; exact Decidable.not_not.symm
theorem MOk.perm (h : TRaw w base tb cm kb pb Q cb vs (aget M) most L n E P N F) (hM : MOk M) : (akeys Q).Perm (akeys M) := by
  rw [List.perm_ext_iff_of_nodup h.nd (nodup_of_rising hM.rise)]
  intro id
  rw [agetM_mem, agetM_mem, h.get]
  cases aget M id <;> simp
set_option maxHeartbeats 2000000 in
set_option maxRecDepth 100000 in
theorem clients_any (h : TRaw w base tb cm kb pb Q cb vs (aget M) most L n E P N F) (hM : MOk M) :
    Calls Tryz.prog 41 #[.pointer (some ⟨tb, 0, none⟩)] w fun e w' => ∃ v, e = .returned v ∧ IntsAt w' w.heap.size v (akeys M) ∧ Upd (fun _ => False) w w' := by
  have x0 := h.blk.cellAt (i := 0) (v := .map (some cm)) rfl
  have xb := h.blk.lt
  have hp := MOk.perm h hM
  have u1 : Upd (fun _ => False) w (w.alloc (.cells #[.map (some cm)] 89)) := (Upd.refl _ _).alloc _
  have hQ : Q.length ≤ 100000 := by
    have := hp.length_eq; have := hM.len; simp [akeys] at *; omega
  have SA := Lib.hid (sortedI_any Q (akeys M) cm w.heap.size _ (by simp) ((Blk.made w [.map (some cm)] 89).cellAt (i := 0) rfl) (h.cmap.keep u1 (fun h => h)) (fun k hk => by
    have := hM.num k (hp.mem_iff.1 hk)
    simp [Lit.wf, IntKind.min, IntKind.max, IntKind.bits, IntKind.signed]; omega) hQ hp hM.rise)
  have U1 := Lib.hid u1
  clear h hM hp hQ u1
  go_enter Tryz.func41, Tryz.ntmps41
  go_wp2_with fail
  refine (keysI_any _ _).mono ?_
  rintro e w1 ⟨rfl, ew⟩
  subst ew
  go_wp2_with fail
  refine SA.out.mono ?_
  rintro e w2 ⟨v, rfl, i2, u2⟩
  obtain ⟨p, c, ev, _⟩ := own_slice i2
  have I2 := Lib.hid i2
  have UF := Lib.hid (U1.out.trans u2 (fun _ _ h => h))
  clear i2 u2 SA
  subst ev
  go_wp2
  go_ret
  exact ⟨_, rfl, own_mono I2.out (by simp), UF.out⟩
end
end Go.Proofs.YtmlojbfcmebboaaGreat
/- The tracker beside other things: what each of its parts' calls does to it. -/
set_option linter.unusedVariables false
set_option linter.unusedSimpArgs false
set_option linter.unusedSectionVars false
namespace Go.Proofs.YtmlojbfcmebboaaGreat
open Go.RowKit

theorem upd_asetI {ν : Type} (M : List (Int × ν)) (k : Int) (v : ν) : upd (aget M) k (some v) = aget (aset M k v) := by
  funext j
  rw [aget_aset]
  by_cases e : k = j
  · subst e; rw [upd_at, if_pos rfl]
  · rw [upd_ne _ _ (Ne.symm e), if_neg e]
theorem upd_adelI {ν : Type} {M : List (Int × ν)} (h : (akeys M).Nodup) (k : Int) : upd (aget M) k none = aget (adel M k) := by
  funext j
  rw [aget_adel h]
  by_cases e : k = j
  · subst e; rw [upd_at, if_pos rfl]
  · rw [upd_ne _ _ (Ne.symm e), if_neg e]
/-- A thing more, in its place. -/
def insI {ν : Type} (M : List (Int × ν)) (k : Int) (v : ν) : List (Int × ν) := match M with
  | [] => [(k, v)]
  | p :: r => if k < p.1 then (k, v) :: p :: r else p :: insI r k v
theorem aget_insI {ν : Type} {M : List (Int × ν)} {k : Int} (h : aget M k = none) (v : ν) (j : Int) : aget (insI M k v) j = if k = j then some v else aget M j := by
  induction M with
  | nil => simp [insI, aget]
  | cons p r ih =>
    have h1 : ¬ p.1 = k := fun e => by simp [aget, e] at h
    have h2 : aget r k = none := by simpa [aget, h1] using h
    unfold insI
    split
    · simp [aget]
    · simp only [aget, ih h2]
      by_cases e : k = j
      · have : ¬ p.1 = j := fun e2 => h1 (e2.trans e.symm)
        simp [e, this]
      · simp [e]
theorem akeys_insI {ν : Type} {M : List (Int × ν)} {k : Int} (v : ν) : ∀ j, j ∈ akeys (insI M k v) ↔ j = k ∨ j ∈ akeys M := by
  induction M with
  | nil => intro j; simp [insI, akeys]
  | cons p r ih =>
    intro j
    unfold insI
    split
    · simp [akeys]
    · have e : akeys (p :: insI r k v) = p.1 :: akeys (insI r k v) := rfl
      rw [e, List.mem_cons, ih]
      simp only [akeys, List.map_cons, List.mem_cons]
      constructor
      · rintro (g | g | g)
        · exact Or.inr (Or.inl g)
        · exact Or.inl g
        · exact Or.inr (Or.inr g)
      · rintro (g | g | g)
        · exact Or.inr (Or.inl g)
        · exact Or.inl g
        · exact Or.inr (Or.inr g)
theorem rise_insI {ν : Type} {M : List (Int × ν)} {k : Int} (h : Rising (akeys M)) (hk : k ∉ akeys M) (v : ν) : Rising (akeys (insI M k v)) := by
  induction M with
  | nil => simp [insI, akeys, Rising]
  | cons p r ih =>
    have hc := List.pairwise_cons.1 h
    unfold insI
    split
    · next hlt =>
      exact List.pairwise_cons.2 ⟨fun j hj => by
        rcases List.mem_cons.1 hj with rfl | g
        · exact hlt
        · exact Int.lt_trans hlt (hc.1 j g), h⟩
    · next hlt =>
      have hne : ¬ k = p.1 := fun e => hk (by simp [akeys, e])
      exact List.pairwise_cons.2 ⟨fun j hj => by
        rcases (akeys_insI v j).1 hj with rfl | g
        · show p.1 < j; omega
        · exact hc.1 j g, ih hc.2 (fun g => hk (by simp only [akeys, List.map_cons, List.mem_cons]; exact Or.inr g))⟩
theorem insI_len {ν : Type} (M : List (Int × ν)) (k : Int) (v : ν) : (insI M k v).length = M.length + 1 := by
  induction M with
  | nil => rfl
  | cons p r ih => unfold insI; split <;> simp [ih]
theorem mem_of_aget {ν : Type} {M : List (Int × ν)} {k : Int} {v : ν} (h : aget M k = some v) : (k, v) ∈ M := by
  induction M with
  | nil => cases h
  | cons p r ih =>
    simp only [aget] at h
    split at h
    · next e => injection h with h; subst h; subst e; simp
    · exact List.mem_cons_of_mem _ (ih h)
theorem mem_aset_of {ν : Type} {M : List (Int × ν)} {k : Int} {v : ν} {p : Int × ν} (h : p ∈ aset M k v) : p = (k, v) ∨ p ∈ M := by
  induction M with
  | nil => left; simpa [aset] using h
  | cons q r ih =>
    unfold aset at h
    split at h
    · rcases List.mem_cons.1 h with g | g
      · exact Or.inl g
      · exact Or.inr (List.mem_cons_of_mem _ g)
    · rcases List.mem_cons.1 h with g | g
      · exact Or.inr (by rw [g]; simp)
      · exact (ih g).imp id (List.mem_cons_of_mem _)
theorem mem_insI_of {ν : Type} {M : List (Int × ν)} {k : Int} {v : ν} {p : Int × ν} (h : p ∈ insI M k v) : p = (k, v) ∨ p ∈ M := by
  induction M with
  | nil => left; simpa [insI] using h
  | cons q r ih =>
    unfold insI at h
    split at h
    · rcases List.mem_cons.1 h with g | g
      · exact Or.inl g
      · exact Or.inr g
    · rcases List.mem_cons.1 h with g | g
      · exact Or.inr (by rw [g]; simp)
      · exact (ih g).imp id (List.mem_cons_of_mem _)
theorem mem_adel_of {ν : Type} {M : List (Int × ν)} {k : Int} {p : Int × ν} (h : p ∈ adel M k) : p ∈ M := by
  induction M with
  | nil => exact h
  | cons q r ih =>
    unfold adel at h
    split at h
    · exact List.mem_cons_of_mem _ h
    · rcases List.mem_cons.1 h with g | g
      · rw [g]; simp
      · exact List.mem_cons_of_mem _ (ih g)
theorem MOk.right {M : List (Int × CL)} (h : MOk M) {id : Int} {c : CL} (hc : aget M id = some c) : rightM c.md = true := h.md _ (mem_of_aget hc)
theorem MOk.aset {M : List (Int × CL)} (h : MOk M) {id : Int} {c c' : CL} (hc : aget M id = some c) (hr : rightM c'.md = true) : MOk (aset M id c') := by
  have hin : id ∈ akeys M := agetM_mem.2 (by rw [hc]; simp)
  have e : akeys (Go.Proofs.YtmlojbfcmebboaaGreat.aset M id c') = akeys M := by rw [akeys_aset, if_pos hin]
  refine ⟨by rw [e]; exact h.rise, fun j hj => h.num j (by rw [e] at hj; exact hj), ?_, fun p hp => ?_⟩
  · have := congrArg List.length e
    simp only [akeys, List.length_map] at this
    rw [this]; exact h.len
  · rcases mem_aset_of hp with rfl | g
    · exact hr
    · exact h.md p g
theorem MOk.insI {M : List (Int × CL)} (h : MOk M) {id : Int} {c : CL} (hc : aget M id = none) (h1 : 1 ≤ id) (h2 : id ≤ 9223372036854775807) (hl : M.length < 10000) (hr : rightM c.md = true) : MOk (insI M id c) :=
  ⟨rise_insI h.rise (aget_none.1 hc) c, fun j hj => by
    rcases (akeys_insI c j).1 hj with rfl | g
    · exact ⟨h1, h2⟩
    · exact h.num j g, by rw [insI_len]; omega, fun p hp => by
    rcases mem_insI_of hp with rfl | g
    · exact hr
    · exact h.md p g⟩
theorem MOk.adel {M : List (Int × CL)} (h : MOk M) (id : Int) : MOk (adel M id) := by
  have e := akeys_adel M id
  exact ⟨by rw [e]; exact h.rise.sublist List.erase_sublist, fun j hj => h.num j (by rw [e] at hj; exact List.mem_of_mem_erase hj), Nat.le_trans (adel_len M id) h.len, fun p hp => h.md p (mem_adel_of hp)⟩
/-- The tracker, beside the blocks of X: clients M, rows L, beginnings P. -/
structure TSt (w : World) (base tb cm kb pb : Nat) (cb : Int → Nat) (X : Nat → Prop) (M : List (Int × CL)) (most : Int) (L : Rows14) (n : Nat) (P : Txt → Int → Prop) (N : Nat) : Prop where
  ex : ∃ Q vs E F, TRaw w base tb cm kb pb Q cb vs (aget M) most L n E P N F ∧ ∀ b, footT tb cm cb vs (aget M) E F b → ¬ X b
  xlt : ∀ b, X b → b < w.heap.size
  ok : MOk M
  ksz : ∀ k ∈ akeys L, k.size ≤ maxLen
  one : 1 ≤ most
section
variable {w w' : World} {base tb cm kb pb : Nat} {cb : Int → Nat} {X Y : Nat → Prop} {M : List (Int × CL)} {most : Int} {L : Rows14} {n : Nat} {P P' : Txt → Int → Prop} {N : Nat}
theorem TSt.bl (h : TSt w base tb cm kb pb cb X M most L n P N) : base ≤ w.heap.size := by obtain ⟨Q, vs, E, F, r, _⟩ := h.ex; exact r.bl
theorem TSt.blk (h : TSt w base tb cm kb pb cb X M most L n P N) : Blk w tb [.map (some cm), ptr kb, ptr pb] 95 := by obtain ⟨Q, vs, E, F, r, _⟩ := h.ex; exact r.blk
theorem TSt.keepX (h : TSt w base tb cm kb pb cb X M most L n P N) (u : Upd X w w') : TSt w' base tb cm kb pb cb X M most L n P N := by
  obtain ⟨Q, vs, E, F, r, d⟩ := h.ex
  exact { h with ex := ⟨Q, vs, E, F, r.keep u d, d⟩, xlt := fun b hb => Nat.lt_of_lt_of_le (h.xlt b hb) u.size }
theorem TSt.keep0 (h : TSt w base tb cm kb pb cb X M most L n P N) (u : Upd (fun _ => False) w w') : TSt w' base tb cm kb pb cb X M most L n P N := h.keepX (u.weaken (fun _ _ h => h.elim))
theorem TSt.less (h : TSt w base tb cm kb pb cb X M most L n P N) (hY : ∀ b, Y b → X b) : TSt w base tb cm kb pb cb Y M most L n P N := by
  obtain ⟨Q, vs, E, F, r, d⟩ := h.ex
  exact { h with ex := ⟨Q, vs, E, F, r, fun b hb hy => d b hb (hY b hy)⟩, xlt := fun b hb => h.xlt b (hY b hb) }
theorem TSt.also (h : TSt w base tb cm kb pb cb X M most L n P N) (u : Upd (fun _ => False) w w') (hY : ∀ b, Y b → X b ∨ (w.heap.size ≤ b ∧ b < w'.heap.size)) : TSt w' base tb cm kb pb cb Y M most L n P N := by
  obtain ⟨Q, vs, E, F, r, d⟩ := h.ex
  refine { h with ex := ⟨Q, vs, E, F, r.keep0 u, fun b hb hy => ?_⟩, xlt := fun b hb => ?_ }
  · rcases hY b hy with g | g
    · exact d b hb g
    · have := (r.ltF hb).2; omega
  · rcases hY b hb with g | g
    · exact Nat.lt_of_lt_of_le (h.xlt b g) u.size
    · exact g.2
theorem TSt.congr (h : TSt w base tb cm kb pb cb X M most L n P N) (e : ∀ t i, P t i ↔ P' t i) : TSt w base tb cm kb pb cb X M most L n P' N := by
  have : P = P' := by funext t i; exact propext (e t i)
  rw [← this]; exact h
theorem TSt.more (h : TSt w base tb cm kb pb cb X M most L n P N) {n' N' : Nat} (hn : n ≤ n') (hN : N ≤ N') : TSt w base tb cm kb pb cb X M most L n' P N' := by
  obtain ⟨Q, vs, E, F, r, d⟩ := h.ex
  obtain ⟨xb, rm, om, lab, L2, E2, nx, R, rv, ri, Q2, qv, qi, hp, hR, hO, rfl⟩ := r.pfx
  exact { h with ex := ⟨Q, vs, E, _, { r with keys := r.keys.mono hn, pfx := ⟨xb, rm, om, lab, L2, E2, nx, R, rv, ri, Q2, qv, qi, hp, hR.more hN, hO.more hN, rfl⟩ }, d⟩ }
theorem TSt.lookN (h : TSt w base tb cm kb pb cb X M most L n P N) {id : Int} (hc : aget M id = none) : (Instr.lookup 89 (.map (some cm)) (.int .i64 id) false).run Tryz.prog w = .ok (.pointer none) w := by
  obtain ⟨Q, vs, E, F, r, _⟩ := h.ex; exact r.lookN hc
theorem TSt.lookS (h : TSt w base tb cm kb pb cb X M most L n P N) {id : Int} {c : CL} (hc : aget M id = some c) : (Instr.lookup 89 (.map (some cm)) (.int .i64 id) false).run Tryz.prog w = .ok (.pointer (some ⟨cb id, 0, none⟩)) w := by
  obtain ⟨Q, vs, E, F, r, _⟩ := h.ex; exact r.lookS hc
theorem TSt.cl (h : TSt w base tb cm kb pb cb X M most L n P N) {id : Int} {c : CL} (hc : aget M id = some c) : ∃ v, Blk w (cb id) (clc c v) 98 ∧ TxtsAt w base v c.md.ps ∧ base ≤ cb id ∧ ¬ X (cb id) ∧ ∀ b, v.ownBlock = some b → ¬ X b := by
  obtain ⟨Q, vs, E, F, r, d⟩ := h.ex
  obtain ⟨h1, h2⟩ := r.cl id c hc
  exact ⟨_, h1, h2, (r.lt (Or.inr (Or.inr ⟨id, c, hc, Or.inl rfl⟩))).1, d _ (Or.inl (Or.inr (Or.inr ⟨id, c, hc, Or.inl rfl⟩))), fun b hb => d b (Or.inl (Or.inr (Or.inr ⟨id, c, hc, Or.inr hb⟩)))⟩
theorem TSt.told (h : TSt w base tb cm kb pb cb X M most L n P N) (kind id : Int) (key : ByteArray) :
    Calls Tryz.prog 51 #[.pointer (some ⟨tb, 0, none⟩), .int .i64 kind, .int .i64 id, .string key] w fun e w' => e = .returned (ntV (toldP (aget M) kind id key)) ∧ Upd (fun _ => False) w w' := by
  obtain ⟨Q, vs, E, F, r, _⟩ := h.ex; exact told_any r kind id key
theorem TSt.clients (h : TSt w base tb cm kb pb cb X M most L n P N) :
    Calls Tryz.prog 41 #[.pointer (some ⟨tb, 0, none⟩)] w fun e w' => ∃ v, e = .returned v ∧ IntsAt w' w.heap.size v (akeys M) ∧ Upd (fun _ => False) w w' := by
  obtain ⟨Q, vs, E, F, r, _⟩ := h.ex; exact clients_any r h.ok
/-- A client's block is written. -/
theorem TSt.clSet (h : TSt w base tb cm kb pb cb X M most L n P N) {id : Int} {c c' : CL} {v v' : Value} (hc : aget M id = some c) (hB0 : Blk w (cb id) (clc c v) 98) (u : Upd (fun b => b = cb id) w w') (hB : Blk w' (cb id) (clc c' v') 98)
    (hv : TxtsAt w' base v' c'.md.ps) (hr : rightM c'.md = true) (hx : v' = v ∨ ∀ b, v'.ownBlock = some b → X b) (hY : ∀ b, Y b → X b ∧ (v' = v ∨ v'.ownBlock ≠ some b)) : TSt w' base tb cm kb pb cb Y (aset M id c') most L n P N := by
  obtain ⟨Q, vs, E, F, r, d⟩ := h.ex
  have ev : vs id = v := by
    have := (r.cl id c hc).1.inj hB0
    simp [clc] at this; exact this
  have hf : ∀ b, v'.ownBlock = some b → ¬ E b ∧ ¬ F b := fun b hb => by
    rcases hx with rfl | hx
    · exact r.own b (Or.inr (Or.inr ⟨id, c, hc, Or.inr (by rw [ev]; exact hb)⟩))
    · exact ⟨fun e => d b (Or.inr (Or.inl e)) (hx b hb), fun e => d b (Or.inr (Or.inr e)) (hx b hb)⟩
  have r2 := r.clSet hc u hB hv hf
  rw [upd_asetI] at r2
  refine ⟨⟨Q, _, E, F, r2, fun b hb hy => ?_⟩, fun b hb => Nat.lt_of_lt_of_le (h.xlt b (hY b hb).1) u.size, h.ok.aset hc hr, h.ksz, h.one⟩
  obtain ⟨hX, hn⟩ := hY b hy
  rcases hb with (rfl | rfl | ⟨j, e, he, hb⟩) | hb | hb
  · exact d _ (Or.inl (Or.inl rfl)) hX
  · exact d _ (Or.inl (Or.inr (Or.inl rfl))) hX
  · by_cases ej : j = id
    · subst ej
      rw [upd_at] at hb
      rcases hb with rfl | hb
      · exact d _ (Or.inl (Or.inr (Or.inr ⟨_, c, hc, Or.inl rfl⟩))) hX
      · rcases hn with rfl | hn
        · exact d _ (Or.inl (Or.inr (Or.inr ⟨_, c, hc, Or.inr (by rw [ev]; exact hb)⟩))) hX
        · exact hn hb
    · rw [upd_ne _ _ ej] at hb
      rw [aget_aset, if_neg (Ne.symm ej)] at he
      exact d _ (Or.inl (Or.inr (Or.inr ⟨j, e, he, hb⟩))) hX
  · exact d _ (Or.inr (Or.inl hb)) hX
  · exact d _ (Or.inr (Or.inr hb)) hX
theorem TSt.frc (h : TSt w base tb cm kb pb cb X M most L n P N) {id : Int} {c : CL} (hc : aget M id = some c) (u : Upd (fun b => b = cb id) w w') : Upd (Fr base X) w w' := by
  obtain ⟨v, _, _, h3, h4, _⟩ := h.cl hc
  exact u.weaken (fun b _ e => by rw [e]; exact ⟨h3, h4⟩)
/-- The tracker's rows of keys: a call of theirs. -/
theorem TSt.keysTo {L' : Rows14} {n' : Nat} (h : TSt w base tb cm kb pb cb X M most L n P N) (hk : ∀ k ∈ akeys L', k.size ≤ maxLen) (hY : ∀ b, Y b → X b ∨ b < w'.heap.size)
    (R : ∀ E, KAt w base kb most L n E → ∃ E', KAt w' base kb most L' n' E' ∧ Upd E w w' ∧ FromF E E' w ∧ ∀ b, Y b → X b ∨ (E b ∧ ¬ E' b)) : TSt w' base tb cm kb pb cb Y M most L' n' P N ∧ Upd (Fr base X) w w' := by
  obtain ⟨Q, vs, E, F, r, d⟩ := h.ex
  obtain ⟨E', k, u, f, hd⟩ := R E r.keys
  have u2 : Upd (Fr base X) w w' := u.weaken (fun b _ hb => ⟨(r.keys.lt b hb).1, d b (Or.inr (Or.inl hb))⟩)
  refine ⟨⟨⟨Q, vs, E', F, r.keysTo k u f, fun b hb hy => ?_⟩, fun b hb => ?_, h.ok, hk, h.one⟩, u2⟩
  · rcases hb with hb | hb | hb
    · rcases hd b hy with g | g
      · exact d b (Or.inl hb) g
      · exact (r.own b hb).1 g.1
    · rcases hd b hy with g | g
      · rcases f b hb with g2 | g2
        · exact d b (Or.inr (Or.inl g2)) g
        · have := h.xlt b g; omega
      · exact g.2 hb
    · rcases hd b hy with g | g
      · exact d b (Or.inr (Or.inr hb)) g
      · exact r.ef b g.1 hb
  · rcases hY b hb with g | g
    · exact Nat.lt_of_lt_of_le (h.xlt b g) u.size
    · exact g
theorem keys_add14 {most : Int} {L : Rows14} {key : ByteArray} {id : Int} (hn : (akeys L).Nodup) {k : ByteArray} (h : k ∈ akeys (add14 most L key id).2.2.2) : k ∈ akeys L ∨ k = key := by
  unfold add14 at h
  split at h
  · rw [mem_aset] at h; exact h
  · split at h
    · split at h
      · simp [akeys] at h ⊢; exact h
      · next k0 l0 r =>
        simp only [akeys, List.map_append, List.map_cons, List.map_nil, List.mem_append, List.mem_cons, List.not_mem_nil, or_false] at h ⊢
        rcases h with g | g
        · exact Or.inl (Or.inr g)
        · exact Or.inr g
    · simp only [akeys, List.map_append, List.map_cons, List.map_nil, List.mem_append, List.mem_cons, List.not_mem_nil, or_false] at h ⊢
      exact h
theorem TSt.kadd (h : TSt w base tb cm kb pb cb X M most L n P N) (hn : n ≤ 90000) (key : ByteArray) (id : Int) (hk : key.size ≤ maxLen) :
    Calls Tryz.prog 50 #[.pointer (some ⟨kb, 0, none⟩), .string key, .int .i64 id] w fun e w' => ∃ v, e = .returned (.tuple #[.string (add14 most L key id).1, v, .bool (add14 most L key id).2.2.1]) ∧ IntsAt w' base v (add14 most L key id).2.1 ∧
      TSt w' base tb cm kb pb cb (fun b => X b ∨ v.ownBlock = some b) M most (add14 most L key id).2.2.2 (n + 1) P N ∧ Upd (Fr base X) w w' := by
  obtain ⟨Q, vs, E, F, r, d⟩ := h.ex
  refine (kadd_own base kb most L n E key id w r.keys hn h.one).mono ?_
  rintro e w' ⟨v, rfl, iv, E', k, u, f, o⟩
  have u2 : Upd (Fr base X) w w' := u.weaken (fun b _ hb => ⟨(r.keys.lt b hb).1, d b (Or.inr (Or.inl hb))⟩)
  refine ⟨v, rfl, iv, ⟨⟨Q, vs, E', F, r.keysTo k u f, fun b hb hy => ?_⟩, fun b hb => ?_, h.ok, fun q hq => ?_, h.one⟩, u2⟩
  · rcases hy with g | g
    · rcases hb with hb | hb | hb
      · exact d b (Or.inl hb) g
      · rcases f b hb with g2 | g2
        · exact d b (Or.inr (Or.inl g2)) g
        · have := h.xlt b g; omega
      · exact d b (Or.inr (Or.inr hb)) g
    · obtain ⟨o1, o2⟩ := o b g
      rcases hb with hb | hb | hb
      · exact (r.own b hb).1 o1
      · exact o2 hb
      · exact r.ef b o1 hb
  · rcases hb with g | g
    · exact Nat.lt_of_lt_of_le (h.xlt b g) u.size
    · exact (ints_block iv g).2.1
  · rcases keys_add14 r.keys.nodup hq with g | rfl
    · exact h.ksz q g
    · exact hk
theorem TSt.ktake (h : TSt w base tb cm kb pb cb X M most L n P N) (hn : n ≤ 100000) (key : ByteArray) :
    Calls Tryz.prog 54 #[.pointer (some ⟨kb, 0, none⟩), .string key] w fun e w' => ∃ v, e = .returned v ∧ IntsAt w' base v ((aget L key).getD []) ∧
      TSt w' base tb cm kb pb cb (fun b => X b ∨ v.ownBlock = some b) M most (adel L key) n P N ∧ Upd (Fr base X) w w' := by
  obtain ⟨Q, vs, E, F, r, d⟩ := h.ex
  refine (take_own base kb most L n E key w r.keys hn).mono ?_
  rintro e w' ⟨v, rfl, iv, E', k, u, f, o⟩
  have u2 : Upd (Fr base X) w w' := u.weaken (fun b _ hb => ⟨(r.keys.lt b hb).1, d b (Or.inr (Or.inl hb))⟩)
  refine ⟨v, rfl, iv, ⟨⟨Q, vs, E', F, r.keysTo k u f, fun b hb hy => ?_⟩, fun b hb => ?_, h.ok, fun q hq => ?_, h.one⟩, u2⟩
  · rcases hy with g | g
    · rcases hb with hb | hb | hb
      · exact d b (Or.inl hb) g
      · rcases f b hb with g2 | g2
        · exact d b (Or.inr (Or.inl g2)) g
        · have := h.xlt b g; omega
      · exact d b (Or.inr (Or.inr hb)) g
    · obtain ⟨o1, o2⟩ := o b g
      rcases hb with hb | hb | hb
      · exact (r.own b hb).1 o1
      · exact o2 hb
      · exact r.ef b o1 hb
  · rcases hb with g | g
    · exact Nat.lt_of_lt_of_le (h.xlt b g) u.size
    · exact (ints_block iv g).2.1
  · rw [akeys_erase] at hq
    exact h.ksz q (List.mem_of_mem_erase hq)
theorem keys_drop14 {L : Rows14} {id : Int} {k : ByteArray} (h : k ∈ akeys (drop14 L id)) : k ∈ akeys L := by
  unfold drop14 at h
  unfold akeys at h ⊢
  obtain ⟨p, hp, rfl⟩ := List.mem_map.1 h
  obtain ⟨q, hq, e⟩ := List.mem_filterMap.1 hp
  rw [cutF_key e]
  exact List.mem_map.2 ⟨q, hq, rfl⟩
theorem TSt.kdrop (h : TSt w base tb cm kb pb cb X M most L n P N) (hn : n ≤ 90000) (id : Int) :
    Calls Tryz.prog 48 #[.pointer (some ⟨kb, 0, none⟩), .int .i64 id] w fun e w' => (∃ q : Int, e = .returned (.int .i64 q)) ∧ TSt w' base tb cm kb pb cb X M most (drop14 L id) n P N ∧ Upd (Fr base X) w w' := by
  obtain ⟨Q, vs, E, F, r, d⟩ := h.ex
  refine (kdrop_any base kb most L n E id w r.keys hn h.ksz).mono ?_
  rintro e w' ⟨rfl, E', k, u, f⟩
  have u2 : Upd (Fr base X) w w' := u.weaken (fun b _ hb => ⟨(r.keys.lt b hb).1, d b (Or.inr (Or.inl hb))⟩)
  refine ⟨⟨_, rfl⟩, ⟨⟨Q, vs, E', F, r.keysTo k u f, fun b hb hy => ?_⟩, fun b hb => Nat.lt_of_lt_of_le (h.xlt b hb) u.size, h.ok, fun q hq => h.ksz q (keys_drop14 hq), h.one⟩, u2⟩
  rcases hb with hb | hb | hb
  · exact d b (Or.inl hb) hy
  · rcases f b hb with g2 | g2
    · exact d b (Or.inr (Or.inl g2)) hy
    · have := h.xlt b hy; omega
  · exact d b (Or.inr (Or.inr hb)) hy
theorem TSt.kclear (h : TSt w base tb cm kb pb cb X M most L n P N) :
    Calls Tryz.prog 82 #[.pointer (some ⟨kb, 0, none⟩)] w fun e w' => e = .returned (.tuple #[]) ∧ TSt w' base tb cm kb pb cb X M most [] n P N ∧ Upd (Fr base X) w w' := by
  obtain ⟨Q, vs, E, F, r, d⟩ := h.ex
  refine (kclear_any base kb most L n E w r.keys).mono ?_
  rintro e w' ⟨rfl, E', k, u, f⟩
  have u2 : Upd (Fr base X) w w' := u.weaken (fun b _ hb => ⟨(r.keys.lt b hb).1, d b (Or.inr (Or.inl hb))⟩)
  refine ⟨rfl, ⟨⟨Q, vs, E', F, r.keysTo (k.mono (Nat.zero_le n)) u f, fun b hb hy => ?_⟩, fun b hb => Nat.lt_of_lt_of_le (h.xlt b hb) u.size, h.ok, fun q hq => by simp [akeys] at hq, h.one⟩, u2⟩
  rcases hb with hb | hb | hb
  · exact d b (Or.inl hb) hy
  · rcases f b hb with g2 | g2
    · exact d b (Or.inr (Or.inl g2)) hy
    · have := h.xlt b hy; omega
  · exact d b (Or.inr (Or.inr hb)) hy
theorem TSt.pfxTo {Q : List (Int × Value)} {vs : Int → Value} {E F F' : Nat → Prop} {N' : Nat} (h : TSt w base tb cm kb pb cb X M most L n P N) (r : TRaw w base tb cm kb pb Q cb vs (aget M) most L n E P N F) (d : ∀ b, footT tb cm cb vs (aget M) E F b → ¬ X b)
    (k : PAt w' base pb P' N' F') (u : Upd F w w') (f : ∀ b, F' b → F b ∨ w.heap.size ≤ b) : TSt w' base tb cm kb pb cb X M most L n P' N' ∧ Upd (Fr base X) w w' := by
  have u2 : Upd (Fr base X) w w' := u.weaken (fun b _ hb => ⟨(r.pfx.lt b hb).1, d b (Or.inr (Or.inr hb))⟩)
  refine ⟨⟨⟨Q, vs, E, F', r.pfxTo k u f, fun b hb hy => ?_⟩, fun b hb => Nat.lt_of_lt_of_le (h.xlt b hb) u.size, h.ok, h.ksz, h.one⟩, u2⟩
  rcases hb with hb | hb | hb
  · exact d b (Or.inl hb) hy
  · exact d b (Or.inr (Or.inl hb)) hy
  · rcases f b hb with g2 | g2
    · exact d b (Or.inr (Or.inr g2)) hy
    · have := h.xlt b hy; omega
theorem TSt.padd (h : TSt w base tb cm kb pb cb X M most L n P N) (s : Txt) (id : Int) (hN : N ≤ 9000) (hs : s.length ≤ 9223372036854775807) :
    Calls Tryz.prog 47 #[.pointer (some ⟨pb, 0, none⟩), .string (ofL s), .int .i64 id] w fun e w' => (∃ q : Bool, e = .returned (.bool q)) ∧ TSt w' base tb cm kb pb cb X M most L n (fun t i => P t i ∨ t = s ∧ i = id) (N + 1) ∧ Upd (Fr base X) w w' := by
  obtain ⟨Q, vs, E, F, r, d⟩ := h.ex
  refine (padd_any r.pfx s id hN hs).mono ?_
  rintro e w' ⟨he, F', k, u, f⟩
  refine ⟨?_, h.pfxTo r d k u f⟩
  rcases he with ⟨rfl, _⟩ | ⟨rfl, _⟩ <;> exact ⟨_, rfl⟩
theorem TSt.pdrop (h : TSt w base tb cm kb pb cb X M most L n P N) (id : Int) (hN : N ≤ 9000) :
    Calls Tryz.prog 46 #[.pointer (some ⟨pb, 0, none⟩), .int .i64 id] w fun e w' => (∃ q : Int, e = .returned (.int .i64 q)) ∧ TSt w' base tb cm kb pb cb X M most L n (fun t i => P t i ∧ i ≠ id) N ∧ Upd (Fr base X) w w' := by
  obtain ⟨Q, vs, E, F, r, d⟩ := h.ex
  refine (pdrop_any r.pfx id hN).mono ?_
  rintro e w' ⟨l, rfl, _, _, F', k, u, f⟩
  exact ⟨⟨_, rfl⟩, h.pfxTo r d k u f⟩
theorem TSt.pmatch (h : TSt w base tb cm kb pb cb X M most L n P N) (key : Txt) (hN : N ≤ 9000) (hk : key.length ≤ 1000000) :
    Calls Tryz.prog 55 #[.pointer (some ⟨pb, 0, none⟩), .string (ofL key)] w fun e w' => ∃ v l, e = .returned v ∧ IntsAt w' w.heap.size v l ∧ Rising l ∧ (∀ id, id ∈ l ↔ ∃ t, t <+: key ∧ P t id) ∧ l.length ≤ 90000000 ∧ Upd (fun _ => False) w w' := by
  obtain ⟨Q, vs, E, F, r, d⟩ := h.ex
  exact pmatch_anyL r.pfx key hN hk
theorem TSt.pof (h : TSt w base tb cm kb pb cb X M most L n P N) (id : Int) (hN : N ≤ 9000) :
    Calls Tryz.prog 76 #[.pointer (some ⟨pb, 0, none⟩), .int .i64 id] w fun e w' => ∃ v l, e = .returned v ∧ TxtsAt w' w.heap.size v l ∧ Rising l ∧ (∀ t, t ∈ l ↔ P t id) ∧ Upd (fun _ => False) w w' := by
  obtain ⟨Q, vs, E, F, r, d⟩ := h.ex
  exact pof_any r.pfx id hN
theorem TSt.kids (h : TSt w base tb cm kb pb cb X M most L n P N) (hn : n ≤ 100000) (key : ByteArray) :
    Calls Tryz.prog 78 #[.pointer (some ⟨kb, 0, none⟩), .string key] w fun e w' => ∃ v, e = .returned v ∧ IntsAt w' w.heap.size v ((aget L key).getD []) ∧ Upd (fun _ => False) w w' := by
  obtain ⟨Q, vs, E, F, r, d⟩ := h.ex
  exact kids_any base kb most L n E key w r.keys hn
theorem TSt.krec (h : TSt w base tb cm kb pb cb X M most L n P N) : ∃ rb F, w.cell? ⟨kb, 0, none⟩ = some (.pointer (some ⟨rb, 0, none⟩)) ∧ RecRep w rb (akeys L) F ∧ kb < w.heap.size := by
  obtain ⟨Q, vs, E, F, r, d⟩ := h.ex
  obtain ⟨rb, F, h1, h2⟩ := r.keys.rec
  refine ⟨rb, F, h1, h2, ?_⟩
  obtain ⟨_, _, _, _, _, _, _, _, _, h, _⟩ := r.keys
  exact h.blk.lt
theorem TSt.inv (h : TSt w base tb cm kb pb cb X M most L n P N) : KInv L n ∧ (akeys L).Nodup := by
  obtain ⟨Q, vs, E, F, r, d⟩ := h.ex
  exact ⟨r.keys.inv, r.keys.nodup⟩
/-- A client more. -/
theorem TSt.clNew (h : TSt w base tb cm kb pb cb X M most L n P N) {id : Int} {c : CL} {x : Nat} (hc : aget M id = none) (h1 : 1 ≤ id) (h2 : id ≤ 9223372036854775807) (hl : M.length < 10000) {w1 : World} (u1 : Upd (fun _ => False) w w1) (hB : Blk w1 x (clc c (.slice none 0 0)) 98) (hx : w.heap.size ≤ x) (hps : c.md.ps = []) (hr : rightM c.md = true) :
    ∃ w', (Instr.mapUpdate 89 (.map (some cm)) (.int .i64 id) (ptr x)).run Tryz.prog w1 = .ok () w' ∧ TSt w' base tb cm kb pb (upd cb id x) X (insI M id c) most L n P N ∧ Upd (Fr base X) w w' := by
  obtain ⟨Q, vs, E, F, r, d⟩ := h.ex
  obtain ⟨w', hrun, hM, u2⟩ := (r.cmap.keep u1 (fun h => h)).put keyI Tryz.underlying89 id (ptr x)
  have r2 := r.clNew hc u1 hB hx hps hM u2
  have ei : upd (aget M) id (some c) = aget (insI M id c) := by
    funext j
    rw [aget_insI hc]
    by_cases e : id = j
    · subst e; rw [upd_at, if_pos rfl]
    · rw [upd_ne _ _ (Ne.symm e), if_neg e]
  rw [ei] at r2
  have u : Upd (fun b => b = cm) w w' := (u1.weaken (F := fun b => b = cm) (fun _ _ h => h.elim)).trans u2 (fun _ _ h => h)
  have hcm := r.lt (b := cm) (Or.inr (Or.inl rfl))
  refine ⟨w', hrun, ⟨⟨_, _, E, F, r2, fun b hb hy => ?_⟩, fun b hb => Nat.lt_of_lt_of_le (h.xlt b hb) u.size, h.ok.insI hc h1 h2 hl hr, h.ksz, h.one⟩, u.weaken (fun b _ e => by rw [e]; exact ⟨hcm.1, d _ (Or.inl (Or.inr (Or.inl rfl)))⟩)⟩
  rcases hb with (rfl | rfl | ⟨j, e, he, hb⟩) | hb | hb
  · exact d _ (Or.inl (Or.inl rfl)) hy
  · exact d _ (Or.inl (Or.inr (Or.inl rfl))) hy
  · by_cases ej : j = id
    · subst ej
      rw [upd_at, upd_at] at hb
      rcases hb with rfl | hb
      · have := h.xlt _ hy; omega
      · cases hb
    · rw [upd_ne _ _ ej, upd_ne _ _ ej] at hb
      rw [aget_insI hc, if_neg (Ne.symm ej)] at he
      exact d _ (Or.inl (Or.inr (Or.inr ⟨j, e, he, hb⟩))) hy
  · exact d _ (Or.inr (Or.inl hb)) hy
  · exact d _ (Or.inr (Or.inr hb)) hy
/-- A client less. -/
theorem TSt.clDel (h : TSt w base tb cm kb pb cb X M most L n P N) (id : Int) :
    ∃ w', (Builtin.delete_ #[89, 3] 0 #[.map (some cm), .int .i64 id]).run Tryz.prog w = .ok (.tuple #[]) w' ∧ TSt w' base tb cm kb pb cb X (adel M id) most L n P N ∧ Upd (Fr base X) w w' := by
  obtain ⟨Q, vs, E, F, r, d⟩ := h.ex
  obtain ⟨w', hr, hM, u⟩ := r.cmap.del keyI Tryz.underlying89 id 0
  have r2 := r.clDel hM u
  rw [upd_adelI (nodup_of_rising h.ok.rise)] at r2
  have hcm := r.lt (b := cm) (Or.inr (Or.inl rfl))
  refine ⟨w', hr, ⟨⟨_, _, E, F, r2, fun b hb hy => ?_⟩, fun b hb => Nat.lt_of_lt_of_le (h.xlt b hb) u.size, h.ok.adel id, h.ksz, h.one⟩, u.weaken (fun b _ e => by rw [e]; exact ⟨hcm.1, d _ (Or.inl (Or.inr (Or.inl rfl)))⟩)⟩
  rcases hb with (rfl | rfl | ⟨j, e, he, hb⟩) | hb | hb
  · exact d _ (Or.inl (Or.inl rfl)) hy
  · exact d _ (Or.inl (Or.inr (Or.inl rfl))) hy
  · rw [aget_adel (nodup_of_rising h.ok.rise)] at he
    split at he
    · cases he
    · exact d _ (Or.inl (Or.inr (Or.inr ⟨j, e, he, hb⟩))) hy
  · exact d _ (Or.inr (Or.inl hb)) hy
  · exact d _ (Or.inr (Or.inr hb)) hy
end
end Go.Proofs.YtmlojbfcmebboaaGreat
