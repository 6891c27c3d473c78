/- slices.Collect(maps.Keys(m)) of a map of texts. -/
import Derived.Test.YthgojhchakclcaaRecB
import Derived.Test.YthgojhchakclcaaOwn
import Derived.Shelf.SlIter.Collect
import Derived.Shelf.SlIter.Keys
import Derived.Shelf.SlIter.Nil
set_option linter.unusedVariables false
set_option linter.unusedSimpArgs false
namespace Go.Proofs.Ythgojhchakclcaa
open Go.RowKit Go.Sort Go.Maps Go.WideElems Go.Proofs

def colRen : Go.Shelf.Ren := ⟨fun | 7 => 29 | 8 => 28 | 10 => 42 | 11 => 41 | n => n, fun | 0 => 0 | 3 => 3 | 4 => 4 | 23 => 62 | 24 => 52 | 26 => 9 | 27 => 70 | 28 => 71 | 33 => 58 | n => n, fun | n => n⟩
theorem colLay7 : SlLaysZ.n7 Try.prog colRen := {
  mixed := by kernel_rfl
  f7 := ⟨Try.f29.name, by decide, Try.func29.trans (congrArg some (by kernel_rfl))⟩
  f10 := ⟨Try.f42.name, by decide, Try.func42.trans (congrArg some (by kernel_rfl))⟩
  t0 := Try.underlying0, a0 := Try.isAgg0, z0 := Try.sizeOf0, v0 := Try.zeroValue0
  t4 := Try.underlying4, a4 := Try.isAgg4, z4 := Try.sizeOf4, v4 := Try.zeroValue4
  t23 := Try.underlying62, a23 := Try.isAgg62, z23 := Try.sizeOf62, v23 := Try.zeroValue62
  t26 := Try.underlying9, a26 := Try.isAgg9, z26 := Try.sizeOf9, v26 := Try.zeroValue9
  t27 := Try.underlying70, a27 := Try.isAgg70, z27 := Try.sizeOf70, v27 := Try.zeroValue70
  t28 := Try.underlying71, a28 := Try.isAgg71, z28 := Try.sizeOf71, v28 := Try.zeroValue71
  t33 := Try.underlying58, a33 := Try.isAgg58, z33 := Try.sizeOf58, v33 := Try.zeroValue58 }
theorem colLay8 : SlLaysZ.n8 Try.prog colRen := {
  mixed := by kernel_rfl
  f8 := ⟨Try.f28.name, by decide, Try.func28.trans (congrArg some (by kernel_rfl))⟩
  f11 := ⟨Try.f41.name, by decide, Try.func41.trans (congrArg some (by kernel_rfl))⟩
  t0 := Try.underlying0, a0 := Try.isAgg0, z0 := Try.sizeOf0, v0 := Try.zeroValue0
  t24 := Try.underlying52, a24 := Try.isAgg52, z24 := Try.sizeOf52, v24 := Try.zeroValue52
  t26 := Try.underlying9, a26 := Try.isAgg9, z26 := Try.sizeOf9, v26 := Try.zeroValue9
  t28 := Try.underlying71, a28 := Try.isAgg71, z28 := Try.sizeOf71, v28 := Try.zeroValue71
  i26 := by kernel_rfl }
theorem colLay10 : SlLaysZ.n10 Try.prog colRen := { colLay7 with }

/-- A map of the call's own, in the library's words. -/
theorem MapAt.owns {w : World} {b : Nat} {m : List (ByteArray × Value)} {P : Program} {K : TypeId} (h : MapAt strEnc w b m) (hK : P.underlying K = some .string) (hs : ∀ k ∈ akeys m, k.size ≤ maxLen) (hl : m.length ≤ maxLen) :
    ∃ D0 : DataW Unit, w.ownsMap P K (fun _ => some (.nil, [])) b m.length D0 ∧ (strKeys D0).Perm ((akeys m).map fun k => k.data.toList) ∧ Maps.size D0 ≤ m.length := by
  obtain ⟨es, clock, hb, he, hst⟩ := h
  have hsz : es.size = m.length := by have := congrArg List.length he; simpa using this
  have hkeys : es.toList.map (·.key) = (akeys m).map strEnc := by
    have := congrArg (List.map Prod.fst) he
    simpa [akeys, List.map_map, Function.comp_def] using this
  have hrd : ∀ x ∈ es.toList, ∃ k ∈ akeys m, x.key = strEnc k := fun x hx => by
    have : x.key ∈ es.toList.map (·.key) := List.mem_map.2 ⟨x, hx, rfl⟩
    rw [hkeys] at this
    obtain ⟨k, hk, e⟩ := List.mem_map.1 this
    exact ⟨k, hk, e.symm⟩
  have hrg : ∀ x ∈ es.toList, ∀ k ∈ akeys m, x.key = strEnc k → rd P K (fun _ => some ((.nil : DataW Unit), [])) x = some (.string k.data.toList, .nil) := fun x _ k hk e => by
    unfold rd
    rw [e, show strEnc k = .string k from rfl, WideMaps.keyOf_string_mk hK (hs k hk)]; rfl
  have F : Fit P K (fun _ => some ((.nil : DataW Unit), [])) es clock := ⟨by omega, hst, fun x hx => by
    obtain ⟨k, hk, e⟩ := hrd x hx
    exact ⟨_, hrg x hx k hk e⟩⟩
  have hl2 : (es.toList.map (rg P K (fun _ => some ((.nil : DataW Unit), [])))).map (fun p => strOf p.1) = (akeys m).map fun k => k.data.toList := by
    have e1 : ∀ x ∈ es.toList, strOf (rg P K (fun _ => some ((.nil : DataW Unit), [])) x).1 = (match x.key with | .string s => s.data.toList | _ => []) := fun x hx => by
      obtain ⟨k, hk, e⟩ := hrd x hx
      unfold rg
      rw [hrg x hx k hk e, e]; rfl
    rw [List.map_map, show (es.toList.map ((fun p : Lit × DataW Unit => strOf p.1) ∘ rg P K (fun _ => some ((.nil : DataW Unit), [])))) = es.toList.map (fun x => match x.key with | .string s => s.data.toList | _ => []) from List.map_congr_left e1]
    have e2 : es.toList.map (fun x => match x.key with | .string s => s.data.toList | _ => []) = (es.toList.map (·.key)).map (fun v => match v with | .string s => s.data.toList | _ => []) := by rw [List.map_map]; rfl
    rw [e2, hkeys, List.map_map]; rfl
  refine ⟨.map ((es.toList.map (rg P K (fun _ => some ((.nil : DataW Unit), [])))).foldr DataW.insert []), ⟨es, clock, hb, F, by omega, rfl⟩, ?_, ?_⟩
  · show (((es.toList.map (rg P K (fun _ => some ((.nil : DataW Unit), [])))).foldr DataW.insert []).map fun p => strOf p.1).Perm _
    rw [← hl2]
    exact (WideShapes.sorted_perm _).map _
  · show ((es.toList.map (rg P K (fun _ => some ((.nil : DataW Unit), [])))).foldr DataW.insert []).length ≤ _
    rw [DataW.length_sorted]; simp; omega

theorem keysf_any (mb : Option Nat) (w : World) : Calls Try.prog 29 #[.map mb] w fun e w' => e = .returned (.func (.func 42) #[] #[.pointer (some ⟨w.heap.size, 0, none⟩)]) ∧ w' = w.alloc (.cells #[.map mb] 62) :=
  callsIn_wide.1 (AnyZ.keys_in colLay7 Fence.wide 5 trivial rfl mb w)
theorem ofBytes_map (l : List (List UInt8)) : (l.map encStr) = (l.map fun s => (⟨s.toArray⟩ : ByteArray)).map Value.string := by rw [List.map_map]; rfl
/-- The keys of a map, each once, in some order, in a slice of the call's own. -/
theorem collect_any (o : Option Nat) (m : List (ByteArray × Value)) (Bm : Nat) (w : World) (hB : Bm < w.heap.size) (hc : w.cell? ⟨Bm, 0, none⟩ = some (.map o)) (h : (o = none ∧ m = []) ∨ ∃ b, o = some b ∧ MapAt strEnc w b m) (hs : ∀ k ∈ akeys m, k.size ≤ maxLen) (hl : m.length ≤ 100000) :
    Calls Try.prog 28 #[.func (.func 42) #[] #[.pointer (some ⟨Bm, 0, none⟩)]] w fun e w' => ∃ v ks, e = .returned v ∧ ks.Perm (akeys m) ∧ StrsAt w' w.heap.size v ks ∧ Upd (fun _ => False) w w' := by
  have eg : ∀ args w, (callFunc 42 args).run Try.prog w = .ok (.enter 42 args) w := enters_of Try.func42 (by kernel_rfl) rfl
  have fin : ∀ (ss : List (List UInt8)), ss.Perm ((akeys m).map fun k => k.data.toList) → (ss.map fun s => (⟨s.toArray⟩ : ByteArray)).Perm (akeys m) := fun ss hp => by
    have := hp.map (fun s => (⟨s.toArray⟩ : ByteArray))
    rw [List.map_map] at this
    refine this.trans (List.Perm.of_eq ?_)
    conv => rhs; rw [← List.map_id (akeys m)]
    exact List.map_congr_left fun k _ => by cases k; rfl
  rcases h with ⟨rfl, rfl⟩ | ⟨b, rfl, hM⟩
  · refine (callsIn_wide.1 (AnyZ.collect_in colLay8 Fence.wide 5 trivial trivial rfl (by omega) 42 #[.pointer (some ⟨Bm, 0, none⟩)] trivial eg (fun ss => ss = []) 0 (Nat.zero_le _) (by omega) w (AnyZ.keys_gives_nil colLay10 Fence.wide _ trivial rfl Bm w hB hc))).mono ?_
    rintro e w' ⟨v, ss, rfl, rfl, hrow, _, hb⟩
    refine ⟨v, [], rfl, List.Perm.refl _, ?_, (Upd.of_below hb).weaken fun i hi h2 => by omega⟩
    exact hrow
  · obtain ⟨D0, hown, hp, hsz⟩ := hM.owns (P := Try.prog) (K := 9) Try.underlying9 hs (by unfold maxLen; omega)
    refine (callsIn_wide.1 (AnyZ.collect_in colLay8 Fence.wide 5 trivial trivial rfl (by omega) 42 #[.pointer (some ⟨Bm, 0, none⟩)] trivial eg (fun ss => ss.Perm (strKeys D0)) (Maps.size D0) (by unfold maxLen; omega) (by omega) w (AnyZ.keys_gives colLay10 Fence.wide _ trivial rfl (by omega) Bm b m.length D0 w hB hc hown))).mono ?_
    rintro e w' ⟨v, ss, rfl, hS, hrow, _, hb⟩
    refine ⟨v, _, rfl, fin ss (hS.trans hp), ?_, (Upd.of_below hb).weaken fun i hi h2 => by omega⟩
    unfold StrsAt
    rw [← ofBytes_map]
    rw [List.length_map]; exact hrow
end Go.Proofs.Ythgojhchakclcaa
