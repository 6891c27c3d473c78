/- Walk: expiry's All. -/
import Derived.Test.YtokkhddbdjflhaaExpS
import Derived.Test.YtokkhddbdjflhaaRoundApp
import Derived.Shelf.Abstract
set_option linter.unusedVariables false
set_option linter.unusedSimpArgs false
namespace Go.Proofs.Ytokkhddbdjflhaa
open Go.RowKit Go.Sort Go.Maps Go.WideElems Go.Proofs

attribute [local go_sem] Oper.semAt_some

set_option maxRecDepth 100000 in
set_option maxHeartbeats 4000000 in
theorem xall_in (w : World) (base xa mb : Nat) (v : Value) (bs : List Nat) (ent : Nat → DueP) (m : List (ByteArray × Nat)) (l : List DueP) (h : ExpR w base xa mb v bs ent m l) (hl : l.length ≤ 10000) (hs : ∀ d ∈ l, d.2.size ≤ maxLen) :
    CallsIn Fence.wide 8 Try.prog 11 #[.pointer (some ⟨xa, 0, none⟩)] w fun e w' => ∃ v, e = .returned v ∧ DuesAt w' w.heap.size v l ∧ Below w.heap.size w w' := by
  have hro : Fence.wide.round = none := rfl
  have ha : ∀ f, Fence.wide.fn f := fun _ => trivial
  have hml : (pm m).length ≤ 10000 := by rw [pm_len, h.mlen, h.llen]; exact hl
  have hxl := h.heap.row.x.lt
  have hlt := Lib.hid h.lt
  have c1 := h.heap.row.x.cellAt (i := 1) rfl
  have H := Lib.hid h
  have HS := Lib.hid hs
  clear h hs
  refine callsIn_of_wp_marks Try.func11 rfl (ha _) ?_ hro
  simp only [Try.ntmps11, List.size_toArray, List.length_cons, List.length_nil, Nat.reduceAdd, Nat.reduceSub, Array.replicate_succ, Array.replicate_zero, List.push_toArray, List.append_toArray, List.nil_append, List.cons_append]
  gi_wp2_with (gi_at_call 25; refine (values_in Fence.wide 7 (ha _) hro _ _).mono ?_; rintro e w' ⟨rfl, rfl⟩)
  have hB0 : Below w.heap.size w ((w.alloc (.cells #[.slice none 0 0] 31)).alloc (.cells #[.map (some mb)] 54)) := ((Below.refl _ w).alloc (Nat.le_refl _) _).alloc (by simp) _
  have hM0 : MapAt strEnc ((w.alloc (.cells #[.slice none 0 0] 31)).alloc (.cells #[.map (some mb)] 54)) mb (pm m) := H.out.map.keep (((Upd.refl (fun _ => False) w).alloc _).alloc _) (fun h => h)
  have hks : ∀ k ∈ akeys (pm m), k.size ≤ maxLen := fun k hk => by
    have e : akeys (pm m) = akeys m := by simp [akeys, pm]
    rw [e] at hk
    cases hg : aget m k with
    | none => exact absurd hk (aget_none.1 hg)
    | some b =>
      obtain ⟨h1, h2⟩ := (H.out.mem k b).1 hg
      rw [← h2]; exact HS.out _ (H.out.perm.mem_iff.1 (List.mem_map.2 ⟨b, h1, rfl⟩))
  have hnd : (akeys (pm m)).Nodup := by
    have e : akeys (pm m) = akeys m := by simp [akeys, pm]
    rw [e]; exact H.out.mnd
  have hbv : ∀ k x, aget (pm m) k = some x → ∃ b : {b : Nat // b ∈ bs}, ptr b.1 = x := fun k x hx => by
    rw [pm_get] at hx
    cases hg : aget m k with
    | none => rw [hg] at hx; cases hx
    | some b => rw [hg] at hx; cases hx; exact ⟨⟨b, ((H.out.mem k b).1 hg).1⟩, rfl⟩
  have hb := Blk.made (w.alloc (.cells #[.slice none 0 0] 31)) [.map (some mb)] 54
  rw [World.size_alloc] at hb
  have hSS := values_stops (fun b : {b : Nat // b ∈ bs} => ptr b.1) Fence.wide 7 (ha _) hro (by omega) (w.heap.size + 1) mb (pm m) hbv ((w.alloc (.cells #[.slice none 0 0] 31)).alloc (.cells #[.map (some mb)] 54)) (by simp) (hb.cellAt (i := 0) rfl) hM0 hnd hks (by unfold maxLen; omega)
  refine wpIn_rangeFunc_ownF hro (by omega) (gf := 32) (lb := #[.pointer (some ⟨w.heap.size + 1, 0, none⟩)]) rfl (ha _) (enters_of Try.func32 (by kernel_rfl) rfl)
    hSS walksK_t walksK_b (Below.refl _ _) (fun _ => rfl)
    (fun pre W => (∃ v, Boxed W w.heap.size 31 v ∧ W.ownsRow w.heap.size 26 2 v pre.length (flat duec (pre.map fun b => ent b.1))) ∧ Below w.heap.size w W)
    (fun _ _ _ => False) ?own
    (fun _ _ _ _ _ hs _ _ => hs) ?start
    (fun b => { tmps := #[.pointer (some ⟨xa, 0, none⟩), undef, .slice none 0 0, .pointer (some ⟨w.heap.size, 0, none⟩), ptr b.1, .pointer (some ⟨xa, 0, none⟩), .pointer (some ⟨xa, 0, none⟩), .pointer (some ⟨xa, 1, none⟩), .map (some mb), .func (.func 32) #[] #[.pointer (some ⟨w.heap.size + 1, 0, none⟩)], ptr b.1, undef, undef, undef, undef, undef, undef, undef, undef, undef, undef], defers := [] }) ?assign ?body ?done ?stop
  case own =>
    refine OwnFrom.and (Own.from (fun s A B row hs hg hr => ?_) _) (ownFrom_below (Nat.le_refl _) (by simp; omega))
    obtain ⟨v, h1, h2⟩ := hs
    obtain ⟨v', k1, k2, _⟩ := holdsRow_own w.heap.size w.heap.size 31 26 2 List.length (fun pre => flat duec (pre.map fun b : {b : Nat // b ∈ bs} => ent b.1)) (fun _ _ => True) s A B row ⟨v, h1, h2, trivial⟩ hg hr
    exact ⟨v', k1, k2⟩
  case start => exact ⟨⟨_, (Boxed.new w 31 (.slice none 0 0)).alloc _, World.ownsRow_nil _ _ _ _⟩, hB0⟩
  case assign =>
    intro l x W K hK
    gi_wp2
    exact hK
  case body =>
    rintro l pre x W ⟨⟨v, hbx, hown⟩, hB⟩ hpl
    have hxb : x.1 ∈ bs := x.2
    obtain ⟨i, hi⟩ := List.mem_iff_getElem?.1 hxb
    have hbl : x.1 < w.heap.size := hlt.out _ (Or.inr (Or.inr (Or.inr hxb)))
    have hB1 := H.out.heap.row.at_ i x.1 hi
    have e0 : W.cell? ⟨x.1, 0, none⟩ = some (.int .i64 (ent x.1).1) := (hB.cell (p := ⟨x.1, 0, none⟩) hbl).trans (hB1.cellAt (i := 0) rfl)
    have e1 : W.cell? ⟨x.1, 1, none⟩ = some (.string (ent x.1).2) := (hB.cell (p := ⟨x.1, 1, none⟩) hbl).trans (hB1.cellAt (i := 1) rfl)
    have b0 := hbx.cell
    have b1 := hbx.frozen
    have hws := hB.size
    have hwb := hbx.lt
    obtain ⟨i0, hi0, hz0, hz1, hz2⟩ := info_parts due_info
    obtain ⟨v', w1, hr, ho2, hg2, _⟩ := run_append_own (P := Try.prog) (W.alloc (.cells #[.int .i64 (ent x.1).1, .string (ent x.1).2] 26)).drew w.heap.size 31 31 26 i0 (.agg #[.int .i64 0, .string ByteArray.empty]) 2 24 Try.underlying31 hi0 hz0 hz1 hz2 rfl (by decide) v pre.length _ (hown.alloc _) ⟨W.heap.size, 0, none⟩ 1 1 [.int .i64 (ent x.1).1, .string (ent x.1).2] rfl (by
      intro j u hu
      match j with
      | 0 => simp at hu; subst hu; simp [Addr.add, World.cell?_alloc_at]
      | 1 => simp at hu; subst hu; simp [Addr.add, World.cell?_alloc_at]
      | j + 2 => simp at hu) (by intro u hu; simp at hu; rcases hu with rfl | rfl <;> rfl) (by unfold maxLen; omega) (by omega) (by simp; omega)
    obtain ⟨p2, q2, ev2, _⟩ := own_slice ho2
    subst ev2
    obtain ⟨A1, A2, A3, A4, A5⟩ := Boxed.appended (n₀ := w.heap.size) hbx (by decide) hown hws (Nat.le_refl _) ho2 ⟨hg2.os, hg2.tape, hg2.output, hg2.size, hg2.block⟩
    have c2 := A1.cell
    have f2 := A1.frozen
    have AA := Lib.hid (And.intro A2 (And.intro A3 (And.intro A4 A5)))
    have OWX : Hid ((w1.setCell ⟨w.heap.size, 0, none⟩ (.slice p2 (pre.length + 1) q2)).ownsRow w.heap.size 26 2 (.slice p2 (pre.length + 1) q2) (pre ++ [x]).length (flat duec ((pre ++ [x]).map fun b => ent b.1))) := by
      show World.ownsRow _ _ _ _ _ _ _
      rw [List.length_append, List.map_append]
      have e : flat duec (pre.map (fun b => ent b.1) ++ [x].map fun b => ent b.1) = flat duec (pre.map fun b => ent b.1) ++ [.int .i64 (ent x.1).1, .string (ent x.1).2] := by simp [flat, duec]
      rw [e]; exact A3
    clear A1 A2 A3 A4 A5
    have HOW := Lib.hid hown
    have HO2 := Lib.hid ho2
    have HG2 := Lib.hid hg2
    have HBX := Lib.hid hbx
    have HBB := Lib.hid hB
    clear hown ho2 hg2 hbx hB hB1 hi hxb
    obtain ⟨xb, hxb⟩ := x
    simp only at *
    unfold ptr
    gi_wp2
    refine wpIn_region_any (by kernel_rfl) ?_
    change wpAnyIn _ _ _ _ _ _ _ _ _ (World.drew _)
    refine wpAnyIn_ready (rs := [0, 1]) (by kernel_rfl) (by simp) ?_
    refine AllReadyIn.cons rfl (fun K hK => ?_) (AllReadyIn.cons rfl (fun K hK => ?_) AllReadyIn.nil)
    · go_simp
      refine hK _ _ ?_
      clear hK K
      refine wpAnyIn_ready (rs := [1]) (by kernel_rfl) (by simp) ?_
      refine AllReadyIn.cons rfl (fun K hK => ?_) AllReadyIn.nil
      go_simp
      refine hK _ _ ?_
      clear hK K
      refine wpAnyIn_ready (rs := [2]) (by kernel_rfl) (by simp) ?_
      refine AllReadyIn.cons rfl (fun K hK => ?_) AllReadyIn.nil
      go_simp
      refine hK _ _ ?_
      clear hK K
      refine wpAnyIn_ready (rs := [3]) (by kernel_rfl) (by simp) ?_
      refine AllReadyIn.cons rfl (fun K hK => ?_) AllReadyIn.nil
      go_simp
      refine hK _ _ ?_
      clear hK K
      refine wpAnyIn_ready (rs := [4]) (by kernel_rfl) (by simp) ?_
      refine AllReadyIn.cons rfl (fun K hK => ?_) AllReadyIn.nil
      go_simp
      refine hK _ _ ?_
      clear hK K
      refine wpAnyIn_ready (rs := [5]) (by kernel_rfl) (by simp) ?_
      refine AllReadyIn.cons rfl (fun K hK => ?_) AllReadyIn.nil
      go_simp
      refine hK _ _ ?_
      clear hK K
      refine wpAnyIn_ready (rs := [6]) (by kernel_rfl) (by simp) ?_
      refine AllReadyIn.cons rfl (fun K hK => ?_) AllReadyIn.nil
      refine stepIn_builtin rfl _ _ 31 rfl v (.slice (some ⟨W.heap.size, 0, none⟩) 1 1) rfl rfl hr ?_
      refine hK _ _ ?_
      clear hK K
      refine wpAnyIn_ready (rs := [7]) (by kernel_rfl) (by simp) ?_
      refine AllReadyIn.cons rfl (fun K hK => ?_) AllReadyIn.nil
      go_simp
      refine hK _ _ ?_
      clear hK K
      refine wpAnyIn_done (by kernel_rfl) ?_ _
      exact ⟨AA.out.2.2.1, AA.out.2.2.1.walks, ⟨_, AA.out.1, OWX.out⟩, HBB.out.trans AA.out.2.2.2⟩
    · go_simp
      refine hK _ _ ?_
      clear hK K
      refine wpAnyIn_ready (rs := [0, 2]) (by kernel_rfl) (by simp) ?_
      refine AllReadyIn.cons rfl (fun K hK => ?_) (AllReadyIn.cons rfl (fun K hK => ?_) AllReadyIn.nil)
      · go_simp
        refine hK _ _ ?_
        clear hK K
        refine wpAnyIn_ready (rs := [2]) (by kernel_rfl) (by simp) ?_
        refine AllReadyIn.cons rfl (fun K hK => ?_) AllReadyIn.nil
        go_simp
        refine hK _ _ ?_
        clear hK K
        refine wpAnyIn_ready (rs := [3]) (by kernel_rfl) (by simp) ?_
        refine AllReadyIn.cons rfl (fun K hK => ?_) AllReadyIn.nil
        go_simp
        refine hK _ _ ?_
        clear hK K
        refine wpAnyIn_ready (rs := [4]) (by kernel_rfl) (by simp) ?_
        refine AllReadyIn.cons rfl (fun K hK => ?_) AllReadyIn.nil
        go_simp
        refine hK _ _ ?_
        clear hK K
        refine wpAnyIn_ready (rs := [5]) (by kernel_rfl) (by simp) ?_
        refine AllReadyIn.cons rfl (fun K hK => ?_) AllReadyIn.nil
        go_simp
        refine hK _ _ ?_
        clear hK K
        refine wpAnyIn_ready (rs := [6]) (by kernel_rfl) (by simp) ?_
        refine AllReadyIn.cons rfl (fun K hK => ?_) AllReadyIn.nil
        refine stepIn_builtin rfl _ _ 31 rfl v (.slice (some ⟨W.heap.size, 0, none⟩) 1 1) rfl rfl hr ?_
        refine hK _ _ ?_
        clear hK K
        refine wpAnyIn_ready (rs := [7]) (by kernel_rfl) (by simp) ?_
        refine AllReadyIn.cons rfl (fun K hK => ?_) AllReadyIn.nil
        go_simp
        refine hK _ _ ?_
        clear hK K
        refine wpAnyIn_done (by kernel_rfl) ?_ _
        exact ⟨AA.out.2.2.1, AA.out.2.2.1.walks, ⟨_, AA.out.1, OWX.out⟩, HBB.out.trans AA.out.2.2.2⟩
      · go_simp
        refine hK _ _ ?_
        clear hK K
        refine wpAnyIn_ready (rs := [0, 3]) (by kernel_rfl) (by simp) ?_
        refine AllReadyIn.cons rfl (fun K hK => ?_) (AllReadyIn.cons rfl (fun K hK => ?_) AllReadyIn.nil)
        · go_simp
          refine hK _ _ ?_
          clear hK K
          refine wpAnyIn_ready (rs := [3]) (by kernel_rfl) (by simp) ?_
          refine AllReadyIn.cons rfl (fun K hK => ?_) AllReadyIn.nil
          go_simp
          refine hK _ _ ?_
          clear hK K
          refine wpAnyIn_ready (rs := [4]) (by kernel_rfl) (by simp) ?_
          refine AllReadyIn.cons rfl (fun K hK => ?_) AllReadyIn.nil
          go_simp
          refine hK _ _ ?_
          clear hK K
          refine wpAnyIn_ready (rs := [5]) (by kernel_rfl) (by simp) ?_
          refine AllReadyIn.cons rfl (fun K hK => ?_) AllReadyIn.nil
          go_simp
          refine hK _ _ ?_
          clear hK K
          refine wpAnyIn_ready (rs := [6]) (by kernel_rfl) (by simp) ?_
          refine AllReadyIn.cons rfl (fun K hK => ?_) AllReadyIn.nil
          refine stepIn_builtin rfl _ _ 31 rfl v (.slice (some ⟨W.heap.size, 0, none⟩) 1 1) rfl rfl hr ?_
          refine hK _ _ ?_
          clear hK K
          refine wpAnyIn_ready (rs := [7]) (by kernel_rfl) (by simp) ?_
          refine AllReadyIn.cons rfl (fun K hK => ?_) AllReadyIn.nil
          go_simp
          refine hK _ _ ?_
          clear hK K
          refine wpAnyIn_done (by kernel_rfl) ?_ _
          exact ⟨AA.out.2.2.1, AA.out.2.2.1.walks, ⟨_, AA.out.1, OWX.out⟩, HBB.out.trans AA.out.2.2.2⟩
        · go_simp
          refine hK _ _ ?_
          clear hK K
          refine wpAnyIn_ready (rs := [0, 4]) (by kernel_rfl) (by simp) ?_
          refine AllReadyIn.cons rfl (fun K hK => ?_) (AllReadyIn.cons rfl (fun K hK => ?_) AllReadyIn.nil)
          · go_simp
            refine hK _ _ ?_
            clear hK K
            refine wpAnyIn_ready (rs := [4]) (by kernel_rfl) (by simp) ?_
            refine AllReadyIn.cons rfl (fun K hK => ?_) AllReadyIn.nil
            go_simp
            refine hK _ _ ?_
            clear hK K
            refine wpAnyIn_ready (rs := [5]) (by kernel_rfl) (by simp) ?_
            refine AllReadyIn.cons rfl (fun K hK => ?_) AllReadyIn.nil
            go_simp
            refine hK _ _ ?_
            clear hK K
            refine wpAnyIn_ready (rs := [6]) (by kernel_rfl) (by simp) ?_
            refine AllReadyIn.cons rfl (fun K hK => ?_) AllReadyIn.nil
            refine stepIn_builtin rfl _ _ 31 rfl v (.slice (some ⟨W.heap.size, 0, none⟩) 1 1) rfl rfl hr ?_
            refine hK _ _ ?_
            clear hK K
            refine wpAnyIn_ready (rs := [7]) (by kernel_rfl) (by simp) ?_
            refine AllReadyIn.cons rfl (fun K hK => ?_) AllReadyIn.nil
            go_simp
            refine hK _ _ ?_
            clear hK K
            refine wpAnyIn_done (by kernel_rfl) ?_ _
            exact ⟨AA.out.2.2.1, AA.out.2.2.1.walks, ⟨_, AA.out.1, OWX.out⟩, HBB.out.trans AA.out.2.2.2⟩
          · go_simp
            refine hK _ _ ?_
            clear hK K
            refine wpAnyIn_ready (rs := [0, 5]) (by kernel_rfl) (by simp) ?_
            refine AllReadyIn.cons rfl (fun K hK => ?_) (AllReadyIn.cons rfl (fun K hK => ?_) AllReadyIn.nil)
            · go_simp
              refine hK _ _ ?_
              clear hK K
              refine wpAnyIn_ready (rs := [5]) (by kernel_rfl) (by simp) ?_
              refine AllReadyIn.cons rfl (fun K hK => ?_) AllReadyIn.nil
              go_simp
              refine hK _ _ ?_
              clear hK K
              refine wpAnyIn_ready (rs := [6]) (by kernel_rfl) (by simp) ?_
              refine AllReadyIn.cons rfl (fun K hK => ?_) AllReadyIn.nil
              refine stepIn_builtin rfl _ _ 31 rfl v (.slice (some ⟨W.heap.size, 0, none⟩) 1 1) rfl rfl hr ?_
              refine hK _ _ ?_
              clear hK K
              refine wpAnyIn_ready (rs := [7]) (by kernel_rfl) (by simp) ?_
              refine AllReadyIn.cons rfl (fun K hK => ?_) AllReadyIn.nil
              go_simp
              refine hK _ _ ?_
              clear hK K
              refine wpAnyIn_done (by kernel_rfl) ?_ _
              exact ⟨AA.out.2.2.1, AA.out.2.2.1.walks, ⟨_, AA.out.1, OWX.out⟩, HBB.out.trans AA.out.2.2.2⟩
            · go_simp
              refine hK _ _ ?_
              clear hK K
              refine wpAnyIn_ready (rs := [0]) (by kernel_rfl) (by simp) ?_
              refine AllReadyIn.cons rfl (fun K hK => ?_) AllReadyIn.nil
              go_simp
              refine hK _ _ ?_
              clear hK K
              refine wpAnyIn_ready (rs := [6]) (by kernel_rfl) (by simp) ?_
              refine AllReadyIn.cons rfl (fun K hK => ?_) AllReadyIn.nil
              refine stepIn_builtin rfl _ _ 31 rfl v (.slice (some ⟨W.heap.size, 0, none⟩) 1 1) rfl rfl hr ?_
              refine hK _ _ ?_
              clear hK K
              refine wpAnyIn_ready (rs := [7]) (by kernel_rfl) (by simp) ?_
              refine AllReadyIn.cons rfl (fun K hK => ?_) AllReadyIn.nil
              go_simp
              refine hK _ _ ?_
              clear hK K
              refine wpAnyIn_done (by kernel_rfl) ?_ _
              exact ⟨AA.out.2.2.1, AA.out.2.2.1.walks, ⟨_, AA.out.1, OWX.out⟩, HBB.out.trans AA.out.2.2.2⟩

  case done =>
    rintro D ys W hD ⟨ks, hp, hys⟩ ⟨⟨v, hbx, hown⟩, hB⟩ hK
    have b0 := hbx.cell
    have b1 := hbx.frozen
    obtain ⟨p2, q2, ev2, _⟩ := own_slice hown
    subst ev2
    have HBX := Lib.hid hbx
    have HO := Lib.hid hown
    have HB := Lib.hid hB
    have HK := Lib.hid hK
    have HYS := Lib.hid (And.intro hp hys)
    clear hbx hown hB hK hp hys
    have hpl : (ys.map fun b => ent b.1).Perm l := by
      have e1 : (ys.map fun b => b.1).map ptr = valsOf (pm m) ks := by rw [List.map_map]; exact HYS.out.2
      have e2 : valsOf (pm m) ks = (ks.map fun k => (aget m k).getD 0).map ptr := by
        unfold valsOf
        rw [List.map_map]
        refine List.map_congr_left fun k hk => ?_
        have hkm : k ∈ akeys m := by
          have := HYS.out.1.mem_iff.1 hk
          have e : akeys (pm m) = akeys m := by simp [akeys, pm]
          rwa [e] at this
        rw [pm_get]
        cases hg : aget m k with
        | none => exact absurd hkm (aget_none.1 hg)
        | some b => simp [hg]
      have e3 : (ys.map fun b => b.1) = ks.map fun k => (aget m k).getD 0 := by
        have hinj : ∀ (a b : List Nat), a.map ptr = b.map ptr → a = b := fun a b h => by
          refine List.map_inj_right (f := ptr) (fun x y e => ?_) |>.1 h
          unfold ptr at e; injection e with e; injection e with e; injection e
        exact hinj _ _ (e1.trans e2)
      have hkp : ks.Perm (akeys m) := by
        have := HYS.out.1
        have e : akeys (pm m) = akeys m := by simp [akeys, pm]
        rwa [e] at this
      have p1 : (ys.map fun b => b.1).Perm bs := by
        rw [e3]
        refine (hkp.map _).trans ?_
        have hnd2 : ((akeys m).map fun k => (aget m k).getD 0).Nodup := by
          rw [List.nodup_iff_pairwise_ne, List.pairwise_map]
          refine List.Pairwise.imp_of_mem (fun {x y} hx hy hxy e => hxy ?_) (List.nodup_iff_pairwise_ne.1 H.out.mnd)
          cases hgx : aget m x with
          | none => exact absurd hx (aget_none.1 hgx)
          | some bx =>
            cases hgy : aget m y with
            | none => exact absurd hy (aget_none.1 hgy)
            | some bY =>
              rw [hgx, hgy] at e
              simp at e
              rw [← ((H.out.mem x bx).1 hgx).2, ← ((H.out.mem y bY).1 hgy).2, e]
        refine (List.perm_ext_iff_of_nodup hnd2 H.out.heap.row.nd).2 fun b => ?_
        rw [List.mem_map]
        constructor
        · rintro ⟨k, hk, rfl⟩
          cases hg : aget m k with
          | none => exact absurd hk (aget_none.1 hg)
          | some c => exact ((H.out.mem k c).1 hg).1
        · intro hb
          have hg := (H.out.mem (ent b).2 b).2 ⟨hb, rfl⟩
          have hm : (ent b).2 ∈ akeys m := Decidable.not_not.1 fun hh => by rw [aget_none.2 hh] at hg; cases hg
          exact ⟨(ent b).2, hm, by rw [hg]; rfl⟩
      have := (p1.map ent).trans H.out.perm
      rw [List.map_map] at this
      exact this
    have hyl : ys.length = l.length := by have := hpl.length_eq; simpa using this
    have hyn : ys.length ≤ 10000 := by omega
    have SO := sortD_any w.heap.size _ (ys.map fun b => ent b.1) l W (by
      unfold DuesAt; rw [List.length_map]; exact HO.out) hpl H.out.rise (by omega)
    have SO := Lib.hid (callsIn_wide (n := 7) |>.2 SO)
    clear hpl hyl
    gi_wp2_with (gi_at_call 26; refine SO.out.mono ?_; rintro e W2 ⟨rfl, h2, g2⟩; (have H2 := Lib.hid h2); (have G2 := Lib.hid g2); (have B2 := Lib.hid (HBX.out.kept g2 (HBX.out.not_row (by decide) HO.out))); (have b0' := B2.out.cell); (have b1' := B2.out.frozen); clear h2 g2)
    have hK2 : W2.heap[D]? = some (.deferred (some [])) := (G2.out.block D (Array.getElem?_eq_some_iff.1 HK.out).1 (fun e => by
      obtain ⟨cs, hc⟩ := own_cells HO.out e.symm
      rw [HK.out] at hc; cases hc)).trans HK.out
    have hB2 : Below w.heap.size w W2 := HB.out.grown G2.out HB.out.size (fun k e => (World.ownsRow.lt HO.out k e).1)
    refine ⟨by simp, .inl ⟨_, _, rfl, run_takeDeferred hK2, ?_⟩⟩
    exact ⟨.slice p2 ys.length q2, results_tmp (t := 2) rfl _ _ _, .slice p2 ys.length q2, rfl, ownsRow_putObj H2.out _ hK2 rfl, hB2.trans (belowK_b (w := w) (Nat.le_refl _) W2 D _ _ (by simp at hD; omega) hK2 rfl rfl)⟩
  case stop =>
    rintro D c pre W _ _ h _
    exact h.elim
theorem xall_any (w : World) (base xa : Nat) (l : List DueP) (E : Nat → Prop) (h : ExpAt w base xa l E) (hl : l.length ≤ 10000) (hs : ∀ d ∈ l, d.2.size ≤ maxLen) :
    Calls Try.prog 11 #[.pointer (some ⟨xa, 0, none⟩)] w fun e w' => ∃ v, e = .returned v ∧ DuesAt w' w.heap.size v l ∧ Upd (fun _ => False) w w' := by
  obtain ⟨mb, v, bs, ent, m, h, rfl⟩ := h
  exact (callsIn_wide.1 (xall_in w base xa mb v bs ent m l h hl hs)).mono fun e w' ⟨v, e1, d, b⟩ => ⟨v, e1, d, (Upd.of_below b).weaken (fun i hi hk => by omega)⟩
end Go.Proofs.Ytokkhddbdjflhaa
