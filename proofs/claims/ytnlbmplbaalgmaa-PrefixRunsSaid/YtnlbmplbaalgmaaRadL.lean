/- Keys that share their beginnings: how many nodes. -/
import Derived.Test.YtnlbmplbaalgmaaRadF
import Derived.Test.YtnlbmplbaalgmaaAppR
set_option linter.unusedVariables false
set_option linter.unusedSimpArgs false
namespace Go.Proofs.Ytnlbmplbaalgmaa
open Go.RowKit
theorem NodesAt.cut {w : World} {base : Nat} {p : Option Addr} {c : Nat} {l : List Nat} {b n : Nat} (h : NodesAt w base (.slice p n c) (l ++ [b])) (hn : n = l.length + 1) : NodesAt w base (.slice p l.length c) l := by
  subst hn
  unfold NodesAt at *
  rw [List.length_append, List.map_append] at h
  exact own_cut h (by simp)
theorem nodes_append (w : World) (base base2 : Nat) (ty : TypeId) (v v2 : Value) (l m : List Nat) (h : NodesAt w base v l) (h2 : NodesAt w base2 v2 m) (hl : l.length + m.length ≤ 100000000) (hb : base ≤ w.heap.size) :
    ∃ v' w', (Builtin.append_ #[75, 75] ty #[v, v2]).run Try.prog w = .ok v' w' ∧ NodesAt w' base v' (l ++ m) ∧ Upd (fun k => v.ownBlock = some k) w w' ∧ NewOr v v' w := by
  obtain ⟨i0, hi0, hz0, hz1, hz2⟩ := rinfo_parts nodep_info
  obtain ⟨v', w', hr, h3, h4, h5⟩ := append_row (P := Try.prog) w base base2 75 ty 80 i0 (.pointer none) 8 Try.underlying75 hi0 hz0 hz1 hz2 rfl v v2 l.length m.length (l.map ptr) (m.map ptr) h h2 (by intro u hu; obtain ⟨_, _, rfl⟩ := List.mem_map.1 hu; rfl) (by unfold maxLen; omega) (by omega) hb
  exact ⟨v', w', hr, by unfold NodesAt; rw [List.length_append, List.map_append]; exact h3, h4, h5⟩
section
variable {w w' : World} {base xa : Nat} {bs : List Nat} {G : Nat → Nd} {T : Nat → Txt} {row : Nat → Value} {many : Int}
/-- How many stand under those of a row. -/
def sumS (T : Nat → Txt) (S l : List Nat) : Nat := (l.flatMap fun c => subs T S (T c)).length
set_option maxHeartbeats 8000000 in
set_option maxRecDepth 100000 in
theorem nodes_raw (h : RadR w base xa bs G T row many) (hbs : bs.length ≤ 1000000) :
    Calls Try.prog 16 #[.pointer (some ⟨xa, 0, none⟩)] w fun e w' => e = .returned (.int .i64 (bs.length : Int)) ∧ Upd (fun _ => False) w w' := by
  obtain ⟨S, hp, hs⟩ := h.flat.sort_ex
  have SC : Hid (∀ x ∈ bs, subs T S (T x) = x :: (G x).kids.flatMap fun c => subs T S (T c)) := fun x hx => h.flat.subs_cons hp hs hx
  have hS0 : (subs T S (T xa)).length = bs.length := by rw [h.flat.subs_root, hp.length_eq]
  have H := Lib.hid h
  have R0 : Hid (NodesAt (w.alloc (.cells #[.pointer (some ⟨xa, 0, none⟩)] 80)) w.heap.size (.slice (some ⟨w.heap.size, 0, none⟩) 1 1) [xa]) :=
    own_of (cs := []) (Nat.le_refl _) (Blk.made w _ _) rfl rfl (by unfold maxLen; omega)
  clear h hp hs
  generalize hnb : bs.length = nb at *
  go_enter Try.func16, Try.ntmps16
  go_wp2
  go_loopw [3, 4] (fun x3 x4 wr => ∃ (k : Nat) (l : List Nat), x3 = .int .i64 (k : Int) ∧ k + sumS T S l = nb ∧ l.length ≤ sumS T S l ∧ Hid (∀ x ∈ l, x ∈ bs) ∧ Hid (NodesAt wr w.heap.size x4 l) ∧ Hid (Upd (fun _ => False) w wr)) (fun x3 _ _ => nb - (intOf x3).toNat)
  case atStart => exact ⟨0, [xa], rfl, by unfold sumS; simp [hS0], by unfold sumS; simp [SC.out xa H.out.flat.root], Lib.hid (fun x hx => by simp at hx; subst hx; exact H.out.flat.root), R0, Lib.hid ((Upd.refl _ _).alloc _)⟩
  case round =>
    obtain ⟨k, l, rfl, hk, hl, LM, RW, U⟩ := hrel
    obtain ⟨p4, c4, e4, hl63⟩ := own_slice RW.out
    subst e4
    by_cases hne : l = []
    · have hl0 : l.length = 0 := by rw [hne]; rfl
      have hkk : k = nb := by rw [hne] at hk; unfold sumS at hk; simpa using hk
      generalize l.length = nl at *
      subst hl0
      go_wp2
      go_ret
      exact ⟨by rw [hkk]; rfl, U.out⟩
    · obtain ⟨l0, b, hl0⟩ : ∃ l0 b, l = l0 ++ [b] := ⟨_, _, (List.dropLast_concat_getLast hne).symm⟩
      have BM := Lib.hid (LM.out b (by rw [hl0]; simp))
      have hm1 : l.length = l0.length + 1 := by rw [hl0]; simp
      have hsum : sumS T S l = sumS T S l0 + 1 + sumS T S (G b).kids := by
        rw [hl0]; unfold sumS; rw [List.flatMap_append, List.length_append]; simp [SC.out b BM.out]; omega
      have hsum2 : sumS T S (l0 ++ (G b).kids) = sumS T S l0 + sumS T S (G b).kids := by unfold sumS; rw [List.flatMap_append, List.length_append]
      have hk1 : (G b).kids.length ≤ sumS T S (G b).kids := by
        have : ∀ K : List Nat, (∀ x ∈ K, x ∈ bs) → K.length ≤ sumS T S K := by
          intro K hK
          induction K with
          | nil => simp [sumS]
          | cons x K ih => 
            have := ih (fun y hy => hK y (List.mem_cons_of_mem _ hy))
            unfold sumS at *
            rw [List.flatMap_cons, List.length_append, SC.out x (hK x (List.mem_cons_self ..)), List.length_cons, List.length_cons]; omega
        exact this _ (fun x hx => (H.out.flat.kid b BM.out x hx).1)
      have hk2 : l0.length ≤ sumS T S l0 := by
        have : ∀ K : List Nat, (∀ x ∈ K, x ∈ bs) → K.length ≤ sumS T S K := by
          intro K hK
          induction K with
          | nil => simp [sumS]
          | cons x K ih => 
            have := ih (fun y hy => hK y (List.mem_cons_of_mem _ hy))
            unfold sumS at *
            rw [List.flatMap_cons, List.length_append, SC.out x (hK x (List.mem_cons_self ..)), List.length_cons, List.length_cons]; omega
        exact this _ (fun x hx => LM.out x (by rw [hl0]; simp [hx]))
      obtain ⟨_, ⟨_, e0⟩ | ⟨gw, cw, csw, ew, hgw, hBw, hcw, hmw⟩⟩ := own_blk RW.out
      · omega
      cases ew
      have cl : wr.cell? ⟨gw, l0.length, none⟩ = some (.pointer (some ⟨b, 0, none⟩)) := hBw.cellAt (by rw [hl0]; simp [ptr])
      have c3 := (H.out.keep0 U.out).c3 BM.out
      have RC2 : Hid (NodesAt wr w.heap.size (.slice (some ⟨gw, 0, none⟩) l0.length c4) l0) := NodesAt.cut (n := l.length) (b := b) (by rw [← hl0]; exact RW.out) hm1
      have APP : Hid (∀ v, Upd (fun _ => False) wr v → ∀ ty, ∃ v' w', (Builtin.append_ #[75, 75] ty #[.slice (some ⟨gw, 0, none⟩) l0.length c4, row b]).run Try.prog v = .ok v' w' ∧ NodesAt w' w.heap.size v' (l0 ++ (G b).kids) ∧ Upd (fun k => (Value.slice (some ⟨gw, 0, none⟩) l0.length c4).ownBlock = some k) v w' ∧ NewOr (.slice (some ⟨gw, 0, none⟩) l0.length c4) v' v) := fun v u ty =>
        nodes_append v w.heap.size base ty _ (row b) l0 (G b).kids (own_keep RC2.out u (fun _ _ h => h)) ((H.out.keep0 (U.out.trans u (fun _ _ h => h))).own b BM.out) (by omega) (Nat.le_trans U.out.size u.size)
      have qa : (l0.length : Int) < (l.length : Int) := by omega
      have qb : (l.length : Int) - 1 = (l0.length : Int) := by omega
      have qc : IntKind.i64.wrap ((l.length : Int) - 1) = (l0.length : Int) := by rw [qb]; exact IntWalk.i64_in _ (by omega)
      have qc2 : IntKind.i64.wrap (l0.length : Int) = (l0.length : Int) := IntWalk.i64_in _ (by omega)
      have qd : (l.length : Int) ≤ 9223372036854775807 := by omega
      have qe : (0 : Int) < (l.length : Int) := by omega
      have qf : (l0.length : Int) ≤ (c4 : Int) := by omega
      have qg : IntKind.i64.wrap ((k : Int) + 1) = ((k + 1 : Nat) : Int) := by rw [IntWalk.i64_in _ (by omega)]; omega
      have HL := Lib.hid hl0
      have LM2 : Hid (∀ x ∈ l0 ++ (G b).kids, x ∈ bs) := fun x hx => (List.mem_append.1 hx).elim (fun h => LM.out x (by rw [HL.out]; simp [h])) (fun h => (H.out.flat.kid b BM.out x h).1)
      have hkn : k + 1 + sumS T S (l0 ++ (G b).kids) = nb := by omega
      have hln : (l0 ++ (G b).kids).length ≤ sumS T S (l0 ++ (G b).kids) := by rw [List.length_append]; omega
      have HWN : Hid (∀ q, (Value.slice (some ⟨gw, 0, none⟩) l0.length c4).ownBlock = some q → ¬ q < w.heap.size) := fun q hq e => Nat.lt_irrefl _ (Nat.lt_of_lt_of_le e (Nat.le_trans hgw (Nat.le_of_eq (Option.some.inj hq))))
      have qh : l0.length ≤ c4 := by omega
      clear hl0 hBw hne RW
      generalize l0.length = m at *
      generalize l.length = nl at *
      obtain ⟨v', w1, hr, hn, hu, _⟩ := APP.out wr.drew (Upd.refl _ _).drew 75
      have U1 : Hid (Upd (fun _ => False) w w1) := U.out.drew.trans hu (fun q hq e => HWN.out q e hq)
      have y3 := (H.out.keep0 U1.out).c3 BM.out
      have HN := Lib.hid hn
      obtain ⟨p', c', e', _⟩ := own_slice hn
      subst e'
      clear APP hn hu HWN RC2
      go_wp2
      go_region_held3 (fun w' => w'.cell? ⟨b, 3, none⟩ = some (row b)) (go_keep) (first
        | (refine step_builtin rfl _ _ 75 rfl _ _ rfl rfl hr ?_))
      go_wp2
      go_roundw
      case rel => exact ⟨k + 1, l0 ++ (G b).kids, by simp, by omega, by omega, LM2, by rw [← List.length_append]; exact HN, U1⟩
      case measure => simp [intOf]; omega
end
end Go.Proofs.Ytnlbmplbaalgmaa
