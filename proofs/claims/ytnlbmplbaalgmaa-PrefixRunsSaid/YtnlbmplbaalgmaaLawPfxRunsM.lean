/- PrefixRuns: the walk. -/
import Derived.Test.YtnlbmplbaalgmaaPfxFG
import Derived.Test.YtnlbmplbaalgmaaRefAll
import Derived.Test.YtnlbmplbaalgmaaRefD
set_option linter.unusedVariables false
set_option linter.unusedSimpArgs false
set_option linter.unusedSectionVars false
namespace Go.Proofs.Ytnlbmplbaalgmaa
open Go.RowKit

structure TwoP (w wr : World) (base pa pb : Nat) (P Q : Txt → Int → Prop) (N : Nat) : Prop where
  ex : ∃ Fa Fb, PAt wr base pa P N Fa ∧ PAt wr base pb Q N Fb ∧ (∀ k, Fa k → ¬ Fb k)
  upd : Upd (fun _ => False) w wr
  lo : w.heap.size ≤ base
  hsz : base ≤ wr.heap.size
section
variable {w wr w' : World} {base pa pb : Nat} {P Q P' Q' : Txt → Int → Prop} {N : Nat}
theorem TwoP.symm (h : TwoP w wr base pa pb P Q N) : TwoP w wr base pb pa Q P N := by
  obtain ⟨Ea, Eb, h1, h2, h3⟩ := h.ex
  exact ⟨⟨Eb, Ea, h2, h1, fun k hk hk2 => h3 k hk2 hk⟩, h.upd, h.lo, h.hsz⟩
theorem TwoP.keep0 (h : TwoP w wr base pa pb P Q N) (u : Upd (fun _ => False) wr w') : TwoP w w' base pa pb P Q N := by
  obtain ⟨Ea, Eb, h1, h2, h3⟩ := h.ex
  exact ⟨⟨Ea, Eb, h1.keep u (fun _ _ h => h), h2.keep u (fun _ _ h => h), h3⟩, h.upd.trans u (fun _ _ h => h), h.lo, Nat.le_trans h.hsz u.size⟩
theorem TwoP.congr (h : TwoP w wr base pa pb P Q N) (e1 : ∀ t i, P t i ↔ P' t i) (e2 : ∀ t i, Q t i ↔ Q' t i) : TwoP w wr base pa pb P' Q' N := by
  obtain ⟨Ea, Eb, h1, h2, h3⟩ := h.ex
  exact ⟨⟨Ea, Eb, h1.congr e1, h2.congr e2, h3⟩, h.upd, h.lo, h.hsz⟩
theorem TwoP.add (h : TwoP w wr base pa pb P Q N) (s : Txt) (id : Int) (hN : N ≤ 1000) (hs : s.length ≤ 9223372036854775807) :
    Calls Try.prog 30 #[.pointer (some ⟨pa, 0, none⟩), .string (ofL s), .int .i64 id] wr fun e w' => (∃ eb, e = .returned (.bool eb)) ∧
      TwoP w w' base pa pb (fun t i => P t i ∨ t = s ∧ i = id) Q (N + 1) := by
  obtain ⟨Ea, Eb, h1, h2, h3⟩ := h.ex
  refine (padd_any h1 s id hN hs).mono ?_
  rintro e w' ⟨he, F', h4, u, f⟩
  refine ⟨?_, ⟨F', Eb, h4, (h2.keep u (fun k hk e => h3 k e hk)).more (Nat.le_succ _), fun k hk hk2 => ?_⟩, h.upd.trans u (fun k hk e => by have := (h1.lt k e).1; have := h.lo; omega), h.lo, Nat.le_trans h.hsz u.size⟩
  · rcases he with ⟨rfl, _⟩ | ⟨rfl, _⟩ <;> exact ⟨_, rfl⟩
  · rcases f k hk with g | g
    · exact h3 k g hk2
    · have := (h2.lt k hk2).2; omega
/-- The same, behind a block that came just before. -/
theorem TwoP.addD (h : TwoP w wr base pa pb P Q N) (s : Txt) (id : Int) (hN : N ≤ 1000) (hs : s.length ≤ 9223372036854775807) (cs : List Value) (T : TypeId) (v : World) (uv : Upd (fun _ => False) (wr.alloc (.cells cs.toArray T)) v) :
    Calls Try.prog 30 #[.pointer (some ⟨pa, 0, none⟩), .string (ofL s), .int .i64 id] v fun e w' => (∃ eb, e = .returned (.bool eb)) ∧
      TwoP w w' base pa pb (fun t i => P t i ∨ t = s ∧ i = id) Q (N + 1) ∧ Blk w' wr.heap.size cs T := by
  obtain ⟨Ea, Eb, h1, h2, h3⟩ := h.ex
  have ua : Upd (fun _ => False) wr v := ((Upd.refl _ _).alloc _).trans uv (fun _ _ h => h)
  refine (padd_any (h1.keep ua (fun _ _ h => h)) s id hN hs).mono ?_
  rintro e w' ⟨he, F', h4, u, f⟩
  refine ⟨?_, ⟨⟨F', Eb, h4, ((h2.keep ua (fun _ _ h => h)).keep u (fun k hk e => h3 k e hk)).more (Nat.le_succ _), fun k hk hk2 => ?_⟩, (h.upd.trans ua (fun _ _ h => h)).trans u (fun k hk e => by have := (h1.lt k e).1; have := h.lo; omega), h.lo, Nat.le_trans h.hsz (Nat.le_trans ua.size u.size)⟩, u.blk (uv.blk (Blk.made wr cs T) (fun h => h)) (fun e => by have := (h1.lt _ e).2; omega)⟩
  · rcases he with ⟨rfl, _⟩ | ⟨rfl, _⟩ <;> exact ⟨_, rfl⟩
  · rcases f k hk with g | g
    · exact h3 k g hk2
    · have := (h2.lt k hk2).2; have := ua.size; omega
theorem TwoP.match_ (h : TwoP w wr base pa pb P Q N) (key : Txt) (hN : N ≤ 900) (hk : key.length ≤ 1000000) :
    Calls Try.prog 31 #[.pointer (some ⟨pa, 0, none⟩), .string (ofL key)] wr fun e w' => ∃ v l, e = .returned v ∧ IntsAt w' wr.heap.size v l ∧ Rising l ∧ (∀ id, id ∈ l ↔ ∃ t, t <+: key ∧ P t id) ∧ Upd (fun _ => False) wr w' := by
  obtain ⟨Ea, Eb, h1, h2, h3⟩ := h.ex
  exact pmatch_any h1 key hN hk
theorem TwoP.trees (h : TwoP w wr base pa pb P Q N) : (∃ xa L E, wr.cell? ⟨pa, 0, none⟩ = some (.pointer (some ⟨xa, 0, none⟩)) ∧ TreeAt wr base xa L E ∧ L.length ≤ N ∧ KeysOf P L) ∧
    (∃ xa L E, wr.cell? ⟨pb, 0, none⟩ = some (.pointer (some ⟨xa, 0, none⟩)) ∧ TreeAt wr base xa L E ∧ L.length ≤ N ∧ KeysOf Q L) := by
  obtain ⟨Ea, Eb, h1, h2, h3⟩ := h.ex
  exact ⟨h1.tree, h2.tree⟩
theorem cell_lt {w : World} {p : Addr} {v : Value} (h : w.cell? p = some v) : p.block < w.heap.size := by
  rcases Nat.lt_or_ge p.block w.heap.size with g | g
  · exact g
  · simp [World.cell?, Array.getElem?_eq_none g] at h
theorem TwoP.tree2 (h : TwoP w wr base pa pb P Q N) : ∃ xa xb La Lb Ea Eb, (∀ v, Upd (fun _ => False) wr v → v.cell? ⟨pa, 0, none⟩ = some (.pointer (some ⟨xa, 0, none⟩)) ∧ v.cell? ⟨pb, 0, none⟩ = some (.pointer (some ⟨xb, 0, none⟩))) ∧
    TreeAt wr base xa La Ea ∧ TreeAt wr base xb Lb Eb ∧ La.length ≤ N ∧ Lb.length ≤ N ∧ KeysOf P La ∧ KeysOf Q Lb := by
  obtain ⟨⟨xa, La, Ea, c1, t1, n1, k1⟩, ⟨xb, Lb, Eb, c2, t2, n2, k2⟩⟩ := h.trees
  exact ⟨xa, xb, La, Lb, Ea, Eb, fun v u => ⟨(u.cell (cell_lt c1) id).trans c1, (u.cell (cell_lt c2) id).trans c2⟩, t1, t2, n1, n2, k1, k2⟩
end
/-- The number of nodes, said ahead. -/
theorem nodes_num (w : World) (base xa : Nat) (L : List MarkP) (E : Nat → Prop) (h : TreeAt w base xa L E) (hL : L.length ≤ 100000) : ∃ n0 : Nat, (∀ n, NodesN L n → n = n0) := by
  by_cases hx : ∃ n, NodesN L n
  · obtain ⟨n0, h0⟩ := hx
    exact ⟨n0, fun n hn => hn.uniq h0⟩
  · exact ⟨0, fun n hn => absurd ⟨n, hn⟩ hx⟩
theorem pfx_append {t key : Txt} (more : Txt) (h : t <+: key) : t <+: key ++ more := h.trans (List.prefix_append _ _)
/-- Who is told of what, and the document's pairs beside it. -/
structure PrefS (w wr : World) (base pb : Nat) (v : Value) (L : List MarkP) (k : Nat) : Prop where
  ps : PSt wr base pb (fun b => v.ownBlock = some b) (fun t i => (t, i) ∈ L) k
  row : RowOf mkc 2 wr v L
  nd : L.Nodup
  len : L.length ≤ k
  keys : ∀ m ∈ L, m.1.length ≤ 100
  upd : Upd (fun _ => False) w wr
  lo : w.heap.size ≤ base
theorem drop_eq {L : List MarkP} {i : Int} {l : List Txt} (hn : L.Nodup) (hr : Rising l) (hm : ∀ t, t ∈ l ↔ (t, i) ∈ L) : l.length = (ofP i L).length := by
  have hn2 : ((ofP i L).map (·.1)).Nodup := by
    have := hn.filter (fun m => decide (m.2 = i))
    unfold ofP
    rw [List.nodup_iff_pairwise_ne, List.pairwise_map]
    refine (List.nodup_iff_pairwise_ne.1 this).imp_of_mem (fun {a b} ha hb hne he => hne (Prod.ext he ?_))
    have h1 := (List.mem_filter.1 ha).2
    have h2 := (List.mem_filter.1 hb).2
    simp at h1 h2; rw [h1, h2]
  have hp : l.Perm ((ofP i L).map (·.1)) := (List.perm_ext_iff_of_nodup (nodup_of_rising hr) hn2).2 (fun t => by
    rw [hm]
    unfold ofP
    simp only [List.mem_map, List.mem_filter, decide_eq_true_eq]
    constructor
    · intro h; exact ⟨(t, i), ⟨h, rfl⟩, rfl⟩
    · rintro ⟨m, ⟨h1, h2⟩, rfl⟩; rw [← h2]; exact h1)
  have := hp.length_eq
  simpa using this
theorem dropP_mem {L : List MarkP} {i : Int} {t : Txt} {j : Int} : (t, j) ∈ dropP i L ↔ (t, j) ∈ L ∧ j ≠ i := by
  unfold dropP; rw [List.mem_filter]; simp
theorem row_lt {α : Type} {f : α → List Value} {k : Nat} {w : World} {v : Value} {l : List α} (h : RowOf f k w v l) (hl : l ≠ []) {b : Nat} (hb : v.ownBlock = some b) : b < w.heap.size := by
  rcases h with ⟨_, _, _, e⟩ | ⟨b', off, cap, rfl, hlt, _⟩
  · exact absurd e hl
  · injection hb with e; simp at e; omega
set_option maxHeartbeats 32000000 in
set_option maxRecDepth 100000 in
theorem lawPfxRuns (v0 : Value) (l : List Act15) (key : Txt) (w : World) (r0 : RowOf act15c 3 w v0 l) (hk : key.length ≤ maxLen) :
    Calls Try.prog 8 #[v0, .string (ofL key)] w fun e w' => e = .returned (.bool true) ∧ Upd (fun _ => False) w w' := by
  obtain ⟨p0, k0, e0, hm0⟩ := r0.len
  subst e0
  have AL := Lib.hid (alive15_any w)
  have R0 := Lib.hid r0
  have asz := ofL_size key
  obtain ⟨sk, hsk⟩ : ∃ sk, sk = ofL key := ⟨_, rfl⟩
  rw [← hsk] at asz
  rw [← hsk]
  have SK := Lib.hid hsk
  clear r0 hsk
  unfold maxLen at hm0 hk
  go_enter Try.func8, Try.ntmps8
  go_wp2_with fail
  refine (AL.out).mono ?_
  rintro e w1 ⟨rfl, u1⟩
  have U1 := Lib.hid u1
  clear u1 AL
  by_cases hgr : 60 < l.length
  · have q0 : (60 : Int) < (l.length : Int) := by omega
    generalize l.length = nl at *
    generalize key.length = nk at *
    go_wp2
    go_ret
    exact ⟨rfl, U1.out⟩
  · have q0 : ¬ (60 : Int) < (l.length : Int) := by omega
    by_cases hgk : 100 < key.length
    · have qa : (100 : Int) < (key.length : Int) := by omega
      generalize l.length = nl at *
      generalize key.length = nk at *
      go_wp2
      go_ret
      exact ⟨rfl, U1.out⟩
    · have qa : ¬ (100 : Int) < (key.length : Int) := by omega
      have NW := Lib.hid (pnew_any w1 w1.heap.size (Nat.le_refl _))
      go_wp2_with fail
      refine (NW.out).mono ?_
      rintro e w2 ⟨pb, F, rfl, h2, u2, f2⟩
      obtain ⟨base, hbase⟩ : ∃ base, base = w1.heap.size := ⟨_, rfl⟩
      rw [← hbase] at h2
      have HB : Hid (w.heap.size ≤ base) := by rw [hbase]; exact U1.out.size
      have ua : Upd (fun _ => False) w2 (w2.alloc (.cells #[] 104)) := (Upd.refl _ _).alloc _
      have P0 : Hid (PrefS w (w2.alloc (.cells #[] 104)) base pb (.slice (some ⟨w2.heap.size, 0, none⟩) 0 0) [] 0) := by
        refine ⟨⟨⟨F, (h2.keep ua (fun _ _ h => h)).congr (fun t i => by simp), fun b hb e => ?_⟩, fun b hb => ?_, ?_⟩, ?_, by simp, by simp, by simp, (U1.out.trans u2 (fun _ _ h => h)).trans ua (fun _ _ h => h), HB.out⟩
        · have := (h2.lt b hb).2; injection e with e; simp at e; omega
        · injection hb with e; simp at e; rw [World.size_alloc]; omega
        · rw [hbase]; exact Nat.le_trans u2.size ua.size
        · exact (pairs_none w2).row
      clear h2 u2 f2 NW hbase ua
      go_wp2
      go_loopw [6, 28] (fun x6 x28 wr => ∃ (k : Nat) (L : List MarkP), x28 = .int .i64 (k : Int) ∧ k ≤ l.length ∧ Hid (PrefS w wr base pb x6 L k)) (fun _ x28 _ => l.length - (intOf x28).toNat)
      case atStart => exact ⟨0, [], rfl, Nat.zero_le _, P0⟩
      case round =>
        clear P0
        obtain ⟨k, L, rfl, hkl, PP⟩ := hrel
        obtain ⟨p6, c6, e6, hm6⟩ := PP.out.row.len
        subst e6
        have hLk := PP.out.len
        by_cases hlt : k < l.length
        · have q1 : (k : Int) < (l.length : Int) := by omega
          obtain ⟨b, off, a, ep, hb, hak, c0, c1, c2⟩ := act15_cells (R0.out.keep PP.out.upd (fun _ _ _ h => h)) hlt
          subst ep
          have tsz := ofL_size a.key
          obtain ⟨st, hst⟩ : ∃ st, st = ofL a.key := ⟨_, rfl⟩
          rw [← hst] at c2 tsz
          by_cases h30 : 100 < a.key.length
          · have q2 : (100 : Int) < (a.key.length : Int) := by omega
            have UR := Lib.hid PP.out.upd
            clear hst hak PP
            generalize l.length = nl at *
            generalize a.key.length = nt at *
            generalize key.length = nk at *
            go_wp2
            go_ret
            exact ⟨rfl, UR.out.alloc _⟩
          · have q2 : ¬ (100 : Int) < (a.key.length : Int) := by omega
            have ua : Upd (fun _ => False) wr (wr.alloc (.cells #[.int .i64 a.kind, .int .i64 a.id, .string st] 54)) := (Upd.refl _ _).alloc _
            have BXA := Lib.hid (Blk.made wr [.int .i64 a.kind, .int .i64 a.id, .string st] 54)
            have HST := Lib.hid hst
            have HAK := Lib.hid (ofL_append a.key key)
            have PSA := Lib.hid (PP.out.ps.keep0 ua)
            have ROWA := Lib.hid (PP.out.row.keep ua (fun _ _ _ h => h))
            have UA := Lib.hid (PP.out.upd.trans ua (fun _ _ h => h))
            have hDb := PP.out.ps.bl
            have AD := add15_any _ L a.key a.id _ ROWA.out (by omega)
            have DP := drop15_any _ L a.id _ ROWA.out (by omega)
            rw [← hst] at AD
            have AD := Lib.hid AD
            have DP := Lib.hid DP
            have HUA := Lib.hid ua
            have hAs : (wr.alloc (.cells #[.int .i64 a.kind, .int .i64 a.id, .string st] 54)).heap.size = wr.heap.size + 1 := by rw [World.size_alloc]
            have HAS := Lib.hid hAs
            clear hst hak ua hAs
            generalize a.kind = kd at *
            by_cases hkd : kd = 0
            · subst hkd
              obtain ⟨fr, hfr⟩ : ∃ fr, fr = !decide ((a.key, a.id) ∈ L) := ⟨_, rfl⟩
              rw [← hfr] at AD
              have FR := Lib.hid hfr
              clear hfr DP
              go_wp2_with fail
              refine (AD.out).mono ?_
              rintro e w4 ⟨v4, rfl, r4, o4, u4⟩
              have hne : addP L a.key a.id ≠ [] := fun e => by
                have : (a.key, a.id) ∈ addP L a.key a.id := addP_mem.2 (Or.inr ⟨rfl, rfl⟩)
                rw [e] at this; simp at this
              have hlt4 := fun b => row_lt r4 hne (b := b)
              have PS4 : Hid (PSt w4 base pb (fun b => v4.ownBlock = some b ∨ b = wr.heap.size) (fun t i => (t, i) ∈ L) k) := PP.out.ps.also (HUA.out.trans u4 (fun _ _ h => h)) (fun b hb => by
                have hs := HAS.out
                have hz := u4.size
                rcases hb with hb | rfl
                · rcases o4 b hb with g | g
                  · exact Or.inl g
                  · exact Or.inr ⟨by omega, hlt4 b hb⟩
                · exact Or.inr ⟨by omega, by omega⟩)
              have NDP2 : Hid (addP L a.key a.id).Nodup := addP_nodup PP.out.nd
              have hL2 : (addP L a.key a.id).length ≤ k + 1 := Nat.le_trans addP_len (by omega)
              have KEY2 : Hid (∀ m ∈ addP L a.key a.id, m.1.length ≤ 100) := fun m hm => by
                rcases (addP_mem (s := m.1) (j := m.2)).1 hm with g | ⟨g, _⟩
                · exact PP.out.keys m g
                · rw [g]; omega
              have U4 := Lib.hid (UA.out.trans u4 (fun _ _ h => h))
              have BX4 := Lib.hid (u4.blk BXA.out (fun h => h))
              have x1 := BX4.out.cellAt (i := 1) (v := .int .i64 a.id) rfl
              have x2 := BX4.out.cellAt (i := 2) (v := .string st) rfl
              have PA := PS4.out.add a.key a.id (by omega) (by omega)
              rw [← HST.out] at PA
              have PA : Hid (Calls Try.prog 30 #[.pointer (some ⟨pb, 0, none⟩), .string st, .int .i64 a.id] w4 fun e w' => e = .returned (.bool fr) ∧ PSt w' base pb (fun b => v4.ownBlock = some b ∨ b = wr.heap.size) (fun t i => (t, i) ∈ L ∨ t = a.key ∧ i = a.id) (k + 1) ∧ Upd (Fr base (fun b => v4.ownBlock = some b ∨ b = wr.heap.size)) w4 w') := by
                refine PA.mono ?_
                rintro e w' ⟨he, h2, h3⟩
                refine ⟨?_, h2, h3⟩
                rw [FR.out]
                rcases he with ⟨rfl, g⟩ | ⟨rfl, g⟩
                · rw [decide_eq_true g]; rfl
                · rw [decide_eq_false g]; rfl
              have R4 := Lib.hid r4
              obtain ⟨p4, c4, e4, hm4⟩ := r4.len
              subst e4
              have MEM : Hid (∀ t i, ((t, i) ∈ L ∨ t = a.key ∧ i = a.id) ↔ (t, i) ∈ addP L a.key a.id) := fun t i => addP_mem.symm
              clear r4 o4 u4 hlt4 hne AD ROWA PSA
              generalize addP L a.key a.id = L2 at *
              go_wp2_with fail
              refine (PA.out).mono ?_
              rintro e w5 ⟨rfl, ps5, u5⟩
              have PS5 : Hid (PSt w5 base pb (fun b => (Value.slice p4 L2.length c4).ownBlock = some b ∨ b = wr.heap.size) (fun t i => (t, i) ∈ L2) (k + 1)) := ps5.congr MEM.out
              have BX5 : Hid (Blk w5 wr.heap.size [.int .i64 0, .int .i64 a.id, .string st] 54) := u5.blk BX4.out (fun e => e.2 (Or.inr rfl))
              have R5 : Hid (RowOf mkc 2 w5 (.slice p4 L2.length c4) L2) := R4.out.keep u5 (fun b _ hb e => e.2 (Or.inl hb))
              have U5 : Hid (Upd (fun _ => False) w w5) := U4.out.trans u5 (fun b hb e => by have := e.1; have := HB.out; omega)
              clear ps5 u5 PA BX4 R4 PS4 U4 UA HUA BXA HAS c0 c1 c2
              generalize wr.heap.size = ab at *
              have TR := Lib.hid (tree15_any _ L2 w5 R5.out (by omega))
              go_wp2_with fail
              refine (TR.out).mono ?_
              rintro e w6 ⟨v6, M, rfl, hM, hMl, hKM, u6⟩
              have R6 := Lib.hid (R5.out.keep u6 (fun _ _ _ h => h))
              have PS6 := Lib.hid (PS5.out.keep0 u6)
              have BX6 : Hid (Blk w6 ab [.int .i64 0, .int .i64 a.id, .string st] 54) := u6.blk BX5.out (fun h => h)
              have U6 := Lib.hid (U5.out.trans u6 (fun _ _ h => h))
              have HM := Lib.hid hM
              obtain ⟨pm, cm, evm, _⟩ := own_slice hM
              subst evm
              obtain ⟨xb, Lb, Eb, cb, tb, nb, kb⟩ := PS6.out.tree
              have emap := kb.len hKM
              have elen : Lb.length = M.length := by have := congrArg List.length emap; simpa using this
              obtain ⟨n0, hn0⟩ := nodes_num w6 _ xb Lb Eb tb (by omega)
              have KM : Hid (∀ m ∈ M, m.1.length ≤ 1000000) := fun m hm => by
                obtain ⟨i, hi⟩ := (hKM.2 m.1).1 ⟨m.2, hm⟩
                have := KEY2.out _ hi
                exact Nat.le_trans this (by omega)
              have LE : Hid (∀ v, Upd (fun _ => False) w6 v → Calls Try.prog 17 #[.pointer (some ⟨xb, 0, none⟩)] v fun e w' => e = .returned (.int .i64 (M.length : Int)) ∧ Upd (fun _ => False) w6 w') := by
                intro v u
                refine (radLen_any v _ xb Lb Eb (tb.keep0 u)).mono ?_
                rintro e w' ⟨rfl, rfl⟩
                exact ⟨by rw [elen], u⟩
              have ND : Hid (∀ v, Upd (fun _ => False) w6 v → Calls Try.prog 16 #[.pointer (some ⟨xb, 0, none⟩)] v fun e w' => e = .returned (.int .i64 (n0 : Int)) ∧ Upd (fun _ => False) w6 w') := by
                intro v u
                refine (radNodes_any v _ xb Lb Eb (tb.keep0 u) (by omega)).mono ?_
                rintro e w' ⟨n, rfl, hn, _, u2⟩
                exact ⟨by rw [hn0 n hn], u.trans u2 (fun _ _ h => h)⟩
              have RN : Hid (∀ v, Upd (fun _ => False) w6 v → Calls Try.prog 24 #[.slice pm M.length cm] v fun e w' => e = .returned (.int .i64 (n0 : Int)) ∧ Upd (fun _ => False) w6 w') := by
                intro v u
                refine (rnodes_any _ M v w5.heap.size (HM.out.keep u (fun _ _ h => h)) (by omega) KM.out).mono ?_
                rintro e w' ⟨n, rfl, hn, u2⟩
                exact ⟨by rw [hn0 n (KeysOf.nodes emap.symm hn)], u.trans u2 (fun _ _ h => h)⟩
              have MAK : Hid (∀ (q : Txt) (hq : q.length ≤ 1000000), ∃ l0 : List Int, (∀ v, Upd (fun _ => False) w6 v → Calls Try.prog 31 #[.pointer (some ⟨pb, 0, none⟩), .string (ofL q)] v fun e w' => ∃ v3, e = .returned v3 ∧ RowOf intc 1 w' v3 l0 ∧ Upd (fun _ => False) v w') ∧
                  (∀ v, Upd (fun _ => False) w6 v → Calls Try.prog 37 #[.slice p4 L2.length c4, .string (ofL q)] v fun e w' => ∃ v3, e = .returned v3 ∧ RowOf intc 1 w' v3 l0 ∧ Upd (fun _ => False) v w')) := by
                intro q hq
                by_cases hx : ∃ l0 : List Int, Rising l0 ∧ ∀ id, id ∈ l0 ↔ ∃ t, t <+: q ∧ (t, id) ∈ L2
                · obtain ⟨l0, hr0, hm0⟩ := hx
                  refine ⟨l0, fun v u => ?_, fun v u => ?_⟩
                  · refine ((PS6.out.keep0 u).match_ q (by omega) hq).mono ?_
                    rintro e w' ⟨v3, l3, rfl, i3, r3, m3, u3⟩
                    have el : l3 = l0 := rising_ext r3 hr0 (fun y => (m3 y).trans (hm0 y).symm)
                    subst el
                    exact ⟨v3, rfl, i3.row, u3⟩
                  · refine (match15_any _ L2 q v (R6.out.keep u (fun _ _ _ h => h)) (by omega)).mono ?_
                    rintro e w' ⟨v3, l3, rfl, i3, r3, m3, u3⟩
                    have el : l3 = l0 := rising_ext r3 hr0 (fun y => (m3 y).trans (hm0 y).symm)
                    subst el
                    exact ⟨v3, rfl, i3.row, u3⟩
                · refine ⟨[], fun v u => ?_, fun v u => ?_⟩
                  · refine ((PS6.out.keep0 u).match_ q (by omega) hq).mono ?_
                    rintro e w' ⟨v3, l3, rfl, i3, r3, m3, u3⟩
                    exact absurd ⟨l3, r3, m3⟩ hx
                  · refine (match15_any _ L2 q v (R6.out.keep u (fun _ _ _ h => h)) (by omega)).mono ?_
                    rintro e w' ⟨v3, l3, rfl, i3, r3, m3, u3⟩
                    exact absurd ⟨l3, r3, m3⟩ hx
              have OFK : Hid (∃ l0 : List ByteArray, (∀ v, Upd (fun _ => False) w6 v → Calls Try.prog 39 #[.pointer (some ⟨pb, 0, none⟩), .int .i64 a.id] v fun e w' => ∃ v3, e = .returned v3 ∧ RowOf strc 1 w' v3 l0 ∧ Upd (fun _ => False) v w') ∧
                  (∀ v, Upd (fun _ => False) w6 v → Calls Try.prog 40 #[.slice p4 L2.length c4, .int .i64 a.id] v fun e w' => ∃ v3, e = .returned v3 ∧ RowOf strc 1 w' v3 l0 ∧ Upd (fun _ => False) v w')) := by
                by_cases hx : ∃ l0 : List Txt, Rising l0 ∧ ∀ t, t ∈ l0 ↔ (t, a.id) ∈ L2
                · obtain ⟨l0, hr0, hm0⟩ := hx
                  refine ⟨l0.map ofL, fun v u => ?_, fun v u => ?_⟩
                  · refine ((PS6.out.keep0 u).of a.id (by omega)).mono ?_
                    rintro e w' ⟨v3, l3, rfl, i3, r3, m3, u3⟩
                    have el : l3 = l0 := rising_ext r3 hr0 (fun y => (m3 y).trans (hm0 y).symm)
                    subst el
                    exact ⟨v3, rfl, (TxtsAt.strs.1 i3).row, u3⟩
                  · refine (of15_any _ L2 a.id v (R6.out.keep u (fun _ _ _ h => h)) NDP2.out (by omega)).mono ?_
                    rintro e w' ⟨v3, l3, rfl, i3, r3, m3, u3⟩
                    have el : l3 = l0 := rising_ext r3 hr0 (fun y => (m3 y).trans (hm0 y).symm)
                    subst el
                    exact ⟨v3, rfl, (TxtsAt.strs.1 i3).row, u3⟩
                · refine ⟨[], fun v u => ?_, fun v u => ?_⟩
                  · refine ((PS6.out.keep0 u).of a.id (by omega)).mono ?_
                    rintro e w' ⟨v3, l3, rfl, i3, r3, m3, u3⟩
                    exact absurd ⟨l3, r3, m3⟩ hx
                  · refine (of15_any _ L2 a.id v (R6.out.keep u (fun _ _ _ h => h)) NDP2.out (by omega)).mono ?_
                    rintro e w' ⟨v3, l3, rfl, i3, r3, m3, u3⟩
                    exact absurd ⟨l3, r3, m3⟩ hx
              obtain ⟨l1, ma, mb⟩ := MAK.out key (by omega)
              obtain ⟨l2, mc, md⟩ := MAK.out (a.key ++ key) (by rw [List.length_append]; omega)
              obtain ⟨l3, oa, ob⟩ := OFK.out
              rw [← SK.out] at ma mb
              rw [← HAK.out, ← SK.out, ← HST.out] at mc md
              have MA := Lib.hid ma
              have MB := Lib.hid mb
              have MC := Lib.hid mc
              have MD := Lib.hid md
              have OA := Lib.hid oa
              have OB := Lib.hid ob
              have S1 : Hid (∀ v3 v4 v, RowOf intc 1 v v3 l1 → RowOf intc 1 v v4 l1 → Calls Try.prog 32 #[v3, v4] v fun e w' => e = .returned (.bool true) ∧ Upd (fun _ => False) v w') := by
                intro v3 v4 v r r2
                refine (same14_any v3 v4 l1 l1 v r r2).mono ?_
                rintro e w' ⟨rfl, n, rfl⟩
                exact ⟨by rw [decide_eq_true rfl], (Upd.refl _ _).drewN n⟩
              have S2 : Hid (∀ v3 v4 v, RowOf strc 1 v v3 l3 → RowOf strc 1 v v4 l3 → Calls Try.prog 38 #[v3, v4] v fun e w' => e = .returned (.bool true) ∧ Upd (fun _ => False) v w') := by
                intro v3 v4 v r r2
                refine (same06_any v3 v4 l3 l3 v r r2).mono ?_
                rintro e w' ⟨rfl, n, rfl⟩
                exact ⟨by rw [decide_eq_true rfl], (Upd.refl _ _).drewN n⟩
              have S3 : Hid (∀ v3 v4 v, RowOf intc 1 v v3 l2 → RowOf intc 1 v v4 l2 → Calls Try.prog 32 #[v3, v4] v fun e w' => e = .returned (.bool true) ∧ Upd (fun _ => False) v w') := by
                intro v3 v4 v r r2
                refine (same14_any v3 v4 l2 l2 v r r2).mono ?_
                rintro e w' ⟨rfl, n, rfl⟩
                exact ⟨by rw [decide_eq_true rfl], (Upd.refl _ _).drewN n⟩
              have PS : Hid (∀ v, Upd (fun _ => False) w6 v → v.cell? ⟨pb, 0, none⟩ = some (.pointer (some ⟨xb, 0, none⟩)) ∧ v.cell? ⟨ab, 1, none⟩ = some (.int .i64 a.id) ∧ v.cell? ⟨ab, 2, none⟩ = some (.string st)) := fun v u =>
                ⟨(u.cell (cell_lt cb) id).trans cb, (u.blk BX6.out (fun h => h)).cellAt (i := 1) (v := .int .i64 a.id) rfl, (u.blk BX6.out (fun h => h)).cellAt (i := 2) (v := .string st) rfl⟩
              obtain ⟨y0, y1, y2⟩ := PS.out w6 (Upd.refl _ _)
              have sv := fun w : World => run_string_add_sum (P := Try.prog) w st sk (by omega)
              clear ma mb mc md oa ob MAK OFK hM hMl hKM u6 tb nb kb emap elen hn0 cb KM HM BX5 PS5 R5 U5 x1 x2
              generalize hnm : M.length = nm at *
              go_wp2_with fail
              refine wp_region_held_drew (S := (fun w' => w'.cell? ⟨pb, 0, none⟩ = some (.pointer (some ⟨xb, 0, none⟩)) ∧ w'.cell? ⟨ab, 1, none⟩ = some (.int .i64 a.id) ∧ w'.cell? ⟨ab, 2, none⟩ = some (.string st))) (by kernel_rfl) ?_ (fun hHeld => ?_)
              · (try dsimp only); go_keep
              try simp only [Array.replicate, Act.put, List.setIfInBounds_toArray]
              refine' wpAnyH_take (i := 0) (oi := _) (v := _) ?hiRA1 (by kernel_rfl) (by kernel_rfl) (by kernel_rfl) ?hQRA1 ?hyRA1 (by assumption) ?restRA1
              case' hiRA1 => (first | (simp only [List.getElem?_toArray, List.getElem?_cons_succ, List.getElem?_cons_zero]; done) | (simp only [List.getElem?_toArray, List.getElem?_cons_succ, List.getElem?_cons_zero]; rfl))
              case' hQRA1 => exact fun _ _ _ h => h
              case' hyRA1 => refine Or.inl ⟨by rfl, ?_⟩
              (intro w hSw; (try dsimp only at hSw); go_simp; try with_reducible rfl)
              try simp only [Act.put, List.setIfInBounds_toArray, List.set_cons_zero, List.set_cons_succ]
              refine' wpAnyH_take (i := 1) (oi := _) (v := _) ?hiRA2 (by kernel_rfl) (by kernel_rfl) (by kernel_rfl) ?hQRA2 ?hyRA2 (by assumption) ?restRA2
              case' hiRA2 => (first | (simp only [List.getElem?_toArray, List.getElem?_cons_succ, List.getElem?_cons_zero]; done) | (simp only [List.getElem?_toArray, List.getElem?_cons_succ, List.getElem?_cons_zero]; rfl))
              case' hQRA2 => exact fun _ _ _ h => h
              case' hyRA2 => refine Or.inl ⟨by rfl, ?_⟩
              (intro w hSw; (try dsimp only at hSw); go_simp; try with_reducible rfl)
              try simp only [Act.put, List.setIfInBounds_toArray, List.set_cons_zero, List.set_cons_succ]
              refine' wpAnyH_take (i := 2) (oi := _) (v := _) ?hiRA3 (by kernel_rfl) (by kernel_rfl) (by kernel_rfl) ?hQRA3 ?hyRA3 (by assumption) ?restRA3
              case' hiRA3 => (first | (simp only [List.getElem?_toArray, List.getElem?_cons_succ, List.getElem?_cons_zero]; done) | (simp only [List.getElem?_toArray, List.getElem?_cons_succ, List.getElem?_cons_zero]; rfl))
              case' hQRA3 => exact fun _ _ _ h => h
              case' hyRA3 => refine Or.inl ⟨by rfl, ?_⟩
              (intro w hSw; (try dsimp only at hSw); go_simp; try with_reducible rfl)
              try simp only [Act.put, List.setIfInBounds_toArray, List.set_cons_zero, List.set_cons_succ]
              refine' wpAnyH_take (i := 3) (oi := _) (v := _) ?hiRA4 (by kernel_rfl) (by kernel_rfl) (by kernel_rfl) ?hQRA4 ?hyRA4 (by assumption) ?restRA4
              case' hiRA4 => (first | (simp only [List.getElem?_toArray, List.getElem?_cons_succ, List.getElem?_cons_zero]; done) | (simp only [List.getElem?_toArray, List.getElem?_cons_succ, List.getElem?_cons_zero]; rfl))
              case' hQRA4 => exact fun _ _ _ h => h
              case' hyRA4 => refine Or.inl ⟨by rfl, ?_⟩
              (intro w hSw; (try dsimp only at hSw); go_simp; try with_reducible rfl)
              try simp only [Act.put, List.setIfInBounds_toArray, List.set_cons_zero, List.set_cons_succ]
              refine' wpAnyH_take (i := 5) (oi := _) (v := _) ?hiRA5 (by kernel_rfl) (by kernel_rfl) (by kernel_rfl) ?hQRA5 ?hyRA5 (by assumption) ?restRA5
              case' hiRA5 => (first | (simp only [List.getElem?_toArray, List.getElem?_cons_succ, List.getElem?_cons_zero]; done) | (simp only [List.getElem?_toArray, List.getElem?_cons_succ, List.getElem?_cons_zero]; rfl))
              case' hQRA5 => exact fun _ _ _ h => h
              case' hyRA5 => refine Or.inl ⟨by rfl, ?_⟩
              (intro w hSw; (try dsimp only at hSw); go_simp; try with_reducible rfl)
              try simp only [Act.put, List.setIfInBounds_toArray, List.set_cons_zero, List.set_cons_succ]
              refine' wpAnyH_take (i := 6) (oi := _) (v := _) ?hiRA6 (by kernel_rfl) (by kernel_rfl) (by kernel_rfl) ?hQRA6 ?hyRA6 (by assumption) ?restRA6
              case' hiRA6 => (first | (simp only [List.getElem?_toArray, List.getElem?_cons_succ, List.getElem?_cons_zero]; done) | (simp only [List.getElem?_toArray, List.getElem?_cons_succ, List.getElem?_cons_zero]; rfl))
              case' hQRA6 => exact fun _ _ _ h => h
              case' hyRA6 => refine Or.inl ⟨by rfl, ?_⟩
              (intro w hSw; (try dsimp only at hSw); go_simp; try with_reducible rfl)
              try simp only [Act.put, List.setIfInBounds_toArray, List.set_cons_zero, List.set_cons_succ]
              refine wpAnyH_ready (rs := [4]) (by kernel_rfl) (by simp) ?_
              refine' AllReadyH.cons (o := _) ?hiRA7 (fun K hK => ?hKRA7) AllReadyH.nil
              case' hiRA7 => (first | (simp only [List.getElem?_toArray, List.getElem?_cons_succ, List.getElem?_cons_zero]; done) | (simp only [List.getElem?_toArray, List.getElem?_cons_succ, List.getElem?_cons_zero]; rfl))
              go_simp
              (go_at_call 17; refine (LE.out _ (by first | exact Upd.refl _ _ | exact (Upd.refl _ _).drew)).mono ?_; rintro e w7 ⟨rfl, u7⟩; (have y7 := PS.out _ u7))
              refine hK.out _ _ ?_ (fun hHeld => ?_)
              · (try dsimp only); go_keep
              clear hK K
              try simp only [Act.put, List.setIfInBounds_toArray, List.set_cons_zero, List.set_cons_succ]
              refine' wpAnyH_take (i := 7) (oi := _) (v := _) ?hiRA8 (by kernel_rfl) (by kernel_rfl) (by kernel_rfl) ?hQRA8 ?hyRA8 (by assumption) ?restRA8
              case' hiRA8 => (first | (simp only [List.getElem?_toArray, List.getElem?_cons_succ, List.getElem?_cons_zero]; done) | (simp only [List.getElem?_toArray, List.getElem?_cons_succ, List.getElem?_cons_zero]; rfl))
              case' hQRA8 => exact fun _ _ _ h => h
              case' hyRA8 => refine Or.inl ⟨by rfl, ?_⟩
              (intro w hSw; (try dsimp only at hSw); go_simp; try with_reducible rfl)
              try simp only [Act.put, List.setIfInBounds_toArray, List.set_cons_zero, List.set_cons_succ]
              refine' wpAnyH_take (i := 8) (oi := _) (v := _) ?hiRA9 (by kernel_rfl) (by kernel_rfl) (by kernel_rfl) ?hQRA9 ?hyRA9 (by assumption) ?restRA9
              case' hiRA9 => (first | (simp only [List.getElem?_toArray, List.getElem?_cons_succ, List.getElem?_cons_zero]; done) | (simp only [List.getElem?_toArray, List.getElem?_cons_succ, List.getElem?_cons_zero]; rfl))
              case' hQRA9 => exact fun _ _ _ h => h
              case' hyRA9 => refine Or.inl ⟨by rfl, ?_⟩
              (intro w hSw; (try dsimp only at hSw); go_simp; try with_reducible rfl)
              try simp only [Act.put, List.setIfInBounds_toArray, List.set_cons_zero, List.set_cons_succ]
              refine' wpAnyH_take (i := 9) (oi := _) (v := _) ?hiRA10 (by kernel_rfl) (by kernel_rfl) (by kernel_rfl) ?hQRA10 ?hyRA10 (by assumption) ?restRA10
              case' hiRA10 => (first | (simp only [List.getElem?_toArray, List.getElem?_cons_succ, List.getElem?_cons_zero]; done) | (simp only [List.getElem?_toArray, List.getElem?_cons_succ, List.getElem?_cons_zero]; rfl))
              case' hQRA10 => exact fun _ _ _ h => h
              case' hyRA10 => refine Or.inl ⟨by rfl, ?_⟩
              (intro w hSw; (try dsimp only at hSw); go_simp; try with_reducible rfl)
              try simp only [Act.put, List.setIfInBounds_toArray, List.set_cons_zero, List.set_cons_succ]
              refine' wpAnyH_take (i := 10) (oi := _) (v := _) ?hiRA11 (by kernel_rfl) (by kernel_rfl) (by kernel_rfl) ?hQRA11 ?hyRA11 (by assumption) ?restRA11
              case' hiRA11 => (first | (simp only [List.getElem?_toArray, List.getElem?_cons_succ, List.getElem?_cons_zero]; done) | (simp only [List.getElem?_toArray, List.getElem?_cons_succ, List.getElem?_cons_zero]; rfl))
              case' hQRA11 => exact fun _ _ _ h => h
              case' hyRA11 => refine Or.inl ⟨by rfl, ?_⟩
              (intro w hSw; (try dsimp only at hSw); go_simp; try with_reducible rfl)
              try simp only [Act.put, List.setIfInBounds_toArray, List.set_cons_zero, List.set_cons_succ]
              refine' wpAnyH_take (i := 11) (oi := _) (v := _) ?hiRA12 (by kernel_rfl) (by kernel_rfl) (by kernel_rfl) ?hQRA12 ?hyRA12 (by assumption) ?restRA12
              case' hiRA12 => (first | (simp only [List.getElem?_toArray, List.getElem?_cons_succ, List.getElem?_cons_zero]; done) | (simp only [List.getElem?_toArray, List.getElem?_cons_succ, List.getElem?_cons_zero]; rfl))
              case' hQRA12 => exact fun _ _ _ h => h
              case' hyRA12 => refine Or.inl ⟨by rfl, ?_⟩
              (intro w hSw; (try dsimp only at hSw); go_simp; try with_reducible rfl)
              try simp only [Act.put, List.setIfInBounds_toArray, List.set_cons_zero, List.set_cons_succ]
              refine' wpAnyH_take (i := 12) (oi := _) (v := _) ?hiRA13 (by kernel_rfl) (by kernel_rfl) (by kernel_rfl) ?hQRA13 ?hyRA13 (by assumption) ?restRA13
              case' hiRA13 => (first | (simp only [List.getElem?_toArray, List.getElem?_cons_succ, List.getElem?_cons_zero]; done) | (simp only [List.getElem?_toArray, List.getElem?_cons_succ, List.getElem?_cons_zero]; rfl))
              case' hQRA13 => exact fun _ _ _ h => h
              case' hyRA13 => refine Or.inl ⟨by rfl, ?_⟩
              (intro w hSw; (try dsimp only at hSw); go_simp; try with_reducible rfl)
              try simp only [Act.put, List.setIfInBounds_toArray, List.set_cons_zero, List.set_cons_succ]
              refine' wpAnyH_take (i := 14) (oi := _) (v := _) ?hiRA14 (by kernel_rfl) (by kernel_rfl) (by kernel_rfl) ?hQRA14 ?hyRA14 (by assumption) ?restRA14
              case' hiRA14 => (first | (simp only [List.getElem?_toArray, List.getElem?_cons_succ, List.getElem?_cons_zero]; done) | (simp only [List.getElem?_toArray, List.getElem?_cons_succ, List.getElem?_cons_zero]; rfl))
              case' hQRA14 => exact fun _ _ _ h => h
              case' hyRA14 => refine Or.inl ⟨by rfl, ?_⟩
              (intro w hSw; (try dsimp only at hSw); go_simp; try with_reducible rfl)
              try simp only [Act.put, List.setIfInBounds_toArray, List.set_cons_zero, List.set_cons_succ]
              refine wpAnyH_ready (rs := [13]) (by kernel_rfl) (by simp) ?_
              refine' AllReadyH.cons (o := _) ?hiRA15 (fun K hK => ?hKRA15) AllReadyH.nil
              case' hiRA15 => (first | (simp only [List.getElem?_toArray, List.getElem?_cons_succ, List.getElem?_cons_zero]; done) | (simp only [List.getElem?_toArray, List.getElem?_cons_succ, List.getElem?_cons_zero]; rfl))
              go_simp
              (go_at_call 16; refine (ND.out w7 u7).mono ?_; rintro e w8 ⟨rfl, u8⟩; (have y8 := PS.out _ u8))
              refine hK.out _ _ ?_ (fun hHeld => ?_)
              · (try dsimp only); go_keep
              clear hK K
              try simp only [Act.put, List.setIfInBounds_toArray, List.set_cons_zero, List.set_cons_succ]
              refine wpAnyH_ready (rs := [15]) (by kernel_rfl) (by simp) ?_
              refine' AllReadyH.cons (o := _) ?hiRA16 (fun K hK => ?hKRA16) AllReadyH.nil
              case' hiRA16 => (first | (simp only [List.getElem?_toArray, List.getElem?_cons_succ, List.getElem?_cons_zero]; done) | (simp only [List.getElem?_toArray, List.getElem?_cons_succ, List.getElem?_cons_zero]; rfl))
              go_simp
              (go_at_call 24; refine (RN.out w8 u8).mono ?_; rintro e w9 ⟨rfl, u9⟩; (have y9 := PS.out _ u9))
              refine hK.out _ _ ?_ (fun hHeld => ?_)
              · (try dsimp only); go_keep
              clear hK K
              try simp only [Act.put, List.setIfInBounds_toArray, List.set_cons_zero, List.set_cons_succ]
              refine' wpAnyH_take (i := 16) (oi := _) (v := _) ?hiRA17 (by kernel_rfl) (by kernel_rfl) (by kernel_rfl) ?hQRA17 ?hyRA17 (by assumption) ?restRA17
              case' hiRA17 => (first | (simp only [List.getElem?_toArray, List.getElem?_cons_succ, List.getElem?_cons_zero]; done) | (simp only [List.getElem?_toArray, List.getElem?_cons_succ, List.getElem?_cons_zero]; rfl))
              case' hQRA17 => exact fun _ _ _ h => h
              case' hyRA17 => refine Or.inl ⟨by rfl, ?_⟩
              (intro w hSw; (try dsimp only at hSw); go_simp; try with_reducible rfl)
              try simp only [Act.put, List.setIfInBounds_toArray, List.set_cons_zero, List.set_cons_succ]
              refine' wpAnyH_take (i := 17) (oi := _) (v := _) ?hiRA18 (by kernel_rfl) (by kernel_rfl) (by kernel_rfl) ?hQRA18 ?hyRA18 (by assumption) ?restRA18
              case' hiRA18 => (first | (simp only [List.getElem?_toArray, List.getElem?_cons_succ, List.getElem?_cons_zero]; done) | (simp only [List.getElem?_toArray, List.getElem?_cons_succ, List.getElem?_cons_zero]; rfl))
              case' hQRA18 => exact fun _ _ _ h => h
              case' hyRA18 => refine Or.inl ⟨by rfl, ?_⟩
              (intro w hSw; (try dsimp only at hSw); go_simp; try with_reducible rfl)
              try simp only [Act.put, List.setIfInBounds_toArray, List.set_cons_zero, List.set_cons_succ]
              refine' wpAnyH_take (i := 18) (oi := _) (v := _) ?hiRA19 (by kernel_rfl) (by kernel_rfl) (by kernel_rfl) ?hQRA19 ?hyRA19 (by assumption) ?restRA19
              case' hiRA19 => (first | (simp only [List.getElem?_toArray, List.getElem?_cons_succ, List.getElem?_cons_zero]; done) | (simp only [List.getElem?_toArray, List.getElem?_cons_succ, List.getElem?_cons_zero]; rfl))
              case' hQRA19 => exact fun _ _ _ h => h
              case' hyRA19 => refine Or.inl ⟨by rfl, ?_⟩
              (intro w hSw; (try dsimp only at hSw); go_simp; try with_reducible rfl)
              try simp only [Act.put, List.setIfInBounds_toArray, List.set_cons_zero, List.set_cons_succ]
              refine' wpAnyH_take (i := 19) (oi := _) (v := _) ?hiRA20 (by kernel_rfl) (by kernel_rfl) (by kernel_rfl) ?hQRA20 ?hyRA20 (by assumption) ?restRA20
              case' hiRA20 => (first | (simp only [List.getElem?_toArray, List.getElem?_cons_succ, List.getElem?_cons_zero]; done) | (simp only [List.getElem?_toArray, List.getElem?_cons_succ, List.getElem?_cons_zero]; rfl))
              case' hQRA20 => exact fun _ _ _ h => h
              case' hyRA20 => refine Or.inl ⟨by rfl, ?_⟩
              (intro w hSw; (try dsimp only at hSw); go_simp; try with_reducible rfl)
              try simp only [Act.put, List.setIfInBounds_toArray, List.set_cons_zero, List.set_cons_succ]
              refine' wpAnyH_take (i := 20) (oi := _) (v := _) ?hiRA21 (by kernel_rfl) (by kernel_rfl) (by kernel_rfl) ?hQRA21 ?hyRA21 (by assumption) ?restRA21
              case' hiRA21 => (first | (simp only [List.getElem?_toArray, List.getElem?_cons_succ, List.getElem?_cons_zero]; done) | (simp only [List.getElem?_toArray, List.getElem?_cons_succ, List.getElem?_cons_zero]; rfl))
              case' hQRA21 => exact fun _ _ _ h => h
              case' hyRA21 => refine Or.inl ⟨by rfl, ?_⟩
              (intro w hSw; (try dsimp only at hSw); go_simp; try with_reducible rfl)
              try simp only [Act.put, List.setIfInBounds_toArray, List.set_cons_zero, List.set_cons_succ]
              refine' wpAnyH_take (i := 22) (oi := _) (v := _) ?hiRA22 (by kernel_rfl) (by kernel_rfl) (by kernel_rfl) ?hQRA22 ?hyRA22 (by assumption) ?restRA22
              case' hiRA22 => (first | (simp only [List.getElem?_toArray, List.getElem?_cons_succ, List.getElem?_cons_zero]; done) | (simp only [List.getElem?_toArray, List.getElem?_cons_succ, List.getElem?_cons_zero]; rfl))
              case' hQRA22 => exact fun _ _ _ h => h
              case' hyRA22 => refine Or.inl ⟨by rfl, ?_⟩
              (intro w hSw; (try dsimp only at hSw); go_simp; try with_reducible rfl)
              try simp only [Act.put, List.setIfInBounds_toArray, List.set_cons_zero, List.set_cons_succ]
              refine' wpAnyH_take (i := 23) (oi := _) (v := _) ?hiRA23 (by kernel_rfl) (by kernel_rfl) (by kernel_rfl) ?hQRA23 ?hyRA23 (by assumption) ?restRA23
              case' hiRA23 => (first | (simp only [List.getElem?_toArray, List.getElem?_cons_succ, List.getElem?_cons_zero]; done) | (simp only [List.getElem?_toArray, List.getElem?_cons_succ, List.getElem?_cons_zero]; rfl))
              case' hQRA23 => exact fun _ _ _ h => h
              case' hyRA23 => refine Or.inl ⟨by rfl, ?_⟩
              (intro w hSw; (try dsimp only at hSw); go_simp; try with_reducible rfl)
              try simp only [Act.put, List.setIfInBounds_toArray, List.set_cons_zero, List.set_cons_succ]
              refine wpAnyH_ready (rs := [21]) (by kernel_rfl) (by simp) ?_
              refine' AllReadyH.cons (o := _) ?hiRA24 (fun K hK => ?hKRA24) AllReadyH.nil
              case' hiRA24 => (first | (simp only [List.getElem?_toArray, List.getElem?_cons_succ, List.getElem?_cons_zero]; done) | (simp only [List.getElem?_toArray, List.getElem?_cons_succ, List.getElem?_cons_zero]; rfl))
              go_simp
              (go_at_call 31; refine (MA.out w9 u9).mono ?_; rintro e w10 ⟨v10, rfl, i10, v_10⟩; (have u10 := u9.trans v_10 (fun _ _ h => h)); (have y10 := PS.out _ u10))
              refine hK.out _ _ ?_ (fun hHeld => ?_)
              · (try dsimp only); go_keep
              clear hK K
              try simp only [Act.put, List.setIfInBounds_toArray, List.set_cons_zero, List.set_cons_succ]
              refine wpAnyH_ready (rs := [24]) (by kernel_rfl) (by simp) ?_
              refine' AllReadyH.cons (o := _) ?hiRA25 (fun K hK => ?hKRA25) AllReadyH.nil
              case' hiRA25 => (first | (simp only [List.getElem?_toArray, List.getElem?_cons_succ, List.getElem?_cons_zero]; done) | (simp only [List.getElem?_toArray, List.getElem?_cons_succ, List.getElem?_cons_zero]; rfl))
              go_simp
              (go_at_call 37; refine (MB.out w10 u10).mono ?_; rintro e w11 ⟨v11, rfl, i11, v_11⟩; (have i10 := i10.keep v_11 (fun _ _ _ h => h)); (have u11 := u10.trans v_11 (fun _ _ h => h)); (have y11 := PS.out _ u11))
              refine hK.out _ _ ?_ (fun hHeld => ?_)
              · (try dsimp only); go_keep
              clear hK K
              try simp only [Act.put, List.setIfInBounds_toArray, List.set_cons_zero, List.set_cons_succ]
              refine wpAnyH_ready (rs := [25]) (by kernel_rfl) (by simp) ?_
              refine' AllReadyH.cons (o := _) ?hiRA26 (fun K hK => ?hKRA26) AllReadyH.nil
              case' hiRA26 => (first | (simp only [List.getElem?_toArray, List.getElem?_cons_succ, List.getElem?_cons_zero]; done) | (simp only [List.getElem?_toArray, List.getElem?_cons_succ, List.getElem?_cons_zero]; rfl))
              go_simp
              (go_at_call 32; refine (S1.out v10 v11 w11 i10 i11).mono ?_; rintro e w12 ⟨rfl, v_12⟩; (have u12 := u11.trans v_12 (fun _ _ h => h)); (have y12 := PS.out _ u12); clear i10 i11)
              refine hK.out _ _ ?_ (fun hHeld => ?_)
              · (try dsimp only); go_keep
              clear hK K
              try simp only [Act.put, List.setIfInBounds_toArray, List.set_cons_zero, List.set_cons_succ]
              refine' wpAnyH_take (i := 26) (oi := _) (v := _) ?hiRA27 (by kernel_rfl) (by kernel_rfl) (by kernel_rfl) ?hQRA27 ?hyRA27 (by assumption) ?restRA27
              case' hiRA27 => (first | (simp only [List.getElem?_toArray, List.getElem?_cons_succ, List.getElem?_cons_zero]; done) | (simp only [List.getElem?_toArray, List.getElem?_cons_succ, List.getElem?_cons_zero]; rfl))
              case' hQRA27 => exact fun _ _ _ h => h
              case' hyRA27 => refine Or.inl ⟨by rfl, ?_⟩
              (intro w hSw; (try dsimp only at hSw); go_simp; try with_reducible rfl)
              try simp only [Act.put, List.setIfInBounds_toArray, List.set_cons_zero, List.set_cons_succ]
              refine' wpAnyH_take (i := 27) (oi := _) (v := _) ?hiRA28 (by kernel_rfl) (by kernel_rfl) (by kernel_rfl) ?hQRA28 ?hyRA28 (by assumption) ?restRA28
              case' hiRA28 => (first | (simp only [List.getElem?_toArray, List.getElem?_cons_succ, List.getElem?_cons_zero]; done) | (simp only [List.getElem?_toArray, List.getElem?_cons_succ, List.getElem?_cons_zero]; rfl))
              case' hQRA28 => exact fun _ _ _ h => h
              case' hyRA28 => refine Or.inl ⟨by rfl, ?_⟩
              (intro w hSw; (try dsimp only at hSw); go_simp; try with_reducible rfl)
              try simp only [Act.put, List.setIfInBounds_toArray, List.set_cons_zero, List.set_cons_succ]
              refine' wpAnyH_take (i := 28) (oi := _) (v := _) ?hiRA29 (by kernel_rfl) (by kernel_rfl) (by kernel_rfl) ?hQRA29 ?hyRA29 (by assumption) ?restRA29
              case' hiRA29 => (first | (simp only [List.getElem?_toArray, List.getElem?_cons_succ, List.getElem?_cons_zero]; done) | (simp only [List.getElem?_toArray, List.getElem?_cons_succ, List.getElem?_cons_zero]; rfl))
              case' hQRA29 => exact fun _ _ _ h => h
              case' hyRA29 => refine Or.inl ⟨by rfl, ?_⟩
              (intro w hSw; (try dsimp only at hSw); go_simp; try with_reducible rfl)
              try simp only [Act.put, List.setIfInBounds_toArray, List.set_cons_zero, List.set_cons_succ]
              refine' wpAnyH_take (i := 29) (oi := _) (v := _) ?hiRA30 (by kernel_rfl) (by kernel_rfl) (by kernel_rfl) ?hQRA30 ?hyRA30 (by assumption) ?restRA30
              case' hiRA30 => (first | (simp only [List.getElem?_toArray, List.getElem?_cons_succ, List.getElem?_cons_zero]; done) | (simp only [List.getElem?_toArray, List.getElem?_cons_succ, List.getElem?_cons_zero]; rfl))
              case' hQRA30 => exact fun _ _ _ h => h
              case' hyRA30 => refine Or.inl ⟨by rfl, ?_⟩
              (intro w hSw; (try dsimp only at hSw); go_simp; try with_reducible rfl)
              try simp only [Act.put, List.setIfInBounds_toArray, List.set_cons_zero, List.set_cons_succ]
              refine' wpAnyH_take (i := 30) (oi := _) (v := _) ?hiRA31 (by kernel_rfl) (by kernel_rfl) (by kernel_rfl) ?hQRA31 ?hyRA31 (by assumption) ?restRA31
              case' hiRA31 => (first | (simp only [List.getElem?_toArray, List.getElem?_cons_succ, List.getElem?_cons_zero]; done) | (simp only [List.getElem?_toArray, List.getElem?_cons_succ, List.getElem?_cons_zero]; rfl))
              case' hQRA31 => exact fun _ _ _ h => h
              case' hyRA31 => refine Or.inl ⟨by rfl, ?_⟩
              (intro w hSw; (try dsimp only at hSw); go_simp; try with_reducible rfl)
              try simp only [Act.put, List.setIfInBounds_toArray, List.set_cons_zero, List.set_cons_succ]
              refine' wpAnyH_take (i := 31) (oi := _) (v := _) ?hiRA32 (by kernel_rfl) (by kernel_rfl) (by kernel_rfl) ?hQRA32 ?hyRA32 (by assumption) ?restRA32
              case' hiRA32 => (first | (simp only [List.getElem?_toArray, List.getElem?_cons_succ, List.getElem?_cons_zero]; done) | (simp only [List.getElem?_toArray, List.getElem?_cons_succ, List.getElem?_cons_zero]; rfl))
              case' hQRA32 => exact fun _ _ _ h => h
              case' hyRA32 => refine Or.inl ⟨by rfl, ?_⟩
              (intro w hSw; (try dsimp only at hSw); go_simp; try with_reducible rfl)
              try simp only [Act.put, List.setIfInBounds_toArray, List.set_cons_zero, List.set_cons_succ]
              refine' wpAnyH_take (i := 33) (oi := _) (v := _) ?hiRA33 (by kernel_rfl) (by kernel_rfl) (by kernel_rfl) ?hQRA33 ?hyRA33 (by assumption) ?restRA33
              case' hiRA33 => (first | (simp only [List.getElem?_toArray, List.getElem?_cons_succ, List.getElem?_cons_zero]; done) | (simp only [List.getElem?_toArray, List.getElem?_cons_succ, List.getElem?_cons_zero]; rfl))
              case' hQRA33 => exact fun _ _ _ h => h
              case' hyRA33 => refine Or.inl ⟨by rfl, ?_⟩
              (intro w hSw; (try dsimp only at hSw); go_simp; try with_reducible rfl)
              try simp only [Act.put, List.setIfInBounds_toArray, List.set_cons_zero, List.set_cons_succ]
              refine' wpAnyH_take (i := 34) (oi := _) (v := _) ?hiRA34 (by kernel_rfl) (by kernel_rfl) (by kernel_rfl) ?hQRA34 ?hyRA34 (by assumption) ?restRA34
              case' hiRA34 => (first | (simp only [List.getElem?_toArray, List.getElem?_cons_succ, List.getElem?_cons_zero]; done) | (simp only [List.getElem?_toArray, List.getElem?_cons_succ, List.getElem?_cons_zero]; rfl))
              case' hQRA34 => exact fun _ _ _ h => h
              case' hyRA34 => refine Or.inl ⟨by rfl, ?_⟩
              (intro w hSw; (try dsimp only at hSw); go_simp; try with_reducible rfl)
              try simp only [Act.put, List.setIfInBounds_toArray, List.set_cons_zero, List.set_cons_succ]
              refine' wpAnyH_take (i := 35) (oi := _) (v := _) ?hiRA35 (by kernel_rfl) (by kernel_rfl) (by kernel_rfl) ?hQRA35 ?hyRA35 (by assumption) ?restRA35
              case' hiRA35 => (first | (simp only [List.getElem?_toArray, List.getElem?_cons_succ, List.getElem?_cons_zero]; done) | (simp only [List.getElem?_toArray, List.getElem?_cons_succ, List.getElem?_cons_zero]; rfl))
              case' hQRA35 => exact fun _ _ _ h => h
              case' hyRA35 => refine Or.inl ⟨by rfl, ?_⟩
              (intro w hSw; (try dsimp only at hSw); go_simp; try with_reducible rfl)
              try simp only [Act.put, List.setIfInBounds_toArray, List.set_cons_zero, List.set_cons_succ]
              refine wpAnyH_ready (rs := [32]) (by kernel_rfl) (by simp) ?_
              refine' AllReadyH.cons (o := _) ?hiRA36 (fun K hK => ?hKRA36) AllReadyH.nil
              case' hiRA36 => (first | (simp only [List.getElem?_toArray, List.getElem?_cons_succ, List.getElem?_cons_zero]; done) | (simp only [List.getElem?_toArray, List.getElem?_cons_succ, List.getElem?_cons_zero]; rfl))
              go_simp
              (go_at_call 39; refine (OA.out w12 u12).mono ?_; rintro e w13 ⟨v13, rfl, i13, v_13⟩; (have u13 := u12.trans v_13 (fun _ _ h => h)); (have y13 := PS.out _ u13))
              refine hK.out _ _ ?_ (fun hHeld => ?_)
              · (try dsimp only); go_keep
              clear hK K
              try simp only [Act.put, List.setIfInBounds_toArray, List.set_cons_zero, List.set_cons_succ]
              refine wpAnyH_ready (rs := [36]) (by kernel_rfl) (by simp) ?_
              refine' AllReadyH.cons (o := _) ?hiRA37 (fun K hK => ?hKRA37) AllReadyH.nil
              case' hiRA37 => (first | (simp only [List.getElem?_toArray, List.getElem?_cons_succ, List.getElem?_cons_zero]; done) | (simp only [List.getElem?_toArray, List.getElem?_cons_succ, List.getElem?_cons_zero]; rfl))
              go_simp
              (go_at_call 40; refine (OB.out w13 u13).mono ?_; rintro e w14 ⟨v14, rfl, i14, v_14⟩; (have i13 := i13.keep v_14 (fun _ _ _ h => h)); (have u14 := u13.trans v_14 (fun _ _ h => h)); (have y14 := PS.out _ u14))
              refine hK.out _ _ ?_ (fun hHeld => ?_)
              · (try dsimp only); go_keep
              clear hK K
              try simp only [Act.put, List.setIfInBounds_toArray, List.set_cons_zero, List.set_cons_succ]
              refine wpAnyH_ready (rs := [37]) (by kernel_rfl) (by simp) ?_
              refine' AllReadyH.cons (o := _) ?hiRA38 (fun K hK => ?hKRA38) AllReadyH.nil
              case' hiRA38 => (first | (simp only [List.getElem?_toArray, List.getElem?_cons_succ, List.getElem?_cons_zero]; done) | (simp only [List.getElem?_toArray, List.getElem?_cons_succ, List.getElem?_cons_zero]; rfl))
              go_simp
              (go_at_call 38; refine (S2.out v13 v14 w14 i13 i14).mono ?_; rintro e w15 ⟨rfl, v_15⟩; (have u15 := u14.trans v_15 (fun _ _ h => h)); (have y15 := PS.out _ u15); clear i13 i14)
              refine hK.out _ _ ?_ (fun hHeld => ?_)
              · (try dsimp only); go_keep
              clear hK K
              try simp only [Act.put, List.setIfInBounds_toArray, List.set_cons_zero, List.set_cons_succ]
              refine' wpAnyH_take (i := 38) (oi := _) (v := _) ?hiRA39 (by kernel_rfl) (by kernel_rfl) (by kernel_rfl) ?hQRA39 ?hyRA39 (by assumption) ?restRA39
              case' hiRA39 => (first | (simp only [List.getElem?_toArray, List.getElem?_cons_succ, List.getElem?_cons_zero]; done) | (simp only [List.getElem?_toArray, List.getElem?_cons_succ, List.getElem?_cons_zero]; rfl))
              case' hQRA39 => exact fun _ _ _ h => h
              case' hyRA39 => refine Or.inl ⟨by rfl, ?_⟩
              (intro w hSw; (try dsimp only at hSw); go_simp; try with_reducible rfl)
              try simp only [Act.put, List.setIfInBounds_toArray, List.set_cons_zero, List.set_cons_succ]
              refine' wpAnyH_take (i := 39) (oi := _) (v := _) ?hiRA40 (by kernel_rfl) (by kernel_rfl) (by kernel_rfl) ?hQRA40 ?hyRA40 (by assumption) ?restRA40
              case' hiRA40 => (first | (simp only [List.getElem?_toArray, List.getElem?_cons_succ, List.getElem?_cons_zero]; done) | (simp only [List.getElem?_toArray, List.getElem?_cons_succ, List.getElem?_cons_zero]; rfl))
              case' hQRA40 => exact fun _ _ _ h => h
              case' hyRA40 => refine Or.inl ⟨by rfl, ?_⟩
              (intro w hSw; (try dsimp only at hSw); go_simp; try with_reducible rfl)
              try simp only [Act.put, List.setIfInBounds_toArray, List.set_cons_zero, List.set_cons_succ]
              refine' wpAnyH_take (i := 40) (oi := _) (v := _) ?hiRA41 (by kernel_rfl) (by kernel_rfl) (by kernel_rfl) ?hQRA41 ?hyRA41 (by assumption) ?restRA41
              case' hiRA41 => (first | (simp only [List.getElem?_toArray, List.getElem?_cons_succ, List.getElem?_cons_zero]; done) | (simp only [List.getElem?_toArray, List.getElem?_cons_succ, List.getElem?_cons_zero]; rfl))
              case' hQRA41 => exact fun _ _ _ h => h
              case' hyRA41 => refine Or.inl ⟨by rfl, ?_⟩
              (intro w hSw; (try dsimp only at hSw); go_simp; try with_reducible rfl)
              try simp only [Act.put, List.setIfInBounds_toArray, List.set_cons_zero, List.set_cons_succ]
              refine' wpAnyH_take (i := 41) (oi := _) (v := _) ?hiRA42 (by kernel_rfl) (by kernel_rfl) (by kernel_rfl) ?hQRA42 ?hyRA42 (by assumption) ?restRA42
              case' hiRA42 => (first | (simp only [List.getElem?_toArray, List.getElem?_cons_succ, List.getElem?_cons_zero]; done) | (simp only [List.getElem?_toArray, List.getElem?_cons_succ, List.getElem?_cons_zero]; rfl))
              case' hQRA42 => exact fun _ _ _ h => h
              case' hyRA42 => refine Or.inl ⟨by rfl, ?_⟩
              (intro w hSw; (try dsimp only at hSw); go_simp; try with_reducible rfl)
              try simp only [Act.put, List.setIfInBounds_toArray, List.set_cons_zero, List.set_cons_succ]
              refine' wpAnyH_take (i := 42) (oi := _) (v := _) ?hiRA43 (by kernel_rfl) (by kernel_rfl) (by kernel_rfl) ?hQRA43 ?hyRA43 (by assumption) ?restRA43
              case' hiRA43 => (first | (simp only [List.getElem?_toArray, List.getElem?_cons_succ, List.getElem?_cons_zero]; done) | (simp only [List.getElem?_toArray, List.getElem?_cons_succ, List.getElem?_cons_zero]; rfl))
              case' hQRA43 => exact fun _ _ _ h => h
              case' hyRA43 => refine Or.inl ⟨by rfl, ?_⟩
              (intro w hSw; (try dsimp only at hSw); go_simp; try with_reducible rfl)
              try simp only [Act.put, List.setIfInBounds_toArray, List.set_cons_zero, List.set_cons_succ]
              refine' wpAnyH_take (i := 43) (oi := _) (v := _) ?hiRA44 (by kernel_rfl) (by kernel_rfl) (by kernel_rfl) ?hQRA44 ?hyRA44 (by assumption) ?restRA44
              case' hiRA44 => (first | (simp only [List.getElem?_toArray, List.getElem?_cons_succ, List.getElem?_cons_zero]; done) | (simp only [List.getElem?_toArray, List.getElem?_cons_succ, List.getElem?_cons_zero]; rfl))
              case' hQRA44 => exact fun _ _ _ h => h
              case' hyRA44 => refine Or.inl ⟨by rfl, ?_⟩
              (intro w hSw; (try dsimp only at hSw); go_simp; try with_reducible rfl)
              try simp only [Act.put, List.setIfInBounds_toArray, List.set_cons_zero, List.set_cons_succ]
              refine' wpAnyH_take (i := 44) (oi := _) (v := _) ?hiRA45 (by kernel_rfl) (by kernel_rfl) (by kernel_rfl) ?hQRA45 ?hyRA45 (by assumption) ?restRA45
              case' hiRA45 => (first | (simp only [List.getElem?_toArray, List.getElem?_cons_succ, List.getElem?_cons_zero]; done) | (simp only [List.getElem?_toArray, List.getElem?_cons_succ, List.getElem?_cons_zero]; rfl))
              case' hQRA45 => exact fun _ _ _ h => h
              case' hyRA45 => refine Or.inl ⟨by rfl, ?_⟩
              (intro w hSw; (try dsimp only at hSw); go_simp; try with_reducible rfl)
              try simp only [Act.put, List.setIfInBounds_toArray, List.set_cons_zero, List.set_cons_succ]
              refine' wpAnyH_take (i := 45) (oi := _) (v := _) ?hiRA46 (by kernel_rfl) (by kernel_rfl) (by kernel_rfl) ?hQRA46 ?hyRA46 (by assumption) ?restRA46
              case' hiRA46 => (first | (simp only [List.getElem?_toArray, List.getElem?_cons_succ, List.getElem?_cons_zero]; done) | (simp only [List.getElem?_toArray, List.getElem?_cons_succ, List.getElem?_cons_zero]; rfl))
              case' hQRA46 => exact fun _ _ _ h => h
              case' hyRA46 => refine Or.inl ⟨by rfl, ?_⟩
              (intro w hSw; (try dsimp only at hSw); go_simp; try with_reducible rfl)
              try simp only [Act.put, List.setIfInBounds_toArray, List.set_cons_zero, List.set_cons_succ]
              refine' wpAnyH_take (i := 47) (oi := _) (v := _) ?hiRA47 (by kernel_rfl) (by kernel_rfl) (by kernel_rfl) ?hQRA47 ?hyRA47 (by assumption) ?restRA47
              case' hiRA47 => (first | (simp only [List.getElem?_toArray, List.getElem?_cons_succ, List.getElem?_cons_zero]; done) | (simp only [List.getElem?_toArray, List.getElem?_cons_succ, List.getElem?_cons_zero]; rfl))
              case' hQRA47 => exact fun _ _ _ h => h
              case' hyRA47 => refine Or.inl ⟨by rfl, ?_⟩
              (intro w hSw; (try dsimp only at hSw); go_simp; try with_reducible rfl)
              try simp only [Act.put, List.setIfInBounds_toArray, List.set_cons_zero, List.set_cons_succ]
              refine' wpAnyH_take (i := 48) (oi := _) (v := _) ?hiRA48 (by kernel_rfl) (by kernel_rfl) (by kernel_rfl) ?hQRA48 ?hyRA48 (by assumption) ?restRA48
              case' hiRA48 => (first | (simp only [List.getElem?_toArray, List.getElem?_cons_succ, List.getElem?_cons_zero]; done) | (simp only [List.getElem?_toArray, List.getElem?_cons_succ, List.getElem?_cons_zero]; rfl))
              case' hQRA48 => exact fun _ _ _ h => h
              case' hyRA48 => refine Or.inl ⟨by rfl, ?_⟩
              (intro w hSw; (try dsimp only at hSw); go_simp; try with_reducible rfl)
              try simp only [Act.put, List.setIfInBounds_toArray, List.set_cons_zero, List.set_cons_succ]
              refine' wpAnyH_take (i := 49) (oi := _) (v := _) ?hiRA49 (by kernel_rfl) (by kernel_rfl) (by kernel_rfl) ?hQRA49 ?hyRA49 (by assumption) ?restRA49
              case' hiRA49 => (first | (simp only [List.getElem?_toArray, List.getElem?_cons_succ, List.getElem?_cons_zero]; done) | (simp only [List.getElem?_toArray, List.getElem?_cons_succ, List.getElem?_cons_zero]; rfl))
              case' hQRA49 => exact fun _ _ _ h => h
              case' hyRA49 => refine Or.inl ⟨by rfl, ?_⟩
              (intro w hSw; (try dsimp only at hSw); go_simp; try with_reducible rfl)
              try simp only [Act.put, List.setIfInBounds_toArray, List.set_cons_zero, List.set_cons_succ]
              refine' wpAnyH_take (i := 50) (oi := _) (v := _) ?hiRA50 (by kernel_rfl) (by kernel_rfl) (by kernel_rfl) ?hQRA50 ?hyRA50 (by assumption) ?restRA50
              case' hiRA50 => (first | (simp only [List.getElem?_toArray, List.getElem?_cons_succ, List.getElem?_cons_zero]; done) | (simp only [List.getElem?_toArray, List.getElem?_cons_succ, List.getElem?_cons_zero]; rfl))
              case' hQRA50 => exact fun _ _ _ h => h
              case' hyRA50 => refine Or.inl ⟨by rfl, ?_⟩
              (intro w hSw; (try dsimp only at hSw); go_simp; try with_reducible rfl)
              try simp only [Act.put, List.setIfInBounds_toArray, List.set_cons_zero, List.set_cons_succ]
              refine' wpAnyH_take (i := 51) (oi := _) (v := _) ?hiRA51 (by kernel_rfl) (by kernel_rfl) (by kernel_rfl) ?hQRA51 ?hyRA51 (by assumption) ?restRA51
              case' hiRA51 => (first | (simp only [List.getElem?_toArray, List.getElem?_cons_succ, List.getElem?_cons_zero]; done) | (simp only [List.getElem?_toArray, List.getElem?_cons_succ, List.getElem?_cons_zero]; rfl))
              case' hQRA51 => exact fun _ _ _ h => h
              case' hyRA51 => refine Or.inl ⟨by rfl, ?_⟩
              (intro w hSw; (try dsimp only at hSw); go_simp; try with_reducible rfl)
              try simp only [Act.put, List.setIfInBounds_toArray, List.set_cons_zero, List.set_cons_succ]
              refine wpAnyH_ready (rs := [46]) (by kernel_rfl) (by simp) ?_
              refine' AllReadyH.cons (o := _) ?hiRA52 (fun K hK => ?hKRA52) AllReadyH.nil
              case' hiRA52 => (first | (simp only [List.getElem?_toArray, List.getElem?_cons_succ, List.getElem?_cons_zero]; done) | (simp only [List.getElem?_toArray, List.getElem?_cons_succ, List.getElem?_cons_zero]; rfl))
              go_simp
              (go_at_call 31; refine (MC.out w15 u15).mono ?_; rintro e w16 ⟨v16, rfl, i16, v_16⟩; (have u16 := u15.trans v_16 (fun _ _ h => h)); (have y16 := PS.out _ u16))
              refine hK.out _ _ ?_ (fun hHeld => ?_)
              · (try dsimp only); go_keep
              clear hK K
              try simp only [Act.put, List.setIfInBounds_toArray, List.set_cons_zero, List.set_cons_succ]
              refine wpAnyH_ready (rs := [52]) (by kernel_rfl) (by simp) ?_
              refine' AllReadyH.cons (o := _) ?hiRA53 (fun K hK => ?hKRA53) AllReadyH.nil
              case' hiRA53 => (first | (simp only [List.getElem?_toArray, List.getElem?_cons_succ, List.getElem?_cons_zero]; done) | (simp only [List.getElem?_toArray, List.getElem?_cons_succ, List.getElem?_cons_zero]; rfl))
              go_simp
              (go_at_call 37; refine (MD.out w16 u16).mono ?_; rintro e w17 ⟨v17, rfl, i17, v_17⟩; (have i16 := i16.keep v_17 (fun _ _ _ h => h)); (have u17 := u16.trans v_17 (fun _ _ h => h)); (have y17 := PS.out _ u17))
              refine hK.out _ _ ?_ (fun hHeld => ?_)
              · (try dsimp only); go_keep
              clear hK K
              try simp only [Act.put, List.setIfInBounds_toArray, List.set_cons_zero, List.set_cons_succ]
              refine wpAnyH_ready (rs := [53]) (by kernel_rfl) (by simp) ?_
              refine' AllReadyH.cons (o := _) ?hiRA54 (fun K hK => ?hKRA54) AllReadyH.nil
              case' hiRA54 => (first | (simp only [List.getElem?_toArray, List.getElem?_cons_succ, List.getElem?_cons_zero]; done) | (simp only [List.getElem?_toArray, List.getElem?_cons_succ, List.getElem?_cons_zero]; rfl))
              go_simp
              (go_at_call 32; refine (S3.out v16 v17 w17 i16 i17).mono ?_; rintro e w18 ⟨rfl, v_18⟩; (have u18 := u17.trans v_18 (fun _ _ h => h)); (have y18 := PS.out _ u18); clear i16 i17)
              refine hK.out _ _ ?_ (fun hHeld => ?_)
              · (try dsimp only); go_keep
              clear hK K
              try simp only [Act.put, List.setIfInBounds_toArray, List.set_cons_zero, List.set_cons_succ]
              refine' wpAnyH_take (i := 54) (oi := _) (v := _) ?hiRA55 (by kernel_rfl) (by kernel_rfl) (by kernel_rfl) ?hQRA55 ?hyRA55 (by assumption) ?restRA55
              case' hiRA55 => (first | (simp only [List.getElem?_toArray, List.getElem?_cons_succ, List.getElem?_cons_zero]; done) | (simp only [List.getElem?_toArray, List.getElem?_cons_succ, List.getElem?_cons_zero]; rfl))
              case' hQRA55 => exact fun _ _ _ h => h
              case' hyRA55 => refine Or.inl ⟨by rfl, ?_⟩
              (intro w hSw; (try dsimp only at hSw); go_simp; try with_reducible rfl)
              try simp only [Act.put, List.setIfInBounds_toArray, List.set_cons_zero, List.set_cons_succ]
              refine' wpAnyH_take (i := 55) (oi := _) (v := _) ?hiRA56 (by kernel_rfl) (by kernel_rfl) (by kernel_rfl) ?hQRA56 ?hyRA56 (by assumption) ?restRA56
              case' hiRA56 => (first | (simp only [List.getElem?_toArray, List.getElem?_cons_succ, List.getElem?_cons_zero]; done) | (simp only [List.getElem?_toArray, List.getElem?_cons_succ, List.getElem?_cons_zero]; rfl))
              case' hQRA56 => exact fun _ _ _ h => h
              case' hyRA56 => refine Or.inl ⟨by rfl, ?_⟩
              (intro w hSw; (try dsimp only at hSw); go_simp; try with_reducible rfl)
              try simp only [Act.put, List.setIfInBounds_toArray, List.set_cons_zero, List.set_cons_succ]
              refine wpAnyH_done (by kernel_rfl) ?_ _
              have PF : Hid (PrefS w w18 base pb (.slice p4 L2.length c4) L2 (k + 1)) := ⟨(PS6.out.keep0 u18).less (fun b hb => Or.inl hb), R6.out.keep u18 (fun _ _ _ h => h), NDP2.out, hL2, KEY2.out, U6.out.trans u18 (fun _ _ h => h), PP.out.lo⟩
              go_wp2
              go_roundw
              case rel => exact ⟨k + 1, L2, by simp, by omega, PF⟩
              case measure => simp [intOf]; omega
            · have qk : ¬ kd = 0 := hkd
              clear AD
              go_wp2_with fail
              refine (DP.out).mono ?_
              rintro e w4 ⟨v4, rfl, r4, u4⟩
              have hlt4 := fun b => own2_lt r4 (k := b)
              have PS4 : Hid (PSt w4 base pb (fun b => v4.ownBlock = some b ∨ b = wr.heap.size) (fun t i => (t, i) ∈ L) k) := PP.out.ps.also (HUA.out.trans u4 (fun _ _ h => h)) (fun b hb => by
                have hs := HAS.out
                have hz := u4.size
                rcases hb with hb | rfl
                · have := hlt4 b hb
                  exact Or.inr ⟨by omega, this.1⟩
                · exact Or.inr ⟨by omega, by omega⟩)
              have NDP2 : Hid (dropP a.id L).Nodup := PP.out.nd.filter _
              have hL2 : (dropP a.id L).length ≤ k + 1 := Nat.le_trans (List.length_filter_le _ _) (by omega)
              have KEY2 : Hid (∀ m ∈ dropP a.id L, m.1.length ≤ 100) := fun m hm => PP.out.keys m (List.mem_filter.1 hm).1
              have U4 := Lib.hid (UA.out.trans u4 (fun _ _ h => h))
              have BX4 := Lib.hid (u4.blk BXA.out (fun h => h))
              have x1 := BX4.out.cellAt (i := 1) (v := .int .i64 a.id) rfl
              have x2 := BX4.out.cellAt (i := 2) (v := .string st) rfl
              have PA : Hid (Calls Try.prog 35 #[.pointer (some ⟨pb, 0, none⟩), .int .i64 a.id] w4 fun e w' => e = .returned (.int .i64 ((ofP a.id L).length : Int)) ∧ PSt w' base pb (fun b => v4.ownBlock = some b ∨ b = wr.heap.size) (fun t i => (t, i) ∈ L ∧ i ≠ a.id) (k + 1) ∧ Upd (Fr base (fun b => v4.ownBlock = some b ∨ b = wr.heap.size)) w4 w') := by
                refine (PS4.out.drop a.id (by omega)).mono ?_
                rintro e w' ⟨l3, rfl, hr3, hm3, h2, h3⟩
                exact ⟨by rw [drop_eq PP.out.nd hr3 hm3], h2.more (by omega), h3⟩
              have R4 := Lib.hid (PairsAt.row r4)
              obtain ⟨p4, c4, e4, hm4⟩ := R4.out.len
              subst e4
              have MEM : Hid (∀ t i, ((t, i) ∈ L ∧ i ≠ a.id) ↔ (t, i) ∈ dropP a.id L) := fun t i => dropP_mem.symm
              clear r4 u4 hlt4 DP ROWA PSA
              generalize dropP a.id L = L2 at *
              generalize (ofP a.id L).length = no at *
              go_wp2_with fail
              refine (PA.out).mono ?_
              rintro e w5 ⟨rfl, ps5, u5⟩
              have PS5 : Hid (PSt w5 base pb (fun b => (Value.slice p4 L2.length c4).ownBlock = some b ∨ b = wr.heap.size) (fun t i => (t, i) ∈ L2) (k + 1)) := ps5.congr MEM.out
              have BX5 : Hid (Blk w5 wr.heap.size [.int .i64 kd, .int .i64 a.id, .string st] 54) := u5.blk BX4.out (fun e => e.2 (Or.inr rfl))
              have R5 : Hid (RowOf mkc 2 w5 (.slice p4 L2.length c4) L2) := R4.out.keep u5 (fun b _ hb e => e.2 (Or.inl hb))
              have U5 : Hid (Upd (fun _ => False) w w5) := U4.out.trans u5 (fun b hb e => by have := e.1; have := HB.out; omega)
              clear ps5 u5 PA BX4 R4 PS4 U4 UA HUA BXA HAS c0 c1 c2
              generalize wr.heap.size = ab at *
              have TR := Lib.hid (tree15_any _ L2 w5 R5.out (by omega))
              go_wp2_with fail
              refine (TR.out).mono ?_
              rintro e w6 ⟨v6, M, rfl, hM, hMl, hKM, u6⟩
              have R6 := Lib.hid (R5.out.keep u6 (fun _ _ _ h => h))
              have PS6 := Lib.hid (PS5.out.keep0 u6)
              have BX6 : Hid (Blk w6 ab [.int .i64 kd, .int .i64 a.id, .string st] 54) := u6.blk BX5.out (fun h => h)
              have U6 := Lib.hid (U5.out.trans u6 (fun _ _ h => h))
              have HM := Lib.hid hM
              obtain ⟨pm, cm, evm, _⟩ := own_slice hM
              subst evm
              obtain ⟨xb, Lb, Eb, cb, tb, nb, kb⟩ := PS6.out.tree
              have emap := kb.len hKM
              have elen : Lb.length = M.length := by have := congrArg List.length emap; simpa using this
              obtain ⟨n0, hn0⟩ := nodes_num w6 _ xb Lb Eb tb (by omega)
              have KM : Hid (∀ m ∈ M, m.1.length ≤ 1000000) := fun m hm => by
                obtain ⟨i, hi⟩ := (hKM.2 m.1).1 ⟨m.2, hm⟩
                have := KEY2.out _ hi
                exact Nat.le_trans this (by omega)
              have LE : Hid (∀ v, Upd (fun _ => False) w6 v → Calls Try.prog 17 #[.pointer (some ⟨xb, 0, none⟩)] v fun e w' => e = .returned (.int .i64 (M.length : Int)) ∧ Upd (fun _ => False) w6 w') := by
                intro v u
                refine (radLen_any v _ xb Lb Eb (tb.keep0 u)).mono ?_
                rintro e w' ⟨rfl, rfl⟩
                exact ⟨by rw [elen], u⟩
              have ND : Hid (∀ v, Upd (fun _ => False) w6 v → Calls Try.prog 16 #[.pointer (some ⟨xb, 0, none⟩)] v fun e w' => e = .returned (.int .i64 (n0 : Int)) ∧ Upd (fun _ => False) w6 w') := by
                intro v u
                refine (radNodes_any v _ xb Lb Eb (tb.keep0 u) (by omega)).mono ?_
                rintro e w' ⟨n, rfl, hn, _, u2⟩
                exact ⟨by rw [hn0 n hn], u.trans u2 (fun _ _ h => h)⟩
              have RN : Hid (∀ v, Upd (fun _ => False) w6 v → Calls Try.prog 24 #[.slice pm M.length cm] v fun e w' => e = .returned (.int .i64 (n0 : Int)) ∧ Upd (fun _ => False) w6 w') := by
                intro v u
                refine (rnodes_any _ M v w5.heap.size (HM.out.keep u (fun _ _ h => h)) (by omega) KM.out).mono ?_
                rintro e w' ⟨n, rfl, hn, u2⟩
                exact ⟨by rw [hn0 n (KeysOf.nodes emap.symm hn)], u.trans u2 (fun _ _ h => h)⟩
              have MAK : Hid (∀ (q : Txt) (hq : q.length ≤ 1000000), ∃ l0 : List Int, (∀ v, Upd (fun _ => False) w6 v → Calls Try.prog 31 #[.pointer (some ⟨pb, 0, none⟩), .string (ofL q)] v fun e w' => ∃ v3, e = .returned v3 ∧ RowOf intc 1 w' v3 l0 ∧ Upd (fun _ => False) v w') ∧
                  (∀ v, Upd (fun _ => False) w6 v → Calls Try.prog 37 #[.slice p4 L2.length c4, .string (ofL q)] v fun e w' => ∃ v3, e = .returned v3 ∧ RowOf intc 1 w' v3 l0 ∧ Upd (fun _ => False) v w')) := by
                intro q hq
                by_cases hx : ∃ l0 : List Int, Rising l0 ∧ ∀ id, id ∈ l0 ↔ ∃ t, t <+: q ∧ (t, id) ∈ L2
                · obtain ⟨l0, hr0, hm0⟩ := hx
                  refine ⟨l0, fun v u => ?_, fun v u => ?_⟩
                  · refine ((PS6.out.keep0 u).match_ q (by omega) hq).mono ?_
                    rintro e w' ⟨v3, l3, rfl, i3, r3, m3, u3⟩
                    have el : l3 = l0 := rising_ext r3 hr0 (fun y => (m3 y).trans (hm0 y).symm)
                    subst el
                    exact ⟨v3, rfl, i3.row, u3⟩
                  · refine (match15_any _ L2 q v (R6.out.keep u (fun _ _ _ h => h)) (by omega)).mono ?_
                    rintro e w' ⟨v3, l3, rfl, i3, r3, m3, u3⟩
                    have el : l3 = l0 := rising_ext r3 hr0 (fun y => (m3 y).trans (hm0 y).symm)
                    subst el
                    exact ⟨v3, rfl, i3.row, u3⟩
                · refine ⟨[], fun v u => ?_, fun v u => ?_⟩
                  · refine ((PS6.out.keep0 u).match_ q (by omega) hq).mono ?_
                    rintro e w' ⟨v3, l3, rfl, i3, r3, m3, u3⟩
                    exact absurd ⟨l3, r3, m3⟩ hx
                  · refine (match15_any _ L2 q v (R6.out.keep u (fun _ _ _ h => h)) (by omega)).mono ?_
                    rintro e w' ⟨v3, l3, rfl, i3, r3, m3, u3⟩
                    exact absurd ⟨l3, r3, m3⟩ hx
              have OFK : Hid (∃ l0 : List ByteArray, (∀ v, Upd (fun _ => False) w6 v → Calls Try.prog 39 #[.pointer (some ⟨pb, 0, none⟩), .int .i64 a.id] v fun e w' => ∃ v3, e = .returned v3 ∧ RowOf strc 1 w' v3 l0 ∧ Upd (fun _ => False) v w') ∧
                  (∀ v, Upd (fun _ => False) w6 v → Calls Try.prog 40 #[.slice p4 L2.length c4, .int .i64 a.id] v fun e w' => ∃ v3, e = .returned v3 ∧ RowOf strc 1 w' v3 l0 ∧ Upd (fun _ => False) v w')) := by
                by_cases hx : ∃ l0 : List Txt, Rising l0 ∧ ∀ t, t ∈ l0 ↔ (t, a.id) ∈ L2
                · obtain ⟨l0, hr0, hm0⟩ := hx
                  refine ⟨l0.map ofL, fun v u => ?_, fun v u => ?_⟩
                  · refine ((PS6.out.keep0 u).of a.id (by omega)).mono ?_
                    rintro e w' ⟨v3, l3, rfl, i3, r3, m3, u3⟩
                    have el : l3 = l0 := rising_ext r3 hr0 (fun y => (m3 y).trans (hm0 y).symm)
                    subst el
                    exact ⟨v3, rfl, (TxtsAt.strs.1 i3).row, u3⟩
                  · refine (of15_any _ L2 a.id v (R6.out.keep u (fun _ _ _ h => h)) NDP2.out (by omega)).mono ?_
                    rintro e w' ⟨v3, l3, rfl, i3, r3, m3, u3⟩
                    have el : l3 = l0 := rising_ext r3 hr0 (fun y => (m3 y).trans (hm0 y).symm)
                    subst el
                    exact ⟨v3, rfl, (TxtsAt.strs.1 i3).row, u3⟩
                · refine ⟨[], fun v u => ?_, fun v u => ?_⟩
                  · refine ((PS6.out.keep0 u).of a.id (by omega)).mono ?_
                    rintro e w' ⟨v3, l3, rfl, i3, r3, m3, u3⟩
                    exact absurd ⟨l3, r3, m3⟩ hx
                  · refine (of15_any _ L2 a.id v (R6.out.keep u (fun _ _ _ h => h)) NDP2.out (by omega)).mono ?_
                    rintro e w' ⟨v3, l3, rfl, i3, r3, m3, u3⟩
                    exact absurd ⟨l3, r3, m3⟩ hx
              obtain ⟨l1, ma, mb⟩ := MAK.out key (by omega)
              obtain ⟨l2, mc, md⟩ := MAK.out (a.key ++ key) (by rw [List.length_append]; omega)
              obtain ⟨l3, oa, ob⟩ := OFK.out
              rw [← SK.out] at ma mb
              rw [← HAK.out, ← SK.out, ← HST.out] at mc md
              have MA := Lib.hid ma
              have MB := Lib.hid mb
              have MC := Lib.hid mc
              have MD := Lib.hid md
              have OA := Lib.hid oa
              have OB := Lib.hid ob
              have S1 : Hid (∀ v3 v4 v, RowOf intc 1 v v3 l1 → RowOf intc 1 v v4 l1 → Calls Try.prog 32 #[v3, v4] v fun e w' => e = .returned (.bool true) ∧ Upd (fun _ => False) v w') := by
                intro v3 v4 v r r2
                refine (same14_any v3 v4 l1 l1 v r r2).mono ?_
                rintro e w' ⟨rfl, n, rfl⟩
                exact ⟨by rw [decide_eq_true rfl], (Upd.refl _ _).drewN n⟩
              have S2 : Hid (∀ v3 v4 v, RowOf strc 1 v v3 l3 → RowOf strc 1 v v4 l3 → Calls Try.prog 38 #[v3, v4] v fun e w' => e = .returned (.bool true) ∧ Upd (fun _ => False) v w') := by
                intro v3 v4 v r r2
                refine (same06_any v3 v4 l3 l3 v r r2).mono ?_
                rintro e w' ⟨rfl, n, rfl⟩
                exact ⟨by rw [decide_eq_true rfl], (Upd.refl _ _).drewN n⟩
              have S3 : Hid (∀ v3 v4 v, RowOf intc 1 v v3 l2 → RowOf intc 1 v v4 l2 → Calls Try.prog 32 #[v3, v4] v fun e w' => e = .returned (.bool true) ∧ Upd (fun _ => False) v w') := by
                intro v3 v4 v r r2
                refine (same14_any v3 v4 l2 l2 v r r2).mono ?_
                rintro e w' ⟨rfl, n, rfl⟩
                exact ⟨by rw [decide_eq_true rfl], (Upd.refl _ _).drewN n⟩
              have PS : Hid (∀ v, Upd (fun _ => False) w6 v → v.cell? ⟨pb, 0, none⟩ = some (.pointer (some ⟨xb, 0, none⟩)) ∧ v.cell? ⟨ab, 1, none⟩ = some (.int .i64 a.id) ∧ v.cell? ⟨ab, 2, none⟩ = some (.string st)) := fun v u =>
                ⟨(u.cell (cell_lt cb) id).trans cb, (u.blk BX6.out (fun h => h)).cellAt (i := 1) (v := .int .i64 a.id) rfl, (u.blk BX6.out (fun h => h)).cellAt (i := 2) (v := .string st) rfl⟩
              obtain ⟨y0, y1, y2⟩ := PS.out w6 (Upd.refl _ _)
              have sv := fun w : World => run_string_add_sum (P := Try.prog) w st sk (by omega)
              clear ma mb mc md oa ob MAK OFK hM hMl hKM u6 tb nb kb emap elen hn0 cb KM HM BX5 PS5 R5 U5 x1 x2
              generalize hnm : M.length = nm at *
              go_wp2_with fail
              refine wp_region_held_drew (S := (fun w' => w'.cell? ⟨pb, 0, none⟩ = some (.pointer (some ⟨xb, 0, none⟩)) ∧ w'.cell? ⟨ab, 1, none⟩ = some (.int .i64 a.id) ∧ w'.cell? ⟨ab, 2, none⟩ = some (.string st))) (by kernel_rfl) ?_ (fun hHeld => ?_)
              · (try dsimp only); go_keep
              try simp only [Array.replicate, Act.put, List.setIfInBounds_toArray]
              refine' wpAnyH_take (i := 0) (oi := _) (v := _) ?hiRB1 (by kernel_rfl) (by kernel_rfl) (by kernel_rfl) ?hQRB1 ?hyRB1 (by assumption) ?restRB1
              case' hiRB1 => (first | (simp only [List.getElem?_toArray, List.getElem?_cons_succ, List.getElem?_cons_zero]; done) | (simp only [List.getElem?_toArray, List.getElem?_cons_succ, List.getElem?_cons_zero]; rfl))
              case' hQRB1 => exact fun _ _ _ h => h
              case' hyRB1 => refine Or.inl ⟨by rfl, ?_⟩
              (intro w hSw; (try dsimp only at hSw); go_simp; try with_reducible rfl)
              try simp only [Act.put, List.setIfInBounds_toArray, List.set_cons_zero, List.set_cons_succ]
              refine' wpAnyH_take (i := 1) (oi := _) (v := _) ?hiRB2 (by kernel_rfl) (by kernel_rfl) (by kernel_rfl) ?hQRB2 ?hyRB2 (by assumption) ?restRB2
              case' hiRB2 => (first | (simp only [List.getElem?_toArray, List.getElem?_cons_succ, List.getElem?_cons_zero]; done) | (simp only [List.getElem?_toArray, List.getElem?_cons_succ, List.getElem?_cons_zero]; rfl))
              case' hQRB2 => exact fun _ _ _ h => h
              case' hyRB2 => refine Or.inl ⟨by rfl, ?_⟩
              (intro w hSw; (try dsimp only at hSw); go_simp; try with_reducible rfl)
              try simp only [Act.put, List.setIfInBounds_toArray, List.set_cons_zero, List.set_cons_succ]
              refine' wpAnyH_take (i := 2) (oi := _) (v := _) ?hiRB3 (by kernel_rfl) (by kernel_rfl) (by kernel_rfl) ?hQRB3 ?hyRB3 (by assumption) ?restRB3
              case' hiRB3 => (first | (simp only [List.getElem?_toArray, List.getElem?_cons_succ, List.getElem?_cons_zero]; done) | (simp only [List.getElem?_toArray, List.getElem?_cons_succ, List.getElem?_cons_zero]; rfl))
              case' hQRB3 => exact fun _ _ _ h => h
              case' hyRB3 => refine Or.inl ⟨by rfl, ?_⟩
              (intro w hSw; (try dsimp only at hSw); go_simp; try with_reducible rfl)
              try simp only [Act.put, List.setIfInBounds_toArray, List.set_cons_zero, List.set_cons_succ]
              refine' wpAnyH_take (i := 3) (oi := _) (v := _) ?hiRB4 (by kernel_rfl) (by kernel_rfl) (by kernel_rfl) ?hQRB4 ?hyRB4 (by assumption) ?restRB4
              case' hiRB4 => (first | (simp only [List.getElem?_toArray, List.getElem?_cons_succ, List.getElem?_cons_zero]; done) | (simp only [List.getElem?_toArray, List.getElem?_cons_succ, List.getElem?_cons_zero]; rfl))
              case' hQRB4 => exact fun _ _ _ h => h
              case' hyRB4 => refine Or.inl ⟨by rfl, ?_⟩
              (intro w hSw; (try dsimp only at hSw); go_simp; try with_reducible rfl)
              try simp only [Act.put, List.setIfInBounds_toArray, List.set_cons_zero, List.set_cons_succ]
              refine' wpAnyH_take (i := 5) (oi := _) (v := _) ?hiRB5 (by kernel_rfl) (by kernel_rfl) (by kernel_rfl) ?hQRB5 ?hyRB5 (by assumption) ?restRB5
              case' hiRB5 => (first | (simp only [List.getElem?_toArray, List.getElem?_cons_succ, List.getElem?_cons_zero]; done) | (simp only [List.getElem?_toArray, List.getElem?_cons_succ, List.getElem?_cons_zero]; rfl))
              case' hQRB5 => exact fun _ _ _ h => h
              case' hyRB5 => refine Or.inl ⟨by rfl, ?_⟩
              (intro w hSw; (try dsimp only at hSw); go_simp; try with_reducible rfl)
              try simp only [Act.put, List.setIfInBounds_toArray, List.set_cons_zero, List.set_cons_succ]
              refine' wpAnyH_take (i := 6) (oi := _) (v := _) ?hiRB6 (by kernel_rfl) (by kernel_rfl) (by kernel_rfl) ?hQRB6 ?hyRB6 (by assumption) ?restRB6
              case' hiRB6 => (first | (simp only [List.getElem?_toArray, List.getElem?_cons_succ, List.getElem?_cons_zero]; done) | (simp only [List.getElem?_toArray, List.getElem?_cons_succ, List.getElem?_cons_zero]; rfl))
              case' hQRB6 => exact fun _ _ _ h => h
              case' hyRB6 => refine Or.inl ⟨by rfl, ?_⟩
              (intro w hSw; (try dsimp only at hSw); go_simp; try with_reducible rfl)
              try simp only [Act.put, List.setIfInBounds_toArray, List.set_cons_zero, List.set_cons_succ]
              refine wpAnyH_ready (rs := [4]) (by kernel_rfl) (by simp) ?_
              refine' AllReadyH.cons (o := _) ?hiRB7 (fun K hK => ?hKRB7) AllReadyH.nil
              case' hiRB7 => (first | (simp only [List.getElem?_toArray, List.getElem?_cons_succ, List.getElem?_cons_zero]; done) | (simp only [List.getElem?_toArray, List.getElem?_cons_succ, List.getElem?_cons_zero]; rfl))
              go_simp
              (go_at_call 17; refine (LE.out _ (by first | exact Upd.refl _ _ | exact (Upd.refl _ _).drew)).mono ?_; rintro e w7 ⟨rfl, u7⟩; (have y7 := PS.out _ u7))
              refine hK.out _ _ ?_ (fun hHeld => ?_)
              · (try dsimp only); go_keep
              clear hK K
              try simp only [Act.put, List.setIfInBounds_toArray, List.set_cons_zero, List.set_cons_succ]
              refine' wpAnyH_take (i := 7) (oi := _) (v := _) ?hiRB8 (by kernel_rfl) (by kernel_rfl) (by kernel_rfl) ?hQRB8 ?hyRB8 (by assumption) ?restRB8
              case' hiRB8 => (first | (simp only [List.getElem?_toArray, List.getElem?_cons_succ, List.getElem?_cons_zero]; done) | (simp only [List.getElem?_toArray, List.getElem?_cons_succ, List.getElem?_cons_zero]; rfl))
              case' hQRB8 => exact fun _ _ _ h => h
              case' hyRB8 => refine Or.inl ⟨by rfl, ?_⟩
              (intro w hSw; (try dsimp only at hSw); go_simp; try with_reducible rfl)
              try simp only [Act.put, List.setIfInBounds_toArray, List.set_cons_zero, List.set_cons_succ]
              refine' wpAnyH_take (i := 8) (oi := _) (v := _) ?hiRB9 (by kernel_rfl) (by kernel_rfl) (by kernel_rfl) ?hQRB9 ?hyRB9 (by assumption) ?restRB9
              case' hiRB9 => (first | (simp only [List.getElem?_toArray, List.getElem?_cons_succ, List.getElem?_cons_zero]; done) | (simp only [List.getElem?_toArray, List.getElem?_cons_succ, List.getElem?_cons_zero]; rfl))
              case' hQRB9 => exact fun _ _ _ h => h
              case' hyRB9 => refine Or.inl ⟨by rfl, ?_⟩
              (intro w hSw; (try dsimp only at hSw); go_simp; try with_reducible rfl)
              try simp only [Act.put, List.setIfInBounds_toArray, List.set_cons_zero, List.set_cons_succ]
              refine' wpAnyH_take (i := 9) (oi := _) (v := _) ?hiRB10 (by kernel_rfl) (by kernel_rfl) (by kernel_rfl) ?hQRB10 ?hyRB10 (by assumption) ?restRB10
              case' hiRB10 => (first | (simp only [List.getElem?_toArray, List.getElem?_cons_succ, List.getElem?_cons_zero]; done) | (simp only [List.getElem?_toArray, List.getElem?_cons_succ, List.getElem?_cons_zero]; rfl))
              case' hQRB10 => exact fun _ _ _ h => h
              case' hyRB10 => refine Or.inl ⟨by rfl, ?_⟩
              (intro w hSw; (try dsimp only at hSw); go_simp; try with_reducible rfl)
              try simp only [Act.put, List.setIfInBounds_toArray, List.set_cons_zero, List.set_cons_succ]
              refine' wpAnyH_take (i := 10) (oi := _) (v := _) ?hiRB11 (by kernel_rfl) (by kernel_rfl) (by kernel_rfl) ?hQRB11 ?hyRB11 (by assumption) ?restRB11
              case' hiRB11 => (first | (simp only [List.getElem?_toArray, List.getElem?_cons_succ, List.getElem?_cons_zero]; done) | (simp only [List.getElem?_toArray, List.getElem?_cons_succ, List.getElem?_cons_zero]; rfl))
              case' hQRB11 => exact fun _ _ _ h => h
              case' hyRB11 => refine Or.inl ⟨by rfl, ?_⟩
              (intro w hSw; (try dsimp only at hSw); go_simp; try with_reducible rfl)
              try simp only [Act.put, List.setIfInBounds_toArray, List.set_cons_zero, List.set_cons_succ]
              refine' wpAnyH_take (i := 11) (oi := _) (v := _) ?hiRB12 (by kernel_rfl) (by kernel_rfl) (by kernel_rfl) ?hQRB12 ?hyRB12 (by assumption) ?restRB12
              case' hiRB12 => (first | (simp only [List.getElem?_toArray, List.getElem?_cons_succ, List.getElem?_cons_zero]; done) | (simp only [List.getElem?_toArray, List.getElem?_cons_succ, List.getElem?_cons_zero]; rfl))
              case' hQRB12 => exact fun _ _ _ h => h
              case' hyRB12 => refine Or.inl ⟨by rfl, ?_⟩
              (intro w hSw; (try dsimp only at hSw); go_simp; try with_reducible rfl)
              try simp only [Act.put, List.setIfInBounds_toArray, List.set_cons_zero, List.set_cons_succ]
              refine' wpAnyH_take (i := 12) (oi := _) (v := _) ?hiRB13 (by kernel_rfl) (by kernel_rfl) (by kernel_rfl) ?hQRB13 ?hyRB13 (by assumption) ?restRB13
              case' hiRB13 => (first | (simp only [List.getElem?_toArray, List.getElem?_cons_succ, List.getElem?_cons_zero]; done) | (simp only [List.getElem?_toArray, List.getElem?_cons_succ, List.getElem?_cons_zero]; rfl))
              case' hQRB13 => exact fun _ _ _ h => h
              case' hyRB13 => refine Or.inl ⟨by rfl, ?_⟩
              (intro w hSw; (try dsimp only at hSw); go_simp; try with_reducible rfl)
              try simp only [Act.put, List.setIfInBounds_toArray, List.set_cons_zero, List.set_cons_succ]
              refine' wpAnyH_take (i := 14) (oi := _) (v := _) ?hiRB14 (by kernel_rfl) (by kernel_rfl) (by kernel_rfl) ?hQRB14 ?hyRB14 (by assumption) ?restRB14
              case' hiRB14 => (first | (simp only [List.getElem?_toArray, List.getElem?_cons_succ, List.getElem?_cons_zero]; done) | (simp only [List.getElem?_toArray, List.getElem?_cons_succ, List.getElem?_cons_zero]; rfl))
              case' hQRB14 => exact fun _ _ _ h => h
              case' hyRB14 => refine Or.inl ⟨by rfl, ?_⟩
              (intro w hSw; (try dsimp only at hSw); go_simp; try with_reducible rfl)
              try simp only [Act.put, List.setIfInBounds_toArray, List.set_cons_zero, List.set_cons_succ]
              refine wpAnyH_ready (rs := [13]) (by kernel_rfl) (by simp) ?_
              refine' AllReadyH.cons (o := _) ?hiRB15 (fun K hK => ?hKRB15) AllReadyH.nil
              case' hiRB15 => (first | (simp only [List.getElem?_toArray, List.getElem?_cons_succ, List.getElem?_cons_zero]; done) | (simp only [List.getElem?_toArray, List.getElem?_cons_succ, List.getElem?_cons_zero]; rfl))
              go_simp
              (go_at_call 16; refine (ND.out w7 u7).mono ?_; rintro e w8 ⟨rfl, u8⟩; (have y8 := PS.out _ u8))
              refine hK.out _ _ ?_ (fun hHeld => ?_)
              · (try dsimp only); go_keep
              clear hK K
              try simp only [Act.put, List.setIfInBounds_toArray, List.set_cons_zero, List.set_cons_succ]
              refine wpAnyH_ready (rs := [15]) (by kernel_rfl) (by simp) ?_
              refine' AllReadyH.cons (o := _) ?hiRB16 (fun K hK => ?hKRB16) AllReadyH.nil
              case' hiRB16 => (first | (simp only [List.getElem?_toArray, List.getElem?_cons_succ, List.getElem?_cons_zero]; done) | (simp only [List.getElem?_toArray, List.getElem?_cons_succ, List.getElem?_cons_zero]; rfl))
              go_simp
              (go_at_call 24; refine (RN.out w8 u8).mono ?_; rintro e w9 ⟨rfl, u9⟩; (have y9 := PS.out _ u9))
              refine hK.out _ _ ?_ (fun hHeld => ?_)
              · (try dsimp only); go_keep
              clear hK K
              try simp only [Act.put, List.setIfInBounds_toArray, List.set_cons_zero, List.set_cons_succ]
              refine' wpAnyH_take (i := 16) (oi := _) (v := _) ?hiRB17 (by kernel_rfl) (by kernel_rfl) (by kernel_rfl) ?hQRB17 ?hyRB17 (by assumption) ?restRB17
              case' hiRB17 => (first | (simp only [List.getElem?_toArray, List.getElem?_cons_succ, List.getElem?_cons_zero]; done) | (simp only [List.getElem?_toArray, List.getElem?_cons_succ, List.getElem?_cons_zero]; rfl))
              case' hQRB17 => exact fun _ _ _ h => h
              case' hyRB17 => refine Or.inl ⟨by rfl, ?_⟩
              (intro w hSw; (try dsimp only at hSw); go_simp; try with_reducible rfl)
              try simp only [Act.put, List.setIfInBounds_toArray, List.set_cons_zero, List.set_cons_succ]
              refine' wpAnyH_take (i := 17) (oi := _) (v := _) ?hiRB18 (by kernel_rfl) (by kernel_rfl) (by kernel_rfl) ?hQRB18 ?hyRB18 (by assumption) ?restRB18
              case' hiRB18 => (first | (simp only [List.getElem?_toArray, List.getElem?_cons_succ, List.getElem?_cons_zero]; done) | (simp only [List.getElem?_toArray, List.getElem?_cons_succ, List.getElem?_cons_zero]; rfl))
              case' hQRB18 => exact fun _ _ _ h => h
              case' hyRB18 => refine Or.inl ⟨by rfl, ?_⟩
              (intro w hSw; (try dsimp only at hSw); go_simp; try with_reducible rfl)
              try simp only [Act.put, List.setIfInBounds_toArray, List.set_cons_zero, List.set_cons_succ]
              refine' wpAnyH_take (i := 18) (oi := _) (v := _) ?hiRB19 (by kernel_rfl) (by kernel_rfl) (by kernel_rfl) ?hQRB19 ?hyRB19 (by assumption) ?restRB19
              case' hiRB19 => (first | (simp only [List.getElem?_toArray, List.getElem?_cons_succ, List.getElem?_cons_zero]; done) | (simp only [List.getElem?_toArray, List.getElem?_cons_succ, List.getElem?_cons_zero]; rfl))
              case' hQRB19 => exact fun _ _ _ h => h
              case' hyRB19 => refine Or.inl ⟨by rfl, ?_⟩
              (intro w hSw; (try dsimp only at hSw); go_simp; try with_reducible rfl)
              try simp only [Act.put, List.setIfInBounds_toArray, List.set_cons_zero, List.set_cons_succ]
              refine' wpAnyH_take (i := 19) (oi := _) (v := _) ?hiRB20 (by kernel_rfl) (by kernel_rfl) (by kernel_rfl) ?hQRB20 ?hyRB20 (by assumption) ?restRB20
              case' hiRB20 => (first | (simp only [List.getElem?_toArray, List.getElem?_cons_succ, List.getElem?_cons_zero]; done) | (simp only [List.getElem?_toArray, List.getElem?_cons_succ, List.getElem?_cons_zero]; rfl))
              case' hQRB20 => exact fun _ _ _ h => h
              case' hyRB20 => refine Or.inl ⟨by rfl, ?_⟩
              (intro w hSw; (try dsimp only at hSw); go_simp; try with_reducible rfl)
              try simp only [Act.put, List.setIfInBounds_toArray, List.set_cons_zero, List.set_cons_succ]
              refine' wpAnyH_take (i := 20) (oi := _) (v := _) ?hiRB21 (by kernel_rfl) (by kernel_rfl) (by kernel_rfl) ?hQRB21 ?hyRB21 (by assumption) ?restRB21
              case' hiRB21 => (first | (simp only [List.getElem?_toArray, List.getElem?_cons_succ, List.getElem?_cons_zero]; done) | (simp only [List.getElem?_toArray, List.getElem?_cons_succ, List.getElem?_cons_zero]; rfl))
              case' hQRB21 => exact fun _ _ _ h => h
              case' hyRB21 => refine Or.inl ⟨by rfl, ?_⟩
              (intro w hSw; (try dsimp only at hSw); go_simp; try with_reducible rfl)
              try simp only [Act.put, List.setIfInBounds_toArray, List.set_cons_zero, List.set_cons_succ]
              refine' wpAnyH_take (i := 22) (oi := _) (v := _) ?hiRB22 (by kernel_rfl) (by kernel_rfl) (by kernel_rfl) ?hQRB22 ?hyRB22 (by assumption) ?restRB22
              case' hiRB22 => (first | (simp only [List.getElem?_toArray, List.getElem?_cons_succ, List.getElem?_cons_zero]; done) | (simp only [List.getElem?_toArray, List.getElem?_cons_succ, List.getElem?_cons_zero]; rfl))
              case' hQRB22 => exact fun _ _ _ h => h
              case' hyRB22 => refine Or.inl ⟨by rfl, ?_⟩
              (intro w hSw; (try dsimp only at hSw); go_simp; try with_reducible rfl)
              try simp only [Act.put, List.setIfInBounds_toArray, List.set_cons_zero, List.set_cons_succ]
              refine' wpAnyH_take (i := 23) (oi := _) (v := _) ?hiRB23 (by kernel_rfl) (by kernel_rfl) (by kernel_rfl) ?hQRB23 ?hyRB23 (by assumption) ?restRB23
              case' hiRB23 => (first | (simp only [List.getElem?_toArray, List.getElem?_cons_succ, List.getElem?_cons_zero]; done) | (simp only [List.getElem?_toArray, List.getElem?_cons_succ, List.getElem?_cons_zero]; rfl))
              case' hQRB23 => exact fun _ _ _ h => h
              case' hyRB23 => refine Or.inl ⟨by rfl, ?_⟩
              (intro w hSw; (try dsimp only at hSw); go_simp; try with_reducible rfl)
              try simp only [Act.put, List.setIfInBounds_toArray, List.set_cons_zero, List.set_cons_succ]
              refine wpAnyH_ready (rs := [21]) (by kernel_rfl) (by simp) ?_
              refine' AllReadyH.cons (o := _) ?hiRB24 (fun K hK => ?hKRB24) AllReadyH.nil
              case' hiRB24 => (first | (simp only [List.getElem?_toArray, List.getElem?_cons_succ, List.getElem?_cons_zero]; done) | (simp only [List.getElem?_toArray, List.getElem?_cons_succ, List.getElem?_cons_zero]; rfl))
              go_simp
              (go_at_call 31; refine (MA.out w9 u9).mono ?_; rintro e w10 ⟨v10, rfl, i10, v_10⟩; (have u10 := u9.trans v_10 (fun _ _ h => h)); (have y10 := PS.out _ u10))
              refine hK.out _ _ ?_ (fun hHeld => ?_)
              · (try dsimp only); go_keep
              clear hK K
              try simp only [Act.put, List.setIfInBounds_toArray, List.set_cons_zero, List.set_cons_succ]
              refine wpAnyH_ready (rs := [24]) (by kernel_rfl) (by simp) ?_
              refine' AllReadyH.cons (o := _) ?hiRB25 (fun K hK => ?hKRB25) AllReadyH.nil
              case' hiRB25 => (first | (simp only [List.getElem?_toArray, List.getElem?_cons_succ, List.getElem?_cons_zero]; done) | (simp only [List.getElem?_toArray, List.getElem?_cons_succ, List.getElem?_cons_zero]; rfl))
              go_simp
              (go_at_call 37; refine (MB.out w10 u10).mono ?_; rintro e w11 ⟨v11, rfl, i11, v_11⟩; (have i10 := i10.keep v_11 (fun _ _ _ h => h)); (have u11 := u10.trans v_11 (fun _ _ h => h)); (have y11 := PS.out _ u11))
              refine hK.out _ _ ?_ (fun hHeld => ?_)
              · (try dsimp only); go_keep
              clear hK K
              try simp only [Act.put, List.setIfInBounds_toArray, List.set_cons_zero, List.set_cons_succ]
              refine wpAnyH_ready (rs := [25]) (by kernel_rfl) (by simp) ?_
              refine' AllReadyH.cons (o := _) ?hiRB26 (fun K hK => ?hKRB26) AllReadyH.nil
              case' hiRB26 => (first | (simp only [List.getElem?_toArray, List.getElem?_cons_succ, List.getElem?_cons_zero]; done) | (simp only [List.getElem?_toArray, List.getElem?_cons_succ, List.getElem?_cons_zero]; rfl))
              go_simp
              (go_at_call 32; refine (S1.out v10 v11 w11 i10 i11).mono ?_; rintro e w12 ⟨rfl, v_12⟩; (have u12 := u11.trans v_12 (fun _ _ h => h)); (have y12 := PS.out _ u12); clear i10 i11)
              refine hK.out _ _ ?_ (fun hHeld => ?_)
              · (try dsimp only); go_keep
              clear hK K
              try simp only [Act.put, List.setIfInBounds_toArray, List.set_cons_zero, List.set_cons_succ]
              refine' wpAnyH_take (i := 26) (oi := _) (v := _) ?hiRB27 (by kernel_rfl) (by kernel_rfl) (by kernel_rfl) ?hQRB27 ?hyRB27 (by assumption) ?restRB27
              case' hiRB27 => (first | (simp only [List.getElem?_toArray, List.getElem?_cons_succ, List.getElem?_cons_zero]; done) | (simp only [List.getElem?_toArray, List.getElem?_cons_succ, List.getElem?_cons_zero]; rfl))
              case' hQRB27 => exact fun _ _ _ h => h
              case' hyRB27 => refine Or.inl ⟨by rfl, ?_⟩
              (intro w hSw; (try dsimp only at hSw); go_simp; try with_reducible rfl)
              try simp only [Act.put, List.setIfInBounds_toArray, List.set_cons_zero, List.set_cons_succ]
              refine' wpAnyH_take (i := 27) (oi := _) (v := _) ?hiRB28 (by kernel_rfl) (by kernel_rfl) (by kernel_rfl) ?hQRB28 ?hyRB28 (by assumption) ?restRB28
              case' hiRB28 => (first | (simp only [List.getElem?_toArray, List.getElem?_cons_succ, List.getElem?_cons_zero]; done) | (simp only [List.getElem?_toArray, List.getElem?_cons_succ, List.getElem?_cons_zero]; rfl))
              case' hQRB28 => exact fun _ _ _ h => h
              case' hyRB28 => refine Or.inl ⟨by rfl, ?_⟩
              (intro w hSw; (try dsimp only at hSw); go_simp; try with_reducible rfl)
              try simp only [Act.put, List.setIfInBounds_toArray, List.set_cons_zero, List.set_cons_succ]
              refine' wpAnyH_take (i := 28) (oi := _) (v := _) ?hiRB29 (by kernel_rfl) (by kernel_rfl) (by kernel_rfl) ?hQRB29 ?hyRB29 (by assumption) ?restRB29
              case' hiRB29 => (first | (simp only [List.getElem?_toArray, List.getElem?_cons_succ, List.getElem?_cons_zero]; done) | (simp only [List.getElem?_toArray, List.getElem?_cons_succ, List.getElem?_cons_zero]; rfl))
              case' hQRB29 => exact fun _ _ _ h => h
              case' hyRB29 => refine Or.inl ⟨by rfl, ?_⟩
              (intro w hSw; (try dsimp only at hSw); go_simp; try with_reducible rfl)
              try simp only [Act.put, List.setIfInBounds_toArray, List.set_cons_zero, List.set_cons_succ]
              refine' wpAnyH_take (i := 29) (oi := _) (v := _) ?hiRB30 (by kernel_rfl) (by kernel_rfl) (by kernel_rfl) ?hQRB30 ?hyRB30 (by assumption) ?restRB30
              case' hiRB30 => (first | (simp only [List.getElem?_toArray, List.getElem?_cons_succ, List.getElem?_cons_zero]; done) | (simp only [List.getElem?_toArray, List.getElem?_cons_succ, List.getElem?_cons_zero]; rfl))
              case' hQRB30 => exact fun _ _ _ h => h
              case' hyRB30 => refine Or.inl ⟨by rfl, ?_⟩
              (intro w hSw; (try dsimp only at hSw); go_simp; try with_reducible rfl)
              try simp only [Act.put, List.setIfInBounds_toArray, List.set_cons_zero, List.set_cons_succ]
              refine' wpAnyH_take (i := 30) (oi := _) (v := _) ?hiRB31 (by kernel_rfl) (by kernel_rfl) (by kernel_rfl) ?hQRB31 ?hyRB31 (by assumption) ?restRB31
              case' hiRB31 => (first | (simp only [List.getElem?_toArray, List.getElem?_cons_succ, List.getElem?_cons_zero]; done) | (simp only [List.getElem?_toArray, List.getElem?_cons_succ, List.getElem?_cons_zero]; rfl))
              case' hQRB31 => exact fun _ _ _ h => h
              case' hyRB31 => refine Or.inl ⟨by rfl, ?_⟩
              (intro w hSw; (try dsimp only at hSw); go_simp; try with_reducible rfl)
              try simp only [Act.put, List.setIfInBounds_toArray, List.set_cons_zero, List.set_cons_succ]
              refine' wpAnyH_take (i := 31) (oi := _) (v := _) ?hiRB32 (by kernel_rfl) (by kernel_rfl) (by kernel_rfl) ?hQRB32 ?hyRB32 (by assumption) ?restRB32
              case' hiRB32 => (first | (simp only [List.getElem?_toArray, List.getElem?_cons_succ, List.getElem?_cons_zero]; done) | (simp only [List.getElem?_toArray, List.getElem?_cons_succ, List.getElem?_cons_zero]; rfl))
              case' hQRB32 => exact fun _ _ _ h => h
              case' hyRB32 => refine Or.inl ⟨by rfl, ?_⟩
              (intro w hSw; (try dsimp only at hSw); go_simp; try with_reducible rfl)
              try simp only [Act.put, List.setIfInBounds_toArray, List.set_cons_zero, List.set_cons_succ]
              refine' wpAnyH_take (i := 33) (oi := _) (v := _) ?hiRB33 (by kernel_rfl) (by kernel_rfl) (by kernel_rfl) ?hQRB33 ?hyRB33 (by assumption) ?restRB33
              case' hiRB33 => (first | (simp only [List.getElem?_toArray, List.getElem?_cons_succ, List.getElem?_cons_zero]; done) | (simp only [List.getElem?_toArray, List.getElem?_cons_succ, List.getElem?_cons_zero]; rfl))
              case' hQRB33 => exact fun _ _ _ h => h
              case' hyRB33 => refine Or.inl ⟨by rfl, ?_⟩
              (intro w hSw; (try dsimp only at hSw); go_simp; try with_reducible rfl)
              try simp only [Act.put, List.setIfInBounds_toArray, List.set_cons_zero, List.set_cons_succ]
              refine' wpAnyH_take (i := 34) (oi := _) (v := _) ?hiRB34 (by kernel_rfl) (by kernel_rfl) (by kernel_rfl) ?hQRB34 ?hyRB34 (by assumption) ?restRB34
              case' hiRB34 => (first | (simp only [List.getElem?_toArray, List.getElem?_cons_succ, List.getElem?_cons_zero]; done) | (simp only [List.getElem?_toArray, List.getElem?_cons_succ, List.getElem?_cons_zero]; rfl))
              case' hQRB34 => exact fun _ _ _ h => h
              case' hyRB34 => refine Or.inl ⟨by rfl, ?_⟩
              (intro w hSw; (try dsimp only at hSw); go_simp; try with_reducible rfl)
              try simp only [Act.put, List.setIfInBounds_toArray, List.set_cons_zero, List.set_cons_succ]
              refine' wpAnyH_take (i := 35) (oi := _) (v := _) ?hiRB35 (by kernel_rfl) (by kernel_rfl) (by kernel_rfl) ?hQRB35 ?hyRB35 (by assumption) ?restRB35
              case' hiRB35 => (first | (simp only [List.getElem?_toArray, List.getElem?_cons_succ, List.getElem?_cons_zero]; done) | (simp only [List.getElem?_toArray, List.getElem?_cons_succ, List.getElem?_cons_zero]; rfl))
              case' hQRB35 => exact fun _ _ _ h => h
              case' hyRB35 => refine Or.inl ⟨by rfl, ?_⟩
              (intro w hSw; (try dsimp only at hSw); go_simp; try with_reducible rfl)
              try simp only [Act.put, List.setIfInBounds_toArray, List.set_cons_zero, List.set_cons_succ]
              refine wpAnyH_ready (rs := [32]) (by kernel_rfl) (by simp) ?_
              refine' AllReadyH.cons (o := _) ?hiRB36 (fun K hK => ?hKRB36) AllReadyH.nil
              case' hiRB36 => (first | (simp only [List.getElem?_toArray, List.getElem?_cons_succ, List.getElem?_cons_zero]; done) | (simp only [List.getElem?_toArray, List.getElem?_cons_succ, List.getElem?_cons_zero]; rfl))
              go_simp
              (go_at_call 39; refine (OA.out w12 u12).mono ?_; rintro e w13 ⟨v13, rfl, i13, v_13⟩; (have u13 := u12.trans v_13 (fun _ _ h => h)); (have y13 := PS.out _ u13))
              refine hK.out _ _ ?_ (fun hHeld => ?_)
              · (try dsimp only); go_keep
              clear hK K
              try simp only [Act.put, List.setIfInBounds_toArray, List.set_cons_zero, List.set_cons_succ]
              refine wpAnyH_ready (rs := [36]) (by kernel_rfl) (by simp) ?_
              refine' AllReadyH.cons (o := _) ?hiRB37 (fun K hK => ?hKRB37) AllReadyH.nil
              case' hiRB37 => (first | (simp only [List.getElem?_toArray, List.getElem?_cons_succ, List.getElem?_cons_zero]; done) | (simp only [List.getElem?_toArray, List.getElem?_cons_succ, List.getElem?_cons_zero]; rfl))
              go_simp
              (go_at_call 40; refine (OB.out w13 u13).mono ?_; rintro e w14 ⟨v14, rfl, i14, v_14⟩; (have i13 := i13.keep v_14 (fun _ _ _ h => h)); (have u14 := u13.trans v_14 (fun _ _ h => h)); (have y14 := PS.out _ u14))
              refine hK.out _ _ ?_ (fun hHeld => ?_)
              · (try dsimp only); go_keep
              clear hK K
              try simp only [Act.put, List.setIfInBounds_toArray, List.set_cons_zero, List.set_cons_succ]
              refine wpAnyH_ready (rs := [37]) (by kernel_rfl) (by simp) ?_
              refine' AllReadyH.cons (o := _) ?hiRB38 (fun K hK => ?hKRB38) AllReadyH.nil
              case' hiRB38 => (first | (simp only [List.getElem?_toArray, List.getElem?_cons_succ, List.getElem?_cons_zero]; done) | (simp only [List.getElem?_toArray, List.getElem?_cons_succ, List.getElem?_cons_zero]; rfl))
              go_simp
              (go_at_call 38; refine (S2.out v13 v14 w14 i13 i14).mono ?_; rintro e w15 ⟨rfl, v_15⟩; (have u15 := u14.trans v_15 (fun _ _ h => h)); (have y15 := PS.out _ u15); clear i13 i14)
              refine hK.out _ _ ?_ (fun hHeld => ?_)
              · (try dsimp only); go_keep
              clear hK K
              try simp only [Act.put, List.setIfInBounds_toArray, List.set_cons_zero, List.set_cons_succ]
              refine' wpAnyH_take (i := 38) (oi := _) (v := _) ?hiRB39 (by kernel_rfl) (by kernel_rfl) (by kernel_rfl) ?hQRB39 ?hyRB39 (by assumption) ?restRB39
              case' hiRB39 => (first | (simp only [List.getElem?_toArray, List.getElem?_cons_succ, List.getElem?_cons_zero]; done) | (simp only [List.getElem?_toArray, List.getElem?_cons_succ, List.getElem?_cons_zero]; rfl))
              case' hQRB39 => exact fun _ _ _ h => h
              case' hyRB39 => refine Or.inl ⟨by rfl, ?_⟩
              (intro w hSw; (try dsimp only at hSw); go_simp; try with_reducible rfl)
              try simp only [Act.put, List.setIfInBounds_toArray, List.set_cons_zero, List.set_cons_succ]
              refine' wpAnyH_take (i := 39) (oi := _) (v := _) ?hiRB40 (by kernel_rfl) (by kernel_rfl) (by kernel_rfl) ?hQRB40 ?hyRB40 (by assumption) ?restRB40
              case' hiRB40 => (first | (simp only [List.getElem?_toArray, List.getElem?_cons_succ, List.getElem?_cons_zero]; done) | (simp only [List.getElem?_toArray, List.getElem?_cons_succ, List.getElem?_cons_zero]; rfl))
              case' hQRB40 => exact fun _ _ _ h => h
              case' hyRB40 => refine Or.inl ⟨by rfl, ?_⟩
              (intro w hSw; (try dsimp only at hSw); go_simp; try with_reducible rfl)
              try simp only [Act.put, List.setIfInBounds_toArray, List.set_cons_zero, List.set_cons_succ]
              refine' wpAnyH_take (i := 40) (oi := _) (v := _) ?hiRB41 (by kernel_rfl) (by kernel_rfl) (by kernel_rfl) ?hQRB41 ?hyRB41 (by assumption) ?restRB41
              case' hiRB41 => (first | (simp only [List.getElem?_toArray, List.getElem?_cons_succ, List.getElem?_cons_zero]; done) | (simp only [List.getElem?_toArray, List.getElem?_cons_succ, List.getElem?_cons_zero]; rfl))
              case' hQRB41 => exact fun _ _ _ h => h
              case' hyRB41 => refine Or.inl ⟨by rfl, ?_⟩
              (intro w hSw; (try dsimp only at hSw); go_simp; try with_reducible rfl)
              try simp only [Act.put, List.setIfInBounds_toArray, List.set_cons_zero, List.set_cons_succ]
              refine' wpAnyH_take (i := 41) (oi := _) (v := _) ?hiRB42 (by kernel_rfl) (by kernel_rfl) (by kernel_rfl) ?hQRB42 ?hyRB42 (by assumption) ?restRB42
              case' hiRB42 => (first | (simp only [List.getElem?_toArray, List.getElem?_cons_succ, List.getElem?_cons_zero]; done) | (simp only [List.getElem?_toArray, List.getElem?_cons_succ, List.getElem?_cons_zero]; rfl))
              case' hQRB42 => exact fun _ _ _ h => h
              case' hyRB42 => refine Or.inl ⟨by rfl, ?_⟩
              (intro w hSw; (try dsimp only at hSw); go_simp; try with_reducible rfl)
              try simp only [Act.put, List.setIfInBounds_toArray, List.set_cons_zero, List.set_cons_succ]
              refine' wpAnyH_take (i := 42) (oi := _) (v := _) ?hiRB43 (by kernel_rfl) (by kernel_rfl) (by kernel_rfl) ?hQRB43 ?hyRB43 (by assumption) ?restRB43
              case' hiRB43 => (first | (simp only [List.getElem?_toArray, List.getElem?_cons_succ, List.getElem?_cons_zero]; done) | (simp only [List.getElem?_toArray, List.getElem?_cons_succ, List.getElem?_cons_zero]; rfl))
              case' hQRB43 => exact fun _ _ _ h => h
              case' hyRB43 => refine Or.inl ⟨by rfl, ?_⟩
              (intro w hSw; (try dsimp only at hSw); go_simp; try with_reducible rfl)
              try simp only [Act.put, List.setIfInBounds_toArray, List.set_cons_zero, List.set_cons_succ]
              refine' wpAnyH_take (i := 43) (oi := _) (v := _) ?hiRB44 (by kernel_rfl) (by kernel_rfl) (by kernel_rfl) ?hQRB44 ?hyRB44 (by assumption) ?restRB44
              case' hiRB44 => (first | (simp only [List.getElem?_toArray, List.getElem?_cons_succ, List.getElem?_cons_zero]; done) | (simp only [List.getElem?_toArray, List.getElem?_cons_succ, List.getElem?_cons_zero]; rfl))
              case' hQRB44 => exact fun _ _ _ h => h
              case' hyRB44 => refine Or.inl ⟨by rfl, ?_⟩
              (intro w hSw; (try dsimp only at hSw); go_simp; try with_reducible rfl)
              try simp only [Act.put, List.setIfInBounds_toArray, List.set_cons_zero, List.set_cons_succ]
              refine' wpAnyH_take (i := 44) (oi := _) (v := _) ?hiRB45 (by kernel_rfl) (by kernel_rfl) (by kernel_rfl) ?hQRB45 ?hyRB45 (by assumption) ?restRB45
              case' hiRB45 => (first | (simp only [List.getElem?_toArray, List.getElem?_cons_succ, List.getElem?_cons_zero]; done) | (simp only [List.getElem?_toArray, List.getElem?_cons_succ, List.getElem?_cons_zero]; rfl))
              case' hQRB45 => exact fun _ _ _ h => h
              case' hyRB45 => refine Or.inl ⟨by rfl, ?_⟩
              (intro w hSw; (try dsimp only at hSw); go_simp; try with_reducible rfl)
              try simp only [Act.put, List.setIfInBounds_toArray, List.set_cons_zero, List.set_cons_succ]
              refine' wpAnyH_take (i := 45) (oi := _) (v := _) ?hiRB46 (by kernel_rfl) (by kernel_rfl) (by kernel_rfl) ?hQRB46 ?hyRB46 (by assumption) ?restRB46
              case' hiRB46 => (first | (simp only [List.getElem?_toArray, List.getElem?_cons_succ, List.getElem?_cons_zero]; done) | (simp only [List.getElem?_toArray, List.getElem?_cons_succ, List.getElem?_cons_zero]; rfl))
              case' hQRB46 => exact fun _ _ _ h => h
              case' hyRB46 => refine Or.inl ⟨by rfl, ?_⟩
              (intro w hSw; (try dsimp only at hSw); go_simp; try with_reducible rfl)
              try simp only [Act.put, List.setIfInBounds_toArray, List.set_cons_zero, List.set_cons_succ]
              refine' wpAnyH_take (i := 47) (oi := _) (v := _) ?hiRB47 (by kernel_rfl) (by kernel_rfl) (by kernel_rfl) ?hQRB47 ?hyRB47 (by assumption) ?restRB47
              case' hiRB47 => (first | (simp only [List.getElem?_toArray, List.getElem?_cons_succ, List.getElem?_cons_zero]; done) | (simp only [List.getElem?_toArray, List.getElem?_cons_succ, List.getElem?_cons_zero]; rfl))
              case' hQRB47 => exact fun _ _ _ h => h
              case' hyRB47 => refine Or.inl ⟨by rfl, ?_⟩
              (intro w hSw; (try dsimp only at hSw); go_simp; try with_reducible rfl)
              try simp only [Act.put, List.setIfInBounds_toArray, List.set_cons_zero, List.set_cons_succ]
              refine' wpAnyH_take (i := 48) (oi := _) (v := _) ?hiRB48 (by kernel_rfl) (by kernel_rfl) (by kernel_rfl) ?hQRB48 ?hyRB48 (by assumption) ?restRB48
              case' hiRB48 => (first | (simp only [List.getElem?_toArray, List.getElem?_cons_succ, List.getElem?_cons_zero]; done) | (simp only [List.getElem?_toArray, List.getElem?_cons_succ, List.getElem?_cons_zero]; rfl))
              case' hQRB48 => exact fun _ _ _ h => h
              case' hyRB48 => refine Or.inl ⟨by rfl, ?_⟩
              (intro w hSw; (try dsimp only at hSw); go_simp; try with_reducible rfl)
              try simp only [Act.put, List.setIfInBounds_toArray, List.set_cons_zero, List.set_cons_succ]
              refine' wpAnyH_take (i := 49) (oi := _) (v := _) ?hiRB49 (by kernel_rfl) (by kernel_rfl) (by kernel_rfl) ?hQRB49 ?hyRB49 (by assumption) ?restRB49
              case' hiRB49 => (first | (simp only [List.getElem?_toArray, List.getElem?_cons_succ, List.getElem?_cons_zero]; done) | (simp only [List.getElem?_toArray, List.getElem?_cons_succ, List.getElem?_cons_zero]; rfl))
              case' hQRB49 => exact fun _ _ _ h => h
              case' hyRB49 => refine Or.inl ⟨by rfl, ?_⟩
              (intro w hSw; (try dsimp only at hSw); go_simp; try with_reducible rfl)
              try simp only [Act.put, List.setIfInBounds_toArray, List.set_cons_zero, List.set_cons_succ]
              refine' wpAnyH_take (i := 50) (oi := _) (v := _) ?hiRB50 (by kernel_rfl) (by kernel_rfl) (by kernel_rfl) ?hQRB50 ?hyRB50 (by assumption) ?restRB50
              case' hiRB50 => (first | (simp only [List.getElem?_toArray, List.getElem?_cons_succ, List.getElem?_cons_zero]; done) | (simp only [List.getElem?_toArray, List.getElem?_cons_succ, List.getElem?_cons_zero]; rfl))
              case' hQRB50 => exact fun _ _ _ h => h
              case' hyRB50 => refine Or.inl ⟨by rfl, ?_⟩
              (intro w hSw; (try dsimp only at hSw); go_simp; try with_reducible rfl)
              try simp only [Act.put, List.setIfInBounds_toArray, List.set_cons_zero, List.set_cons_succ]
              refine' wpAnyH_take (i := 51) (oi := _) (v := _) ?hiRB51 (by kernel_rfl) (by kernel_rfl) (by kernel_rfl) ?hQRB51 ?hyRB51 (by assumption) ?restRB51
              case' hiRB51 => (first | (simp only [List.getElem?_toArray, List.getElem?_cons_succ, List.getElem?_cons_zero]; done) | (simp only [List.getElem?_toArray, List.getElem?_cons_succ, List.getElem?_cons_zero]; rfl))
              case' hQRB51 => exact fun _ _ _ h => h
              case' hyRB51 => refine Or.inl ⟨by rfl, ?_⟩
              (intro w hSw; (try dsimp only at hSw); go_simp; try with_reducible rfl)
              try simp only [Act.put, List.setIfInBounds_toArray, List.set_cons_zero, List.set_cons_succ]
              refine wpAnyH_ready (rs := [46]) (by kernel_rfl) (by simp) ?_
              refine' AllReadyH.cons (o := _) ?hiRB52 (fun K hK => ?hKRB52) AllReadyH.nil
              case' hiRB52 => (first | (simp only [List.getElem?_toArray, List.getElem?_cons_succ, List.getElem?_cons_zero]; done) | (simp only [List.getElem?_toArray, List.getElem?_cons_succ, List.getElem?_cons_zero]; rfl))
              go_simp
              (go_at_call 31; refine (MC.out w15 u15).mono ?_; rintro e w16 ⟨v16, rfl, i16, v_16⟩; (have u16 := u15.trans v_16 (fun _ _ h => h)); (have y16 := PS.out _ u16))
              refine hK.out _ _ ?_ (fun hHeld => ?_)
              · (try dsimp only); go_keep
              clear hK K
              try simp only [Act.put, List.setIfInBounds_toArray, List.set_cons_zero, List.set_cons_succ]
              refine wpAnyH_ready (rs := [52]) (by kernel_rfl) (by simp) ?_
              refine' AllReadyH.cons (o := _) ?hiRB53 (fun K hK => ?hKRB53) AllReadyH.nil
              case' hiRB53 => (first | (simp only [List.getElem?_toArray, List.getElem?_cons_succ, List.getElem?_cons_zero]; done) | (simp only [List.getElem?_toArray, List.getElem?_cons_succ, List.getElem?_cons_zero]; rfl))
              go_simp
              (go_at_call 37; refine (MD.out w16 u16).mono ?_; rintro e w17 ⟨v17, rfl, i17, v_17⟩; (have i16 := i16.keep v_17 (fun _ _ _ h => h)); (have u17 := u16.trans v_17 (fun _ _ h => h)); (have y17 := PS.out _ u17))
              refine hK.out _ _ ?_ (fun hHeld => ?_)
              · (try dsimp only); go_keep
              clear hK K
              try simp only [Act.put, List.setIfInBounds_toArray, List.set_cons_zero, List.set_cons_succ]
              refine wpAnyH_ready (rs := [53]) (by kernel_rfl) (by simp) ?_
              refine' AllReadyH.cons (o := _) ?hiRB54 (fun K hK => ?hKRB54) AllReadyH.nil
              case' hiRB54 => (first | (simp only [List.getElem?_toArray, List.getElem?_cons_succ, List.getElem?_cons_zero]; done) | (simp only [List.getElem?_toArray, List.getElem?_cons_succ, List.getElem?_cons_zero]; rfl))
              go_simp
              (go_at_call 32; refine (S3.out v16 v17 w17 i16 i17).mono ?_; rintro e w18 ⟨rfl, v_18⟩; (have u18 := u17.trans v_18 (fun _ _ h => h)); (have y18 := PS.out _ u18); clear i16 i17)
              refine hK.out _ _ ?_ (fun hHeld => ?_)
              · (try dsimp only); go_keep
              clear hK K
              try simp only [Act.put, List.setIfInBounds_toArray, List.set_cons_zero, List.set_cons_succ]
              refine' wpAnyH_take (i := 54) (oi := _) (v := _) ?hiRB55 (by kernel_rfl) (by kernel_rfl) (by kernel_rfl) ?hQRB55 ?hyRB55 (by assumption) ?restRB55
              case' hiRB55 => (first | (simp only [List.getElem?_toArray, List.getElem?_cons_succ, List.getElem?_cons_zero]; done) | (simp only [List.getElem?_toArray, List.getElem?_cons_succ, List.getElem?_cons_zero]; rfl))
              case' hQRB55 => exact fun _ _ _ h => h
              case' hyRB55 => refine Or.inl ⟨by rfl, ?_⟩
              (intro w hSw; (try dsimp only at hSw); go_simp; try with_reducible rfl)
              try simp only [Act.put, List.setIfInBounds_toArray, List.set_cons_zero, List.set_cons_succ]
              refine' wpAnyH_take (i := 55) (oi := _) (v := _) ?hiRB56 (by kernel_rfl) (by kernel_rfl) (by kernel_rfl) ?hQRB56 ?hyRB56 (by assumption) ?restRB56
              case' hiRB56 => (first | (simp only [List.getElem?_toArray, List.getElem?_cons_succ, List.getElem?_cons_zero]; done) | (simp only [List.getElem?_toArray, List.getElem?_cons_succ, List.getElem?_cons_zero]; rfl))
              case' hQRB56 => exact fun _ _ _ h => h
              case' hyRB56 => refine Or.inl ⟨by rfl, ?_⟩
              (intro w hSw; (try dsimp only at hSw); go_simp; try with_reducible rfl)
              try simp only [Act.put, List.setIfInBounds_toArray, List.set_cons_zero, List.set_cons_succ]
              refine wpAnyH_done (by kernel_rfl) ?_ _
              have PF : Hid (PrefS w w18 base pb (.slice p4 L2.length c4) L2 (k + 1)) := ⟨(PS6.out.keep0 u18).less (fun b hb => Or.inl hb), R6.out.keep u18 (fun _ _ _ h => h), NDP2.out, hL2, KEY2.out, U6.out.trans u18 (fun _ _ h => h), PP.out.lo⟩
              go_wp2
              go_roundw
              case rel => exact ⟨k + 1, L2, by simp, by omega, PF⟩
              case measure => simp [intOf]; omega
        · have q1 : ¬ (k : Int) < (l.length : Int) := by omega
          have UR := Lib.hid PP.out.upd
          clear PP
          go_wp2
          go_ret
          exact ⟨rfl, UR.out⟩
end Go.Proofs.Ytnlbmplbaalgmaa
