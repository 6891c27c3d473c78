/- The document's rows of keys: Add. -/
import Derived.Test.YthgojhchakclcaaRefL
import Derived.Test.YthgojhchakclcaaKeyG
set_option linter.unusedVariables false
set_option linter.unusedSimpArgs false
set_option linter.unusedSectionVars false
namespace Go.Proofs.Ythgojhchakclcaa
open Go.RowKit

theorem addr_addN (g o j : Nat) : (⟨g, o, none⟩ : Addr).add j = ⟨g, o + j, none⟩ := Addr.add_lit ..
/-- The rest of rows, as a row that is read. -/
theorem rows_rest (g na cc a : Nat) (h1 : a ≤ na) : ∃ V, (∀ w, (Instr.slice 47 (.slice (some ⟨g, 0, none⟩) na cc) (some (.int .i64 (a : Int))) none none).run Try.prog w = .ok V w) ∧
    ∀ (w : World) (base : Nat) (T : List RowK), RowsAt w base (.slice (some ⟨g, 0, none⟩) na cc) T → RowOf rowkc 2 w V (T.drop a) := by
  have hE : Try.prog.elem 47 = 78 := by simp [Program.elem, Try.underlying47]
  refine ⟨_, fun w => by rw [run_slice_l (P := Try.prog) w 47 _ na cc (by rw [hE]; exact Try.underlying47) .i64 (a : Int) (by omega) (by omega), hE, Try.sizeOf78]; rfl, fun w base T h => ?_⟩
  rcases h.blk with ⟨e, _⟩ | ⟨g', cap, cs, ev, hg, hB, hc, hm, hle⟩
  · cases e
  simp only [Value.slice.injEq] at ev
  obtain ⟨ev1, hnl, rfl⟩ := ev
  unfold sliced
  rw [Int.toNat_natCast]
  split
  · rename_i hcc
    have h0 : T.drop a = [] := List.drop_eq_nil_of_le (by omega)
    rw [h0]
    exact Or.inl ⟨_, _, by rw [show na - a = 0 by omega], rfl⟩
  · refine Or.inr ⟨g, a * 2, cc - a, by simp [addr_addN, hnl], by injection ev1 with e; injection e with e; rw [e]; exact hB.lt, by simp; omega, fun i t hi j hj => ?_⟩
    rw [List.getElem?_drop] at hi
    have := h.cell (i := a + i) (j := j) (fun _ => rfl) hj hi
    rw [← this]; congr 1; rw [Addr.mk.injEq]; refine ⟨rfl, ?_, rfl⟩; rw [Nat.add_mul]; omega
theorem aget_of_mem {ν : Type} {L : List (ByteArray × ν)} (hn : (akeys L).Nodup) {p : ByteArray × ν} (hp : p ∈ L) : aget L p.1 = some p.2 := by
  induction L with
  | nil => simp at hp
  | cons q L ih =>
    simp only [akeys, List.map_cons, List.nodup_cons] at hn
    rcases List.mem_cons.1 hp with rfl | hp
    · simp only [aget, if_pos]
    · have : q.1 ≠ p.1 := fun e => hn.1 (by rw [e]; exact List.mem_map_of_mem hp)
      simp only [aget, if_neg this]; exact ih hn.2 hp
theorem rise_of {L : Rows14} {n : Nat} (h : KInv L n) (hn : (akeys L).Nodup) {p : ByteArray × List Int} (hp : p ∈ L) : Rising p.2 := (h.rise p.1 p.2 (aget_of_mem hn hp)).1
theorem RefRaw.of {w : World} {base wb : Nat} {most : Int} {v0 v' : Value} {T' : List RowK} (hB : Blk w wb [v0, .int .i64 most] 49) (lo : base ≤ wb) (h2 : RowsOk14 w base v' T') : RefRaw (w.setCell ⟨wb, 0, none⟩ v') base wb most v' T' := by
  have u : Upd (fun b => b = wb) w (w.setCell ⟨wb, 0, none⟩ v') := (Upd.refl _ _).set (fun _ => rfl)
  refine ⟨hB.set 0 v', lo, h2.rows.keep u (fun b hb e => ?_), fun t ht => (h2.ids t ht).keep u (fun b hb e => ?_)⟩
  · subst e; obtain ⟨_, _, cs, hB'⟩ := h2.rows.lt hb; exact absurd (hB.ty hB') (by decide)
  · subst e; obtain ⟨_, _, cs, hB'⟩ := ints_blkN (h2.ids t ht) hb; exact absurd (hB.ty hB') (by decide)
set_option maxHeartbeats 8000000 in
set_option maxRecDepth 100000 in
theorem ref_add {w : World} {base wb : Nat} {most : Int} {v : Value} {T : List RowK} (h : RefRaw w base wb most v T) (hl : T.length ≤ 10000) (hls : ∀ t ∈ T, Rising t.ids ∧ t.ids.length ≤ 10000) (hmost : 1 ≤ most) (hbase : base ≤ w.heap.size) (key : ByteArray) (id : Int) :
    Calls Try.prog 13 #[.pointer (some ⟨wb, 0, none⟩), .string key, .int .i64 id] w fun e w' => ∃ u v' T', e = .returned (.tuple #[.string (add14 most (T.map rk) key id).1, u, .bool (add14 most (T.map rk) key id).2.2.1]) ∧ IntsAt w' base u (add14 most (T.map rk) key id).2.1 ∧
      T'.map rk = (add14 most (T.map rk) key id).2.2.2 ∧ RefRaw w' base wb most v' T' ∧ Upd (refW wb v) w w' ∧ From2 (refF wb v T) (refF wb v' T') w := by
  have LS := Lib.hid hls
  clear hls
  obtain ⟨p, c, ev, hm, hle⟩ := h.rows.slice
  subst ev
  unfold maxLen at hm
  have H := Lib.hid h
  obtain ⟨nl, hnl⟩ : ∃ nl, nl = T.length := ⟨_, rfl⟩
  have NL := Lib.hid hnl
  have B0 := Lib.hid h.blk
  have x0 := h.blk.cellAt (i := 0) (v := .slice p T.length c) rfl
  have x1 := h.blk.cellAt (i := 1) (v := .int .i64 most) rfl
  rw [← hnl] at hl hm hle x0
  clear h hnl
  have hwb := B0.out.lt
  go_enter Try.func13, Try.ntmps13
  go_wp2
  go_loopw [18] (fun xi wr => ∃ (k : Nat), k ≤ nl ∧ xi = .int .i64 (k : Int) ∧ Hid (∀ t ∈ T.take k, t.key ≠ key) ∧ Hid (Upd (fun _ => False) w wr)) (fun xi _ => nl - (intOf xi).toNat)
  case atStart => exact ⟨0, by omega, rfl, Lib.hid (by simp), Lib.hid (Upd.refl _ _)⟩
  case round =>
    obtain ⟨k, hk, rfl, NI, U⟩ := hrel
    by_cases hlt : k < nl
    · have hwl := U.out.size
      have hkl : k < T.length := by rw [← NL.out]; exact hlt
      have q1 : (k : Int) < (nl : Int) := by omega
      have HR := Lib.hid (H.out.keep0 U.out)
      obtain ⟨b, t, ep, hb, hbs, htk, c0, c1⟩ := rk_cells HR.out.rows hkl
      subst ep
      have TM := List.mem_of_getElem? htk
      have TK := Lib.hid (take_snocK htk)
      have IA0 := HR.out.ids t TM
      obtain ⟨pt, ct, evt, hmt⟩ := own_slice IA0
      unfold maxLen at hmt
      obtain ⟨nt, hnt⟩ : ∃ nt, nt = t.ids.length := ⟨_, rfl⟩
      rw [← hnt] at evt hmt
      have NT := Lib.hid hnt
      have EVT := Lib.hid evt
      have IA : Hid (IntsAt wr base (.slice pt nt ct) t.ids) := evt ▸ IA0
      rw [evt] at c1
      have HTK := Lib.hid htk
      have TM := Lib.hid TM
      obtain ⟨wA, hwA⟩ : ∃ wA, wA = wr.alloc (.cells #[.string t.key, .slice pt nt ct] 78) := ⟨_, rfl⟩
      have UA : Upd (fun _ => False) wr wA := by rw [hwA]; exact (Upd.refl _ _).alloc _
      have UWA := Lib.hid (U.out.trans UA (fun _ _ h => h))
      have hAs : wA.heap.size = wr.heap.size + 1 := by rw [hwA, World.size_alloc]
      have BXA : Blk wA wr.heap.size [.string t.key, .slice pt nt ct] 78 := by rw [hwA]; exact Blk.made wr [.string t.key, .slice pt nt ct] _
      clear htk hkl IA0 evt hnt
      by_cases e : t.key = key
      · have q2 : (t.key.toList == key.toList) = true := by rw [e]; simp
        obtain ⟨hri, hln⟩ := LS.out t TM.out
        have x0A : wA.cell? ⟨wb, 0, none⟩ = some (.slice (some ⟨b, 0, none⟩) nl c) := (HR.out.keep0 UA).blk.cellAt (i := 0) (by rw [NL.out]; rfl)
        have x3A := BXA.cellAt (i := 1) (v := .slice pt nt ct) rfl
        have WT : Hid (∀ v, Upd (fun _ => False) wA v → Calls Try.prog 34 #[.slice pt nt ct, .int .i64 id] v fun e w' => ∃ p4 c4, e = .returned (.slice p4 (wth t.ids id).length c4) ∧ IntsAt w' v.heap.size (.slice p4 (wth t.ids id).length c4) (wth t.ids id) ∧ Upd (fun _ => False) wA w' ∧ wA.heap.size ≤ v.heap.size) := fun v u => by
          refine (rwith_any _ t.ids id v (IntsAt.row ((IA.out.keep UA (F := fun _ => False) (fun _ _ h => h)).keep u (fun _ _ h => h))) hri (by omega)).mono ?_
          rintro e w' ⟨v4, rfl, i4, u4⟩
          obtain ⟨p4, c4, rfl, _⟩ := own_slice i4
          exact ⟨p4, c4, rfl, i4, u.trans u4 (fun _ _ h => h), u.size⟩
        obtain ⟨_, hbA, csB, hBB⟩ := (HR.out.keep0 UA).rows.lt (b := b) rfl
        have c1A : wA.cell? ⟨b, k * 2 + 1, none⟩ = some (.slice pt nt ct) := (UA.cell (p := ⟨b, k * 2 + 1, none⟩) hbs (fun h => h)).trans c1
        have HBB : Hid (∀ v, Upd (fun _ => False) wA v → b < v.heap.size ∧ v.cell? ⟨b, k * 2 + 1, none⟩ = some (.slice pt nt ct) ∧ v.frozen? ⟨b, k * 2 + 1, none⟩ = false) := fun v u =>
          ⟨(u.blk hBB (fun h => h)).lt, (u.cell (p := ⟨b, k * 2 + 1, none⟩) hbA (fun h => h)).trans c1A, (u.blk hBB (fun h => h)).free _⟩
        have HCC : Hid (∀ v, Upd (fun _ => False) wA v → v.cell? ⟨wb, 0, none⟩ = some (.slice (some ⟨b, 0, none⟩) nl c) ∧ v.cell? ⟨wr.heap.size, 1, none⟩ = some (.slice pt nt ct)) := fun v u =>
          ⟨(u.cell (p := ⟨wb, 0, none⟩) (HR.out.keep0 UA).blk.lt (fun h => h)).trans x0A, (u.cell (p := ⟨wr.heap.size, 1, none⟩) BXA.lt (fun h => h)).trans x3A⟩
        have n1 : wb ≠ b := fun e => HR.out.ne1 (b := b) rfl e.symm
        have n2 : wr.heap.size ≠ b := by omega
        have n3 := n1.symm
        have n4 := n2.symm
        have HWA := Lib.hid hwA
        have HUA := Lib.hid UA
        have ET := Lib.hid e
        clear e IA UA hAs BXA hwA hri hln x0 hBB hbA c1A
        go_wp2
        rw [← HWA.out]
        go_region_held3 (fun w' => w'.cell? ⟨wb, 0, none⟩ = some (.slice (some ⟨b, 0, none⟩) nl c) ∧ w'.cell? ⟨wr.heap.size, 1, none⟩ = some (.slice pt nt ct)) (go_keep) (first
          | (go_at_call 34; refine (WT.out _ (by first | exact Upd.refl _ _ | exact (Upd.refl _ _).drew)).mono ?_; rintro e w4 ⟨p4, c4, rfl, i4, u4, s4⟩; (obtain ⟨z1, z2⟩ := HCC.out w4 u4); (obtain ⟨z3, z4, z5⟩ := HBB.out w4 u4)))
        have A14 : Hid (add14 most (T.map rk) key id = (ByteArray.empty, [], false, aset (T.map rk) key (wth t.ids id))) := by
          show _ = _; unfold add14; rw [rk_some NI.out HTK.out ET.out]
        have H4 := HR.out.keep0 (HUA.out.trans u4 (fun _ _ h => h))
        have u5 : Upd (fun q => q = b) w4 (w4.setCell ⟨b, k * 2 + 1, none⟩ (.slice p4 (wth t.ids id).length c4)) := (Upd.refl _ _).set (fun _ => rfl)
        have T2 : Hid (RowsAt (w4.setCell ⟨b, k * 2 + 1, none⟩ (.slice p4 (wth t.ids id).length c4)) base (.slice (some ⟨b, 0, none⟩) T.length c) (T.set k ⟨t.key, .slice p4 (wth t.ids id).length c4, wth t.ids id⟩)) :=
          OwnN.set H4.rows (fun _ => rfl) (by omega) HTK.out rfl
        have RF : Hid (RefRaw (w4.setCell ⟨b, k * 2 + 1, none⟩ (.slice p4 (wth t.ids id).length c4)) base wb most (.slice (some ⟨b, 0, none⟩) T.length c) (T.set k ⟨t.key, .slice p4 (wth t.ids id).length c4, wth t.ids id⟩)) := by
          refine ⟨u5.blk H4.blk n1, H4.lo, T2.out, fun s hs => ?_⟩
          have hI : IntsAt w4 base s.v s.ids := by
            rcases List.mem_or_eq_of_mem_set hs with g | rfl
            · exact H4.ids s g
            · exact own_mono i4 (by have := UWA.out.size; have := s4; omega)
          refine hI.keep u5 (fun q hq e => ?_)
          obtain ⟨_, _, cs, hB⟩ := ints_blkN hI hq
          obtain ⟨_, _, cs', hB'⟩ := H4.rows.lt (b := b) rfl
          subst e
          exact absurd (hB'.ty hB) (by decide)
        have FR : Hid (From2 (refF wb (.slice (some ⟨b, 0, none⟩) T.length c) T) (refF wb (.slice (some ⟨b, 0, none⟩) T.length c) (T.set k ⟨t.key, .slice p4 (wth t.ids id).length c4, wth t.ids id⟩)) w) := by
          rintro q (rfl | hq | ⟨s, hs, hq⟩)
          · exact Or.inl (Or.inl rfl)
          · exact Or.inl (Or.inr (Or.inl hq))
          · rcases List.mem_or_eq_of_mem_set hs with g | rfl
            · exact Or.inl (Or.inr (Or.inr ⟨s, g, hq⟩))
            · exact Or.inr (by have := (ints_blkN i4 hq).1; have := UWA.out.size; have := s4; omega)
        have UF : Hid (Upd (refW wb (.slice (some ⟨b, 0, none⟩) T.length c)) w (w4.setCell ⟨b, k * 2 + 1, none⟩ (.slice p4 (wth t.ids id).length c4))) :=
          ((U.out.trans (HUA.out.trans u4 (fun _ _ h => h)) (fun _ _ h => h)).weaken (F := refW wb (.slice (some ⟨b, 0, none⟩) T.length c)) (fun _ _ h => h.elim)).set (fun _ => Or.inr rfl)
        have SET := Lib.hid (rk_set (u := .slice p4 (wth t.ids id).length c4) (l := wth t.ids id) NI.out HTK.out ET.out)
        clear H4 u5 i4 u4 s4 z1 z2 z3 z4 z5
        go_wp2
        go_ret3
        exact ⟨.slice none 0 0, _, _, by rw [A14.out]; rfl, by rw [A14.out]; exact World.ownsRow_nil _ _ _ _, by rw [A14.out]; exact SET.out, RF.out, UF.out, FR.out⟩
      · have q2 : (t.key.toList == key.toList) = false := by
          cases hq : t.key.toList == key.toList with
          | false => rfl
          | true => exact absurd (toList_eq hq) e
        have NI2 : Hid (∀ t ∈ T.take (k + 1), t.key ≠ key) := by
          intro s hs; rw [TK.out] at hs
          rcases List.mem_append.1 hs with g | g
          · exact NI.out s g
          · rw [List.mem_singleton] at g; rw [g]; exact e
        clear e UA hAs BXA IA
        go_wp2
        go_roundw
        case rel => exact ⟨k + 1, by omega, by simp, NI2, by rw [← hwA]; exact UWA⟩
        case measure => simp [intOf]; omega
    · have q1 : ¬ (k : Int) < (nl : Int) := by omega
      have NM : Hid (aget (T.map rk) key = none) := by
        have := NI.out
        rw [List.take_of_length_le (by rw [← NL.out]; omega)] at this; exact rk_none this
      have HR := Lib.hid (H.out.keep0 U.out)
      clear x0 x1 hwb
      have hwlr := U.out.size
      obtain ⟨g, hg⟩ : ∃ g, g = wr.heap.size := ⟨_, rfl⟩
      obtain ⟨wG, hwG⟩ : ∃ wG, wG = wr.alloc (.cells #[.string ⟨#[]⟩, .slice none 0 0] 78) := ⟨_, rfl⟩
      have UG : Upd (fun _ => False) wr wG := by rw [hwG]; exact (Upd.refl _ _).alloc _
      have BG : Hid (Blk wG g [.string ⟨#[]⟩, .slice none 0 0] 78) := by rw [hwG, hg]; exact Blk.made wr [.string ⟨#[]⟩, .slice none 0 0] _
      have hgl : w.heap.size ≤ g := by omega
      have hgs : wG.heap.size = g + 1 := by rw [hwG, World.size_alloc, hg]
      have GWB : Hid (g ≠ wb) := fun e => by have := HR.out.blk.lt; omega
      have HWG : Hid (wr.alloc (.cells #[.string ⟨#[]⟩, .slice none 0 0] 78) = wG) := hwG.symm
      have HGE := Lib.hid hg
      have UWG := Lib.hid (U.out.trans UG (fun _ _ h => h))
      have HG := Lib.hid (HR.out.keep0 UG)
      have y0 : wG.cell? ⟨wb, 0, none⟩ = some (.slice p nl c) := HG.out.blk.cellAt (i := 0) (by rw [NL.out]; rfl)
      have y1 : wG.cell? ⟨wb, 1, none⟩ = some (.int .i64 most) := HG.out.blk.cellAt (i := 1) rfl
      have LO := Lib.hid HG.out.lo
      have HSG := Lib.hid hgs
      clear hwG UG HR U hg hwlr hgs
      by_cases hf : most ≤ (nl : Int)
      · have hn0 : 0 < nl := by omega
        have hTl : T.length ≤ 10000 := by rw [← NL.out]; exact hl
        have hT0 : 0 < T.length := by rw [← NL.out]; exact hn0
        obtain ⟨b, t, ep, hb, hbs, htk, c0, c1⟩ := rk_cells HG.out.rows hT0
        subst ep
        have TM := List.mem_of_getElem? htk
        have IA0 := HG.out.ids t TM
        obtain ⟨pt, ct, evt, hmt⟩ := own_slice IA0
        unfold maxLen at hmt
        obtain ⟨nt, hnt⟩ : ∃ nt, nt = t.ids.length := ⟨_, rfl⟩
        rw [← hnt] at evt hmt
        rw [evt] at c1
        have IA : Hid (IntsAt wG base (.slice pt nt ct) t.ids) := evt ▸ IA0
        have hTT : T = t :: T.drop 1 := by
          cases T with
          | nil => simp at hT0
          | cons s T => simp at htk; subst htk; rfl
        have HTT := Lib.hid hTT
        have IAG : Hid (∀ q, (Value.slice pt nt ct).ownBlock = some q → q ≠ g ∧ q ≠ wb) := fun q hq => by
          rw [← evt] at hq
          exact ⟨by have := (ints_blkN (H.out.ids t TM) hq).2.1; omega, (HG.out.ne2 TM hq).1⟩
        have HLG : Hid (b < g ∧ b ≠ wb) := ⟨by have := (H.out.rows.lt (b := b) rfl).2.1; omega, HG.out.ne1 (b := b) rfl⟩
        have q9 : 0 < (nl : Int) := by omega
        simp only [Nat.zero_mul, Nat.zero_add] at c0 c1
        clear htk IA0 evt hnt hTT TM hT0
        go_wp2
        rw [← HGE.out, HWG.out]
        go_quiet (fail)
        obtain ⟨wQ, hwQ⟩ : ∃ wQ, wQ = wG.drewN nq := ⟨_, rfl⟩
        rw [← hwQ]
        have uq : Upd (fun _ => False) wG wQ := by rw [hwQ]; exact (Upd.refl _ _).drewN _
        have HQ := HG.out.keep0 uq
        have GQ := uq.blk BG.out (fun h => h)
        have c0 := (uq.cell (p := ⟨b, 0, none⟩) hbs (fun h => h)).trans c0
        have c1 := (uq.cell (p := ⟨b, 1, none⟩) hbs (fun h => h)).trans c1
        have g0 := GQ.cellAt (i := 0) (v := .string ⟨#[]⟩) rfl
        have g1 := GQ.cellAt (i := 1) (v := .slice none 0 0) rfl
        have g2 := GQ.free 0
        have g3 := GQ.free 1
        have g4 := GQ.lt
        have xq := HQ.blk.lt
        have y0 : wQ.cell? ⟨wb, 0, none⟩ = some (.slice (some ⟨b, 0, none⟩) nl c) := HQ.blk.cellAt (i := 0) (by rw [NL.out]; rfl)
        obtain ⟨wE, hwE⟩ : ∃ wE, wE = (wQ.setCell ⟨g, 0, none⟩ (.string t.key)).setCell ⟨g, 1, none⟩ (.slice pt nt ct) := ⟨_, rfl⟩
        have uE : Upd (fun q => q = g) wQ wE := by rw [hwE]; exact ((Upd.refl (fun q => q = g) wQ).set (fun _ => rfl)).set (fun _ => rfl)
        have GE : Blk wE g [.string t.key, .slice pt nt ct] 78 := by rw [hwE]; exact (GQ.set 0 (.string t.key)).set 1 (.slice pt nt ct)
        have HE := HQ.keep uE (fun q hq e => by
          subst e
          rcases hq with h | h | ⟨s, hs, h⟩
          · exact GWB.out h
          · obtain ⟨_, h2, _⟩ := H.out.rows.lt h; omega
          · have := (ints_blkN (H.out.ids s hs) h).2.1; omega)
        have uS : Upd (fun _ => False) wE (wE.alloc (.cells #[] 78)) := (Upd.refl _ _).alloc _
        have HS := HE.keep0 uS
        obtain ⟨V, RS1, RS2⟩ := rows_rest b nl c 1 (by omega)
        obtain ⟨i0, hi0, hz0, hz1, hz2⟩ := info_parts row_info
        have hEs : wE.heap.size = wG.heap.size := by rw [hwE]; simp [World.setCell, hwQ]
        obtain ⟨v3, w3, hr3, R3, U3, N3⟩ := OwnN.append (P := Try.prog) 47 47 i0 (.agg #[.string ByteArray.empty, .slice none 0 0]) 40 Try.underlying47 hi0 hz0 hz1 hz2 rfl (by decide) (fun _ => rfl) (fun s hs => fun u hu => by
          simp [rowkc] at hu
          rcases hu with rfl | rfl
          · rfl
          · exact ints_one (HS.ids s (List.mem_of_mem_drop hs))) (OwnN.made (f := rowkc) (k := 2) wE 78) (RS2 _ _ _ (by have := HS.rows; rw [← NL.out] at this; exact this)) (by unfold maxLen; simp; omega) (by simp; omega) uS.size
        rw [List.nil_append] at R3
        obtain ⟨pD, cD, e3, _, _⟩ := R3.slice
        obtain ⟨nD, hnD⟩ : ∃ nD, nD = (T.drop 1).length := ⟨_, rfl⟩
        rw [← hnD] at e3
        subst e3
        have NDD := Lib.hid hnD
        have hnD2 : nD ≤ 10000 := by
          have h1 : (T.drop 1).length ≤ T.length := by rw [List.length_drop]; omega
          omega
        have uW : Upd (fun _ => False) wE w3 := uS.trans U3 (fun q hq e => by injection e with e; simp at e; omega)
        have hEs2 : w.heap.size ≤ wE.heap.size ∧ g < wE.heap.size := by have := HSG.out; rw [hEs]; exact ⟨by omega, by omega⟩
        have B3 := Lib.hid (uW.blk HE.blk (fun h => h))
        have hwE3 := uW.size
        have R4 : RowsOk14 w3 base (.slice pD nD cD) (T.drop 1) := ⟨R3.mono (by omega), fun s hs => (HE.ids s (List.mem_of_mem_drop hs)).keep uW (fun _ _ h => h)⟩
        obtain ⟨wD, hwD⟩ : ∃ wD, wD = w3.setCell ⟨wb, 0, none⟩ (.slice pD nD cD) := ⟨_, rfl⟩
        have HD : Hid (RefRaw wD base wb most (.slice pD nD cD) (T.drop 1)) := by rw [hwD]; exact RefRaw.of B3.out LO.out R4
        have GB : Hid (Blk wD g [.string t.key, .slice pt nt ct] 78) := by rw [hwD]; exact (uW.blk GE (fun h => h)).set_other GWB.out
        have UD : Hid (Upd (refW wb (.slice (some ⟨b, 0, none⟩) T.length c)) w wD) := by
          rw [hwD]
          have h1 : Upd (fun _ => False) w wE := (UWG.out.trans uq (fun _ _ h => h)).trans uE (fun q hq e => by subst e; omega)
          exact ((h1.trans uW (fun _ _ h => h)).weaken (fun _ _ h => h.elim)).set (fun _ => Or.inl rfl)
        have GI : Hid (IntsAt wD base (.slice pt nt ct) t.ids) := by
          rw [hwD]
          have h1 : IntsAt wE base (.slice pt nt ct) t.ids := (IA.out.keep uq (F := fun _ => False) (fun _ _ h => h)).keep uE (fun q hq e => (IAG.out q hq).1 e)
          exact (h1.keep uW (F := fun _ => False) (fun _ _ h => h)).keep ((Upd.refl (fun q => q = wb) _).set (fun _ => rfl)) (fun q hq e => (IAG.out q hq).2 e)
        have FD : Hid (∀ q, refF wb (.slice pD nD cD) (T.drop 1) q → refF wb (.slice (some ⟨b, 0, none⟩) T.length c) T q ∨ w.heap.size ≤ q) := by
          rintro q (rfl | hq | ⟨s, hs, hq⟩)
          · exact Or.inl (Or.inl rfl)
          · exact Or.inr (by have := (R3.lt hq).1; omega)
          · exact Or.inl (Or.inr (Or.inr ⟨s, List.mem_of_mem_drop hs, hq⟩))
        have WD : Hid (∀ q, (Value.slice pD nD cD).ownBlock = some q → (Value.slice (some ⟨b, 0, none⟩) T.length c).ownBlock = some q ∨ w.heap.size ≤ q) := fun q hq => Or.inr (by have := (R3.lt hq).1; omega)
        have GNE : Hid (∀ q, (Value.slice pD nD cD).ownBlock = some q → q ≠ g) := fun q hq e => by have := (R3.lt hq).1; omega
        have A14 : Hid (add14 most (T.map rk) key id = (t.key, t.ids, true, (T.drop 1).map rk ++ [(key, [id])])) := by
          show _ = _; unfold add14; rw [NM.out]
          have h1 : most ≤ ((T.map rk).length : Int) := by rw [List.length_map, ← NL.out]; exact hf
          simp only [if_pos h1]
          rw [HTT.out]; rfl
        have TLE : Hid ((T.drop 1).length ≤ 100000) := by show _ ≤ _; rw [← hnD]; omega
        have qd : decide (most ≤ (nl : Int)) = true := decide_eq_true hf
        have hr4 := hr3
        have hEq : wE.heap.size = wQ.heap.size := by rw [hwE]; simp [World.setCell]
        rw [hEq, hwE] at hr4
        have RS1 : ∀ w, (Instr.slice 47 (.slice (some ⟨b, 0, none⟩) nl c) (some (.int .i64 1)) none none).run Try.prog w = .ok V w := fun w => RS1 w
        have xb3 := B3.out.lt
        have xc3 := B3.out.cellAt (i := 0) (v := .slice (some ⟨b, 0, none⟩) nl c) (by rw [NL.out]; rfl)
        have xf3 := B3.out.free 0
        have gw1 := GWB.out
        have gw2 := GWB.out.symm
        have HDS : Hid (wD.heap.size = w3.heap.size) := by show _ = _; rw [hwD]; simp [World.setCell]
        have HWQ := Lib.hid hwQ
        have HWD := Lib.hid hwD
        clear uE GE HE uS HS RS2 R3 U3 N3 uW R4 hEs2 hEs hwE3 hnD hr3 hwE hf uq HQ hnD2 hwD hwQ hEq hi0 hz0 hz1 hz2
        obtain ⟨wI, hwI⟩ : ∃ wI, wI = wD.alloc (.cells #[.int .i64 id] 3) := ⟨_, rfl⟩
        have UI : Upd (fun _ => False) wD wI := by rw [hwI]; exact (Upd.refl _ _).alloc _
        have hIs : wI.heap.size = wD.heap.size + 1 := by rw [hwI, World.size_alloc]
        have LI : IntsAt wI wD.heap.size (.slice (some ⟨wD.heap.size, 0, none⟩) 1 1) [id] := by
          rw [hwI]; exact IntsAt.own.2 (OwnN.ofBlk (f := intc) (l := [id]) (cs := []) (Nat.le_refl _) (fun _ => rfl) (Blk.made wD [.int .i64 id] _) rfl (by unfold maxLen; omega) (by simp))
        have HBD : Hid (base ≤ wD.heap.size) := Nat.le_trans hbase UD.out.size
        have HI := HD.out.keep0 UI
        obtain ⟨p9, c9, w9, hr9, R9, U9, N9⟩ := RowsOk14.app (w := wI) (base := base) (v := .slice pD nD cD) (T := (T.drop 1)) ⟨HI.rows, HI.ids⟩ (⟨key, .slice (some ⟨wD.heap.size, 0, none⟩) 1 1, [id]⟩ : RowK) (own_mono LI HBD.out) TLE.out (Nat.le_trans HBD.out UI.size)
        rw [hIs, hwI, ← NDD.out] at hr9
        rw [← NDD.out] at R9 N9
        have B9 := Lib.hid (U9.blk HI.blk (fun e => HI.ne1 e rfl))
        have G9 := U9.blk (UI.blk GB.out (fun h => h)) (fun e => GNE.out g e rfl)
        have RF := Lib.hid (RefRaw.of B9.out LO.out R9)
        obtain ⟨wF, hwF⟩ : ∃ wF, wF = w9.setCell ⟨wb, 0, none⟩ (.slice p9 (nD + 1) c9) := ⟨_, rfl⟩
        have HWF : Hid (w9.setCell ⟨wb, 0, none⟩ (.slice p9 (nD + 1) c9) = wF) := hwF.symm
        have GF : Blk wF g [.string t.key, (.slice pt nt ct)] 78 := by rw [hwF]; exact G9.set_other GWB.out
        have z0 := GF.cellAt (i := 0) (v := .string t.key) rfl
        have z1 := GF.cellAt (i := 1) (v := (.slice pt nt ct)) rfl
        rw [HWF.out] at RF
        have UF : Hid (Upd (refW wb (.slice (some ⟨b, 0, none⟩) T.length c)) w wF) := by
          show Upd _ _ _
          rw [hwF]
          exact ((UD.out.trans UI (fun _ _ h => h.elim)).trans U9 (fun q hq e => by rcases WD.out q e with h | h; exact Or.inr h; omega)).set (fun _ => Or.inl rfl)
        have FR : Hid (From2 (refF wb (.slice (some ⟨b, 0, none⟩) T.length c) T) (refF wb (.slice p9 (nD + 1) c9) ((T.drop 1) ++ [(⟨key, .slice (some ⟨wD.heap.size, 0, none⟩) 1 1, [id]⟩ : RowK)])) w) := by
          have hDs := UD.out.size
          rintro q (rfl | hq | ⟨s, hs, hq⟩)
          · exact Or.inl (Or.inl rfl)
          · rcases N9 q hq with h | h
            · exact FD.out q (Or.inr (Or.inl h))
            · exact Or.inr (by omega)
          · rcases List.mem_append.1 hs with h | h
            · exact FD.out q (Or.inr (Or.inr ⟨s, h, hq⟩))
            · rw [List.mem_singleton] at h; subst h
              injection hq with hq; simp at hq
              exact Or.inr (by omega)
        have IF : Hid (IntsAt wF base (.slice pt nt ct) t.ids) := by
          have h1 := GI.out.keep UI (F := fun _ => False) (fun _ _ h => h)
          have h2 : IntsAt w9 base (.slice pt nt ct) t.ids := h1.keep U9 (fun q hq e => by
            obtain ⟨_, _, cs, hB⟩ := ints_blkN h1 hq
            obtain ⟨_, _, cs', hB'⟩ := HI.rows.lt e
            exact absurd (hB'.ty hB) (by decide))
          show IntsAt _ _ _ _
          rw [hwF]
          refine h2.keep ((Upd.refl (fun q => q = wb) _).set (fun _ => rfl)) (fun q hq e => ?_)
          subst e
          obtain ⟨_, _, cs, hB⟩ := ints_blkN h2 hq
          exact absurd (B9.out.ty hB) (by decide)
        have xD : wD.cell? ⟨wb, 0, none⟩ = some (.slice pD nD cD) := HD.out.blk.cellAt (i := 0) rfl
        have xb := B9.out.lt
        have xc := B9.out.cellAt (i := 0) (v := .slice pD nD cD) (by rw [NDD.out]; rfl)
        have xf := B9.out.free 0
        clear UI hIs LI HI R9 U9 N9 G9 GF hwF hwI B9
        rw [HDS.out, HWD.out] at hr9
        go_wp2_with (first | (at_builtin; refine wpList_builtinN rfl _ _ 47 rfl _ _ rfl rfl hr9 ?_) | (at_builtin; refine wpList_builtinN rfl _ _ 47 rfl _ _ rfl rfl hr4 ?_))
        rw [HWF.out]
        go_quiet (fail)
        go_wp2
        go_ret3
        exact ⟨(.slice pt nt ct), _, _, by rw [A14.out]; rfl, by rw [A14.out]; exact IF.out.keep ((Upd.refl _ _).drewN _) (F := fun _ => False) (fun _ _ h => h), by rw [A14.out, List.map_append]; rfl, RF.out.keep0 ((Upd.refl _ _).drewN _), UF.out.drewN _, FR.out⟩
      · have HF := Lib.hid hf
        have qd : decide (most ≤ (nl : Int)) = false := decide_eq_false hf
        clear hf
        go_wp2
        rw [← HGE.out, HWG.out]
        go_quiet (fail)
        obtain ⟨wD, hwD⟩ : ∃ wD, wD = wG.drewN nq := ⟨_, rfl⟩
        rw [← hwD]
        have ud : Upd (fun _ => False) wG wD := by rw [hwD]; exact (Upd.refl _ _).drewN _
        have UD : Hid (Upd (refW wb (.slice p T.length c)) w wD) := (UWG.out.trans ud (fun _ _ h => h)).weaken (fun _ _ h => h.elim)
        have HD := Lib.hid (HG.out.keep0 ud)
        have GB := Lib.hid (ud.blk BG.out (fun h => h))
        have HO := Lib.hid H.out
        have GNE : Hid (∀ q, (Value.slice p nl c).ownBlock = some q → q ≠ g) := fun q hq e => by rw [NL.out] at hq; have := (HO.out.rows.lt (b := q) hq).2.1; omega
        have GI : Hid (IntsAt wD base (.slice none 0 0) []) := World.ownsRow_nil _ _ _ _
        have A14 : Hid (add14 most (T.map rk) key id = (ByteArray.empty, [], false, T.map rk ++ [(key, [id])])) := by
          show _ = _; unfold add14; rw [NM.out]
          have : ¬ most ≤ ((T.map rk).length : Int) := by rw [List.length_map, ← NL.out]; have := HF.out; omega
          rw [if_neg this]
        have FD : Hid (∀ q, refF wb (.slice p nl c) T q → refF wb (.slice p T.length c) T q ∨ w.heap.size ≤ q) := fun q hq => Or.inl (by rw [NL.out] at hq; exact hq)
        have WD : Hid (∀ q, (Value.slice p nl c).ownBlock = some q → (Value.slice p T.length c).ownBlock = some q ∨ w.heap.size ≤ q) := fun q hq => Or.inl (by rw [NL.out] at hq; exact hq)
        have NDD := NL
        have TLE : Hid (T.length ≤ 100000) := by show _ ≤ _; rw [← NL.out]; omega
        have HD : Hid (RefRaw wD base wb most (.slice p nl c) T) := by rw [NL.out]; exact HD
        clear hwD ud HO NM HG UWG BG
        obtain ⟨wI, hwI⟩ : ∃ wI, wI = wD.alloc (.cells #[.int .i64 id] 3) := ⟨_, rfl⟩
        have UI : Upd (fun _ => False) wD wI := by rw [hwI]; exact (Upd.refl _ _).alloc _
        have hIs : wI.heap.size = wD.heap.size + 1 := by rw [hwI, World.size_alloc]
        have LI : IntsAt wI wD.heap.size (.slice (some ⟨wD.heap.size, 0, none⟩) 1 1) [id] := by
          rw [hwI]; exact IntsAt.own.2 (OwnN.ofBlk (f := intc) (l := [id]) (cs := []) (Nat.le_refl _) (fun _ => rfl) (Blk.made wD [.int .i64 id] _) rfl (by unfold maxLen; omega) (by simp))
        have HBD : Hid (base ≤ wD.heap.size) := Nat.le_trans hbase UD.out.size
        have HI := HD.out.keep0 UI
        obtain ⟨p9, c9, w9, hr9, R9, U9, N9⟩ := RowsOk14.app (w := wI) (base := base) (v := .slice p nl c) (T := T) ⟨HI.rows, HI.ids⟩ (⟨key, .slice (some ⟨wD.heap.size, 0, none⟩) 1 1, [id]⟩ : RowK) (own_mono LI HBD.out) TLE.out (Nat.le_trans HBD.out UI.size)
        rw [hIs, hwI, ← NDD.out] at hr9
        rw [← NDD.out] at R9 N9
        have B9 := Lib.hid (U9.blk HI.blk (fun e => HI.ne1 e rfl))
        have G9 := U9.blk (UI.blk GB.out (fun h => h)) (fun e => GNE.out g e rfl)
        have RF := Lib.hid (RefRaw.of B9.out LO.out R9)
        obtain ⟨wF, hwF⟩ : ∃ wF, wF = w9.setCell ⟨wb, 0, none⟩ (.slice p9 (nl + 1) c9) := ⟨_, rfl⟩
        have HWF : Hid (w9.setCell ⟨wb, 0, none⟩ (.slice p9 (nl + 1) c9) = wF) := hwF.symm
        have GF : Blk wF g [.string ⟨#[]⟩, (.slice none 0 0)] 78 := by rw [hwF]; exact G9.set_other GWB.out
        have z0 := GF.cellAt (i := 0) (v := .string ⟨#[]⟩) rfl
        have z1 := GF.cellAt (i := 1) (v := (.slice none 0 0)) rfl
        rw [HWF.out] at RF
        have UF : Hid (Upd (refW wb (.slice p T.length c)) w wF) := by
          show Upd _ _ _
          rw [hwF]
          exact ((UD.out.trans UI (fun _ _ h => h.elim)).trans U9 (fun q hq e => by rcases WD.out q e with h | h; exact Or.inr h; omega)).set (fun _ => Or.inl rfl)
        have FR : Hid (From2 (refF wb (.slice p T.length c) T) (refF wb (.slice p9 (nl + 1) c9) (T ++ [(⟨key, .slice (some ⟨wD.heap.size, 0, none⟩) 1 1, [id]⟩ : RowK)])) w) := by
          have hDs := UD.out.size
          rintro q (rfl | hq | ⟨s, hs, hq⟩)
          · exact Or.inl (Or.inl rfl)
          · rcases N9 q hq with h | h
            · exact FD.out q (Or.inr (Or.inl h))
            · exact Or.inr (by omega)
          · rcases List.mem_append.1 hs with h | h
            · exact FD.out q (Or.inr (Or.inr ⟨s, h, hq⟩))
            · rw [List.mem_singleton] at h; subst h
              injection hq with hq; simp at hq
              exact Or.inr (by omega)
        have IF : Hid (IntsAt wF base (.slice none 0 0) []) := by
          have h1 := GI.out.keep UI (F := fun _ => False) (fun _ _ h => h)
          have h2 : IntsAt w9 base (.slice none 0 0) [] := h1.keep U9 (fun q hq e => by
            obtain ⟨_, _, cs, hB⟩ := ints_blkN h1 hq
            obtain ⟨_, _, cs', hB'⟩ := HI.rows.lt e
            exact absurd (hB'.ty hB) (by decide))
          show IntsAt _ _ _ _
          rw [hwF]
          refine h2.keep ((Upd.refl (fun q => q = wb) _).set (fun _ => rfl)) (fun q hq e => ?_)
          subst e
          obtain ⟨_, _, cs, hB⟩ := ints_blkN h2 hq
          exact absurd (B9.out.ty hB) (by decide)
        have xD : wD.cell? ⟨wb, 0, none⟩ = some (.slice p nl c) := HD.out.blk.cellAt (i := 0) rfl
        have xb := B9.out.lt
        have xc := B9.out.cellAt (i := 0) (v := .slice p nl c) (by rw [NDD.out]; rfl)
        have xf := B9.out.free 0
        clear UI hIs LI HI R9 U9 N9 G9 GF hwF hwI B9
        skip
        go_wp2_with (first | (at_builtin; refine wpList_builtinN rfl _ _ 47 rfl _ _ rfl rfl hr9 ?_) )
        rw [HWF.out]
        go_quiet (fail)
        go_wp2
        go_ret3
        exact ⟨(.slice none 0 0), _, _, by rw [A14.out]; rfl, by rw [A14.out]; exact IF.out.keep ((Upd.refl _ _).drewN _) (F := fun _ => False) (fun _ _ h => h), by rw [A14.out, List.map_append]; rfl, RF.out.keep0 ((Upd.refl _ _).drewN _), UF.out.drewN _, FR.out⟩
end Go.Proofs.Ythgojhchakclcaa
