/- The document's rows of keys: Take, Drop, New. -/
import Derived.Test.YthgojhchakclcaaRefK
set_option linter.unusedVariables false
set_option linter.unusedSimpArgs false
set_option linter.unusedSectionVars false
namespace Go.Proofs.Ythgojhchakclcaa
open Go.RowKit

/-- The blocks in which it is written: no row of numbers. -/
def refW (wb : Nat) (v : Value) : Nat → Prop := fun b => b = wb ∨ v.ownBlock = some b
def From2 (F F' : Nat → Prop) (w : World) : Prop := ∀ k, F' k → F k ∨ w.heap.size ≤ k
structure RowsOk14 (w : World) (base : Nat) (v : Value) (T : List RowK) : Prop where
  rows : RowsAt w base v T
  ids : ∀ t ∈ T, IntsAt w base t.v t.ids
section
variable {w w' : World} {base wb : Nat} {most : Int} {v v' : Value} {T T' : List RowK}
theorem RefRaw.intsW (h : RefRaw w base wb most v T) {base2 : Nat} {u : Value} {l : List Int} (hu : IntsAt w base2 u l) (up : Upd (refW wb v) w w') : IntsAt w' base2 u l := by
  refine hu.keep up (fun b hb hw => ?_)
  obtain ⟨_, _, cs, hB⟩ := ints_blkN hu hb
  rcases hw with rfl | hw
  · exact absurd (h.blk.ty hB) (by decide)
  · obtain ⟨_, _, cs', hB'⟩ := h.rows.lt hw; exact absurd (hB'.ty hB) (by decide)
theorem RowsOk14.keep0 (h : RowsOk14 w base v T) (u : Upd (fun _ => False) w w') : RowsOk14 w' base v T := ⟨h.rows.keep0 u, fun t ht => (h.ids t ht).keep u (fun _ _ h => h)⟩
theorem RowsOk14.keepN (h : RowsOk14 w base v T) {n : Nat} (u : Upd (fun b => n ≤ b) w w') (hn : w.heap.size ≤ n) : RowsOk14 w' base v T :=
  ⟨h.rows.keep u (fun b hb e => by have := (h.rows.lt hb).2.1; omega), fun t ht => (h.ids t ht).keep u (fun b hb e => by have := (ints_blkN (h.ids t ht) hb).2.1; omega)⟩
theorem rows_none (w : World) : RowsOk14 (w.alloc (.cells #[] 78)) w.heap.size (.slice (some ⟨w.heap.size, 0, none⟩) 0 0) [] := ⟨OwnN.made w _, fun t ht => by simp at ht⟩
/-- A row more. -/
theorem RowsOk14.app (h : RowsOk14 w base v T) (t : RowK) (ht : IntsAt w base t.v t.ids) (hl : T.length ≤ 100000) (hb : base ≤ w.heap.size) :
    ∃ p c w', (Builtin.append_ #[47, 47] 47 #[v, .slice (some ⟨w.heap.size, 0, none⟩) 1 1]).run Try.prog (w.alloc (.cells #[.string t.key, t.v] 78)) = .ok (.slice p (T.length + 1) c) w' ∧ RowsOk14 w' base (.slice p (T.length + 1) c) (T ++ [t]) ∧ Upd (fun k => v.ownBlock = some k) w w' ∧ NewOr v (.slice p (T.length + 1) c) w := by
  obtain ⟨p, c, w', a, b, u, n⟩ := rows_app w base v T t h.rows (ints_one ht) hl hb
  refine ⟨p, c, w', a, ⟨b, fun s hs => ?_⟩, u, n⟩
  have hI : IntsAt w base s.v s.ids := by
    rcases List.mem_append.1 hs with g | g
    · exact h.ids s g
    · rw [List.mem_singleton] at g; rw [g]; exact ht
  refine hI.keep u (fun b hb hv => ?_)
  obtain ⟨_, _, cs, hB⟩ := ints_blkN hI hb
  obtain ⟨_, _, cs', hB'⟩ := h.rows.lt hv
  exact absurd (hB'.ty hB) (by decide)
theorem RowsOk14.ge (h : RowsOk14 w base v T) (u : Upd (fun k => v.ownBlock = some k) w w') : Upd (fun k => base ≤ k) w w' := u.weaken (fun b _ hb => (h.rows.lt hb).1)
/-- The rows are others now. -/
theorem RefRaw.next (h : RefRaw w base wb most v T) (h2 : RowsOk14 w base v' T') : RefRaw (w.setCell ⟨wb, 0, none⟩ v') base wb most v' T' := by
  have u : Upd (fun b => b = wb) w (w.setCell ⟨wb, 0, none⟩ v') := (Upd.refl _ _).set (fun _ => rfl)
  refine ⟨h.blk.set 0 v', h.lo, h2.rows.keep u (fun b hb e => ?_), fun t ht => (h2.ids t ht).keep u (fun b hb e => ?_)⟩
  · subst e; obtain ⟨_, _, cs, hB⟩ := h2.rows.lt hb; exact absurd (h.blk.ty hB) (by decide)
  · subst e; obtain ⟨_, _, cs, hB⟩ := ints_blkN (h2.ids t ht) hb; exact absurd (h.blk.ty hB) (by decide)
theorem RowsOk14.mono {b2 : Nat} (h : RowsOk14 w base v T) (hb : b2 ≤ base) : RowsOk14 w b2 v T := ⟨h.rows.mono hb, fun t ht => own_mono (h.ids t ht) hb⟩
theorem RowsOk14.from_ (h : RowsOk14 w base v T) {F : Nat → Prop} {wb : Nat} (hF : F wb) {w0 : World} (h0 : w0.heap.size ≤ base) : From2 F (refF wb v T) w0 := by
  rintro b (rfl | hb | ⟨t, ht, hb⟩)
  · exact Or.inl hF
  · exact Or.inr (Nat.le_trans h0 (h.rows.lt hb).1)
  · exact Or.inr (Nat.le_trans h0 (ints_blkN (h.ids t ht) hb).1)
end
def cutT (key : ByteArray) (T : List RowK) : List RowK := T.filter fun t => decide (t.key ≠ key)
theorem cutT_map (key : ByteArray) (T : List RowK) : (cutT key T).map rk = (T.map rk).filter fun p => decide (p.1 ≠ key) := by
  unfold cutT
  rw [List.filter_map]; rfl
set_option maxHeartbeats 4000000 in
set_option maxRecDepth 100000 in
theorem ref_take {w : World} {base wb : Nat} {most : Int} {v : Value} {T : List RowK} (h : RefRaw w base wb most v T) (hl : T.length ≤ 10000) (hbase : base ≤ w.heap.size) (key : ByteArray) :
    Calls Try.prog 16 #[.pointer (some ⟨wb, 0, none⟩), .string key] w fun e w' => ∃ u, e = .returned u ∧ IntsAt w' base u ((aget (T.map rk) key).getD []) ∧
      ∃ v', RefRaw w' base wb most v' (cutT key T) ∧ Upd (refW wb v) w w' ∧ From2 (refF wb v T) (refF wb v' (cutT key T)) w := by
  have ID := Lib.hid (ref_ids h hl key)
  obtain ⟨p, c, ev, hm, hle⟩ := h.rows.slice
  subst ev
  unfold maxLen at hm
  have H := Lib.hid h
  obtain ⟨nl, hnl⟩ : ∃ nl, nl = T.length := ⟨_, rfl⟩
  have NL := Lib.hid hnl
  have B0 := Lib.hid h.blk
  have x0 := h.blk.cellAt (i := 0) (v := .slice p T.length c) rfl
  have x1 := h.blk.cellAt (i := 1) (v := .int .i64 most) rfl
  rw [← hnl] at hl hm hle x0
  clear h hnl
  go_enter Try.func16, Try.ntmps16
  go_wp2_with fail
  refine (ID.out).mono ?_
  rintro e w1 ⟨u, rfl, hu, u1⟩
  have HU := Lib.hid hu
  have HW : Hid (w.heap.size ≤ w1.heap.size) := u1.size
  have U1 := Lib.hid u1
  have H := Lib.hid (H.out.keep0 u1)
  have x0 := H.out.blk.cellAt (i := 0) (v := .slice p nl c) (by rw [NL.out]; rfl)
  have MO := Lib.hid (rows_none w1)
  have UO : Hid (Upd (fun _ => False) w1 (w1.alloc (.cells #[] 78))) := (Upd.refl _ _).alloc _
  have hwb := H.out.blk.lt
  clear hu u1 ID
  go_wp2
  go_loopw [6, 18] (fun out xi wr => ∃ (k na : Nat) (acc : List RowK) (p : Option Addr) (co : Nat), k ≤ nl ∧ na ≤ k ∧ out = .slice p na co ∧ xi = .int .i64 (k : Int) ∧ Hid (na = acc.length ∧ acc = cutT key (T.take k)) ∧ Hid (RowsAt wr w1.heap.size out acc) ∧ Hid (Upd (fun _ => False) w1 wr)) (fun _ xi _ => nl - (intOf xi).toNat)
  case atStart => exact ⟨0, 0, [], _, _, by omega, by omega, rfl, rfl, Lib.hid ⟨rfl, rfl⟩, Lib.hid MO.out.rows, UO⟩
  case round =>
    clear MO UO
    obtain ⟨k, na, acc, po, co, hk, hna, rfl, rfl, NA, OW, U⟩ := hrel
    by_cases hlt : k < nl
    · have hwl := U.out.size
      have hkl : k < T.length := by rw [← NL.out]; exact hlt
      have q1 : (k : Int) < (nl : Int) := by omega
      have HR := Lib.hid (H.out.keep0 U.out)
      obtain ⟨b, t, ep, hb, hbs, htk, c0, c1⟩ := rk_cells HR.out.rows hkl
      subst ep
      have TM := List.mem_of_getElem? htk
      have TK := Lib.hid (take_snocK htk)
      have IA0 := HR.out.ids t TM
      obtain ⟨pt, ct, evt, hmt⟩ := own_slice IA0
      unfold maxLen at hmt
      obtain ⟨nt, hnt⟩ : ∃ nt, nt = t.ids.length := ⟨_, rfl⟩
      rw [← hnt] at evt hmt
      have NT := Lib.hid hnt
      have EVT := Lib.hid evt
      have IA : Hid (IntsAt wr base (.slice pt nt ct) t.ids) := evt ▸ IA0
      rw [evt] at c1
      have HTK := Lib.hid htk
      have TM := Lib.hid TM
      obtain ⟨wA, hwA⟩ : ∃ wA, wA = wr.alloc (.cells #[.string t.key, .slice pt nt ct] 78) := ⟨_, rfl⟩
      have UA : Upd (fun _ => False) wr wA := by rw [hwA]; exact (Upd.refl _ _).alloc _
      have UWA := Lib.hid (U.out.trans UA (fun _ _ h => h))
      have hAs : wA.heap.size = wr.heap.size + 1 := by rw [hwA, World.size_alloc]
      have BXA : Blk wA wr.heap.size [.string t.key, .slice pt nt ct] 78 := by rw [hwA]; exact Blk.made wr [.string t.key, .slice pt nt ct] _
      clear htk hkl IA0 evt hnt
      by_cases e : t.key = key
      · have q2 : (t.key.toList != key.toList) = false := by rw [e]; simp
        have q2' : (t.key.toList == key.toList) = true := by rw [e]; simp
        have NA2 : Hid (na = acc.length ∧ acc = cutT key (T.take (k + 1))) := ⟨NA.out.1, by rw [TK.out, NA.out.2]; unfold cutT; rw [List.filter_append]; simp [e]⟩
        have OWA : Hid (RowsAt wA w1.heap.size (.slice po na co) acc) := OW.out.keep0 UA
        clear e TK UA hAs NA BXA IA
        go_wp2
        go_roundw
        case rel => rw [← hwA]; exact ⟨k + 1, na, acc, _, _, by omega, by omega, rfl, by simp, NA2, OWA, UWA⟩
        case measure => simp [intOf]; omega
      · have q2 : (t.key.toList != key.toList) = true := by
          rw [bne_iff_ne]; intro he
          exact e (toList_eq (by simpa using he))
        have q2' : (t.key.toList == key.toList) = false := by
          cases hq : t.key.toList == key.toList with
          | false => rfl
          | true => exact absurd (toList_eq hq) e
        obtain ⟨p1, c1', w9, hr1, I1, U1', N1⟩ := rows_app wA w1.heap.size _ acc t (OW.out.keep0 UA) (by rw [EVT.out]; rfl) (by rw [← NA.out.1]; omega) (by omega)
        have NA2 : Hid (na + 1 = (acc ++ [t]).length ∧ acc ++ [t] = cutT key (T.take (k + 1))) := ⟨by rw [List.length_append, ← NA.out.1]; rfl, by rw [TK.out, NA.out.2]; unfold cutT; rw [List.filter_append]; simp [e]⟩
        have UF : Hid (Upd (fun _ => False) w1 w9) := UWA.out.trans U1' (fun q hq e => by have := ((OW.out.keep0 UA).lt e).1; omega)
        have I1 : Hid (RowsAt w9 w1.heap.size (.slice p1 (na + 1) c1') (acc ++ [t])) := by rw [NA.out.1]; exact I1
        rw [← NA.out.1, hAs, hwA, EVT.out] at hr1
        clear e TK UA hAs NA IA U1' N1 OW
        generalize acc ++ [t] = acc2 at *
        go_wp2_with (at_builtin; refine wpList_builtinN rfl _ _ 47 rfl _ _ rfl rfl hr1 ?_)
        go_roundw
        case rel => exact ⟨k + 1, na + 1, acc2, _, _, by omega, by omega, rfl, by simp, NA2, I1, UF⟩
        case measure => simp [intOf]; omega
    · have q1 : ¬ (k : Int) < (nl : Int) := by omega
      have EA : acc = cutT key T := by
        have e := NA.out.2
        rw [List.take_of_length_le (by rw [← NL.out]; omega)] at e; exact e
      have SUB : ∀ t ∈ acc, t ∈ T := fun t ht => by rw [EA] at ht; exact (List.mem_filter.1 ht).1
      have HR := H.out.keep0 U.out
      have R2 : RowsOk14 wr base (.slice po na co) acc := ⟨OW.out.mono (by have := HW.out; omega), fun t ht => HR.ids t (SUB t ht)⟩
      have RF := Lib.hid (HR.next R2)
      have B1 := Lib.hid HR.blk
      have UW : Hid (Upd (refW wb (.slice p nl c)) w (wr.setCell ⟨wb, 0, none⟩ (.slice po na co))) := by
        have u0 : Upd (refW wb (.slice p nl c)) w wr := ((U1.out.trans U.out (fun _ _ h => h)).weaken (fun _ _ h => h.elim))
        exact u0.set (fun _ => Or.inl rfl)
      have FR : Hid (From2 (refF wb (.slice p nl c) T) (refF wb (.slice po na co) acc) w) := by
        rintro b (rfl | hb | ⟨t, ht, hb⟩)
        · exact Or.inl (Or.inl rfl)
        · exact Or.inr (Nat.le_trans HW.out (OW.out.lt hb).1)
        · exact Or.inl (Or.inr (Or.inr ⟨t, SUB t ht, hb⟩))
      have HU2 : Hid (IntsAt (wr.setCell ⟨wb, 0, none⟩ (.slice po na co)) base u ((aget (T.map rk) key).getD [])) := by
        have h1 := HU.out.keep U.out (fun _ _ h => h)
        exact HR.intsW h1 ((Upd.refl _ _).set (fun _ => Or.inl rfl))
      have xb := B1.out.lt
      have xc := B1.out.cellAt (i := 0) (v := .slice p nl c) (by rw [NL.out]; rfl)
      have xf := B1.out.free 0
      subst EA
      rw [NL.out] at UW FR
      clear R2 HR SUB NA
      go_wp2
      go_ret
      rw [← NL.out] at *
      exact ⟨_, rfl, HU2.out, _, RF.out, UW.out, FR.out⟩
set_option maxHeartbeats 4000000 in
set_option maxRecDepth 100000 in
theorem ref_drop {w : World} {base wb : Nat} {most : Int} {v : Value} {T : List RowK} (h : RefRaw w base wb most v T) (hl : T.length ≤ 10000) (hls : ∀ t ∈ T, t.ids.length ≤ 10000) (hbase : base ≤ w.heap.size) (id : Int) :
    Calls Try.prog 18 #[.pointer (some ⟨wb, 0, none⟩), .int .i64 id] w fun e w' => ∃ v' T', e = .returned (.int .i64 ((T.length : Int) - (T'.length : Int))) ∧ T'.map rk = drop14 (T.map rk) id ∧ RefRaw w' base wb most v' T' ∧ Upd (refW wb v) w w' ∧ From2 (refF wb v T) (refF wb v' T') w := by
  have LS := Lib.hid hls
  clear hls
  obtain ⟨p, c, ev, hm, hle⟩ := h.rows.slice
  subst ev
  unfold maxLen at hm
  have H := Lib.hid h
  obtain ⟨nl, hnl⟩ : ∃ nl, nl = T.length := ⟨_, rfl⟩
  have NL := Lib.hid hnl
  have B0 := Lib.hid h.blk
  have x0 := h.blk.cellAt (i := 0) (v := .slice p T.length c) rfl
  have x1 := h.blk.cellAt (i := 1) (v := .int .i64 most) rfl
  rw [← hnl] at hl hm hle x0
  clear h hnl
  have MO := Lib.hid (rows_none w)
  have UO : Hid (Upd (fun _ => False) w (w.alloc (.cells #[] 78))) := (Upd.refl _ _).alloc _
  have hwb := B0.out.lt
  go_enter Try.func18, Try.ntmps18
  go_wp2
  go_loopw [5, 18] (fun out xi wr => ∃ (k na : Nat) (acc : List RowK) (p : Option Addr) (co : Nat), k ≤ nl ∧ na ≤ k ∧ out = .slice p na co ∧ xi = .int .i64 (k : Int) ∧ Hid (na = acc.length ∧ acc.map rk = drop14 ((T.take k).map rk) id) ∧ Hid (RowsOk14 wr w.heap.size out acc) ∧ Hid (Upd (fun _ => False) w wr)) (fun _ xi _ => nl - (intOf xi).toNat)
  case atStart => exact ⟨0, 0, [], _, _, by omega, by omega, rfl, rfl, Lib.hid ⟨rfl, rfl⟩, MO, UO⟩
  case round =>
    clear MO UO
    obtain ⟨k, na, acc, po, co, hk, hna, rfl, rfl, NA, OW, U⟩ := hrel
    by_cases hlt : k < nl
    · have hwl := U.out.size
      have hkl : k < T.length := by rw [← NL.out]; exact hlt
      have q1 : (k : Int) < (nl : Int) := by omega
      have HR := Lib.hid (H.out.keep0 U.out)
      obtain ⟨b, t, ep, hb, hbs, htk, c0, c1⟩ := rk_cells HR.out.rows hkl
      subst ep
      have TM := List.mem_of_getElem? htk
      have TK := Lib.hid (take_snocK htk)
      have IA0 := HR.out.ids t TM
      obtain ⟨pt, ct, evt, hmt⟩ := own_slice IA0
      unfold maxLen at hmt
      obtain ⟨nt, hnt⟩ : ∃ nt, nt = t.ids.length := ⟨_, rfl⟩
      rw [← hnt] at evt hmt
      have NT := Lib.hid hnt
      have EVT := Lib.hid evt
      have IA : Hid (IntsAt wr base (.slice pt nt ct) t.ids) := evt ▸ IA0
      rw [evt] at c1
      have HTK := Lib.hid htk
      have TM := Lib.hid TM
      obtain ⟨wA, hwA⟩ : ∃ wA, wA = wr.alloc (.cells #[.string t.key, .slice pt nt ct] 78) := ⟨_, rfl⟩
      have UA : Upd (fun _ => False) wr wA := by rw [hwA]; exact (Upd.refl _ _).alloc _
      have UWA := Lib.hid (U.out.trans UA (fun _ _ h => h))
      have hAs : wA.heap.size = wr.heap.size + 1 := by rw [hwA, World.size_alloc]
      have BXA : Blk wA wr.heap.size [.string t.key, .slice pt nt ct] 78 := by rw [hwA]; exact Blk.made wr [.string t.key, .slice pt nt ct] _
      clear htk hkl IA0 evt hnt
      have IT := Lib.hid (IA.out.keep UA (F := fun _ => False) (fun _ _ h => h))
      have HIL := LS.out t TM.out
      have OWA := Lib.hid (OW.out.keep0 UA)
      rw [← NT.out] at HIL
      have x2 := BXA.cellAt (i := 1) (v := .slice pt nt ct) rfl
      have HBX := Lib.hid BXA
      have HWA := Lib.hid hwA
      have UI : Hid (Upd (fun _ => False) wA (wA.alloc (.cells #[] 3))) := (Upd.refl _ _).alloc _
      have MI : Hid (IntsAt (wA.alloc (.cells #[] 3)) wA.heap.size (.slice (some ⟨wr.heap.size + 1, 0, none⟩) 0 0) []) := by have := ints_none wA; rw [hAs] at this; show IntsAt _ _ _ _; rw [hAs]; exact this
      clear IA UA BXA OW hwA
      go_wp2
      rw [← HWA.out]
      go_loopw [8, 26] (fun out xi wr => ∃ (j nb : Nat) (l : List Int) (p : Option Addr) (cq : Nat), j ≤ nt ∧ nb ≤ j ∧ out = .slice p nb cq ∧ xi = .int .i64 (j : Int) ∧ Hid (nb = l.length ∧ l = cutId id (t.ids.take j)) ∧ Hid (IntsAt wr wA.heap.size out l) ∧ Hid (Upd (fun _ => False) wA wr)) (fun _ xi _ => nt - (intOf xi).toNat)
      case atStart => exact ⟨0, 0, [], _, _, by omega, by omega, rfl, rfl, Lib.hid ⟨rfl, rfl⟩, MI, UI⟩
      case round =>
        clear MI UI
        obtain ⟨j, nb, l, pq, cq, hj, hnb, rfl, rfl, NB, OI, UQ⟩ := hrel
        have hwq := UQ.out.size
        by_cases hjl : j < nt
        · have q3 : (j : Int) < (nt : Int) := by omega
          have hjt : j < t.ids.length := by rw [← NT.out]; exact hjl
          obtain ⟨gt, cpt, ev2, ck, hgt⟩ := ints_cell (IT.out.keep UQ.out (F := fun _ => False) (fun _ _ h => h)) hjt
          injection ev2 with ev3 ev4 ev5
          subst ev3
          have TJ := Lib.hid (List.take_succ_eq_append_getElem hjt)
          obtain ⟨x, hx⟩ : ∃ x, x = t.ids[j] := ⟨_, rfl⟩
          rw [← hx] at ck TJ
          clear hx ev4 ev5
          by_cases e : x = id
          · have q4 : (x != id) = false := by rw [e]; simp
            have NB2 : Hid (nb = l.length ∧ l = cutId id (t.ids.take (j + 1))) := ⟨NB.out.1, by rw [TJ.out, NB.out.2]; unfold cutId; rw [List.filter_append]; simp [e]⟩
            clear e TJ NB
            go_wp2
            go_roundw
            case rel => exact ⟨j + 1, nb, l, _, _, by omega, by omega, rfl, by simp, NB2, OI, UQ⟩
            case measure => simp [intOf]; omega
          · have q4 : (x != id) = true := by rw [bne_iff_ne]; exact e
            obtain ⟨p1, c1', w9, hr1, I1, U1'⟩ := ints_app wr wA.heap.size _ l x OI.out (by rw [← NB.out.1]; omega) hwq
            have NB2 : Hid (nb + 1 = (l ++ [x]).length ∧ l ++ [x] = cutId id (t.ids.take (j + 1))) := ⟨by rw [List.length_append, ← NB.out.1]; rfl, by rw [TJ.out, NB.out.2]; unfold cutId; rw [List.filter_append]; simp [e]⟩
            have UF : Hid (Upd (fun _ => False) wA w9) := UQ.out.trans U1' (fun q hq e => by omega)
            have I1 : Hid (IntsAt w9 wA.heap.size (.slice p1 (nb + 1) c1') (l ++ [x])) := by rw [NB.out.1]; exact I1
            rw [← NB.out.1] at hr1
            clear e TJ NB U1' OI
            generalize l ++ [x] = l2 at *
            go_wp2_with (at_builtin; refine wpList_builtinN rfl _ _ 29 rfl _ _ rfl rfl hr1 ?_)
            go_roundw
            case rel => exact ⟨j + 1, nb + 1, l2, _, _, by omega, by omega, rfl, by simp, NB2, I1, UF⟩
            case measure => simp [intOf]; omega
        · have q3 : ¬ (j : Int) < (nt : Int) := by omega
          have EL : Hid (l = cutId id t.ids) := by
            have e := NB.out.2
            rw [List.take_of_length_le (by rw [← NT.out]; omega)] at e; exact e
          have x3 := (UQ.out.blk HBX.out (fun h => h)).cellAt (i := 0) (v := .string t.key) rfl
          have OWQ := OWA.out.keep0 UQ.out
          have UWQ := Lib.hid (UWA.out.trans UQ.out (fun _ _ h => h))
          by_cases hz : nb = 0
          · have q4 : ¬ (0 : Int) < (nb : Int) := by omega
            have NA2 : Hid (na = acc.length ∧ acc.map rk = drop14 ((T.take (k + 1)).map rk) id) := ⟨NA.out.1, by
              have hl0 : l = [] := List.length_eq_zero_iff.1 (by rw [← NB.out.1]; exact hz)
              rw [TK.out, NA.out.2]; unfold drop14; rw [List.map_append, List.filterMap_append]
              simp [rk, ← EL.out, hl0]⟩
            have OWQ := Lib.hid OWQ
            clear hz NB NA EL OI TK
            go_wp2
            go_roundw
            case rel => exact ⟨k + 1, na, acc, _, _, by omega, by omega, rfl, by simp, NA2, OWQ, UWQ⟩
            case measure => simp [intOf]; omega
          · have q4 : (0 : Int) < (nb : Int) := by omega
            have OI2 : IntsAt wr w.heap.size (.slice pq nb cq) l := own_mono OI.out (by have := UWA.out.size; omega)
            obtain ⟨p1, c1', w9, hr1, I1, U1', N1⟩ := OWQ.app ⟨t.key, .slice pq nb cq, l⟩ OI2 (by rw [← NA.out.1]; omega) UWQ.out.size
            have NA2 : Hid (na + 1 = (acc ++ [(⟨t.key, .slice pq nb cq, l⟩ : RowK)]).length ∧ (acc ++ [(⟨t.key, .slice pq nb cq, l⟩ : RowK)]).map rk = drop14 ((T.take (k + 1)).map rk) id) := ⟨by rw [List.length_append, ← NA.out.1]; rfl, by
              have hl0 : l ≠ [] := fun e => hz (by rw [NB.out.1, e]; rfl)
              rw [TK.out, List.map_append, NA.out.2]; unfold drop14; rw [List.map_append, List.filterMap_append]
              simp [rk, ← EL.out, hl0]⟩
            have UF : Hid (Upd (fun _ => False) w w9) := UWQ.out.trans U1' (fun q hq e => by have := (OWQ.rows.lt e).1; omega)
            have I1 : Hid (RowsOk14 w9 w.heap.size (.slice p1 (na + 1) c1') (acc ++ [(⟨t.key, .slice pq nb cq, l⟩ : RowK)])) := by rw [NA.out.1]; exact I1
            rw [← NA.out.1] at hr1
            clear hz NB NA EL OI TK U1' N1 OI2 OWQ UWQ
            generalize (acc ++ [(⟨t.key, .slice pq nb cq, l⟩ : RowK)]) = acc2 at *
            go_wp2_with (at_builtin; refine wpList_builtinN rfl _ _ 47 rfl _ _ rfl rfl hr1 ?_)
            go_roundw
            case rel => exact ⟨k + 1, na + 1, acc2, _, _, by omega, by omega, rfl, by simp, NA2, I1, UF⟩
            case measure => simp [intOf]; omega
    · have q1 : ¬ (k : Int) < (nl : Int) := by omega
      have EA : Hid (acc.map rk = drop14 (T.map rk) id) := by
        have e := NA.out.2
        rw [List.take_of_length_le (by rw [← NL.out]; omega)] at e; exact e
      have HR := H.out.keep0 U.out
      have R2 : RowsOk14 wr base (.slice po na co) acc := OW.out.mono hbase
      have RF := Lib.hid (HR.next R2)
      have B1 := Lib.hid HR.blk
      have UW : Hid (Upd (refW wb (.slice p nl c)) w (wr.setCell ⟨wb, 0, none⟩ (.slice po na co))) :=
        (U.out.weaken (F := refW wb (.slice p nl c)) (fun _ _ h => h.elim)).set (fun _ => Or.inl rfl)
      have FR : Hid (From2 (refF wb (.slice p nl c) T) (refF wb (.slice po na co) acc) w) := OW.out.from_ (Or.inl rfl) (Nat.le_refl _)
      have qs : IntKind.i64.wrap ((nl : Int) - (na : Int)) = (nl : Int) - (na : Int) := IntWalk.i64_in _ (by omega)
      have xb := B1.out.lt
      have xc : wr.cell? ⟨wb, 0, none⟩ = some (.slice p nl c) := B1.out.cellAt (i := 0) (by rw [NL.out]; rfl)
      have xf := B1.out.free 0
      have RES : Hid ((nl : Int) - (na : Int) = (T.length : Int) - (acc.length : Int)) := by show _ = _; rw [← NL.out, ← NA.out.1]
      rw [NL.out] at UW FR
      clear R2 HR NA
      go_wp2
      go_ret
      exact ⟨_, acc, by rw [RES.out]; rfl, EA.out, RF.out, UW.out, FR.out⟩
set_option maxHeartbeats 1000000 in
theorem ref_new (most : Int) (w : World) (base : Nat) (hb : base ≤ w.heap.size) :
    Calls Try.prog 12 #[.int .i64 most] w fun e w' => ∃ wb, e = .returned (.pointer (some ⟨wb, 0, none⟩)) ∧ RefRaw w' base wb (max most 1) (.slice none 0 0) [] ∧ Upd (fun _ => False) w w' ∧ ∀ b, refF wb (.slice none 0 0) [] b → w.heap.size ≤ b := by
  have F0 : ∀ b, refF w.heap.size (.slice none 0 0) [] b → w.heap.size ≤ b := by
    rintro b (rfl | hb | ⟨t, ht, _⟩)
    · exact Nat.le_refl _
    · cases hb
    · simp at ht
  have F0 := Lib.hid F0
  have R0 : Hid (∀ m, RefRaw (w.alloc (.cells #[.slice none 0 0, .int .i64 m] 49)) base w.heap.size m (.slice none 0 0) []) := fun m => ⟨Blk.made w [.slice none 0 0, .int .i64 m] _, hb, OwnN.none, fun t ht => by simp at ht⟩
  have U0 : Hid (∀ o, Upd (fun _ => False) w (w.alloc o)) := fun o => (Upd.refl _ _).alloc _
  by_cases hm : most < 1
  · have e : max most 1 = 1 := by omega
    rw [e]
    clear e
    go_enter Try.func12, Try.ntmps12
    go_wp2
    go_ret
    exact ⟨_, rfl, R0.out 1, U0.out _, F0.out⟩
  · have e : max most 1 = most := by omega
    rw [e]
    clear e
    go_enter Try.func12, Try.ntmps12
    go_wp2
    go_ret
    exact ⟨_, rfl, R0.out most, U0.out _, F0.out⟩
end Go.Proofs.Ythgojhchakclcaa
