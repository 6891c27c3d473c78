/- The document's rows of keys: New, Ids, All, Take, Drop, Add. -/
import Derived.Test.YthgojhchakclcaaRWith
import Derived.Test.YthgojhchakclcaaKeyK
import Derived.Deep.RegionWith
set_option linter.unusedVariables false
set_option linter.unusedSimpArgs false
set_option linter.unusedSectionVars false
namespace Go.Proofs.Ythgojhchakclcaa
open Go.RowKit

structure RowK where
  key : ByteArray
  v : Value
  ids : List Int
def rowkc (t : RowK) : List Value := [.string t.key, t.v]
def rk (t : RowK) : ByteArray × List Int := (t.key, t.ids)
abbrev RowsAt (w : World) (base : Nat) (v : Value) (T : List RowK) : Prop := OwnN rowkc 2 78 w base v T
theorem row_info : (Try.prog.info? 78).map (fun i => (i.zero, i.size, i.bytes)) = some (some (.agg #[.string ByteArray.empty, .slice none 0 0]), 2, 40) := by kernel_rfl
/-- The document's rows lie at wb: L, with a bound. -/
structure RefRaw (w : World) (base wb : Nat) (most : Int) (v : Value) (T : List RowK) : Prop where
  blk : Blk w wb [v, .int .i64 most] 49
  lo : base ≤ wb
  rows : RowsAt w base v T
  ids : ∀ t ∈ T, IntsAt w base t.v t.ids
/-- The blocks that it takes. -/
def refF (wb : Nat) (v : Value) (T : List RowK) : Nat → Prop := fun b => b = wb ∨ v.ownBlock = some b ∨ ∃ t ∈ T, t.v.ownBlock = some b
section
variable {w w' : World} {base wb : Nat} {most : Int} {v v' : Value} {T T' : List RowK}
theorem Blk.ty {w : World} {b : Nat} {cs cs' : List Value} {T T' : TypeId} (h : Blk w b cs T) (h' : Blk w b cs' T') : T = T' := by
  unfold Blk at *; rw [h] at h'; simp at h'; exact h'.2
theorem ints_blkN {w : World} {base b : Nat} {v : Value} {xs : List Int} (h : IntsAt w base v xs) (hv : v.ownBlock = some b) : base ≤ b ∧ b < w.heap.size ∧ ∃ cs, Blk w b cs 3 := (IntsAt.own.1 h).lt hv
theorem RefRaw.keep {F : Nat → Prop} (h : RefRaw w base wb most v T) (u : Upd F w w') (hd : ∀ b, refF wb v T b → ¬ F b) : RefRaw w' base wb most v T :=
  ⟨u.blk h.blk (hd _ (Or.inl rfl)), h.lo, h.rows.keep u (fun b hb => hd b (Or.inr (Or.inl hb))), fun t ht => (h.ids t ht).keep u (fun b hb => hd b (Or.inr (Or.inr ⟨t, ht, hb⟩)))⟩
theorem RefRaw.keep0 (h : RefRaw w base wb most v T) (u : Upd (fun _ => False) w w') : RefRaw w' base wb most v T := h.keep u (fun _ _ h => h)
theorem RefRaw.lt (h : RefRaw w base wb most v T) {b : Nat} (hb : refF wb v T b) : base ≤ b ∧ b < w.heap.size := by
  rcases hb with rfl | hb | ⟨t, ht, hb⟩
  · exact ⟨h.lo, h.blk.lt⟩
  · exact ⟨(h.rows.lt hb).1, (h.rows.lt hb).2.1⟩
  · exact ⟨(ints_blkN (h.ids t ht) hb).1, (ints_blkN (h.ids t ht) hb).2.1⟩
theorem RefRaw.ne1 (h : RefRaw w base wb most v T) {b : Nat} (hb : v.ownBlock = some b) : b ≠ wb := by
  rintro rfl; obtain ⟨_, _, cs, hB⟩ := h.rows.lt hb; exact absurd (h.blk.ty hB) (by decide)
theorem RefRaw.ne2 (h : RefRaw w base wb most v T) {t : RowK} (ht : t ∈ T) {b : Nat} (hb : t.v.ownBlock = some b) : b ≠ wb ∧ v.ownBlock ≠ some b := by
  obtain ⟨_, _, cs, hB⟩ := ints_blkN (h.ids t ht) hb
  refine ⟨?_, fun hv => ?_⟩
  · rintro rfl; exact absurd (h.blk.ty hB) (by decide)
  · obtain ⟨_, _, cs', hB'⟩ := h.rows.lt hv; exact absurd (hB'.ty hB) (by decide)
/-- The cells of a row. -/
theorem rk_cells {p : Option Addr} {c : Nat} (h : RowsAt w base (.slice p T.length c) T) {k : Nat} (hk : k < T.length) :
    ∃ b t, p = some ⟨b, 0, none⟩ ∧ base ≤ b ∧ b < w.heap.size ∧ T[k]? = some t ∧ w.cell? ⟨b, k * 2, none⟩ = some (.string t.key) ∧ w.cell? ⟨b, k * 2 + 1, none⟩ = some t.v := by
  rcases h.blk with ⟨_, e⟩ | ⟨b, cap, cs, e, hb, hB, _⟩
  · rw [e] at hk; simp at hk
  · injection e with e1 e2 e3
    subst e1 e3
    have hx : T[k]? = some T[k] := List.getElem?_eq_getElem hk
    refine ⟨b, T[k], rfl, hb, hB.lt, hx, ?_, ?_⟩
    · have := h.cell (i := k) (j := 0) (fun _ => rfl) (by omega) hx; rw [Nat.add_zero] at this; exact this
    · exact h.cell (i := k) (j := 1) (fun _ => rfl) (by omega) hx
theorem take_snocK {α : Type} {l : List α} {k : Nat} {d : α} (h : l[k]? = some d) : l.take (k + 1) = l.take k ++ [d] := by
  obtain ⟨h1, e⟩ := List.getElem?_eq_some_iff.1 h
  rw [List.take_succ_eq_append_getElem h1, e]
theorem rk_none {key : ByteArray} (h : ∀ t ∈ T, t.key ≠ key) : aget (T.map rk) key = none := by
  induction T with
  | nil => rfl
  | cons t T ih =>
    have h1 := h t (by simp)
    simp only [List.map_cons, rk, aget]
    rw [if_neg h1]; exact ih (fun t ht => h t (by simp [ht]))
theorem rk_some {key : ByteArray} {k : Nat} {t : RowK} (h : ∀ t ∈ T.take k, t.key ≠ key) (ht : T[k]? = some t) (hk : t.key = key) : aget (T.map rk) key = some t.ids := by
  induction T generalizing k with
  | nil => simp at ht
  | cons s T ih =>
    cases k with
    | zero => simp at ht; subst ht; simp only [List.map_cons, rk, aget]; rw [if_pos hk]
    | succ k =>
      have h1 := h s (by simp)
      simp only [List.map_cons, rk, aget]
      rw [if_neg h1]; exact ih (k := k) (fun t ht => h t (by rw [List.take_succ_cons]; exact List.mem_cons_of_mem _ ht)) (by simpa using ht)
theorem rk_set {key : ByteArray} {k : Nat} {t : RowK} {u : Value} {l : List Int} (h : ∀ t ∈ T.take k, t.key ≠ key) (ht : T[k]? = some t) (hk : t.key = key) : (T.set k ⟨t.key, u, l⟩).map rk = aset (T.map rk) key l := by
  induction T generalizing k with
  | nil => simp at ht
  | cons s T ih =>
    cases k with
    | zero => simp at ht; subst ht; simp only [List.map_cons, List.set_cons_zero, rk, aset]; rw [if_pos hk, hk]
    | succ k =>
      have h1 := h s (by simp)
      show _ :: _ = aset ((s.key, s.ids) :: _) _ _
      simp only [aset]
      rw [if_neg h1]
      rw [← ih (k := k) (fun t ht => h t (by rw [List.take_succ_cons]; exact List.mem_cons_of_mem _ ht)) (by simpa using ht)]; rfl
/-- A row more, at rows of the call's own. -/
theorem rows_app (w : World) (base : Nat) (v : Value) (T : List RowK) (t : RowK) (h : RowsAt w base v T) (ht : t.v.oneCell' = true) (hl : T.length ≤ 100000) (hb : base ≤ w.heap.size) :
    ∃ p c w', (Builtin.append_ #[47, 47] 47 #[v, .slice (some ⟨w.heap.size, 0, none⟩) 1 1]).run Try.prog (w.alloc (.cells #[.string t.key, t.v] 78)) = .ok (.slice p (T.length + 1) c) w' ∧ RowsAt w' base (.slice p (T.length + 1) c) (T ++ [t]) ∧ Upd (fun k => v.ownBlock = some k) w w' ∧ NewOr v (.slice p (T.length + 1) c) w := by
  obtain ⟨i0, hi0, hz0, hz1, hz2⟩ := info_parts row_info
  have u0 : Upd (fun _ => False) w (w.alloc (.cells #[.string t.key, t.v] 78)) := (Upd.refl _ _).alloc _
  have h1 := h.keep0 u0
  obtain ⟨v', w', a, b, c, d⟩ := OwnN.append (P := Try.prog) 47 47 i0 (.agg #[.string ByteArray.empty, .slice none 0 0]) 40 Try.underlying47 hi0 hz0 hz1 hz2 rfl (by decide) (fun _ => rfl) (fun a ha => fun u hu => by simp at ha; subst ha; simp [rowkc] at hu; rcases hu with rfl | rfl; rfl; exact ht) h1 (RowOf.lit (f := rowkc) w t [.string t.key, t.v] _ rfl rfl) (by unfold maxLen; simp; omega) (by simp; omega) (Nat.le_trans hb u0.size)
  obtain ⟨p, k, e, _⟩ := b.slice
  rw [List.length_append, List.length_singleton] at e
  subst e
  exact ⟨p, k, w', a, b, (u0.weaken (F := fun k => v.ownBlock = some k) (fun _ _ h => h.elim)).trans c (fun _ _ h => h), fun k hk => (d k hk).imp id (fun g => Nat.le_trans u0.size g)⟩
theorem ints_one {l : List Int} (h : IntsAt w base v l) : v.oneCell' = true := by
  obtain ⟨p, c, e, _⟩ := own_slice h; subst e; rfl
end
set_option maxHeartbeats 4000000 in
set_option maxRecDepth 100000 in
theorem ref_ids {w : World} {base wb : Nat} {most : Int} {v : Value} {T : List RowK} (h : RefRaw w base wb most v T) (hl : T.length ≤ 10000) (key : ByteArray) :
    Calls Try.prog 22 #[.pointer (some ⟨wb, 0, none⟩), .string key] w fun e w' => ∃ u, e = .returned u ∧ IntsAt w' base u ((aget (T.map rk) key).getD []) ∧ Upd (fun _ => False) w w' := by
  obtain ⟨p, c, ev, hm, hle⟩ := h.rows.slice
  subst ev
  unfold maxLen at hm
  have H := Lib.hid h
  obtain ⟨nl, hnl⟩ : ∃ nl, nl = T.length := ⟨_, rfl⟩
  have NL := Lib.hid hnl
  have B0 := Lib.hid h.blk
  have x0 := h.blk.cellAt (i := 0) (v := .slice p T.length c) rfl
  have x1 := h.blk.cellAt (i := 1) (v := .int .i64 most) rfl
  rw [← hnl] at hl hm hle x0
  clear h hnl
  go_enter Try.func22, Try.ntmps22
  go_wp2
  go_loopw [12] (fun xi wr => ∃ (k : Nat), k ≤ nl ∧ xi = .int .i64 (k : Int) ∧ Hid (∀ t ∈ T.take k, t.key ≠ key) ∧ Hid (Upd (fun _ => False) w wr)) (fun xi _ => nl - (intOf xi).toNat)
  case atStart => exact ⟨0, by omega, rfl, Lib.hid (by simp), Lib.hid (Upd.refl _ _)⟩
  case round =>
    obtain ⟨k, hk, rfl, NI, U⟩ := hrel
    by_cases hlt : k < nl
    · have hwl := U.out.size
      have hkl : k < T.length := by rw [← NL.out]; exact hlt
      have q1 : (k : Int) < (nl : Int) := by omega
      have HR := Lib.hid (H.out.keep0 U.out)
      obtain ⟨b, t, ep, hb, hbs, htk, c0, c1⟩ := rk_cells HR.out.rows hkl
      subst ep
      have TM := List.mem_of_getElem? htk
      have TK := Lib.hid (take_snocK htk)
      have IA0 := HR.out.ids t TM
      obtain ⟨pt, ct, evt, hmt⟩ := own_slice IA0
      unfold maxLen at hmt
      obtain ⟨nt, hnt⟩ : ∃ nt, nt = t.ids.length := ⟨_, rfl⟩
      rw [← hnt] at evt hmt
      have NT := Lib.hid hnt
      have EVT := Lib.hid evt
      have IA : Hid (IntsAt wr base (.slice pt nt ct) t.ids) := evt ▸ IA0
      rw [evt] at c1
      have HTK := Lib.hid htk
      have TM := Lib.hid TM
      obtain ⟨wA, hwA⟩ : ∃ wA, wA = wr.alloc (.cells #[.string t.key, .slice pt nt ct] 78) := ⟨_, rfl⟩
      have UA : Upd (fun _ => False) wr wA := by rw [hwA]; exact (Upd.refl _ _).alloc _
      have UWA := Lib.hid (U.out.trans UA (fun _ _ h => h))
      have hAs : wA.heap.size = wr.heap.size + 1 := by rw [hwA, World.size_alloc]
      have BXA : Blk wA wr.heap.size [.string t.key, .slice pt nt ct] 78 := by rw [hwA]; exact Blk.made wr [.string t.key, .slice pt nt ct] _
      clear htk hkl IA0 evt hnt
      by_cases e : t.key = key
      · have q2 : (t.key.toList == key.toList) = true := by rw [e]; simp
        have R : Hid ((aget (T.map rk) key).getD [] = t.ids) := by show _ = _; rw [rk_some NI.out HTK.out e]; rfl
        have IA2 := Lib.hid (IA.out.keep (F := fun _ => False) UA (fun _ _ h => h))
        clear e IA UA hAs BXA
        have HWA := Lib.hid hwA
        clear hwA
        go_wp2
        go_ret
        rw [← HWA.out]
        exact ⟨_, rfl, by rw [R.out]; exact IA2.out, UWA.out⟩
      · have q2 : (t.key.toList == key.toList) = false := by
          cases hq : t.key.toList == key.toList with
          | false => rfl
          | true => exact absurd (toList_eq hq) e
        have NI2 : Hid (∀ t ∈ T.take (k + 1), t.key ≠ key) := by
          intro s hs; rw [TK.out] at hs
          rcases List.mem_append.1 hs with g | g
          · exact NI.out s g
          · rw [List.mem_singleton] at g; rw [g]; exact e
        clear e UA hAs BXA IA
        go_wp2
        go_roundw
        case rel => exact ⟨k + 1, by omega, by simp, NI2, by rw [← hwA]; exact UWA⟩
        case measure => simp [intOf]; omega
    · have q1 : ¬ (k : Int) < (nl : Int) := by omega
      have NM : Hid (aget (T.map rk) key = none) := by
        have := NI.out
        rw [List.take_of_length_le (by rw [← NL.out]; omega)] at this; exact rk_none this
      go_wp2
      go_ret
      exact ⟨_, rfl, by rw [NM.out]; exact World.ownsRow_nil _ _ _ _, U.out⟩
set_option maxHeartbeats 4000000 in
set_option maxRecDepth 100000 in
theorem ref_all {w : World} {base wb : Nat} {most : Int} {v : Value} {T : List RowK} (h : RefRaw w base wb most v T) (hl : T.length ≤ 10000) :
    Calls Try.prog 21 #[.pointer (some ⟨wb, 0, none⟩)] w fun e w' => ∃ u, e = .returned u ∧ StrsAt w' w.heap.size u (akeys (T.map rk)) ∧ Upd (fun _ => False) w w' := by
  obtain ⟨p, c, ev, hm, hle⟩ := h.rows.slice
  subst ev
  unfold maxLen at hm
  have H := Lib.hid h
  obtain ⟨nl, hnl⟩ : ∃ nl, nl = T.length := ⟨_, rfl⟩
  have NL := Lib.hid hnl
  have B0 := Lib.hid h.blk
  have x0 := h.blk.cellAt (i := 0) (v := .slice p T.length c) rfl
  have x1 := h.blk.cellAt (i := 1) (v := .int .i64 most) rfl
  rw [← hnl] at hl hm hle x0
  clear h hnl
  have MO := Lib.hid (strs_none w)
  have UO : Hid (Upd (fun _ => False) w (w.alloc (.cells #[] 9))) := (Upd.refl _ _).alloc _
  have hwb := B0.out.lt
  go_enter Try.func21, Try.ntmps21
  go_wp2
  go_loopw [3, 12] (fun out xi wr => ∃ (k : Nat) (acc : List ByteArray) (p : Option Addr) (co : Nat), k ≤ nl ∧ out = .slice p k co ∧ xi = .int .i64 (k : Int) ∧ Hid (k = acc.length ∧ acc = akeys ((T.take k).map rk)) ∧ Hid (StrsAt wr w.heap.size out acc) ∧ Hid (Upd (fun _ => False) w wr)) (fun _ xi _ => nl - (intOf xi).toNat)
  case atStart => exact ⟨0, [], _, _, by omega, rfl, rfl, Lib.hid ⟨rfl, rfl⟩, MO, UO⟩
  case round =>
    clear MO UO
    obtain ⟨k, acc, po, co, hk, rfl, rfl, AC, OW, U⟩ := hrel
    by_cases hlt : k < nl
    · have hwl := U.out.size
      have hkl : k < T.length := by rw [← NL.out]; exact hlt
      have q1 : (k : Int) < (nl : Int) := by omega
      have HR := Lib.hid (H.out.keep0 U.out)
      obtain ⟨b, t, ep, hb, hbs, htk, c0, c1⟩ := rk_cells HR.out.rows hkl
      subst ep
      have TM := List.mem_of_getElem? htk
      have TK := Lib.hid (take_snocK htk)
      have IA0 := HR.out.ids t TM
      obtain ⟨pt, ct, evt, hmt⟩ := own_slice IA0
      unfold maxLen at hmt
      obtain ⟨nt, hnt⟩ : ∃ nt, nt = t.ids.length := ⟨_, rfl⟩
      rw [← hnt] at evt hmt
      have NT := Lib.hid hnt
      have EVT := Lib.hid evt
      have IA : Hid (IntsAt wr base (.slice pt nt ct) t.ids) := evt ▸ IA0
      rw [evt] at c1
      have HTK := Lib.hid htk
      have TM := Lib.hid TM
      obtain ⟨wA, hwA⟩ : ∃ wA, wA = wr.alloc (.cells #[.string t.key, .slice pt nt ct] 78) := ⟨_, rfl⟩
      have UA : Upd (fun _ => False) wr wA := by rw [hwA]; exact (Upd.refl _ _).alloc _
      have UWA := Lib.hid (U.out.trans UA (fun _ _ h => h))
      have hAs : wA.heap.size = wr.heap.size + 1 := by rw [hwA, World.size_alloc]
      have BXA : Blk wA wr.heap.size [.string t.key, .slice pt nt ct] 78 := by rw [hwA]; exact Blk.made wr [.string t.key, .slice pt nt ct] _
      clear htk hkl IA0 evt hnt
      obtain ⟨p1, c1', w1, hr1, I1, U1⟩ := strs_app wA w.heap.size _ acc t.key (OW.out.keep UA (fun _ _ h => h)) (by rw [← AC.out.1]; omega) (by omega)
      have AC2 : Hid (k + 1 = (acc ++ [t.key]).length ∧ acc ++ [t.key] = akeys ((T.take (k + 1)).map rk)) := ⟨by rw [List.length_append, ← AC.out.1]; rfl, by rw [TK.out, AC.out.2]; simp [akeys, rk]⟩
      have UF : Hid (Upd (fun _ => False) w w1) := UWA.out.trans U1 (fun q hq e => by omega)
      have I1 : Hid (StrsAt w1 w.heap.size (.slice p1 (k + 1) c1') (acc ++ [t.key])) := by rw [AC.out.1]; exact I1
      rw [← AC.out.1, hAs, hwA] at hr1
      clear TK UA hAs BXA IA U1 OW AC
      generalize acc ++ [t.key] = acc2 at *
      go_wp2_with (at_builtin; refine wpList_builtinN rfl _ _ 52 rfl _ _ rfl rfl hr1 ?_)
      go_roundw
      case rel => exact ⟨k + 1, acc2, _, _, by omega, rfl, by simp, AC2, I1, UF⟩
      case measure => simp [intOf]; omega
    · have q1 : ¬ (k : Int) < (nl : Int) := by omega
      have EA : Hid (acc = akeys (T.map rk)) := by
        have := AC.out.2
        rw [List.take_of_length_le (by rw [← NL.out]; omega)] at this; exact this
      go_wp2
      go_ret
      exact ⟨_, rfl, by rw [← EA.out]; exact OW.out, U.out⟩
end Go.Proofs.Ythgojhchakclcaa
