/- The acts of layer 16, opened. -/
import Derived.Test.YtmlojbfcmebboaaGreatK30
import Derived.Test.YtmlojbfcmebboaaGreatK29
set_option linter.unusedVariables false
set_option linter.unusedSimpArgs false
set_option maxRecDepth 100000
namespace Go.Proofs.YtmlojbfcmebboaaGreat
open Go.RowKit Go.ChangeShapes Go.WideShapes Go.Deep

section
variable {H : Type} {enc : TypeId × Value → H} {P : Program} {w : World} {base : Nat} {spare : Nat → Bool} {held : Bool}
/-- A slice of structs, opened to its rows of cells. -/
theorem slice_rows {T E : TypeId} {fuel len cap : Nat} {a : Addr} {x : DataW H × List MemPlace} (hT : P.underlying T = some (.slice E)) (h : DataW.trod enc P w base spare held fuel T [.slice (some a) len cap] = some x) :
    len ≤ maxLen ∧ ∀ i, i < len → ∃ row y k, row.length = P.cellsOf E ∧ (∀ j, j < P.cellsOf E → w.cell? (a.add (i * P.cellsOf E + j)) = row[j]?) ∧ DataW.trod enc P w base spare held k E row = some y := by
  rcases open_slice hT h with ⟨hnil, _⟩ | ⟨a', len', cap', m, n, D, Q, hv, _, hlc, hcm, hm, _, hall⟩
  · simp at hnil
  · simp only [List.cons.injEq, Value.slice.injEq, Option.some.injEq, and_true] at hv
    obtain ⟨rfl, rfl, rfl⟩ := hv
    have hlm : len ≤ m := by rw [hm]; split <;> omega
    refine ⟨Nat.le_trans hlc hcm, fun i hi => ?_⟩
    obtain ⟨row, hrow, hread⟩ := hall i (Nat.lt_of_lt_of_le hi hlm)
    obtain ⟨_, hsize, hcells⟩ := World.cells?_some hrow
    exact ⟨row, _, n, hsize, fun j hj => by rw [← hcells j (by omega), Go.Deep.add_add], hread⟩
/-- A field of a struct. -/
theorem field_of {E : TypeId} {fs : Array Field} {n : Nat} {row : List Value} {y : DataW H × List MemPlace} (hE : P.underlying E = some (.struct fs)) (h : DataW.trod enc P w base spare held n E row = some y) {j : Nat} {f : Field} (hj : fs[j]? = some f) {T : TypeId} {o s : Nat} (hT : f.type = T) (ho : f.offset = o) (hs : P.cellsOf T = s) :
    ∃ k z, DataW.trod enc P w base spare held k T ((row.drop o).take s) = some z := by
  subst hT ho hs
  obtain ⟨xs, k, _, _, _, hl, hf⟩ := DataW.trod_struct hE h
  have h1 := hf j f hj
  have hjs : j < fs.size := (Array.getElem?_eq_some_iff.1 hj).1
  rw [List.getElem?_eq_getElem (by omega)] at h1
  exact ⟨k, _, h1⟩
/-- A slice of texts in a cell. -/
theorem txts_of_trod {n : Nat} {v : Value} {y : DataW H × List MemPlace} (h : DataW.trod enc Tryz.prog w base spare held n 30 [v] = some y) : ∃ l : List Txt, RowOf txtc 1 w v l ∧ ∀ t ∈ l, t.length ≤ maxLen := by
  rcases open_slice1 Tryz.underlying30 (by kernel_rfl) h with ⟨e, _⟩ | ⟨a', len', cap', m, n, V, D, Pl, e, hb, hlc, hcm, hm, _, hall⟩
  · simp at e
    subst e
    exact ⟨[], Or.inl ⟨_, _, rfl, rfl⟩, fun a ha => by simp at ha⟩
  · simp at e
    subst e
    have hlm : len' ≤ m := by rw [hm]; split <;> omega
    have key : ∀ i, ∃ x : Txt, i < len' → w.cell? (a'.add (i * 1 + 0)) = some (.string (ofL x)) ∧ x.length ≤ maxLen := by
      intro i
      by_cases hil : i < len'
      · obtain ⟨c1, t1⟩ := hall i (Nat.lt_of_lt_of_le hil hlm)
        obtain ⟨x1, e1, _, z2⟩ := DataW.trod_string Tryz.underlying9 t1
        simp at e1
        refine ⟨x1.toList, fun _ => ⟨?_, ?_⟩⟩
        · rw [Nat.mul_one, Nat.add_zero, c1, e1, ofL_of]
        · have := ofL_size x1.toList; rw [ofL_of] at this; omega
      · exact ⟨[], fun h => absurd h hil⟩
    obtain ⟨g, hg⟩ := Classical.axiomOfChoice key
    refine ⟨(List.range len').map g, rowOf_mk (by omega) g (Nat.le_trans hlc hcm) (fun i hil j hj => ?_), fun x hx => ?_⟩
    · have : j = 0 := by omega
      subst this
      exact ⟨_, rfl, (hg i hil).1⟩
    · simp at hx
      obtain ⟨i, hil, rfl⟩ := hx
      exact (hg i hil).2
end
structure Act16 where
  kind : Int
  id : Int
  md : MD
  pv : Value
  yes : Bool
  kv : Value
  keys : List Txt
  ev : Int
def act16c (a : Act16) : List Value := [.int .i64 a.kind, .int .i64 a.id, .bool a.md.on, .bool a.md.bc, .bool a.md.oi, .bool a.md.oo, .bool a.md.nl, .int .i64 a.md.rd, a.pv, .bool a.yes, a.kv, .int .i64 a.ev]
/-- What an act leads to. -/
structure A16 (w : World) (a : Act16) : Prop where
  ps : RowOf txtc 1 w a.pv a.md.ps
  psl : ∀ t ∈ a.md.ps, t.length ≤ maxLen
  ks : RowOf txtc 1 w a.kv a.keys
  ksl : ∀ t ∈ a.keys, t.length ≤ maxLen
  idw : (Lit.int .i64 a.id).wf = true
  evw : (Lit.int .i64 a.ev).wf = true
theorem list12 {α : Type} {l : List α} (h : l.length = 12) : ∃ a b c d e f g i j k m n, l = [a, b, c, d, e, f, g, i, j, k, m, n] := by
  match l, h with
  | [a, b, c, d, e, f, g, i, j, k, m, n], _ => exact ⟨_, _, _, _, _, _, _, _, _, _, _, _, rfl⟩
section
variable {H : Type} {enc : TypeId × Value → H} {w : World} {base : Nat} {spare : Nat → Bool} {held : Bool}
theorem open_act16 {n : Nat} {row : List Value} {y : DataW H × List MemPlace} (hl : row.length = 12) (h : DataW.trod enc Tryz.prog w base spare held n 35 row = some y) : ∃ x : Act16, act16c x = row ∧ A16 w x := by
  have ci : Tryz.prog.cellsOf 3 = 1 := by kernel_rfl
  have cbo : Tryz.prog.cellsOf 4 = 1 := by kernel_rfl
  have cs : Tryz.prog.cellsOf 30 = 1 := by kernel_rfl
  have cm : Tryz.prog.cellsOf 32 = 7 := by kernel_rfl
  obtain ⟨a, b, c, d, e, f, g, i, j, k, m, o, rfl⟩ := list12 hl
  obtain ⟨k0, z0, h0⟩ := field_of Tryz.underlying35 h (j := 0) rfl (T := 3) (o := 0) rfl rfl ci
  obtain ⟨k1, z1, h1⟩ := field_of Tryz.underlying35 h (j := 1) rfl (T := 3) (o := 1) rfl rfl ci
  obtain ⟨k2, z2, h2⟩ := field_of Tryz.underlying35 h (j := 2) rfl (T := 32) (o := 2) rfl rfl cm
  obtain ⟨k3, z3, h3⟩ := field_of Tryz.underlying35 h (j := 3) rfl (T := 4) (o := 9) rfl rfl cbo
  obtain ⟨k4, z4, h4⟩ := field_of Tryz.underlying35 h (j := 4) rfl (T := 30) (o := 10) rfl rfl cs
  obtain ⟨k5, z5, h5⟩ := field_of Tryz.underlying35 h (j := 5) rfl (T := 3) (o := 11) rfl rfl ci
  simp only [ci, cbo, cs, cm, List.drop_succ_cons, List.drop_zero, List.take_succ_cons, List.take_zero] at h0 h1 h2 h3 h4 h5
  obtain ⟨q0, p0, h20⟩ := field_of Tryz.underlying32 h2 (j := 0) rfl (T := 4) (o := 0) rfl rfl cbo
  obtain ⟨q1, p1, h21⟩ := field_of Tryz.underlying32 h2 (j := 1) rfl (T := 4) (o := 1) rfl rfl cbo
  obtain ⟨q2, p2, h22⟩ := field_of Tryz.underlying32 h2 (j := 2) rfl (T := 4) (o := 2) rfl rfl cbo
  obtain ⟨q3, p3, h23⟩ := field_of Tryz.underlying32 h2 (j := 3) rfl (T := 4) (o := 3) rfl rfl cbo
  obtain ⟨q4, p4, h24⟩ := field_of Tryz.underlying32 h2 (j := 4) rfl (T := 4) (o := 4) rfl rfl cbo
  obtain ⟨q5, p5, h25⟩ := field_of Tryz.underlying32 h2 (j := 5) rfl (T := 3) (o := 5) rfl rfl ci
  obtain ⟨q6, p6, h26⟩ := field_of Tryz.underlying32 h2 (j := 6) rfl (T := 30) (o := 6) rfl rfl cs
  simp only [ci, cbo, cs, List.drop_succ_cons, List.drop_zero, List.take_succ_cons, List.take_zero] at h20 h21 h22 h23 h24 h25 h26
  obtain ⟨x0, e0, _, _⟩ := DataW.trod_int Tryz.underlying3 h0
  obtain ⟨x1, e1, _, w1⟩ := DataW.trod_int Tryz.underlying3 h1
  obtain ⟨b0, e20, _⟩ := DataW.trod_bool Tryz.underlying4 h20
  obtain ⟨b1, e21, _⟩ := DataW.trod_bool Tryz.underlying4 h21
  obtain ⟨b2, e22, _⟩ := DataW.trod_bool Tryz.underlying4 h22
  obtain ⟨b3, e23, _⟩ := DataW.trod_bool Tryz.underlying4 h23
  obtain ⟨b4, e24, _⟩ := DataW.trod_bool Tryz.underlying4 h24
  obtain ⟨x2, e25, _, _⟩ := DataW.trod_int Tryz.underlying3 h25
  obtain ⟨ps, r26, s26⟩ := txts_of_trod h26
  obtain ⟨b5, e3, _⟩ := DataW.trod_bool Tryz.underlying4 h3
  obtain ⟨ks, r4, s4⟩ := txts_of_trod h4
  obtain ⟨x5, e5, _, w5⟩ := DataW.trod_int Tryz.underlying3 h5
  simp only [List.cons.injEq, and_true] at e0 e1 e20 e21 e22 e23 e24 e25 e3 e5
  subst e0 e1 e20 e21 e22 e23 e24 e25 e3 e5
  exact ⟨⟨x0, x1, ⟨b0, b1, b2, b3, b4, x2, ps⟩, _, b5, _, ks, x5⟩, rfl, ⟨r26, s26, r4, s4, w1, w5⟩⟩
theorem open_acts16 {r : Reach} {b0 : Nat} {v : Value} {d : DataW H} {p : List MemPlace} (hv : Value.okWide Tryz.prog w r b0 22 v) (h : DataW.Trod enc Tryz.prog w base spare held 22 v d p) :
    ∃ l : List Act16, RowOf act16c 12 w v l ∧ ∀ a ∈ l, A16 w a := by
  obtain ⟨a, len, cap, rfl⟩ := okWide_slice Tryz.underlying22 hv
  obtain ⟨fuel, hf⟩ := h
  cases a with
  | none =>
    obtain ⟨rfl, rfl⟩ := slice_nil Tryz.underlying22 hf
    exact ⟨[], Or.inl ⟨_, _, rfl, rfl⟩, fun a ha => by simp at ha⟩
  | some a' =>
    have cE : Tryz.prog.cellsOf 35 = 12 := by kernel_rfl
    obtain ⟨hm, hi⟩ := slice_rows Tryz.underlying22 hf
    rw [cE] at hi
    have key : ∀ i, ∃ x : Act16, i < len → (∀ j, j < 12 → w.cell? (a'.add (i * 12 + j)) = (act16c x)[j]?) ∧ A16 w x := by
      intro i
      by_cases hil : i < len
      · obtain ⟨row, y, k, hl, hc, ht⟩ := hi i hil
        obtain ⟨x, e, hx⟩ := open_act16 hl ht
        exact ⟨x, fun _ => ⟨fun j hj => by rw [e]; exact hc j hj, hx⟩⟩
      · exact ⟨⟨0, 0, offM, .bool false, false, .bool false, [], 0⟩, fun h => absurd h hil⟩
    obtain ⟨g, hg⟩ := Classical.axiomOfChoice key
    refine ⟨(List.range len).map g, rowOf_mk (by omega) g hm (fun i hil j hj => ?_), fun x hx => ?_⟩
    · have h1 := (hg i hil).1 j hj
      have hjl : j < (act16c (g i)).length := hj
      rw [List.getElem?_eq_getElem hjl] at h1
      exact ⟨_, List.getElem?_eq_getElem hjl, h1⟩
    · simp at hx
      obtain ⟨i, hil, rfl⟩ := hx
      exact (hg i hil).2
end
end Go.Proofs.YtmlojbfcmebboaaGreat
/- Acts that are too great to be looked at. -/
set_option linter.unusedVariables false
set_option linter.unusedSimpArgs false
set_option linter.unusedSectionVars false
set_option maxRecDepth 100000
namespace Go.Proofs.YtmlojbfcmebboaaGreat
open Go.RowKit

theorem act16_cells {w : World} {p : Option Addr} {cap : Nat} {l : List Act16} (h : RowOf act16c 12 w (.slice p l.length cap) l) {k : Nat} (hk : k < l.length) :
    ∃ b off, p = some ⟨b, off, none⟩ ∧ b < w.heap.size ∧ w.cell? ⟨b, off + k * 12, none⟩ = some (.int .i64 (l[k]).kind) ∧ ∀ j, j < 11 → w.cell? ⟨b, off + k * 12 + (j + 1), none⟩ = (act16c l[k])[j + 1]? := by
  rcases h with ⟨_, _, _, e⟩ | ⟨b, off, c, e, hb, _, hc⟩
  · rw [e] at hk; simp at hk
  · simp only [Value.slice.injEq] at e
    have hx : l[k]? = some l[k] := List.getElem?_eq_getElem hk
    refine ⟨b, off, e.1, hb, ?_, fun j hj => ?_⟩
    · have := hc k _ hx 0 (by omega); rw [Nat.add_zero] at this; simpa [act16c] using this
    · have := hc k _ hx (j + 1) (by omega); rw [← Nat.add_assoc] at this; exact this
def GoodA (a : Act16) : Prop := a.keys.length ≤ 10 ∧ a.md.ps.length ≤ 40 ∧ (∀ t ∈ a.keys, t.length ≤ 100) ∧ ∀ t ∈ a.md.ps, t.length ≤ 100
def Good16 (l : List Act16) : Prop := l.length ≤ 60 ∧ ∀ a ∈ l, GoodA a
def GreatPost (l : List Act16) (w : World) (e : Ending) (w' : World) : Prop := ∃ g : Bool, e = .returned (.bool g) ∧ (g = false → Good16 l) ∧ Upd (fun _ => False) w w'
theorem A16.keep {w w' : World} {a : Act16} (h : A16 w a) (u : Upd (fun _ => False) w w') : A16 w' a := { h with ps := h.ps.keep u (fun _ _ _ h => h), ks := h.ks.keep u (fun _ _ _ h => h) }
set_option maxHeartbeats 16000000 in
theorem great_any (v : Value) (l : List Act16) (w : World) (hr : RowOf act16c 12 w v l) (ha : ∀ a ∈ l, A16 w a) : Calls Tryz.prog 9 #[v] w (GreatPost l w) := by
  obtain ⟨p, c, ev, hm⟩ := hr.len
  subst ev
  have HR := Lib.hid hr
  have HA := Lib.hid ha
  obtain ⟨nl, hnl⟩ : ∃ nl, nl = l.length := ⟨_, rfl⟩
  rw [← hnl] at hm ⊢
  have NL := Lib.hid hnl
  clear hr ha hnl
  go_enter Tryz.func9, Tryz.ntmps9
  by_cases h60 : 60 < nl
  · have q1 : (60 : Int) < (nl : Int) := by omega
    go_wp2
    go_ret
    exact ⟨true, rfl, (fun h => by cases h), Upd.refl _ _⟩
  have q1 : ¬ (60 : Int) < (nl : Int) := by omega
  go_wp2
  go_loopw [12] (fun x12 wr => ∃ (k : Nat), k ≤ nl ∧ x12 = .int .i64 (k : Int) ∧ Hid (∀ a ∈ l.take k, GoodA a) ∧ Hid (Upd (fun _ => False) w wr)) (fun x12 _ => nl - (intOf x12).toNat)
  case atStart => exact ⟨0, by omega, rfl, Lib.hid (by simp), Lib.hid (Upd.refl _ _)⟩
  case round =>
    obtain ⟨k, hk, rfl, GD, U⟩ := hrel
    by_cases hlt : k < nl
    · have q2 : (k : Int) < (nl : Int) := by omega
      have hkl : k < l.length := by rw [← NL.out]; exact hlt
      obtain ⟨b, off, ep, hb, c0, cs⟩ := act16_cells (HR.out.keep U.out (fun _ _ _ h => h)) hkl
      subst ep
      obtain ⟨a, hae⟩ : ∃ a, a = l[k] := ⟨_, rfl⟩
      rw [← hae] at c0 cs
      have AA := Lib.hid ((HA.out a (by rw [hae]; exact List.getElem_mem hkl)).keep U.out)
      have TK : Hid (GoodA a → ∀ x ∈ l.take (k + 1), GoodA x) := fun g x hx => by
        rw [List.take_succ_eq_append_getElem hkl, ← hae] at hx
        rcases List.mem_append.1 hx with h | h
        · exact GD.out x h
        · rw [List.mem_singleton] at h; rw [h]; exact g
      obtain ⟨pk, ck, ek, _⟩ := AA.out.ks.len
      obtain ⟨pp, cp, epv, _⟩ := AA.out.ps.len
      have c1 := cs 0 (by omega)
      have c2 := cs 1 (by omega)
      have c3 := cs 2 (by omega)
      have c4 := cs 3 (by omega)
      have c5 := cs 4 (by omega)
      have c6 := cs 5 (by omega)
      have c7 := cs 6 (by omega)
      have c8 := cs 7 (by omega)
      have c9 := cs 8 (by omega)
      have c10 := cs 9 (by omega)
      have c11 := cs 10 (by omega)
      clear cs hae hkl
      obtain ⟨kd, id, ⟨on, bc, oi, oo, nlp, rd, ps⟩, pv, yes, kv, keys, evn⟩ := a
      dsimp only at ek epv
      subst ek epv
      simp only [act16c, List.getElem?_cons_succ, List.getElem?_cons_zero] at c0 c1 c2 c3 c4 c5 c6 c7 c8 c9 c10 c11
      obtain ⟨nk, hnk⟩ : ∃ nk, nk = keys.length := ⟨_, rfl⟩
      obtain ⟨np, hnp⟩ : ∃ np, np = ps.length := ⟨_, rfl⟩
      rw [← hnk] at c10
      rw [← hnp] at c8
      obtain ⟨OB, hOB⟩ : ∃ OB, OB = Obj.cells #[.int .i64 kd, .int .i64 id, .bool on, .bool bc, .bool oi, .bool oo, .bool nlp, .int .i64 rd, .slice pp np cp, .bool yes, .slice pk nk ck, .int .i64 evn] 35 := ⟨_, rfl⟩
      have BA : Hid (Blk (wr.alloc OB) wr.heap.size [.int .i64 kd, .int .i64 id, .bool on, .bool bc, .bool oi, .bool oo, .bool nlp, .int .i64 rd, .slice pp np cp, .bool yes, .slice pk nk ck, .int .i64 evn] 35) := by rw [hOB]; exact Blk.made wr _ _
      have UA : Hid (Upd (fun _ => False) wr (wr.alloc OB)) := (Upd.refl _ _).alloc _
      have NK := Lib.hid hnk
      have NP := Lib.hid hnp
      clear hnk hnp
      by_cases hk10 : 10 < nk
      · have q3 : (10 : Int) < (nk : Int) := by omega
        clear BA
        go_wp2
        go_ret
        exact ⟨true, rfl, (fun h => by cases h), by have := U.out.trans UA.out (fun _ _ h => h); rw [hOB] at this; exact this⟩
      have q3 : ¬ (10 : Int) < (nk : Int) := by omega
      by_cases hp40 : 40 < np
      · have q4 : (40 : Int) < (np : Int) := by omega
        clear BA
        go_wp2
        go_ret
        exact ⟨true, rfl, (fun h => by cases h), by have := U.out.trans UA.out (fun _ _ h => h); rw [hOB] at this; exact this⟩
      have q4 : ¬ (40 : Int) < (np : Int) := by omega
      have T0 : TxtsAt ((wr.alloc OB).drew.alloc (.cells #[] 9)) (wr.alloc OB).drew.heap.size (.slice (some ⟨(wr.alloc OB).drew.heap.size, 0, none⟩) 0 0) [] := TxtsAt.ownN.2 (OwnN.made _ _)
      have UN : Upd (fun _ => False) (wr.alloc OB) ((wr.alloc OB).drew.alloc (.cells #[] 9)) := ((Upd.refl _ _).drew).alloc _
      have RK := (AA.out.ks.keep UA.out (fun _ _ _ h => h)).keep UN (fun _ _ _ h => h)
      dsimp only at RK
      obtain ⟨p1, c1', w1, hr1, T1, U1⟩ := txts_appR _ _ _ _ [] keys T0 RK (by simp; have := NK.out; omega) (by simp)
      have UN1 : Upd (fun _ => False) (wr.alloc OB) w1 := UN.trans U1 (fun b hb e => by have := (own_lt T0 e).2.1; simp at this; simp at hb; omega)
      have RP := (AA.out.ps.keep UA.out (fun _ _ _ h => h)).keep UN1 (fun _ _ _ h => h)
      dsimp only at RP
      obtain ⟨p2, c2', w2, hr2, T2, U2⟩ := txts_appR _ _ _ _ ([] ++ keys) ps T1 RP (by simp; have := NK.out; have := NP.out; omega) UN1.size
      have UN2 : Upd (fun _ => False) (wr.alloc OB) w2 := UN1.trans U2 (fun b hb e => by have := (own_lt T1 e).2.1; simp at this; simp at hb; omega)
      rw [List.nil_append] at hr1 hr2 T2
      obtain ⟨js, hjs⟩ : ∃ js, js = keys ++ ps := ⟨_, rfl⟩
      rw [← hjs] at hr2 T2
      have JL : js.length = nk + np := by rw [hjs, List.length_append, NK.out, NP.out]
      obtain ⟨nj, hnj⟩ : ∃ nj, nj = js.length := ⟨_, rfl⟩
      have NJ := Lib.hid hnj
      rw [← hnj] at hr2 T2 JL
      rw [← NK.out] at hr1 hr2
      rw [← NP.out] at hr2
      have hr1 : (Builtin.append_ #[30, 30] 30 #[.slice (some ⟨wr.heap.size + 1, 0, none⟩) 0 0, .slice pk nk ck]).run Tryz.prog ((wr.alloc OB).drew.alloc (.cells #[] 9)) = .ok (.slice p1 nk c1') w1 := by
        have := hr1
        rw [show (wr.alloc OB).drew.heap.size = wr.heap.size + 1 by show (wr.alloc OB).heap.size = _; simp] at this
        exact this
      have JS := Lib.hid hjs
      have GOA : Hid ((∀ t ∈ js, t.length ≤ 100) → GoodA ⟨kd, id, ⟨on, bc, oi, oo, nlp, rd, ps⟩, .slice pp ps.length cp, yes, .slice pk keys.length ck, keys, evn⟩) := fun g => ⟨by show keys.length ≤ 10; rw [← NK.out]; omega, by show ps.length ≤ 40; rw [← NP.out]; omega, fun t ht => g t (by rw [JS.out]; exact List.mem_append_left _ ht), fun t ht => g t (by rw [JS.out]; exact List.mem_append_right _ ht)⟩
      have U2F : Hid (Upd (fun _ => False) w w2) := (U.out.trans UA.out (fun _ _ h => h)).trans UN2 (fun _ _ h => h)
      have T2H := Lib.hid T2
      have zz1 : Hid ((w1.cell? ⟨wr.heap.size, 10, none⟩ = some (.slice pk nk ck)) ∧ (w1.cell? ⟨wr.heap.size, 8, none⟩ = some (.slice pp np cp))) := ⟨(UN1.blk BA.out (fun h => h)).cellAt rfl, (UN1.blk BA.out (fun h => h)).cellAt rfl⟩
      have zz2 : Hid ((w2.cell? ⟨wr.heap.size, 10, none⟩ = some (.slice pk nk ck)) ∧ (w2.cell? ⟨wr.heap.size, 8, none⟩ = some (.slice pp np cp))) := ⟨(UN2.blk BA.out (fun h => h)).cellAt rfl, (UN2.blk BA.out (fun h => h)).cellAt rfl⟩
      have b10 := BA.out.cellAt (i := 10) (v := .slice pk nk ck) rfl
      have b8 := BA.out.cellAt (i := 8) (v := .slice pp np cp) rfl
      clear T0 UN RK U1 UN1 RP T2 U2 UN2 hjs hnj T1 BA hm
      rw [hOB] at hr1 b10 b8
      go_wp2_with fail
      refine wp_region_held_drew (S := (fun w' => w'.cell? ⟨wr.heap.size, 10, none⟩ = some (.slice pk nk ck) ∧ w'.cell? ⟨wr.heap.size, 8, none⟩ = some (.slice pp np cp))) (by kernel_rfl) ?_ (fun hHeld => ?_)
      · (try dsimp only); go_keep
      try simp only [Array.replicate, Act.put, List.setIfInBounds_toArray]
      refine' wpAnyH_take (i := 1) (oi := _) (v := _) ?hiRa1 (by kernel_rfl) (by kernel_rfl) (by kernel_rfl) ?hQRa1 ?hyRa1 (by assumption) ?restRa1
      case' hiRa1 => (first | (simp only [List.getElem?_toArray, List.getElem?_cons_succ, List.getElem?_cons_zero]; done) | (simp only [List.getElem?_toArray, List.getElem?_cons_succ, List.getElem?_cons_zero]; rfl))
      case' hQRa1 => exact fun _ _ _ h => h
      case' hyRa1 => refine Or.inl ⟨by rfl, ?_⟩
      (intro w hSw; (try dsimp only at hSw); go_simp; try with_reducible rfl)
      try simp only [Act.put, List.setIfInBounds_toArray, List.set_cons_zero, List.set_cons_succ]
      refine' wpAnyH_take (i := 2) (oi := _) (v := _) ?hiRa2 (by kernel_rfl) (by kernel_rfl) (by kernel_rfl) ?hQRa2 ?hyRa2 (by assumption) ?restRa2
      case' hiRa2 => (first | (simp only [List.getElem?_toArray, List.getElem?_cons_succ, List.getElem?_cons_zero]; done) | (simp only [List.getElem?_toArray, List.getElem?_cons_succ, List.getElem?_cons_zero]; rfl))
      case' hQRa2 => exact fun _ _ _ h => h
      case' hyRa2 => refine Or.inl ⟨by rfl, ?_⟩
      (intro w hSw; (try dsimp only at hSw); go_simp; try with_reducible rfl)
      try simp only [Act.put, List.setIfInBounds_toArray, List.set_cons_zero, List.set_cons_succ]
      refine' wpAnyH_take (i := 4) (oi := _) (v := _) ?hiRa3 (by kernel_rfl) (by kernel_rfl) (by kernel_rfl) ?hQRa3 ?hyRa3 (by assumption) ?restRa3
      case' hiRa3 => (first | (simp only [List.getElem?_toArray, List.getElem?_cons_succ, List.getElem?_cons_zero]; done) | (simp only [List.getElem?_toArray, List.getElem?_cons_succ, List.getElem?_cons_zero]; rfl))
      case' hQRa3 => exact fun _ _ _ h => h
      case' hyRa3 => refine Or.inl ⟨by rfl, ?_⟩
      (intro w hSw; (try dsimp only at hSw); go_simp; try with_reducible rfl)
      try simp only [Act.put, List.setIfInBounds_toArray, List.set_cons_zero, List.set_cons_succ]
      refine' wpAnyH_take (i := 5) (oi := _) (v := _) ?hiRa4 (by kernel_rfl) (by kernel_rfl) (by kernel_rfl) ?hQRa4 ?hyRa4 (by assumption) ?restRa4
      case' hiRa4 => (first | (simp only [List.getElem?_toArray, List.getElem?_cons_succ, List.getElem?_cons_zero]; done) | (simp only [List.getElem?_toArray, List.getElem?_cons_succ, List.getElem?_cons_zero]; rfl))
      case' hQRa4 => exact fun _ _ _ h => h
      case' hyRa4 => refine Or.inl ⟨by rfl, ?_⟩
      (intro w hSw; (try dsimp only at hSw); go_simp; try with_reducible rfl)
      try simp only [Act.put, List.setIfInBounds_toArray, List.set_cons_zero, List.set_cons_succ]
      refine' wpAnyH_take (i := 6) (oi := _) (v := _) ?hiRa5 (by kernel_rfl) (by kernel_rfl) (by kernel_rfl) ?hQRa5 ?hyRa5 (by assumption) ?restRa5
      case' hiRa5 => (first | (simp only [List.getElem?_toArray, List.getElem?_cons_succ, List.getElem?_cons_zero]; done) | (simp only [List.getElem?_toArray, List.getElem?_cons_succ, List.getElem?_cons_zero]; rfl))
      case' hQRa5 => exact fun _ _ _ h => h
      case' hyRa5 => refine Or.inl ⟨by rfl, ?_⟩
      (intro w hSw; (try dsimp only at hSw); go_simp; try with_reducible rfl)
      try simp only [Act.put, List.setIfInBounds_toArray, List.set_cons_zero, List.set_cons_succ]
      refine' wpAnyH_take (i := 9) (oi := _) (v := _) ?hiRa6 (by kernel_rfl) (by kernel_rfl) (by kernel_rfl) ?hQRa6 ?hyRa6 (by assumption) ?restRa6
      case' hiRa6 => (first | (simp only [List.getElem?_toArray, List.getElem?_cons_succ, List.getElem?_cons_zero]; done) | (simp only [List.getElem?_toArray, List.getElem?_cons_succ, List.getElem?_cons_zero]; rfl))
      case' hQRa6 => exact fun _ _ _ h => h
      case' hyRa6 => refine Or.inl ⟨by rfl, ?_⟩
      (intro w hSw; (try dsimp only at hSw); go_simp; try with_reducible rfl)
      try simp only [Act.put, List.setIfInBounds_toArray, List.set_cons_zero, List.set_cons_succ]
      refine wpAnyH_ready (rs := [0]) (by kernel_rfl) (by simp) ?_
      refine' AllReadyH.cons (o := _) ?hiRa7 (fun K hK => ?hKRa7) AllReadyH.nil
      case' hiRa7 => (first | (simp only [List.getElem?_toArray, List.getElem?_cons_succ, List.getElem?_cons_zero]; done) | (simp only [List.getElem?_toArray, List.getElem?_cons_succ, List.getElem?_cons_zero]; rfl))
      go_simp
      skip
      refine hK.out _ _ ?_ (fun hHeld => ?_)
      · (first | with_reducible exact zz | ((try dsimp only); go_keep))
      clear hK K
      try simp only [Act.put, List.setIfInBounds_toArray, List.set_cons_zero, List.set_cons_succ]
      refine wpAnyH_ready (rs := [3]) (by kernel_rfl) (by simp) ?_
      refine' AllReadyH.cons (o := _) ?hiRa8 (fun K hK => ?hKRa8) AllReadyH.nil
      case' hiRa8 => (first | (simp only [List.getElem?_toArray, List.getElem?_cons_succ, List.getElem?_cons_zero]; done) | (simp only [List.getElem?_toArray, List.getElem?_cons_succ, List.getElem?_cons_zero]; rfl))
      (have zz := zz1.out); refine step_builtinN rfl _ _ 30 rfl _ _ rfl rfl hr1 ?_
      refine hK.out _ _ ?_ (fun hHeld => ?_)
      · (first | with_reducible exact zz | ((try dsimp only); go_keep))
      clear hK K
      try simp only [Act.put, List.setIfInBounds_toArray, List.set_cons_zero, List.set_cons_succ]
      refine wpAnyH_ready (rs := [7]) (by kernel_rfl) (by simp) ?_
      refine' AllReadyH.cons (o := _) ?hiRa9 (fun K hK => ?hKRa9) AllReadyH.nil
      case' hiRa9 => (first | (simp only [List.getElem?_toArray, List.getElem?_cons_succ, List.getElem?_cons_zero]; done) | (simp only [List.getElem?_toArray, List.getElem?_cons_succ, List.getElem?_cons_zero]; rfl))
      (have zz := zz2.out); refine step_builtinN rfl _ _ 30 rfl _ _ rfl rfl hr2 ?_
      refine hK.out _ _ ?_ (fun hHeld => ?_)
      · (first | with_reducible exact zz | ((try dsimp only); go_keep))
      clear hK K
      try simp only [Act.put, List.setIfInBounds_toArray, List.set_cons_zero, List.set_cons_succ]
      refine' wpAnyH_take (i := 8) (oi := _) (v := _) ?hiRa10 (by kernel_rfl) (by kernel_rfl) (by kernel_rfl) ?hQRa10 ?hyRa10 (by assumption) ?restRa10
      case' hiRa10 => (first | (simp only [List.getElem?_toArray, List.getElem?_cons_succ, List.getElem?_cons_zero]; done) | (simp only [List.getElem?_toArray, List.getElem?_cons_succ, List.getElem?_cons_zero]; rfl))
      case' hQRa10 => exact fun _ _ _ h => h
      case' hyRa10 => refine Or.inl ⟨by rfl, ?_⟩
      (intro w hSw; (try dsimp only at hSw); go_simp; try with_reducible rfl)
      try simp only [Act.put, List.setIfInBounds_toArray, List.set_cons_zero, List.set_cons_succ]
      refine wpAnyH_done (by kernel_rfl) ?_ _
      generalize hwb : (wr.alloc OB).drew.heap.size = wb at T2H
      clear zz1 zz2 b10 b8 hHeld hr1 hr2 hwb c0 c1 c2 c3 c4 c5 c6 c7 c8 c9 c10 c11 hb
      go_wp2
      go_loopw [36] (fun x36 wq => ∃ (j : Nat), j ≤ nj ∧ x36 = .int .i64 (j : Int) ∧ Hid (∀ t ∈ js.take j, t.length ≤ 100) ∧ Hid (TxtsAt wq wb (.slice p2 nj c2') js) ∧ Hid (Upd (fun _ => False) w wq)) (fun x36 _ => nj - (intOf x36).toNat)
      case atStart => exact ⟨0, by omega, rfl, Lib.hid (by simp), T2H, U2F⟩
      case round =>
        clear T2H U2F U UA
        obtain ⟨j, hj, rfl, GJ, T2H, U2F⟩ := hrel
        by_cases hlj : j < nj
        · have q6 : (j : Int) < (nj : Int) := by omega
          have hjl : j < js.length := by rw [← NJ.out]; exact hlj
          have t2 := T2H.out
          rw [NJ.out] at t2
          obtain ⟨g, eg, hg, ck0⟩ := txts_get t2 hjl
          subst eg
          obtain ⟨t, ht⟩ : ∃ t, t = js[j] := ⟨_, rfl⟩
          rw [← ht] at ck0
          have tsz := ofL_size t
          have GJ2 : Hid (t.length ≤ 100 → ∀ x ∈ js.take (j + 1), x.length ≤ 100) := fun h x hx => by
            rw [List.take_succ_eq_append_getElem hjl, ← ht] at hx
            rcases List.mem_append.1 hx with g | g
            · exact GJ.out x g
            · rw [List.mem_singleton] at g; rw [g]; exact h
          clear t2 hjl ht
          by_cases h100 : 100 < t.length
          · have q7 : (100 : Int) < (t.length : Int) := by omega
            generalize ofL t = st at *
            generalize t.length = lt at *
            go_wp2
            go_ret
            exact ⟨true, rfl, (fun h => by cases h), U2F.out⟩
          · have q7 : ¬ (100 : Int) < (t.length : Int) := by omega
            have GJ3 := Lib.hid (GJ2.out (by omega))
            clear GJ2 GJ
            generalize ofL t = st at *
            generalize t.length = lt at *
            go_wp2
            go_roundw
            case rel => exact ⟨j + 1, by omega, by go_num, GJ3, T2H, U2F⟩
            case measure => simp [intOf]; omega
        · have q6 : ¬ (j : Int) < (nj : Int) := by omega
          have GF : Hid (∀ a ∈ l.take (k + 1), GoodA a) := TK.out (by
            have h1 := GJ.out
            rw [List.take_of_length_le (by rw [← NJ.out]; omega)] at h1
            have h2 := GOA.out h1
            exact h2)
          clear TK GJ GOA T2H
          go_wp2
          go_roundw
          case rel => exact ⟨k + 1, by omega, by go_num, GF, U2F⟩
          case measure => simp [intOf]; omega
    · have q2 : ¬ (k : Int) < (nl : Int) := by omega
      have GA : Hid (Good16 l) := ⟨by rw [← NL.out]; omega, by
        have := GD.out
        rw [List.take_of_length_le (by rw [← NL.out]; omega)] at this; exact this⟩
      go_wp2
      go_ret
      exact ⟨false, rfl, fun _ => GA.out, U.out⟩
end Go.Proofs.YtmlojbfcmebboaaGreat
