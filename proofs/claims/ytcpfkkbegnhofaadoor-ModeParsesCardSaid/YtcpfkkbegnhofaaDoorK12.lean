/- Walk: bit; the rows of ModeWords. -/
import Derived.Test.YtcpfkkbegnhofaaDoorK11
import Derived.Deep.RegionHeld3
set_option linter.unusedVariables false
set_option linter.unusedSimpArgs false
namespace Go.Proofs.YtcpfkkbegnhofaaDoor
open Go.RowKit

/-- 1 or 0. -/
def bitI (b : Bool) : Int := if b then 1 else 0
set_option maxHeartbeats 4000000 in
theorem bit_any (b : Bool) (w : World) : Calls Tryd.prog 14 #[.bool b] w fun e w' => e = .returned (.int .i64 (bitI b)) ∧ w' = w := by
  cases b with
  | true =>
    go_enter Tryd.func14, Tryd.ntmps14
    go_wp2
    go_ret
    exact ⟨rfl, rfl⟩
  | false =>
    go_enter Tryd.func14, Tryd.ntmps14
    go_wp2
    go_ret
    exact ⟨rfl, rfl⟩
/-- Words being put together, beside a block of numbers. -/
theorem txts_ne {w : World} {base : Nat} {v : Value} {l : List Txt} (h : TxtsAt w base v l) {b : Nat} (hb : v.ownBlock = some b) {ib : Nat} {cs : List Value} {T : TypeId} (hB : Blk w ib cs T) (hT : T ≠ 9) : b ≠ ib := by
  rintro rfl
  obtain ⟨_, _, cs', hs⟩ := own_lt h hb
  exact hT (hB.ty hs)
/-- Two texts behind the others. -/
theorem txts_app2 (w : World) (base : Nat) (v : Value) (l : List Txt) (t u : Txt) (h : TxtsAt w base v l) (hl : l.length ≤ 900000) (hb : base ≤ w.heap.size) :
    ∃ p c w', (Builtin.append_ #[22, 22] 22 #[v, .slice (some ⟨w.heap.size, 0, none⟩) 2 2]).run Tryd.prog (w.alloc (.cells #[.string (ofL t), .string (ofL u)] 9)) = .ok (.slice p (l.length + 2) c) w' ∧ TxtsAt w' base (.slice p (l.length + 2) c) (l ++ [t, u]) ∧ Upd (fun k => v.ownBlock = some k) w w' := by
  have u0 : Upd (fun _ => False) w (w.alloc (.cells #[.string (ofL t), .string (ofL u)] 9)) := (Upd.refl _ _).alloc _
  have h0 : TxtsAt (w.alloc (.cells #[.string (ofL t), .string (ofL u)] 9)) base v l := own_keep h u0 (fun _ _ h => h)
  have hlit : TxtsAt (w.alloc (.cells #[.string (ofL t), .string (ofL u)] 9)) 0 (.slice (some ⟨w.heap.size, 0, none⟩) 2 2) [t, u] := own_of (cs := []) (Nat.zero_le _) (Blk.made w _ _) rfl rfl (by unfold maxLen; omega)
  obtain ⟨v', w', a, b, c, d⟩ := txts_append _ base 0 22 v _ l [t, u] h0 hlit (by simp; omega) (Nat.le_trans hb u0.size)
  obtain ⟨p, k, e, _⟩ := own_slice b
  rw [List.length_append] at e
  subst e
  exact ⟨p, k, w', a, b, (u0.weaken (F := fun k => v.ownBlock = some k) (fun _ _ h => h.elim)).trans c (fun _ _ h => h)⟩
theorem rwt_own {w : World} {base : Nat} {p : Option Addr} {n c : Nat} {l : List Txt} (h : TxtsAt w base (.slice p n c) l) (hn : n = l.length) : RwT w p c l := by
  subst hn
  refine ⟨txts_row h, ?_⟩
  obtain ⟨_, ⟨e, e2⟩ | ⟨g, cap, cur, e, _, _, h1, h2, _⟩⟩ := h
  · simp only [Value.slice.injEq] at e
    obtain ⟨_, e3, rfl⟩ := e
    exact ⟨by omega, by unfold maxLen; omega⟩
  · simp only [Value.slice.injEq] at e
    obtain ⟨_, _, rfl⟩ := e
    exact ⟨h1, h2⟩
theorem parse_words (w : World) (b : Nat) (p : Option Addr) (n c : Nat) (ws : List Txt) (h : TxtsAt w b (.slice p n c) ws) (hn0 : n = ws.length) (hs : StdU w) (hn : ws.length ≤ 1000) (hl : ∀ t ∈ ws, t.length ≤ 10000) (on bc oi oo nl : Bool) (rd : Int) (ps : List Txt) (k : Nat) (hk : k = ps.length) (er : Int) (hm : parseM ws = (⟨on, bc, oi, oo, nl, rd, ps⟩, er)) :
    Calls Tryd.prog 12 #[.slice p n c] w fun e w' => ∃ p' c', e = .returned (.tuple #[.agg #[.bool on, .bool bc, .bool oi, .bool oo, .bool nl, .int .i64 rd, .slice p' k c'], .int .i64 er]) ∧ c' ≤ 9223372036854775807 ∧ TxtsAt w' w.heap.size (.slice p' k c') ps ∧ Upd (fun _ => False) w w' := by
  have hr := rwt_own h hn0
  subst hk hn0
  exact parseR_any p c ws w hr hs hn hl _ er hm
theorem wfp_len (s : Bool) (m : MD) (l : List Txt) : (wf s m 4 ++ pw l).length ≤ 5 + 2 * l.length := by
  have := wf_len s m 4
  rw [List.length_append, pw_len]; omega
theorem wfp_small (s : Bool) {m : MD} (h : ∀ t ∈ m.ps, t.length ≤ 512) : ∀ t ∈ wf s m 4 ++ pw m.ps.reverse, t.length ≤ 10000 := by
  intro t ht
  rcases List.mem_append.1 ht with h1 | h1
  · have := wf_small s m 4 (Nat.le_refl _) t h1; omega
  · have := pw_small (l := m.ps.reverse) (fun t ht => h t (List.mem_reverse.1 ht)) t h1; omega
theorem pw_snoc (l : List Txt) (t : Txt) : pw (l ++ [t]) = pw l ++ [wPre, t] := by unfold pw; simp
theorem rev_drop (l : List Txt) {k : Nat} (hk : k < l.length) {t : Txt} (ht : l[k]? = some t) : (l.drop k).reverse = (l.drop (k + 1)).reverse ++ [t] := by
  rw [List.drop_eq_getElem_cons hk, List.reverse_cons]
  rw [List.getElem?_eq_getElem hk] at ht
  simp only [Option.some.injEq] at ht
  rw [ht]
theorem lw_len (s : Bool) : (lw s).length = 5 := by cases s <;> rfl
end Go.Proofs.YtcpfkkbegnhofaaDoor
/- The document's modes: from one mode to another one. -/
set_option linter.unusedVariables false
set_option linter.unusedSimpArgs false
namespace Go.Proofs.YtcpfkkbegnhofaaDoor
open Go.RowKit

/-- Two rows together, put in order, by a call of its own. -/
theorem both_row (w : World) (v1 v2 : Value) (l1 l2 : List Txt) (h1 : RowOf txtc 1 w v1 l1) (h2 : RowOf txtc 1 w v2 l2) (hl1 : l1.length ≤ 1000) (hl2 : l2.length ≤ 1000) :
    ∃ (p1 p2 : Option Addr) (n1 c1 n2 c2 : Nat) (w1 w2 : World), (Builtin.append_ #[22, 22] 22 #[.slice (some ⟨w.heap.size, 0, none⟩) 0 0, v1]).run Tryd.prog (w.alloc (.cells #[] 9)) = .ok (.slice p1 n1 c1) w1 ∧ Upd (fun _ => False) w w1 ∧ (Builtin.append_ #[22, 22] 22 #[.slice p1 n1 c1, v2]).run Tryd.prog w1 = .ok (.slice p2 n2 c2) w2 ∧ Upd (fun _ => False) w w2 ∧
      Calls Tryd.prog 34 #[.slice p2 n2 c2] w2 fun e w' => ∃ p n c l', e = .returned (.slice p n c) ∧ TxtsAt w' w2.heap.size (.slice p n c) l' ∧ n = l'.length ∧ n = (l1 ++ l2).length ∧ Ord l' ∧ l'.Perm (l1 ++ l2) ∧ Upd (fun _ => False) w2 w' := by
  obtain ⟨va, w1, ra, ta, ua⟩ := txts_rest w w.heap.size v1 l1 h1 (by omega) (Nat.le_refl _)
  obtain ⟨p1, c1, rfl, _⟩ := own_slice ta
  obtain ⟨p2, c2, w2, rb, tb, ub⟩ := txts_appR w1 w.heap.size _ v2 l1 l2 ta (h2.keep ua (fun _ _ _ h => h)) (by omega) ua.size
  have u2 : Upd (fun _ => False) w w2 := ua.trans ub (fun i hi e => by have := (own_lt ta e).2.1; omega)
  refine ⟨p1, p2, l1.length, c1, (l1 ++ l2).length, c2, w1, w2, ra, ua, rb, u2, (sorted13b_any _ _ _ (txts_row tb) (by rw [List.length_append]; omega)).mono ?_⟩
  rintro e w' ⟨v', l', rfl, t', o', pr, u'⟩
  obtain ⟨p, c, rfl, _⟩ := own_slice t'
  exact ⟨p, _, c, l', rfl, t', rfl, pr.length_eq, o', pr, u'⟩
theorem txts_cell {w : World} {base : Nat} {p : Option Addr} {n c : Nat} {l : List Txt} (h : TxtsAt w base (.slice p n c) l) (hn : n = l.length) {k : Nat} {t : Txt} (ht : l[k]? = some t) : ∃ g, p = some ⟨g, 0, none⟩ ∧ g < w.heap.size ∧ w.cell? ⟨g, k, none⟩ = some (.string (ofL t)) := by
  subst hn
  obtain ⟨h1, e⟩ := List.getElem?_eq_some_iff.1 ht
  obtain ⟨g, e1, e2, e3⟩ := txts_get h h1
  rw [e] at e3
  exact ⟨g, e1, e2, e3⟩
abbrev TMs : TypeId := 24
def fourW (w : World) (c0 c1 c2 c3 : List Value) : World := (((w.alloc (.cells c0.toArray TMs)).alloc (.cells c1.toArray TMs)).alloc (.cells c2.toArray TMs)).alloc (.cells c3.toArray TMs)
/-- What the last case keeps. -/
def FS (W : World) (n : Nat) (c0 c1 c2 c3 : List Value) : Prop := Blk W n c0 TMs ∧ Blk W (n + 1) c1 TMs ∧ Blk W (n + 1 + 1) c2 TMs ∧ Blk W (n + 1 + 1 + 1) c3 TMs
theorem FS.keep {F : Nat → Prop} {W W' : World} {n : Nat} {c0 c1 c2 c3 : List Value} (h : FS W n c0 c1 c2 c3) (u : Upd F W W') (hF : ∀ b, b ≤ n + 3 → ¬ F b) : FS W' n c0 c1 c2 c3 :=
  ⟨u.blk h.1 (hF _ (by omega)), u.blk h.2.1 (hF _ (by omega)), u.blk h.2.2.1 (hF _ (by omega)), u.blk h.2.2.2 (hF _ (by omega))⟩
theorem FS.set {W : World} {n : Nat} {c0 c1 c2 c3 : List Value} (h : FS W n c0 c1 c2 c3) (v : Value) : FS (W.setCell ⟨n + 1 + 1 + 1, 6, none⟩ v) n c0 c1 c2 (c3.set 6 v) := by
  have u : Upd (fun b => b = n + 1 + 1 + 1) W (W.setCell ⟨n + 1 + 1 + 1, 6, none⟩ v) := (Upd.refl _ W).set (fun _ => rfl)
  exact ⟨u.blk h.1 (by omega), u.blk h.2.1 (by omega), u.blk h.2.2.1 (by omega), h.2.2.2.set 6 v⟩
theorem fourW_fs (w : World) (c0 c1 c2 c3 : List Value) : FS (fourW w c0 c1 c2 c3) w.heap.size c0 c1 c2 c3 ∧ Upd (fun _ => False) w (fourW w c0 c1 c2 c3) ∧ (fourW w c0 c1 c2 c3).heap.size = w.heap.size + 4 := by
  have k0 := Blk.made w c0 TMs
  have k1 := Blk.made (w.alloc (.cells c0.toArray TMs)) c1 TMs
  have k2 := Blk.made ((w.alloc (.cells c0.toArray TMs)).alloc (.cells c1.toArray TMs)) c2 TMs
  have k3 := Blk.made (((w.alloc (.cells c0.toArray TMs)).alloc (.cells c1.toArray TMs)).alloc (.cells c2.toArray TMs)) c3 TMs
  simp only [World.size_alloc] at k1 k2 k3
  unfold fourW
  exact ⟨⟨((k0.alloc _).alloc _).alloc _, (k1.alloc _).alloc _, k2.alloc _, k3⟩, ((((Upd.refl _ w).alloc _).alloc _).alloc _).alloc _, by simp only [World.size_alloc]⟩
theorem right13_big (m : MD) (p : Option Addr) (n c : Nat) (hn : n = m.ps.length) (r : Bool) (hr : rightM m = r) (W : World) (h : RwT W p c m.ps) (hl : m.ps.length ≤ 100000) (hs : ∀ t ∈ m.ps, t.length ≤ maxLen) :
    Calls Tryd.prog 11 #[.agg #[.bool m.on, .bool m.bc, .bool m.oi, .bool m.oo, .bool m.nl, .int .i64 m.rd, .slice p n c]] W fun e w' => e = .returned (.bool r) ∧ Upd (fun _ => False) W w' := by
  subst hn hr
  refine right13_any m _ W h.1 (by omega) hs (fun p' n' c' e => ?_)
  simp only [Value.slice.injEq] at e
  obtain ⟨_, rfl, rfl⟩ := e
  exact h.2
/-- What comes back of Switch. -/
def SwR (w : World) (M : MD) (er : Int) (e : Ending) (w' : World) : Prop :=
  ∃ p2 n2 c2, e = .returned (.tuple #[.agg #[.bool M.on, .bool M.bc, .bool M.oi, .bool M.oo, .bool M.nl, .int .i64 M.rd, .slice p2 n2 c2], .int .i64 er]) ∧ n2 = M.ps.length ∧ n2 ≤ maxLen ∧ RowOf txtc 1 w' (.slice p2 n2 c2) M.ps ∧ Upd (fun _ => False) w w'
/-- The answer is stored, and handed back. -/
theorem swR_end {w W : World} {b : Nat} {c0 c1 c2 c3 c4 c5 c6 : Value} (hb : Blk W b [c0, c1, c2, c3, c4, c5, c6] TMs) (hw : w.heap.size ≤ b) (u : Upd (fun _ => False) w W) (on bc oi oo nl : Bool) (rd : Int) (ps : List Txt) (p : Option Addr) (n c : Nat) (er : Int) (hn : n = ps.length) (hm : n ≤ maxLen) (hr : RowOf txtc 1 W (.slice p n c) ps) (hT : ps ≠ [] → ∀ k, (Value.slice p n c).ownBlock = some k → k ≠ b) :
    SwR w ⟨on, bc, oi, oo, nl, rd, ps⟩ er (.returned (.tuple #[.agg #[.bool on, .bool bc, .bool oi, .bool oo, .bool nl, .int .i64 rd, .slice p n c], .int .i64 er])) (setM W b (.bool on) (.bool bc) (.bool oi) (.bool oo) (.bool nl) (.int .i64 rd) (.slice p n c)) := by
  have us := setM_upd (b := b) (a0 := .bool on) (a1 := .bool bc) (a2 := .bool oi) (a3 := .bool oo) (a4 := .bool nl) (a5 := .int .i64 rd) (a6 := .slice p n c) (Upd.refl (fun k => k = b) W) (fun _ => rfl)
  refine ⟨p, n, c, rfl, hn, hm, ?_, setM_upd u (fun h => by omega)⟩
  by_cases h0 : ps = []
  · subst h0; subst hn; exact Or.inl ⟨_, _, rfl, rfl⟩
  · exact hr.keep us (fun k _ hk => hT h0 k hk)
set_option maxHeartbeats 8000000 in
set_option maxRecDepth 100000 in
theorem switch13_any (m m' M : MD) (er : Int) (hM : switchM m m' = (M, er)) (p p' : Option Addr) (n n' c c' : Nat) (hn : n = m.ps.length) (hn' : n' = m'.ps.length) (w : World) (h : RwT w p c m.ps) (h' : RwT w p' c' m'.ps) (hl : m.ps.length ≤ 1000) (hl' : m'.ps.length ≤ 1000) (hs : ∀ t ∈ m.ps, t.length ≤ maxLen) (hs' : ∀ t ∈ m'.ps, t.length ≤ maxLen) :
    Calls Tryd.prog 23 #[.agg #[.bool m.on, .bool m.bc, .bool m.oi, .bool m.oo, .bool m.nl, .int .i64 m.rd, .slice p n c], .agg #[.bool m'.on, .bool m'.bc, .bool m'.oi, .bool m'.oo, .bool m'.nl, .int .i64 m'.rd, .slice p' n' c']] w (SwR w M er) := by
  obtain ⟨on, bc, oi, oo, nl, rd, ps⟩ := m
  obtain ⟨on', bc', oi', oo', nl', rd', ps'⟩ := m'
  dsimp only at *
  have hla := h.2
  have hla' := h'.2
  rw [← hn] at hla
  rw [← hn'] at hla'
  unfold maxLen at hla hla'
  have R := Lib.hid (show RowOf txtc 1 w (.slice p n c) ps by rw [hn]; exact h.1)
  have R' := Lib.hid (show RowOf txtc 1 w (.slice p' n' c') ps' by rw [hn']; exact h'.1)
  have NN := Lib.hid hn
  have NN' := Lib.hid hn'
  have H := Lib.hid h
  have H' := Lib.hid h'
  have HS := Lib.hid hs
  have HS' := Lib.hid hs'
  have HL := Lib.hid hl
  have HL' := Lib.hid hl'
  have SW := Lib.hid hM
  clear h h' hn hn' hs hs' hM hl hl'
  cases on with
  | false =>
    have SW := SW.out
    unfold switchM at SW
    rw [if_pos (Or.inl rfl)] at SW
    obtain ⟨rfl, rfl⟩ := Prod.mk.inj SW
    clear SW
    have U3 : Upd (fun _ => False) w (((w.alloc (.cells #[.bool false, .bool bc, .bool oi, .bool oo, .bool nl, .int .i64 rd, .slice p n c] TMs)).alloc (.cells #[.bool on', .bool bc', .bool oi', .bool oo', .bool nl', .int .i64 rd', .slice p' n' c'] TMs)).alloc (.cells #[.bool on', .bool bc', .bool oi', .bool oo', .bool nl', .int .i64 rd', .slice p' n' c'] TMs)) := (((Upd.refl _ w).alloc _).alloc _).alloc _
    have B2 := Blk.made ((w.alloc (.cells #[.bool false, .bool bc, .bool oi, .bool oo, .bool nl, .int .i64 rd, .slice p n c] TMs)).alloc (.cells #[.bool on', .bool bc', .bool oi', .bool oo', .bool nl', .int .i64 rd', .slice p' n' c'] TMs)) [.bool on', .bool bc', .bool oi', .bool oo', .bool nl', .int .i64 rd', .slice p' n' c'] TMs
    simp only [World.size_alloc] at B2
    have RV : SwR w ⟨on', bc', oi', oo', nl', rd', ps'⟩ 0 (.returned (.tuple #[.agg #[.bool on', .bool bc', .bool oi', .bool oo', .bool nl', .int .i64 rd', .slice p' n' c'], .int .i64 0])) (((w.alloc (.cells #[.bool false, .bool bc, .bool oi, .bool oo, .bool nl, .int .i64 rd, .slice p n c] TMs)).alloc (.cells #[.bool on', .bool bc', .bool oi', .bool oo', .bool nl', .int .i64 rd', .slice p' n' c'] TMs)).alloc (.cells #[.bool on', .bool bc', .bool oi', .bool oo', .bool nl', .int .i64 rd', .slice p' n' c'] TMs)) := ⟨p', n', c', rfl, NN'.out, by unfold maxLen; omega, R'.out.keep U3 (fun _ _ _ h => h), U3⟩
    obtain ⟨_, _, h0, h1, h2, h3, h4, h5, h6⟩ := mode_facts B2
    have RV := Lib.hid RV
    have h0 := Lib.hid h0
    have h1 := Lib.hid h1
    have h2 := Lib.hid h2
    have h3 := Lib.hid h3
    have h4 := Lib.hid h4
    have h5 := Lib.hid h5
    have h6 := Lib.hid h6
    clear U3 B2
    go_enter Tryd.func23, Tryd.ntmps23
    go_wp2
    exact bodyPost_ret (v := .tuple #[.agg #[.bool on', .bool bc', .bool oi', .bool oo', .bool nl', .int .i64 rd', .slice p' n' c'], .int .i64 0]) (by simp [results, Tryd.results23, go_sem, h0.out, h1.out, h2.out, h3.out, h4.out, h5.out, h6.out]) rfl RV.out
  | true =>
  cases on' with
  | false =>
    have SW := SW.out
    unfold switchM at SW
    rw [if_pos (Or.inr rfl)] at SW
    obtain ⟨rfl, rfl⟩ := Prod.mk.inj SW
    clear SW
    have U3 : Upd (fun _ => False) w (((w.alloc (.cells #[.bool true, .bool bc, .bool oi, .bool oo, .bool nl, .int .i64 rd, .slice p n c] TMs)).alloc (.cells #[.bool false, .bool bc', .bool oi', .bool oo', .bool nl', .int .i64 rd', .slice p' n' c'] TMs)).alloc (.cells #[.bool false, .bool bc', .bool oi', .bool oo', .bool nl', .int .i64 rd', .slice p' n' c'] TMs)) := (((Upd.refl _ w).alloc _).alloc _).alloc _
    have B2 := Blk.made ((w.alloc (.cells #[.bool true, .bool bc, .bool oi, .bool oo, .bool nl, .int .i64 rd, .slice p n c] TMs)).alloc (.cells #[.bool false, .bool bc', .bool oi', .bool oo', .bool nl', .int .i64 rd', .slice p' n' c'] TMs)) [.bool false, .bool bc', .bool oi', .bool oo', .bool nl', .int .i64 rd', .slice p' n' c'] TMs
    simp only [World.size_alloc] at B2
    have RV : SwR w ⟨false, bc', oi', oo', nl', rd', ps'⟩ 0 (.returned (.tuple #[.agg #[.bool false, .bool bc', .bool oi', .bool oo', .bool nl', .int .i64 rd', .slice p' n' c'], .int .i64 0])) (((w.alloc (.cells #[.bool true, .bool bc, .bool oi, .bool oo, .bool nl, .int .i64 rd, .slice p n c] TMs)).alloc (.cells #[.bool false, .bool bc', .bool oi', .bool oo', .bool nl', .int .i64 rd', .slice p' n' c'] TMs)).alloc (.cells #[.bool false, .bool bc', .bool oi', .bool oo', .bool nl', .int .i64 rd', .slice p' n' c'] TMs)) := ⟨p', n', c', rfl, NN'.out, by unfold maxLen; omega, R'.out.keep U3 (fun _ _ _ h => h), U3⟩
    obtain ⟨_, _, h0, h1, h2, h3, h4, h5, h6⟩ := mode_facts B2
    have RV := Lib.hid RV
    have h0 := Lib.hid h0
    have h1 := Lib.hid h1
    have h2 := Lib.hid h2
    have h3 := Lib.hid h3
    have h4 := Lib.hid h4
    have h5 := Lib.hid h5
    have h6 := Lib.hid h6
    clear U3 B2
    go_enter Tryd.func23, Tryd.ntmps23
    go_wp2
    exact bodyPost_ret (v := .tuple #[.agg #[.bool false, .bool bc', .bool oi', .bool oo', .bool nl', .int .i64 rd', .slice p' n' c'], .int .i64 0]) (by simp [results, Tryd.results23, go_sem, h0.out, h1.out, h2.out, h3.out, h4.out, h5.out, h6.out]) rfl RV.out
  | true =>
  by_cases h2 : bc ≠ bc' ∨ oi ≠ oi' ∨ oo ≠ oo'
  · have SW := SW.out
    unfold switchM at SW
    rw [if_neg (by simp)] at SW
    dsimp only at SW
    rw [if_pos h2] at SW
    obtain ⟨rfl, rfl⟩ := Prod.mk.inj SW
    clear SW
    by_cases g1 : bc = bc'
    · subst g1
      by_cases g2 : oi = oi'
      · subst g2
        obtain rfl : oo' = !oo := by cases oo <;> cases oo' <;> simp_all
        clear h2
        have U3 : Upd (fun _ => False) w (((w.alloc (.cells #[.bool true, .bool bc, .bool oi, .bool oo, .bool nl, .int .i64 rd, .slice p n c] TMs)).alloc (.cells #[.bool true, .bool bc, .bool oi, .bool (!oo), .bool nl', .int .i64 rd', .slice p' n' c'] TMs)).alloc (.cells #[.bool true, .bool bc, .bool oi, .bool oo, .bool nl, .int .i64 rd, .slice p n c] TMs)) := (((Upd.refl _ w).alloc _).alloc _).alloc _
        have B2 := Blk.made ((w.alloc (.cells #[.bool true, .bool bc, .bool oi, .bool oo, .bool nl, .int .i64 rd, .slice p n c] TMs)).alloc (.cells #[.bool true, .bool bc, .bool oi, .bool (!oo), .bool nl', .int .i64 rd', .slice p' n' c'] TMs)) [.bool true, .bool bc, .bool oi, .bool oo, .bool nl, .int .i64 rd, .slice p n c] TMs
        simp only [World.size_alloc] at B2
        have RV : SwR w ⟨true, bc, oi, oo, nl, rd, ps⟩ 132 (.returned (.tuple #[.agg #[.bool true, .bool bc, .bool oi, .bool oo, .bool nl, .int .i64 rd, .slice p n c], .int .i64 132])) (((w.alloc (.cells #[.bool true, .bool bc, .bool oi, .bool oo, .bool nl, .int .i64 rd, .slice p n c] TMs)).alloc (.cells #[.bool true, .bool bc, .bool oi, .bool (!oo), .bool nl', .int .i64 rd', .slice p' n' c'] TMs)).alloc (.cells #[.bool true, .bool bc, .bool oi, .bool oo, .bool nl, .int .i64 rd, .slice p n c] TMs)) := ⟨p, n, c, rfl, NN.out, by unfold maxLen; omega, R.out.keep U3 (fun _ _ _ h => h), U3⟩
        obtain ⟨_, _, h0, h1, h2, h3, h4, h5, h6⟩ := mode_facts B2
        have RV := Lib.hid RV
        have h0 := Lib.hid h0
        have h1 := Lib.hid h1
        have h2 := Lib.hid h2
        have h3 := Lib.hid h3
        have h4 := Lib.hid h4
        have h5 := Lib.hid h5
        have h6 := Lib.hid h6
        clear U3 B2
        go_enter Tryd.func23, Tryd.ntmps23
        go_wp2
        exact bodyPost_ret (v := .tuple #[.agg #[.bool true, .bool bc, .bool oi, .bool oo, .bool nl, .int .i64 rd, .slice p n c], .int .i64 132]) (by simp [results, Tryd.results23, go_sem, h0.out, h1.out, h2.out, h3.out, h4.out, h5.out, h6.out]) rfl RV.out
      · obtain rfl : oi' = !oi := by cases oi <;> cases oi' <;> simp_all
        clear h2 g2
        have U3 : Upd (fun _ => False) w (((w.alloc (.cells #[.bool true, .bool bc, .bool oi, .bool oo, .bool nl, .int .i64 rd, .slice p n c] TMs)).alloc (.cells #[.bool true, .bool bc, .bool (!oi), .bool oo', .bool nl', .int .i64 rd', .slice p' n' c'] TMs)).alloc (.cells #[.bool true, .bool bc, .bool oi, .bool oo, .bool nl, .int .i64 rd, .slice p n c] TMs)) := (((Upd.refl _ w).alloc _).alloc _).alloc _
        have B2 := Blk.made ((w.alloc (.cells #[.bool true, .bool bc, .bool oi, .bool oo, .bool nl, .int .i64 rd, .slice p n c] TMs)).alloc (.cells #[.bool true, .bool bc, .bool (!oi), .bool oo', .bool nl', .int .i64 rd', .slice p' n' c'] TMs)) [.bool true, .bool bc, .bool oi, .bool oo, .bool nl, .int .i64 rd, .slice p n c] TMs
        simp only [World.size_alloc] at B2
        have RV : SwR w ⟨true, bc, oi, oo, nl, rd, ps⟩ 132 (.returned (.tuple #[.agg #[.bool true, .bool bc, .bool oi, .bool oo, .bool nl, .int .i64 rd, .slice p n c], .int .i64 132])) (((w.alloc (.cells #[.bool true, .bool bc, .bool oi, .bool oo, .bool nl, .int .i64 rd, .slice p n c] TMs)).alloc (.cells #[.bool true, .bool bc, .bool (!oi), .bool oo', .bool nl', .int .i64 rd', .slice p' n' c'] TMs)).alloc (.cells #[.bool true, .bool bc, .bool oi, .bool oo, .bool nl, .int .i64 rd, .slice p n c] TMs)) := ⟨p, n, c, rfl, NN.out, by unfold maxLen; omega, R.out.keep U3 (fun _ _ _ h => h), U3⟩
        obtain ⟨_, _, h0, h1, h2, h3, h4, h5, h6⟩ := mode_facts B2
        have RV := Lib.hid RV
        have h0 := Lib.hid h0
        have h1 := Lib.hid h1
        have h2 := Lib.hid h2
        have h3 := Lib.hid h3
        have h4 := Lib.hid h4
        have h5 := Lib.hid h5
        have h6 := Lib.hid h6
        clear U3 B2
        go_enter Tryd.func23, Tryd.ntmps23
        go_wp2
        exact bodyPost_ret (v := .tuple #[.agg #[.bool true, .bool bc, .bool oi, .bool oo, .bool nl, .int .i64 rd, .slice p n c], .int .i64 132]) (by simp [results, Tryd.results23, go_sem, h0.out, h1.out, h2.out, h3.out, h4.out, h5.out, h6.out]) rfl RV.out
    · obtain rfl : bc' = !bc := by cases bc <;> cases bc' <;> simp_all
      clear h2 g1
      have U3 : Upd (fun _ => False) w (((w.alloc (.cells #[.bool true, .bool bc, .bool oi, .bool oo, .bool nl, .int .i64 rd, .slice p n c] TMs)).alloc (.cells #[.bool true, .bool (!bc), .bool oi', .bool oo', .bool nl', .int .i64 rd', .slice p' n' c'] TMs)).alloc (.cells #[.bool true, .bool bc, .bool oi, .bool oo, .bool nl, .int .i64 rd, .slice p n c] TMs)) := (((Upd.refl _ w).alloc _).alloc _).alloc _
      have B2 := Blk.made ((w.alloc (.cells #[.bool true, .bool bc, .bool oi, .bool oo, .bool nl, .int .i64 rd, .slice p n c] TMs)).alloc (.cells #[.bool true, .bool (!bc), .bool oi', .bool oo', .bool nl', .int .i64 rd', .slice p' n' c'] TMs)) [.bool true, .bool bc, .bool oi, .bool oo, .bool nl, .int .i64 rd, .slice p n c] TMs
      simp only [World.size_alloc] at B2
      have RV : SwR w ⟨true, bc, oi, oo, nl, rd, ps⟩ 132 (.returned (.tuple #[.agg #[.bool true, .bool bc, .bool oi, .bool oo, .bool nl, .int .i64 rd, .slice p n c], .int .i64 132])) (((w.alloc (.cells #[.bool true, .bool bc, .bool oi, .bool oo, .bool nl, .int .i64 rd, .slice p n c] TMs)).alloc (.cells #[.bool true, .bool (!bc), .bool oi', .bool oo', .bool nl', .int .i64 rd', .slice p' n' c'] TMs)).alloc (.cells #[.bool true, .bool bc, .bool oi, .bool oo, .bool nl, .int .i64 rd, .slice p n c] TMs)) := ⟨p, n, c, rfl, NN.out, by unfold maxLen; omega, R.out.keep U3 (fun _ _ _ h => h), U3⟩
      obtain ⟨_, _, h0, h1, h2, h3, h4, h5, h6⟩ := mode_facts B2
      have RV := Lib.hid RV
      have h0 := Lib.hid h0
      have h1 := Lib.hid h1
      have h2 := Lib.hid h2
      have h3 := Lib.hid h3
      have h4 := Lib.hid h4
      have h5 := Lib.hid h5
      have h6 := Lib.hid h6
      clear U3 B2
      go_enter Tryd.func23, Tryd.ntmps23
      go_wp2
      exact bodyPost_ret (v := .tuple #[.agg #[.bool true, .bool bc, .bool oi, .bool oo, .bool nl, .int .i64 rd, .slice p n c], .int .i64 132]) (by simp [results, Tryd.results23, go_sem, h0.out, h1.out, h2.out, h3.out, h4.out, h5.out, h6.out]) rfl RV.out
  · obtain ⟨rfl, rfl, rfl⟩ : bc = bc' ∧ oi = oi' ∧ oo = oo' := by
      refine ⟨?_, ?_, ?_⟩ <;> (apply Classical.byContradiction; intro g; apply h2; simp [g])
    have SW1 : switchM ⟨true, bc, oi, oo, nl, rd, ps⟩ ⟨true, bc, oi, oo, nl', rd', ps'⟩ = (if rightM ⟨true, bc, oi, oo, nl', rd', uniT (ps ++ ps')⟩ = true then (⟨true, bc, oi, oo, nl', rd', uniT (ps ++ ps')⟩, 0) else (⟨true, bc, oi, oo, nl, rd, ps⟩, 132)) := by
      unfold switchM; rw [if_neg (by simp)]; dsimp only; rw [if_neg h2]; rfl
    have SW := Lib.hid (SW1.symm.trans SW.out)
    clear SW1 h2
    obtain ⟨f0, u0, z0⟩ := fourW_fs w [.bool true, .bool bc, .bool oi, .bool oo, .bool nl, .int .i64 rd, .slice p n c] [.bool true, .bool bc, .bool oi, .bool oo, .bool nl', .int .i64 rd', .slice p' n' c'] [.bool false, .bool false, .bool false, .bool false, .bool false, .int .i64 0, .slice none 0 0] [.bool true, .bool bc, .bool oi, .bool oo, .bool nl', .int .i64 rd', .slice none 0 0]
    have F0 : Hid (FS ((((w.alloc (.cells #[.bool true, .bool bc, .bool oi, .bool oo, .bool nl, .int .i64 rd, .slice p n c] 24)).alloc (.cells #[.bool true, .bool bc, .bool oi, .bool oo, .bool nl', .int .i64 rd', .slice p' n' c'] 24)).alloc (.cells #[.bool false, .bool false, .bool false, .bool false, .bool false, .int .i64 0, .slice none 0 0] 24)).alloc (.cells #[.bool true, .bool bc, .bool oi, .bool oo, .bool nl', .int .i64 rd', .slice none 0 0] 24)) w.heap.size [.bool true, .bool bc, .bool oi, .bool oo, .bool nl, .int .i64 rd, .slice p n c] [.bool true, .bool bc, .bool oi, .bool oo, .bool nl', .int .i64 rd', .slice p' n' c'] [.bool false, .bool false, .bool false, .bool false, .bool false, .int .i64 0, .slice none 0 0] [.bool true, .bool bc, .bool oi, .bool oo, .bool nl', .int .i64 rd', .slice none 0 0]) := Lib.hid f0
    have U0 : Hid (Upd (fun _ => False) w ((((w.alloc (.cells #[.bool true, .bool bc, .bool oi, .bool oo, .bool nl, .int .i64 rd, .slice p n c] 24)).alloc (.cells #[.bool true, .bool bc, .bool oi, .bool oo, .bool nl', .int .i64 rd', .slice p' n' c'] 24)).alloc (.cells #[.bool false, .bool false, .bool false, .bool false, .bool false, .int .i64 0, .slice none 0 0] 24)).alloc (.cells #[.bool true, .bool bc, .bool oi, .bool oo, .bool nl', .int .i64 rd', .slice none 0 0] 24))) := Lib.hid u0
    have Z0 : Hid (((((w.alloc (.cells #[.bool true, .bool bc, .bool oi, .bool oo, .bool nl, .int .i64 rd, .slice p n c] 24)).alloc (.cells #[.bool true, .bool bc, .bool oi, .bool oo, .bool nl', .int .i64 rd', .slice p' n' c'] 24)).alloc (.cells #[.bool false, .bool false, .bool false, .bool false, .bool false, .int .i64 0, .slice none 0 0] 24)).alloc (.cells #[.bool true, .bool bc, .bool oi, .bool oo, .bool nl', .int .i64 rd', .slice none 0 0] 24)).heap.size = w.heap.size + 4) := Lib.hid z0
    clear f0 u0 z0
    go_enter Tryd.func23, Tryd.ntmps23
    go_wp2
    generalize ((((w.alloc (.cells #[.bool true, .bool bc, .bool oi, .bool oo, .bool nl, .int .i64 rd, .slice p n c] 24)).alloc (.cells #[.bool true, .bool bc, .bool oi, .bool oo, .bool nl', .int .i64 rd', .slice p' n' c'] 24)).alloc (.cells #[.bool false, .bool false, .bool false, .bool false, .bool false, .int .i64 0, .slice none 0 0] 24)).alloc (.cells #[.bool true, .bool bc, .bool oi, .bool oo, .bool nl', .int .i64 rd', .slice none 0 0] 24)) = w4 at *
    have hz4 : w.heap.size + 4 ≤ w4.heap.size := by rw [Z0.out]; exact Nat.le_refl _
    have ud : Upd (fun _ => False) w4 w4.drew := (Upd.refl _ _).drew
    obtain ⟨pa, pb, na, ca, nb, cb, w1, w2, hr1, u1, hr2, u2, so⟩ := both_row w4.drew (.slice p n c) (.slice p' n' c') ps ps' (R.out.keep (U0.out.trans ud (fun _ _ h => h)) (fun _ _ _ h => h)) (R'.out.keep (U0.out.trans ud (fun _ _ h => h)) (fun _ _ _ h => h)) HL.out HL'.out
    have hr1 : (Builtin.append_ #[22, 22] 22 #[.slice (some ⟨w4.heap.size, 0, none⟩) 0 0, .slice p n c]).run Tryd.prog (w4.alloc (.cells #[] 9)).drew = .ok (.slice pa na ca) w1 := hr1
    have u1 : Upd (fun _ => False) w4 w1 := ud.trans u1 (fun _ _ h => h)
    have u2 : Upd (fun _ => False) w4 w2 := ud.trans u2 (fun _ _ h => h)
    have hz2 : w4.heap.size ≤ w2.heap.size := u2.size
    have FA := F0.out.keep u1 (fun _ _ h => h)
    have FB := F0.out.keep u2 (fun _ _ h => h)
    have k0 := F0.out.1.lt
    have k1 := F0.out.2.1.lt
    have x0 := F0.out.1.cellAt (i := 6) (v := .slice p n c) rfl
    have x1 := F0.out.2.1.cellAt (i := 6) (v := .slice p' n' c') rfl
    have y0 := FA.1.cellAt (i := 6) (v := .slice p n c) rfl
    have y1 := FA.2.1.cellAt (i := 6) (v := .slice p' n' c') rfl
    have z0 := FB.1.cellAt (i := 6) (v := .slice p n c) rfl
    have z1 := FB.2.1.cellAt (i := 6) (v := .slice p' n' c') rfl
    have FB := Lib.hid FB
    have UB : Hid (Upd (fun _ => False) w w2) := Lib.hid (U0.out.trans u2 (fun _ _ h => h))
    have SO := Lib.hid so
    clear so ud u1 u2 FA
    go_region_held3 (fun w' => w'.cell? ⟨w.heap.size, 6, none⟩ = some (.slice p n c) ∧ w'.cell? ⟨w.heap.size + 1, 6, none⟩ = some (.slice p' n' c')) (go_keep) (first
      | (refine step_builtin rfl _ _ 22 rfl _ _ rfl rfl hr1 ?_)
      | (refine step_builtin rfl _ _ 22 rfl _ _ rfl rfl hr2 ?_)
      | (go_at_call 34; refine SO.out.mono ?_; rintro e w7 ⟨p7, n7, c7, l7, rfl, t7, hn7, hN7, o7, pr7, u7⟩; (have FC := Lib.hid (FB.out.keep u7 (fun _ _ h => h))); (have v0 := FC.out.1.cellAt (i := 6) (v := .slice p n c) rfl); (have v1 := FC.out.2.1.cellAt (i := 6) (v := .slice p' n' c') rfl); (have T7 := Lib.hid t7); (have N7 := Lib.hid hn7); (have NS7 := Lib.hid hN7); (have O7 := Lib.hid o7); (have P7 := Lib.hid pr7); (have U7 := Lib.hid (UB.out.trans u7 (fun _ _ h => h))); (have hz7 := u7.size); clear t7 hn7 hN7 o7 pr7 u7))
    have hn2 : n7 ≤ 2000 := by rw [NS7.out, List.length_append]; have := HL.out; have := HL'.out; omega
    have HB7 : Hid (∀ b, (Value.slice p7 n7 c7).ownBlock = some b → b < w7.heap.size) := Lib.hid (fun b hb => (own_lt T7.out hb).1)
    clear x0 x1 y0 y1 z0 z1 v0 v1 k0 k1 hr1 hr2
    go_wp2
    go_loopw [50] (fun v50 wx => ∃ (k n3 : Nat) (p3 : Option Addr) (c3 : Nat) (out : List Txt), v50 = .int .i64 (k : Int) ∧ k ≤ n7 ∧ n3 ≤ k ∧ c3 ≤ 9223372036854775807 ∧ Hid (n3 = out.length) ∧ Hid (Once l7 k out) ∧ Hid (TxtsAt wx w7.heap.size (.slice p3 n3 c3) out) ∧ Hid (FS wx w.heap.size [.bool true, .bool bc, .bool oi, .bool oo, .bool nl, .int .i64 rd, .slice p n c] [.bool true, .bool bc, .bool oi, .bool oo, .bool nl', .int .i64 rd', .slice p' n' c'] [.bool false, .bool false, .bool false, .bool false, .bool false, .int .i64 0, .slice none 0 0] [.bool true, .bool bc, .bool oi, .bool oo, .bool nl', .int .i64 rd', .slice p3 n3 c3]) ∧ Hid (Upd (fun _ => False) w wx) ∧ Hid (TxtsAt wx w2.heap.size (.slice p7 n7 c7) l7) ∧ w7.heap.size ≤ wx.heap.size) (fun v50 _ => n7 - (intOf v50).toNat)
    case atStart => exact ⟨0, 0, none, 0, [], rfl, by omega, by omega, by omega, Lib.hid rfl, Lib.hid (once_none _), Lib.hid (World.ownsRow_nil _ _ _ _), FC, U7, T7, Nat.le_refl _⟩
    case round =>
      obtain ⟨k, n3, p3, c3, out, rfl, hk, hn3, hc3, N3, ON, TO, FX, UX, TS, hsz⟩ := hrel
      obtain ⟨ya, ga, a0, a1, a2, a3, a4, a5, a6⟩ := mode_facts FX.out.2.2.2
      have hlt7 : w.heap.size + 4 ≤ w7.heap.size := Nat.le_trans hz4 (Nat.le_trans hz2 hz7)
      by_cases hlt : k < n7
      · have q1 : (k : Int) < (n7 : Int) := by omega
        obtain ⟨t, ht⟩ : ∃ t, l7[k]? = some t := ⟨_, List.getElem?_eq_getElem (by rw [← N7.out]; exact hlt)⟩
        obtain ⟨g7, e7, hg7, ct⟩ := txts_cell TS.out N7.out ht
        subst e7
        have HT := Lib.hid ht
        clear ht
        by_cases h0 : n3 = 0
        · have q2 : ((n3 : Int) == 0) = true := by rw [h0]; rfl
          have ONX : Hid (Once l7 (k + 1) (out ++ [t])) := Lib.hid (once_more O7.out ON.out HT.out (by
            have : out = [] := List.length_eq_zero_iff.1 (by rw [← N3.out]; exact h0)
            rw [this]; simp))
          clear h0
          have r1 : k + 1 ≤ n7 := hlt
          have r2 : n3 + 1 ≤ k + 1 := Nat.succ_le_succ hn3
          have r3 : n7 - (k + 1) < n7 - k := by omega
          have TO1 := TO.out
          obtain ⟨p4, c4, w5, hr4, i4, u4⟩ := txts_app1 wr w7.heap.size (.slice p3 n3 c3) out t TO1 (by rw [← N3.out]; omega) hsz
          rw [← N3.out] at hr4 i4
          try rw [← HST.out] at hr4
          have hc4 := own_capT i4
          have hne : ∀ b, (Value.slice p3 n3 c3).ownBlock = some b → w7.heap.size ≤ b := fun b hb => (own_lt TO.out hb).2.1
          have F5 := FX.out.keep u4 (fun b hb e => by have := hne b e; omega)
          obtain ⟨yb, gb, b0, b1, b2, b3, b4, b5, b6⟩ := mode_facts F5.2.2.2
          have us : Upd (fun b => b = w.heap.size + 1 + 1 + 1) w5 (w5.setCell ⟨w.heap.size + 1 + 1 + 1, 6, none⟩ (.slice p4 (n3 + 1) c4)) := (Upd.refl _ _).set (fun _ => rfl)
          have F6 := F5.set (.slice p4 (n3 + 1) c4)
          dsimp only [List.set] at F6
          have F6 := Lib.hid F6
          have NX : Hid (n3 + 1 = (out ++ [t]).length) := Lib.hid (by rw [List.length_append, ← N3.out]; rfl)
          have T6 := Lib.hid (own_keep i4 us (fun b hb e => by have := (own_lt i4 hb).2.1; omega))
          have S6 := Lib.hid (own_keep (own_keep TS.out u4 (fun b hb e => by have h1 := hne b e; have h2 := HB7.out b hb; omega)) us (fun b hb e => by have := (own_lt TS.out hb).2.1; omega))
          have U6 : Hid (Upd (fun _ => False) w (w5.setCell ⟨w.heap.size + 1 + 1 + 1, 6, none⟩ (.slice p4 (n3 + 1) c4))) := Lib.hid ((UX.out.trans u4 (fun b hb e => by have := hne b e; omega)).trans us (fun b hb e => by omega))
          have hsz6 : w7.heap.size ≤ (w5.setCell ⟨w.heap.size + 1 + 1 + 1, 6, none⟩ (.slice p4 (n3 + 1) c4)).heap.size := Nat.le_trans hsz (Nat.le_trans u4.size us.size)
          clear i4 u4 hne F5 us TO1
          go_wp2_with (at_builtin; refine wpList_builtin rfl _ _ 22 rfl _ _ rfl rfl hr4 ?_)
          go_roundw
          case rel => exact ⟨k + 1, n3 + 1, p4, c4, out ++ [t], by go_num, r1, r2, hc4, NX, ONX, T6, F6, U6, S6, hsz6⟩
          case measure => simp [intOf]; exact r3
        · obtain ⟨j, hj⟩ : ∃ j, n3 = j + 1 := ⟨n3 - 1, by omega⟩
          have q2 : ((n3 : Int) == 0) = false := by rw [beq_eq_false_iff_ne]; omega
          obtain ⟨z, hz⟩ : ∃ z, out[j]? = some z := ⟨_, List.getElem?_eq_getElem (by rw [← N3.out]; omega)⟩
          have HZ : Hid (out.getLast? = some z) := Lib.hid (by rw [List.getLast?_eq_getElem?, ← N3.out, hj]; exact hz)
          obtain ⟨g3, e3, hg3, cz⟩ := txts_cell TO.out N3.out hz
          subst e3
          have qb : (n3 : Int) - 1 = (j : Int) := by omega
          have qd : (0 : Int) ≤ (j : Int) := by omega
          have qe : (j : Int) < (n3 : Int) := by omega
          have qf : j < n3 := by omega
          have BQ := beq_txt z t
          obtain ⟨sz, hsz'⟩ : ∃ sz, sz = ofL z := ⟨_, rfl⟩
          obtain ⟨st, hst⟩ : ∃ st, st = ofL t := ⟨_, rfl⟩
          clear h0 hj hz
          by_cases hzt : z = t
          · have ONX : Hid (Once l7 (k + 1) out) := Lib.hid (once_same ON.out HT.out (by rw [HZ.out, hzt]))
            rw [decide_eq_true hzt] at BQ
            rw [← hsz', ← hst] at BQ
            rw [← hsz'] at cz
            rw [← hst] at ct
            have BN : (sz.toList != st.toList) = false := by first | (simpa using BQ) | (simp [BQ])
            clear hzt hsz' hst
            go_wp2
            go_roundw
            case rel => exact ⟨k + 1, n3, some ⟨g3, 0, none⟩, c3, out, by go_num, by omega, by omega, hc3, N3, ONX, TO, FX, UX, TS, hsz⟩
            case measure => simp [intOf]; omega
          · have ONX : Hid (Once l7 (k + 1) (out ++ [t])) := Lib.hid (once_more O7.out ON.out HT.out (by rw [HZ.out]; simpa using hzt))
            rw [decide_eq_false hzt] at BQ
            rw [← hsz', ← hst] at BQ
            rw [← hsz'] at cz
            rw [← hst] at ct
            have BN : (sz.toList != st.toList) = true := by first | (simpa using BQ) | (simp [BQ])
            have HST := Lib.hid hst
            clear hzt hsz' hst HZ
            have r1 : k + 1 ≤ n7 := hlt
            have r2 : n3 + 1 ≤ k + 1 := Nat.succ_le_succ hn3
            have r3 : n7 - (k + 1) < n7 - k := by omega
            have TO1 := TO.out
            obtain ⟨p4, c4, w5, hr4, i4, u4⟩ := txts_app1 wr w7.heap.size (.slice (some ⟨g3, 0, none⟩) n3 c3) out t TO1 (by rw [← N3.out]; omega) hsz
            rw [← N3.out] at hr4 i4
            try rw [← HST.out] at hr4
            have hc4 := own_capT i4
            have hne : ∀ b, (Value.slice (some ⟨g3, 0, none⟩) n3 c3).ownBlock = some b → w7.heap.size ≤ b := fun b hb => (own_lt TO.out hb).2.1
            have F5 := FX.out.keep u4 (fun b hb e => by have := hne b e; omega)
            obtain ⟨yb, gb, b0, b1, b2, b3, b4, b5, b6⟩ := mode_facts F5.2.2.2
            have us : Upd (fun b => b = w.heap.size + 1 + 1 + 1) w5 (w5.setCell ⟨w.heap.size + 1 + 1 + 1, 6, none⟩ (.slice p4 (n3 + 1) c4)) := (Upd.refl _ _).set (fun _ => rfl)
            have F6 := F5.set (.slice p4 (n3 + 1) c4)
            dsimp only [List.set] at F6
            have F6 := Lib.hid F6
            have NX : Hid (n3 + 1 = (out ++ [t]).length) := Lib.hid (by rw [List.length_append, ← N3.out]; rfl)
            have T6 := Lib.hid (own_keep i4 us (fun b hb e => by have := (own_lt i4 hb).2.1; omega))
            have S6 := Lib.hid (own_keep (own_keep TS.out u4 (fun b hb e => by have h1 := hne b e; have h2 := HB7.out b hb; omega)) us (fun b hb e => by have := (own_lt TS.out hb).2.1; omega))
            have U6 : Hid (Upd (fun _ => False) w (w5.setCell ⟨w.heap.size + 1 + 1 + 1, 6, none⟩ (.slice p4 (n3 + 1) c4))) := Lib.hid ((UX.out.trans u4 (fun b hb e => by have := hne b e; omega)).trans us (fun b hb e => by omega))
            have hsz6 : w7.heap.size ≤ (w5.setCell ⟨w.heap.size + 1 + 1 + 1, 6, none⟩ (.slice p4 (n3 + 1) c4)).heap.size := Nat.le_trans hsz (Nat.le_trans u4.size us.size)
            clear i4 u4 hne F5 us TO1
            go_wp2_with (at_builtin; refine wpList_builtin rfl _ _ 22 rfl _ _ rfl rfl hr4 ?_)
            go_roundw
            case rel => exact ⟨k + 1, n3 + 1, p4, c4, out ++ [t], by go_num, r1, r2, hc4, NX, ONX, T6, F6, U6, S6, hsz6⟩
            case measure => simp [intOf]; exact r3
      · have q1 : ¬ (k : Int) < (n7 : Int) := by omega
        have UE : Hid (out = uniT (ps ++ ps')) := Lib.hid (once_end (l := l7) (by have h1 := ON.out; rw [show k = l7.length by rw [← N7.out]; omega] at h1; exact h1) (fun t => P7.out.mem_iff))
        have hno : n3 ≤ 2000 := by omega
        obtain ⟨rb, hrb⟩ : ∃ rb, rightM ⟨true, bc, oi, oo, nl', rd', uniT (ps ++ ps')⟩ = rb := ⟨_, rfl⟩
        have hrb2 : rightM ⟨true, bc, oi, oo, nl', rd', out⟩ = rb := by rw [UE.out]; exact hrb
        have RI := Lib.hid (right13_big ⟨true, bc, oi, oo, nl', rd', out⟩ p3 n3 c3 N3.out rb hrb2 wr (rwt_own TO.out N3.out) (by rw [← N3.out]; omega) (fun t ht => by
          have h1 : t ∈ ps ++ ps' := by rw [UE.out] at ht; exact uniT_mem.1 ht
          rcases List.mem_append.1 h1 with h2 | h2
          · exact HS.out t h2
          · exact HS'.out t h2))
        have SW2 := SW.out
        rw [hrb] at SW2
        clear hrb hrb2
        cases rb with
        | true =>
          rw [if_pos rfl] at SW2
          obtain ⟨rfl, rfl⟩ := Prod.mk.inj SW2
          clear SW2
          go_wp2_with fail
          refine RI.out.mono ?_
          rintro e w8 ⟨rfl, u8⟩
          have FX8 := FX.out.keep u8 (fun _ _ h => h)
          have BZ := Lib.hid FX8.2.2.1
          obtain ⟨yb, gb, b0, b1, b2, b3, b4, b5, b6⟩ := mode_facts FX8.2.2.2
          obtain ⟨yc, gc, d0, d1, d2, d3, d4, d5, d6⟩ := mode_facts FX8.2.2.1
          have RV := swR_end (w := w) FX8.2.2.1 (Nat.le_add_right _ 2) (UX.out.trans u8 (fun _ _ h => h)) true bc oi oo nl' rd' (uniT (ps ++ ps')) p3 n3 c3 0 (by rw [← UE.out]; exact N3.out) (by unfold maxLen; omega) (by rw [← UE.out]; exact txts_row (own_keep TO.out u8 (fun _ _ h => h))) (fun _ k hk e => by have := (own_lt TO.out hk).2.1; omega)
          have RV := Lib.hid RV
          clear u8 FX8
          go_wp2
          have RV := RV.out
          have bF := setM_blk (a0 := .bool true) (a1 := .bool bc) (a2 := .bool oi) (a3 := .bool oo) (a4 := .bool nl') (a5 := .int .i64 rd') (a6 := .slice p3 n3 c3) BZ.out
          unfold setM at bF RV
          obtain ⟨_, _, h0, h1, h2, h3, h4, h5, h6⟩ := mode_facts bF
          exact bodyPost_ret (v := .tuple #[.agg #[.bool true, .bool bc, .bool oi, .bool oo, .bool nl', .int .i64 rd', .slice p3 n3 c3], .int .i64 0]) (by simp [results, Tryd.results23, go_sem, h0, h1, h2, h3, h4, h5, h6]) rfl RV
        | false =>
          rw [if_neg (by simp)] at SW2
          obtain ⟨rfl, rfl⟩ := Prod.mk.inj SW2
          clear SW2
          go_wp2_with fail
          refine RI.out.mono ?_
          rintro e w8 ⟨rfl, u8⟩
          have FX8 := FX.out.keep u8 (fun _ _ h => h)
          have BZ := Lib.hid FX8.2.2.1
          obtain ⟨yb, gb, b0, b1, b2, b3, b4, b5, b6⟩ := mode_facts FX8.1
          obtain ⟨yc, gc, d0, d1, d2, d3, d4, d5, d6⟩ := mode_facts FX8.2.2.1
          have u9 := UX.out.trans u8 (fun _ _ h => h)
          have RV := swR_end (w := w) FX8.2.2.1 (Nat.le_add_right _ 2) u9 true bc oi oo nl rd ps p n c 132 NN.out (by unfold maxLen; omega) (R.out.keep u9 (fun _ _ _ h => h)) (fun h0 k hk e => by have := H.out.blk h0 (by rw [← NN.out]; exact hk); omega)
          have RV := Lib.hid RV
          clear u8 FX8 u9
          go_wp2
          have RV := RV.out
          have bF := setM_blk (a0 := .bool true) (a1 := .bool bc) (a2 := .bool oi) (a3 := .bool oo) (a4 := .bool nl) (a5 := .int .i64 rd) (a6 := .slice p n c) BZ.out
          unfold setM at bF RV
          obtain ⟨_, _, h0, h1, h2, h3, h4, h5, h6⟩ := mode_facts bF
          exact bodyPost_ret (v := .tuple #[.agg #[.bool true, .bool bc, .bool oi, .bool oo, .bool nl, .int .i64 rd, .slice p n c], .int .i64 132]) (by simp [results, Tryd.results23, go_sem, h0, h1, h2, h3, h4, h5, h6]) rfl RV
end Go.Proofs.YtcpfkkbegnhofaaDoor
