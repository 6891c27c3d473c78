/- Walks: commands of bytes that come piece by piece. -/
import Derived.Test.YtkemjjhmabemiaaDoorK06
import Derived.Test.YtkemjjhmabemiaaDoorK03
import Derived.Deep.QuietTactic
import Derived.BigQuiet
import Derived.KernelRfl
import Derived.Lib.SlBytesConst
set_option linter.unusedVariables false
set_option linter.unusedSimpArgs false
namespace Lin
/-- The next command, what is left, and whether it goes wrong. -/
def next (s : Txt) : Option (List Txt) × Txt × Bool :=
  match h : parse s with
  | .bad => (none, [], true)
  | .short => (none, s, false)
  | .there l n => if l = [] then next (s.drop n) else (some l, s.drop n, false)
termination_by s.length
decreasing_by
  all_goals
    have := parse_there h
    rw [List.length_drop]; omega
theorem next_bad {s : Txt} (h : parse s = .bad) : next s = (none, [], true) := by rw [next]; split <;> simp_all
theorem next_short {s : Txt} (h : parse s = .short) : next s = (none, s, false) := by rw [next]; split <;> simp_all
theorem next_there {s : Txt} {l : List Txt} {n : Nat} (h : parse s = .there l n) : next s = if l = [] then next (s.drop n) else (some l, s.drop n, false) := by
  rw [next]
  split
  · next e => rw [h] at e; cases e
  · next e => rw [h] at e; cases e
  · next l' n' e => rw [h] at e; cases e; rfl
theorem all_next (N : Nat) : ∀ s : Txt, s.length < N → all s = match (next s).1 with | some l => (l :: (all (next s).2.1).1, (all (next s).2.1).2) | none => ([], (next s).2.1, (next s).2.2) := by
  induction N with
  | zero => intro s h; omega
  | succ N ih =>
    intro s hs
    cases e : parse s with
    | bad => rw [all_bad e, next_bad e]
    | short => rw [all_short e, next_short e]
    | there l n =>
      have h1 := parse_there e
      rw [all_there e, next_there e]
      by_cases hl : l = []
      · rw [if_pos hl, if_pos hl]
        exact ih (s.drop n) (by rw [List.length_drop]; omega)
      · rw [if_neg hl, if_neg hl]
theorem next_le (N : Nat) : ∀ s : Txt, s.length < N → (next s).2.1.length ≤ s.length ∧ ((next s).1.isSome = true → (next s).2.1.length < s.length ∧ (next s).2.2 = false) := by
  induction N with
  | zero => intro s h; omega
  | succ N ih =>
    intro s hs
    cases e : parse s with
    | bad => rw [next_bad e]; simp
    | short => rw [next_short e]; simp
    | there l n =>
      have h1 := parse_there e
      rw [next_there e]
      by_cases hl : l = []
      · rw [if_pos hl]
        have := ih (s.drop n) (by rw [List.length_drop]; omega)
        rw [List.length_drop] at this
        exact ⟨by omega, fun h => ⟨by have := (this.2 h).1; omega, (this.2 h).2⟩⟩
      · rw [if_neg hl]
        simp
        omega
end Lin
namespace Go.Proofs.YtkemjjhmabemiaaDoor
open Go.RowKit
open Lin (Txt)

theorem Std.six {w : World} (h : Std w) : 6 ≤ w.heap.size := by
  obtain ⟨a, b, hv⟩ := h.rng
  unfold World.var? at hv
  rw [show Tryd.prog.globalNamed "strconv.ErrRange" = some 5 by kernel_rfl] at hv
  simp only [Option.bind_some] at hv
  rcases Nat.lt_or_ge 5 w.heap.size with h | h
  · omega
  · rw [Array.getElem?_eq_none h] at hv; cases hv
theorem var_keepB {w w' : World} {F : Nat → Prop} (u : Upd F w w') {n : String} {cs : Array Value} {g : Nat} (hg : Tryd.prog.globalNamed n = some g) (hF : ¬ F g) (h : w.var? Tryd.prog n = some cs) : w'.var? Tryd.prog n = some cs := by
  unfold World.var? at h ⊢
  rw [hg] at h ⊢
  simp only [Option.bind_some] at h ⊢
  have hl : g < w.heap.size := by
    by_cases hl : g < w.heap.size
    · exact hl
    · rw [Array.getElem?_eq_none (by omega : w.heap.size ≤ g)] at h; cases h
  rw [u.block g hl hF]
  exact h
theorem Std.keepB {w w' : World} {F : Nat → Prop} (h : Std w) (u : Upd F w w') (hF : ∀ k, F k → 6 ≤ k) : Std w' := by
  have n3 : ¬ F 3 := fun h => by have := hF _ h; omega
  have n4 : ¬ F 4 := fun h => by have := hF _ h; omega
  have n5 : ¬ F 5 := fun h => by have := hF _ h; omega
  exact ⟨var_keepB u (by kernel_rfl) n3 h.tab, by obtain ⟨a, b, c⟩ := h.syn; exact ⟨a, b, var_keepB u (by kernel_rfl) n4 c⟩, by obtain ⟨a, b, c⟩ := h.rng; exact ⟨a, b, var_keepB u (by kernel_rfl) n5 c⟩⟩
def errOf (b : Bool) : Int := if b then 61 else 0
/-- A reader of commands: what is left, whether it went wrong; the blocks it takes. -/
def LSt (w : World) (base a : Nat) (rest : Txt) (bad : Bool) (E : Nat → Prop) : Prop :=
  ∃ p cap, Blk w a [.slice p rest.length cap, .int .i64 (errOf bad)] 62 ∧ base ≤ a ∧ WinB w base p cap rest ∧ (∀ k, E k ↔ (k = a ∨ ∃ o, p = some ⟨k, o, none⟩))
theorem LSt.keep {w w' : World} {base a : Nat} {rest : Txt} {bad : Bool} {E F : Nat → Prop} (h : LSt w base a rest bad E) (u : Upd F w w') (hd : ∀ k, E k → ¬ F k) : LSt w' base a rest bad E := by
  obtain ⟨p, cap, h1, h2, h3, h4⟩ := h
  exact ⟨p, cap, u.blk h1 (hd a ((h4 a).2 (Or.inl rfl))), h2, h3.keep u (fun g o e => hd g ((h4 g).2 (Or.inr ⟨o, e⟩))), h4⟩
theorem LSt.keep0 {w w' : World} {base a : Nat} {rest : Txt} {bad : Bool} {E : Nat → Prop} (h : LSt w base a rest bad E) (u : Upd (fun _ => False) w w') : LSt w' base a rest bad E := h.keep u (fun _ _ => id)
theorem LSt.ge {w : World} {base a : Nat} {rest : Txt} {bad : Bool} {E : Nat → Prop} (h : LSt w base a rest bad E) {k : Nat} (hk : E k) : base ≤ k ∧ k < w.heap.size := by
  obtain ⟨p, cap, h1, h2, h3, h4⟩ := h
  rcases (h4 k).1 hk with rfl | ⟨o, e⟩
  · exact ⟨h2, h1.lt⟩
  · exact h3.lt e
theorem new_any (w : World) : Calls Tryd.prog 16 #[] w fun e w' => e = .returned (ptr w.heap.size) ∧ (∃ E, LSt w' w.heap.size w.heap.size [] false E) ∧ Upd (fun _ => False) w w' := by
  go_enter Tryd.func16, Tryd.ntmps16
  go_wp2
  go_ret
  refine ⟨rfl, ⟨_, none, 0, Blk.made w [.slice none 0 0, .int .i64 0] 62, Nat.le_refl _, WinB.nil _ _, fun k => Iff.rfl⟩, (Upd.refl _ _).alloc _⟩
theorem left_any (w : World) {base a : Nat} {rest : Txt} {bad : Bool} {E : Nat → Prop} (h : LSt w base a rest bad E) : Calls Tryd.prog 19 #[ptr a] w fun e w' => e = .returned (.int .i64 (rest.length : Int)) ∧ w' = w := by
  obtain ⟨p, cap, h1, h2, h3, h4⟩ := h
  have c0 := h1.cell 0
  have c0 : w.cell? ⟨a, 0, none⟩ = some (.slice p rest.length cap) := c0
  clear h1 h2 h3 h4
  unfold ptr
  go_enter Tryd.func19, Tryd.ntmps19
  go_wp2
  go_ret
  exact ⟨rfl, rfl⟩
set_option maxHeartbeats 4000000 in
set_option maxRecDepth 100000 in
theorem feed_any (w : World) {base a : Nat} {rest : Txt} {bad : Bool} {E : Nat → Prop} (h : LSt w base a rest bad E) (q : Option Addr) (c : Nat) (b : Txt) (hb : BAt w q c b) (hl : rest.length + b.length ≤ 1000000) (hbase : base ≤ w.heap.size) :
    Calls Tryd.prog 17 #[ptr a, .slice q b.length c] w fun e w' => e = .returned (.tuple #[]) ∧ (∃ E', LSt w' base a (if bad then rest else rest ++ b) bad E' ∧ ∀ k, E' k → E k ∨ w.heap.size ≤ k) ∧ Upd E w w' := by
  have HL := Lib.hid h
  obtain ⟨p, cap, h1, h2, h3, h4⟩ := h
  have c1 : w.cell? ⟨a, 1, none⟩ = some (.int .i64 (errOf bad)) := h1.cell 1
  cases bad with
  | true =>
    have c1b : w.cell? ⟨a, 1, none⟩ = some (.int .i64 61) := c1
    clear c1 h1 h2 h3 h4 hb hl
    unfold ptr
    go_enter Tryd.func17, Tryd.ntmps17
    go_wp2
    go_end0
    exact ⟨rfl, ⟨E, HL.out, fun k h => Or.inl h⟩, Upd.refl _ _⟩
  | false =>
    have c1b : w.cell? ⟨a, 1, none⟩ = some (.int .i64 0) := c1
    clear c1
    have c0 : w.cell? ⟨a, 0, none⟩ = some (.slice p rest.length cap) := h1.cell 0
    have hf0 := h1.free 0
    have hlt := h1.lt
    obtain ⟨p', c', w', hr1, i1, u1, n1⟩ := win_app w base p cap rest h3 27 (.slice q b.length c) b (src_bat hb) (by omega) hbase
    have na : ¬ ∃ o, p = some ⟨a, o, none⟩ := by
      rintro ⟨o, e⟩
      rcases h3.2 with h | ⟨g', o', cs, e', hg, hB, hc⟩
      · rw [h] at e; cases e
      · rw [e'] at e; cases e
        have := h1
        unfold Blk at this hB
        rw [this] at hB
        simp at hB
    have h1' := u1.blk h1 na
    have c0' : w'.cell? ⟨a, 0, none⟩ = some (.slice p rest.length cap) := h1'.cell 0
    have hf0' := h1'.free 0
    have hlt' := h1'.lt
    have FIN : LSt (w'.setCell ⟨a, 0, none⟩ (.slice p' (rest.length + b.length) c')) base a (rest ++ b) false (fun k => k = a ∨ ∃ o, p' = some ⟨k, o, none⟩) := by
      refine ⟨p', c', ?_, h2, i1.keep ((Upd.refl (fun k => k = a) w').set (fun _ => rfl)) (fun g o e he => ?_), fun k => Iff.rfl⟩
      · have := h1'.set 0 (.slice p' (rest.length + b.length) c')
        rw [List.length_append]; exact this
      · subst he
        rcases n1 _ o e with h | h
        · exact na h
        · have := h1.lt; omega
    have HF := Lib.hid FIN
    have HE : Hid (∀ k, (k = a ∨ ∃ o, p' = some ⟨k, o, none⟩) → E k ∨ w.heap.size ≤ k) := Lib.hid (fun k hk => by
      rcases hk with rfl | ⟨o, e⟩
      · exact Or.inl ((h4 _).2 (Or.inl rfl))
      · rcases n1 k o e with h | h
        · exact Or.inl ((h4 _).2 (Or.inr h))
        · exact Or.inr h)
    have HU : Hid (Upd E w (w'.setCell ⟨a, 0, none⟩ (.slice p' (rest.length + b.length) c'))) := Lib.hid ((u1.weaken (fun k _ h => (h4 k).2 (Or.inr h))).set (fun _ => (h4 a).2 (Or.inl rfl)))
    clear h1 h1' h2 h3 h4 hb hl na i1 u1 n1 FIN hbase
    unfold ptr
    go_enter Tryd.func17, Tryd.ntmps17
    go_wp2_with (at_builtin; refine wpList_builtinN rfl _ _ 27 rfl _ _ rfl rfl hr1 ?_)
    go_end0
    exact ⟨rfl, ⟨_, HF.out, HE.out⟩, HU.out⟩
/-- What the next command is told by. -/
def XRes (base : Nat) (x : Option (List Txt) × Txt × Bool) (e : Ending) (w' : World) : Prop := match x.1 with
  | some l => ∃ v, e = .returned (.tuple #[v, .bool true, .int .i64 0]) ∧ TxtsO w' base v l
  | none => e = .returned (.tuple #[.slice none 0 0, .bool false, .int .i64 (errOf x.2.2)])
theorem LSt.cells {w : World} {base a : Nat} {rest : Txt} {bad : Bool} {E : Nat → Prop} (h : LSt w base a rest bad E) :
    ∃ p cap, w.cell? ⟨a, 0, none⟩ = some (.slice p rest.length cap) ∧ w.cell? ⟨a, 1, none⟩ = some (.int .i64 (errOf bad)) ∧ w.frozen? ⟨a, 0, none⟩ = false ∧ w.frozen? ⟨a, 1, none⟩ = false ∧ a < w.heap.size ∧ WinB w base p cap rest ∧ E a ∧
      (∀ w' p' c' r' b', Upd (fun _ => False) w w' → WinB w' base p' c' r' → (∀ k o, p' = some ⟨k, o, none⟩ → ∃ o, p = some ⟨k, o, none⟩) → ∃ E', LSt ((w'.setCell ⟨a, 0, none⟩ (.slice p' r'.length c')).setCell ⟨a, 1, none⟩ (.int .i64 (errOf b'))) base a r' b' E' ∧ ∀ k, E' k → E k) ∧
      (∀ w' p' c' r', Upd (fun _ => False) w w' → WinB w' base p' c' r' → (∀ k o, p' = some ⟨k, o, none⟩ → ∃ o, p = some ⟨k, o, none⟩) → ∃ E', LSt (w'.setCell ⟨a, 0, none⟩ (.slice p' r'.length c')) base a r' bad E' ∧ ∀ k, E' k → E k) := by
  obtain ⟨p, cap, h1, h2, h3, h4⟩ := h
  have na : ¬ ∃ o, p = some ⟨a, o, none⟩ := by
    rintro ⟨o, e⟩
    rcases h3.2 with h | ⟨g', o', cs, e', hg, hB, hc⟩
    · rw [h] at e; cases e
    · rw [e'] at e; cases e
      have := h1
      unfold Blk at this hB
      rw [this] at hB
      simp at hB
  refine ⟨p, cap, h1.cell 0, h1.cell 1, h1.free 0, h1.free 1, h1.lt, h3, (h4 a).2 (Or.inl rfl), fun w' p' c' r' b' u hw hp => ?_, fun w' p' c' r' u hw hp => ?_⟩
  · refine ⟨fun k => k = a ∨ ∃ o, p' = some ⟨k, o, none⟩, ⟨p', c', ?_, h2, hw.keep (((Upd.refl (fun k => k = a) w').set (fun _ => rfl)).set (fun _ => rfl)) (fun g o e he => ?_), fun k => Iff.rfl⟩, fun k hk => ?_⟩
    · have := ((u.blk h1 id).set 0 (.slice p' r'.length c')).set 1 (.int .i64 (errOf b'))
      exact this
    · subst he; exact na (hp _ o e)
    · rcases hk with rfl | ⟨o, e⟩
      · exact (h4 _).2 (Or.inl rfl)
      · exact (h4 _).2 (Or.inr (hp k o e))
  · refine ⟨fun k => k = a ∨ ∃ o, p' = some ⟨k, o, none⟩, ⟨p', c', ?_, h2, hw.keep ((Upd.refl (fun k => k = a) w').set (fun _ => rfl)) (fun g o e he => ?_), fun k => Iff.rfl⟩, fun k hk => ?_⟩
    · have := (u.blk h1 id).set 0 (.slice p' r'.length c')
      exact this
    · subst he; exact na (hp _ o e)
    · rcases hk with rfl | ⟨o, e⟩
      · exact (h4 _).2 (Or.inl rfl)
      · exact (h4 _).2 (Or.inr (hp k o e))
set_option maxHeartbeats 4000000 in
set_option maxRecDepth 100000 in
theorem nextBad_any (w : World) {base a : Nat} {rest : Txt} {E : Nat → Prop} (h : LSt w base a rest true E) :
    Calls Tryd.prog 18 #[ptr a] w fun e w' => e = .returned (.tuple #[.slice none 0 0, .bool false, .int .i64 61]) ∧ LSt w' base a rest true E ∧ Upd (fun _ => False) w w' := by
  have HL := Lib.hid h
  obtain ⟨p, cap, c0, c1, f0, f1, hlt, h3, ha, _, _⟩ := h.cells
  have c1 : w.cell? ⟨a, 1, none⟩ = some (.int .i64 61) := c1
  clear h h3 c0
  unfold ptr
  go_enter Tryd.func18, Tryd.ntmps18
  go_wp2
  go_loopg [2, 3, 4] 0 (fun g v2 v3 v4 wx => v2 = .slice none 0 0 ∧ v3 = .bool false ∧ v4 = .int .i64 0 ∧ wx = w)
  case atStart => exact ⟨rfl, rfl, rfl, rfl⟩
  case round =>
    obtain ⟨rfl, rfl, rfl, hw⟩ := hrel
    subst hw
    go_wp2
    go_quiet (fail)
    go_wp2
    go_ret3
    exact ⟨rfl, HL.out.keep0 ((Upd.refl _ _).drewN _), (Upd.refl _ _).drewN _⟩
set_option maxHeartbeats 4000000 in
set_option maxRecDepth 100000 in
theorem next_any (w : World) {base a : Nat} {rest : Txt} {E : Nat → Prop} (h : LSt w base a rest false E) (hs : Std w) (hl : rest.length ≤ 100000) (hb6 : 6 ≤ base) (hbw : base ≤ w.heap.size) :
    Calls Tryd.prog 18 #[ptr a] w fun e w' => XRes w.heap.size (Lin.next rest) e w' ∧ (∃ E', LSt w' base a (Lin.next rest).2.1 (Lin.next rest).2.2 E' ∧ ∀ k, E' k → E k) ∧ Upd E w w' := by
  have HL := Lib.hid h
  have HS := Lib.hid hs
  have HG := Lib.hid (fun k (hk : E k) => h.ge hk)
  generalize hres : Lin.next rest = res at *
  have HR := Lib.hid hres
  clear h hs hres
  unfold ptr
  go_enter Tryd.func18, Tryd.ntmps18
  go_wp2
  go_loopg [2, 3, 4] rest.length (fun g v2 v3 v4 wx => v2 = .slice none 0 0 ∧ v3 = .bool false ∧ v4 = .int .i64 0 ∧ ∃ r E1, r.length = g ∧ g ≤ rest.length ∧ Hid (LSt wx base a r false E1) ∧ Hid (∀ k, E1 k → E k) ∧ Hid (Lin.next r = res) ∧ Hid (Upd E w wx))
  case atStart => exact ⟨rfl, rfl, rfl, rest, E, rfl, by omega, HL, Lib.hid (fun _ h => h), HR, Lib.hid (Upd.refl _ _)⟩
  case round =>
    obtain ⟨rfl, rfl, rfl, r, E1, hrg, hg, LS, HE, NX, U⟩ := hrel
    subst hrg
    obtain ⟨p, cap, c0, c1, f0, f1, hlt, h3, ha, hs2, hs1⟩ := LS.out.cells
    have c1 : wr.cell? ⟨a, 1, none⟩ = some (.int .i64 0) := c1
    have std := HS.out.keepB U.out (fun k hk => by have := (HG.out k hk).1; omega)
    have PA := parse2_any p cap r wr h3.1 std (by omega)
    unfold PRes2 at PA
    have H3 := Lib.hid h3
    have HS2 := Lib.hid hs2
    have HS1 := Lib.hid hs1
    have HA := Lib.hid (HE.out a ha)
    clear h3 hs2 hs1 ha std
    cases hp : Lin.parse r with
    | bad =>
      rw [hp] at PA
      have PA : Hid (Calls Tryd.prog 10 #[.slice p r.length cap] wr fun e w' => e = .returned (.tuple #[.slice none 0 0, .int .i64 0, .int .i64 61]) ∧ Upd (fun _ => False) wr w') := Lib.hid PA
      have RX := Lib.hid (show res = (none, [], true) from NX.out.symm.trans (Lin.next_bad hp))
      clear hp
      go_wp2_with fail
      refine PA.out.mono ?_
      rintro e w2 ⟨rfl, u2⟩
      have c0' := (u2.cell (p := ⟨a, 0, none⟩) hlt id).trans c0
      have c1' := (u2.cell (p := ⟨a, 1, none⟩) hlt id).trans c1
      have f0' := (u2.frozen (p := ⟨a, 0, none⟩) hlt id).trans f0
      have f1' := (u2.frozen (p := ⟨a, 1, none⟩) hlt id).trans f1
      have hlt' := Nat.lt_of_lt_of_le hlt u2.size
      obtain ⟨E', hL, hE'⟩ := HS2.out w2 none 0 [] true u2 (WinB.nil _ _) (fun k o e => by cases e)
      have HL' := Lib.hid hL
      have HE' := Lib.hid hE'
      have U2 := Lib.hid ((((U.out.trans u2 (fun _ _ h => h.elim)).set (b := a) (o := 0) (v := .slice none 0 0) (fun _ => HA.out)).set (b := a) (o := 1) (v := .int .i64 61) (fun _ => HA.out)))
      clear u2 hL hE' c0 c1 f0 f1 hlt
      go_wp2
      go_quiet (fail)
      go_wp2
      go_ret3
      rw [RX.out]
      exact ⟨rfl, ⟨E', HL'.out.keep0 ((Upd.refl _ _).drewN _), fun k h => HE.out k (HE'.out k h)⟩, U2.out.drewN _⟩
    | short =>
      rw [hp] at PA
      have PA : Hid (Calls Tryd.prog 10 #[.slice p r.length cap] wr fun e w' => e = .returned (.tuple #[.slice none 0 0, .int .i64 0, .int .i64 0]) ∧ Upd (fun _ => False) wr w') := Lib.hid PA
      have RX := Lib.hid (show res = (none, r, false) from NX.out.symm.trans (Lin.next_short hp))
      clear hp
      go_wp2_with fail
      refine PA.out.mono ?_
      rintro e w2 ⟨rfl, u2⟩
      have c0' := (u2.cell (p := ⟨a, 0, none⟩) hlt id).trans c0
      have c1' := (u2.cell (p := ⟨a, 1, none⟩) hlt id).trans c1
      have f0' := (u2.frozen (p := ⟨a, 0, none⟩) hlt id).trans f0
      have hlt' := Nat.lt_of_lt_of_le hlt u2.size
      obtain ⟨p', k', hsl, hw', hpp⟩ := (H3.out.keep0 u2).drop 0 (by omega)
      have hsl : ∀ w', (Instr.slice 27 (.slice p r.length cap) (some (.int .i64 0)) none none).run Tryd.prog w' = .ok (.slice p' r.length k') w' := hsl
      obtain ⟨E', hL, hE'⟩ := HS1.out w2 p' k' r u2 hw' (fun k o e => hpp k o e)
      have HL' := Lib.hid hL
      have HE' := Lib.hid hE'
      have U2 := Lib.hid (((U.out.trans u2 (fun _ _ h => h.elim)).set (b := a) (o := 0) (v := .slice p' r.length k') (fun _ => HA.out)))
      clear u2 hL hE' c0 c1 f0 f1 hlt hw' hpp
      go_wp2
      go_ret3
      rw [RX.out]
      exact ⟨rfl, ⟨E', HL'.out, fun k h => HE.out k (HE'.out k h)⟩, U2.out⟩
    | there l n =>
      rw [hp] at PA
      obtain ⟨n1, n2, n3⟩ := Lin.parse_there hp
      have PA : Hid (Calls Tryd.prog 10 #[.slice p r.length cap] wr fun e w' => (∃ v, e = .returned (.tuple #[v, .int .i64 (n : Int), .int .i64 0]) ∧ TxtsO w' wr.heap.size v l) ∧ Upd (fun _ => False) wr w') := Lib.hid PA
      have RX := Lib.hid (NX.out.symm.trans (Lin.next_there hp))
      have hn0 : ((n : Int) == 0) = false := by rw [beq_eq_false_iff_ne]; omega
      have hn1 : decide (0 < n) = true := decide_eq_true (by omega)
      clear hp
      go_wp2_with fail
      refine PA.out.mono ?_
      rintro e w2 ⟨⟨v, rfl, ht⟩, u2⟩
      obtain ⟨pv, cv, rfl, hlv, hcv⟩ := ht.slice
      have HT := Lib.hid ht
      have c0' := (u2.cell (p := ⟨a, 0, none⟩) hlt id).trans c0
      have c1' := (u2.cell (p := ⟨a, 1, none⟩) hlt id).trans c1
      have f0' := (u2.frozen (p := ⟨a, 0, none⟩) hlt id).trans f0
      have hlt' := Nat.lt_of_lt_of_le hlt u2.size
      obtain ⟨p', k', hsl, hw', hpp⟩ := (H3.out.keep0 u2).drop n n2
      obtain ⟨E', hL, hE'⟩ := HS1.out w2 p' k' (r.drop n) u2 hw' (fun k o e => hpp k o e)
      have hdl : (r.drop n).length = r.length - n := List.length_drop
      have HL' := Lib.hid hL
      have HE' := Lib.hid hE'
      have U2 := Lib.hid (((U.out.trans u2 (fun _ _ h => h.elim)).set (b := a) (o := 0) (v := .slice p' (r.drop n).length k') (fun _ => HA.out)))
      have HT2 : Hid (TxtsO (w2.setCell ⟨a, 0, none⟩ (.slice p' (r.drop n).length k')) wr.heap.size (.slice pv l.length cv) l) := Lib.hid (HT.out.keep ((Upd.refl (fun k => k = a) w2).set (fun _ => rfl)) (fun k e he => by have := (HT.out.lt e).1; omega))
      have hws : w.heap.size ≤ wr.heap.size := U.out.size
      have hlen := hdl
      generalize hgd : r.drop n = r2 at *
      have hr2 : r2.length < r.length := by omega
      have hr3 : r2.length ≤ rest.length := by omega
      clear u2 hL hE' c0 c1 f0 f1 hlt hw' hpp ht hdl hlen hgd
      by_cases hle : l = []
      · have q0 : ¬ (0 : Int) < (l.length : Int) := by rw [hle]; simp
        have NX2 := Lib.hid (RX.out.trans (if_pos hle)).symm
        clear hle
        go_wp2
        go_roundg r2.length
        case measure => omega
        case rel => exact ⟨rfl, rfl, rfl, r2, E', rfl, hr3, HL', Lib.hid (fun k h => HE.out k (HE'.out k h)), NX2, U2⟩
      · have q0 : (0 : Int) < (l.length : Int) := by have := List.length_pos_iff.2 hle; omega
        have RX2 := Lib.hid (RX.out.trans (if_neg hle))
        clear hle
        go_wp2
        go_ret3
        rw [RX2.out]
        exact ⟨⟨_, rfl, HT2.out.mono hws⟩, ⟨E', HL'.out, fun k h => HE.out k (HE'.out k h)⟩, U2.out⟩
end Go.Proofs.YtkemjjhmabemiaaDoor
/- Walk: nearhandref06.Same. -/
set_option linter.unusedVariables false
set_option linter.unusedSimpArgs false
namespace Go.Proofs.YtkemjjhmabemiaaDoor
open Go.RowKit

theorem StrsAt.row {w : World} {base : Nat} {v : Value} {l : List ByteArray} (h : StrsAt w base v l) : RowOf strc 1 w v l := by
  rcases h.2 with ⟨rfl, hn⟩ | ⟨g, cap, cur, rfl, hg, hb, h1, h2, h3, h4⟩
  · exact Or.inl ⟨none, 0, rfl, by cases l <;> simp_all⟩
  · refine Or.inr ⟨g, 0, cap, rfl, (Array.getElem?_eq_some_iff.1 hb).1, by omega, fun i a hi j hj => ?_⟩
    obtain rfl : j = 0 := by omega
    have hil : i < l.length := (List.getElem?_eq_some_iff.1 hi).1
    have := World.ownsRow.cellAt (w := w) (g := g) (cap := cap) (base := base) (e := 9) (size := 1) (n := l.length) (xs := l.map Value.string) ⟨h.1, Or.inr ⟨g, cap, cur, rfl, hg, hb, h1, h2, h3, h4⟩⟩ i (by omega)
    have e : (0 + (i * 1 + 0)) = i := by omega
    rw [e, this]
    simp [strc, hi]

set_option maxHeartbeats 1000000 in
theorem same06_any (v1 v2 : Value) (l1 l2 : List ByteArray) (w : World) (h1 : RowOf strc 1 w v1 l1) (h2 : RowOf strc 1 w v2 l2) :
    Calls Tryd.prog 14 #[v1, v2] w fun e w' => e = .returned (.bool (decide (l1 = l2))) ∧ ∃ n, w' = w.drewN n := by
  obtain ⟨p1, k1, rfl, b1⟩ := h1.len
  obtain ⟨p2, k2, rfl, b2⟩ := h2.len
  unfold maxLen at b1 b2
  have H1 := Lib.hid h1
  have H2 := Lib.hid h2
  clear h1 h2
  by_cases hl : l1.length = l2.length
  · have hne : ((l1.length : Int) != (l2.length : Int)) = false := by simp [hl]
    have HL := Lib.hid hl
    clear hl
    go_enter Tryd.func14, Tryd.ntmps14
    go_wp2
    go_loopw [13] (fun c wr => ∃ k : Nat, k ≤ l1.length ∧ c = .int .i64 (k : Int) ∧ Hid (l1.take k = l2.take k) ∧ Hid (∃ n, wr = w.drewN n)) (fun c _ => l1.length - (intOf c).toNat)
    case atStart => exact ⟨0, by omega, rfl, by show l1.take 0 = l2.take 0; simp, 0, rfl⟩
    case round =>
      obtain ⟨k, hk, rfl, T, W⟩ := hrel
      by_cases hlt : k < l1.length
      · have hl := HL.out
        obtain ⟨x, hx⟩ : ∃ x, l1[k]? = some x := ⟨_, List.getElem?_eq_getElem hlt⟩
        obtain ⟨y, hy⟩ : ∃ y, l2[k]? = some y := ⟨_, List.getElem?_eq_getElem (by omega : k < l2.length)⟩
        have hlt2 : k < l2.length := by omega
        obtain ⟨g1, o1, q1, e1, _, _, c1⟩ : ∃ b off cap, Value.slice p1 l1.length k1 = .slice (some ⟨b, off, none⟩) l1.length cap ∧ b < w.heap.size ∧ l1.length ≤ maxLen ∧ ∀ i a, l1[i]? = some a → ∀ j, j < 1 → w.cell? ⟨b, off + (i * 1 + j), none⟩ = (strc a)[j]? := by
          rcases H1.out with ⟨_, _, _, e⟩ | h
          · rw [e] at hlt; simp at hlt
          · exact h
        obtain ⟨g2, o2, q2, e2, _, _, c2⟩ : ∃ b off cap, Value.slice p2 l2.length k2 = .slice (some ⟨b, off, none⟩) l2.length cap ∧ b < w.heap.size ∧ l2.length ≤ maxLen ∧ ∀ i a, l2[i]? = some a → ∀ j, j < 1 → w.cell? ⟨b, off + (i * 1 + j), none⟩ = (strc a)[j]? := by
          rcases H2.out with ⟨_, _, _, e⟩ | h
          · rw [e] at hlt2; simp at hlt2
          · exact h
        have d1 : w.cell? ⟨g1, o1 + k, none⟩ = some (.string x) := by have := c1 k x hx 0 (by omega); simpa [strc] using this
        have d2 : w.cell? ⟨g2, o2 + k, none⟩ = some (.string y) := by have := c2 k y hy 0 (by omega); simpa [strc] using this
        simp only [Value.slice.injEq] at e1 e2
        obtain ⟨rfl, _, rfl⟩ := e1
        obtain ⟨rfl, _, rfl⟩ := e2
        obtain ⟨n0, rfl⟩ := W.out
        have HX : Hid (l1.take (k + 1) = l1.take k ++ [x] ∧ l2.take (k + 1) = l2.take k ++ [y]) := by
          obtain ⟨_, r1⟩ := List.getElem?_eq_some_iff.1 hx
          obtain ⟨_, r2⟩ := List.getElem?_eq_some_iff.1 hy
          exact ⟨by rw [List.take_succ_eq_append_getElem hlt, r1], by rw [List.take_succ_eq_append_getElem hlt2, r2]⟩
        clear c1 c2 hx hy hl
        go_wp2
        go_quiet (fail)
        go_wp2
        · have t : (x.toList != y.toList) = true := by assumption
          have hxy : x ≠ y := by rintro rfl; simp at t
          go_ret
          refine ⟨ret_bool ?_, n0 + nq, World.drewN_drewN _ _ _⟩
          have : l1 ≠ l2 := by
            rintro rfl
            have := HX.out.1.symm.trans HX.out.2
            simp at this
            exact hxy this
          simp [this]
        · have t : (x.toList != y.toList) = false := by assumption
          have hxy : x = y := toList_eq (by simpa using t)
          go_roundw
          case rel =>
            refine ⟨k + 1, by omega, rfl, ?_, n0 + nq, rfl⟩
            show l1.take (k + 1) = l2.take (k + 1)
            rw [HX.out.1, HX.out.2, T.out, hxy]
          case measure => simp [intOf]; omega
      · have hk2 : k = l1.length := by omega
        subst hk2
        go_wp2
        go_ret
        refine ⟨ret_bool ?_, W.out⟩
        have := T.out
        rw [List.take_length, HL.out, List.take_length] at this
        simp [this]
  · have hne : ((l1.length : Int) != (l2.length : Int)) = true := by rw [bne_iff_ne]; omega
    have HL := Lib.hid hl
    clear hl
    go_enter Tryd.func14, Tryd.ntmps14
    go_wp2
    go_ret
    refine ⟨ret_bool ?_, 0, rfl⟩
    have : l1 ≠ l2 := fun e => HL.out (by rw [e])
    simp [this]
end Go.Proofs.YtkemjjhmabemiaaDoor
/- Walks: the chapter's example; the same words? -/
set_option linter.unusedVariables false
set_option linter.unusedSimpArgs false
namespace Go.Proofs.YtkemjjhmabemiaaDoor
open Go.RowKit
open Lin (Txt)

theorem row_strc {w : World} {v : Value} {l : List Txt} (h : RowOf tcs 1 w v l) : RowOf strc 1 w v (l.map ofL) := by
  rcases h with ⟨p, cap, e, h0⟩ | ⟨b, off, cap, e, hb, hl, hc⟩
  · exact Or.inl ⟨p, cap, e, by rw [h0]; rfl⟩
  · refine Or.inr ⟨b, off, cap, by rw [e, List.length_map], hb, by rw [List.length_map]; exact hl, fun i a hi j hj => ?_⟩
    rw [List.getElem?_map] at hi
    obtain ⟨t, ht, rfl⟩ := Option.map_eq_some_iff.1 hi
    exact hc i t ht j hj
theorem map_ofL (a b : List Txt) : (decide (a.map ofL = b.map ofL)) = decide (a = b) := by
  by_cases h : a = b
  · subst h; simp
  · rw [decide_eq_false h, decide_eq_false]
    intro e
    apply h
    have := congrArg (List.map ByteArray.toList) e
    simp only [List.map_map] at this
    have i : (ByteArray.toList ∘ ofL) = id := funext fun t => ofL_toList t
    rw [i] at this
    simpa using this
theorem same_any (v1 v2 : Value) (l1 l2 : List Txt) (w : World) (h1 : RowOf tcs 1 w v1 l1) (h2 : RowOf tcs 1 w v2 l2) :
    Calls Tryd.prog 14 #[v1, v2] w fun e w' => e = .returned (.bool (decide (l1 = l2))) ∧ ∃ n, w' = w.drewN n := by
  have := same06_any v1 v2 _ _ w (row_strc h1) (row_strc h2)
  rw [map_ofL] at this
  exact this
/-- Bytes in a block of their own. -/
theorem BAt.lit (w : World) (l : Txt) (h : l.length ≤ 1000) (cs : List Value) (e : cs = l.map byc) : BAt (w.alloc (.cells cs.toArray 5)) (some ⟨w.heap.size, 0, none⟩) l.length l := by
  subst e
  refine ⟨⟨Nat.le_refl _, fun e => by cases e⟩, by unfold maxLen; omega, Or.inr ⟨_, _, rfl, by simp, fun i c hi => ?_⟩⟩
  rw [Nat.zero_add, (Blk.made w (l.map byc) 5).cell, List.getElem?_map, hi]; rfl
theorem BAt.litM (w : World) (l : Txt) (h : l.length ≤ 1000) (cs : List Value) (e : cs = l.map byc) (fr : Nat × Nat) : BAt (w.alloc (.cells cs.toArray 5 fr)) (some ⟨w.heap.size, 0, none⟩) l.length l := by
  subst e
  refine ⟨⟨Nat.le_refl _, fun e => by cases e⟩, by unfold maxLen; omega, Or.inr ⟨_, _, rfl, by simp, fun i c hi => ?_⟩⟩
  have hh : (w.alloc (.cells (l.map byc).toArray 5 fr)).heap[w.heap.size]? = some (.cells (l.map byc).toArray 5 fr) := by
    show (w.heap.push _)[w.heap.size]? = _
    simp
  unfold World.cell?
  rw [hh]
  simp [hi]
def exB : Txt := [83, 69, 84, 32, 107, 32, 34, 97, 32, 98, 34, 10]
def exW : List Txt := [[83, 69, 84], [107], [97, 32, 98]]
theorem ex_parse : Lin.parse exB = .there exW 12 := by kernel_rfl
theorem ex_next : Lin.next exB = (some exW, [], false) := by
  rw [Lin.next_there ex_parse, if_neg (by unfold exW; simp)]; rfl
theorem TxtsO.get {w : World} {base : Nat} {p : Option Addr} {c : Nat} {l : List Txt} (h : TxtsO w base (.slice p l.length c) l) {k : Nat} {t : Txt} (hk : l[k]? = some t) :
    ∃ g, p = some ⟨g, 0, none⟩ ∧ g < w.heap.size ∧ w.cell? ⟨g, k, none⟩ = some (.string (ofL t)) := by
  rcases h.blk with ⟨e, rfl⟩ | ⟨g, cap, cs, e, hg, hB, hc, hm, hl⟩
  · simp at hk
  · injection e with e1 e2 e3
    refine ⟨g, e1, hB.lt, ?_⟩
    have hkl := (List.getElem?_eq_some_iff.1 hk).1
    rw [hB.cell, List.getElem?_append_left (by rw [flat_length tcs 1 (fun _ => rfl)]; omega)]
    have := flat_get tcs 1 (fun _ => rfl) l k 0 (by omega)
    rw [Nat.mul_one, Nat.add_zero] at this
    rw [this, hk]; rfl
set_option maxHeartbeats 4000000 in
set_option maxRecDepth 100000 in
theorem alive_any (w : World) (hs : Std w) :
    Calls Tryd.prog 9 #[] w fun e w' => e = .returned (.bool true) ∧ Upd (fun _ => False) w w' := by
  have HS := Lib.hid hs
  have NW := Lib.hid (new_any w)
  have h6 := hs.six
  clear hs
  go_enter Tryd.func9, Tryd.ntmps9
  go_wp2_with fail
  refine NW.out.mono ?_
  rintro e w1 ⟨rfl, ⟨E, hL⟩, u1⟩
  have hb1 := BAt.litM w1 exB (by decide) _ rfl (12, 13)
  have hL2 := hL.keep0 ((Upd.refl (fun _ => False) w1).alloc (.cells (exB.map byc).toArray 5 (12, 13)))
  have FD := feed_any _ hL2 _ _ exB hb1 (by decide) (by have := u1.size; simp; omega)
  have U1 := Lib.hid (u1.alloc (.cells (exB.map byc).toArray 5 (12, 13)))
  have hsz := u1.size
  have HG := Lib.hid (fun k (hk : E k) => (hL.ge hk).1)
  have FD : Hid (Calls Tryd.prog 17 #[ptr w.heap.size, .slice (some ⟨w1.heap.size, 0, none⟩) 12 12] (w1.alloc (.cells #[.int .u8 83, .int .u8 69, .int .u8 84, .int .u8 32, .int .u8 107, .int .u8 32, .int .u8 34, .int .u8 97, .int .u8 32, .int .u8 98, .int .u8 34, .int .u8 10] 5 (12, 13))) fun e w' => e = .returned (.tuple #[]) ∧ (∃ E', LSt w' w.heap.size w.heap.size exB false E' ∧ ∀ k, E' k → E k ∨ (w1.alloc (.cells (exB.map byc).toArray 5 (12, 13))).heap.size ≤ k) ∧ Upd E (w1.alloc (.cells (exB.map byc).toArray 5 (12, 13))) w') := Lib.hid FD
  have hcv := fun C => Lib.run_convert_bytes_const (P := Tryd.prog) w1 27 5 C 12 12 Tryd.underlying27 Tryd.underlying5
  clear hL hL2 hb1 u1
  unfold ptr
  unfold ptr at FD
  go_wp2_with fail
  refine FD.out.mono ?_
  rintro e w2 ⟨rfl, ⟨E2, hL, hE2⟩, u2⟩
  have U2 : Hid (Upd (fun _ => False) w w2) := Lib.hid (U1.out.trans u2 (fun k hk h => by have := HG.out k h; omega))
  have NX := next_any w2 hL (HS.out.keep U2.out) (by decide) h6 U2.out.size
  rw [ex_next] at NX
  have NX := Lib.hid NX
  have HG2 := Lib.hid (fun k (hk : E2 k) => (hL.ge hk).1)
  clear hL hE2 u2
  unfold ptr at NX
  go_wp2_with fail
  refine NX.out.mono ?_
  rintro e w3 ⟨⟨v, rfl, ht⟩, ⟨E3, hL3, hE3⟩, u3⟩
  have U3 : Hid (Upd (fun _ => False) w w3) := Lib.hid (U2.out.trans u3 (fun k hk h => by have := HG2.out k h; omega))
  obtain ⟨pv, cv, hv, _, _⟩ := ht.slice
  have hv : v = .slice pv 3 cv := hv
  subst hv
  obtain ⟨g, rfl, hg, hd0⟩ := TxtsO.get (l := exW) ht (k := 0) (t := [83, 69, 84]) rfl
  obtain ⟨g', e', _, hd1⟩ := TxtsO.get (l := exW) ht (k := 1) (t := [107]) rfl
  cases e'
  obtain ⟨g', e', _, hd2⟩ := TxtsO.get (l := exW) ht (k := 2) (t := [97, 32, 98]) rfl
  cases e'
  have LF := Lib.hid (left_any w3 hL3)
  have hc0 : w3.cell? ⟨g, 0, none⟩ = some (.string { data := #[83, 69, 84] }) := hd0
  have hc1 : w3.cell? ⟨g, 1, none⟩ = some (.string { data := #[107] }) := hd1
  have hc2 : w3.cell? ⟨g, 2, none⟩ = some (.string { data := #[97, 32, 98] }) := hd2
  clear ht hL3 hE3 u3 hd0 hd1 hd2
  unfold ptr at LF
  go_wp2_with (go_at_call 19; refine LF.out.mono ?_; rintro e w4 ⟨rfl, rfl⟩)
  go_ret
  exact ⟨rfl, U3.out⟩
end Go.Proofs.YtkemjjhmabemiaaDoor
