/- Which clients are told of which beginnings: the contracts, and what they leave alone. -/
import Derived.Test.YtnlbmplbaalgmaaPfxE
import Derived.Test.YtnlbmplbaalgmaaSame
import Derived.Test.YtnlbmplbaalgmaaActs15
set_option linter.unusedVariables false
set_option linter.unusedSimpArgs false
set_option linter.unusedSectionVars false
namespace Go.Proofs.Ytnlbmplbaalgmaa
open Go.RowKit

section
variable {w : World} {base pb : Nat} {P : Txt → Int → Prop} {N : Nat} {F : Nat → Prop}
theorem padd_any (h : PAt w base pb P N F) (s : Txt) (id : Int) (hN : N ≤ 1000) (hs : s.length ≤ 9223372036854775807) :
    Calls Try.prog 30 #[.pointer (some ⟨pb, 0, none⟩), .string (ofL s), .int .i64 id] w fun e w' => ((e = .returned (.bool false) ∧ P s id) ∨ (e = .returned (.bool true) ∧ ¬ P s id)) ∧
      ∃ F', PAt w' base pb (fun t i => P t i ∨ t = s ∧ i = id) (N + 1) F' ∧ Upd F w w' ∧ ∀ b, F' b → F b ∨ w.heap.size ≤ b := by
  obtain ⟨xb, rm, om, lab, L, E, nx, R, rv, ri, Q, qv, qi, h1, h2, h3, rfl⟩ := h
  exact padd_raw s id w h1 h2 h3 hN hs
theorem pdrop_any (h : PAt w base pb P N F) (id : Int) (hN : N ≤ 1000) :
    Calls Try.prog 35 #[.pointer (some ⟨pb, 0, none⟩), .int .i64 id] w fun e w' => ∃ l : List Txt, e = .returned (.int .i64 (l.length : Int)) ∧ Rising l ∧ (∀ t, t ∈ l ↔ P t id) ∧
      ∃ F', PAt w' base pb (fun t i => P t i ∧ i ≠ id) N F' ∧ Upd F w w' ∧ ∀ b, F' b → F b ∨ w.heap.size ≤ b := by
  obtain ⟨xb, rm, om, lab, L, E, nx, R, rv, ri, Q, qv, qi, h1, h2, h3, rfl⟩ := h
  exact pdrop_raw id w h1 h2 h3 hN
theorem pmatch_any (h : PAt w base pb P N F) (key : Txt) (hN : N ≤ 900) (hk : key.length ≤ 1000000) :
    Calls Try.prog 31 #[.pointer (some ⟨pb, 0, none⟩), .string (ofL key)] w fun e w' => ∃ v l, e = .returned v ∧ IntsAt w' w.heap.size v l ∧ Rising l ∧ (∀ id, id ∈ l ↔ ∃ t, t <+: key ∧ P t id) ∧ Upd (fun _ => False) w w' := by
  obtain ⟨xb, rm, om, lab, L, E, nx, R, rv, ri, Q, qv, qi, h1, h2, h3, rfl⟩ := h
  exact pmatch_raw key w h1 h2 hN hk
theorem pof_any (h : PAt w base pb P N F) (id : Int) (hN : N ≤ 900) :
    Calls Try.prog 39 #[.pointer (some ⟨pb, 0, none⟩), .int .i64 id] w fun e w' => ∃ v l, e = .returned v ∧ TxtsAt w' w.heap.size v l ∧ Rising l ∧ (∀ t, t ∈ l ↔ P t id) ∧ Upd (fun _ => False) w w' := by
  obtain ⟨xb, rm, om, lab, L, E, nx, R, rv, ri, Q, qv, qi, h1, h2, h3, rfl⟩ := h
  exact pof_raw id w h1 h3 (by omega)
/-- The marks' keys are the beginnings. -/
def KeysOf (P : Txt → Int → Prop) (L : List MarkP) : Prop := (L.Pairwise fun a b => a.1 < b.1) ∧ ∀ t, (∃ n, (t, n) ∈ L) ↔ ∃ id, P t id
theorem PAt.tree (h : PAt w base pb P N F) : ∃ xb L E, w.cell? ⟨pb, 0, none⟩ = some (.pointer (some ⟨xb, 0, none⟩)) ∧ TreeAt w base xb L E ∧ L.length ≤ N ∧ KeysOf P L := by
  obtain ⟨xb, rm, om, lab, L, E, nx, R, rv, ri, Q, qv, qi, h1, h2, h3, rfl⟩ := h
  refine ⟨xb, L, E, h1.blk.cellAt rfl, h1.tree, h2.len, h2.rise, fun t => ⟨fun ⟨n, hn⟩ => ?_, fun ⟨id, hp⟩ => h2.key t id hp⟩⟩
  obtain ⟨l, _, _, hne, _, hm⟩ := h2.row t n hn
  cases l with
  | nil => exact absurd rfl hne
  | cons x l => exact ⟨x, (hm x).1 (by simp)⟩
theorem KeysOf.len {L M : List MarkP} (h1 : KeysOf P L) (h2 : KeysOf P M) : L.map (·.1) = M.map (·.1) := by
  refine rising_ext (List.pairwise_map.2 h1.1) (List.pairwise_map.2 h2.1) (fun t => ?_)
  have e : ∀ K : List MarkP, t ∈ K.map (·.1) ↔ ∃ n, (t, n) ∈ K := fun K => by
    rw [List.mem_map]
    exact ⟨fun ⟨m, hm, e⟩ => ⟨m.2, by rw [← e]; exact hm⟩, fun ⟨n, hn⟩ => ⟨(t, n), hn, rfl⟩⟩
  rw [e, e, h1.2, h2.2]
theorem KeysOf.nodes {L M : List MarkP} (e : L.map (·.1) = M.map (·.1)) {n : Nat} (h : NodesN L n) : NodesN M n := by
  have e1 : ∀ t, (∃ a ∈ L, a.1 = t) ↔ ∃ a ∈ M, a.1 = t := fun t => by
    have : ∀ K : List MarkP, (∃ a ∈ K, a.1 = t) ↔ t ∈ K.map (·.1) := fun K => by rw [List.mem_map]
    rw [this, this, e]
  obtain ⟨l, a, b, c⟩ := h
  refine ⟨l, a, b, fun t => ?_⟩
  rw [c]
  refine or_congr Iff.rfl (or_congr (e1 t) ⟨?_, ?_⟩)
  · rintro ⟨a, ha, b, hb, e⟩
    obtain ⟨a', ha', ea⟩ := (e1 a.1).1 ⟨a, ha, rfl⟩
    obtain ⟨b', hb', eb⟩ := (e1 b.1).1 ⟨b, hb, rfl⟩
    exact ⟨a', ha', b', hb', by rw [ea, eb]; exact e⟩
  · rintro ⟨a, ha, b, hb, e⟩
    obtain ⟨a', ha', ea⟩ := (e1 a.1).2 ⟨a, ha, rfl⟩
    obtain ⟨b', hb', eb⟩ := (e1 b.1).2 ⟨b, hb, rfl⟩
    exact ⟨a', ha', b', hb', by rw [ea, eb]; exact e⟩
end
open Classical in
noncomputable def lab0 (E : Nat → Prop) (n : Nat) : Nat → Lb := fun b => if b = n then .rm else if b = n + 1 then .om else if b = n + 2 then .blk else if E b then .tree else .no
open Classical in
theorem pnew_at {w w1 : World} {base xb : Nat} {E : Nat → Prop} (hb : base ≤ w.heap.size) (t : TreeAt w1 base xb [] E) (hs : w.heap.size ≤ w1.heap.size) (f : ∀ k, E k → w.heap.size ≤ k) :
    PAt (((w1.alloc (.map #[] 0)).alloc (.map #[] 0)).alloc (.cells #[.pointer (some ⟨xb, 0, none⟩), .map (some w1.heap.size), .int .i64 0, .map (some (w1.heap.size + 1))] 62)) base (w1.heap.size + 2) (fun _ _ => False) 0 (fun b => lab0 E w1.heap.size b ≠ .no) ∧
    ∀ b, lab0 E w1.heap.size b ≠ .no → w.heap.size ≤ b := by
  have ua : Upd (fun _ => False) w1 (w1.alloc (.map #[] 0)) := (Upd.refl _ _).alloc _
  have ub := ua.alloc (.map #[] 0)
  have uc := ub.alloc (.cells #[.pointer (some ⟨xb, 0, none⟩), .map (some w1.heap.size), .int .i64 0, .map (some (w1.heap.size + 1))] 62)
  have hE : ∀ b, E b → b < w1.heap.size := fun b hb => (t.ge hb).2
  have m1 : MapAt intEnc (w1.alloc (.map #[] 0)) w1.heap.size [] := MapAt.made w1
  have m2 : MapAt intEnc ((w1.alloc (.map #[] 0)).alloc (.map #[] 0)) (w1.heap.size + 1) [] := by
    have := MapAt.made (enc := intEnc) (w1.alloc (.map #[] 0))
    rw [World.size_alloc] at this; exact this
  have bk : Blk (((w1.alloc (.map #[] 0)).alloc (.map #[] 0)).alloc (.cells #[.pointer (some ⟨xb, 0, none⟩), .map (some w1.heap.size), .int .i64 0, .map (some (w1.heap.size + 1))] 62)) (w1.heap.size + 2) [ptr xb, .map (some w1.heap.size), .int .i64 0, .map (some (w1.heap.size + 1))] 62 := by
    have := Blk.made ((w1.alloc (.map #[] 0)).alloc (.map #[] 0)) [.pointer (some ⟨xb, 0, none⟩), .map (some w1.heap.size), .int .i64 0, .map (some (w1.heap.size + 1))] 62
    rw [World.size_alloc, World.size_alloc] at this; exact this
  have hlab : ∀ b, lab0 E w1.heap.size b ≠ .no → w.heap.size ≤ b ∧ b < w1.heap.size + 3 := fun b hb => by
    unfold lab0 at hb
    split at hb
    · omega
    · split at hb
      · omega
      · split at hb
        · omega
        · split at hb
          · rename_i h; have := hE b h; have := f b h; omega
          · exact absurd rfl hb
  refine ⟨⟨xb, w1.heap.size, w1.heap.size + 1, lab0 E w1.heap.size, [], E, 0, [], fun _ => .slice none 0 0, fun _ => none, [], fun _ => .slice none 0 0, fun _ => none, ?_, ?_, ?_, rfl⟩, fun b hb => (hlab b hb).1⟩
  · refine ⟨bk, ?_, t.keep0 uc, fun b hb => ?_, (m1.keep ((Upd.refl (fun _ => False) _).alloc _) (fun h => h)).keep ((Upd.refl (fun _ => False) _).alloc _) (fun h => h), ?_, List.nodup_nil, fun n => rfl, fun n l h => (by cases h), m2.keep ((Upd.refl (fun _ => False) _).alloc _) (fun h => h), ?_, List.nodup_nil, fun n => rfl, fun n l h => (by cases h), fun b hb => ⟨Nat.le_trans (by omega) (hlab b hb).1, ?_⟩, Nat.le_trans (by omega) uc.size⟩
    · unfold lab0; rw [if_neg (by omega), if_neg (by omega), if_pos rfl]
    · have := hE b hb
      unfold lab0; rw [if_neg (by omega), if_neg (by omega), if_neg (by omega), if_pos hb]
    · unfold lab0; rw [if_pos rfl]
    · unfold lab0; rw [if_neg (by omega), if_pos rfl]
    · have := (hlab b hb).2; simp; omega
  · exact ⟨List.Pairwise.nil, fun t id h => h.elim, fun t n h => (by simp at h), fun t t' n h => (by simp at h), fun n l h => (by cases h), fun t n h => (by simp at h), ⟨Int.le_refl _, Int.le_refl _⟩, Nat.le_refl _, fun t n h => by simp at h⟩
  · exact ⟨fun id l h => (by cases h), fun id _ t h => h⟩
set_option maxHeartbeats 4000000 in
set_option maxRecDepth 100000 in
theorem pnew_any (w : World) (base : Nat) (hb : base ≤ w.heap.size) :
    Calls Try.prog 29 #[] w fun e w' => ∃ pb F, e = .returned (.pointer (some ⟨pb, 0, none⟩)) ∧ PAt w' base pb (fun _ _ => False) 0 F ∧ Upd (fun _ => False) w w' ∧ ∀ b, F b → w.heap.size ≤ b := by
  have NW := Lib.hid (radNew_any w base hb)
  go_enter Try.func29, Try.ntmps29
  go_wp2_with fail
  refine (NW.out).mono ?_
  rintro e w1 ⟨xb, E, rfl, t1, u1, f1⟩
  have T1 := Lib.hid t1
  have U1 := Lib.hid u1
  have F1 := Lib.hid f1
  have mk := run_makeMap (P := Try.prog) 59 w1
  have mk2 := run_makeMap (P := Try.prog) 60 (w1.alloc (.map #[] 0))
  clear NW t1 u1 f1
  go_wp2
  go_ret
  have ua : Upd (fun _ => False) w1 (w1.alloc (.map #[] 0)) := (Upd.refl _ _).alloc _
  have ub := ua.alloc (.map #[] 0)
  have uc := ub.alloc (.cells #[.pointer (some ⟨xb, 0, none⟩), .map (some w1.heap.size), .int .i64 0, .map (some (w1.heap.size + 1))] 62)
  have us := U1.out.size
  obtain ⟨p1, p2⟩ := pnew_at hb T1.out us F1.out
  exact ⟨_, _, rfl, p1, U1.out.trans uc (fun _ _ h => h), p2⟩
theorem two_row {w : World} {b : Nat} {x y : Int} (h : Blk w b [.int .i64 x, .int .i64 y] 3) : RowOf intc 1 w (.slice (some ⟨b, 0, none⟩) 2 2) [x, y] :=
  Or.inr ⟨b, 0, 2, rfl, h.lt, by show 2 ≤ maxLen; unfold maxLen; omega, fun i a hi j hj => by
    obtain rfl : j = 0 := by omega
    match i, hi with
    | 0, hi => simp at hi; subst hi; exact h.cellAt rfl
    | 1, hi => simp at hi; subst hi; exact h.cellAt rfl⟩
set_option maxHeartbeats 4000000 in
set_option maxRecDepth 100000 in
theorem alive15_any (w : World) : Calls Try.prog 28 #[] w fun e w' => e = .returned (.bool true) ∧ Upd (fun _ => False) w w' := by
  have NW := Lib.hid (pnew_any w w.heap.size (Nat.le_refl _))
  go_enter Try.func28, Try.ntmps28
  go_wp2_with fail
  refine (NW.out).mono ?_
  rintro e w1 ⟨pb, F, rfl, h1, u1, f1⟩
  have A1 := padd_any h1 [117, 115, 101, 114, 58] 2 (by decide) (by decide)
  rw [show ofL [117, 115, 101, 114, 58] = ⟨#[117, 115, 101, 114, 58]⟩ from rfl] at A1
  have A1 := Lib.hid A1
  have U1 := Lib.hid u1
  have F1 := Lib.hid f1
  clear h1 u1 f1 NW
  go_wp2_with fail
  refine (A1.out).mono ?_
  rintro e w2 ⟨(⟨rfl, hf⟩ | ⟨rfl, _⟩), F2, h2, u2, f2⟩
  · exact absurd hf id
  have A2 := padd_any h2 [] 1 (by decide) (by decide)
  rw [show ofL [] = ⟨#[]⟩ from rfl] at A2
  have A2 := Lib.hid A2
  have U2 := Lib.hid (U1.out.trans u2 (fun k hk e => by have := F1.out k e; omega))
  have F2' : Hid (∀ k, F2 k → w.heap.size ≤ k) := fun k hk => (f2 k hk).elim (F1.out k) (fun g => Nat.le_trans U1.out.size g)
  clear h2 u2 f2 A1
  go_wp2_with fail
  refine (A2.out).mono ?_
  rintro e w3 ⟨(⟨rfl, hf⟩ | ⟨rfl, _⟩), F3, h3, u3, f3⟩
  · simp at hf
  have MA := pmatch_any h3 [117, 115, 101, 114, 58, 55] (by decide) (by decide)
  rw [show ofL [117, 115, 101, 114, 58, 55] = ⟨#[117, 115, 101, 114, 58, 55]⟩ from rfl] at MA
  have MA := Lib.hid MA
  have U3 := Lib.hid (U2.out.trans u3 (fun k hk e => by have := F2'.out k e; omega))
  have H3 := Lib.hid h3
  clear h3 u3 f3 A2
  go_wp2_with fail
  refine (MA.out).mono ?_
  rintro e w4 ⟨v4, l4, rfl, i4, r4, m4, u4⟩
  have e4 : l4 = [1, 2] := rising_ext r4 (by simp) (fun x => by
    rw [m4]
    constructor
    · rintro ⟨t, _, (h | h) | h⟩
      · exact h.elim
      · simp [h.2]
      · simp [h.2]
    · intro h
      simp at h
      rcases h with rfl | rfl
      · exact ⟨[], by simp, Or.inr ⟨rfl, rfl⟩⟩
      · exact ⟨[117, 115, 101, 114, 58], ⟨[55], rfl⟩, Or.inl (Or.inr ⟨rfl, rfl⟩)⟩)
  subst e4
  have H4 := Lib.hid (H3.out.keep u4 (fun _ _ h => h))
  have U4 := Lib.hid (U3.out.trans u4 (fun _ _ h => h))
  have ua : Upd (fun _ => False) w4 (w4.alloc (.cells #[.int .i64 1, .int .i64 2] 3)) := (Upd.refl _ _).alloc _
  have SA := same14_any v4 _ [1, 2] [1, 2] (w4.alloc (.cells #[.int .i64 1, .int .i64 2] 3)) (i4.keep ua (fun _ _ h => h)).row (two_row (Blk.made w4 [.int .i64 1, .int .i64 2] _))
  rw [decide_eq_true rfl] at SA
  have SA := Lib.hid SA
  obtain ⟨p4, c4, ev4, _⟩ := own_slice i4
  subst ev4
  have UA := Lib.hid ua
  clear i4 u4 ua m4 r4 MA
  go_wp2_with fail
  refine (SA.out).mono ?_
  rintro e w5 ⟨rfl, q, rfl⟩
  obtain ⟨xb, L, E, c0, T, hL, K⟩ := (H4.out.keep (UA.out.drewN q) (fun _ _ h => h)).tree
  have LE := radLen_any _ _ xb L E T
  have hl2 : L.length = 2 := by
    have K2 : KeysOf (fun t i => (False ∨ t = [117, 115, 101, 114, 58] ∧ i = (2 : Int)) ∨ t = [] ∧ i = 1) [([], 0), ([117, 115, 101, 114, 58], 0)] := by
      refine ⟨by simp, fun t => ?_⟩
      constructor
      · rintro ⟨n, hn⟩
        simp at hn
        rcases hn with h | h
        · exact ⟨1, Or.inr ⟨h.1, rfl⟩⟩
        · exact ⟨2, Or.inl (Or.inr ⟨h.1, rfl⟩)⟩
      · rintro ⟨id, (h | h) | h⟩
        · exact h.elim
        · exact ⟨0, by simp [h.1]⟩
        · exact ⟨0, by simp [h.1]⟩
    have := congrArg List.length (K.len K2)
    simpa using this
  rw [hl2] at LE
  have LE := Lib.hid LE
  clear T K hL hl2 SA
  go_wp2_with fail
  refine (LE.out).mono ?_
  rintro e w6 ⟨rfl, rfl⟩
  go_wp2
  go_ret
  exact ⟨by first | rfl | simp, (U4.out.trans UA.out (fun _ _ h => h)).drewN q⟩
/-- At pb lies who is told of what; it takes no block of X, and none below base. -/
structure PSt (wr : World) (base pb : Nat) (X : Nat → Prop) (P : Txt → Int → Prop) (N : Nat) : Prop where
  ex : ∃ F, PAt wr base pb P N F ∧ ∀ b, F b → ¬ X b
  xlt : ∀ b, X b → b < wr.heap.size
  bl : base ≤ wr.heap.size
abbrev Fr (base : Nat) (X : Nat → Prop) : Nat → Prop := fun b => base ≤ b ∧ ¬ X b
section
variable {wr w' : World} {base pb : Nat} {X Y : Nat → Prop} {P Q : Txt → Int → Prop} {N : Nat}
theorem PSt.keep0 (h : PSt wr base pb X P N) (u : Upd (fun _ => False) wr w') : PSt w' base pb X P N := by
  obtain ⟨F, h1, h2⟩ := h.ex
  exact ⟨⟨F, h1.keep u (fun _ _ h => h), h2⟩, fun b hb => Nat.lt_of_lt_of_le (h.xlt b hb) u.size, Nat.le_trans h.bl u.size⟩
/-- What writes in X alone. -/
theorem PSt.keepX (h : PSt wr base pb X P N) (u : Upd X wr w') : PSt w' base pb X P N := by
  obtain ⟨F, h1, h2⟩ := h.ex
  exact ⟨⟨F, h1.keep u (fun b hb hx => h2 b hb hx), h2⟩, fun b hb => Nat.lt_of_lt_of_le (h.xlt b hb) u.size, Nat.le_trans h.bl u.size⟩
theorem PSt.less (h : PSt wr base pb X P N) (hY : ∀ b, Y b → X b) : PSt wr base pb Y P N := by
  obtain ⟨F, h1, h2⟩ := h.ex
  exact ⟨⟨F, h1, fun b hb hy => h2 b hb (hY b hy)⟩, fun b hb => h.xlt b (hY b hb), h.bl⟩
theorem PSt.congr (h : PSt wr base pb X P N) (e : ∀ t i, P t i ↔ Q t i) : PSt wr base pb X Q N := by
  obtain ⟨F, h1, h2⟩ := h.ex; exact ⟨⟨F, h1.congr e, h2⟩, h.xlt, h.bl⟩
theorem PSt.more (h : PSt wr base pb X P N) {M : Nat} (hm : N ≤ M) : PSt wr base pb X P M := by
  obtain ⟨F, h1, h2⟩ := h.ex; exact ⟨⟨F, h1.more hm, h2⟩, h.xlt, h.bl⟩
/-- Blocks that came since are nobody's. -/
theorem PSt.also (h : PSt wr base pb X P N) (u : Upd (fun _ => False) wr w') (hY : ∀ b, Y b → X b ∨ (wr.heap.size ≤ b ∧ b < w'.heap.size)) : PSt w' base pb Y P N := by
  obtain ⟨F, h1, h2⟩ := h.ex
  refine ⟨⟨F, h1.keep u (fun _ _ h => h), fun b hb hy => ?_⟩, fun b hb => ?_, Nat.le_trans h.bl u.size⟩
  · rcases hY b hy with g | g
    · exact h2 b hb g
    · have := (h1.lt b hb).2; omega
  · rcases hY b hb with g | g
    · exact Nat.lt_of_lt_of_le (h.xlt b g) u.size
    · exact g.2
theorem PSt.add (h : PSt wr base pb X P N) (s : Txt) (id : Int) (hN : N ≤ 1000) (hs : s.length ≤ 9223372036854775807) :
    Calls Try.prog 30 #[.pointer (some ⟨pb, 0, none⟩), .string (ofL s), .int .i64 id] wr fun e w' => ((e = .returned (.bool false) ∧ P s id) ∨ (e = .returned (.bool true) ∧ ¬ P s id)) ∧
      PSt w' base pb X (fun t i => P t i ∨ t = s ∧ i = id) (N + 1) ∧ Upd (Fr base X) wr w' := by
  obtain ⟨F, h1, h2⟩ := h.ex
  refine (padd_any h1 s id hN hs).mono ?_
  rintro e w' ⟨he, F', h3, u, f⟩
  exact ⟨he, ⟨⟨F', h3, fun b hb hx => (f b hb).elim (fun g => h2 b g hx) (fun g => by have := h.xlt b hx; omega)⟩, fun b hb => Nat.lt_of_lt_of_le (h.xlt b hb) u.size, Nat.le_trans h.bl u.size⟩, u.weaken (fun b _ hb => ⟨(h1.lt b hb).1, h2 b hb⟩)⟩
theorem PSt.drop (h : PSt wr base pb X P N) (id : Int) (hN : N ≤ 1000) :
    Calls Try.prog 35 #[.pointer (some ⟨pb, 0, none⟩), .int .i64 id] wr fun e w' => ∃ l : List Txt, e = .returned (.int .i64 (l.length : Int)) ∧ Rising l ∧ (∀ t, t ∈ l ↔ P t id) ∧
      PSt w' base pb X (fun t i => P t i ∧ i ≠ id) N ∧ Upd (Fr base X) wr w' := by
  obtain ⟨F, h1, h2⟩ := h.ex
  refine (pdrop_any h1 id hN).mono ?_
  rintro e w' ⟨l, he, hr, hm, F', h3, u, f⟩
  exact ⟨l, he, hr, hm, ⟨⟨F', h3, fun b hb hx => (f b hb).elim (fun g => h2 b g hx) (fun g => by have := h.xlt b hx; omega)⟩, fun b hb => Nat.lt_of_lt_of_le (h.xlt b hb) u.size, Nat.le_trans h.bl u.size⟩, u.weaken (fun b _ hb => ⟨(h1.lt b hb).1, h2 b hb⟩)⟩
theorem PSt.match_ (h : PSt wr base pb X P N) (key : Txt) (hN : N ≤ 900) (hk : key.length ≤ 1000000) :
    Calls Try.prog 31 #[.pointer (some ⟨pb, 0, none⟩), .string (ofL key)] wr fun e w' => ∃ v l, e = .returned v ∧ IntsAt w' wr.heap.size v l ∧ Rising l ∧ (∀ id, id ∈ l ↔ ∃ t, t <+: key ∧ P t id) ∧ Upd (fun _ => False) wr w' := by
  obtain ⟨F, h1, h2⟩ := h.ex
  exact pmatch_any h1 key hN hk
theorem PSt.of (h : PSt wr base pb X P N) (id : Int) (hN : N ≤ 900) :
    Calls Try.prog 39 #[.pointer (some ⟨pb, 0, none⟩), .int .i64 id] wr fun e w' => ∃ v l, e = .returned v ∧ TxtsAt w' wr.heap.size v l ∧ Rising l ∧ (∀ t, t ∈ l ↔ P t id) ∧ Upd (fun _ => False) wr w' := by
  obtain ⟨F, h1, h2⟩ := h.ex
  exact pof_any h1 id hN
theorem PSt.tree (h : PSt wr base pb X P N) : ∃ xb L E, wr.cell? ⟨pb, 0, none⟩ = some (.pointer (some ⟨xb, 0, none⟩)) ∧ TreeAt wr base xb L E ∧ L.length ≤ N ∧ KeysOf P L := by
  obtain ⟨F, h1, h2⟩ := h.ex
  exact h1.tree
end
/-- A number of a row of numbers. -/
theorem ints_get {w : World} {base : Nat} {p : Option Addr} {c : Nat} {l : List Int} (h : IntsAt w base (.slice p l.length c) l) {k : Nat} (hk : k < l.length) :
    ∃ g, p = some ⟨g, 0, none⟩ ∧ g < w.heap.size ∧ w.cell? ⟨g, k, none⟩ = some (.int .i64 l[k]) := by
  rcases ints_blk h with ⟨_, e0⟩ | ⟨g, cap, cs, ev, hg, hB, hc, hm⟩
  · rw [e0] at hk; simp at hk
  · refine ⟨g, by injection ev, hB.lt, hB.cellAt ?_⟩
    rw [List.getElem?_append_left (by simpa using hk), List.getElem?_map, List.getElem?_eq_getElem hk]; rfl
end Go.Proofs.Ytnlbmplbaalgmaa
