/- Keys that share their beginnings: Walk, Above, Over, Nodes over trees. -/
import Derived.Test.YtnlbmplbaalgmaaRadW
import Derived.Test.YtnlbmplbaalgmaaRadN
set_option linter.unusedVariables false
set_option linter.unusedSimpArgs false
namespace Go.Proofs.Ytnlbmplbaalgmaa
open Go.RowKit

theorem max_of {α : Type} (f : α → Nat) : ∀ {l : List α}, l ≠ [] → ∃ c ∈ l, ∀ d ∈ l, f d ≤ f c
  | [a], _ => ⟨a, List.mem_cons_self .., fun d hd => by simp at hd; rw [hd]; exact Nat.le_refl _⟩
  | a :: b :: l, _ => by
    obtain ⟨c, hc, h⟩ := max_of f (l := b :: l) (by simp)
    by_cases hx : f c ≤ f a
    · refine ⟨a, List.mem_cons_self .., fun d hd => ?_⟩
      rcases List.mem_cons.1 hd with e | hd
      · rw [e]; exact Nat.le_refl _
      · exact Nat.le_trans (h d hd) hx
    · refine ⟨c, List.mem_cons_of_mem _ hc, fun d hd => ?_⟩
      rcases List.mem_cons.1 hd with e | hd
      · rw [e]; omega
      · exact h d hd
section
variable {r : Nat} {bs : List Nat} {G : Nat → Nd} {T : Nat → Txt} {L : List MarkP}
/-- Below each node but the root a mark stands. -/
theorem Flat.below (h : Flat r bs G T) (hn : Need r bs G) {d : Nat} (hd : d ∈ bs) (hr : d ≠ r) : ∃ c ∈ bs, T d <+: T c ∧ (G c).there = true := by
  obtain ⟨c, hc, hmax⟩ := max_of (fun c => (T c).length) (l := bs.filter fun c => (T d).isPrefixOf (T c)) (List.ne_nil_of_mem (a := d) (List.mem_filter.2 ⟨hd, by rw [List.isPrefixOf_iff_prefix]; exact List.prefix_refl _⟩))
  rw [List.mem_filter, List.isPrefixOf_iff_prefix] at hc
  refine ⟨c, hc.1, hc.2, ?_⟩
  have hcr : c ≠ r := by
    rintro rfl
    rw [h.troot] at hc
    have e : T d = [] := List.prefix_nil.1 hc.2
    exact hr (h.inj hd hc.1 (by rw [e, h.troot]))
  rcases hn c hc.1 hcr with e | e
  · exact e
  · obtain ⟨z, hz⟩ : ∃ z, z ∈ (G c).kids := List.exists_mem_of_length_pos (by omega)
    have h1 := h.kid_len hc.1 hz
    have h2 := hmax z (List.mem_filter.2 ⟨(h.kid c hc.1 z hz).1, by rw [List.isPrefixOf_iff_prefix]; exact List.IsPrefix.trans hc.2 (h.kid_pre hc.1 hz)⟩)
    omega
theorem Marks.over (hm : Marks bs G T L) (h : Flat r bs G T) (hn : Need r bs G) (k : Txt) : (L ≠ [] ∧ ∃ d ∈ bs, k <+: T d) ↔ walkL L k ≠ [] := by
  constructor
  · rintro ⟨hL, d, hd, hp⟩
    by_cases e : d = r
    · subst e
      rw [h.troot] at hp
      have : k = [] := List.prefix_nil.1 hp
      subst this
      obtain ⟨m, hm'⟩ := List.exists_mem_of_ne_nil _ hL
      refine List.ne_nil_of_mem (a := m) ?_
      unfold walkL; rw [List.mem_filter]; exact ⟨hm', by simp⟩
    · obtain ⟨c, hc, pc, tc⟩ := h.below hn hd e
      refine List.ne_nil_of_mem (a := (T c, (G c).n)) ?_
      unfold walkL; rw [List.mem_filter]
      exact ⟨(hm.mem _ _).2 ⟨c, hc, rfl, tc, rfl⟩, by simpa using List.IsPrefix.trans hp pc⟩
  · intro hw
    obtain ⟨m, hm'⟩ := List.exists_mem_of_ne_nil _ hw
    unfold walkL at hm'; rw [List.mem_filter] at hm'
    obtain ⟨c, hc, e, _⟩ := (hm.mem m.1 m.2).1 hm'.1
    exact ⟨List.ne_nil_of_mem hm'.1, c, hc, by rw [e]; simpa using hm'.2⟩
end
def overB (L : List MarkP) (k : Txt) : Bool := decide (walkL L k ≠ [] ∨ aboveL L k ≠ [])
section
variable {w w' : World} {base xa : Nat} {bs : List Nat} {G : Nat → Nd} {T : Nat → Txt} {row : Nat → Value} {many : Int} {L : List MarkP}
theorem bs_few (h : Flat xa bs G T) (hn : Need xa bs G) (hm : Marks bs G T L) : bs.length ≤ 2 * L.length + 1 := by
  obtain ⟨S, hp, hs⟩ := h.sort_ex
  have e : L.length = (bs.filter fun b => (G b).there).length := by
    rw [← hm.all hp hs]; unfold mksOf
    rw [List.length_map]; exact (hp.filter _).length_eq
  rw [e]; exact h.count hn
set_option maxHeartbeats 8000000 in
set_option maxRecDepth 100000 in
theorem over_raw (h : RadR w base xa bs G T row (L.length : Int)) (hm : Marks bs G T L) (hn : Need xa bs G) (hL : L.length ≤ 1000000) (key : Txt) (hk : key.length ≤ 1000000) :
    Calls Try.prog 14 #[.pointer (some ⟨xa, 0, none⟩), .string (ofL key)] w fun e w' => e = .returned (.bool (overB L key)) ∧ Upd (fun _ => False) w w' := by
  have OV := Lib.hid (hm.over h.flat hn key)
  have UN := Lib.hid (under_any h key hk)
  have H := Lib.hid h
  have HM := Lib.hid hm
  have AB : Hid (∀ v, Upd (fun _ => False) w v → Calls Try.prog 15 #[.pointer (some ⟨xa, 0, none⟩), .string (ofL key)] v fun e w' => ∃ u, e = .returned u ∧ MarksAt w' v.heap.size u (aboveL L key) ∧ Upd (fun _ => False) v w') := fun v u => above_raw (h.keep0 u) hm hL key hk
  clear h hm
  generalize hsk : ofL key = sk at *
  clear hsk
  go_enter Try.func14, Try.ntmps14
  go_wp2_with fail
  refine UN.out.mono ?_
  rintro e w1 ⟨u, hres⟩
  have c4 : w1.cell? ⟨xa, 4, none⟩ = some (.int .i64 (L.length : Int)) := (H.out.keep0 u).x.cellAt rfl
  have hxl := (H.out.keep0 u).lt H.out.flat.root
  have U1 := Lib.hid u
  rcases hres with ⟨x, hx, hpx, rfl⟩ | ⟨hno, rfl⟩
  · have HE := Lib.hid (show ∃ d ∈ bs, key <+: T d from ⟨x, hx, (hpx x hx).2 (List.prefix_refl _)⟩)
    clear hx hpx UN u
    generalize ofL (T x) = sx at *
    by_cases h0 : L = []
    · have R : Hid (overB L key = decide (aboveL L key ≠ [])) := by
        unfold overB
        show _ = _
        refine decide_eq_decide.2 ⟨fun g => g.elim (fun g => absurd h0 ((OV.out.2 g).1)) id, Or.inr⟩
      have q0 : ¬ ((0 : Int) < (L.length : Int)) := by rw [h0]; simp
      generalize (L.length : Int) = nL at *
      clear h0
      go_wp2_with fail
      refine (AB.out _ (by first | exact U1.out.alloc _ | exact (U1.out.alloc _).alloc _)).mono ?_
      rintro e w2 ⟨v, rfl, hv, u2⟩
      have U2 := Lib.hid ((U1.out.alloc _).trans u2 (fun _ _ h => h))
      obtain ⟨pv, cv, ev, _⟩ := own_slice hv
      subst ev
      clear hv u2
      by_cases ha : aboveL L key = []
      · have e0 : (aboveL L key).length = 0 := by rw [ha]; rfl
        have RR : Hid (overB L key = false) := by rw [R.out, ha]; rfl
        generalize (aboveL L key).length = na at *
        subst e0
        go_wp2
        go_ret
        exact ⟨by rw [RR.out]; rfl, U2.out⟩
      · have q1 : (0 : Int) < ((aboveL L key).length : Int) := by have := List.length_pos_iff.2 ha; omega
        have RR : Hid (overB L key = true) := by rw [R.out]; exact decide_eq_true ha
        generalize (aboveL L key).length = na at *
        clear ha
        have q2 : 0 < na := by omega
        go_wp2
        go_ret
        exact ⟨by rw [RR.out]; first | rfl | (show Ending.returned (.bool (decide (0 < na))) = _; rw [decide_eq_true q2]), U2.out⟩
    · have R : Hid (overB L key = true) := by unfold overB; exact decide_eq_true (Or.inl (OV.out.1 ⟨h0, HE.out⟩))
      have q0 : (0 : Int) < (L.length : Int) := by have := List.length_pos_iff.2 h0; omega
      generalize (L.length : Int) = nL at *
      clear h0
      go_wp2
      go_ret
      exact ⟨by rw [R.out]; rfl, U1.out.alloc _⟩
  · have R : Hid (overB L key = decide (aboveL L key ≠ [])) := by
      unfold overB
      show _ = _
      refine decide_eq_decide.2 ⟨fun g => g.elim (fun g => ?_) id, Or.inr⟩
      obtain ⟨_, d, hd, hp⟩ := OV.out.2 g
      exact absurd hp (hno d hd)
    clear hno UN u
    by_cases h0 : L = []
    · have q0 : ¬ ((0 : Int) < (L.length : Int)) := by rw [h0]; simp
      generalize (L.length : Int) = nL at *
      clear h0
      go_wp2_with fail
      refine (AB.out _ (by first | exact U1.out.alloc _ | exact (U1.out.alloc _).alloc _)).mono ?_
      rintro e w2 ⟨v, rfl, hv, u2⟩
      have U2 := Lib.hid ((U1.out.alloc _).trans u2 (fun _ _ h => h))
      obtain ⟨pv, cv, ev, _⟩ := own_slice hv
      subst ev
      clear hv u2
      by_cases ha : aboveL L key = []
      · have e0 : (aboveL L key).length = 0 := by rw [ha]; rfl
        have RR : Hid (overB L key = false) := by rw [R.out, ha]; rfl
        generalize (aboveL L key).length = na at *
        subst e0
        go_wp2
        go_ret
        exact ⟨by rw [RR.out]; rfl, U2.out⟩
      · have q1 : (0 : Int) < ((aboveL L key).length : Int) := by have := List.length_pos_iff.2 ha; omega
        have RR : Hid (overB L key = true) := by rw [R.out]; exact decide_eq_true ha
        generalize (aboveL L key).length = na at *
        clear ha
        have q2 : 0 < na := by omega
        go_wp2
        go_ret
        exact ⟨by rw [RR.out]; first | rfl | (show Ending.returned (.bool (decide (0 < na))) = _; rw [decide_eq_true q2]), U2.out⟩
    · have q0 : (0 : Int) < (L.length : Int) := by have := List.length_pos_iff.2 h0; omega
      generalize (L.length : Int) = nL at *
      clear h0
      go_wp2_with fail
      refine (AB.out _ (by first | exact U1.out.alloc _ | exact (U1.out.alloc _).alloc _)).mono ?_
      rintro e w2 ⟨v, rfl, hv, u2⟩
      have U2 := Lib.hid ((U1.out.alloc _).trans u2 (fun _ _ h => h))
      obtain ⟨pv, cv, ev, _⟩ := own_slice hv
      subst ev
      clear hv u2
      by_cases ha : aboveL L key = []
      · have e0 : (aboveL L key).length = 0 := by rw [ha]; rfl
        have RR : Hid (overB L key = false) := by rw [R.out, ha]; rfl
        generalize (aboveL L key).length = na at *
        subst e0
        go_wp2
        go_ret
        exact ⟨by rw [RR.out]; rfl, U2.out⟩
      · have q1 : (0 : Int) < ((aboveL L key).length : Int) := by have := List.length_pos_iff.2 ha; omega
        have RR : Hid (overB L key = true) := by rw [R.out]; exact decide_eq_true ha
        generalize (aboveL L key).length = na at *
        clear ha
        have q2 : 0 < na := by omega
        go_wp2
        go_ret
        exact ⟨by rw [RR.out]; first | rfl | (show Ending.returned (.bool (decide (0 < na))) = _; rw [decide_eq_true q2]), U2.out⟩
theorem radGet_big (w : World) (base xa : Nat) (L : List MarkP) (E : Nat → Prop) (key : Txt) (h : TreeAt w base xa L E) (hL : L.length ≤ 1000000) (hk : key.length ≤ 9223372036854775807) :
    Calls Try.prog 18 #[.pointer (some ⟨xa, 0, none⟩), .string (ofL key)] w fun e w' => e = .returned (.tuple #[.int .i64 (getL L key).1, .bool (getL L key).2]) ∧ Upd (fun _ => False) w w' := by
  obtain ⟨bs, G, T, row, h1, h2, h3, h4, rfl⟩ := h
  exact radGet_raw w base xa L key h1 h3 hk (h1.flat.way_few (Nat.le_trans (bs_few h1.flat h2 h3) (by omega)) key)
theorem radOver_any (w : World) (base xa : Nat) (L : List MarkP) (E : Nat → Prop) (h : TreeAt w base xa L E) (hL : L.length ≤ 100000) (key : Txt) (hk : key.length ≤ 1000000) :
    Calls Try.prog 14 #[.pointer (some ⟨xa, 0, none⟩), .string (ofL key)] w fun e w' => e = .returned (.bool (overB L key)) ∧ Upd (fun _ => False) w w' := by
  obtain ⟨bs, G, T, row, h1, h2, h3, h4, rfl⟩ := h
  exact over_raw h1 h3 h2 (by omega) key hk
theorem radAbove_any (w : World) (base xa : Nat) (L : List MarkP) (E : Nat → Prop) (h : TreeAt w base xa L E) (hL : L.length ≤ 100000) (key : Txt) (hk : key.length ≤ 1000000) :
    Calls Try.prog 15 #[.pointer (some ⟨xa, 0, none⟩), .string (ofL key)] w fun e w' => ∃ v, e = .returned v ∧ MarksAt w' w.heap.size v (aboveL L key) ∧ Upd (fun _ => False) w w' := by
  obtain ⟨bs, G, T, row, h1, h2, h3, h4, rfl⟩ := h
  exact above_raw h1 h3 (by omega) key hk
theorem radWalk_any (w : World) (base xa : Nat) (L : List MarkP) (E : Nat → Prop) (h : TreeAt w base xa L E) (hL : L.length ≤ 100000) (key : Txt) (hk : key.length ≤ 1000000) :
    Calls Try.prog 13 #[.pointer (some ⟨xa, 0, none⟩), .string (ofL key)] w fun e w' => ∃ v, e = .returned v ∧ MarksAt w' w.heap.size v (walkL L key) ∧ Upd (fun _ => False) w w' := by
  obtain ⟨bs, G, T, row, h1, h2, h3, h4, rfl⟩ := h
  exact walk_raw h1 h3 (by omega) (by have := bs_few h1.flat h2 h3; omega) key hk
/-- How many nodes: the texts at which one stands or two part, and the root. -/
def NodesN (L : List MarkP) (n : Nat) : Prop := ∃ l : List Txt, l.Nodup ∧ l.length = n ∧ ∀ t, t ∈ l ↔ t = [] ∨ (∃ a ∈ L, a.1 = t) ∨ (∃ a ∈ L, ∃ b ∈ L, lcp a.1 b.1 = t)
theorem NodesN.uniq {L : List MarkP} {n m : Nat} (h1 : NodesN L n) (h2 : NodesN L m) : n = m := by
  obtain ⟨l1, n1, rfl, m1⟩ := h1
  obtain ⟨l2, n2, rfl, m2⟩ := h2
  exact ((List.perm_ext_iff_of_nodup n1 n2).2 fun t => (m1 t).trans (m2 t).symm).length_eq
theorem Marks.nodes (hm : Marks bs G T L) (h : Flat xa bs G T) (hn : Need xa bs G) : NodesN L bs.length := by
  refine ⟨bs.map T, ?_, by simp, fun t => ?_⟩
  · unfold List.Nodup
    rw [List.pairwise_map]
    refine List.Pairwise.imp_of_mem (fun {a b} ha hb ne e => ne (h.inj ha hb e)) h.nodup
  · rw [h.texts_mem hn]
    have e1 : ∀ t, (∃ b ∈ bs, (G b).there = true ∧ T b = t) ↔ ∃ a ∈ L, a.1 = t := fun t => by
      constructor
      · rintro ⟨b, hb, tb, e⟩; exact ⟨(T b, (G b).n), (hm.mem _ _).2 ⟨b, hb, rfl, tb, rfl⟩, e⟩
      · rintro ⟨a, ha, e⟩
        obtain ⟨b, hb, e2, tb, _⟩ := (hm.mem a.1 a.2).1 ha
        exact ⟨b, hb, tb, e2.trans e⟩
    rw [e1]
    refine or_congr Iff.rfl (or_congr Iff.rfl ?_)
    constructor
    · rintro ⟨a, ha, b, hb, ta, tb, e⟩
      exact ⟨(T a, (G a).n), (hm.mem _ _).2 ⟨a, ha, rfl, ta, rfl⟩, (T b, (G b).n), (hm.mem _ _).2 ⟨b, hb, rfl, tb, rfl⟩, e⟩
    · rintro ⟨a, ha, b, hb, e⟩
      obtain ⟨c, hc, ec, tc, _⟩ := (hm.mem a.1 a.2).1 ha
      obtain ⟨d, hd, ed, td, _⟩ := (hm.mem b.1 b.2).1 hb
      exact ⟨c, hc, d, hd, tc, td, by rw [ec, ed]; exact e⟩
theorem radNodes_any (w : World) (base xa : Nat) (L : List MarkP) (E : Nat → Prop) (h : TreeAt w base xa L E) (hL : L.length ≤ 100000) :
    Calls Try.prog 16 #[.pointer (some ⟨xa, 0, none⟩)] w fun e w' => ∃ n : Nat, e = .returned (.int .i64 (n : Int)) ∧ NodesN L n ∧ n ≤ 2 * L.length + 1 ∧ Upd (fun _ => False) w w' := by
  obtain ⟨bs, G, T, row, h1, h2, h3, h4, rfl⟩ := h
  have hb := bs_few h1.flat h2 h3
  refine (nodes_raw h1 (by omega)).mono ?_
  rintro e w' ⟨rfl, u⟩
  exact ⟨_, rfl, h3.nodes h1.flat h2, hb, u⟩
end
end Go.Proofs.Ytnlbmplbaalgmaa
