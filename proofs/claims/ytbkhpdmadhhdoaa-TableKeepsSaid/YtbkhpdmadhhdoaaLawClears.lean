/- TableClears, walked: two tables side by side. -/
import Derived.Test.YtbkhpdmadhhdoaaActs08
import Derived.Test.YtbkhpdmadhhdoaaSame06
import Derived.Test.YtbkhpdmadhhdoaaTabK
import Derived.Deep.RegionHeld3
import Derived.Deep.DeepCutAuto
set_option linter.unusedVariables false
set_option linter.unusedSimpArgs false
namespace Go.Proofs.Ytbkhpdmadhhdoaa
open Go.RowKit
open Tbl (Tab)

/-- Two tables, a and b, apart from each other and from block c, all their blocks new since w. -/
structure Two (w w' : World) (a b : Nat) (t u : Tab) (m n c : Nat) : Prop where
  at' : ∃ bo bf co cf, TabAt w' a bo bf t ∧ TabAt w' b co cf u ∧ (∀ i, tabF a bo bf t i → w.heap.size ≤ i ∧ ¬ tabF b co cf u i ∧ i ≠ c) ∧ (∀ i, tabF b co cf u i → w.heap.size ≤ i ∧ i ≠ c)
  i1 : t.Inv m
  i2 : u.Inv n
  upd : Upd (fun _ => False) w w'

theorem Two.symm {w w' : World} {a b m n c : Nat} {t u : Tab} (h : Two w w' a b t u m n c) : Two w w' b a u t n m c := by
  obtain ⟨bo, bf, co, cf, h1, h2, h3, h4⟩ := h.at'
  exact ⟨⟨co, cf, bo, bf, h2, h1, fun i hi => ⟨(h4 i hi).1, fun hh => (h3 i hh).2.1 hi, (h4 i hi).2⟩, fun i hi => ⟨(h3 i hi).1, (h3 i hi).2.2⟩⟩, h.i2, h.i1, h.upd⟩
theorem Two.keep {w w' w2 : World} {a b m n c : Nat} {t u : Tab} (h : Two w w' a b t u m n c) (k : Upd (fun _ => False) w' w2) : Two w w2 a b t u m n c := by
  obtain ⟨bo, bf, co, cf, h1, h2, h3, h4⟩ := h.at'
  exact ⟨⟨bo, bf, co, cf, h1.keep k (fun _ _ => id), h2.keep k (fun _ _ => id), h3, h4⟩, h.i1, h.i2, h.upd.trans k (fun _ _ h => h)⟩
theorem Two.recent {w w' : World} {a b m n c : Nat} {t u : Tab} (h : Two w w' a b t u m n c) (o : Obj) : Two w (w'.alloc o) a b t u m n w'.heap.size := by
  have k : Upd (fun _ => False) w' (w'.alloc o) := (Upd.refl _ _).alloc _
  obtain ⟨bo, bf, co, cf, h1, h2, h3, h4⟩ := h.at'
  exact ⟨⟨bo, bf, co, cf, h1.keep k (fun _ _ => id), h2.keep k (fun _ _ => id), fun i hi => ⟨(h3 i hi).1, (h3 i hi).2.1, fun e => by have := h1.lt i hi; omega⟩, fun i hi => ⟨(h4 i hi).1, fun e => by have := h2.lt i hi; omega⟩⟩, h.i1, h.i2, h.upd.trans k (fun _ _ h => h)⟩
theorem Two.to {w w1 w2 : World} {a b m n c m' : Nat} {t u t' : Tab} (h : Two w w1 a b t u m n c) (hc : c < w1.heap.size) {bo bf co cf : Nat} (h1 : TabAt w1 a bo bf t) (h2 : TabAt w1 b co cf u)
    (h3 : ∀ i, tabF a bo bf t i → w.heap.size ≤ i ∧ ¬ tabF b co cf u i ∧ i ≠ c) (h4 : ∀ i, tabF b co cf u i → w.heap.size ≤ i ∧ i ≠ c) (k : TabTo w1 w2 a bo bf t t') (hi : t'.Inv m') :
    Two w w2 a b t' u m' n c ∧ w2.heap[c]? = w1.heap[c]? ∧ w1.heap.size ≤ w2.heap.size := by
  obtain ⟨bo', bf', k1, k2, k3⟩ := k
  refine ⟨⟨⟨bo', bf', co, cf, k1, h2.keep k2 (fun i hi hh => (h3 i hh).2.1 hi), fun i hi => ?_, h4⟩, hi, h.i2, h.upd.trans k2 (fun i hi hh => by have := (h3 i hh).1; omega)⟩, k2.block c hc (fun hh => (h3 c hh).2.2 rfl), k2.size⟩
  rcases k3 i hi with g | g
  · exact h3 i g
  · refine ⟨by have := h.upd.size; omega, fun hh => ?_, by omega⟩
    have := h2.lt i hh; omega

section
variable {w w' : World} {a b m n c : Nat} {t u : Tab}
theorem two_put (h : Two w w' a b t u m n c) (hc : c < w'.heap.size) (key : ByteArray) (x : Int) (hm : m ≤ 10000) (hk : key.size ≤ 100000) :
    Calls Try.prog 10 #[.pointer (some ⟨a, 0, none⟩), .string key, .int .i64 x] w' fun e w2 => e = .returned (.bool (t.put key x).2) ∧ Two w w2 a b (t.put key x).1 u (m + 1) n c ∧ w2.heap[c]? = w'.heap[c]? ∧ w'.heap.size ≤ w2.heap.size := by
  obtain ⟨bo, bf, co, cf, h1, h2, h3, h4⟩ := h.at'
  exact (tput_any m a bo bf t key x w' h1 h.i1 hm hk).mono fun e w2 ⟨e1, e2⟩ => ⟨e1, h.to hc h1 h2 h3 h4 e2 (Tbl.put_inv h.i1 key x hk)⟩
theorem two_clear (h : Two w w' a b t u m n c) :
    Calls Try.prog 16 #[.pointer (some ⟨a, 0, none⟩)] w' fun e w2 => e = .returned (.tuple #[]) ∧ Two w w2 a b Tab.new u 0 n w2.heap.size := by
  obtain ⟨bo, bf, co, cf, h1, h2, h3, h4⟩ := h.at'
  refine (clear_any a bo bf t w' h1).mono fun e w2 ⟨e1, e2⟩ => ⟨e1, ?_⟩
  obtain ⟨bo', bf', k1, k2, k3⟩ := e2
  have hb := h2.keep k2 (fun i hi hh => (h3 i hh).2.1 hi)
  refine ⟨⟨bo', bf', co, cf, k1, hb, fun i hi => ?_, fun i hi => ⟨(h4 i hi).1, fun e => by have := hb.lt i hi; omega⟩⟩, Tbl.inv_new 0, h.i2, h.upd.trans k2 (fun i hi hh => by have := (h3 i hh).1; omega)⟩
  have hl := k1.lt i hi
  rcases k3 i hi with g | g
  · exact ⟨(h3 i g).1, (h3 i g).2.1, by omega⟩
  · refine ⟨by have := h.upd.size; omega, fun hh => ?_, by omega⟩
    have := h2.lt i hh; omega
theorem two_len (h : Two w w' a b t u m n c) (hm : m ≤ 10000) :
    Calls Try.prog 12 #[.pointer (some ⟨a, 0, none⟩)] w' fun e w2 => e = .returned (.int .i64 t.len) ∧ ∃ k, w2 = w'.drewN k := by
  obtain ⟨bo, bf, co, cf, h1, h2, h3, h4⟩ := h.at'
  have := h.i1.of; have := h.i1.ff; have := h.i1.hi; have := h.i1.hi2
  exact len_any a bo bf t w' h1 (by omega) (by omega) (by omega) (by omega)
theorem two_room (h : Two w w' a b t u m n c) (hm : m ≤ 10000) :
    Calls Try.prog 11 #[.pointer (some ⟨a, 0, none⟩)] w' fun e w2 => e = .returned (.tuple #[.int .i64 (t.old.pl.length : Int), .int .i64 (t.fresh.pl.length : Int)]) ∧ ∃ k, w2 = w'.drewN k := by
  obtain ⟨bo, bf, co, cf, h1, h2, h3, h4⟩ := h.at'
  have := h.i1.hi; have := h.i1.hi2
  exact room_any a bo bf t w' h1 (by omega) (by omega)
theorem two_keys (h : Two w w' a b t u m n c) (hm : m ≤ 10000) :
    Calls Try.prog 17 #[.pointer (some ⟨a, 0, none⟩)] w' fun e w2 => ∃ v, e = .returned v ∧ StrsAt w2 w'.heap.size v (sortStr t.keysRaw) ∧ Two w w2 a b t u m n c ∧ Upd (fun _ => False) w' w2 := by
  obtain ⟨bo, bf, co, cf, h1, h2, h3, h4⟩ := h.at'
  exact (keys_any m a bo bf t w' h1 h.i1 hm).mono fun e w2 ⟨v, e1, e2, e3⟩ => ⟨v, e1, e2, h.keep e3, e3⟩
theorem Two.lt (h : Two w w' a b t u m n c) : a < w'.heap.size := by
  obtain ⟨bo, bf, co, cf, h1, h2, h3, h4⟩ := h.at'
  exact h1.blk.lt
end
theorem two_new {w w1 : World} (hu : Upd (fun _ => False) w w1) :
    Calls Try.prog 9 #[] w1 fun e w2 => ∃ a, e = .returned (.pointer (some ⟨a, 0, none⟩)) ∧
      Calls Try.prog 9 #[] w2 fun e w3 => ∃ b, e = .returned (.pointer (some ⟨b, 0, none⟩)) ∧ Two w w3 a b Tab.new Tab.new 0 0 w3.heap.size := by
  refine (new_any w1).mono ?_
  rintro e w2 ⟨a, F, rfl, ⟨bo, bf, h, rfl⟩, u2, hn⟩
  refine ⟨a, rfl, (new_any w2).mono ?_⟩
  rintro e w3 ⟨b, G, rfl, ⟨co, cf, k, rfl⟩, u3, kn⟩
  have hk := h.keep u3 (fun _ _ => id)
  refine ⟨b, rfl, ⟨⟨bo, bf, co, cf, hk, k, fun i hi => ⟨?_, fun hh => ?_, fun e => ?_⟩, fun i hi => ⟨?_, fun e => ?_⟩⟩, Tbl.inv_new 0, Tbl.inv_new 0, (hu.trans u2 (fun _ _ h => h)).trans u3 (fun _ _ h => h)⟩⟩
  · have := hn i hi; have := hu.size; omega
  · have := h.lt i hi; have := kn i hh; omega
  · have := hk.lt i hi; omega
  · have := kn i hi; have := hu.size; have := u2.size; omega
  · have := k.lt i hi; omega

def puts : List Act8 → Tab → Tab
  | [], t => t
  | a :: l, t => puts l (t.put a.key a.n).1
theorem puts_snoc (l : List Act8) (a : Act8) (t : Tab) : puts (l ++ [a]) t = ((puts l t).put a.key a.n).1 := by
  induction l generalizing t with
  | nil => rfl
  | cons x l ih => exact ih _

theorem great8_no {l : List Act8} (h : great8 l = false) : l.length ≤ 150 ∧ ∀ a ∈ l, a.key.size ≤ 100 := by
  unfold great8 at h
  simp only [Bool.or_eq_false_iff, decide_eq_false_iff_not, List.any_eq_false, decide_eq_true_eq] at h
  exact ⟨by omega, fun a ha => by have := h.2 a ha; omega⟩

set_option maxRecDepth 100000 in
set_option maxHeartbeats 4000000 in
theorem lawClears (v1 v2 : Value) (l1 l2 : List Act8) (w : World) (h1 : RowOf act8c 3 w v1 l1) (h2 : RowOf act8c 3 w v2 l2) (s1 : ∀ a ∈ l1, a.key.size ≤ maxLen) (s2 : ∀ a ∈ l2, a.key.size ≤ maxLen) :
    Calls Try.prog 5 #[v1, v2] w fun e w' => e = .returned (.bool true) ∧ Upd (fun _ => False) w w' := by
  obtain ⟨p1, k1, rfl, b1⟩ := h1.len
  obtain ⟨p2, k2, rfl, b2⟩ := h2.len
  have H1 := Lib.hid h1
  have H2 := Lib.hid h2
  have S1 := Lib.hid s1
  have S2 := Lib.hid s2
  clear h1 h2 s1 s2 b1 b2
  go_enter Try.func5, Try.ntmps5
  go_wp2_with fail
  refine (alive_any w).mono ?_
  rintro e w1 ⟨rfl, u1⟩
  have G1 := Lib.hid (great8_any _ l1 w1 (H1.out.keep u1 (fun _ _ _ => id)) S1.out)
  have U1 := Lib.hid u1
  clear u1
  go_wp2_with fail
  refine G1.out.mono ?_
  rintro e w2 ⟨rfl, u2⟩
  have U2 := Lib.hid (U1.out.trans u2 (fun _ _ h => h))
  clear u2 G1 U1
  cases hg1 : great8 l1
  · have G2 := Lib.hid (great8_any _ l2 w2 (H2.out.keep U2.out (fun _ _ _ => id)) S2.out)
    go_wp2_with fail
    refine G2.out.mono ?_
    rintro e w3 ⟨rfl, u3⟩
    have U3 := Lib.hid (U2.out.trans u3 (fun _ _ h => h))
    clear u3 G2 U2
    cases hg2 : great8 l2
    · obtain ⟨n1, z1⟩ := great8_no hg1
      obtain ⟨n2, z2⟩ := great8_no hg2
      have Z1 := Lib.hid z1
      have Z2 := Lib.hid z2
      clear z1 z2 hg1 hg2
      have N := Lib.hid (two_new U3.out)
      go_wp2_with fail
      refine N.out.mono ?_
      rintro e w4 ⟨a, rfl, hN⟩
      go_wp2_with fail
      refine hN.mono ?_
      rintro e w5 ⟨b, rfl, hT⟩
      have T := Lib.hid hT
      clear N hT
      go_wp2
      go_loopw [27] (fun x wr => ∃ k c : Nat, k ≤ l1.length ∧ x = .int .i64 (k : Int) ∧ Hid (Two w wr a b (puts (l1.take k) Tab.new) Tab.new k 0 c)) (fun x _ => l1.length - (intOf x).toNat)
      case atStart => exact ⟨0, _, by omega, rfl, T⟩
      case round =>
        obtain ⟨k, c, hk, rfl, T⟩ := hrel
        by_cases hlt : k < l1.length
        · obtain ⟨x, off, act, rfl, hb, ha, c0, c1, c2⟩ := act8_cells (H1.out.keep T.out.upd (fun _ _ _ => id)) hlt
          have hsz := Z1.out act (List.mem_of_getElem? ha)
          have HX : Hid (l1.take (k + 1) = l1.take k ++ [act]) := by
            obtain ⟨_, r1⟩ := List.getElem?_eq_some_iff.1 ha
            show l1.take (k + 1) = _
            rw [List.take_succ_eq_append_getElem hlt, r1]
          have P := Lib.hid (two_put (T.out.recent (.cells #[.int .i64 act.kind, .string act.key, .int .i64 act.n] 39)) (by simp) act.key act.n (by omega) (by omega))
          clear ha
          go_wp2_with fail
          refine P.out.mono ?_
          rintro e w6 ⟨rfl, hT, _, _⟩
          have T6 : Hid (Two w w6 a b (puts (l1.take (k + 1)) Tab.new) Tab.new (k + 1) 0 wr.heap.size) := by
            show Two _ _ _ _ _ _ _ _ _
            rw [HX.out, puts_snoc]; exact hT
          clear hT P
          go_wp2
          go_roundw
          case rel => exact ⟨k + 1, _, by omega, rfl, T6⟩
          case measure => simp [intOf]; omega
        · have hk2 : k = l1.length := by omega
          subst hk2
          have C := Lib.hid (two_clear T.out)
          go_wp2_with fail
          refine C.out.mono ?_
          rintro e w6 ⟨rfl, hT⟩
          have T6 := Lib.hid hT
          have LE := Lib.hid (two_len hT (by omega))
          clear C hT T
          have l0 : Tab.new.len = 0 := rfl
          go_wp2_with fail
          refine LE.out.mono ?_
          rintro e w7 ⟨rfl, q1, rfl⟩
          rw [l0]
          have KE := Lib.hid (two_keys (T6.out.keep ((Upd.refl (fun _ => False) _).drewN q1)) (by omega))
          clear LE l0 T6
          go_wp2_with fail
          refine KE.out.mono ?_
          rintro e w8 ⟨v, rfl, hv, hT, _⟩
          have T8 := Lib.hid hT
          have hv' : ∃ p cap, v = .slice p 0 cap := by
            rcases hv.2 with ⟨rfl, _⟩ | ⟨g, cap, cur, rfl, _⟩
            · exact ⟨none, 0, rfl⟩
            · exact ⟨_, cap, by rw [show (sortStr Tab.new.keysRaw).length = 0 by rw [sortStr_len]; rfl]⟩
          obtain ⟨pv, cv, rfl⟩ := hv'
          clear hv hT KE
          go_wp2
          go_loopw [51] (fun x wr => ∃ k c : Nat, k ≤ l2.length ∧ x = .int .i64 (k : Int) ∧ Hid (Two w wr a b (puts (l2.take k) Tab.new) (puts (l2.take k) Tab.new) k k c)) (fun x _ => l2.length - (intOf x).toNat)
          case atStart => exact ⟨0, _, by omega, rfl, T8⟩
          case round =>
            obtain ⟨k, c, hk, rfl, T⟩ := hrel
            by_cases hlt : k < l2.length
            · obtain ⟨x, off, act, rfl, hb, ha, c0, c1, c2⟩ := act8_cells (H2.out.keep T.out.upd (fun _ _ _ => id)) hlt
              have hsz := Z2.out act (List.mem_of_getElem? ha)
              have HX : Hid (l2.take (k + 1) = l2.take k ++ [act]) := by
                obtain ⟨_, r1⟩ := List.getElem?_eq_some_iff.1 ha
                show l2.take (k + 1) = _
                rw [List.take_succ_eq_append_getElem hlt, r1]
              have T1 := Lib.hid (T.out.recent (.cells #[.int .i64 act.kind, .string act.key, .int .i64 act.n] 39))
              have B1 : Hid (Blk (wr.alloc (.cells #[.int .i64 act.kind, .string act.key, .int .i64 act.n] 39)) wr.heap.size (act8c act) 39) := Blk.made wr (act8c act) _
              clear ha
              go_upto_region 17 with (fail)
              obtain ⟨tk, htk⟩ : ∃ tk, puts (l2.take k) Tab.new = tk := ⟨_, rfl⟩
              rw [htk] at T T1
              have HTK := Lib.hid htk
              clear htk
              go_cut [67] (fun x w' => x = .bool false ∧ Hid (Two w w' a b (tk.put act.key act.n).1 (tk.put act.key act.n).1 (k + 1) (k + 1) wr.heap.size))
              case first =>
                have hk2 : k ≤ 10000 := by omega
                have hs2 : act.key.size ≤ 100000 := by omega
                generalize wr.alloc (.cells #[.int .i64 act.kind, .string act.key, .int .i64 act.n] 39) = W at *
                have q1 := B1.out.lt
                generalize wr.heap.size = q at *
                have x1 : W.cell? ⟨q, 1, none⟩ = some (.string act.key) := B1.out.cellAt rfl
                have x2 : W.cell? ⟨q, 2, none⟩ = some (.int .i64 act.n) := B1.out.cellAt rfl
                have P1 := Lib.hid (two_put (T1.out.keep ((Upd.refl (fun _ => False) _).drew)) (show q < W.drew.heap.size from q1) act.key act.n hk2 hs2)
                clear c0 c1 c2 hb hsz hlt hk T
                go_region_held3 (fun w' => w'.cell? ⟨q, 1, none⟩ = some (.string act.key) ∧ w'.cell? ⟨q, 2, none⟩ = some (.int .i64 act.n)) (go_keep)
                  (first
                    | (go_at_call_of 10 (Value.pointer (some ⟨a, 0, none⟩)); refine P1.out.mono ?_; rintro e w2 ⟨rfl, hT2, hc2, hz2⟩; (have y1 : w2.cell? ⟨q, 1, none⟩ = some (.string act.key) := (World.cell?_of_block (w := W.drew) hc2).trans x1); (have y2 : w2.cell? ⟨q, 2, none⟩ = some (.int .i64 act.n) := (World.cell?_of_block (w := W.drew) hc2).trans x2); (have P2 := Lib.hid (two_put hT2.symm (Nat.lt_of_lt_of_le q1 hz2) act.key act.n hk2 hs2)); clear hT2 hc2 hz2)
                    | (go_at_call_of 10 (Value.pointer (some ⟨b, 0, none⟩)); refine P2.out.mono ?_; rintro e w3 ⟨rfl, hT3, hc3, hz3⟩; (have y3 : w3.cell? ⟨q, 1, none⟩ = some (.string act.key) := (World.cell?_of_block (w := w2) hc3).trans y1); (have y4 : w3.cell? ⟨q, 2, none⟩ = some (.int .i64 act.n) := (World.cell?_of_block (w := w2) hc3).trans y2); (have T3 := Lib.hid hT3.symm); clear hT3 hc3 hz3))
                all_goals (go_wp2_with fail; go_meet; exact ⟨by simp, T3⟩)
              case rest =>
                obtain ⟨rfl, T3⟩ := hcut
                have T4 : Hid (Two w wc a b (puts (l2.take (k + 1)) Tab.new) (puts (l2.take (k + 1)) Tab.new) (k + 1) (k + 1) wr.heap.size) := by
                  show Two _ _ _ _ _ _ _ _ _
                  rw [HX.out, puts_snoc, HTK.out]; exact T3
                clear c0 c1 c2 hsz T3 T1 B1 T
                go_wp2
                go_roundw
                case rel =>
                  exact ⟨k + 1, _, by omega, rfl, T4⟩
                case measure => simp [intOf]; omega
            · have hk2 : k = l2.length := by omega
              subst hk2
              rw [List.take_length] at T
              generalize puts l2 Tab.new = tk at *
              have R1 := Lib.hid (two_room T.out (by omega))
              go_wp2_with fail
              refine R1.out.mono ?_
              rintro e w9 ⟨rfl, q2, rfl⟩
              have R2 := Lib.hid (two_room (T.out.symm.keep ((Upd.refl (fun _ => False) _).drewN q2)) (by omega))
              go_wp2_with fail
              refine R2.out.mono ?_
              rintro e w9 ⟨rfl, q3, rfl⟩
              have T9 := Lib.hid ((T.out.keep ((Upd.refl (fun _ => False) _).drewN q2)).keep ((Upd.refl (fun _ => False) _).drewN q3))
              have K1 := Lib.hid (two_keys T9.out (by omega))
              rw [World.drewN_drewN] at K1
              have o1 : ((tk.old.pl.length : Int) == (tk.old.pl.length : Int)) = true := by simp
              have o2 : ((tk.fresh.pl.length : Int) == (tk.fresh.pl.length : Int)) = true := by simp
              clear R1 R2
              go_wp2_with fail
              refine K1.out.mono ?_
              rintro e w10 ⟨va, rfl, hva, hT, hu⟩
              have VA := Lib.hid hva
              have K2 := Lib.hid (two_keys hT.symm (by omega))
              clear hva hT hu K1
              go_wp2_with fail
              refine K2.out.mono ?_
              rintro e w11 ⟨vb, rfl, hvb, hT, hu⟩
              have SA := Lib.hid (same06_any va vb _ _ w11 (VA.out.keep hu (fun _ _ => id)).row hvb.row)
              have TT := Lib.hid hT.upd
              clear hvb hT hu K2
              go_wp2_with fail
              refine SA.out.mono ?_
              rintro e w12 ⟨rfl, q4, rfl⟩
              go_wp2
              go_ret
              exact ⟨ret_bool (by simp), TT.out.drewN _⟩
    · have hg := hg2
      clear hg1 hg2
      go_wp2
      go_ret
      exact ⟨rfl, U3.out⟩
  · clear hg1
    go_wp2
    go_ret
    exact ⟨rfl, U2.out⟩
end Go.Proofs.Ytbkhpdmadhhdoaa
