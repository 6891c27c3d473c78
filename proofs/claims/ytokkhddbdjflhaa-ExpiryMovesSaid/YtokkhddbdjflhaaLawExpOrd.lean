/- Walk: ExpiryOrders. -/
import Derived.Test.YtokkhddbdjflhaaOrdP
import Derived.Test.YtokkhddbdjflhaaActs11
import Derived.Test.YtokkhddbdjflhaaExpN
import Derived.Test.YtokkhddbdjflhaaExpL
import Derived.Deep.RegionHeld3
import Derived.IntWalk
import Derived.Deep.QuietTactic
import Derived.BigQuiet
set_option linter.unusedVariables false
set_option linter.unusedSimpArgs false
namespace Go.Proofs.Ytokkhddbdjflhaa
open Go.RowKit

theorem ExpAt.apartB {w : World} {base xa : Nat} {l : List DueP} {E : Nat → Prop} (h : ExpAt w base xa l E) {b : Nat} {cs : List Value} {T : TypeId} (hb : Blk w b cs T) (h1 : T ≠ 58) (h2 : T ≠ 61) (h3 : T ≠ 60) : ¬ E b := by
  obtain ⟨mb, v, bs, ent, m, h, rfl⟩ := h
  exact h.apart hb h1 h2 h3
theorem xputV_any (w : World) (base xa : Nat) (l : List DueP) (E : Nat → Prop) (key : ByteArray) (t : Int) (h : ExpAt w base xa l E) (hb0 : base ≤ w.heap.size) (hl : l.length ≤ 10000) :
    Calls Try.prog 10 #[.pointer (some ⟨xa, 0, none⟩), .string key, .int .i64 t] w fun e w' => ∃ r : Int, e = .returned (.int .i64 r) ∧ ExpTo w w' base xa E (putV l (t, key)) := by
  by_cases hv : vld t
  · refine (xput_any w base xa l E key t h hb0 hl hv.1 hv.2).mono ?_
    rintro e w' ⟨rfl, h2⟩
    exact ⟨0, rfl, by unfold putV; rw [if_pos hv]; exact h2⟩
  · refine (xput_bad w xa key t (by unfold vld at hv; omega)).mono ?_
    rintro e w' ⟨rfl, rfl⟩
    refine ⟨111, rfl, E, ?_, Upd.refl _ _, FromF.refl _ _⟩
    unfold putV; rw [if_neg hv]; exact h
/-- Two of them, apart, made by the call. -/
def Two11 (w w' : World) (xa xb : Nat) (La Lb : List DueP) : Prop := ∃ E1 E2, ExpAt w' w.heap.size xa La E1 ∧ ExpAt w' w.heap.size xb Lb E2 ∧ (∀ k, E1 k → ¬ E2 k) ∧ (∀ k, E1 k → w.heap.size ≤ k) ∧ (∀ k, E2 k → w.heap.size ≤ k) ∧ Upd (fun _ => False) w w'
section
variable {w w1 w' : World} {xa xb : Nat} {La Lb La' Lb' : List DueP}
theorem Two11.upd (h : Two11 w w1 xa xb La Lb) : Upd (fun _ => False) w w1 := by obtain ⟨_, _, _, _, _, _, _, u⟩ := h; exact u
theorem Two11.keep0 (h : Two11 w w1 xa xb La Lb) (u : Upd (fun _ => False) w1 w') : Two11 w w' xa xb La Lb := by
  obtain ⟨E1, E2, h1, h2, h3, h4, h5, h6⟩ := h
  exact ⟨E1, E2, h1.keep u (fun _ _ h => h), h2.keep u (fun _ _ h => h), h3, h4, h5, h6.trans u (fun _ _ h => h)⟩
theorem Two11.swap (h : Two11 w w1 xa xb La Lb) : Two11 w w1 xb xa Lb La := by
  obtain ⟨E1, E2, h1, h2, h3, h4, h5, h6⟩ := h
  exact ⟨E2, E1, h2, h1, fun k a b => h3 k b a, h5, h4, h6⟩
theorem Two11.toA {E1 E2 : Nat → Prop} (h1 : ExpAt w1 w.heap.size xa La E1) (h2 : ExpAt w1 w.heap.size xb Lb E2) (h3 : ∀ k, E1 k → ¬ E2 k) (h4 : ∀ k, E1 k → w.heap.size ≤ k) (h5 : ∀ k, E2 k → w.heap.size ≤ k) (h6 : Upd (fun _ => False) w w1) (t : ExpTo w1 w' w.heap.size xa E1 La') : Two11 w w' xa xb La' Lb := by
  obtain ⟨E3, k1, k2, k3⟩ := t
  refine ⟨E3, E2, k1, h2.keep k2 (fun k a b => h3 k b a), fun k a b => ?_, fun k a => ?_, h5, h6.trans k2 (fun i hi e => by have := h4 i e; omega)⟩
  · rcases k3 k a with g | g
    · exact h3 k g b
    · have := h2.lt k b; omega
  · rcases k3 k a with g | g
    · exact h4 k g
    · exact Nat.le_trans h6.size g
theorem two_put (h : Two11 w w1 xa xb La Lb) (key : ByteArray) (t : Int) (hl : La.length ≤ 10000) :
    Calls Try.prog 10 #[.pointer (some ⟨xa, 0, none⟩), .string key, .int .i64 t] w1 fun e w' => ∃ r : Int, e = .returned (.int .i64 r) ∧ Two11 w w' xa xb (putV La (t, key)) Lb ∧ (∀ b cs, Blk w1 b cs 32 → Blk w' b cs 32) := by
  obtain ⟨E1, E2, h1, h2, h3, h4, h5, h6⟩ := h
  refine (xputV_any w1 w.heap.size xa La E1 key t h1 h6.size hl).mono ?_
  rintro e w' ⟨r, rfl, t⟩
  refine ⟨r, rfl, Two11.toA h1 h2 h3 h4 h5 h6 t, fun b cs hb => ?_⟩
  obtain ⟨_, _, k2, _⟩ := t
  exact k2.blk hb (h1.apartB hb (by decide) (by decide) (by decide))
theorem two_due (h : Two11 w w1 xa xb La Lb) (now most : Int) (hl : La.length ≤ 10000) :
    Calls Try.prog 13 #[.pointer (some ⟨xa, 0, none⟩), .int .i64 now, .int .i64 most] w1 fun e w' => ∃ v, e = .returned v ∧ StrsAt w' w1.heap.size v (((dueD now La).take most.toNat).map (·.2)) ∧ Two11 w w' xa xb La Lb ∧ (∀ (b0 : Nat) (x : Value) (l : List ByteArray), StrsAt w1 b0 x l → StrsAt w' b0 x l) ∧ (∀ b cs, Blk w1 b cs 32 → Blk w' b cs 32) := by
  obtain ⟨E1, E2, h1, h2, h3, h4, h5, h6⟩ := h
  refine (xdue_any w1 w.heap.size xa La E1 now most h1 h6.size hl).mono ?_
  rintro e w' ⟨v, rfl, s, t⟩
  refine ⟨v, rfl, s, Two11.toA h1 h2 h3 h4 h5 h6 t, fun b0 x l hx => ?_, fun b cs hb => ?_⟩
  · obtain ⟨E3, _, k2, _⟩ := t
    exact hx.keep k2 (h1.apart hx (by decide) (by decide) (by decide))
  · obtain ⟨E3, _, k2, _⟩ := t
    exact k2.blk hb (h1.apartB hb (by decide) (by decide) (by decide))
theorem two_all (h : Two11 w w1 xa xb La Lb) (hl : La.length ≤ 10000) (hs : ∀ d ∈ La, d.2.size ≤ maxLen) :
    Calls Try.prog 11 #[.pointer (some ⟨xa, 0, none⟩)] w1 fun e w' => ∃ v, e = .returned v ∧ DuesAt w' w1.heap.size v La ∧ Two11 w w' xa xb La Lb ∧ Upd (fun _ => False) w1 w' := by
  obtain ⟨E1, E2, h1, h2, h3, h4, h5, h6⟩ := id h
  refine (xall_any w1 w.heap.size xa La E1 h1 hl hs).mono ?_
  rintro e w' ⟨v, rfl, d, u⟩
  exact ⟨v, rfl, d, h.keep0 u, u⟩
end
theorem RowOf.firsts {α : Type} {f : α → List Value} {k : Nat} {w : World} {p : Option Addr} {n c m : Nat} {l : List α} (h : RowOf f k w (.slice p n c) l) (hm : m ≤ n) : RowOf f k w (.slice p m c) (l.take m) := by
  rcases h with ⟨p, cap, e, rfl⟩ | ⟨b, off, cap, e, hb, hl, hc⟩
  · cases e
    obtain rfl : m = 0 := by omega
    exact Or.inl ⟨_, _, rfl, rfl⟩
  · cases e
    refine Or.inr ⟨b, off, c, by rw [List.length_take, Nat.min_eq_left hm], hb, by rw [List.length_take]; omega, fun i a hi => hc i a ?_⟩
    rw [List.getElem?_take] at hi
    split at hi
    · exact hi
    · cases hi
theorem own_slice2 {w : World} {base n : Nat} {e : TypeId} {size : Nat} {v : Value} {xs : List Value} (h : w.ownsRow base e size v n xs) : ∃ p c, v = .slice p n c ∧ n ≤ c := by
  obtain ⟨_, ⟨rfl, rfl⟩ | ⟨g, cap, cur, rfl, _, _, h1, h2, _⟩⟩ := h
  · exact ⟨_, _, rfl, Nat.le_refl _⟩
  · exact ⟨_, _, rfl, h1⟩
theorem ord_end {w : World} {b1 b2 : Nat} {v1 v2 : Value} {L : List DueP} {x y : Int} (hxy : x ≤ y) (hl : L.length ≤ 100) (h1 : StrsAt w b1 v1 (((dueD x L).take (Int.toNat 100)).map (·.2))) (h2 : StrsAt w b2 v2 (((dueD y L).take (Int.toNat 100)).map (·.2))) :
    ∃ (p1 p2 : Option Addr) (n1 c1 n2 c2 : Nat), v1 = .slice p1 n1 c1 ∧ v2 = .slice p2 n2 c2 ∧ n1 ≤ n2 ∧ n2 ≤ c2 ∧ n2 ≤ 100 ∧ Hid (∀ w', Upd (fun _ => False) w w' → Calls Try.prog 14 #[.slice p1 n1 c1, .slice p2 n1 c2] w' fun e w2 => e = .returned (.bool true) ∧ ∃ n, w2 = w'.drewN n) := by
  have e1 : (dueD x L).take (Int.toNat 100) = dueD x L := List.take_of_length_le (by have := dueD_len L x; simp; omega)
  have e2 : (dueD y L).take (Int.toNat 100) = dueD y L := List.take_of_length_le (by have := dueD_len L y; simp; omega)
  rw [e1] at h1
  rw [e2] at h2
  obtain ⟨p1, c1, q1, _⟩ := own_slice2 h1
  obtain ⟨p2, c2, q2, g2⟩ := own_slice2 h2
  subst q1 q2
  obtain ⟨k1, k2⟩ := dueD_prefix L hxy
  rw [List.length_map] at g2
  refine ⟨p1, p2, _, c1, _, c2, rfl, rfl, by simpa using k2, by simpa using g2, by have := dueD_len L y; simp; omega, fun w' u => ?_⟩
  have r1 := (h1.keep u (fun _ _ h => h)).row
  have r2 := (h2.keep u (fun _ _ h => h)).row.firsts (m := ((dueD x L).map (·.2)).length) (by simpa using k2)
  refine (same06_any _ _ _ _ w' r1 r2).mono ?_
  rintro e w2 ⟨rfl, n, rfl⟩
  refine ⟨?_, n, rfl⟩
  have : (dueD x L).map (·.2) = ((dueD y L).map (·.2)).take ((dueD x L).map (·.2)).length := by
    rw [← List.map_take, List.length_map, ← k1]
  rw [← this]; simp
set_option maxHeartbeats 16000000 in
set_option maxRecDepth 100000 in
theorem lawExpOrders (v : Value) (l : List DueP) (n0 n1 : Int) (w : World) (h : RowOf duec 2 w v l) (hcap : ∃ p c, v = .slice p l.length c ∧ l.length ≤ c) (hs : ∀ d ∈ l, d.2.size ≤ maxLen) :
    Calls Try.prog 4 #[v, .agg #[.int .i64 n0, .int .i64 n1]] w fun e w' => e = .returned (.bool true) ∧ Upd (fun _ => False) w w' := by
  obtain ⟨p, c, ev, hcl⟩ := hcap
  subst ev
  have ub : Upd (fun _ => False) w (w.alloc (.cells #[.int .i64 n0, .int .i64 n1] 32)) := (Upd.refl _ _).alloc _
  have bn := Blk.made w [.int .i64 n0, .int .i64 n1] 32
  have AL := Lib.hid (alive11_any (w.alloc (.cells #[.int .i64 n0, .int .i64 n1] 32)))
  by_cases h60 : 60 < l.length
  · have t1 : decide ((60 : Int) < (l.length : Int)) = true := decide_eq_true (by omega)
    have UB := Lib.hid ub
    clear h ub bn
    go_enter Try.func4, Try.ntmps4
    go_wp2_with fail
    refine (AL.out).mono ?_
    rintro e w1 ⟨rfl, u1⟩
    have U1 := Lib.hid u1
    clear u1
    go_wp2
    go_ret
    exact ⟨rfl, UB.out.trans U1.out (fun _ _ h => h)⟩
  · have t1 : decide ((60 : Int) < (l.length : Int)) = false := decide_eq_false (by omega)
    have hl60 : l.length ≤ 60 := by omega
    have H := Lib.hid h
    have HS := Lib.hid hs
    have UB := Lib.hid ub
    have BN := Lib.hid bn
    clear h hs h60 ub bn
    go_enter Try.func4, Try.ntmps4
    go_wp2_with fail
    refine (AL.out).mono ?_
    rintro e w1 ⟨rfl, u1⟩
    have NA := Lib.hid (xnew_any w1 w.heap.size)
    have BN1 := Lib.hid (u1.blk BN.out (fun h => h))
    have U1 := Lib.hid (UB.out.trans u1 (fun _ _ h => h))
    clear u1 AL
    go_wp2_with fail
    refine (NA.out).mono ?_
    rintro e w2 ⟨xa, E1, rfl, h2, u2, f2⟩
    have NB := Lib.hid (xnew_any w2 w.heap.size)
    have BN2 := Lib.hid (u2.blk BN1.out (fun h => h))
    have U2 := Lib.hid (U1.out.trans u2 (fun _ _ h => h))
    have H2 := Lib.hid h2
    have F2 := Lib.hid (fun k hk => Nat.le_trans U1.out.size (f2 k hk))
    clear h2 u2 f2 NA
    go_wp2_with fail
    refine (NB.out).mono ?_
    rintro e w3 ⟨xb, E2, rfl, h3, u3, f3⟩
    have BN3 := Lib.hid (u3.blk BN2.out (fun h => h))
    have T3 : Hid (Two11 w w3 xa xb [] []) := ⟨E1, E2, H2.out.keep u3 (fun _ _ h => h), h3, fun k a b => by have := H2.out.lt k a; have := f3 k b; omega, F2.out, fun k hk => Nat.le_trans U2.out.size (f3 k hk), U2.out.trans u3 (fun _ _ h => h)⟩
    have U3 := Lib.hid (U2.out.trans u3 (fun _ _ h => h))
    clear h3 u3 f3 NB H2 U2 U1 BN1 BN2
    go_wp2
    go_loopw [4, 25] (fun x4 x25 wr => ∃ (k : Nat), k ≤ l.length ∧ x25 = .int .i64 (k : Int) ∧ Hid (Apart (l.take k)) ∧ Hid (Upd (fun _ => False) w3 wr)) (fun _ x25 _ => l.length - (intOf x25).toNat)
    case atStart => exact ⟨0, by omega, rfl, Lib.hid (by simp), Lib.hid (Upd.refl _ _)⟩
    case round =>
      obtain ⟨k, hk, rfl, AP, U⟩ := hrel
      by_cases hlt : k < l.length
      · obtain ⟨d, hd⟩ : ∃ d, l[k]? = some d := ⟨_, List.getElem?_eq_getElem hlt⟩
        obtain ⟨b, off, cap, ev, hb, c0, c1⟩ := due_cells H.out hd
        injection ev with ev1 _ ev3
        subst ev1 ev3
        have c0 := (U.out.cell (p := ⟨b, off + k * 2, none⟩) (Nat.lt_of_lt_of_le hb U3.out.size) (fun h => h)).trans ((U3.out.cell (p := ⟨b, off + k * 2, none⟩) hb (fun h => h)).trans c0)
        have c1 := (U.out.cell (p := ⟨b, off + k * 2 + 1, none⟩) (Nat.lt_of_lt_of_le hb U3.out.size) (fun h => h)).trans ((U3.out.cell (p := ⟨b, off + k * 2 + 1, none⟩) hb (fun h => h)).trans c1)
        have hq : (k : Int) < (l.length : Int) := by omega
        have hqc : (k : Int) ≤ (c : Int) := by omega
        have hqc2 : k ≤ c := by omega
        have TK := Lib.hid (take_snocD hd)
        have HD := Lib.hid hd
        clear hd
        obtain ⟨dw, dk⟩ := d
        simp only at c0 c1
        obtain ⟨wo, rfl⟩ : ∃ wo, wo = wr := ⟨_, rfl⟩
        have BD : Hid (Blk (wo.alloc (.cells #[.int .i64 dw, .string dk] 26)) wo.heap.size [.int .i64 dw, .string dk] 26) := Blk.made wo [.int .i64 dw, .string dk] _
        have UO : Hid (Upd (fun _ => False) w3 (wo.alloc (.cells #[.int .i64 dw, .string dk] 26))) := U.out.alloc _
        go_wp2
        go_loopw [4, 34] (fun x4 x34 wr => ∃ (j : Nat), j ≤ k ∧ x34 = .int .i64 (j : Int) ∧ Hid (∀ x ∈ l.take j, x.2 ≠ dk) ∧ Hid (Upd (fun _ => False) (wo.alloc (.cells #[.int .i64 dw, .string dk] 26)) wr)) (fun _ x34 _ => k - (intOf x34).toNat)
        case atStart => exact ⟨0, by omega, rfl, Lib.hid (fun x hx => by simp at hx), Lib.hid (Upd.refl _ _)⟩
        case round =>
          obtain ⟨j, hj, rfl, NE, UI⟩ := hrel
          by_cases hjk : j < k
          · obtain ⟨x, hx⟩ : ∃ x, l[j]? = some x := ⟨_, List.getElem?_eq_getElem (by omega)⟩
            obtain ⟨b2, off2, cap2, ev, _, d0, d1⟩ := due_cells H.out hx
            injection ev with ev1 _ ev3
            injection ev1 with ev1
            injection ev1 with ev1 ev4
            subst ev1 ev3 ev4
            have UW := UI.out.trans (Upd.refl _ _) (fun _ _ h => h)
            have d0 := (UI.out.cell (p := ⟨b, off + j * 2, none⟩) (Nat.lt_of_lt_of_le (Nat.lt_of_lt_of_le hb U3.out.size) UO.out.size) (fun h => h)).trans ((UO.out.cell (p := ⟨b, off + j * 2, none⟩) (Nat.lt_of_lt_of_le hb U3.out.size) (fun h => h)).trans ((U3.out.cell (p := ⟨b, off + j * 2, none⟩) hb (fun h => h)).trans d0))
            have d1 := (UI.out.cell (p := ⟨b, off + j * 2 + 1, none⟩) (Nat.lt_of_lt_of_le (Nat.lt_of_lt_of_le hb U3.out.size) UO.out.size) (fun h => h)).trans ((UO.out.cell (p := ⟨b, off + j * 2 + 1, none⟩) (Nat.lt_of_lt_of_le hb U3.out.size) (fun h => h)).trans ((U3.out.cell (p := ⟨b, off + j * 2 + 1, none⟩) hb (fun h => h)).trans d1))
            have BD2 := UI.out.blk BD.out (fun h => h)
            have f1 := BD2.cellAt (i := 1) rfl
            have hbl := BD2.lt
            have q1 : (j : Int) < (k : Int) := by omega
            clear UW
            by_cases hkey : x.2 = dk
            · have t2 := beq_of hkey
              obtain ⟨xw, xk⟩ := x
              simp only at d0 d1 t2
              clear hx hkey BD2
              go_wp2
              go_ret
              exact ⟨rfl, (U3.out.trans (UO.out.trans UI.out (fun _ _ h => h)) (fun _ _ h => h)).alloc _⟩
            · have t2 := nbeq_of hkey
              have N2 : Hid (∀ x ∈ l.take (j + 1), x.2 ≠ dk) := by
                intro y hy
                rw [take_snocD hx] at hy
                rcases List.mem_append.1 hy with hy | hy
                · exact NE.out y hy
                · simp at hy; rw [hy]; exact hkey
              obtain ⟨xw, xk⟩ := x
              simp only at d0 d1 t2
              clear hx hkey BD2
              go_wp2
              go_roundw
              case rel => exact ⟨j + 1, by omega, by go_num, N2, UI.out.alloc _⟩
              case measure => simp [intOf]; omega
          · obtain rfl : j = k := by omega
            have AP2 : Hid (Apart (l.take (j + 1))) := by
              show Apart _
              rw [TK.out]
              refine List.pairwise_append.2 ⟨AP.out, by simp, fun x hx y hy => ?_⟩
              simp at hy; subst hy; exact NE.out x hx
            go_wp2
            go_roundw
            case rel => exact ⟨j + 1, by omega, by go_num, AP2, UO.out.trans UI.out (fun _ _ h => h)⟩
            case measure => simp [intOf]; omega
      · obtain rfl : k = l.length := by omega
        have AP2 := AP.out
        rw [List.take_length] at AP2
        have AP3 := Lib.hid AP2
        obtain ⟨w4, rfl⟩ : ∃ w4, w4 = wr := ⟨_, rfl⟩
        have T4 := Lib.hid (T3.out.keep0 U.out)
        have BN4 := Lib.hid (U.out.blk BN3.out (fun h => h))
        clear AP2 T3 BN3 AP U3 U
        go_wp2
        go_loopw [47] (fun x47 wr => ∃ (k : Nat), k ≤ l.length ∧ x47 = .int .i64 (k : Int) ∧ Hid (Two11 w wr xa xb (putsV (l.take k)) (putsV (l.reverse.take k))) ∧ Hid (Blk wr w.heap.size [.int .i64 n0, .int .i64 n1] 32)) (fun x47 _ => l.length - (intOf x47).toNat)
        case atStart => exact ⟨0, by omega, rfl, by rw [List.take_zero, List.take_zero]; exact T4, BN4⟩
        case round =>
          obtain ⟨k, hk, rfl, T, BK⟩ := hrel
          have U := T.out.upd
          by_cases hlt : k < l.length
          · obtain ⟨m, hm⟩ : ∃ m, m = l.length - 1 - k := ⟨_, rfl⟩
            obtain ⟨d, hd⟩ : ∃ d, l[k]? = some d := ⟨_, List.getElem?_eq_getElem hlt⟩
            obtain ⟨e, he⟩ : ∃ e, l[m]? = some e := ⟨_, List.getElem?_eq_getElem (by omega)⟩
            have hr : l.reverse[k]? = some e := by rw [List.getElem?_reverse hlt, ← hm]; exact he
            obtain ⟨b, off, cap, ev, hb, c0, c1⟩ := due_cells H.out hd
            obtain ⟨b2, off2, cap2, ev2, _, e0, e1⟩ := due_cells H.out he
            injection ev with ev1 _ ev3
            subst ev1 ev3
            injection ev2 with ev1 _ ev3
            injection ev1 with ev1
            injection ev1 with ev1 ev4
            subst ev1 ev3 ev4
            have TA := Lib.hid (take_snocD hd)
            have TB := Lib.hid (take_snocD hr)
            have LA := putsV_len (l.take k)
            have LB := putsV_len (l.reverse.take k)
            rw [List.length_take] at LA LB
            rw [List.length_reverse] at LB
            have hq : (k : Int) < (l.length : Int) := by omega
            have hmq : (l.length : Int) - 1 - (k : Int) = (m : Int) := by omega
            have hmq2 : (m : Int) < (l.length : Int) := by omega
            obtain ⟨dw, dk⟩ := d
            obtain ⟨ew, ek⟩ := e
            simp only at c0 c1 e0 e1
            have SS : Hid (∀ v, Upd (fun _ => False) w v → v.cell? ⟨b, off + k * 2, none⟩ = some (.int .i64 dw) ∧ v.cell? ⟨b, off + k * 2 + 1, none⟩ = some (.string dk) ∧ v.cell? ⟨b, off + m * 2, none⟩ = some (.int .i64 ew) ∧ v.cell? ⟨b, off + m * 2 + 1, none⟩ = some (.string ek)) := fun v u =>
              ⟨(u.cell (p := ⟨b, off + k * 2, none⟩) hb (fun h => h)).trans c0, (u.cell (p := ⟨b, off + k * 2 + 1, none⟩) hb (fun h => h)).trans c1, (u.cell (p := ⟨b, off + m * 2, none⟩) hb (fun h => h)).trans e0, (u.cell (p := ⟨b, off + m * 2 + 1, none⟩) hb (fun h => h)).trans e1⟩
            have PA := Lib.hid (fun (v : World) (u : Upd (fun _ => False) wr v) => two_put (T.out.keep0 u) dk dw (by omega))
            have PB := Lib.hid (fun (v : World) (A : List DueP) (t : Two11 w v xa xb A (putsV (l.reverse.take k))) => two_put t.swap ek ew (by omega))
            clear c0 c1 e0 e1 hd he hr hm
            obtain ⟨g0, g1, g2, g3⟩ := SS.out wr U
            clear U
            go_wp2
            go_region_held3 (fun w' => w'.cell? ⟨b, off + k * 2, none⟩ = some (.int .i64 dw) ∧ w'.cell? ⟨b, off + k * 2 + 1, none⟩ = some (.string dk)) (go_keep) (first
              | (go_at_call 10; refine (PA.out _ (by first | exact Upd.refl _ _ | exact (Upd.refl _ _).drew)).mono ?_; rintro e w5 ⟨r5, rfl, t5, k5⟩; (have K5 := Lib.hid (k5 _ _ (Upd.blk (by first | exact Upd.refl (fun _ => False) _ | exact (Upd.refl (fun _ => False) _).drew) BK.out (fun h => h)))); clear k5; (have y5 := SS.out _ t5.upd); (obtain ⟨y50, y51, y52, y53⟩ := y5); (have T5 := Lib.hid t5); clear t5))
            clear g0 g1 g2 g3
            go_wp2
            have w1' : IntKind.i64.wrap ((l.length : Int) - 1) = (l.length : Int) - 1 := IntWalk.i64_in _ (by omega)
            have w2' : IntKind.i64.wrap ((l.length : Int) - 1 - (k : Int)) = (m : Int) := by rw [IntWalk.i64_in _ (by omega)]; exact hmq
            have w3' : IntKind.i64.wrap (m : Int) = (m : Int) := IntWalk.i64_in _ (by omega)
            go_region_held3 (fun w' => w'.cell? ⟨b, off + m * 2, none⟩ = some (.int .i64 ew) ∧ w'.cell? ⟨b, off + m * 2 + 1, none⟩ = some (.string ek)) (go_keep) (first
              | (go_at_call 10; refine (PB.out _ _ (T5.out.keep0 (by first | exact Upd.refl _ _ | exact (Upd.refl _ _).drew))).mono ?_; rintro e w6 ⟨r6, rfl, t6, k6⟩; (have K6 := Lib.hid (k6 _ _ (Upd.blk (by first | exact Upd.refl (fun _ => False) _ | exact (Upd.refl (fun _ => False) _).drew) K5.out (fun h => h)))); clear k6; (have y6 := SS.out _ t6.upd); (obtain ⟨y60, y61, y62, y63⟩ := y6); (have T6 := Lib.hid t6.swap); clear t6))
            clear w1' w2' w3'
            go_wp2
            go_roundw
            case rel => exact ⟨k + 1, by omega, by go_num, by rw [TA.out, TB.out, putsV_snoc, putsV_snoc]; exact T6, K6⟩
            case measure => simp [intOf]; omega
          · obtain rfl : k = l.length := by omega
            have T5 := T.out
            have er : l.reverse.take l.length = l.reverse := List.take_of_length_le (by simp)
            rw [List.take_length, er, putsV_rev AP3.out] at T5
            have LN := putsV_len l
            have SZ := Lib.hid (putsV_size HS.out)
            have RI := Lib.hid (putsV_rise l)
            generalize putsV l = L at *
            have BK7 := BK
            have T6 := Lib.hid T5
            have UAll := Lib.hid T5.upd
            have A1 := Lib.hid (two_all T5 (by omega) SZ.out)
            obtain ⟨w7, rfl⟩ : ∃ w7, w7 = wr := ⟨_, rfl⟩
            clear T5 T T4
            go_wp2_with fail
            refine (A1.out).mono ?_
            rintro e w8 ⟨v8, rfl, d8, t8, u8⟩
            have A2 := Lib.hid (two_all t8.swap (by omega) SZ.out)
            have D8 := Lib.hid d8
            have U8 := Lib.hid u8
            clear d8 t8 u8 A1
            obtain ⟨p8, c8, e8, _⟩ := own_slice D8.out
            subst e8
            go_wp2_with fail
            refine (A2.out).mono ?_
            rintro e w9 ⟨v9, rfl, d9, t9, u9⟩
            have D89 := Lib.hid (D8.out.keep u9 (fun _ _ h => h))
            have SM := Lib.hid (same11_any _ v9 L L w9 D89.out.row d9.row)
            have T9 := Lib.hid t9.swap
            have U9 := Lib.hid (U8.out.trans u9 (fun _ _ h => h))
            obtain ⟨p9, c9, e9, _⟩ := own_slice d9
            subst e9
            have DT : decide (L = L) = true := decide_eq_true rfl
            rw [DT] at SM
            clear d9 u9 t9 DT A2 D8 U8
            go_wp2_with fail
            refine (SM.out).mono ?_
            rintro e w10 ⟨rfl, n10, rfl⟩
            have BK10 := Lib.hid ((U9.out.blk BK7.out (fun h => h)).drewN n10)
            have D10 := Lib.hid (D89.out.keep ((Upd.refl (fun _ => False) _).drewN n10) (fun _ _ h => h))
            have T10 := Lib.hid (T9.out.keep0 ((Upd.refl (fun _ => False) _).drewN n10))
            generalize w9.drewN n10 = wt at *
            clear D89 T9 SM U9
            go_wp2
            obtain ⟨w10, rfl⟩ : ∃ w10, w10 = wt := ⟨_, rfl⟩
            go_loopw [4, 13] (fun x4 x13 wr => ∃ (j : Nat), (j < L.length ∨ j = 0) ∧ x13 = .int .i64 ((j : Int) + 1) ∧ Hid (∃ n, wr = w10.drewN n)) (fun _ x13 _ => L.length + 1 - (intOf x13).toNat)
            case atStart => exact ⟨0, Or.inr rfl, by go_num, Lib.hid ⟨0, rfl⟩⟩
            case round =>
              obtain ⟨j, hj, rfl, WN⟩ := hrel
              obtain ⟨n11, rfl⟩ := WN.out
              by_cases hlt : j + 1 < L.length
              · obtain ⟨x, hx⟩ : ∃ x, L[j]? = some x := ⟨_, List.getElem?_eq_getElem (by omega)⟩
                obtain ⟨y, hy⟩ : ∃ y, L[j + 1]? = some y := ⟨_, List.getElem?_eq_getElem hlt⟩
                have hxy : ltD x y := by
                  obtain ⟨i1, q1⟩ := List.getElem?_eq_some_iff.1 hx
                  obtain ⟨i2, q2⟩ := List.getElem?_eq_some_iff.1 hy
                  have := List.pairwise_iff_getElem.1 RI.out j (j + 1) i1 i2 (by omega)
                  rw [q1, q2] at this; exact this
                obtain ⟨b, off, cap, ev, hb, c0, c1⟩ := due_cells D10.out.row hx
                obtain ⟨b2, off2, cap2, ev2, _, e0, e1⟩ := due_cells D10.out.row hy
                injection ev with ev1 _ ev3
                subst ev1 ev3
                injection ev2 with ev1 _ ev3
                injection ev1 with ev1
                injection ev1 with ev1 ev4
                subst ev1 ev3 ev4
                obtain ⟨xw, xk⟩ := x
                obtain ⟨yw, yk⟩ := y
                simp only at c0 c1 e0 e1
                have hq1 : (j : Int) < (L.length : Int) := by omega
                have hq2 : (j : Int) + 1 < (L.length : Int) := by omega
                have wj1 : IntKind.i64.wrap ((j : Int) + 1 - 1) = (j : Int) := by rw [IntWalk.i64_in _ (by omega)]; omega
                have wj2 : IntKind.i64.wrap (j : Int) = (j : Int) := IntWalk.i64_in _ (by omega)
                have wj3 : ((j : Int) + 1).toNat = j + 1 := by omega
                have hj1 : 0 ≤ (j : Int) + 1 := by omega
                clear hx hy
                by_cases hw : xw = yw
                · subst hw
                  have g1 : decide (xw < xw) = false := by simp
                  have g2 : Op.bytesLess xk.toList yk.toList = true := by
                    rw [bytesLess_lt]
                    rcases hxy with h | ⟨_, h⟩
                    · simp at h
                    · exact decide_eq_true h
                  clear hxy
                  go_wp2
                  go_quiet (fail)
                  clear wj1 wj2 wj3
                  go_wp2
                  go_roundw
                  case rel => exact ⟨j + 1, Or.inl hlt, by go_num, Lib.hid ⟨_, rfl⟩⟩
                  case measure => simp [intOf]; omega
                · have g0 : xw < yw := by
                    rcases hxy with h | ⟨h, _⟩
                    · exact h
                    · exact absurd h hw
                  have g1 : decide (yw < xw) = false := decide_eq_false (by omega)
                  have g2 : (xw == yw) = false := by simpa using hw
                  clear hxy hw
                  go_wp2
                  go_quiet (fail)
                  clear wj1 wj2 wj3
                  go_wp2
                  go_roundw
                  case rel => exact ⟨j + 1, Or.inl hlt, by go_num, Lib.hid ⟨_, rfl⟩⟩
                  case measure => simp [intOf]; omega
              · have T11 := Lib.hid (T10.out.keep0 ((Upd.refl (fun _ => False) _).drewN n11))
                have BK11 := Lib.hid (BK10.out.drewN n11)
                generalize w10.drewN n11 = w11 at *
                have hj2 : L.length ≤ j + 1 := by omega
                have hq : ¬ ((j : Int) + 1 < (L.length : Int)) := by omega
                have a0 := BK11.out.cellAt (i := 0) rfl
                have a1 := BK11.out.cellAt (i := 1) rfl
                have D1 := Lib.hid (fun (v : World) (u : Upd (fun _ => False) w11 v) (now : Int) => two_due (T11.out.keep0 u) now 100 (by omega))
                have D2 := Lib.hid (fun (v : World) (t : Two11 w v xa xb L L) (now : Int) => two_due t.swap now 100 (by omega))
                have LQ := Lib.hid (show L.length ≤ 100 by omega)
                clear hj2 hj hlt
                go_wp2
                clear hq
                go_region_held3 (fun w' => w'.cell? ⟨w.heap.size, 0, none⟩ = some (.int .i64 n0) ∧ w'.cell? ⟨w.heap.size, 1, none⟩ = some (.int .i64 n1)) (go_keep) (first
                  | (go_at_call_of 13 (Value.pointer (some ⟨xa, 0, none⟩)); refine (D1.out _ (by first | exact Upd.refl _ _ | exact (Upd.refl _ _).drew) _).mono ?_; rintro e w12 ⟨v12, rfl, s12, t12, st12, k12⟩; (have B12 := k12 _ _ (Upd.blk (by first | exact Upd.refl (fun _ => False) _ | exact (Upd.refl (fun _ => False) _).drew) BK11.out (fun h => h))); (have y0 := B12.cellAt (i := 0) rfl); (have y1 := B12.cellAt (i := 1) rfl); (have B12H := Lib.hid B12); (have S12 := Lib.hid s12); (have T12 := Lib.hid t12); clear s12 t12 st12 k12 B12)
                  | (go_at_call_of 13 (Value.pointer (some ⟨xb, 0, none⟩)); refine (D2.out _ T12.out _).mono ?_; rintro e w13 ⟨v13, rfl, s13, t13, st13, k13⟩; (have B13 := k13 _ _ B12H.out); (have z0 := B13.cellAt (i := 0) rfl); (have z1 := B13.cellAt (i := 1) rfl); (have S13 := Lib.hid s13); (have S123 := Lib.hid (st13 _ _ _ S12.out)); (have T13 := Lib.hid t13); clear s13 t13 st13 k13 B13))
                all_goals (
                  obtain ⟨p12, p13, m1, c12, m2, c13, e12, e13, hm1, hm2, hm3, SE⟩ := ord_end (Int.le_trans (Int.min_le_left _ _) (Int.le_max_left _ _)) LQ.out S123.out S13.out
                  subst e12 e13
                  have hm4 : (m1 : Int) ≤ (m2 : Int) := by omega
                  have hm5 : (m1 : Int) ≤ (c13 : Int) := by omega
                  clear S123 S13 S12 T12 D1 D2 y0 y1 B12H z0 z1
                  have TU := Lib.hid T13.out.upd
                  have SE := Lib.hid (SE.out _ (Upd.refl _ _))
                  go_wp2_with fail
                  refine (SE.out).mono ?_
                  rintro e w14 ⟨rfl, n14, rfl⟩
                  go_wp2
                  go_ret
                  exact ⟨rfl, TU.out.drewN n14⟩)
end Go.Proofs.Ytokkhddbdjflhaa
