/- Walks: Keys. -/
import Derived.Test.YtgdenmddbgcacaaGreatDoorK07
import Derived.Test.YtgdenmddbgcacaaGreatDoorK05
import Derived.Test.YtgdenmddbgcacaaGreatDoorK01
import Derived.Test.YtgdenmddbgcacaaGreatDoorChecked
import Derived.RegionTactic
import Derived.ChangeAlike
import Derived.BigRegion
set_option linter.unusedVariables false
set_option linter.unusedSimpArgs false
set_option maxRecDepth 100000
namespace Go.Proofs.YtgdenmddbgcacaaGreatDoor
open Go.RowKit
open Tbl (Pl findGo home fnv Tab)

theorem ridx0 (a b c d e f : Value) (w : World) : (Instr.index 92 (.agg #[a, b, c, d, e, f]) (.int .i64 0)).run Tryz.prog w = .ok (.agg #[a, b, c]) w := by kernel_rfl
theorem ridx1 (a b c d e f : Value) (w : World) : (Instr.index 92 (.agg #[a, b, c, d, e, f]) (.int .i64 1)).run Tryz.prog w = .ok (.agg #[d, e, f]) w := by kernel_rfl

/-- What a row's places are reached by: nil, or a block. -/
def RowV (w : World) (v : Value) (ps : List Pl) : Prop := (v = .slice none 0 0 ∧ ps = []) ∨ ∃ b, v = .slice (some ⟨b, 0, none⟩) ps.length ps.length ∧ PlAt w b ps

set_option maxHeartbeats 2000000 in
theorem keys_any (m a bo bf : Nat) (t : Tab) (w : World) (h : TabAt w a bo bf t) (hi : t.Inv m) (hm : m ≤ 10000) :
    Calls Tryz.prog 17 #[.pointer (some ⟨a, 0, none⟩)] w fun e w' => ∃ v, e = .returned v ∧ StrsAt w' w.heap.size v (sortStr t.keysRaw) ∧ Upd (fun _ => False) w w' := by
  obtain ⟨fv, hf⟩ : ∃ v, RowV w v t.fresh.pl ∧ w.cell? ⟨a, 3, none⟩ = some v := by
    cases hm : t.moving
    · exact ⟨_, Or.inl ⟨rfl, by rw [(h.rest hm).1]; rfl⟩, h.n0 hm⟩
    · exact ⟨_, Or.inr ⟨bf, rfl, h.fresh hm⟩, h.f0 hm⟩
  have c0 := h.o0
  have c1 := h.o1
  have c2 := h.o2
  have c3 := hf.2
  have c4 := h.f1
  have c5 := h.f2
  have HF := Lib.hid hf.1
  have HO : Hid (RowV w (.slice (some ⟨bo, 0, none⟩) t.old.pl.length t.old.pl.length) t.old.pl) := Or.inr ⟨bo, rfl, h.old⟩
  have l1 := hi.hi
  have l2 := hi.hi2
  generalize Value.slice (some ⟨bo, 0, none⟩) t.old.pl.length t.old.pl.length = ov at *
  clear hf h hi
  go_enter Tryz.func17, Tryz.ntmps17
  go_wp2
  go_quiet (fail)
  go_wp2
  obtain ⟨i0, hi0, hz0, hz1, hz2⟩ := info_parts string_info
  go_loopw [3, 17] (fun out c wr => ∃ (k : Nat) (pre : List ByteArray), k ≤ 2 ∧ c = .int .i64 (k : Int) ∧ pre.length ≤ k * 100000 ∧ Hid (StrsAt wr w.heap.size out pre) ∧ Hid (Upd (fun _ => False) w wr) ∧
      Hid ((k = 0 ∧ pre = []) ∨ (k = 1 ∧ pre = Tbl.keysOf t.old.pl) ∨ (k = 2 ∧ pre = t.keysRaw))) (fun _ c _ => 2 - (intOf c).toNat)
  case atStart => exact ⟨0, [], by omega, rfl, by simp, World.ownsRow_nil _ _ _ _, (Upd.refl _ _).drewN _, Or.inl ⟨rfl, rfl⟩⟩
  case round =>
    obtain ⟨k, pre, hk, rfl, hpl, OW, U, P⟩ := hrel
    by_cases hlt : k < 2
    · obtain ⟨rv, ps, f, g, hidx, hrow, hps, hnext⟩ : ∃ (rv : Value) (ps : List Pl) (f g : Int), (∀ w, (Instr.index 92 (.agg #[ov, .int .i64 t.old.full, .int .i64 t.old.graves, fv, .int .i64 t.fresh.full, .int .i64 t.fresh.graves]) (.int .i64 (k : Int))).run Tryz.prog w = .ok (.agg #[rv, .int .i64 f, .int .i64 g]) w) ∧ RowV w rv ps ∧ ps.length ≤ 100000 ∧ ((k + 1 = 1 ∧ pre ++ Tbl.keysOf ps = Tbl.keysOf t.old.pl) ∨ (k + 1 = 2 ∧ pre ++ Tbl.keysOf ps = t.keysRaw)) := by
        have : k = 0 ∨ k = 1 := by omega
        rcases this with rfl | rfl
        · refine ⟨ov, t.old.pl, _, _, ridx0 _ _ _ _ _ _, HO.out, by omega, Or.inl ⟨rfl, ?_⟩⟩
          rcases P.out with ⟨_, e⟩ | ⟨e, _⟩ | ⟨e, _⟩
          · rw [e]; rfl
          · omega
          · omega
        · refine ⟨fv, t.fresh.pl, _, _, ridx1 _ _ _ _ _ _, HF.out, by omega, Or.inr ⟨rfl, ?_⟩⟩
          rcases P.out with ⟨e, _⟩ | ⟨_, e⟩ | ⟨e, _⟩
          · omega
          · rw [e]; rfl
          · omega
      have HN := Lib.hid hnext
      clear hnext P c0 c1 c2 c3 c4 c5
      have hd : decide ((k : Int) < 2) = true := by simp; omega
      have hwl := U.out.size
      have e1 : pre.length ≤ (k + 1) * 100000 := Nat.le_trans hpl (Nat.mul_le_mul_right _ (Nat.le_succ k))
      have e2 : k + 1 ≤ 2 := by omega
      have e3 : (pre ++ Tbl.keysOf ps).length ≤ (k + 1) * 100000 := by have := Tbl.keysOf_len ps; rw [List.length_append]; omega
      obtain ⟨wo, rfl⟩ : ∃ wo : World, wo = wr := ⟨_, rfl⟩
      have KO := Lib.hid (fun o : Obj => own_keep (F := fun _ => False) OW.out ((Upd.refl (fun _ => False) wo).alloc o) (fun _ _ => id))
      rcases hrow with ⟨rfl, rfl⟩ | ⟨b, rfl, hpl2⟩
      · go_wp2
        go_rounds 1
        go_roundw
        case rel =>
          refine ⟨k + 1, pre, e2, rfl, e1, KO.out _, U.out.alloc _, Or.inr ?_⟩
          have := HN.out
          simpa [Tbl.keysOf] using this
        case measure => simp [intOf]; omega
      · have PB := Lib.hid hpl2
        clear hpl2
        go_wp2
        go_loopw [3, 23] (fun out c w2 => ∃ (j : Nat), j ≤ ps.length ∧ c = .int .i64 (j : Int) ∧ Hid (StrsAt w2 w.heap.size out (pre ++ Tbl.keysOf (ps.take j))) ∧ Hid (Upd (fun _ => False) w w2)) (fun _ c _ => ps.length - (intOf c).toNat)
        case atStart =>
          refine ⟨0, by omega, rfl, ?_, U.out.alloc _⟩
          have := KO.out (.cells #[.slice (some ⟨b, 0, none⟩) ps.length ps.length, .int .i64 f, .int .i64 g] 86)
          show StrsAt _ _ _ _
          unfold StrsAt
          simpa [Tbl.keysOf] using this
        case round =>
          obtain ⟨j, hj, rfl, OW2, U2⟩ := hrel
          by_cases hlj : j < ps.length
          · have hb := U2.out.blk PB.out id
            have hbl := Blk.lt hb
            have p0 := PlAt.st hb j hlj
            have p1 := PlAt.key hb j hlj
            have p2 := PlAt.num hb j hlj
            have hkl := Tbl.keysOf_take ps j hlj
            have hll := Tbl.keysOf_len (ps.take j)
            have hll2 : (ps.take j).length ≤ j := List.length_take_le _ _
            have hl3 : (pre ++ Tbl.keysOf (ps.take j)).length + 1 ≤ 400000 := by rw [List.length_append]; omega
            have HK := Lib.hid hkl
            clear hb hkl hll hll2
            generalize ps.getD j default = q at *
            obtain ⟨acc, hacc⟩ : ∃ acc, pre ++ Tbl.keysOf (ps.take j) = acc := ⟨_, rfl⟩
            rw [hacc] at OW2 hl3
            have HACC := Lib.hid hacc
            clear hacc
            have own := OW2.out
            unfold StrsAt at own
            have OWN := Lib.hid own
            clear own OW2
            have hw2 := U2.out.size
            go_wp2_with (at_builtin; refine wpList_append_own _ rfl _ _ 54 rfl w.heap.size 9 i0 (.string ByteArray.empty) 1 16 Tryz.underlying54 hi0 hz0 hz1 hz2 rfl (by decide) _ _ _ rfl ((OWN.out.alloc _).alloc _) ⟨wr.heap.size + 1, 0, none⟩ 1 1 [.string q.key] rfl rfl ?c1 ?c2 ?c3 ?c4 ?c5 ?_)
            case c1 =>
              intro x u hx
              match x with
              | 0 => simp at hx; subst hx; simp [Addr.add, World.cell?_alloc_at]
              | x + 1 => simp at hx
            case c2 => intro u hu; simp at hu; subst hu; rfl
            case c3 => unfold maxLen; omega
            case c4 => omega
            case c5 => simp; omega
            · intro v' w' hown' hgrow _
              have hq : (q.st == 1) = true := by assumption
              have OWN' : Hid (StrsAt w' w.heap.size v' (acc ++ [q.key])) := by
                show StrsAt _ _ _ _
                unfold StrsAt
                simpa using hown'
              have U' : Hid (Upd (fun _ => False) w w') := ((U2.out.alloc _).alloc _).trans (Upd.of_grown hgrow) (fun i hi hh => by
                have := OWN.out.lt i hh.symm; omega)
              have hkk : pre ++ Tbl.keysOf (ps.take (j + 1)) = acc ++ [q.key] := by
                rw [HK.out, if_pos (by simpa using hq), ← List.append_assoc, HACC.out]
              clear hown' hgrow
              go_wp2
              go_roundw
              case rel =>
                have OW3 : Hid (StrsAt w' w.heap.size v' (pre ++ Tbl.keysOf (ps.take (j + 1)))) := by rw [hkk]; exact OWN'
                exact ⟨j + 1, by omega, rfl, OW3, U'⟩
              case measure => simp [intOf]; omega
            · have hq : (q.st == 1) = false := by assumption
              have hkk : pre ++ Tbl.keysOf (ps.take (j + 1)) = acc := by
                rw [HK.out, if_neg (by simpa using hq), List.append_nil, HACC.out]
              have OW3 : Hid (StrsAt (wr.alloc (.cells #[.int .i64 q.st, .string q.key, .int .i64 q.n] 94)) w.heap.size u3 (pre ++ Tbl.keysOf (ps.take (j + 1)))) := by
                rw [hkk]; exact OWN.out.alloc _
              go_roundw
              case rel => exact ⟨j + 1, by omega, rfl, OW3, U2.out.alloc _⟩
              case measure => simp [intOf]; omega
          · have hje : j = ps.length := by omega
            have OW3 := OW2
            rw [hje, List.take_length] at OW3
            go_wp2
            go_roundw
            case rel => exact ⟨k + 1, pre ++ Tbl.keysOf ps, e2, rfl, e3, OW3, U2, Or.inr HN.out⟩
            case measure => simp [intOf]; omega
    · have hk2 : k = 2 := by omega
      subst hk2
      have hp : pre = t.keysRaw := by
        rcases P.out with ⟨e, _⟩ | ⟨e, _⟩ | ⟨_, e⟩
        · omega
        · omega
        · exact e
      clear P
      subst hp
      have SO := Lib.hid (sortStr_any w.heap.size _ t.keysRaw wr OW.out (by omega))
      have OLT := Lib.hid (fun k => OW.out.lt k)
      go_wp2_with fail
      refine SO.out.mono ?_
      rintro e w3 ⟨rfl, o3, u3⟩
      go_wp2
      go_ret
      exact ⟨_, rfl, o3, U.out.trans u3 (fun i hi hh => by have := OLT.out i hh; omega)⟩
end Go.Proofs.YtgdenmddbgcacaaGreatDoor
/- The table as a map: what its calls do. -/
set_option linter.unusedVariables false
set_option linter.unusedSimpArgs false
namespace Go.Proofs.YtgdenmddbgcacaaGreatDoor
open Go.RowKit
open Tbl (Tab)

theorem le_perm_eq : ∀ {a b : List (List UInt8)}, a.Pairwise (· ≤ ·) → b.Pairwise (· ≤ ·) → a.Perm b → a = b
  | [], b, _, _, h => by simpa using h.symm.eq_nil
  | x :: a, [], _, _, h => by simpa using h.eq_nil
  | x :: a, y :: b, ha, hb, h => by
    obtain ⟨ha1, ha2⟩ := List.pairwise_cons.1 ha
    obtain ⟨hb1, hb2⟩ := List.pairwise_cons.1 hb
    have hxy : x = y := by
      have h1 : x ∈ y :: b := h.mem_iff.1 (by simp)
      have h2 : y ∈ x :: a := h.mem_iff.2 (by simp)
      rcases List.mem_cons.1 h1 with e | e
      · exact e
      · rcases List.mem_cons.1 h2 with e2 | e2
        · exact e2.symm
        · exact List.le_antisymm (ha1 y e2) (hb1 x e)
    subst hxy
    rw [le_perm_eq ha2 hb2 ((List.perm_cons x).1 h)]
theorem sortStr_congr {l l' : List ByteArray} (h : l.Perm l') : sortStr l = sortStr l' := by
  have tr : ∀ a b c : List UInt8, decide (a ≤ b) = true → decide (b ≤ c) = true → decide (a ≤ c) = true := fun a b c h1 h2 => by simp only [decide_eq_true_eq] at *; exact List.le_trans h1 h2
  have tot : ∀ a b : List UInt8, (decide (a ≤ b) || decide (b ≤ a)) = true := fun a b => by simp only [Bool.or_eq_true, decide_eq_true_eq]; exact List.le_total a b
  have hs : ∀ x : List (List UInt8), (x.mergeSort fun x y => decide (x ≤ y)).Pairwise (· ≤ ·) := fun x => (List.pairwise_mergeSort tr tot x).imp (fun {a b} h => by simpa using h)
  unfold sortStr
  rw [le_perm_eq (hs (bytesOf l)) (hs (bytesOf l')) ((List.mergeSort_perm _ _).trans ((h.map _).trans (List.mergeSort_perm _ _).symm))]
/-- A table whose numbers are the map's, after n puts; E: its blocks. -/
def TabM (w : World) (a : Nat) (m : Nums) (n : Nat) (E : Nat → Prop) : Prop := ∃ t bo bf, TabAt w a bo bf t ∧ t.Inv n ∧ Alike t m ∧ E = tabF a bo bf t
section
variable {w w' : World} {a n : Nat} {m : Nums} {E : Nat → Prop}
theorem TabM.keep {G : Nat → Prop} (h : TabM w a m n E) (u : Upd G w w') (hd : ∀ k, E k → ¬ G k) : TabM w' a m n E := by
  obtain ⟨t, bo, bf, h1, h2, h3, rfl⟩ := h; exact ⟨t, bo, bf, h1.keep u hd, h2, h3, rfl⟩
theorem TabM.lt (h : TabM w a m n E) : ∀ k, E k → k < w.heap.size := by
  obtain ⟨t, bo, bf, h1, h2, h3, rfl⟩ := h; exact fun k hk => h1.lt k hk
theorem TabM.more (h : TabM w a m n E) {n' : Nat} (hn : n ≤ n') : TabM w a m n' E := by
  obtain ⟨t, bo, bf, h1, h2, h3, rfl⟩ := h; exact ⟨t, bo, bf, h1, h2.mono hn, h3, rfl⟩
theorem TabM.nd (h : TabM w a m n E) : (akeys m).Nodup := by obtain ⟨t, bo, bf, h1, h2, h3, rfl⟩ := h; exact h3.nd
theorem TabM.self (h : TabM w a m n E) : E a := by obtain ⟨t, bo, bf, h1, h2, h3, rfl⟩ := h; exact Or.inl rfl
end
theorem mput_any (w : World) (a n : Nat) (m : Nums) (E : Nat → Prop) (key : ByteArray) (x : Int) (h : TabM w a m n E) (hn : n ≤ 10000) (hk : key.size ≤ 100000) :
    Calls Tryz.prog 50 #[.pointer (some ⟨a, 0, none⟩), .string key, .int .i64 x] w fun e w' => ∃ b E', e = .returned (.bool b) ∧ TabM w' a (aset m key x) (n + 1) E' ∧ Upd E w w' ∧ FromF E E' w := by
  obtain ⟨t, bo, bf, h1, h2, h3, rfl⟩ := h
  refine (tput_any n a bo bf t key x w h1 h2 hn hk).mono ?_
  rintro e w' ⟨rfl, bo', bf', g1, g2, g3⟩
  exact ⟨_, _, rfl, ⟨_, bo', bf', g1, Tbl.put_inv h2 key x hk, h3.put h2 key x, rfl⟩, g2, g3⟩
theorem mget_any (w : World) (a n : Nat) (m : Nums) (E : Nat → Prop) (key : ByteArray) (h : TabM w a m n E) (hn : n ≤ 10000) (hk : key.size ≤ 100000) :
    Calls Tryz.prog 70 #[.pointer (some ⟨a, 0, none⟩), .string key] w fun e w' => ∃ E', e = .returned (.tuple #[.int .i64 ((aget m key).getD 0), .bool (aget m key).isSome]) ∧ TabM w' a m n E' ∧ Upd E w w' ∧ FromF E E' w := by
  obtain ⟨t, bo, bf, h1, h2, h3, rfl⟩ := h
  refine (tget_any n a bo bf t key w h1 h2 hn hk).mono ?_
  rintro e w' ⟨rfl, bo', bf', g1, g2, g3⟩
  obtain ⟨a1, a2⟩ := h3.get h2 key
  rw [a2]
  exact ⟨_, rfl, ⟨_, bo', bf', g1, Tbl.step_inv h2, a1, rfl⟩, g2, g3⟩
theorem mdrop_any (w : World) (a n : Nat) (m : Nums) (E : Nat → Prop) (key : ByteArray) (h : TabM w a m n E) (hn : n ≤ 10000) (hk : key.size ≤ 100000) :
    Calls Tryz.prog 106 #[.pointer (some ⟨a, 0, none⟩), .string key] w fun e w' => ∃ E', e = .returned (.tuple #[.int .i64 ((aget m key).getD 0), .bool (aget m key).isSome]) ∧ TabM w' a (adel m key) n E' ∧ Upd E w w' ∧ FromF E E' w := by
  obtain ⟨t, bo, bf, h1, h2, h3, rfl⟩ := h
  refine (tdrop_any n a bo bf t key w h1 h2 hn hk).mono ?_
  rintro e w' ⟨rfl, bo', bf', g1, g2, g3⟩
  obtain ⟨a1, a2⟩ := h3.drop h2 key
  rw [a2]
  exact ⟨_, rfl, ⟨_, bo', bf', g1, Tbl.drop_inv h2 key, a1, rfl⟩, g2, g3⟩
theorem mkeys_any (w : World) (a n : Nat) (m : Nums) (E : Nat → Prop) (h : TabM w a m n E) (hn : n ≤ 10000) :
    Calls Tryz.prog 17 #[.pointer (some ⟨a, 0, none⟩)] w fun e w' => ∃ v, e = .returned v ∧ StrsAt w' w.heap.size v (sortStr (akeys m)) ∧ Upd (fun _ => False) w w' := by
  obtain ⟨t, bo, bf, h1, h2, h3, rfl⟩ := h
  refine (keys_any n a bo bf t w h1 h2 hn).mono ?_
  rintro e w' ⟨v, rfl, s, u⟩
  have hp : t.keysRaw.Perm (akeys m) := (List.perm_ext_iff_of_nodup (Tbl.keysRaw_nodup h3.good) h3.nd).2 h3.keys
  exact ⟨v, rfl, by rw [← sortStr_congr hp]; exact s, u⟩
theorem mlen_any (w : World) (a n : Nat) (m : Nums) (E : Nat → Prop) (h : TabM w a m n E) (hn : n ≤ 10000) :
    Calls Tryz.prog 10 #[.pointer (some ⟨a, 0, none⟩)] w fun e w' => e = .returned (.int .i64 (m.length : Int)) ∧ Upd (fun _ => False) w w' := by
  obtain ⟨t, bo, bf, h1, h2, h3, rfl⟩ := h
  have l1 := h2.hi
  have l2 := h2.hi2
  obtain ⟨x1, x2, x3, x4⟩ := h2.of
  obtain ⟨y1, y2, y3, y4⟩ := h2.ff
  refine (len_any a bo bf t w h1 x1 (by omega) y1 (by omega)).mono ?_
  rintro e w' ⟨rfl, k, rfl⟩
  exact ⟨by rw [h3.len h2], (Upd.refl _ _).drewN k⟩
theorem mnew_any (w : World) :
    Calls Tryz.prog 24 #[] w fun e w' => ∃ a E, e = .returned (.pointer (some ⟨a, 0, none⟩)) ∧ TabM w' a [] 0 E ∧ Upd (fun _ => False) w w' ∧ ∀ k, E k → w.heap.size ≤ k := by
  refine (new_any w).mono ?_
  rintro e w' ⟨a, F, rfl, ⟨bo, bf, h, rfl⟩, u, k⟩
  exact ⟨a, _, rfl, ⟨_, bo, bf, h, Tbl.inv_new 0, Alike.new, rfl⟩, u, k⟩
theorem mclear_any (w : World) (a n : Nat) (m : Nums) (E : Nat → Prop) (h : TabM w a m n E) :
    Calls Tryz.prog 65 #[.pointer (some ⟨a, 0, none⟩)] w fun e w' => ∃ E', e = .returned (.tuple #[]) ∧ TabM w' a [] 0 E' ∧ Upd E w w' ∧ FromF E E' w := by
  obtain ⟨t, bo, bf, h1, h2, h3, rfl⟩ := h
  refine (tclear_any a bo bf t w h1).mono ?_
  rintro e w' ⟨rfl, bo', bf', g1, g2, g3⟩
  exact ⟨_, rfl, ⟨_, bo', bf', g1, Tbl.inv_new 0, Alike.new, rfl⟩, g2, g3⟩
end Go.Proofs.YtgdenmddbgcacaaGreatDoor
/- A ring of links, plain: keys between the one ahead and the next. -/
set_option linter.unusedVariables false
set_option linter.unusedSimpArgs false
namespace Ring

structure Lk where
  key : ByteArray
  ahead : Nat
  next : Nat
def setNext (G : Nat → Lk) (x y : Nat) : Nat → Lk := fun b => if b = x then { G b with next := y } else G b
def setAhead (G : Nat → Lk) (x y : Nat) : Nat → Lk := fun b => if b = x then { G b with ahead := y } else G b
@[simp] theorem setNext_key (G : Nat → Lk) (x y b : Nat) : (setNext G x y b).key = (G b).key := by unfold setNext; split <;> rfl
@[simp] theorem setAhead_key (G : Nat → Lk) (x y b : Nat) : (setAhead G x y b).key = (G b).key := by unfold setAhead; split <;> rfl
@[simp] theorem setNext_ahead (G : Nat → Lk) (x y b : Nat) : (setNext G x y b).ahead = (G b).ahead := by unfold setNext; split <;> rfl
@[simp] theorem setAhead_next (G : Nat → Lk) (x y b : Nat) : (setAhead G x y b).next = (G b).next := by unfold setAhead; split <;> rfl
theorem setNext_next (G : Nat → Lk) (x y b : Nat) : (setNext G x y b).next = if b = x then y else (G b).next := by unfold setNext; split <;> rfl
theorem setAhead_ahead (G : Nat → Lk) (x y b : Nat) : (setAhead G x y b).ahead = if b = x then y else (G b).ahead := by unfold setAhead; split <;> rfl

/-- From x over the blocks of l to z, each next to the one ahead of it. -/
def chain (G : Nat → Lk) (x : Nat) : List Nat → Nat → Prop
  | [], z => (G x).next = z ∧ (G z).ahead = x
  | b :: r, z => (G x).next = b ∧ (G b).ahead = x ∧ chain G b r z
theorem chain_app {G : Nat → Lk} {x z b : Nat} {l r : List Nat} : chain G x (l ++ b :: r) z ↔ chain G x l b ∧ chain G b r z := by
  induction l generalizing x with
  | nil => simp only [List.nil_append, chain]; constructor
           · rintro ⟨h1, h2, h3⟩; exact ⟨⟨h1, h2⟩, h3⟩
           · rintro ⟨⟨h1, h2⟩, h3⟩; exact ⟨h1, h2, h3⟩
  | cons c l ih => simp only [List.cons_append, chain, ih]; constructor
                   · rintro ⟨h1, h2, h3, h4⟩; exact ⟨⟨h1, h2, h3⟩, h4⟩
                   · rintro ⟨⟨h1, h2, h3⟩, h4⟩; exact ⟨h1, h2, h3, h4⟩
/-- What is first, what is last. -/
def first (l : List Nat) (z : Nat) : Nat := l.headD z
def last (x : Nat) (l : List Nat) : Nat := l.getLastD x
theorem chain_next {G : Nat → Lk} {x z : Nat} {l : List Nat} (h : chain G x l z) : (G x).next = first l z := by
  cases l with
  | nil => exact h.1
  | cons b r => exact h.1
theorem chain_ahead {G : Nat → Lk} {x z : Nat} {l : List Nat} (h : chain G x l z) : (G z).ahead = last x l := by
  induction l generalizing x with
  | nil => exact h.2
  | cons b r ih =>
    rw [ih h.2.2]
    cases r <;> rfl
theorem chain_congr {G H : Nat → Lk} {x z : Nat} {l : List Nat} (h : chain G x l z) (hx : (H x).next = (G x).next) (hz : (H z).ahead = (G z).ahead) (hl : ∀ b ∈ l, (H b).next = (G b).next ∧ (H b).ahead = (G b).ahead) : chain H x l z := by
  induction l generalizing x with
  | nil => exact ⟨hx.trans h.1, hz.trans h.2⟩
  | cons b r ih =>
    have := hl b (by simp)
    exact ⟨hx.trans h.1, this.2.trans h.2.1, ih h.2.2 this.1 (fun c hc => hl c (by simp [hc]))⟩
/-- The end of a chain is turned to another block. -/
theorem chain_end {G : Nat → Lk} {x z z' : Nat} {l : List Nat} (h : chain G x l z) (hn : (x :: l).Nodup) (hz : z' ∉ l) :
    chain (setAhead (setNext G (last x l) z') z' (last x l)) x l z' := by
  induction l generalizing x with
  | nil => simp [chain, last, setNext_next, setAhead_ahead]
  | cons b r ih =>
    simp only [List.mem_cons, not_or] at hz
    have hn2 : (b :: r).Nodup := (List.nodup_cons.1 hn).2
    have hl : last x (b :: r) = last b r := by cases r <;> rfl
    have hin : last b r ∈ b :: r := by
      unfold last; rw [List.getLastD_eq_getLast?]
      cases hr : r.getLast? with
      | none => simp
      | some c => simp [List.mem_of_getLast? hr]
    have hne : x ≠ last b r := fun e => (List.nodup_cons.1 hn).1 (by rw [e]; exact hin)
    rw [hl]
    refine ⟨?_, ?_, ih h.2.2 hn2 hz.2⟩
    · simp only [setAhead_next, setNext_next, if_neg hne]; exact h.1
    · simp only [setAhead_ahead, setNext_ahead, if_neg (Ne.symm hz.1)]; exact h.2.1
theorem last_app (x b : Nat) (l r : List Nat) : last x (l ++ b :: r) = last b r := by
  unfold last; rw [List.getLastD_eq_getLast?, List.getLastD_eq_getLast?]; simp [List.getLast?_append, List.getLast?_cons]
theorem last_mem (x : Nat) (l : List Nat) : last x l ∈ x :: l := by
  unfold last; rw [List.getLastD_eq_getLast?]
  cases hr : l.getLast? with
  | none => simp
  | some c => simp [List.mem_of_getLast? hr]
theorem first_mem (z : Nat) (l : List Nat) : first l z ∈ z :: l := by
  unfold first; cases l <;> simp
/-- a link leaves the ring -/
theorem chain_out0 {G : Nat → Lk} {a b : Nat} {l r : List Nat} (h : chain G a (l ++ b :: r) a) (hn : (a :: (l ++ b :: r)).Nodup) :
    chain (setAhead (setNext G (G b).ahead (G b).next) (G b).next (G b).ahead) a (l ++ r) a := by
  obtain ⟨h1, h2⟩ := chain_app.1 h
  rw [chain_ahead h1, chain_next h2]
  have hn1 : (a :: l).Nodup := by
    have := hn.sublist (l₁ := a :: l) (by simp)
    exact this
  cases r with
  | nil =>
    rw [List.append_nil]
    exact chain_end h1 hn1 (fun hm => (List.nodup_cons.1 hn).1 (List.mem_append_left _ hm))
  | cons c r =>
    have hcl : c ∉ l := fun hm => by
      have := (List.nodup_append.1 (List.nodup_cons.1 hn).2).2.2 c hm c (by simp)
      exact this rfl
    rw [chain_app]
    refine ⟨chain_end h1 hn1 hcl, ?_⟩
    have h3 := h2.2.2
    have hcr : c ∉ r := fun hm => by
      have := (List.nodup_append.1 (List.nodup_cons.1 hn).2).2.1
      simp only [List.nodup_cons, List.mem_cons, not_or] at this
      exact this.2.1 hm
    have hlr : ∀ x ∈ c :: r, last a l ≠ x := fun x hx e => by
      have hm := last_mem a l
      rw [e, List.mem_cons] at hm
      rcases hm with rfl | hm
      · exact (List.nodup_cons.1 hn).1 (List.mem_append_right _ (List.mem_cons_of_mem _ hx))
      · have := (List.nodup_append.1 (List.nodup_cons.1 hn).2).2.2 x hm x (List.mem_cons_of_mem _ hx)
        exact this rfl
    refine chain_congr h3 ?_ ?_ ?_
    · simp only [first, List.headD_cons, setAhead_next, setNext_next, if_neg (Ne.symm (hlr c (by simp)))]
    · have : a ≠ c := fun e => (List.nodup_cons.1 hn).1 (by simp [e])
      simp only [first, List.headD_cons, setAhead_ahead, if_neg this, setNext_ahead]
    · intro x hx
      have h5 := hlr x (by simp [hx])
      have h6 : x ≠ c := fun e => hcr (e ▸ hx)
      simp only [first, List.headD_cons, setAhead_next, setNext_next, if_neg (Ne.symm h5), setAhead_ahead, if_neg h6, setNext_ahead, and_self]
/-- a link is the last one -/
theorem chain_last {G : Nat → Lk} {a b : Nat} {l : List Nat} (h : chain G a l a) (hn : (a :: l).Nodup) (hb : b ∉ a :: l) :
    chain (setAhead (setNext (setNext (setAhead G b (G a).ahead) b a) (G a).ahead b) a b) a (l ++ [b]) a := by
  simp only [List.mem_cons, not_or] at hb
  rw [chain_app, chain_ahead h]
  have hlb : last a l ≠ b := fun e => by
    have := last_mem a l
    rw [e, List.mem_cons] at this
    rcases this with g | g
    · exact hb.1 g
    · exact hb.2 g
  constructor
  · have h1 := chain_end (z' := b) h hn hb.2
    refine chain_congr h1 ?_ ?_ ?_
    · by_cases e : a = last a l
      · simp only [setAhead_next, setNext_next, if_pos e]
      · simp only [setAhead_next, setNext_next, if_neg e, if_neg (Ne.symm hb.1)]
    · simp only [setAhead_ahead, if_neg hb.1, setNext_ahead, if_true]
    · intro x hx
      have e1 : x ≠ b := fun e => hb.2 (e ▸ hx)
      have e2 : x ≠ a := fun e => (List.nodup_cons.1 hn).1 (e ▸ hx)
      simp only [setAhead_next, setNext_next, setAhead_ahead, setNext_ahead, if_neg e1, if_neg e2, and_self]
  · simp only [chain, setAhead_next, setNext_next, setAhead_ahead, if_neg (Ne.symm hlb), if_true, and_self]
theorem chain_out {G : Nat → Lk} {a b : Nat} {l r : List Nat} (h : chain G a (l ++ b :: r) a) (hn : (a :: (l ++ b :: r)).Nodup) :
    (G b).ahead ∈ a :: (l ++ r) ∧ (G b).next ∈ a :: (l ++ r) := by
  obtain ⟨h1, h2⟩ := chain_app.1 h
  rw [chain_ahead h1, chain_next h2]
  constructor
  · have := last_mem a l
    simp only [List.mem_cons, List.mem_append] at this ⊢
    rcases this with h | h
    · exact Or.inl h
    · exact Or.inr (Or.inl h)
  · have := first_mem a r
    simp only [List.mem_cons, List.mem_append] at this ⊢
    rcases this with h | h
    · exact Or.inl h
    · exact Or.inr (Or.inr h)
/-- one more block's link -/
def put (G : Nat → Lk) (b : Nat) (k : ByteArray) (x y : Nat) : Nat → Lk := fun i => if i = b then ⟨k, x, y⟩ else G i
theorem put_at (G : Nat → Lk) (b : Nat) (k : ByteArray) (x y : Nat) : put G b k x y b = ⟨k, x, y⟩ := by unfold put; rw [if_pos rfl]
theorem put_ne (G : Nat → Lk) {b i : Nat} (k : ByteArray) (x y : Nat) (h : i ≠ b) : put G b k x y i = G i := by unfold put; rw [if_neg h]
/-- The ring with the link b as the last one. -/
def withLast (G : Nat → Lk) (a b : Nat) (k : ByteArray) : Nat → Lk := setAhead (setNext (put G b k (G a).ahead a) (G a).ahead b) a b
theorem chain_with {G : Nat → Lk} {a b : Nat} {k : ByteArray} {l : List Nat} (h : chain G a l a) (hn : (a :: l).Nodup) (hb : b ∉ a :: l) : chain (withLast G a b k) a (l ++ [b]) a := by
  have h2 := chain_last h hn hb
  have e : ∀ i, (withLast G a b k i).next = (setAhead (setNext (setNext (setAhead G b (G a).ahead) b a) (G a).ahead b) a b i).next ∧ (withLast G a b k i).ahead = (setAhead (setNext (setNext (setAhead G b (G a).ahead) b a) (G a).ahead b) a b i).ahead := by
    intro i
    unfold withLast
    by_cases hi : i = b
    · subst hi; simp [setAhead_next, setNext_next, setAhead_ahead, put_at]
    · simp [setAhead_next, setNext_next, setAhead_ahead, put_ne G k _ _ hi, hi]
  exact chain_congr h2 (e _).1 (e _).2 (fun b _ => e b)
theorem with_key_at (G : Nat → Lk) (a b : Nat) (k : ByteArray) : (withLast G a b k b).key = k := by unfold withLast; simp [put_at]
theorem with_key (G : Nat → Lk) {a b i : Nat} (k : ByteArray) (h : i ≠ b) : (withLast G a b k i).key = (G i).key := by unfold withLast; simp [put_ne G k _ _ h]
/-- The ring without the link b. -/
def without (G : Nat → Lk) (b : Nat) : Nat → Lk := setAhead (setNext G (G b).ahead (G b).next) (G b).next (G b).ahead
theorem without_key (G : Nat → Lk) (b i : Nat) : (without G b i).key = (G i).key := by unfold without; simp
theorem chain_without {G : Nat → Lk} {a b : Nat} {l r : List Nat} (h : chain G a (l ++ b :: r) a) (hn : (a :: (l ++ b :: r)).Nodup) : chain (without G b) a (l ++ r) a := chain_out0 h hn
end Ring
/- The ring in memory, and the walks that turn links. -/
set_option linter.unusedVariables false
set_option linter.unusedSimpArgs false
set_option maxRecDepth 100000
namespace Go.Proofs.YtgdenmddbgcacaaGreatDoor
open Go.RowKit
open Ring (Lk setNext setAhead chain)

def linkc (x : Lk) : List Value := [.string x.key, ptr x.ahead, ptr x.next]
def nodec (a mb : Nat) (G : Nat → Lk) (b : Nat) : List Value := linkc (G b) ++ (if b = a then [.map (some mb)] else [])
def nodet (a b : Nat) : TypeId := if b = a then 111 else 108
def Nodes (w : World) (a mb : Nat) (G : Nat → Lk) (S : List Nat) : Prop := ∀ b ∈ S, Blk w b (nodec a mb G b) (nodet a b)

section
variable {w : World} {a mb : Nat} {G : Nat → Lk} {S : List Nat}
theorem Nodes.keep {w' : World} {F : Nat → Prop} (h : Nodes w a mb G S) (u : Upd F w w') (hF : ∀ b ∈ S, ¬ F b) : Nodes w' a mb G S := fun b hb => u.blk (h b hb) (hF b hb)
theorem Nodes.setNext (h : Nodes w a mb G S) (x y : Nat) : Nodes (w.setCell ⟨x, 2, none⟩ (ptr y)) a mb (setNext G x y) S := fun b hb => by
  by_cases e : b = x
  · subst e
    have := (h b hb).set 2 (ptr y)
    have e : (nodec a mb G b).set 2 (ptr y) = nodec a mb (Ring.setNext G b y) b := by simp [nodec, linkc, Ring.setNext]
    rw [e] at this; exact this
  · have := (h b hb).set_other (b' := x) (o := 2) (v := ptr y) e
    have e : nodec a mb G b = nodec a mb (Ring.setNext G x y) b := by simp [nodec, linkc, Ring.setNext, e]
    rw [e] at this; exact this
theorem Nodes.setAhead (h : Nodes w a mb G S) (x y : Nat) : Nodes (w.setCell ⟨x, 1, none⟩ (ptr y)) a mb (setAhead G x y) S := fun b hb => by
  by_cases e : b = x
  · subst e
    have := (h b hb).set 1 (ptr y)
    have e : (nodec a mb G b).set 1 (ptr y) = nodec a mb (Ring.setAhead G b y) b := by simp [nodec, linkc, Ring.setAhead]
    rw [e] at this; exact this
  · have := (h b hb).set_other (b' := x) (o := 1) (v := ptr y) e
    have e : nodec a mb G b = nodec a mb (Ring.setAhead G x y) b := by simp [nodec, linkc, Ring.setAhead, e]
    rw [e] at this; exact this
theorem Nodes.drew (h : Nodes w a mb G S) : Nodes w.drew a mb G S := fun b hb => (h b hb).drew
theorem Nodes.drewN (h : Nodes w a mb G S) (n : Nat) : Nodes (w.drewN n) a mb G S := fun b hb => (h b hb).drewN n
theorem Nodes.alloc (h : Nodes w a mb G S) (o : Obj) : Nodes (w.alloc o) a mb G S := fun b hb => (h b hb).alloc o
theorem Nodes.c0 (h : Nodes w a mb G S) {b : Nat} (hb : b ∈ S) : w.cell? ⟨b, 0, none⟩ = some (.string (G b).key) := (h b hb).cellAt (by simp [nodec, linkc])
theorem Nodes.c1 (h : Nodes w a mb G S) {b : Nat} (hb : b ∈ S) : w.cell? ⟨b, 1, none⟩ = some (.pointer (some ⟨(G b).ahead, 0, none⟩)) := (h b hb).cellAt (by simp [nodec, linkc, ptr])
theorem Nodes.c2 (h : Nodes w a mb G S) {b : Nat} (hb : b ∈ S) : w.cell? ⟨b, 2, none⟩ = some (.pointer (some ⟨(G b).next, 0, none⟩)) := (h b hb).cellAt (by simp [nodec, linkc, ptr])
theorem Nodes.c3 (h : Nodes w a mb G S) (hb : a ∈ S) : w.cell? ⟨a, 3, none⟩ = some (.map (some mb)) := (h a hb).cellAt (by simp [nodec, linkc])
theorem Nodes.fr (h : Nodes w a mb G S) {b : Nat} (hb : b ∈ S) (i : Nat) : w.frozen? ⟨b, i, none⟩ = false := (h b hb).free i
end

set_option maxHeartbeats 1000000 in
theorem out_any (a mb : Nat) (G : Nat → Lk) (S : List Nat) (b : Nat) (w : World) (h : Nodes w a mb G S) (hb : b ∈ S) (hx : (G b).ahead ∈ S) (hy : (G b).next ∈ S) :
    Calls Tryz.prog 79 #[.pointer (some ⟨b, 0, none⟩)] w fun e w' => e = .returned (.tuple #[]) ∧ Nodes w' a mb (Ring.without G b) S ∧ Upd (fun k => k = (G b).ahead ∨ k = (G b).next) w w' := by
  unfold Ring.without
  have c1 := h.c1 hb
  have c2 := h.c2 hb
  have d1 := h.c2 hx
  have d2 := h.c1 hy
  have f1 := h.fr hx 2
  have f2 := h.fr hy 1
  have H := Lib.hid h
  clear h
  generalize (G b).ahead = x at *
  generalize (G b).next = y at *
  go_enter Tryz.func79, Tryz.ntmps79
  go_region
  go_end0
  exact ⟨rfl, ((H.out.setNext x y).setAhead y x).drew, (((Upd.refl (fun k => k = x ∨ k = y) w).set (fun _ => Or.inl rfl)).set (fun _ => Or.inr rfl)).drew⟩

set_option maxHeartbeats 1000000 in
theorem last_any (a mb : Nat) (G : Nat → Lk) (S : List Nat) (b : Nat) (k : ByteArray) (v1 v2 : Value) (w : World) (h : Nodes w a mb G S) (hB : Blk w b [.string k, v1, v2] 108) (ha : a ∈ S) (hb : b ∉ S) (hx : (G a).ahead ∈ S) :
    Calls Tryz.prog 80 #[.pointer (some ⟨a, 0, none⟩), .pointer (some ⟨b, 0, none⟩)] w fun e w' => e = .returned (.tuple #[]) ∧
      Nodes w' a mb (Ring.withLast G a b k) (b :: S) ∧ Upd (fun k => k = a ∨ k = b ∨ k = (G a).ahead) w w' := by
  have hba : b ≠ a := fun e => hb (e ▸ ha)
  have hbx : (G a).ahead ≠ b := fun e => hb (e ▸ hx)
  have c1 := h.c1 ha
  have d1 : w.cell? ⟨b, 1, none⟩ = some v1 := hB.cellAt rfl
  have d2 : w.cell? ⟨b, 2, none⟩ = some v2 := hB.cellAt rfl
  have f1 := hB.free 1
  have f2 := hB.free 2
  have e1 := h.c2 hx
  have f3 := h.fr hx 2
  have f4 := h.fr ha 1
  have H := Lib.hid h
  have HB := Lib.hid hB
  unfold Ring.withLast
  clear h hB
  generalize (G a).ahead = x at *
  go_enter Tryz.func80, Tryz.ntmps80
  go_wp2
  go_region
  obtain ⟨w2, E⟩ : ∃ w2, ((w.setCell ⟨b, 1, none⟩ (.pointer (some ⟨x, 0, none⟩))).setCell ⟨b, 2, none⟩ (.pointer (some ⟨a, 0, none⟩))).drew = w2 := ⟨_, rfl⟩
  rw [E]
  have h2 : Nodes w2 a mb (Ring.put G b k x a) (b :: S) := by
    rw [← E]
    intro i hi
    rcases List.mem_cons.1 hi with rfl | hi
    · have := ((HB.out.set 1 (ptr x)).set 2 (ptr a)).drew
      have en : nodec a mb (Ring.put G i k x a) i = [.string k, ptr x, ptr a] := by simp [nodec, linkc, Ring.put_at, hba]
      have et : nodet a i = 108 := by simp [nodet, hba]
      rw [en, et]; exact this
    · have hne : i ≠ b := fun e => hb (e ▸ hi)
      have := (((H.out i hi).set_other (o := 1) (v := ptr x) hne).set_other (o := 2) (v := ptr a) hne).drew
      have en : nodec a mb (Ring.put G b k x a) i = nodec a mb G i := by simp [nodec, Ring.put_ne G k x a hne]
      rw [en]; exact this
  have u2 : Upd (fun k => k = a ∨ k = b ∨ k = x) w w2 := E ▸ (((Upd.refl (fun k => k = a ∨ k = b ∨ k = x) w).set (fun _ => Or.inr (Or.inl rfl))).set (fun _ => Or.inr (Or.inl rfl))).drew
  have g1 := h2.c1 (b := b) (by simp)
  have g2 := h2.c2 (b := b) (by simp)
  have g3 := h2.c2 (b := x) (by simp [hx])
  have g4 := h2.c1 (b := a) (by simp [ha])
  have f5 := h2.fr (b := x) (by simp [hx]) 2
  have f6 := h2.fr (b := a) (by simp [ha]) 1
  rw [Ring.put_at] at g1 g2
  have H2 := Lib.hid h2
  have U2 := Lib.hid u2
  clear c1 d1 d2 f1 f2 e1 f3 f4 E h2 u2
  go_wp2
  go_region
  go_end0
  exact ⟨rfl, ((H2.out.setNext x b).setAhead a b).drew, ((U2.out.set (fun _ => Or.inr (Or.inr rfl))).set (fun _ => Or.inl rfl)).drew⟩
end Go.Proofs.YtgdenmddbgcacaaGreatDoor
