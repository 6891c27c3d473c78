/- Items: can one be? -/
import Derived.Test.YtgdenmddbgcacaaGreatDoorK14
import Derived.Test.YtgdenmddbgcacaaGreatDoorShelf
import Derived.Lib.Bytealg
import Derived.Deep.RegionHeld3
import Derived.Deep.DeepCutAuto
set_option linter.unusedVariables false
set_option linter.unusedSimpArgs false
namespace Go.Proofs.YtgdenmddbgcacaaGreatDoor
open Go.RowKit

theorem cmp_ge : ∀ a b : List UInt8, decide (0 ≤ Lib.compareBytes a b) = !Op.bytesLess a b
  | [], [] => by simp [Lib.compareBytes, Op.bytesLess]
  | [], y :: b => by simp [Lib.compareBytes, Op.bytesLess]
  | x :: a, [] => by simp [Lib.compareBytes, Op.bytesLess]
  | x :: a, y :: b => by
    rw [Lib.compareBytes, Op.bytesLess]
    by_cases h : x < y
    · simp [h]
    · by_cases k : y < x
      · have : ¬ x = y := fun e => by subst e; exact h k
        simp [h, k, this]
      · have e : x = y := UInt8.le_antisymm (UInt8.not_lt.1 k) (UInt8.not_lt.1 h)
        subst e
        simp [h, cmp_ge a b]
def cmpF (a b : ByteArray) : Int := Lib.compareBytes a.data.toList b.data.toList
set_option maxHeartbeats 4000000 in
set_option maxRecDepth 100000 in
theorem byName_any (f g : Fd) (w : World) :
    Calls Tryz.prog 73 #[fdV f, fdV g] w fun e w' => e = .returned (.int .i64 (cmpF f.1 g.1)) ∧ Upd (fun _ => False) w w' := by
  obtain ⟨a, b⟩ := f
  obtain ⟨c, d⟩ := g
  show Calls _ _ #[.agg #[.string a, .string b], .agg #[.string c, .string d]] _ _
  go_enter Tryz.func73, Tryz.ntmps73
  go_wp2_with fail
  refine (Tryz.strings_Compare _ _ _).mono ?_
  rintro e w' ⟨rfl, rfl⟩
  go_wp2
  go_ret
  exact ⟨rfl, ((Upd.refl _ _).alloc _).alloc _⟩

def prevF (l : List Fd) (k : Nat) : Option ByteArray := if k = 0 then none else (l[k - 1]?).map (·.1)
theorem fOk_drop {l : List Fd} {k : Nat} {d : Fd} (hd : l[k]? = some d) : fOk (prevF l k) (l.drop k) = (decide (d.1.size ≤ 512) && decide (d.2.size ≤ 4096) && (match prevF l k with | none => true | some n => Op.bytesLess n.toList d.1.toList) && fOk (prevF l (k + 1)) (l.drop (k + 1))) := by
  obtain ⟨h1, e⟩ := List.getElem?_eq_some_iff.1 hd
  have : prevF l (k + 1) = some d.1 := by unfold prevF; simp [hd]
  rw [this, List.drop_eq_getElem_cons h1, e]; rfl
theorem toL (a : ByteArray) : a.data.toList = a.toList := (ByteArray.toList_eq a).symm
set_option maxHeartbeats 8000000 in
set_option maxRecDepth 100000 in
theorem right_any (i : It) (v : Value) (w : World) (hv : RowOf fdc 2 w v i.flds) :
    Calls Tryz.prog 47 #[itV i v] w fun e w' => e = .returned (.bool (rightI i)) ∧ Upd (fun _ => False) w w' := by
  obtain ⟨kind, text, l⟩ := i
  obtain ⟨p, c, ev, hm⟩ := hv.len
  simp only at ev hm hv
  subst ev
  show Calls _ _ #[.agg #[.int .i64 kind, .string text, .slice p l.length c]] _ _
  have hml := hm
  unfold maxLen at hml
  have U0 : Hid (Upd (fun _ => False) w (w.alloc (.cells #[.int .i64 kind, .string text, .slice p l.length c] 31))) := (Upd.refl _ _).alloc _
  by_cases h1 : kind = 1
  · subst h1
    by_cases h2 : text.size ≤ 4096
    · have t2 : decide ((text.size : Int) ≤ 4096) = true := decide_eq_true (by omega)
      by_cases h3 : l = []
      · have R : rightI ⟨1, text, l⟩ = true := by unfold rightI; simp [h2, h3]
        have t3 : ((l.length : Int) == 0) = true := by rw [h3]; rfl
        rw [R]
        clear R h2 h3 hv
        go_enter Tryz.func47, Tryz.ntmps47
        go_wp2
        go_ret
        exact ⟨rfl, U0.out⟩
      · have R : rightI ⟨1, text, l⟩ = false := by unfold rightI; simp [h3]
        have t3 : ((l.length : Int) == 0) = false := by
          have := List.length_pos_iff.2 h3
          exact beq_false_of_ne (by omega)
        rw [R]
        clear R h2 h3 hv
        go_enter Tryz.func47, Tryz.ntmps47
        go_wp2
        go_ret
        exact ⟨rfl, U0.out⟩
    · have t2 : decide ((text.size : Int) ≤ 4096) = false := decide_eq_false (by omega)
      have R : rightI ⟨1, text, l⟩ = false := by unfold rightI; simp [h2]
      rw [R]
      clear R h2 hv
      go_enter Tryz.func47, Tryz.ntmps47
      go_wp2
      go_ret
      exact ⟨rfl, U0.out⟩
  · have k1 : (kind == 1) = false := beq_false_of_ne h1
    by_cases h2 : kind = 2
    · subst h2
      have HV := Lib.hid hv
      have BX : Hid (Blk (w.alloc (.cells #[.int .i64 2, .string text, .slice p l.length c] 31)) w.heap.size [.int .i64 2, .string text, .slice p l.length c] 31) := Blk.made _ _ _
      have HP : Hid (rightI ⟨2, text, l⟩ = (decide (text.size = 0) && decide (1 ≤ l.length) && decide (l.length ≤ 256) && fOk none l)) := by show _ = _; unfold rightI; simp
      clear hv
      go_enter Tryz.func47, Tryz.ntmps47
      go_wp2
      go_loopw [2, 24] (fun v2 x wr => v2 = .bool false ∧ ∃ (k : Nat), k ≤ l.length ∧ x = .int .i64 (k : Int) ∧ Hid (fOk none l = fOk (prevF l k) (l.drop k)) ∧ Hid (Upd (fun _ => False) (w.alloc (.cells #[.int .i64 2, .string text, .slice p l.length c] 31)) wr)) (fun _ x _ => l.length - (intOf x).toNat)
      case atStart => exact ⟨rfl, 0, by omega, rfl, rfl, Upd.refl _ _⟩
      case round =>
        obtain ⟨rfl, k, hkl, rfl, FO, U⟩ := hrel
        by_cases hlt : k < l.length
        · obtain ⟨d, hd⟩ : ∃ d, l[k]? = some d := ⟨_, List.getElem?_eq_getElem hlt⟩
          have FD := Lib.hid (fOk_drop hd)
          obtain ⟨b, off, cap, ev, hb, c0, c1⟩ := fd_cells HV.out hd
          injection ev with ev1 _ ev3
          subst ev1 ev3
          have UW := Lib.hid (U0.out.trans U.out (fun _ _ h => h))
          have c0 := (UW.out.cell (p := ⟨b, off + k * 2, none⟩) hb (fun h => h)).trans c0
          have c1 := (UW.out.cell (p := ⟨b, off + k * 2 + 1, none⟩) hb (fun h => h)).trans c1
          have hq : (k : Int) < (l.length : Int) := by omega
          have hq2 : k < l.length := hlt
          have hbr : b < wr.heap.size := Nat.lt_of_lt_of_le hb UW.out.size
          obtain ⟨d1, d2⟩ := d
          simp only at c0 c1 FD
          have HD := Lib.hid hd
          have FB : Hid (Blk (wr.alloc (.cells #[.string d1, .string d2] 69)) wr.heap.size [.string d1, .string d2] 69) := Blk.made _ _ _
          have y0 : (wr.alloc (.cells #[.string d1, .string d2] 69)).cell? ⟨wr.heap.size, 0, none⟩ = some (.string d1) := FB.out.cellAt (i := 0) rfl
          have y1 : (wr.alloc (.cells #[.string d1, .string d2] 69)).cell? ⟨wr.heap.size, 1, none⟩ = some (.string d2) := FB.out.cellAt (i := 1) rfl
          have U2 : Hid (Upd (fun _ => False) w (wr.alloc (.cells #[.string d1, .string d2] 69))) := UW.out.alloc _
          clear hd
          have UU : Hid (Upd (fun _ => False) (wr.alloc (.cells #[.string d1, .string d2] 69)) (wr.alloc (.cells #[.string d1, .string d2] 69)).drew) := Lib.hid (Upd.refl _ _).drew
          cases hf : (decide (d1.size ≤ 512) && decide (d2.size ≤ 4096)) with
          | false =>
            have FA : Hid (∀ W, Calls Tryz.prog 72 #[.agg #[.string d1, .string d2]] W fun e w' => e = .returned (.bool false) ∧ Upd (fun _ => False) W w') := Lib.hid fun W => by rw [← hf]; exact field_any (d1, d2) W
            have FX : Hid (fOk none l = false) := by show _ = _; rw [FO.out, FD.out, hf]; simp
            have KP : Hid (∀ W, Upd (fun _ => False) (wr.alloc (.cells #[.string d1, .string d2] 69)) W → W.cell? ⟨wr.heap.size, 0, none⟩ = some (.string d1) ∧ W.cell? ⟨wr.heap.size, 1, none⟩ = some (.string d2)) := Lib.hid fun W u => ⟨(u.blk FB.out (fun h => h)).cellAt (i := 0) rfl, (u.blk FB.out (fun h => h)).cellAt (i := 1) rfl⟩
            clear hf FD y0 y1
            go_upto_region 8 with (fail)
            refine wp_region_held_drew (S := fun w' => Hid (Upd (fun _ => False) (wr.alloc (.cells #[.string d1, .string d2] 69)) w')) (by kernel_rfl) ?_ (fun hHeld => ?_)
            · exact UU
            try simp only [Array.replicate, Act.put, List.setIfInBounds_toArray]
            refine' wpAnyH_take (i := 0) (oi := _) (v := _) ?hiRA1 (by kernel_rfl) (by kernel_rfl) (by kernel_rfl) ?hQRA1 ?hyRA1 (by assumption) ?restRA1
            case' hiRA1 => (first | (simp only [List.getElem?_toArray, List.getElem?_cons_succ, List.getElem?_cons_zero]; done) | (simp only [List.getElem?_toArray, List.getElem?_cons_succ, List.getElem?_cons_zero]; rfl))
            case' hQRA1 => exact fun _ _ _ h => h
            case' hyRA1 => refine Or.inl ⟨by rfl, ?_⟩
            (intro w hSw; (obtain ⟨x0, x1⟩ := KP.out _ hSw.out); go_simp; try with_reducible rfl)
            try simp only [Act.put, List.setIfInBounds_toArray, List.set_cons_zero, List.set_cons_succ]
            refine wpAnyH_ready (rs := [1]) (by kernel_rfl) (by simp) ?_
            refine' AllReadyH.cons (o := _) ?hiRA2 (fun K hK => ?hKRA2) AllReadyH.nil
            case' hiRA2 => (first | (simp only [List.getElem?_toArray, List.getElem?_cons_succ, List.getElem?_cons_zero]; done) | (simp only [List.getElem?_toArray, List.getElem?_cons_succ, List.getElem?_cons_zero]; rfl))
            go_simp
            (go_at_call 72; refine (FA.out _).mono ?_; rintro e w9 ⟨rfl, u9⟩; (have UU := Lib.hid (UU.out.trans u9 (fun _ _ h => h))))
            refine hK.out _ _ ?_ (fun hHeld => ?_)
            · exact UU
            clear hK K
            try simp only [Act.put, List.setIfInBounds_toArray, List.set_cons_zero, List.set_cons_succ]
            refine' wpAnyH_take (i := 2) (oi := _) (v := _) ?hiRA3 (by kernel_rfl) (by kernel_rfl) (by kernel_rfl) ?hQRA3 ?hyRA3 (by assumption) ?restRA3
            case' hiRA3 => (first | (simp only [List.getElem?_toArray, List.getElem?_cons_succ, List.getElem?_cons_zero]; done) | (simp only [List.getElem?_toArray, List.getElem?_cons_succ, List.getElem?_cons_zero]; rfl))
            case' hQRA3 => exact fun _ _ _ h => h
            case' hyRA3 => refine Or.inl ⟨by rfl, ?_⟩
            (intro w hSw; (try dsimp only at hSw); go_simp; try with_reducible rfl)
            try simp only [Act.put, List.setIfInBounds_toArray, List.set_cons_zero, List.set_cons_succ]
            refine' wpAnyH_take (i := 3) (oi := _) (v := _) ?hiRA4 (by kernel_rfl) (by kernel_rfl) (by kernel_rfl) ?hQRA4 ?hyRA4 (by assumption) ?restRA4
            case' hiRA4 => (first | (simp only [List.getElem?_toArray, List.getElem?_cons_succ, List.getElem?_cons_zero]; done) | (simp only [List.getElem?_toArray, List.getElem?_cons_succ, List.getElem?_cons_zero]; rfl))
            case' hQRA4 => exact fun _ _ _ h => h
            case' hyRA4 => refine Or.inl ⟨by rfl, ?_⟩
            (intro w hSw; (try dsimp only at hSw); go_simp; try with_reducible rfl)
            try simp only [Act.put, List.setIfInBounds_toArray, List.set_cons_zero, List.set_cons_succ]
            refine' wpAnyH_take (i := 4) (oi := _) (v := undef) ?hiRA5 (by kernel_rfl) (by kernel_rfl) (by kernel_rfl) ?hQRA5 ?hyRA5 (by assumption) ?restRA5
            case' hiRA5 => (first | (simp only [List.getElem?_toArray, List.getElem?_cons_succ, List.getElem?_cons_zero]; done) | (simp only [List.getElem?_toArray, List.getElem?_cons_succ, List.getElem?_cons_zero]; rfl))
            case' hQRA5 => exact fun _ _ _ h => h
            case' hyRA5 => exact Or.inr ⟨by rfl, rfl⟩
            try simp only [Act.put, List.setIfInBounds_toArray, List.set_cons_zero, List.set_cons_succ]
            refine' wpAnyH_take (i := 5) (oi := _) (v := undef) ?hiRA6 (by kernel_rfl) (by kernel_rfl) (by kernel_rfl) ?hQRA6 ?hyRA6 (by assumption) ?restRA6
            case' hiRA6 => (first | (simp only [List.getElem?_toArray, List.getElem?_cons_succ, List.getElem?_cons_zero]; done) | (simp only [List.getElem?_toArray, List.getElem?_cons_succ, List.getElem?_cons_zero]; rfl))
            case' hQRA6 => exact fun _ _ _ h => h
            case' hyRA6 => exact Or.inr ⟨by rfl, rfl⟩
            try simp only [Act.put, List.setIfInBounds_toArray, List.set_cons_zero, List.set_cons_succ]
            refine' wpAnyH_take (i := 6) (oi := _) (v := undef) ?hiRA7 (by kernel_rfl) (by kernel_rfl) (by kernel_rfl) ?hQRA7 ?hyRA7 (by assumption) ?restRA7
            case' hiRA7 => (first | (simp only [List.getElem?_toArray, List.getElem?_cons_succ, List.getElem?_cons_zero]; done) | (simp only [List.getElem?_toArray, List.getElem?_cons_succ, List.getElem?_cons_zero]; rfl))
            case' hQRA7 => exact fun _ _ _ h => h
            case' hyRA7 => exact Or.inr ⟨by rfl, rfl⟩
            try simp only [Act.put, List.setIfInBounds_toArray, List.set_cons_zero, List.set_cons_succ]
            refine' wpAnyH_take (i := 7) (oi := _) (v := undef) ?hiRA8 (by kernel_rfl) (by kernel_rfl) (by kernel_rfl) ?hQRA8 ?hyRA8 (by assumption) ?restRA8
            case' hiRA8 => (first | (simp only [List.getElem?_toArray, List.getElem?_cons_succ, List.getElem?_cons_zero]; done) | (simp only [List.getElem?_toArray, List.getElem?_cons_succ, List.getElem?_cons_zero]; rfl))
            case' hQRA8 => exact fun _ _ _ h => h
            case' hyRA8 => exact Or.inr ⟨by rfl, rfl⟩
            try simp only [Act.put, List.setIfInBounds_toArray, List.set_cons_zero, List.set_cons_succ]
            refine' wpAnyH_take (i := 8) (oi := _) (v := undef) ?hiRA9 (by kernel_rfl) (by kernel_rfl) (by kernel_rfl) ?hQRA9 ?hyRA9 (by assumption) ?restRA9
            case' hiRA9 => (first | (simp only [List.getElem?_toArray, List.getElem?_cons_succ, List.getElem?_cons_zero]; done) | (simp only [List.getElem?_toArray, List.getElem?_cons_succ, List.getElem?_cons_zero]; rfl))
            case' hQRA9 => exact fun _ _ _ h => h
            case' hyRA9 => exact Or.inr ⟨by rfl, rfl⟩
            try simp only [Act.put, List.setIfInBounds_toArray, List.set_cons_zero, List.set_cons_succ]
            refine' wpAnyH_take (i := 9) (oi := _) (v := undef) ?hiRA10 (by kernel_rfl) (by kernel_rfl) (by kernel_rfl) ?hQRA10 ?hyRA10 (by assumption) ?restRA10
            case' hiRA10 => (first | (simp only [List.getElem?_toArray, List.getElem?_cons_succ, List.getElem?_cons_zero]; done) | (simp only [List.getElem?_toArray, List.getElem?_cons_succ, List.getElem?_cons_zero]; rfl))
            case' hQRA10 => exact fun _ _ _ h => h
            case' hyRA10 => exact Or.inr ⟨by rfl, rfl⟩
            try simp only [Act.put, List.setIfInBounds_toArray, List.set_cons_zero, List.set_cons_succ]
            refine' wpAnyH_take (i := 10) (oi := _) (v := undef) ?hiRA11 (by kernel_rfl) (by kernel_rfl) (by kernel_rfl) ?hQRA11 ?hyRA11 (by assumption) ?restRA11
            case' hiRA11 => (first | (simp only [List.getElem?_toArray, List.getElem?_cons_succ, List.getElem?_cons_zero]; done) | (simp only [List.getElem?_toArray, List.getElem?_cons_succ, List.getElem?_cons_zero]; rfl))
            case' hQRA11 => exact fun _ _ _ h => h
            case' hyRA11 => exact Or.inr ⟨by rfl, rfl⟩
            try simp only [Act.put, List.setIfInBounds_toArray, List.set_cons_zero, List.set_cons_succ]
            refine' wpAnyH_take (i := 11) (oi := _) (v := undef) ?hiRA12 (by kernel_rfl) (by kernel_rfl) (by kernel_rfl) ?hQRA12 ?hyRA12 (by assumption) ?restRA12
            case' hiRA12 => (first | (simp only [List.getElem?_toArray, List.getElem?_cons_succ, List.getElem?_cons_zero]; done) | (simp only [List.getElem?_toArray, List.getElem?_cons_succ, List.getElem?_cons_zero]; rfl))
            case' hQRA12 => exact fun _ _ _ h => h
            case' hyRA12 => exact Or.inr ⟨by rfl, rfl⟩
            try simp only [Act.put, List.setIfInBounds_toArray, List.set_cons_zero, List.set_cons_succ]
            refine' wpAnyH_take (i := 12) (oi := _) (v := undef) ?hiRA13 (by kernel_rfl) (by kernel_rfl) (by kernel_rfl) ?hQRA13 ?hyRA13 (by assumption) ?restRA13
            case' hiRA13 => (first | (simp only [List.getElem?_toArray, List.getElem?_cons_succ, List.getElem?_cons_zero]; done) | (simp only [List.getElem?_toArray, List.getElem?_cons_succ, List.getElem?_cons_zero]; rfl))
            case' hQRA13 => exact fun _ _ _ h => h
            case' hyRA13 => exact Or.inr ⟨by rfl, rfl⟩
            try simp only [Act.put, List.setIfInBounds_toArray, List.set_cons_zero, List.set_cons_succ]
            refine' wpAnyH_take (i := 13) (oi := _) (v := undef) ?hiRA14 (by kernel_rfl) (by kernel_rfl) (by kernel_rfl) ?hQRA14 ?hyRA14 (by assumption) ?restRA14
            case' hiRA14 => (first | (simp only [List.getElem?_toArray, List.getElem?_cons_succ, List.getElem?_cons_zero]; done) | (simp only [List.getElem?_toArray, List.getElem?_cons_succ, List.getElem?_cons_zero]; rfl))
            case' hQRA14 => exact fun _ _ _ h => h
            case' hyRA14 => exact Or.inr ⟨by rfl, rfl⟩
            try simp only [Act.put, List.setIfInBounds_toArray, List.set_cons_zero, List.set_cons_succ]
            refine' wpAnyH_take (i := 14) (oi := _) (v := undef) ?hiRA15 (by kernel_rfl) (by kernel_rfl) (by kernel_rfl) ?hQRA15 ?hyRA15 (by assumption) ?restRA15
            case' hiRA15 => (first | (simp only [List.getElem?_toArray, List.getElem?_cons_succ, List.getElem?_cons_zero]; done) | (simp only [List.getElem?_toArray, List.getElem?_cons_succ, List.getElem?_cons_zero]; rfl))
            case' hQRA15 => exact fun _ _ _ h => h
            case' hyRA15 => exact Or.inr ⟨by rfl, rfl⟩
            try simp only [Act.put, List.setIfInBounds_toArray, List.set_cons_zero, List.set_cons_succ]
            refine' wpAnyH_take (i := 15) (oi := _) (v := undef) ?hiRA16 (by kernel_rfl) (by kernel_rfl) (by kernel_rfl) ?hQRA16 ?hyRA16 (by assumption) ?restRA16
            case' hiRA16 => (first | (simp only [List.getElem?_toArray, List.getElem?_cons_succ, List.getElem?_cons_zero]; done) | (simp only [List.getElem?_toArray, List.getElem?_cons_succ, List.getElem?_cons_zero]; rfl))
            case' hQRA16 => exact fun _ _ _ h => h
            case' hyRA16 => exact Or.inr ⟨by rfl, rfl⟩
            try simp only [Act.put, List.setIfInBounds_toArray, List.set_cons_zero, List.set_cons_succ]
            refine' wpAnyH_take (i := 16) (oi := _) (v := undef) ?hiRA17 (by kernel_rfl) (by kernel_rfl) (by kernel_rfl) ?hQRA17 ?hyRA17 (by assumption) ?restRA17
            case' hiRA17 => (first | (simp only [List.getElem?_toArray, List.getElem?_cons_succ, List.getElem?_cons_zero]; done) | (simp only [List.getElem?_toArray, List.getElem?_cons_succ, List.getElem?_cons_zero]; rfl))
            case' hQRA17 => exact fun _ _ _ h => h
            case' hyRA17 => exact Or.inr ⟨by rfl, rfl⟩
            try simp only [Act.put, List.setIfInBounds_toArray, List.set_cons_zero, List.set_cons_succ]
            refine' wpAnyH_take (i := 17) (oi := _) (v := _) ?hiRA18 (by kernel_rfl) (by kernel_rfl) (by kernel_rfl) ?hQRA18 ?hyRA18 (by assumption) ?restRA18
            case' hiRA18 => (first | (simp only [List.getElem?_toArray, List.getElem?_cons_succ, List.getElem?_cons_zero]; done) | (simp only [List.getElem?_toArray, List.getElem?_cons_succ, List.getElem?_cons_zero]; rfl))
            case' hQRA18 => exact fun _ _ _ h => h
            case' hyRA18 => refine Or.inl ⟨by rfl, ?_⟩
            (intro w hSw; (try dsimp only at hSw); go_simp; try with_reducible rfl)
            try simp only [Act.put, List.setIfInBounds_toArray, List.set_cons_zero, List.set_cons_succ]
            refine wpAnyH_done (by kernel_rfl) ?_ _
            skip
            go_wp2
            go_ret
            rw [HP.out, FX.out]
            exact ⟨by simp, U2.out.trans UU.out (fun _ _ h => h)⟩
          | true =>
            have FA : Hid (∀ W, Calls Tryz.prog 72 #[.agg #[.string d1, .string d2]] W fun e w' => e = .returned (.bool true) ∧ Upd (fun _ => False) W w') := Lib.hid fun W => by rw [← hf]; exact field_any (d1, d2) W
            have FD2 := FD.out
            rw [hf, Bool.true_and] at FD2
            have FE := Lib.hid FD2
            clear FD2 hf FD
            cases k with
            | zero =>
              simp only [Nat.zero_mul, Nat.add_zero] at c0 c1
              have FX : Hid (fOk none l = fOk (prevF l 1) (l.drop 1)) := by
                show _ = _
                rw [FO.out, FE.out]; simp [prevF]
              have KP : Hid (∀ W, Upd (fun _ => False) (wr.alloc (.cells #[.string d1, .string d2] 69)) W → W.cell? ⟨wr.heap.size, 0, none⟩ = some (.string d1) ∧ W.cell? ⟨wr.heap.size, 1, none⟩ = some (.string d2)) := Lib.hid fun W u => ⟨(u.blk FB.out (fun h => h)).cellAt (i := 0) rfl, (u.blk FB.out (fun h => h)).cellAt (i := 1) rfl⟩
              clear y0 y1
              go_upto_region 8 with (fail)
              refine wp_region_held_drew (S := fun w' => Hid (Upd (fun _ => False) (wr.alloc (.cells #[.string d1, .string d2] 69)) w')) (by kernel_rfl) ?_ (fun hHeld => ?_)
              · exact UU
              try simp only [Array.replicate, Act.put, List.setIfInBounds_toArray]
              refine' wpAnyH_take (i := 0) (oi := _) (v := _) ?hiRB1 (by kernel_rfl) (by kernel_rfl) (by kernel_rfl) ?hQRB1 ?hyRB1 (by assumption) ?restRB1
              case' hiRB1 => (first | (simp only [List.getElem?_toArray, List.getElem?_cons_succ, List.getElem?_cons_zero]; done) | (simp only [List.getElem?_toArray, List.getElem?_cons_succ, List.getElem?_cons_zero]; rfl))
              case' hQRB1 => exact fun _ _ _ h => h
              case' hyRB1 => refine Or.inl ⟨by rfl, ?_⟩
              (intro w hSw; (obtain ⟨x0, x1⟩ := KP.out _ hSw.out); go_simp; try with_reducible rfl)
              try simp only [Act.put, List.setIfInBounds_toArray, List.set_cons_zero, List.set_cons_succ]
              refine wpAnyH_ready (rs := [1]) (by kernel_rfl) (by simp) ?_
              refine' AllReadyH.cons (o := _) ?hiRB2 (fun K hK => ?hKRB2) AllReadyH.nil
              case' hiRB2 => (first | (simp only [List.getElem?_toArray, List.getElem?_cons_succ, List.getElem?_cons_zero]; done) | (simp only [List.getElem?_toArray, List.getElem?_cons_succ, List.getElem?_cons_zero]; rfl))
              go_simp
              (go_at_call 72; refine (FA.out _).mono ?_; rintro e w9 ⟨rfl, u9⟩; (have UU := Lib.hid (UU.out.trans u9 (fun _ _ h => h))))
              refine hK.out _ _ ?_ (fun hHeld => ?_)
              · exact UU
              clear hK K
              try simp only [Act.put, List.setIfInBounds_toArray, List.set_cons_zero, List.set_cons_succ]
              refine' wpAnyH_take (i := 2) (oi := _) (v := _) ?hiRB3 (by kernel_rfl) (by kernel_rfl) (by kernel_rfl) ?hQRB3 ?hyRB3 (by assumption) ?restRB3
              case' hiRB3 => (first | (simp only [List.getElem?_toArray, List.getElem?_cons_succ, List.getElem?_cons_zero]; done) | (simp only [List.getElem?_toArray, List.getElem?_cons_succ, List.getElem?_cons_zero]; rfl))
              case' hQRB3 => exact fun _ _ _ h => h
              case' hyRB3 => refine Or.inl ⟨by rfl, ?_⟩
              (intro w hSw; (try dsimp only at hSw); go_simp; try with_reducible rfl)
              try simp only [Act.put, List.setIfInBounds_toArray, List.set_cons_zero, List.set_cons_succ]
              refine' wpAnyH_take (i := 3) (oi := _) (v := _) ?hiRB4 (by kernel_rfl) (by kernel_rfl) (by kernel_rfl) ?hQRB4 ?hyRB4 (by assumption) ?restRB4
              case' hiRB4 => (first | (simp only [List.getElem?_toArray, List.getElem?_cons_succ, List.getElem?_cons_zero]; done) | (simp only [List.getElem?_toArray, List.getElem?_cons_succ, List.getElem?_cons_zero]; rfl))
              case' hQRB4 => exact fun _ _ _ h => h
              case' hyRB4 => refine Or.inl ⟨by rfl, ?_⟩
              (intro w hSw; (try dsimp only at hSw); go_simp; try with_reducible rfl)
              try simp only [Act.put, List.setIfInBounds_toArray, List.set_cons_zero, List.set_cons_succ]
              refine' wpAnyH_take (i := 4) (oi := _) (v := _) ?hiRB5 (by kernel_rfl) (by kernel_rfl) (by kernel_rfl) ?hQRB5 ?hyRB5 (by assumption) ?restRB5
              case' hiRB5 => (first | (simp only [List.getElem?_toArray, List.getElem?_cons_succ, List.getElem?_cons_zero]; done) | (simp only [List.getElem?_toArray, List.getElem?_cons_succ, List.getElem?_cons_zero]; rfl))
              case' hQRB5 => exact fun _ _ _ h => h
              case' hyRB5 => refine Or.inl ⟨by rfl, ?_⟩
              (intro w hSw; (try dsimp only at hSw); go_simp; try with_reducible rfl)
              try simp only [Act.put, List.setIfInBounds_toArray, List.set_cons_zero, List.set_cons_succ]
              refine' wpAnyH_take (i := 5) (oi := _) (v := _) ?hiRB6 (by kernel_rfl) (by kernel_rfl) (by kernel_rfl) ?hQRB6 ?hyRB6 (by assumption) ?restRB6
              case' hiRB6 => (first | (simp only [List.getElem?_toArray, List.getElem?_cons_succ, List.getElem?_cons_zero]; done) | (simp only [List.getElem?_toArray, List.getElem?_cons_succ, List.getElem?_cons_zero]; rfl))
              case' hQRB6 => exact fun _ _ _ h => h
              case' hyRB6 => refine Or.inl ⟨by rfl, ?_⟩
              (intro w hSw; (try dsimp only at hSw); go_simp; try with_reducible rfl)
              try simp only [Act.put, List.setIfInBounds_toArray, List.set_cons_zero, List.set_cons_succ]
              refine' wpAnyH_take (i := 6) (oi := _) (v := _) ?hiRB7 (by kernel_rfl) (by kernel_rfl) (by kernel_rfl) ?hQRB7 ?hyRB7 (by assumption) ?restRB7
              case' hiRB7 => (first | (simp only [List.getElem?_toArray, List.getElem?_cons_succ, List.getElem?_cons_zero]; done) | (simp only [List.getElem?_toArray, List.getElem?_cons_succ, List.getElem?_cons_zero]; rfl))
              case' hQRB7 => exact fun _ _ _ h => h
              case' hyRB7 => refine Or.inl ⟨by rfl, ?_⟩
              (intro w hSw; (try dsimp only at hSw); go_simp; try with_reducible rfl)
              try simp only [Act.put, List.setIfInBounds_toArray, List.set_cons_zero, List.set_cons_succ]
              refine' wpAnyH_take (i := 7) (oi := _) (v := undef) ?hiRB8 (by kernel_rfl) (by kernel_rfl) (by kernel_rfl) ?hQRB8 ?hyRB8 (by assumption) ?restRB8
              case' hiRB8 => (first | (simp only [List.getElem?_toArray, List.getElem?_cons_succ, List.getElem?_cons_zero]; done) | (simp only [List.getElem?_toArray, List.getElem?_cons_succ, List.getElem?_cons_zero]; rfl))
              case' hQRB8 => exact fun _ _ _ h => h
              case' hyRB8 => exact Or.inr ⟨by rfl, rfl⟩
              try simp only [Act.put, List.setIfInBounds_toArray, List.set_cons_zero, List.set_cons_succ]
              refine' wpAnyH_take (i := 8) (oi := _) (v := undef) ?hiRB9 (by kernel_rfl) (by kernel_rfl) (by kernel_rfl) ?hQRB9 ?hyRB9 (by assumption) ?restRB9
              case' hiRB9 => (first | (simp only [List.getElem?_toArray, List.getElem?_cons_succ, List.getElem?_cons_zero]; done) | (simp only [List.getElem?_toArray, List.getElem?_cons_succ, List.getElem?_cons_zero]; rfl))
              case' hQRB9 => exact fun _ _ _ h => h
              case' hyRB9 => exact Or.inr ⟨by rfl, rfl⟩
              try simp only [Act.put, List.setIfInBounds_toArray, List.set_cons_zero, List.set_cons_succ]
              refine' wpAnyH_take (i := 9) (oi := _) (v := undef) ?hiRB10 (by kernel_rfl) (by kernel_rfl) (by kernel_rfl) ?hQRB10 ?hyRB10 (by assumption) ?restRB10
              case' hiRB10 => (first | (simp only [List.getElem?_toArray, List.getElem?_cons_succ, List.getElem?_cons_zero]; done) | (simp only [List.getElem?_toArray, List.getElem?_cons_succ, List.getElem?_cons_zero]; rfl))
              case' hQRB10 => exact fun _ _ _ h => h
              case' hyRB10 => exact Or.inr ⟨by rfl, rfl⟩
              try simp only [Act.put, List.setIfInBounds_toArray, List.set_cons_zero, List.set_cons_succ]
              refine' wpAnyH_take (i := 10) (oi := _) (v := undef) ?hiRB11 (by kernel_rfl) (by kernel_rfl) (by kernel_rfl) ?hQRB11 ?hyRB11 (by assumption) ?restRB11
              case' hiRB11 => (first | (simp only [List.getElem?_toArray, List.getElem?_cons_succ, List.getElem?_cons_zero]; done) | (simp only [List.getElem?_toArray, List.getElem?_cons_succ, List.getElem?_cons_zero]; rfl))
              case' hQRB11 => exact fun _ _ _ h => h
              case' hyRB11 => exact Or.inr ⟨by rfl, rfl⟩
              try simp only [Act.put, List.setIfInBounds_toArray, List.set_cons_zero, List.set_cons_succ]
              refine' wpAnyH_take (i := 11) (oi := _) (v := undef) ?hiRB12 (by kernel_rfl) (by kernel_rfl) (by kernel_rfl) ?hQRB12 ?hyRB12 (by assumption) ?restRB12
              case' hiRB12 => (first | (simp only [List.getElem?_toArray, List.getElem?_cons_succ, List.getElem?_cons_zero]; done) | (simp only [List.getElem?_toArray, List.getElem?_cons_succ, List.getElem?_cons_zero]; rfl))
              case' hQRB12 => exact fun _ _ _ h => h
              case' hyRB12 => exact Or.inr ⟨by rfl, rfl⟩
              try simp only [Act.put, List.setIfInBounds_toArray, List.set_cons_zero, List.set_cons_succ]
              refine' wpAnyH_take (i := 12) (oi := _) (v := undef) ?hiRB13 (by kernel_rfl) (by kernel_rfl) (by kernel_rfl) ?hQRB13 ?hyRB13 (by assumption) ?restRB13
              case' hiRB13 => (first | (simp only [List.getElem?_toArray, List.getElem?_cons_succ, List.getElem?_cons_zero]; done) | (simp only [List.getElem?_toArray, List.getElem?_cons_succ, List.getElem?_cons_zero]; rfl))
              case' hQRB13 => exact fun _ _ _ h => h
              case' hyRB13 => exact Or.inr ⟨by rfl, rfl⟩
              try simp only [Act.put, List.setIfInBounds_toArray, List.set_cons_zero, List.set_cons_succ]
              refine' wpAnyH_take (i := 13) (oi := _) (v := undef) ?hiRB14 (by kernel_rfl) (by kernel_rfl) (by kernel_rfl) ?hQRB14 ?hyRB14 (by assumption) ?restRB14
              case' hiRB14 => (first | (simp only [List.getElem?_toArray, List.getElem?_cons_succ, List.getElem?_cons_zero]; done) | (simp only [List.getElem?_toArray, List.getElem?_cons_succ, List.getElem?_cons_zero]; rfl))
              case' hQRB14 => exact fun _ _ _ h => h
              case' hyRB14 => exact Or.inr ⟨by rfl, rfl⟩
              try simp only [Act.put, List.setIfInBounds_toArray, List.set_cons_zero, List.set_cons_succ]
              refine' wpAnyH_take (i := 14) (oi := _) (v := undef) ?hiRB15 (by kernel_rfl) (by kernel_rfl) (by kernel_rfl) ?hQRB15 ?hyRB15 (by assumption) ?restRB15
              case' hiRB15 => (first | (simp only [List.getElem?_toArray, List.getElem?_cons_succ, List.getElem?_cons_zero]; done) | (simp only [List.getElem?_toArray, List.getElem?_cons_succ, List.getElem?_cons_zero]; rfl))
              case' hQRB15 => exact fun _ _ _ h => h
              case' hyRB15 => exact Or.inr ⟨by rfl, rfl⟩
              try simp only [Act.put, List.setIfInBounds_toArray, List.set_cons_zero, List.set_cons_succ]
              refine' wpAnyH_take (i := 15) (oi := _) (v := undef) ?hiRB16 (by kernel_rfl) (by kernel_rfl) (by kernel_rfl) ?hQRB16 ?hyRB16 (by assumption) ?restRB16
              case' hiRB16 => (first | (simp only [List.getElem?_toArray, List.getElem?_cons_succ, List.getElem?_cons_zero]; done) | (simp only [List.getElem?_toArray, List.getElem?_cons_succ, List.getElem?_cons_zero]; rfl))
              case' hQRB16 => exact fun _ _ _ h => h
              case' hyRB16 => exact Or.inr ⟨by rfl, rfl⟩
              try simp only [Act.put, List.setIfInBounds_toArray, List.set_cons_zero, List.set_cons_succ]
              refine' wpAnyH_take (i := 16) (oi := _) (v := _) ?hiRB17 (by kernel_rfl) (by kernel_rfl) (by kernel_rfl) ?hQRB17 ?hyRB17 (by assumption) ?restRB17
              case' hiRB17 => (first | (simp only [List.getElem?_toArray, List.getElem?_cons_succ, List.getElem?_cons_zero]; done) | (simp only [List.getElem?_toArray, List.getElem?_cons_succ, List.getElem?_cons_zero]; rfl))
              case' hQRB17 => exact fun _ _ _ h => h
              case' hyRB17 => refine Or.inl ⟨by rfl, ?_⟩
              (intro w hSw; (try dsimp only at hSw); go_simp; try with_reducible rfl)
              try simp only [Act.put, List.setIfInBounds_toArray, List.set_cons_zero, List.set_cons_succ]
              refine' wpAnyH_take (i := 17) (oi := _) (v := _) ?hiRB18 (by kernel_rfl) (by kernel_rfl) (by kernel_rfl) ?hQRB18 ?hyRB18 (by assumption) ?restRB18
              case' hiRB18 => (first | (simp only [List.getElem?_toArray, List.getElem?_cons_succ, List.getElem?_cons_zero]; done) | (simp only [List.getElem?_toArray, List.getElem?_cons_succ, List.getElem?_cons_zero]; rfl))
              case' hQRB18 => exact fun _ _ _ h => h
              case' hyRB18 => refine Or.inl ⟨by rfl, ?_⟩
              (intro w hSw; (try dsimp only at hSw); go_simp; try with_reducible rfl)
              try simp only [Act.put, List.setIfInBounds_toArray, List.set_cons_zero, List.set_cons_succ]
              refine wpAnyH_done (by kernel_rfl) ?_ _
              skip
              go_wp2
              go_roundw
              case rel => exact ⟨rfl, 1, by omega, rfl, FX.out, U.out.trans ((Upd.refl (fun _ => False) wr).alloc _ |>.trans UU.out (fun _ _ h => h)) (fun _ _ h => h)⟩
              case measure => simp [intOf]; omega
            | succ j =>
              have hjl : j < l.length := by omega
              obtain ⟨pd, hpd⟩ : ∃ d, l[j]? = some d := ⟨_, List.getElem?_eq_getElem hjl⟩
              obtain ⟨b2, off2, cap2, ev2, hb2, p0, p1⟩ := fd_cells HV.out hpd
              injection ev2 with ev21 _ ev23
              injection ev21 with ev21
              injection ev21 with e1 e2 e3
              subst e1 e2
              clear ev23
              have p0 := (U2.out.cell (p := ⟨b, off + j * 2, none⟩) hb (fun h => h)).trans p0
              have p1 := (U2.out.cell (p := ⟨b, off + j * 2 + 1, none⟩) hb (fun h => h)).trans p1
              have hpv : prevF l (j + 1) = some pd.1 := by unfold prevF; simp [hpd]
              obtain ⟨n1, n2⟩ := pd
              simp only at p0 p1 hpv
              have BX2 := U.out.blk BX.out (fun h => h)
              have bx2 := (BX2.alloc (.cells #[.string d1, .string d2] 69)).cellAt (i := 2) rfl
              have lbx := BX2.lt
              have q0 : ((j : Int) + 1 > 0) := by omega
              have wj : IntKind.i64.wrap (j : Int) = (j : Int) := i64w (by omega) (by omega)
              have hj1 : (j : Int) < (l.length : Int) := by omega
              have hj0 : (0 : Int) ≤ (j : Int) := by omega
              have KP : Hid (∀ W, Upd (fun _ => False) (wr.alloc (.cells #[.string d1, .string d2] 69)) W → W.cell? ⟨wr.heap.size, 0, none⟩ = some (.string d1) ∧ W.cell? ⟨wr.heap.size, 1, none⟩ = some (.string d2) ∧ W.cell? ⟨b, off + j * 2, none⟩ = some (.string n1) ∧ W.cell? ⟨b, off + j * 2 + 1, none⟩ = some (.string n2) ∧ W.cell? ⟨w.heap.size, 2, none⟩ = some (.slice (some ⟨b, off, none⟩) l.length c)) :=
                Lib.hid fun W u => ⟨(u.blk FB.out (fun h => h)).cellAt (i := 0) rfl, (u.blk FB.out (fun h => h)).cellAt (i := 1) rfl, (u.cell (p := ⟨b, off + j * 2, none⟩) (Nat.lt_of_lt_of_le hbr (by simp)) (fun h => h)).trans p0, (u.cell (p := ⟨b, off + j * 2 + 1, none⟩) (Nat.lt_of_lt_of_le hbr (by simp)) (fun h => h)).trans p1, (u.cell (p := ⟨w.heap.size, 2, none⟩) (Nat.lt_of_lt_of_le lbx (by simp)) (fun h => h)).trans bx2⟩
              have BN : Hid (∀ W, Calls Tryz.prog 73 #[.agg #[.string n1, .string n2], .agg #[.string d1, .string d2]] W fun e w' => e = .returned (.int .i64 (cmpF n1 d1)) ∧ Upd (fun _ => False) W w') := Lib.hid fun W => byName_any (n1, n2) (d1, d2) W
              have CG : Hid (decide (0 ≤ cmpF n1 d1) = !Op.bytesLess n1.toList d1.toList) := by show _ = _; rw [← toL, ← toL]; exact cmp_ge _ _
              have qj : decide (((j + 1 : Nat) : Int) > 0) = true := decide_eq_true (by omega)
              clear hpd y0 y1 BX2 bx2
              cases hb2 : Op.bytesLess n1.toList d1.toList with
              | false =>
                have G : decide (cmpF n1 d1 ≥ 0) = true := by have := CG.out; rw [hb2] at this; simpa using this
                have FX : Hid (fOk none l = false) := by show _ = _; rw [FO.out, FE.out, hpv]; simp [hb2]
                clear hb2 hpv
                generalize cmpF n1 d1 = cf at *
                go_upto_region 8 with (fail)
                refine wp_region_held_drew (S := fun w' => Hid (Upd (fun _ => False) (wr.alloc (.cells #[.string d1, .string d2] 69)) w')) (by kernel_rfl) ?_ (fun hHeld => ?_)
                · exact UU
                try simp only [Array.replicate, Act.put, List.setIfInBounds_toArray]
                refine' wpAnyH_take (i := 0) (oi := _) (v := _) ?hiRC1 (by kernel_rfl) (by kernel_rfl) (by kernel_rfl) ?hQRC1 ?hyRC1 (by assumption) ?restRC1
                case' hiRC1 => (first | (simp only [List.getElem?_toArray, List.getElem?_cons_succ, List.getElem?_cons_zero]; done) | (simp only [List.getElem?_toArray, List.getElem?_cons_succ, List.getElem?_cons_zero]; rfl))
                case' hQRC1 => exact fun _ _ _ h => h
                case' hyRC1 => refine Or.inl ⟨by rfl, ?_⟩
                (intro w hSw; (obtain ⟨x0, x1, x2, x3, x4⟩ := KP.out _ hSw.out); go_simp; try with_reducible rfl)
                try simp only [Act.put, List.setIfInBounds_toArray, List.set_cons_zero, List.set_cons_succ]
                refine wpAnyH_ready (rs := [1]) (by kernel_rfl) (by simp) ?_
                refine' AllReadyH.cons (o := _) ?hiRC2 (fun K hK => ?hKRC2) AllReadyH.nil
                case' hiRC2 => (first | (simp only [List.getElem?_toArray, List.getElem?_cons_succ, List.getElem?_cons_zero]; done) | (simp only [List.getElem?_toArray, List.getElem?_cons_succ, List.getElem?_cons_zero]; rfl))
                go_simp
                (go_at_call 72; refine (FA.out _).mono ?_; rintro e w9 ⟨rfl, u9⟩; (have UU := Lib.hid (UU.out.trans u9 (fun _ _ h => h))))
                refine hK.out _ _ ?_ (fun hHeld => ?_)
                · exact UU
                clear hK K
                try simp only [Act.put, List.setIfInBounds_toArray, List.set_cons_zero, List.set_cons_succ]
                refine' wpAnyH_take (i := 2) (oi := _) (v := _) ?hiRC3 (by kernel_rfl) (by kernel_rfl) (by kernel_rfl) ?hQRC3 ?hyRC3 (by assumption) ?restRC3
                case' hiRC3 => (first | (simp only [List.getElem?_toArray, List.getElem?_cons_succ, List.getElem?_cons_zero]; done) | (simp only [List.getElem?_toArray, List.getElem?_cons_succ, List.getElem?_cons_zero]; rfl))
                case' hQRC3 => exact fun _ _ _ h => h
                case' hyRC3 => refine Or.inl ⟨by rfl, ?_⟩
                (intro w hSw; (try dsimp only at hSw); go_simp; try with_reducible rfl)
                try simp only [Act.put, List.setIfInBounds_toArray, List.set_cons_zero, List.set_cons_succ]
                refine' wpAnyH_take (i := 3) (oi := _) (v := _) ?hiRC4 (by kernel_rfl) (by kernel_rfl) (by kernel_rfl) ?hQRC4 ?hyRC4 (by assumption) ?restRC4
                case' hiRC4 => (first | (simp only [List.getElem?_toArray, List.getElem?_cons_succ, List.getElem?_cons_zero]; done) | (simp only [List.getElem?_toArray, List.getElem?_cons_succ, List.getElem?_cons_zero]; rfl))
                case' hQRC4 => exact fun _ _ _ h => h
                case' hyRC4 => refine Or.inl ⟨by rfl, ?_⟩
                (intro w hSw; (try dsimp only at hSw); go_simp; try with_reducible rfl)
                try simp only [Act.put, List.setIfInBounds_toArray, List.set_cons_zero, List.set_cons_succ]
                refine' wpAnyH_take (i := 4) (oi := _) (v := _) ?hiRC5 (by kernel_rfl) (by kernel_rfl) (by kernel_rfl) ?hQRC5 ?hyRC5 (by assumption) ?restRC5
                case' hiRC5 => (first | (simp only [List.getElem?_toArray, List.getElem?_cons_succ, List.getElem?_cons_zero]; done) | (simp only [List.getElem?_toArray, List.getElem?_cons_succ, List.getElem?_cons_zero]; rfl))
                case' hQRC5 => exact fun _ _ _ h => h
                case' hyRC5 => refine Or.inl ⟨by rfl, ?_⟩
                (intro w hSw; (try dsimp only at hSw); go_simp; try with_reducible rfl)
                try simp only [Act.put, List.setIfInBounds_toArray, List.set_cons_zero, List.set_cons_succ]
                refine' wpAnyH_take (i := 5) (oi := _) (v := _) ?hiRC6 (by kernel_rfl) (by kernel_rfl) (by kernel_rfl) ?hQRC6 ?hyRC6 (by assumption) ?restRC6
                case' hiRC6 => (first | (simp only [List.getElem?_toArray, List.getElem?_cons_succ, List.getElem?_cons_zero]; done) | (simp only [List.getElem?_toArray, List.getElem?_cons_succ, List.getElem?_cons_zero]; rfl))
                case' hQRC6 => exact fun _ _ _ h => h
                case' hyRC6 => refine Or.inl ⟨by rfl, ?_⟩
                (intro w hSw; (try dsimp only at hSw); go_simp; try with_reducible rfl)
                try simp only [Act.put, List.setIfInBounds_toArray, List.set_cons_zero, List.set_cons_succ]
                refine' wpAnyH_take (i := 6) (oi := _) (v := _) ?hiRC7 (by kernel_rfl) (by kernel_rfl) (by kernel_rfl) ?hQRC7 ?hyRC7 (by assumption) ?restRC7
                case' hiRC7 => (first | (simp only [List.getElem?_toArray, List.getElem?_cons_succ, List.getElem?_cons_zero]; done) | (simp only [List.getElem?_toArray, List.getElem?_cons_succ, List.getElem?_cons_zero]; rfl))
                case' hQRC7 => exact fun _ _ _ h => h
                case' hyRC7 => refine Or.inl ⟨by rfl, ?_⟩
                (intro w hSw; (try dsimp only at hSw); go_simp; try with_reducible rfl)
                try simp only [Act.put, List.setIfInBounds_toArray, List.set_cons_zero, List.set_cons_succ]
                refine' wpAnyH_take (i := 7) (oi := _) (v := _) ?hiRC8 (by kernel_rfl) (by kernel_rfl) (by kernel_rfl) ?hQRC8 ?hyRC8 (by assumption) ?restRC8
                case' hiRC8 => (first | (simp only [List.getElem?_toArray, List.getElem?_cons_succ, List.getElem?_cons_zero]; done) | (simp only [List.getElem?_toArray, List.getElem?_cons_succ, List.getElem?_cons_zero]; rfl))
                case' hQRC8 => exact fun _ _ _ h => h
                case' hyRC8 => refine Or.inl ⟨by rfl, ?_⟩
                (intro w hSw; (try dsimp only at hSw); go_simp; try with_reducible rfl)
                try simp only [Act.put, List.setIfInBounds_toArray, List.set_cons_zero, List.set_cons_succ]
                refine' wpAnyH_take (i := 8) (oi := _) (v := _) ?hiRC9 (by kernel_rfl) (by kernel_rfl) (by kernel_rfl) ?hQRC9 ?hyRC9 (by assumption) ?restRC9
                case' hiRC9 => (first | (simp only [List.getElem?_toArray, List.getElem?_cons_succ, List.getElem?_cons_zero]; done) | (simp only [List.getElem?_toArray, List.getElem?_cons_succ, List.getElem?_cons_zero]; rfl))
                case' hQRC9 => exact fun _ _ _ h => h
                case' hyRC9 => refine Or.inl ⟨by rfl, ?_⟩
                (intro w hSw; (obtain ⟨x0, x1, x2, x3, x4⟩ := KP.out _ hSw.out); go_simp; try with_reducible rfl)
                try simp only [Act.put, List.setIfInBounds_toArray, List.set_cons_zero, List.set_cons_succ]
                refine' wpAnyH_take (i := 9) (oi := _) (v := _) ?hiRC10 (by kernel_rfl) (by kernel_rfl) (by kernel_rfl) ?hQRC10 ?hyRC10 (by assumption) ?restRC10
                case' hiRC10 => (first | (simp only [List.getElem?_toArray, List.getElem?_cons_succ, List.getElem?_cons_zero]; done) | (simp only [List.getElem?_toArray, List.getElem?_cons_succ, List.getElem?_cons_zero]; rfl))
                case' hQRC10 => exact fun _ _ _ h => h
                case' hyRC10 => refine Or.inl ⟨by rfl, ?_⟩
                (intro w hSw; (try dsimp only at hSw); go_simp; try with_reducible rfl)
                try simp only [Act.put, List.setIfInBounds_toArray, List.set_cons_zero, List.set_cons_succ]
                refine' wpAnyH_take (i := 10) (oi := _) (v := _) ?hiRC11 (by kernel_rfl) (by kernel_rfl) (by kernel_rfl) ?hQRC11 ?hyRC11 (by assumption) ?restRC11
                case' hiRC11 => (first | (simp only [List.getElem?_toArray, List.getElem?_cons_succ, List.getElem?_cons_zero]; done) | (simp only [List.getElem?_toArray, List.getElem?_cons_succ, List.getElem?_cons_zero]; rfl))
                case' hQRC11 => exact fun _ _ _ h => h
                case' hyRC11 => refine Or.inl ⟨by rfl, ?_⟩
                (intro w hSw; (try dsimp only at hSw); go_simp; try with_reducible rfl)
                try simp only [Act.put, List.setIfInBounds_toArray, List.set_cons_zero, List.set_cons_succ]
                refine' wpAnyH_take (i := 11) (oi := _) (v := _) ?hiRC12 (by kernel_rfl) (by kernel_rfl) (by kernel_rfl) ?hQRC12 ?hyRC12 (by assumption) ?restRC12
                case' hiRC12 => (first | (simp only [List.getElem?_toArray, List.getElem?_cons_succ, List.getElem?_cons_zero]; done) | (simp only [List.getElem?_toArray, List.getElem?_cons_succ, List.getElem?_cons_zero]; rfl))
                case' hQRC12 => exact fun _ _ _ h => h
                case' hyRC12 => refine Or.inl ⟨by rfl, ?_⟩
                (intro w hSw; (try dsimp only at hSw); go_simp; try with_reducible rfl)
                try simp only [Act.put, List.setIfInBounds_toArray, List.set_cons_zero, List.set_cons_succ]
                refine' wpAnyH_take (i := 12) (oi := _) (v := _) ?hiRC13 (by kernel_rfl) (by kernel_rfl) (by kernel_rfl) ?hQRC13 ?hyRC13 (by assumption) ?restRC13
                case' hiRC13 => (first | (simp only [List.getElem?_toArray, List.getElem?_cons_succ, List.getElem?_cons_zero]; done) | (simp only [List.getElem?_toArray, List.getElem?_cons_succ, List.getElem?_cons_zero]; rfl))
                case' hQRC13 => exact fun _ _ _ h => h
                case' hyRC13 => refine Or.inl ⟨by rfl, ?_⟩
                (intro w hSw; (obtain ⟨x0, x1, x2, x3, x4⟩ := KP.out _ hSw.out); go_simp; try with_reducible rfl)
                try simp only [Act.put, List.setIfInBounds_toArray, List.set_cons_zero, List.set_cons_succ]
                refine' wpAnyH_take (i := 13) (oi := _) (v := _) ?hiRC14 (by kernel_rfl) (by kernel_rfl) (by kernel_rfl) ?hQRC14 ?hyRC14 (by assumption) ?restRC14
                case' hiRC14 => (first | (simp only [List.getElem?_toArray, List.getElem?_cons_succ, List.getElem?_cons_zero]; done) | (simp only [List.getElem?_toArray, List.getElem?_cons_succ, List.getElem?_cons_zero]; rfl))
                case' hQRC14 => exact fun _ _ _ h => h
                case' hyRC14 => refine Or.inl ⟨by rfl, ?_⟩
                (intro w hSw; (obtain ⟨x0, x1, x2, x3, x4⟩ := KP.out _ hSw.out); go_simp; try with_reducible rfl)
                try simp only [Act.put, List.setIfInBounds_toArray, List.set_cons_zero, List.set_cons_succ]
                refine wpAnyH_ready (rs := [14]) (by kernel_rfl) (by simp) ?_
                refine' AllReadyH.cons (o := _) ?hiRC15 (fun K hK => ?hKRC15) AllReadyH.nil
                case' hiRC15 => (first | (simp only [List.getElem?_toArray, List.getElem?_cons_succ, List.getElem?_cons_zero]; done) | (simp only [List.getElem?_toArray, List.getElem?_cons_succ, List.getElem?_cons_zero]; rfl))
                go_simp
                (go_at_call 73; refine (BN.out _).mono ?_; rintro e w9 ⟨rfl, u9⟩; (have UU := Lib.hid (UU.out.trans u9 (fun _ _ h => h))))
                refine hK.out _ _ ?_ (fun hHeld => ?_)
                · exact UU
                clear hK K
                try simp only [Act.put, List.setIfInBounds_toArray, List.set_cons_zero, List.set_cons_succ]
                refine' wpAnyH_take (i := 15) (oi := _) (v := _) ?hiRC16 (by kernel_rfl) (by kernel_rfl) (by kernel_rfl) ?hQRC16 ?hyRC16 (by assumption) ?restRC16
                case' hiRC16 => (first | (simp only [List.getElem?_toArray, List.getElem?_cons_succ, List.getElem?_cons_zero]; done) | (simp only [List.getElem?_toArray, List.getElem?_cons_succ, List.getElem?_cons_zero]; rfl))
                case' hQRC16 => exact fun _ _ _ h => h
                case' hyRC16 => refine Or.inl ⟨by rfl, ?_⟩
                (intro w hSw; (try dsimp only at hSw); go_simp; try with_reducible rfl)
                try simp only [Act.put, List.setIfInBounds_toArray, List.set_cons_zero, List.set_cons_succ]
                refine' wpAnyH_take (i := 16) (oi := _) (v := _) ?hiRC17 (by kernel_rfl) (by kernel_rfl) (by kernel_rfl) ?hQRC17 ?hyRC17 (by assumption) ?restRC17
                case' hiRC17 => (first | (simp only [List.getElem?_toArray, List.getElem?_cons_succ, List.getElem?_cons_zero]; done) | (simp only [List.getElem?_toArray, List.getElem?_cons_succ, List.getElem?_cons_zero]; rfl))
                case' hQRC17 => exact fun _ _ _ h => h
                case' hyRC17 => refine Or.inl ⟨by rfl, ?_⟩
                (intro w hSw; (try dsimp only at hSw); go_simp; try with_reducible rfl)
                try simp only [Act.put, List.setIfInBounds_toArray, List.set_cons_zero, List.set_cons_succ]
                refine' wpAnyH_take (i := 17) (oi := _) (v := _) ?hiRC18 (by kernel_rfl) (by kernel_rfl) (by kernel_rfl) ?hQRC18 ?hyRC18 (by assumption) ?restRC18
                case' hiRC18 => (first | (simp only [List.getElem?_toArray, List.getElem?_cons_succ, List.getElem?_cons_zero]; done) | (simp only [List.getElem?_toArray, List.getElem?_cons_succ, List.getElem?_cons_zero]; rfl))
                case' hQRC18 => exact fun _ _ _ h => h
                case' hyRC18 => refine Or.inl ⟨by rfl, ?_⟩
                (intro w hSw; (try dsimp only at hSw); go_simp; try with_reducible rfl)
                try simp only [Act.put, List.setIfInBounds_toArray, List.set_cons_zero, List.set_cons_succ]
                refine wpAnyH_done (by kernel_rfl) ?_ _
                skip
                go_wp2
                go_ret
                rw [HP.out, FX.out]
                exact ⟨by simp, U2.out.trans UU.out (fun _ _ h => h)⟩
              | true =>
                have G : decide (cmpF n1 d1 ≥ 0) = false := by have := CG.out; rw [hb2] at this; simpa using this
                have FX : Hid (fOk none l = fOk (prevF l (j + 1 + 1)) (l.drop (j + 1 + 1))) := by show _ = _; rw [FO.out, FE.out, hpv]; simp [hb2]
                clear hb2 hpv
                generalize cmpF n1 d1 = cf at *
                go_upto_region 8 with (fail)
                refine wp_region_held_drew (S := fun w' => Hid (Upd (fun _ => False) (wr.alloc (.cells #[.string d1, .string d2] 69)) w')) (by kernel_rfl) ?_ (fun hHeld => ?_)
                · exact UU
                try simp only [Array.replicate, Act.put, List.setIfInBounds_toArray]
                refine' wpAnyH_take (i := 0) (oi := _) (v := _) ?hiRD1 (by kernel_rfl) (by kernel_rfl) (by kernel_rfl) ?hQRD1 ?hyRD1 (by assumption) ?restRD1
                case' hiRD1 => (first | (simp only [List.getElem?_toArray, List.getElem?_cons_succ, List.getElem?_cons_zero]; done) | (simp only [List.getElem?_toArray, List.getElem?_cons_succ, List.getElem?_cons_zero]; rfl))
                case' hQRD1 => exact fun _ _ _ h => h
                case' hyRD1 => refine Or.inl ⟨by rfl, ?_⟩
                (intro w hSw; (obtain ⟨x0, x1, x2, x3, x4⟩ := KP.out _ hSw.out); go_simp; try with_reducible rfl)
                try simp only [Act.put, List.setIfInBounds_toArray, List.set_cons_zero, List.set_cons_succ]
                refine wpAnyH_ready (rs := [1]) (by kernel_rfl) (by simp) ?_
                refine' AllReadyH.cons (o := _) ?hiRD2 (fun K hK => ?hKRD2) AllReadyH.nil
                case' hiRD2 => (first | (simp only [List.getElem?_toArray, List.getElem?_cons_succ, List.getElem?_cons_zero]; done) | (simp only [List.getElem?_toArray, List.getElem?_cons_succ, List.getElem?_cons_zero]; rfl))
                go_simp
                (go_at_call 72; refine (FA.out _).mono ?_; rintro e w9 ⟨rfl, u9⟩; (have UU := Lib.hid (UU.out.trans u9 (fun _ _ h => h))))
                refine hK.out _ _ ?_ (fun hHeld => ?_)
                · exact UU
                clear hK K
                try simp only [Act.put, List.setIfInBounds_toArray, List.set_cons_zero, List.set_cons_succ]
                refine' wpAnyH_take (i := 2) (oi := _) (v := _) ?hiRD3 (by kernel_rfl) (by kernel_rfl) (by kernel_rfl) ?hQRD3 ?hyRD3 (by assumption) ?restRD3
                case' hiRD3 => (first | (simp only [List.getElem?_toArray, List.getElem?_cons_succ, List.getElem?_cons_zero]; done) | (simp only [List.getElem?_toArray, List.getElem?_cons_succ, List.getElem?_cons_zero]; rfl))
                case' hQRD3 => exact fun _ _ _ h => h
                case' hyRD3 => refine Or.inl ⟨by rfl, ?_⟩
                (intro w hSw; (try dsimp only at hSw); go_simp; try with_reducible rfl)
                try simp only [Act.put, List.setIfInBounds_toArray, List.set_cons_zero, List.set_cons_succ]
                refine' wpAnyH_take (i := 3) (oi := _) (v := _) ?hiRD4 (by kernel_rfl) (by kernel_rfl) (by kernel_rfl) ?hQRD4 ?hyRD4 (by assumption) ?restRD4
                case' hiRD4 => (first | (simp only [List.getElem?_toArray, List.getElem?_cons_succ, List.getElem?_cons_zero]; done) | (simp only [List.getElem?_toArray, List.getElem?_cons_succ, List.getElem?_cons_zero]; rfl))
                case' hQRD4 => exact fun _ _ _ h => h
                case' hyRD4 => refine Or.inl ⟨by rfl, ?_⟩
                (intro w hSw; (try dsimp only at hSw); go_simp; try with_reducible rfl)
                try simp only [Act.put, List.setIfInBounds_toArray, List.set_cons_zero, List.set_cons_succ]
                refine' wpAnyH_take (i := 4) (oi := _) (v := _) ?hiRD5 (by kernel_rfl) (by kernel_rfl) (by kernel_rfl) ?hQRD5 ?hyRD5 (by assumption) ?restRD5
                case' hiRD5 => (first | (simp only [List.getElem?_toArray, List.getElem?_cons_succ, List.getElem?_cons_zero]; done) | (simp only [List.getElem?_toArray, List.getElem?_cons_succ, List.getElem?_cons_zero]; rfl))
                case' hQRD5 => exact fun _ _ _ h => h
                case' hyRD5 => refine Or.inl ⟨by rfl, ?_⟩
                (intro w hSw; (try dsimp only at hSw); go_simp; try with_reducible rfl)
                try simp only [Act.put, List.setIfInBounds_toArray, List.set_cons_zero, List.set_cons_succ]
                refine' wpAnyH_take (i := 5) (oi := _) (v := _) ?hiRD6 (by kernel_rfl) (by kernel_rfl) (by kernel_rfl) ?hQRD6 ?hyRD6 (by assumption) ?restRD6
                case' hiRD6 => (first | (simp only [List.getElem?_toArray, List.getElem?_cons_succ, List.getElem?_cons_zero]; done) | (simp only [List.getElem?_toArray, List.getElem?_cons_succ, List.getElem?_cons_zero]; rfl))
                case' hQRD6 => exact fun _ _ _ h => h
                case' hyRD6 => refine Or.inl ⟨by rfl, ?_⟩
                (intro w hSw; (try dsimp only at hSw); go_simp; try with_reducible rfl)
                try simp only [Act.put, List.setIfInBounds_toArray, List.set_cons_zero, List.set_cons_succ]
                refine' wpAnyH_take (i := 6) (oi := _) (v := _) ?hiRD7 (by kernel_rfl) (by kernel_rfl) (by kernel_rfl) ?hQRD7 ?hyRD7 (by assumption) ?restRD7
                case' hiRD7 => (first | (simp only [List.getElem?_toArray, List.getElem?_cons_succ, List.getElem?_cons_zero]; done) | (simp only [List.getElem?_toArray, List.getElem?_cons_succ, List.getElem?_cons_zero]; rfl))
                case' hQRD7 => exact fun _ _ _ h => h
                case' hyRD7 => refine Or.inl ⟨by rfl, ?_⟩
                (intro w hSw; (try dsimp only at hSw); go_simp; try with_reducible rfl)
                try simp only [Act.put, List.setIfInBounds_toArray, List.set_cons_zero, List.set_cons_succ]
                refine' wpAnyH_take (i := 7) (oi := _) (v := _) ?hiRD8 (by kernel_rfl) (by kernel_rfl) (by kernel_rfl) ?hQRD8 ?hyRD8 (by assumption) ?restRD8
                case' hiRD8 => (first | (simp only [List.getElem?_toArray, List.getElem?_cons_succ, List.getElem?_cons_zero]; done) | (simp only [List.getElem?_toArray, List.getElem?_cons_succ, List.getElem?_cons_zero]; rfl))
                case' hQRD8 => exact fun _ _ _ h => h
                case' hyRD8 => refine Or.inl ⟨by rfl, ?_⟩
                (intro w hSw; (try dsimp only at hSw); go_simp; try with_reducible rfl)
                try simp only [Act.put, List.setIfInBounds_toArray, List.set_cons_zero, List.set_cons_succ]
                refine' wpAnyH_take (i := 8) (oi := _) (v := _) ?hiRD9 (by kernel_rfl) (by kernel_rfl) (by kernel_rfl) ?hQRD9 ?hyRD9 (by assumption) ?restRD9
                case' hiRD9 => (first | (simp only [List.getElem?_toArray, List.getElem?_cons_succ, List.getElem?_cons_zero]; done) | (simp only [List.getElem?_toArray, List.getElem?_cons_succ, List.getElem?_cons_zero]; rfl))
                case' hQRD9 => exact fun _ _ _ h => h
                case' hyRD9 => refine Or.inl ⟨by rfl, ?_⟩
                (intro w hSw; (obtain ⟨x0, x1, x2, x3, x4⟩ := KP.out _ hSw.out); go_simp; try with_reducible rfl)
                try simp only [Act.put, List.setIfInBounds_toArray, List.set_cons_zero, List.set_cons_succ]
                refine' wpAnyH_take (i := 9) (oi := _) (v := _) ?hiRD10 (by kernel_rfl) (by kernel_rfl) (by kernel_rfl) ?hQRD10 ?hyRD10 (by assumption) ?restRD10
                case' hiRD10 => (first | (simp only [List.getElem?_toArray, List.getElem?_cons_succ, List.getElem?_cons_zero]; done) | (simp only [List.getElem?_toArray, List.getElem?_cons_succ, List.getElem?_cons_zero]; rfl))
                case' hQRD10 => exact fun _ _ _ h => h
                case' hyRD10 => refine Or.inl ⟨by rfl, ?_⟩
                (intro w hSw; (try dsimp only at hSw); go_simp; try with_reducible rfl)
                try simp only [Act.put, List.setIfInBounds_toArray, List.set_cons_zero, List.set_cons_succ]
                refine' wpAnyH_take (i := 10) (oi := _) (v := _) ?hiRD11 (by kernel_rfl) (by kernel_rfl) (by kernel_rfl) ?hQRD11 ?hyRD11 (by assumption) ?restRD11
                case' hiRD11 => (first | (simp only [List.getElem?_toArray, List.getElem?_cons_succ, List.getElem?_cons_zero]; done) | (simp only [List.getElem?_toArray, List.getElem?_cons_succ, List.getElem?_cons_zero]; rfl))
                case' hQRD11 => exact fun _ _ _ h => h
                case' hyRD11 => refine Or.inl ⟨by rfl, ?_⟩
                (intro w hSw; (try dsimp only at hSw); go_simp; try with_reducible rfl)
                try simp only [Act.put, List.setIfInBounds_toArray, List.set_cons_zero, List.set_cons_succ]
                refine' wpAnyH_take (i := 11) (oi := _) (v := _) ?hiRD12 (by kernel_rfl) (by kernel_rfl) (by kernel_rfl) ?hQRD12 ?hyRD12 (by assumption) ?restRD12
                case' hiRD12 => (first | (simp only [List.getElem?_toArray, List.getElem?_cons_succ, List.getElem?_cons_zero]; done) | (simp only [List.getElem?_toArray, List.getElem?_cons_succ, List.getElem?_cons_zero]; rfl))
                case' hQRD12 => exact fun _ _ _ h => h
                case' hyRD12 => refine Or.inl ⟨by rfl, ?_⟩
                (intro w hSw; (try dsimp only at hSw); go_simp; try with_reducible rfl)
                try simp only [Act.put, List.setIfInBounds_toArray, List.set_cons_zero, List.set_cons_succ]
                refine' wpAnyH_take (i := 12) (oi := _) (v := _) ?hiRD13 (by kernel_rfl) (by kernel_rfl) (by kernel_rfl) ?hQRD13 ?hyRD13 (by assumption) ?restRD13
                case' hiRD13 => (first | (simp only [List.getElem?_toArray, List.getElem?_cons_succ, List.getElem?_cons_zero]; done) | (simp only [List.getElem?_toArray, List.getElem?_cons_succ, List.getElem?_cons_zero]; rfl))
                case' hQRD13 => exact fun _ _ _ h => h
                case' hyRD13 => refine Or.inl ⟨by rfl, ?_⟩
                (intro w hSw; (obtain ⟨x0, x1, x2, x3, x4⟩ := KP.out _ hSw.out); go_simp; try with_reducible rfl)
                try simp only [Act.put, List.setIfInBounds_toArray, List.set_cons_zero, List.set_cons_succ]
                refine' wpAnyH_take (i := 13) (oi := _) (v := _) ?hiRD14 (by kernel_rfl) (by kernel_rfl) (by kernel_rfl) ?hQRD14 ?hyRD14 (by assumption) ?restRD14
                case' hiRD14 => (first | (simp only [List.getElem?_toArray, List.getElem?_cons_succ, List.getElem?_cons_zero]; done) | (simp only [List.getElem?_toArray, List.getElem?_cons_succ, List.getElem?_cons_zero]; rfl))
                case' hQRD14 => exact fun _ _ _ h => h
                case' hyRD14 => refine Or.inl ⟨by rfl, ?_⟩
                (intro w hSw; (obtain ⟨x0, x1, x2, x3, x4⟩ := KP.out _ hSw.out); go_simp; try with_reducible rfl)
                try simp only [Act.put, List.setIfInBounds_toArray, List.set_cons_zero, List.set_cons_succ]
                refine wpAnyH_ready (rs := [14]) (by kernel_rfl) (by simp) ?_
                refine' AllReadyH.cons (o := _) ?hiRD15 (fun K hK => ?hKRD15) AllReadyH.nil
                case' hiRD15 => (first | (simp only [List.getElem?_toArray, List.getElem?_cons_succ, List.getElem?_cons_zero]; done) | (simp only [List.getElem?_toArray, List.getElem?_cons_succ, List.getElem?_cons_zero]; rfl))
                go_simp
                (go_at_call 73; refine (BN.out _).mono ?_; rintro e w9 ⟨rfl, u9⟩; (have UU := Lib.hid (UU.out.trans u9 (fun _ _ h => h))))
                refine hK.out _ _ ?_ (fun hHeld => ?_)
                · exact UU
                clear hK K
                try simp only [Act.put, List.setIfInBounds_toArray, List.set_cons_zero, List.set_cons_succ]
                refine' wpAnyH_take (i := 15) (oi := _) (v := _) ?hiRD16 (by kernel_rfl) (by kernel_rfl) (by kernel_rfl) ?hQRD16 ?hyRD16 (by assumption) ?restRD16
                case' hiRD16 => (first | (simp only [List.getElem?_toArray, List.getElem?_cons_succ, List.getElem?_cons_zero]; done) | (simp only [List.getElem?_toArray, List.getElem?_cons_succ, List.getElem?_cons_zero]; rfl))
                case' hQRD16 => exact fun _ _ _ h => h
                case' hyRD16 => refine Or.inl ⟨by rfl, ?_⟩
                (intro w hSw; (try dsimp only at hSw); go_simp; try with_reducible rfl)
                try simp only [Act.put, List.setIfInBounds_toArray, List.set_cons_zero, List.set_cons_succ]
                refine' wpAnyH_take (i := 16) (oi := _) (v := _) ?hiRD17 (by kernel_rfl) (by kernel_rfl) (by kernel_rfl) ?hQRD17 ?hyRD17 (by assumption) ?restRD17
                case' hiRD17 => (first | (simp only [List.getElem?_toArray, List.getElem?_cons_succ, List.getElem?_cons_zero]; done) | (simp only [List.getElem?_toArray, List.getElem?_cons_succ, List.getElem?_cons_zero]; rfl))
                case' hQRD17 => exact fun _ _ _ h => h
                case' hyRD17 => refine Or.inl ⟨by rfl, ?_⟩
                (intro w hSw; (try dsimp only at hSw); go_simp; try with_reducible rfl)
                try simp only [Act.put, List.setIfInBounds_toArray, List.set_cons_zero, List.set_cons_succ]
                refine' wpAnyH_take (i := 17) (oi := _) (v := _) ?hiRD18 (by kernel_rfl) (by kernel_rfl) (by kernel_rfl) ?hQRD18 ?hyRD18 (by assumption) ?restRD18
                case' hiRD18 => (first | (simp only [List.getElem?_toArray, List.getElem?_cons_succ, List.getElem?_cons_zero]; done) | (simp only [List.getElem?_toArray, List.getElem?_cons_succ, List.getElem?_cons_zero]; rfl))
                case' hQRD18 => exact fun _ _ _ h => h
                case' hyRD18 => refine Or.inl ⟨by rfl, ?_⟩
                (intro w hSw; (try dsimp only at hSw); go_simp; try with_reducible rfl)
                try simp only [Act.put, List.setIfInBounds_toArray, List.set_cons_zero, List.set_cons_succ]
                refine wpAnyH_done (by kernel_rfl) ?_ _
                skip
                go_wp2
                go_roundw
                case rel => exact ⟨rfl, j + 1 + 1, by omega, by go_num, FX.out, U.out.trans ((Upd.refl (fun _ => False) wr).alloc _ |>.trans UU.out (fun _ _ h => h)) (fun _ _ h => h)⟩
                case measure => simp [intOf]; omega
        · obtain rfl : k = l.length := by omega
          have FX : Hid (fOk none l = true) := by show _ = _; rw [FO.out, List.drop_length]; rfl
          have BX2 := U.out.blk BX.out (fun h => h)
          have bx1 := BX2.cellAt (i := 1) rfl
          have bx2 := BX2.cellAt (i := 2) rfl
          have lbx := BX2.lt
          have UW := Lib.hid (U0.out.trans U.out (fun _ _ h => h))
          clear BX2
          by_cases g1 : text.size = 0
          · have e1 : text = { data := #[] } := by
              apply ByteArray.ext
              have : text.data.size = 0 := g1
              exact Array.eq_empty_of_size_eq_zero this
            have t1 : text.toList = [] := by rw [e1, ByteArray.toList_eq]
            by_cases g2 : 1 ≤ l.length
            · have t2 : decide ((l.length : Int) ≥ 1) = true := decide_eq_true (by omega)
              by_cases g3 : l.length ≤ 256
              · have t3 : decide ((l.length : Int) ≤ 256) = true := decide_eq_true (by omega)
                have RX : Hid (rightI ⟨2, text, l⟩ = true) := by show _ = _; rw [HP.out, FX.out]; simp [g1, g2, g3]
                clear g1 g2 g3 e1
                go_wp2
                go_ret
                rw [RX.out]
                exact ⟨rfl, UW.out⟩
              · have t3 : decide ((l.length : Int) ≤ 256) = false := decide_eq_false (by omega)
                have RX : Hid (rightI ⟨2, text, l⟩ = false) := by show _ = _; rw [HP.out, FX.out]; simp [g3]
                clear g1 g2 g3 e1
                go_wp2
                go_ret
                rw [RX.out]
                exact ⟨rfl, UW.out⟩
            · have t2 : decide ((l.length : Int) ≥ 1) = false := decide_eq_false (by omega)
              have RX : Hid (rightI ⟨2, text, l⟩ = false) := by show _ = _; rw [HP.out, FX.out]; simp [g2]
              clear g1 g2 e1
              go_wp2
              go_ret
              rw [RX.out]
              exact ⟨rfl, UW.out⟩
          · have t1 : ¬ text.toList = [] := fun e => g1 (by
              rw [ByteArray.toList_eq] at e
              have := congrArg List.length e
              simpa using this)
            have RX : Hid (rightI ⟨2, text, l⟩ = false) := by show _ = _; rw [HP.out, FX.out]; simp [g1]
            clear g1
            go_wp2
            go_ret
            rw [RX.out]
            exact ⟨rfl, UW.out⟩
    · have k2 : (kind == 2) = false := beq_false_of_ne h2
      have R : rightI ⟨kind, text, l⟩ = false := by unfold rightI; simp [h1, h2]
      rw [R]
      clear R hv
      go_enter Tryz.func47, Tryz.ntmps47
      go_wp2
      go_ret
      exact ⟨rfl, U0.out⟩
end Go.Proofs.YtgdenmddbgcacaaGreatDoor
