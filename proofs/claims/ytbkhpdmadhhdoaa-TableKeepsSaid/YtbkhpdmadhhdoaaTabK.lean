/- Walks: Keys. -/
import Derived.Test.YtbkhpdmadhhdoaaTabG
import Derived.Test.YtbkhpdmadhhdoaaSort
set_option linter.unusedVariables false
set_option linter.unusedSimpArgs false
namespace Go.Proofs.Ytbkhpdmadhhdoaa
open Go.RowKit
open Tbl (Pl findGo home fnv Tab)

theorem string_info : (Try.prog.info? 9).map (fun i => (i.zero, i.size, i.bytes)) = some (some (.string ByteArray.empty), 1, 16) := by kernel_rfl

theorem ridx0 (a b c d e f : Value) (w : World) : (Instr.index 58 (.agg #[a, b, c, d, e, f]) (.int .i64 0)).run Try.prog w = .ok (.agg #[a, b, c]) w := by kernel_rfl
theorem ridx1 (a b c d e f : Value) (w : World) : (Instr.index 58 (.agg #[a, b, c, d, e, f]) (.int .i64 1)).run Try.prog w = .ok (.agg #[d, e, f]) w := by kernel_rfl

/-- What a row's places are reached by: nil, or a block. -/
def RowV (w : World) (v : Value) (ps : List Pl) : Prop := (v = .slice none 0 0 ∧ ps = []) ∨ ∃ b, v = .slice (some ⟨b, 0, none⟩) ps.length ps.length ∧ PlAt w b ps

set_option maxHeartbeats 2000000 in
theorem keys_any (m a bo bf : Nat) (t : Tab) (w : World) (h : TabAt w a bo bf t) (hi : t.Inv m) (hm : m ≤ 10000) :
    Calls Try.prog 17 #[.pointer (some ⟨a, 0, none⟩)] w fun e w' => ∃ v, e = .returned v ∧ StrsAt w' w.heap.size v (sortStr t.keysRaw) ∧ Upd (fun _ => False) w w' := by
  obtain ⟨fv, hf⟩ : ∃ v, RowV w v t.fresh.pl ∧ w.cell? ⟨a, 3, none⟩ = some v := by
    cases hm : t.moving
    · exact ⟨_, Or.inl ⟨rfl, by rw [(h.rest hm).1]; rfl⟩, h.n0 hm⟩
    · exact ⟨_, Or.inr ⟨bf, rfl, h.fresh hm⟩, h.f0 hm⟩
  have c0 := h.o0
  have c1 := h.o1
  have c2 := h.o2
  have c3 := hf.2
  have c4 := h.f1
  have c5 := h.f2
  have HF := Lib.hid hf.1
  have HO : Hid (RowV w (.slice (some ⟨bo, 0, none⟩) t.old.pl.length t.old.pl.length) t.old.pl) := Or.inr ⟨bo, rfl, h.old⟩
  have l1 := hi.hi
  have l2 := hi.hi2
  generalize Value.slice (some ⟨bo, 0, none⟩) t.old.pl.length t.old.pl.length = ov at *
  clear hf h hi
  go_enter Try.func17, Try.ntmps17
  go_wp2
  go_quiet (fail)
  go_wp2
  obtain ⟨i0, hi0, hz0, hz1, hz2⟩ := info_parts string_info
  go_loopw [3, 17] (fun out c wr => ∃ (k : Nat) (pre : List ByteArray), k ≤ 2 ∧ c = .int .i64 (k : Int) ∧ pre.length ≤ k * 100000 ∧ Hid (StrsAt wr w.heap.size out pre) ∧ Hid (Upd (fun _ => False) w wr) ∧
      Hid ((k = 0 ∧ pre = []) ∨ (k = 1 ∧ pre = Tbl.keysOf t.old.pl) ∨ (k = 2 ∧ pre = t.keysRaw))) (fun _ c _ => 2 - (intOf c).toNat)
  case atStart => exact ⟨0, [], by omega, rfl, by simp, World.ownsRow_nil _ _ _ _, (Upd.refl _ _).drewN _, Or.inl ⟨rfl, rfl⟩⟩
  case round =>
    obtain ⟨k, pre, hk, rfl, hpl, OW, U, P⟩ := hrel
    by_cases hlt : k < 2
    · obtain ⟨rv, ps, f, g, hidx, hrow, hps, hnext⟩ : ∃ (rv : Value) (ps : List Pl) (f g : Int), (∀ w, (Instr.index 58 (.agg #[ov, .int .i64 t.old.full, .int .i64 t.old.graves, fv, .int .i64 t.fresh.full, .int .i64 t.fresh.graves]) (.int .i64 (k : Int))).run Try.prog w = .ok (.agg #[rv, .int .i64 f, .int .i64 g]) w) ∧ RowV w rv ps ∧ ps.length ≤ 100000 ∧ ((k + 1 = 1 ∧ pre ++ Tbl.keysOf ps = Tbl.keysOf t.old.pl) ∨ (k + 1 = 2 ∧ pre ++ Tbl.keysOf ps = t.keysRaw)) := by
        have : k = 0 ∨ k = 1 := by omega
        rcases this with rfl | rfl
        · refine ⟨ov, t.old.pl, _, _, ridx0 _ _ _ _ _ _, HO.out, by omega, Or.inl ⟨rfl, ?_⟩⟩
          rcases P.out with ⟨_, e⟩ | ⟨e, _⟩ | ⟨e, _⟩
          · rw [e]; rfl
          · omega
          · omega
        · refine ⟨fv, t.fresh.pl, _, _, ridx1 _ _ _ _ _ _, HF.out, by omega, Or.inr ⟨rfl, ?_⟩⟩
          rcases P.out with ⟨e, _⟩ | ⟨_, e⟩ | ⟨e, _⟩
          · omega
          · rw [e]; rfl
          · omega
      have HN := Lib.hid hnext
      clear hnext P c0 c1 c2 c3 c4 c5
      have hd : decide ((k : Int) < 2) = true := by simp; omega
      have hwl := U.out.size
      have e1 : pre.length ≤ (k + 1) * 100000 := Nat.le_trans hpl (Nat.mul_le_mul_right _ (Nat.le_succ k))
      have e2 : k + 1 ≤ 2 := by omega
      have e3 : (pre ++ Tbl.keysOf ps).length ≤ (k + 1) * 100000 := by have := Tbl.keysOf_len ps; rw [List.length_append]; omega
      obtain ⟨wo, rfl⟩ : ∃ wo : World, wo = wr := ⟨_, rfl⟩
      have KO := Lib.hid (fun o : Obj => own_keep (F := fun _ => False) OW.out ((Upd.refl (fun _ => False) wo).alloc o) (fun _ _ => id))
      rcases hrow with ⟨rfl, rfl⟩ | ⟨b, rfl, hpl2⟩
      · go_wp2
        go_rounds 1
        go_roundw
        case rel =>
          refine ⟨k + 1, pre, e2, rfl, e1, KO.out _, U.out.alloc _, Or.inr ?_⟩
          have := HN.out
          simpa [Tbl.keysOf] using this
        case measure => simp [intOf]; omega
      · have PB := Lib.hid hpl2
        clear hpl2
        go_wp2
        go_loopw [3, 23] (fun out c w2 => ∃ (j : Nat), j ≤ ps.length ∧ c = .int .i64 (j : Int) ∧ Hid (StrsAt w2 w.heap.size out (pre ++ Tbl.keysOf (ps.take j))) ∧ Hid (Upd (fun _ => False) w w2)) (fun _ c _ => ps.length - (intOf c).toNat)
        case atStart =>
          refine ⟨0, by omega, rfl, ?_, U.out.alloc _⟩
          have := KO.out (.cells #[.slice (some ⟨b, 0, none⟩) ps.length ps.length, .int .i64 f, .int .i64 g] 47)
          show StrsAt _ _ _ _
          unfold StrsAt
          simpa [Tbl.keysOf] using this
        case round =>
          obtain ⟨j, hj, rfl, OW2, U2⟩ := hrel
          by_cases hlj : j < ps.length
          · have hb := U2.out.blk PB.out id
            have hbl := Blk.lt hb
            have p0 := PlAt.st hb j hlj
            have p1 := PlAt.key hb j hlj
            have p2 := PlAt.num hb j hlj
            have hkl := Tbl.keysOf_take ps j hlj
            have hll := Tbl.keysOf_len (ps.take j)
            have hll2 : (ps.take j).length ≤ j := List.length_take_le _ _
            have hl3 : (pre ++ Tbl.keysOf (ps.take j)).length + 1 ≤ 400000 := by rw [List.length_append]; omega
            have HK := Lib.hid hkl
            clear hb hkl hll hll2
            generalize ps.getD j default = q at *
            obtain ⟨acc, hacc⟩ : ∃ acc, pre ++ Tbl.keysOf (ps.take j) = acc := ⟨_, rfl⟩
            rw [hacc] at OW2 hl3
            have HACC := Lib.hid hacc
            clear hacc
            have own := OW2.out
            unfold StrsAt at own
            have OWN := Lib.hid own
            clear own OW2
            have hw2 := U2.out.size
            go_wp2_with (at_builtin; refine wpList_append_own _ rfl _ _ 40 rfl w.heap.size 9 i0 (.string ByteArray.empty) 1 16 Try.underlying40 hi0 hz0 hz1 hz2 rfl (by decide) _ _ _ rfl ((OWN.out.alloc _).alloc _) ⟨wr.heap.size + 1, 0, none⟩ 1 1 [.string q.key] rfl rfl ?c1 ?c2 ?c3 ?c4 ?c5 ?_)
            case c1 =>
              intro x u hx
              match x with
              | 0 => simp at hx; subst hx; simp [Addr.add, World.cell?_alloc_at]
              | x + 1 => simp at hx
            case c2 => intro u hu; simp at hu; subst hu; rfl
            case c3 => unfold maxLen; omega
            case c4 => omega
            case c5 => simp; omega
            · intro v' w' hown' hgrow _
              have hq : (q.st == 1) = true := by assumption
              have OWN' : Hid (StrsAt w' w.heap.size v' (acc ++ [q.key])) := by
                show StrsAt _ _ _ _
                unfold StrsAt
                simpa using hown'
              have U' : Hid (Upd (fun _ => False) w w') := ((U2.out.alloc _).alloc _).trans (Upd.of_grown hgrow) (fun i hi hh => by
                have := OWN.out.lt i hh.symm; omega)
              have hkk : pre ++ Tbl.keysOf (ps.take (j + 1)) = acc ++ [q.key] := by
                rw [HK.out, if_pos (by simpa using hq), ← List.append_assoc, HACC.out]
              clear hown' hgrow
              go_wp2
              go_roundw
              case rel =>
                have OW3 : Hid (StrsAt w' w.heap.size v' (pre ++ Tbl.keysOf (ps.take (j + 1)))) := by rw [hkk]; exact OWN'
                exact ⟨j + 1, by omega, rfl, OW3, U'⟩
              case measure => simp [intOf]; omega
            · have hq : (q.st == 1) = false := by assumption
              have hkk : pre ++ Tbl.keysOf (ps.take (j + 1)) = acc := by
                rw [HK.out, if_neg (by simpa using hq), List.append_nil, HACC.out]
              have OW3 : Hid (StrsAt (wr.alloc (.cells #[.int .i64 q.st, .string q.key, .int .i64 q.n] 55)) w.heap.size u3 (pre ++ Tbl.keysOf (ps.take (j + 1)))) := by
                rw [hkk]; exact OWN.out.alloc _
              go_roundw
              case rel => exact ⟨j + 1, by omega, rfl, OW3, U2.out.alloc _⟩
              case measure => simp [intOf]; omega
          · have hje : j = ps.length := by omega
            have OW3 := OW2
            rw [hje, List.take_length] at OW3
            go_wp2
            go_roundw
            case rel => exact ⟨k + 1, pre ++ Tbl.keysOf ps, e2, rfl, e3, OW3, U2, Or.inr HN.out⟩
            case measure => simp [intOf]; omega
    · have hk2 : k = 2 := by omega
      subst hk2
      have hp : pre = t.keysRaw := by
        rcases P.out with ⟨e, _⟩ | ⟨e, _⟩ | ⟨_, e⟩
        · omega
        · omega
        · exact e
      clear P
      subst hp
      have SO := Lib.hid (sortStr_any w.heap.size _ t.keysRaw wr OW.out (by omega))
      have OLT := Lib.hid (fun k => OW.out.lt k)
      go_wp2_with fail
      refine SO.out.mono ?_
      rintro e w3 ⟨rfl, o3, u3⟩
      go_wp2
      go_ret
      exact ⟨_, rfl, o3, U.out.trans u3 (fun i hi hh => by have := OLT.out i hh; omega)⟩
end Go.Proofs.Ytbkhpdmadhhdoaa
