/- Walk: All of what is recent. -/
import Derived.Test.YthgojhchakclcaaRecD
import Derived.Test.YthgojhchakclcaaOwn
set_option linter.unusedVariables false
set_option linter.unusedSimpArgs false
namespace Go.Proofs.Ythgojhchakclcaa
open Go.RowKit
open Ring (Lk setNext setAhead chain)

set_option maxHeartbeats 2000000 in
theorem all_any (a : Nat) (ks : List ByteArray) (F : Nat → Prop) (w : World) (h : RecRep w a ks F) (hl : ks.length ≤ 100000) :
    Calls Try.prog 20 #[.pointer (some ⟨a, 0, none⟩)] w fun e w' => ∃ v, e = .returned v ∧ StrsAt w' w.heap.size v ks ∧ Upd (fun _ => False) w w' := by
  obtain ⟨mb, G, bs, m, h, rfl, rfl⟩ := h
  have a2 := h.nodes.c2 (show a ∈ a :: bs by simp)
  rw [Ring.chain_next h.ring] at a2
  have H := Lib.hid h
  have hbl : bs.length ≤ 100000 := by simpa [keysOfG] using hl
  clear h hl
  go_enter Try.func20, Try.ntmps20
  go_wp2
  obtain ⟨i0, hi0, hz0, hz1, hz2⟩ := info_parts string_info
  go_loopw [3, 4] (fun out x wr => ∃ (pre suf : List Nat), Hid (bs = pre ++ suf) ∧ x = .pointer (some ⟨Ring.first suf a, 0, none⟩) ∧ Hid (StrsAt wr w.heap.size out (keysOfG G pre)) ∧ Hid (Upd (fun _ => False) w wr)) (fun out _ _ => match out with | .slice _ n _ => bs.length - n | _ => 0)
  case atStart => exact ⟨[], bs, Lib.hid rfl, rfl, World.ownsRow_nil _ _ _ _, Upd.refl _ _⟩
  case round =>
    obtain ⟨pre, suf, HB, rfl, OW, U⟩ := hrel
    have hN := H.out.nodes.keep U.out (fun _ _ => id)
    have hn1 := hN _ (show a ∈ a :: bs by simp)
    cases suf with
    | nil =>
      have ns := neq_same a wr
      have E : pre = bs := by have := HB.out; simpa using this.symm
      rw [E] at OW
      have x0 : Ring.first [] a = a := rfl
      simp only [x0]
      clear hN hn1 E a2
      go_wp2
      go_ret
      exact ⟨_, rfl, OW.out, U.out⟩
    | cons b suf =>
      have hb : b ∈ bs := by rw [HB.out]; simp
      have hba : b ≠ a := fun e => (List.nodup_cons.1 H.out.nd).1 (by rw [← e]; exact hb)
      have n1 := neq_other hba (hN b (by simp [hb])) hn1
      have b0 := hN.c0 (show b ∈ a :: bs by simp [hb])
      have b2 := hN.c2 (show b ∈ a :: bs by simp [hb])
      have ch := H.out.ring
      rw [HB.out, Ring.chain_app] at ch
      rw [Ring.chain_next ch.2] at b2
      have x0 : Ring.first (b :: suf) a = b := rfl
      simp only [x0]
      have bl := (hN b (by simp [hb])).lt
      have hwl := U.out.size
      have hpl : pre.length + 1 ≤ 100000 := by have := congrArg List.length HB.out; simp at this; omega
      have kl : (keysOfG G pre).length = pre.length := by simp [keysOfG]
      have OWN : Hid (wr.ownsRow w.heap.size 9 1 u3 (keysOfG G pre).length ((keysOfG G pre).map Value.string)) := OW.out
      have e1 : keysOfG G (pre ++ [b]) = keysOfG G pre ++ [(G b).key] := by rw [keysOf_app]; rfl
      have E1 := Lib.hid e1
      have HB2 : Hid (bs = (pre ++ [b]) ++ suf) := by show _ = _; rw [HB.out]; simp
      have U1 := Lib.hid (U.out.alloc (.cells #[.string (G b).key] 9))
      have PL := Lib.hid kl
      have hkl : (keysOfG G pre).length + 1 ≤ 100000 := by omega
      obtain ⟨p3, c3, e3, _⟩ := own_slice OWN.out
      have BB := Lib.hid (hN b (by simp [hb]))
      clear hN hn1 ch hba e1 OW a2
      generalize keysOfG G pre = acc at *
      subst e3
      go_wp2_with (at_builtin; refine wpList_append_own _ rfl _ _ 52 rfl (w.heap.size) 9 i0 (.string ByteArray.empty) 1 16 Try.underlying52 hi0 hz0 hz1 hz2 rfl (by decide) _ _ _ rfl (OWN.out.alloc _) ⟨wr.heap.size, 0, none⟩ 1 1 [.string (G b).key] rfl rfl ?c1 ?c2 ?c3 ?c4 ?c5 ?_)
      case c1 =>
        intro x u hx
        match x with
        | 0 => simp at hx; subst hx; simp [Addr.add, World.cell?_alloc_at]
        | x + 1 => simp at hx
      case c2 => intro u hu; simp at hu; subst hu; rfl
      case c3 => unfold maxLen; omega
      case c4 => first | omega | (simp; omega)
      case c5 => simp; omega
      intro v' w' hown' hgrow _
      have U' : Upd (fun _ => False) w w' := U1.out.trans (Upd.of_grown hgrow) (fun i hi hh => by
        have hh2 : (Value.slice p3 acc.length c3).ownBlock = some i := by simpa [PL.out] using hh.symm
        have := OWN.out.lt i hh2; omega)
      have OW' : Hid (StrsAt w' w.heap.size v' (keysOfG G (pre ++ [b]))) := by
        show StrsAt _ _ _ _
        rw [E1.out]
        unfold StrsAt
        simpa [PL.out] using hown'
      have b3 := (H.out.nodes.keep U' (fun _ _ => id)).c2 (show b ∈ a :: bs by simp [hb])
      have ch := H.out.ring
      rw [HB.out, Ring.chain_app] at ch
      rw [Ring.chain_next ch.2] at b3
      have U2 := Lib.hid U'
      clear hown' hgrow U' ch b2 b0 n1 kl hkl
      obtain ⟨p4, c4, e4, _⟩ := own_slice OW'.out
      have kl2 : (keysOfG G (pre ++ [b])).length = pre.length + 1 := by simp [keysOfG]
      rw [kl2] at e4
      have hlt : pre.length < bs.length := by have := congrArg List.length HB2.out; simp at this; omega
      subst e4
      clear kl2
      go_wp2
      go_roundw
      case rel => exact ⟨pre ++ [b], suf, HB2, rfl, OW', U2⟩
      case measure => have := PL.out; simp; omega
end Go.Proofs.Ythgojhchakclcaa
