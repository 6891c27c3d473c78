/- Walks: a row taken. -/
import Derived.Test.YthgojhchakclcaaKeyB
set_option linter.unusedVariables false
set_option linter.unusedSimpArgs false
namespace Go.Proofs.Ythgojhchakclcaa
open Go.RowKit

theorem zeroI (w : World) : (zeroValue 29).run Try.prog w = .ok (.slice none 0 0) w := by rfl
theorem mem_adel {κ ν : Type} [DecidableEq κ] {m : List (κ × ν)} (h : (akeys m).Nodup) (k k' : κ) : k' ∈ akeys (adel m k) ↔ k' ∈ akeys m ∧ k' ≠ k := by
  have h1 : ∀ {m : List (κ × ν)} {x : κ}, x ∈ akeys m ↔ aget m x ≠ none := fun {m x} => by
    constructor
    · intro hx e; exact (aget_none.1 e) hx
    · intro hx; exact Decidable.not_not.1 fun hh => hx (aget_none.2 hh)
  rw [h1, h1, aget_adel h]
  by_cases e : k = k'
  · subst e; simp
  · rw [if_neg e]; exact ⟨fun h => ⟨h, fun e2 => e e2.symm⟩, fun h => h.1⟩
theorem ints_cell {w : World} {base : Nat} {v : Value} {xs : List Int} (h : IntsAt w base v xs) {j : Nat} (hj : j < xs.length) : ∃ b cap, v = .slice (some ⟨b, 0, none⟩) xs.length cap ∧ w.cell? ⟨b, j, none⟩ = some (.int .i64 xs[j]) ∧ b < w.heap.size := by
  rcases ints_blk h with ⟨_, rfl⟩ | ⟨b, cap, cs, rfl, hb, hB, hc, hm⟩
  · simp at hj
  · refine ⟨b, cap, rfl, hB.cellAt ?_, hB.lt⟩
    rw [List.getElem?_append_left (by simpa using hj)]
    simp [hj]

/-- The row of a key, as a slice. -/
def rowV (rv : ByteArray → Value) (ri : ByteArray → Option (List Int)) (k : ByteArray) : Value := match ri k with
  | none => .slice none 0 0
  | some _ => rv k
section
variable {w w' : World} {base kb rb rows reads : Nat} {most : Int} {ks : List ByteArray} {F : Nat → Prop} {R : List (ByteArray × Value)} {rv : ByteArray → Value} {ri : ByteArray → Option (List Int)} {Q : List (Int × Value)} {iv : Int → Nat} {im : Int → List (ByteArray × Value)}
theorem KRaw.rowAt (h : KRaw w base kb rb rows reads most ks F R rv ri Q iv im) (k : ByteArray) : IntsAt w base (rowV rv ri k) ((ri k).getD []) := by
  unfold rowV
  cases e : ri k with
  | none => exact World.ownsRow_nil _ _ _ _
  | some l => exact h.rrow k l e
theorem KRaw.rowLook (h : KRaw w base kb rb rows reads most ks F R rv ri Q iv im) (k : ByteArray) :
    (Instr.lookup 35 (.map (some rows)) (.string k) false).run Try.prog w = .ok (rowV rv ri k) w := by
  have := h.rmap.look keyS Try.underlying35 (zeroI w) k false
  refine Eq.trans this ?_
  rw [h.rget]
  unfold rowV
  cases ri k <;> rfl
theorem KRaw.rowOwn (h : KRaw w base kb rb rows reads most ks F R rv ri Q iv im) {k : ByteArray} {b : Nat} (hb : (rowV rv ri k).ownBlock = some b) : ∃ l, ri k = some l ∧ (rv k).ownBlock = some b := by
  unfold rowV at hb
  cases e : ri k with
  | none => rw [e] at hb; cases hb
  | some l => rw [e] at hb; exact ⟨l, rfl, hb⟩
end

set_option maxHeartbeats 2000000 in
theorem take_raw (base kb rb rows reads : Nat) (most : Int) (ks : List ByteArray) (F : Nat → Prop) (R : List (ByteArray × Value)) (rv : ByteArray → Value) (ri : ByteArray → Option (List Int)) (Q : List (Int × Value)) (iv : Int → Nat) (im : Int → List (ByteArray × Value))
    (key : ByteArray) (w : World) (h : KRaw w base kb rb rows reads most ks F R rv ri Q iv im) (hD : ∀ id ∈ (ri key).getD [], key ∈ akeys (im id)) (hnd : ((ri key).getD []).Nodup) (hl : ∀ id, (im id).length ≤ 100000) (hrl : ((ri key).getD []).length ≤ 100000) :
    Calls Try.prog 15 #[.pointer (some ⟨kb, 0, none⟩), .string key] w fun e w' => e = .returned (rowV rv ri key) ∧ IntsAt w' base (rowV rv ri key) ((ri key).getD []) ∧
      (∃ F' Q' im', KRaw w' base kb rb rows reads most (ks.erase key) F' (adel R key) rv (upd ri key none) Q' iv im' ∧ FromF F F' w ∧ (∀ id, (im' id).length ≤ (im id).length) ∧ (∀ id k, k ∈ akeys (im' id) ↔ k ∈ akeys (im id) ∧ ¬ (k = key ∧ id ∈ (ri key).getD []))) ∧
      Upd (fun b => F b ∨ b = rows ∨ b = reads ∨ ∃ id, im id ≠ [] ∧ b = iv id) w w' := by
  have c1 : w.cell? ⟨kb, 1, none⟩ = some (.map (some rows)) := h.blk.cellAt rfl
  have lk := h.rowLook key
  have hra := h.rowAt key
  obtain ⟨p, c, ev, _⟩ := own_slice hra
  rw [ev] at lk
  have HV := Lib.hid ev
  have H := Lib.hid h
  have HD := Lib.hid hD
  have HN := Lib.hid hnd
  have HL := Lib.hid hl
  obtain ⟨l, el⟩ : ∃ l, (ri key).getD [] = l := ⟨_, rfl⟩
  rw [el] at lk hrl HD HN hra
  have EL := Lib.hid el
  have RA := Lib.hid hra
  clear ev h hD hnd hl hra
  rw [el] at HV ⊢
  rw [HV.out]
  clear el
  go_enter Try.func15, Try.ntmps15
  go_wp2
  go_loopw [16] (fun x wr => ∃ (j : Nat) (Qj : List (Int × Value)) (imj : Int → List (ByteArray × Value)), j ≤ l.length ∧ x = .int .i64 (j : Int) ∧ Hid (KRaw wr base kb rb rows reads most ks F R rv ri Qj iv imj) ∧ Hid (Upd (fun b => b = reads ∨ ∃ id, im id ≠ [] ∧ b = iv id) w wr) ∧
      Hid (∀ id, (imj id).length ≤ (im id).length) ∧ Hid (∀ id k, k ∈ akeys (imj id) ↔ k ∈ akeys (im id) ∧ ¬ (k = key ∧ id ∈ l.take j))) (fun x _ => l.length - (intOf x).toNat)
  case atStart => exact ⟨0, Q, im, by omega, rfl, H, Lib.hid (Upd.refl _ _), Lib.hid (fun _ => Nat.le_refl _), Lib.hid (fun id k => by simp)⟩
  case round =>
    obtain ⟨j, Qj, imj, hj, rfl, HJ, U, LE, MEM⟩ := hrel
    by_cases hlt : j < l.length
    · have rj := HJ.out.rowAt key
      rw [EL.out] at rj
      obtain ⟨b, cap, e1, e2, e3⟩ := ints_cell rj hlt
      rw [HV.out] at e1
      injection e1 with e1 _ e4
      subst e1 e4
      have hin : l[j] ∈ l := List.getElem_mem hlt
      have hk : key ∈ akeys (imj l[j]) := (MEM.out _ _).2 ⟨HD.out _ hin, fun ⟨_, hh⟩ => by
        obtain ⟨i, hi, ei⟩ := List.mem_iff_getElem.1 hh
        rw [List.getElem_take] at ei
        have := (List.getElem_inj HN.out).1 ei
        simp at hi; omega⟩
      have FG := Lib.hid (forget_raw base kb rb rows reads most ks F R rv ri Qj iv imj l[j] key wr HJ.out hk (Nat.le_trans (LE.out _) (HL.out _)))
      have HK := Lib.hid hk
      clear rj hin hk
      obtain ⟨x, hx⟩ : ∃ x, l[j] = x := ⟨_, rfl⟩
      rw [hx] at e2 FG HK
      have HX := Lib.hid hx
      clear hx
      go_wp2_with fail
      refine (FG.out).mono ?_
      rintro e w2 ⟨rfl, ⟨Q2, h2⟩, u2⟩
      have H2 := Lib.hid h2
      have U2 := Lib.hid u2
      clear h2 u2 FG
      go_wp2
      go_roundw
      case rel =>
        have hne : im x ≠ [] := fun e => by
          have := ((MEM.out x key).1 HK.out).1
          rw [e] at this; simp [akeys] at this
        refine ⟨j + 1, Q2, _, by omega, by go_num, H2, Lib.hid (U.out.trans U2.out ?_), Lib.hid ?_, Lib.hid ?_⟩
        · rintro i _ (e | e)
          · exact Or.inr ⟨x, hne, e⟩
          · exact Or.inl e
        · intro id
          by_cases e : id = x
          · subst e; rw [upd_at]; exact Nat.le_trans (adel_len _ _) (LE.out _)
          · rw [upd_ne _ _ e]; exact LE.out id
        · intro id k
          have ht : id ∈ l.take (j + 1) ↔ id ∈ l.take j ∨ id = x := by
            rw [List.take_succ_eq_append_getElem hlt, HX.out]; simp
          rw [ht]
          by_cases e : id = x
          · subst e
            have hnx : imj id ≠ [] := fun e => by have := HK.out; rw [e] at this; simp [akeys] at this
            rw [upd_at, mem_adel (HJ.out.imap id hnx).2, MEM.out]
            constructor
            · rintro ⟨⟨h1, h2⟩, h3⟩; exact ⟨h1, fun h4 => h3 h4.1⟩
            · rintro ⟨h1, h2⟩; exact ⟨⟨h1, fun h4 => h2 ⟨h4.1, Or.inl h4.2⟩⟩, fun h4 => h2 ⟨h4, Or.inr rfl⟩⟩
          · rw [upd_ne _ _ e, MEM.out]
            simp only [e, or_false]
      case measure => simp [intOf]; omega
    · have hk2 : j = l.length := by omega
      subst hk2
      have d1 : wr.cell? ⟨kb, 1, none⟩ = some (.map (some rows)) := HJ.out.blk.cellAt rfl
      obtain ⟨w2, de, m2, u2⟩ := HJ.out.rmap.del keyS Try.underlying35 key 0
      have h2 := HJ.out.rowDel m2 u2
      have d0 : w2.cell? ⟨kb, 0, none⟩ = some (.pointer (some ⟨rb, 0, none⟩)) := h2.blk.cellAt rfl
      have RD := Lib.hid (rdrop_any rb ks F key w2 h2.recent)
      have H2 := Lib.hid h2
      have U2 := Lib.hid u2
      unfold strEnc at de
      clear h2 u2 m2
      go_wp2_with fail
      refine (RD.out).mono ?_
      rintro e w3 ⟨rfl, t3⟩
      have T3 := Lib.hid t3
      clear t3 RD
      go_wp2
      go_ret
      obtain ⟨F', h3, f3, u3⟩ := H2.out.recentTo T3.out
      have hw2 : w.heap.size ≤ w2.heap.size := Nat.le_trans U.out.size U2.out.size
      have ua : Upd (fun b => F b ∨ b = rows ∨ b = reads ∨ ∃ id, im id ≠ [] ∧ b = iv id) w w3 :=
        ((U.out.weaken (F := fun b => F b ∨ b = rows ∨ b = reads ∨ ∃ id, im id ≠ [] ∧ b = iv id) (fun i _ e => by rcases e with e | e; exact Or.inr (Or.inr (Or.inl e)); exact Or.inr (Or.inr (Or.inr e)))).trans U2.out (fun i _ e => Or.inr (Or.inl e))).trans u3 (fun i _ e => Or.inl e)
      refine ⟨rfl, ?_, ⟨F', Qj, imj, h3, fun k hk => ?_, LE.out, fun id k => ?_⟩, ua⟩
      · have := RA.out.keep ua (fun b hb => by
          obtain ⟨l', h1, h2⟩ := H.out.rowOwn hb
          obtain ⟨r1, r2, r3, r4, r5⟩ := H.out.rowF h1 h2
          rintro (e | e | e | ⟨id, hid, e⟩)
          · exact r1 e
          · exact r3 e
          · exact r4 e
          · exact r5 id hid e)
        rw [HV.out] at this; exact this
      · rcases f3 k hk with g | g
        · exact Or.inl g
        · exact Or.inr (Nat.le_trans hw2 g)
      · rw [MEM.out, List.take_length]
end Go.Proofs.Ythgojhchakclcaa
