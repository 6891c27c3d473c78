/- Walks: New, Clear, Ids of who has read what; a client's number struck from a row. -/
import Derived.Test.YthgojhchakclcaaKeyG
import Derived.Test.YthgojhchakclcaaCol
import Derived.Lib.OwnBridge
set_option linter.unusedVariables false
set_option linter.unusedSimpArgs false
namespace Go.Proofs.Ythgojhchakclcaa
open Go.RowKit

theorem kclear_raw (base kb rb : Nat) (most : Int) (ks : List ByteArray) (F : Nat → Prop) (v1 v2 : Value) (w : World) (h : Blk w kb [ptr rb, v1, v2, .int .i64 most] 38) (hr : RecRep w rb ks F) (hkb : base ≤ kb) (hF : ∀ k, F k → base ≤ k) (hb : base ≤ w.heap.size) :
    Calls Try.prog 17 #[.pointer (some ⟨kb, 0, none⟩)] w fun e w' => e = .returned (.tuple #[]) ∧ ∃ E', KAt w' base kb most [] 0 E' ∧ Upd (fun k => k = kb ∨ F k) w w' ∧ (∀ k, E' k → k = kb ∨ F k ∨ w.heap.size ≤ k) := by
  have c0 : w.cell? ⟨kb, 0, none⟩ = some (.pointer (some ⟨rb, 0, none⟩)) := h.cellAt rfl
  have C := Lib.hid (clear_any rb ks F w hr)
  have hkF : ¬ F kb := hr.apart h (by decide) (by decide)
  have kl := h.lt
  have H := Lib.hid h
  clear h hr
  go_enter Try.func17, Try.ntmps17
  go_wp2_with fail
  refine (C.out).mono ?_
  rintro e w1 ⟨rfl, F', r1, u1, f1⟩
  have hb1 := u1.blk H.out hkF
  have hsz := u1.size
  have kl1 : kb < w1.heap.size := by omega
  have hrl := r1.lt
  have hF' : ∀ k, F' k → base ≤ k := fun k hk => by rcases f1 k hk with g | g; exact hF k g; exact Nat.le_trans hb g
  have f2 := hb1.free 1
  have f3 := hb1.free 2
  have e1 : w1.cell? ⟨kb, 1, none⟩ = some v1 := hb1.cellAt rfl
  have e2 : w1.cell? ⟨kb, 2, none⟩ = some v2 := hb1.cellAt rfl
  have mk1 := run_makeMap (P := Try.prog) 35 w1
  have mk2 := run_makeMap (P := Try.prog) 36 (w1.alloc (.map #[] 0))
  have R1 := Lib.hid r1
  have U1 := Lib.hid u1
  have F1 := Lib.hid f1
  have HB := Lib.hid hb1
  have HL := Lib.hid hrl
  have HF := Lib.hid hF'
  clear r1 u1 f1 hb1 C c0 hrl hF'
  go_wp2
  go_end0
  obtain ⟨X, hX⟩ : ∃ X, (w1.setCell ⟨kb, 1, none⟩ (.map (some w1.heap.size))).setCell ⟨kb, 2, none⟩ (.map (some (w1.heap.size + 1))) = X := ⟨_, rfl⟩
  rw [hX]
  have xs : X.heap.size = w1.heap.size := by rw [← hX]; simp [World.setCell]
  have uX : Upd (fun k => k = kb) w1 X := by rw [← hX]; exact ((Upd.refl (fun k => k = kb) w1).set (fun _ => rfl)).set (fun _ => rfl)
  have bX : Blk X kb [ptr rb, .map (some w1.heap.size), .map (some (w1.heap.size + 1)), .int .i64 most] 38 := by
    rw [← hX]; exact (HB.out.set 1 _).set 2 _
  have uA : Upd (fun _ => False) X ((X.alloc (.map #[] 0)).alloc (.map #[] 0)) := ((Upd.refl _ X).alloc _).alloc _
  have mA : MapAt strEnc (X.alloc (.map #[] 0)) w1.heap.size [] := by rw [← xs]; exact MapAt.made X
  have mB : MapAt intEnc ((X.alloc (.map #[] 0)).alloc (.map #[] 0)) (w1.heap.size + 1) [] := by
    have := MapAt.made (enc := intEnc) (X.alloc (.map #[] 0))
    rw [show (X.alloc (.map #[] 0)).heap.size = w1.heap.size + 1 by simp [xs]] at this; exact this
  have hk' : ¬ F' kb := fun hh => by rcases F1.out kb hh with g | g; exact hkF g; omega
  have hn : ∀ x, w1.heap.size ≤ x → ¬ F' x := fun x hx hh => by have := HL.out x hh; omega
  have ua : Upd (fun k => k = kb ∨ F k) w ((X.alloc (.map #[] 0)).alloc (.map #[] 0)) := ((U1.out.weaken (F := fun k => k = kb ∨ F k) (fun _ _ h => Or.inr h)).trans uX (fun _ _ h => Or.inl h)).trans uA (fun _ _ h => h.elim)
  refine ⟨rfl, _, ⟨rb, w1.heap.size, w1.heap.size + 1, F', [], fun _ => .slice none 0 0, [], fun _ => 0, fun _ => [], ?_, fun id k => ?_, ⟨fun k l hk => by simp [aget] at hk, by simp⟩, rfl⟩, ua, ?_⟩
  · exact {
      blk := uA.blk bX (fun h => h)
      recent := (R1.out.keep uX (fun k hk e => hk' (by have : k = kb := e; rw [← this]; exact hk))).keep uA (fun _ _ h => h)
      rmap := mA.keep ((Upd.refl (fun _ => False) _).alloc _) (fun h => h)
      rnd := by simp [akeys]
      rget := fun k => rfl
      rrow := fun k l hk => by simp [aget] at hk
      rne := fun k k' l l' _ hk => by simp [aget] at hk
      qmap := mB
      qnd := by simp [akeys]
      qget := fun id => rfl
      imap := fun id h => absurd rfl h
      ine := fun _ _ _ h => absurd rfl h
      iint := fun id k v hk => by simp [aget] at hk
      rr := by omega
      fr := ⟨hn _ (Nat.le_refl _), hn _ (by omega)⟩
      sep := fun id h => absurd rfl h
      lo := ⟨hkb, by omega, by omega⟩
      loF := HF.out
      loi := fun id h => absurd rfl h
      bl := Nat.le_trans hb ua.size }
  · simp [akeys, aget]
  · rintro k (e | e | e | e | ⟨k', l, hk, _⟩ | ⟨id, hid, _⟩)
    · exact Or.inl e
    · right; right; omega
    · right; right; omega
    · rcases F1.out k e with g | g
      · exact Or.inr (Or.inl g)
      · exact Or.inr (Or.inr g)
    · simp [aget] at hk
    · exact absurd rfl hid
theorem kclear_any (base kb : Nat) (most : Int) (L : Rows14) (n : Nat) (E : Nat → Prop) (w : World) (h : KAt w base kb most L n E) :
    Calls Try.prog 17 #[.pointer (some ⟨kb, 0, none⟩)] w fun e w' => e = .returned (.tuple #[]) ∧ ∃ E', KAt w' base kb most [] 0 E' ∧ Upd E w w' ∧ FromF E E' w := by
  obtain ⟨rb, rows, reads, F, R, rv, Q, iv, im, h, hD, hI, rfl⟩ := h
  refine (kclear_raw base kb rb most _ F _ _ w h.blk h.recent h.lo.1 h.loF h.bl).mono fun e w' ⟨h1, E', h2, h3, h4⟩ => ⟨h1, E', h2, h3.weaken (fun i _ e => ?_), fun k hk => ?_⟩
  · rcases e with e | e
    · exact Or.inl e
    · exact Or.inr (Or.inr (Or.inr (Or.inl e)))
  · rcases h4 k hk with e | e | e
    · exact Or.inl (Or.inl e)
    · exact Or.inl (Or.inr (Or.inr (Or.inr (Or.inl e))))
    · exact Or.inr e
theorem knew_any (most : Int) (w : World) (hm : -9223372036854775808 ≤ most) (hm2 : most ≤ 9223372036854775807) (base : Nat) (hb : base ≤ w.heap.size) :
    Calls Try.prog 7 #[.int .i64 most] w fun e w' => ∃ kb E, e = .returned (.pointer (some ⟨kb, 0, none⟩)) ∧ KAt w' base kb (max most 1) [] 0 E ∧ Upd (fun _ => False) w w' ∧ ∀ k, E k → w.heap.size ≤ k := by
  have N := Lib.hid (rnew_any w)
  go_enter Try.func7, Try.ntmps7
  go_wp2_with fail
  refine (N.out).mono ?_
  rintro e w1 ⟨rb, F, rfl, r1, u1, f1⟩
  have hs1 := u1.size
  have C := Lib.hid (kclear_raw base w1.heap.size rb (max most 1) [] F (.map none) (.map none) _ (Blk.made w1 [ptr rb, .map none, .map none, .int .i64 (max most 1)] 38) (r1.keep ((Upd.refl (fun _ => False) w1).alloc _) (fun _ _ h => h)) (by omega) (fun k hk => by have := f1 k hk; omega) (by simp; omega))
  have U1 := Lib.hid u1
  have F1 := Lib.hid f1
  have RL := Lib.hid r1.lt
  unfold ptr at C
  clear r1 u1 f1 N
  go_wp2_with fail
  refine (C.out).mono ?_
  rintro e w2 ⟨rfl, E', k2, u2, f2⟩
  have K2 := Lib.hid k2
  have U2 := Lib.hid u2
  have F2 := Lib.hid f2
  clear k2 u2 f2 C
  go_wp2
  go_ret
  refine ⟨w1.heap.size, E', rfl, K2.out, (U1.out.trans ((Upd.refl (fun _ => False) w1).alloc _) (fun _ _ h => h)).trans U2.out (fun i hi e => ?_), fun k hk => ?_⟩
  · rcases e with e | e
    · have : i = w1.heap.size := e; omega
    · have := F1.out i e; omega
  · rcases F2.out k hk with e | e | e
    · have : k = w1.heap.size := e; omega
    · exact F1.out k e
    · simp at e; omega
end Go.Proofs.Ythgojhchakclcaa
