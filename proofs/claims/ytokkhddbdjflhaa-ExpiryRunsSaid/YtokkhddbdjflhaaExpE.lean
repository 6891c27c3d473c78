/- Walks: the row of entries: how many, one more, the last one goes. -/
import Derived.Test.YtokkhddbdjflhaaExpD
import Derived.Test.YtokkhddbdjflhaaOwn
import Derived.Test.YtokkhddbdjflhaaAppW
set_option linter.unusedVariables false
set_option linter.unusedSimpArgs false
namespace Go.Proofs.Ytokkhddbdjflhaa
open Go.RowKit

theorem rowlen_any (p : Option Addr) (n c : Nat) (w : World) (hn : n ≤ 1000000) : Calls Try.prog 72 #[.slice p n c] w fun e w' => e = .returned (.int .i64 (n : Int)) ∧ w' = w := by
  go_enter Try.func72, Try.ntmps72
  go_wp2
  go_ret
  exact ⟨rfl, rfl⟩
theorem ptr_info : (Try.prog.info? 61).map (fun i => (i.zero, i.size, i.bytes)) = some (some (.pointer none), 1, 8) := by kernel_rfl
theorem asrtE (a : Addr) (w : World) : (Instr.typeAssert (.iface 61 (.pointer (some a))) 20 61 false).run Try.prog w = .ok (.pointer (some a)) w := by kernel_rfl
/-- The row with one more, not yet in its place. -/
def Pushed (base xa : Nat) (mv v : Value) (bs : List Nat) (ent : Nat → DueP) (b : Nat) (w : World) (e : Ending) (w' : World) : Prop := ∃ v', e = .returned (.tuple #[]) ∧ RowM w' base xa mv v' (bs ++ [b]) ent ∧ Upd (fun k => k = xa ∨ k = b ∨ v.ownBlock = some k) w w' ∧ (∀ k, v'.ownBlock = some k → v.ownBlock = some k ∨ w.heap.size ≤ k)
set_option maxHeartbeats 4000000 in
set_option maxRecDepth 100000 in
theorem rowPush_any (base xa : Nat) (mv v : Value) (bs : List Nat) (ent : Nat → DueP) (b i : Nat) (w : World) (h : RowM w base xa mv v bs ent) (hb0 : base ≤ w.heap.size) (hl : bs.length ≤ 1000000) (hB : Blk w b (entc (ent b) i) 60) (hb : b ∉ bs) (hbx : b ≠ xa) (hbv : v.ownBlock ≠ some b) :
    Calls Try.prog 76 #[.pointer (some ⟨xa, 0, none⟩), .iface 61 (ptr b)] w (Pushed base xa mv v bs ent b w) := by
  unfold Pushed ptr
  obtain ⟨p, c, ev, hm⟩ := own_slice h.own
  subst ev
  have c1 : w.cell? ⟨xa, 0, none⟩ = some (.slice p bs.length c) := h.x.cellAt (i := 0) rfl
  have f1 : w.frozen? ⟨xa, 0, none⟩ = false := h.x.free 0
  have c2 : w.cell? ⟨b, 2, none⟩ = some (.int .i64 (i : Int)) := hB.cellAt (i := 2) rfl
  have f2 : w.frozen? ⟨b, 2, none⟩ = false := hB.free 2
  have n1 : ¬ xa = b := fun e => hbx e.symm
  have hbl := hB.lt
  have hxl := h.x.lt
  have H := Lib.hid h
  have HB := Lib.hid hB
  have N := Lib.hid (And.intro hb (And.intro hbx hbv))
  obtain ⟨i0, hi0, hz0, hz1, hz2⟩ := info_parts ptr_info
  have OWN : Hid ((w.setCell ⟨b, 2, none⟩ (.int .i64 (bs.length : Int))).ownsRow base 61 1 (.slice p bs.length c) bs.length (bs.map ptr)) := own_keep h.own ((Upd.refl (fun k => k = b) w).set (fun _ => rfl)) (fun k hk e => hbv (by rw [hk, e]))
  have AS := asrtE ⟨b, 0, none⟩ w
  clear h hB hb
  go_enter Try.func76, Try.ntmps76
  have U1 : Hid (Upd (fun k => k = b ∨ (Value.slice p bs.length c).ownBlock = some k) w ((w.setCell ⟨b, 2, none⟩ (.int .i64 (bs.length : Int))).alloc (.cells #[.pointer (some ⟨b, 0, none⟩)] 61))) := ((Upd.refl _ w).set (fun _ => Or.inl rfl)).alloc _
  have HB1 : Hid (Blk ((w.setCell ⟨b, 2, none⟩ (.int .i64 (bs.length : Int))).alloc (.cells #[.pointer (some ⟨b, 0, none⟩)] 61)) b (entc (ent b) bs.length) 60) := (HB.out.set 2 _).alloc _
  go_wp2_with (at_builtin; refine wpList_append_where _ rfl _ _ 56 rfl (base) 61 i0 (.pointer none) 1 8 Try.underlying56 hi0 hz0 hz1 hz2 rfl (by decide) _ _ _ rfl (OWN.out.alloc _) ⟨w.heap.size, 0, none⟩ 1 1 [.pointer (some ⟨b, 0, none⟩)] rfl rfl ?c1 ?c2 ?c3 ?c4 ?c5 (by decide) ?_)
  case c1 =>
    intro x u hx
    match x with
    | 0 => simp at hx; subst hx; simp [Addr.add, World.cell?_alloc_at]
    | 1 => simp at hx <;> (subst hx; simp [Addr.add, World.cell?_alloc_at])
    | 2 => simp at hx <;> (subst hx; simp [Addr.add, World.cell?_alloc_at])
    | x + 3 => simp at hx
  case c2 => first | rfl | (intro u hu; simp at hu; subst hu; rfl) | (intro u hu; simp at hu; rcases hu with rfl | rfl <;> rfl)
  case c3 => unfold maxLen; omega
  case c4 => first | omega | (simp; omega)
  case c5 => first | (simp; omega) | omega
  intro v' w' hown' hupd hnew
  have U2 := Lib.hid (U1.out.trans hupd (fun _ _ h => Or.inr h))
  have HB2 := Lib.hid (hupd.blk HB1.out N.out.2.2)
  have NW : Hid (∀ k, v'.ownBlock = some k → (Value.slice p bs.length c).ownBlock = some k ∨ w.heap.size ≤ k) := fun k hk => by
    rcases hnew k hk with g | g
    · exact Or.inl g
    · right; simp at g; omega
  have OW2 : Hid (w'.ownsRow base 61 1 v' (bs.length + 1) ((bs ++ [b]).map ptr)) := by
    show World.ownsRow _ _ _ _ _ _ _
    have := hown'
    simpa [ptr] using this
  have HX2 := Lib.hid (U2.out.blk H.out.x (fun e => by
    rcases e with e | e
    · exact n1 e
    · exact H.out.vx e))
  clear hown' hupd hnew U1 HB1 OWN hbv
  have d1 : w'.cell? ⟨xa, 0, none⟩ = some (.slice p bs.length c) := HX2.out.cellAt (i := 0) rfl
  have g1 : w'.frozen? ⟨xa, 0, none⟩ = false := HX2.out.free 0
  obtain ⟨p2, c2', ev2, _⟩ := own_slice OW2.out
  subst ev2
  go_wp2
  go_returns
  have U3 : Upd (fun k => k = xa ∨ k = b ∨ (Value.slice p bs.length c).ownBlock = some k) w (w'.setCell ⟨xa, 0, none⟩ (.slice p2 (bs.length + 1) c2')) := (U2.out.weaken (fun _ _ h => Or.inr h)).set (fun _ => Or.inl rfl)
  have u4 : Upd (fun k => k = xa) w' (w'.setCell ⟨xa, 0, none⟩ (.slice p2 (bs.length + 1) c2')) := (Upd.refl _ w').set (fun _ => rfl)
  have tg : ∀ k, (Value.slice p2 (bs.length + 1) c2').ownBlock = some k → ∃ cs, w'.heap[k]? = some (.cells cs 61 (0, 0)) := fun k hk => by
    rcases OW2.out.2 with ⟨e, _⟩ | ⟨g, cap, cur, e, _, hh, _⟩
    · rw [e] at hk; cases hk
    · rw [e] at hk; cases hk; exact ⟨_, hh⟩
  have hvx : (Value.slice p2 (bs.length + 1) c2').ownBlock ≠ some xa := fun e => by
    obtain ⟨cs, hh⟩ := tg xa e
    have := HX2.out; unfold Blk at this; rw [hh] at this; simp at this
  have hbn : ∀ k, (Value.slice p bs.length c).ownBlock = some k → k ∉ bs := H.out.vn
  refine ⟨_, rfl, ⟨HX2.out.set 0 _, by rw [List.length_append]; exact own_keep OW2.out u4 (fun k hk e => hvx (by rw [hk, e])), fun j d hj => ?_, ?_, ?_, hvx, fun k hk hm => ?_⟩, U3, NW.out⟩
  · by_cases hjl : j < bs.length
    · rw [List.getElem?_append_left hjl] at hj
      have hd := List.mem_of_getElem? hj
      refine u4.blk (U2.out.blk (H.out.at_ j d hj) (fun e => ?_)) (fun e => H.out.xn (e ▸ hd))
      rcases e with e | e
      · exact N.out.1 (e ▸ hd)
      · exact hbn d e hd
    · rw [List.getElem?_append_right (by omega)] at hj
      have hj0 : j - bs.length = 0 := by
        have := (List.getElem?_eq_some_iff.1 hj).1; simp at this; omega
      rw [hj0] at hj
      simp at hj
      subst hj
      obtain rfl : j = bs.length := by omega
      exact u4.blk HB2.out N.out.2.1
  · refine List.nodup_append.2 ⟨H.out.nd, by simp, fun x hx y hy e => ?_⟩
    simp at hy; subst hy; subst e; exact N.out.1 hx
  · intro hm
    rcases List.mem_append.1 hm with h | h
    · exact H.out.xn h
    · simp at h; exact n1 h
  · obtain ⟨cs, hh⟩ := tg k hk
    rcases List.mem_append.1 hm with h | h
    · obtain ⟨j, hj⟩ := List.mem_iff_getElem?.1 h
      have := U2.out.blk (H.out.at_ j k hj) (fun e => by
        rcases e with e | e
        · exact N.out.1 (e ▸ h)
        · exact hbn k e h)
      unfold Blk at this; rw [hh] at this; simp at this
    · simp at h
      subst h
      have := HB2.out; unfold Blk at this; rw [hh] at this; simp at this
set_option maxHeartbeats 4000000 in
theorem rowPop_any (base xa : Nat) (mv v : Value) (bs : List Nat) (ent : Nat → DueP) (b : Nat) (w : World) (h : RowM w base xa mv v (bs ++ [b]) ent) (hl : bs.length + 1 ≤ 1000000) :
    Calls Try.prog 75 #[.pointer (some ⟨xa, 0, none⟩)] w fun e w' => ∃ v', e = .returned (.iface 61 (ptr b)) ∧ RowM w' base xa mv v' bs ent ∧ Upd (fun k => k = xa) w w' ∧ v'.ownBlock = v.ownBlock := by
  have hl2 : (bs ++ [b]).length = bs.length + 1 := by simp
  obtain ⟨g, cap, cs, ev, hg, hB, hc, hm, hgn⟩ := h.mem (i := bs.length) (by omega)
  rw [hl2] at ev hc
  subst ev
  have c1 : w.cell? ⟨xa, 0, none⟩ = some (.slice (some ⟨g, 0, none⟩) (bs.length + 1) cap) := h.x.cellAt (i := 0) rfl
  have f1 : w.frozen? ⟨xa, 0, none⟩ = false := h.x.free 0
  have c2 : w.cell? ⟨g, bs.length, none⟩ = some (.pointer (some ⟨b, 0, none⟩)) := hB.cellAt (map_at (by simp))
  have hcap : (bs.length : Int) ≤ (cap : Int) := by omega
  have hcap2 : bs.length ≤ cap := by omega
  have H := Lib.hid h
  have HB := Lib.hid hB
  have HG := Lib.hid (And.intro hg (And.intro hc hm))
  clear h hB hc hl2 hm
  go_enter Try.func75, Try.ntmps75
  go_wp2
  go_ret
  have u : Upd (fun k => k = xa) w (w.setCell ⟨xa, 0, none⟩ (.slice (some ⟨g, 0, none⟩) bs.length cap)) := (Upd.refl _ w).set (fun _ => rfl)
  have hxg : ¬ g = xa := fun e => H.out.vx (by rw [← e]; rfl)
  obtain ⟨n1, _, n2⟩ := List.nodup_append.1 H.out.nd
  refine ⟨_, rfl, ⟨H.out.x.set 0 _, ?_, fun i c hi => ?_, n1, fun hm => H.out.xn (by simp [hm]), H.out.vx, fun k hk hm => H.out.vn k hk (by simp [hm])⟩, u, rfl⟩
  · have hB := u.blk HB.out hxg
    rw [List.map_append, List.append_assoc] at hB
    exact own_of HG.out.1 hB (by simp) (by have := HG.out.2.1; simp; omega) HG.out.2.2
  · have h1 : (bs ++ [b])[i]? = some c := by rw [List.getElem?_append_left (List.getElem?_eq_some_iff.1 hi).1]; exact hi
    exact u.blk (H.out.at_ i c h1) (fun e => H.out.xn (e ▸ List.mem_of_getElem? h1))
end Go.Proofs.Ytokkhddbdjflhaa
