/- The acts of layer 7, opened; great. -/
import Derived.Test.YtnlbmplbaalgmaaOpenS
import Derived.Test.YtnlbmplbaalgmaaRadV
set_option linter.unusedVariables false
set_option linter.unusedSimpArgs false
namespace Go.Proofs.Ytnlbmplbaalgmaa
open Go.RowKit Go.ChangeShapes Go.WideShapes Go.Deep

structure Act07 where
  kind : Int
  key : Txt
  n : Int
def act07c (a : Act07) : List Value := [.int .i64 a.kind, .string (ofL a.key), .int .i64 a.n]
theorem act07_cells {w : World} {p : Option Addr} {cap : Nat} {l : List Act07} (h : RowOf act07c 3 w (.slice p l.length cap) l) {k : Nat} (hk : k < l.length) :
    ∃ b off a, p = some ⟨b, off, none⟩ ∧ b < w.heap.size ∧ l[k]? = some a ∧ w.cell? ⟨b, off + k * 3, none⟩ = some (.int .i64 a.kind) ∧ w.cell? ⟨b, off + k * 3 + 1, none⟩ = some (.string (ofL a.key)) ∧ w.cell? ⟨b, off + k * 3 + 2, none⟩ = some (.int .i64 a.n) := by
  rcases h with ⟨_, _, _, e⟩ | ⟨b, off, c, e, hb, _, hc⟩
  · rw [e] at hk; simp at hk
  · simp only [Value.slice.injEq] at e
    have hx : l[k]? = some l[k] := List.getElem?_eq_getElem hk
    refine ⟨b, off, l[k], e.1, hb, hx, ?_, ?_, ?_⟩
    · have := hc k _ hx 0 (by omega); rw [Nat.add_zero] at this; simpa [act07c] using this
    · have := hc k _ hx 1 (by omega); rw [← Nat.add_assoc] at this; simpa [act07c] using this
    · have := hc k _ hx 2 (by omega); rw [← Nat.add_assoc] at this; simpa [act07c] using this
section
variable {H : Type} {enc : TypeId × Value → H} {w : World} {base : Nat} {spare : Nat → Bool} {held : Bool}
set_option maxRecDepth 100000 in
theorem open_acts07 {r : Reach} {b0 : Nat} {v : Value} {d : DataW H} {p : List MemPlace} (hv : Value.okWide Try.prog w r b0 39 v) (h : DataW.Trod enc Try.prog w base spare held 39 v d p) :
    ∃ l : List Act07, RowOf act07c 3 w v l ∧ ∀ a ∈ l, a.key.length ≤ maxLen := by
  obtain ⟨a, len, cap, rfl⟩ := okWide_slice Try.underlying39 hv
  obtain ⟨fuel, hf⟩ := h
  cases a with
  | none =>
    obtain ⟨rfl, rfl⟩ := slice_nil Try.underlying39 hf
    exact ⟨[], Or.inl ⟨_, _, rfl, rfl⟩, fun a ha => by simp at ha⟩
  | some a' =>
    obtain ⟨hm, hi⟩ := slice_cells Try.underlying39 Try.underlying42 (by kernel_rfl) (by kernel_rfl) hf
    have key : ∀ i, ∃ x : Act07, i < len → (w.cell? (a'.add (i * 3 + 0)) = some (.int .i64 x.kind) ∧ w.cell? (a'.add (i * 3 + 1)) = some (.string (ofL x.key)) ∧ w.cell? (a'.add (i * 3 + 2)) = some (.int .i64 x.n)) ∧ x.key.length ≤ maxLen := by
      intro i
      by_cases hil : i < len
      · obtain ⟨v0, y0, _, c0, t0⟩ := hi i hil 0 _ rfl
        obtain ⟨v1, y1, _, c1, t1⟩ := hi i hil 1 _ rfl
        obtain ⟨v2, y2, _, c2, t2⟩ := hi i hil 2 _ rfl
        obtain ⟨x0, e0, _, _⟩ := DataW.trod_int Try.underlying3 t0
        obtain ⟨x1, e1, _, z2⟩ := DataW.trod_string Try.underlying9 t1
        obtain ⟨x2, e2, _, _⟩ := DataW.trod_int Try.underlying2 t2
        simp at e0 e1 e2
        subst e0 e1 e2
        exact ⟨⟨x0, x1.toList, x2⟩, fun _ => ⟨⟨c0, by rw [ofL_of]; exact c1, c2⟩, by have := ofL_size x1.toList; rw [ofL_of] at this; show x1.toList.length ≤ _; omega⟩⟩
      · exact ⟨⟨0, [], 0⟩, fun h => absurd h hil⟩
    obtain ⟨g, hg⟩ := Classical.axiomOfChoice key
    refine ⟨(List.range len).map g, rowOf_mk (by omega) g hm (fun i hil j hj => ?_), fun x hx => ?_⟩
    · obtain ⟨⟨h0, h1, h2⟩, _⟩ := hg i hil
      have : j = 0 ∨ j = 1 ∨ j = 2 := by omega
      rcases this with rfl | rfl | rfl
      · exact ⟨_, rfl, h0⟩
      · exact ⟨_, rfl, h1⟩
      · exact ⟨_, rfl, h2⟩
    · simp at hx
      obtain ⟨i, hil, rfl⟩ := hx
      exact (hg i hil).2
end
set_option maxHeartbeats 4000000 in
set_option maxRecDepth 100000 in
theorem great07_any (v : Value) (l : List Act07) (w : World) (h : RowOf act07c 3 w v l) :
    Calls Try.prog 21 #[v] w fun e w' => (e = .returned (.bool true) ∨ (e = .returned (.bool false) ∧ l.length ≤ 60 ∧ ∀ a ∈ l, a.key.length ≤ 100)) ∧ Upd (fun _ => False) w w' := by
  obtain ⟨p, c, ev, hm⟩ := h.len
  subst ev
  have H := Lib.hid h
  unfold maxLen at hm
  clear h
  by_cases h60 : 60 < l.length
  · have q0 : (60 : Int) < (l.length : Int) := by omega
    generalize l.length = nl at *
    go_enter Try.func21, Try.ntmps21
    go_wp2
    go_ret
    exact ⟨Or.inl rfl, Upd.refl _ _⟩
  · have q0 : ¬ (60 : Int) < (l.length : Int) := by omega
    go_enter Try.func21, Try.ntmps21
    go_wp2
    go_loopw [10] (fun x10 wr => ∃ (k : Nat), k ≤ l.length ∧ x10 = .int .i64 (k : Int) ∧ Hid (∀ a ∈ l.take k, a.key.length ≤ 100) ∧ Hid (Upd (fun _ => False) w wr)) (fun x10 _ => l.length - (intOf x10).toNat)
    case atStart => exact ⟨0, by omega, rfl, Lib.hid (fun a ha => by simp at ha), Lib.hid (Upd.refl _ _)⟩
    case round =>
      obtain ⟨k, hk, rfl, AK, U⟩ := hrel
      by_cases hlt : k < l.length
      · have q1 : (k : Int) < (l.length : Int) := by omega
        obtain ⟨b, off, a, ep, hb, hak, c0, c1, c2⟩ := act07_cells (H.out.keep U.out (fun _ _ _ h => h)) hlt
        subst ep
        have asz := ofL_size a.key
        have TK : Hid (l.take (k + 1) = l.take k ++ [a]) := by
          obtain ⟨h1, e⟩ := List.getElem?_eq_some_iff.1 hak
          show _ = _
          rw [List.take_succ_eq_append_getElem h1, e]
        generalize ofL a.key = sa at *
        by_cases h1 : 100 < a.key.length
        · have q2 : (100 : Int) < (a.key.length : Int) := by omega
          clear hak
          generalize l.length = nl at *
          generalize a.key.length = na at *
          go_wp2
          go_ret
          exact ⟨Or.inl rfl, U.out.alloc _⟩
        · have q2 : ¬ (100 : Int) < (a.key.length : Int) := by omega
          have AK2 : Hid (∀ a ∈ l.take (k + 1), a.key.length ≤ 100) := fun x hx => by
            rw [TK.out] at hx
            rcases List.mem_append.1 hx with g | g
            · exact AK.out x g
            · rw [List.mem_singleton.1 g]; omega
          clear hak h1
          generalize hnl : l.length = nl at *
          generalize hna : a.key.length = na at *
          go_wp2
          go_roundw
          case rel => exact ⟨k + 1, by omega, by simp, AK2, Lib.hid (U.out.alloc _)⟩
          case measure => simp [intOf]; omega
      · have q1 : ¬ (k : Int) < (l.length : Int) := by omega
        have FIN : Hid (l.length ≤ 60 ∧ ∀ a ∈ l, a.key.length ≤ 100) := ⟨by omega, by have := AK.out; rw [List.take_of_length_le (by omega)] at this; exact this⟩
        generalize hnl : l.length = nl at *
        go_wp2
        go_ret
        exact ⟨Or.inr ⟨rfl, by first | exact FIN.out | (rw [hnl]; exact FIN.out)⟩, U.out⟩
end Go.Proofs.Ytnlbmplbaalgmaa
