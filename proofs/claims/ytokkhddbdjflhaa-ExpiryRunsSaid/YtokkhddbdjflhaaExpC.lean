/- Walks: container/heap over the row of entries: up, down. -/
import Derived.Test.YtokkhddbdjflhaaExpT
set_option linter.unusedVariables false
set_option linter.unusedSimpArgs false
namespace Go.Proofs.Ytokkhddbdjflhaa
open Go.RowKit

def hv (xa : Nat) : Value := .iface 64 (.pointer (some ⟨xa, 0, none⟩))
def eo (ent : Nat → DueP) (bs : List Nat) : Nat → DueP := fun k => ent ((bs[k]?).getD 0)
theorem eo_at {ent : Nat → DueP} {bs : List Nat} {i b : Nat} (h : bs[i]? = some b) : eo ent bs i = ent b := by unfold eo; rw [h]; rfl
theorem eo_swp {ent : Nat → DueP} {bs : List Nat} {i j : Nat} (hi : i < bs.length) (hj : j < bs.length) : eo ent (swp bs i j) = Pq.sw (eo ent bs) i j := by
  funext k
  unfold eo Pq.sw
  rw [swp_get hi hj]
  split
  · rfl
  · split <;> rfl
theorem rowF_perm {v : Value} {bs bs' : List Nat} (h : bs'.Perm bs) {k : Nat} (hk : rowF v bs' k) : rowF v bs k := by
  rcases hk with hk | hk
  · exact Or.inl hk
  · exact Or.inr (h.mem_iff.1 hk)
/-- The row is in a heap's order again. -/
def Heaped (base xa : Nat) (mv v : Value) (bs : List Nat) (ent : Nat → DueP) (n : Nat) (w w' : World) : Prop := ∃ bs', RowM w' base xa mv v bs' ent ∧ bs'.Perm bs ∧ Pq.Heap leD (eo ent bs') n ∧ (∀ k, n ≤ k → bs'[k]? = bs[k]?) ∧ Upd (rowF v bs) w w'
theorem swp_above {l : List Nat} {i j n k : Nat} (hi : i < n) (hj : j < n) (hk : n ≤ k) : (swp l i j)[k]? = l[k]? := by
  unfold swp; split
  · rw [List.getElem?_set_ne (by omega), List.getElem?_set_ne (by omega)]
  · rfl
set_option maxHeartbeats 4000000 in
set_option maxRecDepth 100000 in
theorem up_any (base xa : Nat) (mv v : Value) (bs : List Nat) (ent : Nat → DueP) (n j : Nat) (w : World) (h : RowM w base xa mv v bs ent) (hj : j < n) (hn : n ≤ bs.length) (hu : Pq.UpOk leD (eo ent bs) n j) :
    Calls Try.prog 31 #[hv xa, .int .i64 (j : Int)] w fun e w' => e = .returned (.tuple #[]) ∧ Heaped base xa mv v bs ent n w w' := by
  unfold hv
  have hlm := h.len
  unfold maxLen at hlm
  obtain ⟨g, cap, cs, ev, hg, hB, hc, hm, hgn⟩ := h.mem (i := j) (by omega)
  have EV := Lib.hid (show v = v from rfl)
  subst ev
  have H := Lib.hid h
  have HU := Lib.hid hu
  have HN := Lib.hid hn
  clear h hu hB hg hc hm hgn
  go_enter Try.func31, Try.ntmps31
  go_wp2
  go_loopw [1] (fun x1 wr => ∃ (bs' : List Nat) (j : Nat), x1 = .int .i64 (j : Int) ∧ j < n ∧ Hid (RowM wr base xa mv (.slice (some ⟨g, 0, none⟩) bs.length cap) bs' ent) ∧ Hid (bs'.Perm bs) ∧ Hid (Pq.UpOk leD (eo ent bs') n j) ∧ Hid (∀ k, n ≤ k → bs'[k]? = bs[k]?) ∧ Hid (Upd (rowF (.slice (some ⟨g, 0, none⟩) bs.length cap) bs) w wr)) (fun x1 _ => (intOf x1).toNat)
  case atStart => exact ⟨bs, j, rfl, hj, H, Lib.hid (List.Perm.refl _), HU, Lib.hid (fun _ _ => rfl), Lib.hid (Upd.refl _ _)⟩
  case round =>
    clear H HU hj
    obtain ⟨bs', j, rfl, hj, H, PM, HU, HA, U⟩ := hrel
    by_cases h0 : j = 0
    · subst h0
      go_wp2
      go_returns
      exact ⟨rfl, bs', H.out, PM.out, HU.out.done0, HA.out, U.out⟩
    · have hlen : bs'.length = bs.length := PM.out.length_eq
      have hjl : j < bs'.length := by have := HN.out; omega
      obtain ⟨i, hi⟩ : ∃ i, (j - 1) / 2 = i := ⟨_, rfl⟩
      have hil : i < bs'.length := by omega
      have hij : i < j := by omega
      have hq : ((j : Int) - 1) / 2 = (i : Int) := by omega
      have hj1 : (0 : Int) ≤ (j : Int) - 1 := by omega
      have hj2 : (j : Int) ≤ 9223372036854775807 := by have := HN.out; omega
      have hj3 : ((i : Int) == (j : Int)) = false := by simp; omega
      have LS := Lib.hid (less_any base xa mv _ bs' ent j i bs'[j] bs'[i] wr H.out (List.getElem?_eq_getElem hjl) (List.getElem?_eq_getElem hil))
      have ML := meth_less xa _ _ _ wr (H.out.x.cellAt (i := 0) rfl)
      have HI := Lib.hid hi
      have HIJ := Lib.hid (And.intro hij hj)
      have HL := Lib.hid hlen
      have e1 : eo ent bs' j = ent bs'[j] := eo_at (List.getElem?_eq_getElem hjl)
      have e2 : eo ent bs' i = ent bs'[i] := eo_at (List.getElem?_eq_getElem hil)
      by_cases hlt : ltD (ent bs'[j]) (ent bs'[i])
      · have D : decide (ltD (ent bs'[j]) (ent bs'[i])) = true := decide_eq_true hlt
        rw [D] at LS
        have ST := Lib.hid (HU.out.step leD_trans (by omega) hj (by rw [hi, e1, e2]; exact leD_lt hlt))
        rw [hi, ← eo_swp hil hjl] at ST
        have GI := Lib.hid (And.intro hil hjl)
        clear hi hij hj hlen D hlt e1 e2 h0 hil hjl HU
        go_wp2_with fail
        refine (LS.out).mono ?_
        rintro e w2 ⟨rfl, u2⟩
        have H2 := Lib.hid (H.out.keep0 u2)
        have U2 := Lib.hid (U.out.trans u2 (fun _ _ h => h.elim))
        have MS := meth_swap xa _ _ _ w2 (H2.out.x.cellAt (i := 0) rfl)
        have SW := Lib.hid (swap_any base xa mv _ bs' ent i j _ _ w2 H2.out (List.getElem?_eq_getElem GI.out.1) (List.getElem?_eq_getElem GI.out.2))
        clear u2 ML LS H U
        go_wp2_with fail
        refine (SW.out).mono ?_
        rintro e w3 ⟨rfl, h3, u3⟩
        have H3 := Lib.hid h3
        have U3 := Lib.hid (U2.out.trans u3 (fun k _ hk => rowF_perm PM.out hk))
        clear h3 u3 MS
        go_wp2
        go_roundw
        case rel => exact ⟨swp bs' i j, i, rfl, by have := HIJ.out; omega, H3, Lib.hid ((swp_perm _ _ _).trans PM.out), ST, Lib.hid (fun k hk => (swp_above (by have := HIJ.out; omega) (by have := HIJ.out; omega) hk).trans (HA.out k hk)), U3⟩
        case measure => have := HIJ.out; simp [intOf]; omega
      · have D : decide (ltD (ent bs'[j]) (ent bs'[i])) = false := decide_eq_false hlt
        rw [D] at LS
        have DN := Lib.hid (HU.out.done (by rw [hi, e1, e2]; exact hlt))
        clear hi hij hj hlen D hlt e1 e2 h0 hil hjl HU
        go_wp2_with fail
        refine (LS.out).mono ?_
        rintro e w2 ⟨rfl, u2⟩
        have H2 := Lib.hid (H.out.keep0 u2)
        have U2 := Lib.hid (U.out.trans u2 (fun _ _ h => h.elim))
        clear u2 ML
        go_wp2
        go_returns
        exact ⟨rfl, bs', H2.out, PM.out, DN.out, HA.out, U2.out⟩
end Go.Proofs.Ytokkhddbdjflhaa
