/- Walks: container/heap over the row of entries: down. -/
import Derived.Test.YtokkhddbdjflhaaExpC
set_option linter.unusedVariables false
set_option linter.unusedSimpArgs false
namespace Go.Proofs.Ytokkhddbdjflhaa
open Go.RowKit

theorem down_end {e : Nat → DueP} {n i0 i : Nat} (h : Pq.DownOk leD e n i0 i) (hc : ∀ k, 0 < k → k < n → (k - 1) / 2 = i → leD (e i) (e k)) :
    (decide (i0 < i) = true → Pq.Heap leD e n) ∧ (decide (i0 < i) = false → Pq.UpOk leD e n i0) := by
  refine ⟨fun hd => h.heap (by simp at hd; omega) hc, fun hd => ?_⟩
  have : i = i0 := by have := h.1; simp at hd; omega
  subst this
  exact h.up hc
/-- One has gone down; has it gone at all? -/
def Downed (base xa : Nat) (mv v : Value) (bs : List Nat) (ent : Nat → DueP) (n i0 : Nat) (w : World) (e : Ending) (w' : World) : Prop := ∃ (b : Bool) (bs' : List Nat), e = .returned (.bool b) ∧ RowM w' base xa mv v bs' ent ∧ bs'.Perm bs ∧ (b = true → Pq.Heap leD (eo ent bs') n) ∧ (b = false → Pq.UpOk leD (eo ent bs') n i0) ∧ (∀ k, n ≤ k → bs'[k]? = bs[k]?) ∧ Upd (rowF v bs) w w'
set_option maxHeartbeats 4000000 in
set_option maxRecDepth 100000 in
theorem down_any (base xa : Nat) (mv v : Value) (bs : List Nat) (ent : Nat → DueP) (n i0 : Nat) (w : World) (h : RowM w base xa mv v bs ent) (hi0 : i0 < bs.length) (hn : n ≤ bs.length) (hb0 : bs.length ≤ 1000000) (hd : Pq.DownOk leD (eo ent bs) n i0 i0) :
    Calls Try.prog 30 #[hv xa, .int .i64 (i0 : Int), .int .i64 (n : Int)] w (Downed base xa mv v bs ent n i0 w) := by
  unfold hv Downed
  have hlm := h.len
  unfold maxLen at hlm
  obtain ⟨g, cap, cs, ev, hg, hB, hc, hm, hgn⟩ := h.mem (i := i0) (by omega)
  have hcap : (bs.length : Int) ≤ 1000000 := by omega
  subst ev
  have H := Lib.hid h
  have HD := Lib.hid hd
  have HN := Lib.hid hn
  have HI0 := Lib.hid hi0
  clear h hd hB hg hc hm hgn
  go_enter Try.func30, Try.ntmps30
  go_wp2
  go_loopw [7] (fun x7 wr => ∃ (bs' : List Nat) (i : Nat), x7 = .int .i64 (i : Int) ∧ Hid (i < bs.length) ∧ Hid (RowM wr base xa mv (.slice (some ⟨g, 0, none⟩) bs.length cap) bs' ent) ∧ Hid (bs'.Perm bs) ∧ Hid (Pq.DownOk leD (eo ent bs') n i0 i) ∧ Hid (∀ k, n ≤ k → bs'[k]? = bs[k]?) ∧ Hid (Upd (rowF (.slice (some ⟨g, 0, none⟩) bs.length cap) bs) w wr)) (fun x7 _ => n - (intOf x7).toNat)
  case atStart => exact ⟨bs, i0, rfl, HI0, H, Lib.hid (List.Perm.refl _), HD, Lib.hid (fun _ _ => rfl), Lib.hid (Upd.refl _ _)⟩
  case round =>
    clear H HD hi0
    obtain ⟨bs', i, rfl, HI, H, PM, HD, HA, U⟩ := hrel
    have hil := HI.out
    have hib : (i : Int) ≤ 1000000 := by omega
    have hi00 : (0 : Int) ≤ (i : Int) := by omega
    have s1 : decide (2 * (i : Int) + 1 < 0) = false := decide_eq_false (by omega)
    by_cases hn1 : n ≤ 2 * i + 1
    · have s2 : decide ((n : Int) ≤ 2 * (i : Int) + 1) = true := decide_eq_true (by omega)
      have ED := Lib.hid (down_end HD.out (fun k h0 h1 h2 => by omega))
      go_wp2
      go_ret
      exact ⟨_, bs', rfl, H.out, PM.out, ED.out.1, ED.out.2, HA.out, U.out⟩
    · have hlen : bs'.length = bs.length := PM.out.length_eq
      have hnn := HN.out
      have hil : i < bs'.length := by omega
      have s2 : decide ((n : Int) ≤ 2 * (i : Int) + 1) = false := decide_eq_false (by omega)
      by_cases hn2 : 2 * i + 2 < n
      · have s3 : decide (2 * (i : Int) + 1 + 1 < (n : Int)) = true := decide_eq_true (by omega)
        have h1l : 2 * i + 1 < bs'.length := by omega
        have h2l : 2 * i + 2 < bs'.length := by omega
        have L0 := less_any base xa mv _ bs' ent (2 * i + 2) (2 * i + 1) bs'[2 * i + 2] bs'[2 * i + 1] wr H.out (List.getElem?_eq_getElem h2l) (List.getElem?_eq_getElem h1l)
        rw [show ((2 * i + 2 : Nat) : Int) = 2 * (i : Int) + 1 + 1 by omega, show ((2 * i + 1 : Nat) : Int) = 2 * (i : Int) + 1 by omega] at L0
        have M1 := meth_less xa _ _ _ wr (H.out.x.cellAt (i := 0) rfl)
        have E1 := eo_at (ent := ent) (List.getElem?_eq_getElem h1l)
        have E2 := eo_at (ent := ent) (List.getElem?_eq_getElem h2l)
        by_cases hl1 : ltD (ent bs'[2 * i + 2]) (ent bs'[2 * i + 1])
        · have MIN : Hid (∀ k, 0 < k → k < n → (k - 1) / 2 = i → leD (eo ent bs' (2 * i + 2)) (eo ent bs' k)) := by
            intro k k0 k1 k2
            rcases (show k = 2 * i + 1 ∨ k = 2 * i + 2 by omega) with rfl | rfl
            · rw [E1, E2]; exact leD_lt hl1
            · exact leD_refl _
          have D1 : decide (ltD (ent bs'[2 * i + 2]) (ent bs'[2 * i + 1])) = true := decide_eq_true hl1
          rw [D1] at L0
          have L1 := Lib.hid L0
          have hjl := h2l
          have HO := Lib.hid (And.intro hlen (And.intro hnn (And.intro hil hjl)))
          clear hlen E1 E2 D1 hl1 L0
          go_wp2_with fail
          refine (L1.out).mono ?_
          rintro e w2 ⟨rfl, u2⟩
          have H2 := Lib.hid (H.out.keep0 u2)
          have U2 := Lib.hid (U.out.trans u2 (fun _ _ h => h.elim))
          clear u2 M1 L1
          obtain ⟨hlen, hnn, hil, hjl⟩ := HO.out
          have L0 := less_any base xa mv _ bs' ent (2 * i + 2) i bs'[2 * i + 2] bs'[i] w2 H2.out (List.getElem?_eq_getElem hjl) (List.getElem?_eq_getElem hil)
          rw [show ((2 * i + 2 : Nat) : Int) = 2 * (i : Int) + 1 + 1 by omega] at L0
          have ML := meth_less xa _ _ _ w2 (H2.out.x.cellAt (i := 0) rfl)
          by_cases hlt : ltD (ent bs'[2 * i + 2]) (ent bs'[i])
          · have D : decide (ltD (ent bs'[2 * i + 2]) (ent bs'[i])) = true := decide_eq_true hlt
            rw [D] at L0
            have LS := Lib.hid L0
            have ST := Lib.hid (HD.out.step leD_trans (j := 2 * i + 2) (by omega) (by omega) (by omega) (by rw [eo_at (List.getElem?_eq_getElem hjl), eo_at (List.getElem?_eq_getElem hil)]; exact leD_lt hlt) MIN.out)
            rw [← eo_swp hil hjl] at ST
            have SW0 := fun (v : World) (u : Upd (fun _ => False) w2 v) => swap_any base xa mv _ bs' ent i (2 * i + 2) _ _ v (H2.out.keep0 u) (List.getElem?_eq_getElem hil) (List.getElem?_eq_getElem hjl)
            rw [show ((2 * i + 2 : Nat) : Int) = 2 * (i : Int) + 1 + 1 by omega] at SW0
            have SWH := Lib.hid SW0
            have MSH := Lib.hid (fun (v : World) (u : Upd (fun _ => False) w2 v) => meth_swap xa _ _ _ v ((H2.out.keep0 u).x.cellAt (i := 0) rfl))
            have GO := Lib.hid (show 2 * i + 2 < bs.length ∧ i < 2 * i + 2 ∧ i < n ∧ 2 * i + 2 < n by omega)
            clear hlen D hlt HD MIN L0 SW0
            go_wp2_with fail
            refine (LS.out).mono ?_
            rintro e w3 ⟨rfl, u3⟩
            have MS := MSH.out _ u3
            have SW := Lib.hid (SWH.out _ u3)
            have U3 := Lib.hid (U2.out.trans u3 (fun _ _ h => h.elim))
            clear u3 ML LS
            go_wp2_with fail
            refine (SW.out).mono ?_
            rintro e w4 ⟨rfl, h4, u4⟩
            have H4 := Lib.hid h4
            have U4 := Lib.hid (U3.out.trans u4 (fun k _ hk => rowF_perm PM.out hk))
            clear h4 u4 MS
            go_wp2
            go_roundw
            case rel => exact ⟨swp bs' i (2 * i + 2), 2 * i + 2, by go_num, Lib.hid GO.out.1, H4, Lib.hid ((swp_perm _ _ _).trans PM.out), ST, Lib.hid (fun k hk => (swp_above GO.out.2.2.1 GO.out.2.2.2 hk).trans (HA.out k hk)), U4⟩
            case measure => have := GO.out; simp [intOf]; omega
          · have D : decide (ltD (ent bs'[2 * i + 2]) (ent bs'[i])) = false := decide_eq_false hlt
            rw [D] at L0
            have LS := Lib.hid L0
            have ED := Lib.hid (down_end HD.out (fun k h0 h1 h2 => leD_trans _ _ _ (show leD (eo ent bs' i) (eo ent bs' (2 * i + 2)) by rw [eo_at (List.getElem?_eq_getElem hjl), eo_at (List.getElem?_eq_getElem hil)]; exact hlt) (MIN.out k h0 h1 h2)))
            clear hlen D hlt HD MIN L0
            go_wp2_with fail
            refine (LS.out).mono ?_
            rintro e w3 ⟨rfl, u3⟩
            have H3 := Lib.hid (H2.out.keep0 u3)
            have U3 := Lib.hid (U2.out.trans u3 (fun _ _ h => h.elim))
            clear u3 ML LS
            go_wp2
            go_ret
            exact ⟨_, bs', rfl, H3.out, PM.out, ED.out.1, ED.out.2, HA.out, U3.out⟩
        · have MIN : Hid (∀ k, 0 < k → k < n → (k - 1) / 2 = i → leD (eo ent bs' (2 * i + 1)) (eo ent bs' k)) := by
            intro k k0 k1 k2
            rcases (show k = 2 * i + 1 ∨ k = 2 * i + 2 by omega) with rfl | rfl
            · exact leD_refl _
            · rw [E1, E2]; exact hl1
          have D1 : decide (ltD (ent bs'[2 * i + 2]) (ent bs'[2 * i + 1])) = false := decide_eq_false hl1
          rw [D1] at L0
          have L1 := Lib.hid L0
          have hjl := h1l
          have HO := Lib.hid (And.intro hlen (And.intro hnn (And.intro hil hjl)))
          clear hlen E1 E2 D1 hl1 L0
          go_wp2_with fail
          refine (L1.out).mono ?_
          rintro e w2 ⟨rfl, u2⟩
          have H2 := Lib.hid (H.out.keep0 u2)
          have U2 := Lib.hid (U.out.trans u2 (fun _ _ h => h.elim))
          clear u2 M1 L1
          obtain ⟨hlen, hnn, hil, hjl⟩ := HO.out
          have L0 := less_any base xa mv _ bs' ent (2 * i + 1) i bs'[2 * i + 1] bs'[i] w2 H2.out (List.getElem?_eq_getElem hjl) (List.getElem?_eq_getElem hil)
          rw [show ((2 * i + 1 : Nat) : Int) = 2 * (i : Int) + 1 by omega] at L0
          have ML := meth_less xa _ _ _ w2 (H2.out.x.cellAt (i := 0) rfl)
          by_cases hlt : ltD (ent bs'[2 * i + 1]) (ent bs'[i])
          · have D : decide (ltD (ent bs'[2 * i + 1]) (ent bs'[i])) = true := decide_eq_true hlt
            rw [D] at L0
            have LS := Lib.hid L0
            have ST := Lib.hid (HD.out.step leD_trans (j := 2 * i + 1) (by omega) (by omega) (by omega) (by rw [eo_at (List.getElem?_eq_getElem hjl), eo_at (List.getElem?_eq_getElem hil)]; exact leD_lt hlt) MIN.out)
            rw [← eo_swp hil hjl] at ST
            have SW0 := fun (v : World) (u : Upd (fun _ => False) w2 v) => swap_any base xa mv _ bs' ent i (2 * i + 1) _ _ v (H2.out.keep0 u) (List.getElem?_eq_getElem hil) (List.getElem?_eq_getElem hjl)
            rw [show ((2 * i + 1 : Nat) : Int) = 2 * (i : Int) + 1 by omega] at SW0
            have SWH := Lib.hid SW0
            have MSH := Lib.hid (fun (v : World) (u : Upd (fun _ => False) w2 v) => meth_swap xa _ _ _ v ((H2.out.keep0 u).x.cellAt (i := 0) rfl))
            have GO := Lib.hid (show 2 * i + 1 < bs.length ∧ i < 2 * i + 1 ∧ i < n ∧ 2 * i + 1 < n by omega)
            clear hlen D hlt HD MIN L0 SW0
            go_wp2_with fail
            refine (LS.out).mono ?_
            rintro e w3 ⟨rfl, u3⟩
            have MS := MSH.out _ u3
            have SW := Lib.hid (SWH.out _ u3)
            have U3 := Lib.hid (U2.out.trans u3 (fun _ _ h => h.elim))
            clear u3 ML LS
            go_wp2_with fail
            refine (SW.out).mono ?_
            rintro e w4 ⟨rfl, h4, u4⟩
            have H4 := Lib.hid h4
            have U4 := Lib.hid (U3.out.trans u4 (fun k _ hk => rowF_perm PM.out hk))
            clear h4 u4 MS
            go_wp2
            go_roundw
            case rel => exact ⟨swp bs' i (2 * i + 1), 2 * i + 1, by go_num, Lib.hid GO.out.1, H4, Lib.hid ((swp_perm _ _ _).trans PM.out), ST, Lib.hid (fun k hk => (swp_above GO.out.2.2.1 GO.out.2.2.2 hk).trans (HA.out k hk)), U4⟩
            case measure => have := GO.out; simp [intOf]; omega
          · have D : decide (ltD (ent bs'[2 * i + 1]) (ent bs'[i])) = false := decide_eq_false hlt
            rw [D] at L0
            have LS := Lib.hid L0
            have ED := Lib.hid (down_end HD.out (fun k h0 h1 h2 => leD_trans _ _ _ (show leD (eo ent bs' i) (eo ent bs' (2 * i + 1)) by rw [eo_at (List.getElem?_eq_getElem hjl), eo_at (List.getElem?_eq_getElem hil)]; exact hlt) (MIN.out k h0 h1 h2)))
            clear hlen D hlt HD MIN L0
            go_wp2_with fail
            refine (LS.out).mono ?_
            rintro e w3 ⟨rfl, u3⟩
            have H3 := Lib.hid (H2.out.keep0 u3)
            have U3 := Lib.hid (U2.out.trans u3 (fun _ _ h => h.elim))
            clear u3 ML LS
            go_wp2
            go_ret
            exact ⟨_, bs', rfl, H3.out, PM.out, ED.out.1, ED.out.2, HA.out, U3.out⟩
      · have s3 : decide (2 * (i : Int) + 1 + 1 < (n : Int)) = false := decide_eq_false (by omega)
        have MIN : Hid (∀ k, 0 < k → k < n → (k - 1) / 2 = i → leD (eo ent bs' (2 * i + 1)) (eo ent bs' k)) := by
          intro k k0 k1 k2
          obtain rfl : k = 2 * i + 1 := by omega
          exact leD_refl _
        have hjl : 2 * i + 1 < bs'.length := by omega
        have L0 := less_any base xa mv _ bs' ent (2 * i + 1) i bs'[2 * i + 1] bs'[i] wr H.out (List.getElem?_eq_getElem hjl) (List.getElem?_eq_getElem hil)
        rw [show ((2 * i + 1 : Nat) : Int) = 2 * (i : Int) + 1 by omega] at L0
        have ML := meth_less xa _ _ _ wr (H.out.x.cellAt (i := 0) rfl)
        by_cases hlt : ltD (ent bs'[2 * i + 1]) (ent bs'[i])
        · have D : decide (ltD (ent bs'[2 * i + 1]) (ent bs'[i])) = true := decide_eq_true hlt
          rw [D] at L0
          have LS := Lib.hid L0
          have ST := Lib.hid (HD.out.step leD_trans (j := 2 * i + 1) (by omega) (by omega) (by omega) (by rw [eo_at (List.getElem?_eq_getElem hjl), eo_at (List.getElem?_eq_getElem hil)]; exact leD_lt hlt) MIN.out)
          rw [← eo_swp hil hjl] at ST
          have SW0 := fun (v : World) (u : Upd (fun _ => False) wr v) => swap_any base xa mv _ bs' ent i (2 * i + 1) _ _ v (H.out.keep0 u) (List.getElem?_eq_getElem hil) (List.getElem?_eq_getElem hjl)
          rw [show ((2 * i + 1 : Nat) : Int) = 2 * (i : Int) + 1 by omega] at SW0
          have SWH := Lib.hid SW0
          have MSH := Lib.hid (fun (v : World) (u : Upd (fun _ => False) wr v) => meth_swap xa _ _ _ v ((H.out.keep0 u).x.cellAt (i := 0) rfl))
          have GO := Lib.hid (show 2 * i + 1 < bs.length ∧ i < 2 * i + 1 ∧ i < n ∧ 2 * i + 1 < n by omega)
          clear hlen D hlt HD MIN L0 SW0
          go_wp2_with fail
          refine (LS.out).mono ?_
          rintro e w3 ⟨rfl, u3⟩
          have MS := MSH.out _ u3
          have SW := Lib.hid (SWH.out _ u3)
          have U3 := Lib.hid (U.out.trans u3 (fun _ _ h => h.elim))
          clear u3 ML LS
          go_wp2_with fail
          refine (SW.out).mono ?_
          rintro e w4 ⟨rfl, h4, u4⟩
          have H4 := Lib.hid h4
          have U4 := Lib.hid (U3.out.trans u4 (fun k _ hk => rowF_perm PM.out hk))
          clear h4 u4 MS
          go_wp2
          go_roundw
          case rel => exact ⟨swp bs' i (2 * i + 1), 2 * i + 1, by go_num, Lib.hid GO.out.1, H4, Lib.hid ((swp_perm _ _ _).trans PM.out), ST, Lib.hid (fun k hk => (swp_above GO.out.2.2.1 GO.out.2.2.2 hk).trans (HA.out k hk)), U4⟩
          case measure => have := GO.out; simp [intOf]; omega
        · have D : decide (ltD (ent bs'[2 * i + 1]) (ent bs'[i])) = false := decide_eq_false hlt
          rw [D] at L0
          have LS := Lib.hid L0
          have ED := Lib.hid (down_end HD.out (fun k h0 h1 h2 => leD_trans _ _ _ (show leD (eo ent bs' i) (eo ent bs' (2 * i + 1)) by rw [eo_at (List.getElem?_eq_getElem hjl), eo_at (List.getElem?_eq_getElem hil)]; exact hlt) (MIN.out k h0 h1 h2)))
          clear hlen D hlt HD MIN L0
          go_wp2_with fail
          refine (LS.out).mono ?_
          rintro e w3 ⟨rfl, u3⟩
          have H3 := Lib.hid (H.out.keep0 u3)
          have U3 := Lib.hid (U.out.trans u3 (fun _ _ h => h.elim))
          clear u3 ML LS
          go_wp2
          go_ret
          exact ⟨_, bs', rfl, H3.out, PM.out, ED.out.1, ED.out.2, HA.out, U3.out⟩
end Go.Proofs.Ytokkhddbdjflhaa
