/- Walks: container/heap over the row of entries: down. -/
import Derived.Test.YtcdihffcncaibaaDoorK09
import Derived.Test.YtcdihffcncaibaaDoorK01
import Derived.Laws.AppendOwn
import Derived.Test.YtcdihffcncaibaaDoorK05
set_option linter.unusedVariables false
set_option linter.unusedSimpArgs false
namespace Go.Proofs.YtcdihffcncaibaaDoor
open Go.RowKit

theorem down_end {e : Nat → DueP} {n i0 i : Nat} (h : Pq.DownOk leD e n i0 i) (hc : ∀ k, 0 < k → k < n → (k - 1) / 2 = i → leD (e i) (e k)) :
    (decide (i0 < i) = true → Pq.Heap leD e n) ∧ (decide (i0 < i) = false → Pq.UpOk leD e n i0) := by
  refine ⟨fun hd => h.heap (by simp at hd; omega) hc, fun hd => ?_⟩
  have : i = i0 := by have := h.1; simp at hd; omega
  subst this
  exact h.up hc
/-- One has gone down; has it gone at all? -/
def Downed (base xa : Nat) (mv v : Value) (bs : List Nat) (ent : Nat → DueP) (n i0 : Nat) (w : World) (e : Ending) (w' : World) : Prop := ∃ (b : Bool) (bs' : List Nat), e = .returned (.bool b) ∧ RowM w' base xa mv v bs' ent ∧ bs'.Perm bs ∧ (b = true → Pq.Heap leD (eo ent bs') n) ∧ (b = false → Pq.UpOk leD (eo ent bs') n i0) ∧ (∀ k, n ≤ k → bs'[k]? = bs[k]?) ∧ Upd (rowF v bs) w w'
set_option maxHeartbeats 4000000 in
set_option maxRecDepth 100000 in
theorem down_any (base xa : Nat) (mv v : Value) (bs : List Nat) (ent : Nat → DueP) (n i0 : Nat) (w : World) (h : RowM w base xa mv v bs ent) (hi0 : i0 < bs.length) (hn : n ≤ bs.length) (hb0 : bs.length ≤ 1000000) (hd : Pq.DownOk leD (eo ent bs) n i0 i0) :
    Calls Tryd.prog 51 #[hv xa, .int .i64 (i0 : Int), .int .i64 (n : Int)] w (Downed base xa mv v bs ent n i0 w) := by
  unfold hv Downed
  have hlm := h.len
  unfold maxLen at hlm
  obtain ⟨g, cap, cs, ev, hg, hB, hc, hm, hgn⟩ := h.mem (i := i0) (by omega)
  have hcap : (bs.length : Int) ≤ 1000000 := by omega
  subst ev
  have H := Lib.hid h
  have HD := Lib.hid hd
  have HN := Lib.hid hn
  have HI0 := Lib.hid hi0
  clear h hd hB hg hc hm hgn
  go_enter Tryd.func51, Tryd.ntmps51
  go_wp2
  go_loopw [7] (fun x7 wr => ∃ (bs' : List Nat) (i : Nat), x7 = .int .i64 (i : Int) ∧ Hid (i < bs.length) ∧ Hid (RowM wr base xa mv (.slice (some ⟨g, 0, none⟩) bs.length cap) bs' ent) ∧ Hid (bs'.Perm bs) ∧ Hid (Pq.DownOk leD (eo ent bs') n i0 i) ∧ Hid (∀ k, n ≤ k → bs'[k]? = bs[k]?) ∧ Hid (Upd (rowF (.slice (some ⟨g, 0, none⟩) bs.length cap) bs) w wr)) (fun x7 _ => n - (intOf x7).toNat)
  case atStart => exact ⟨bs, i0, rfl, HI0, H, Lib.hid (List.Perm.refl _), HD, Lib.hid (fun _ _ => rfl), Lib.hid (Upd.refl _ _)⟩
  case round =>
    clear H HD hi0
    obtain ⟨bs', i, rfl, HI, H, PM, HD, HA, U⟩ := hrel
    have hil := HI.out
    have hib : (i : Int) ≤ 1000000 := by omega
    have hi00 : (0 : Int) ≤ (i : Int) := by omega
    have s1 : decide (2 * (i : Int) + 1 < 0) = false := decide_eq_false (by omega)
    by_cases hn1 : n ≤ 2 * i + 1
    · have s2 : decide ((n : Int) ≤ 2 * (i : Int) + 1) = true := decide_eq_true (by omega)
      have ED := Lib.hid (down_end HD.out (fun k h0 h1 h2 => by omega))
      go_wp2
      go_ret
      exact ⟨_, bs', rfl, H.out, PM.out, ED.out.1, ED.out.2, HA.out, U.out⟩
    · have hlen : bs'.length = bs.length := PM.out.length_eq
      have hnn := HN.out
      have hil : i < bs'.length := by omega
      have s2 : decide ((n : Int) ≤ 2 * (i : Int) + 1) = false := decide_eq_false (by omega)
      by_cases hn2 : 2 * i + 2 < n
      · have s3 : decide (2 * (i : Int) + 1 + 1 < (n : Int)) = true := decide_eq_true (by omega)
        have h1l : 2 * i + 1 < bs'.length := by omega
        have h2l : 2 * i + 2 < bs'.length := by omega
        have L0 := less_any base xa mv _ bs' ent (2 * i + 2) (2 * i + 1) bs'[2 * i + 2] bs'[2 * i + 1] wr H.out (List.getElem?_eq_getElem h2l) (List.getElem?_eq_getElem h1l)
        rw [show ((2 * i + 2 : Nat) : Int) = 2 * (i : Int) + 1 + 1 by omega, show ((2 * i + 1 : Nat) : Int) = 2 * (i : Int) + 1 by omega] at L0
        have M1 := meth_less xa _ _ _ wr (H.out.x.cellAt (i := 0) rfl)
        have E1 := eo_at (ent := ent) (List.getElem?_eq_getElem h1l)
        have E2 := eo_at (ent := ent) (List.getElem?_eq_getElem h2l)
        by_cases hl1 : ltD (ent bs'[2 * i + 2]) (ent bs'[2 * i + 1])
        · have MIN : Hid (∀ k, 0 < k → k < n → (k - 1) / 2 = i → leD (eo ent bs' (2 * i + 2)) (eo ent bs' k)) := by
            intro k k0 k1 k2
            rcases (show k = 2 * i + 1 ∨ k = 2 * i + 2 by omega) with rfl | rfl
            · rw [E1, E2]; exact leD_lt hl1
            · exact leD_refl _
          have D1 : decide (ltD (ent bs'[2 * i + 2]) (ent bs'[2 * i + 1])) = true := decide_eq_true hl1
          rw [D1] at L0
          have L1 := Lib.hid L0
          have hjl := h2l
          have HO := Lib.hid (And.intro hlen (And.intro hnn (And.intro hil hjl)))
          clear hlen E1 E2 D1 hl1 L0
          go_wp2_with fail
          refine (L1.out).mono ?_
          rintro e w2 ⟨rfl, u2⟩
          have H2 := Lib.hid (H.out.keep0 u2)
          have U2 := Lib.hid (U.out.trans u2 (fun _ _ h => h.elim))
          clear u2 M1 L1
          obtain ⟨hlen, hnn, hil, hjl⟩ := HO.out
          have L0 := less_any base xa mv _ bs' ent (2 * i + 2) i bs'[2 * i + 2] bs'[i] w2 H2.out (List.getElem?_eq_getElem hjl) (List.getElem?_eq_getElem hil)
          rw [show ((2 * i + 2 : Nat) : Int) = 2 * (i : Int) + 1 + 1 by omega] at L0
          have ML := meth_less xa _ _ _ w2 (H2.out.x.cellAt (i := 0) rfl)
          by_cases hlt : ltD (ent bs'[2 * i + 2]) (ent bs'[i])
          · have D : decide (ltD (ent bs'[2 * i + 2]) (ent bs'[i])) = true := decide_eq_true hlt
            rw [D] at L0
            have LS := Lib.hid L0
            have ST := Lib.hid (HD.out.step leD_trans (j := 2 * i + 2) (by omega) (by omega) (by omega) (by rw [eo_at (List.getElem?_eq_getElem hjl), eo_at (List.getElem?_eq_getElem hil)]; exact leD_lt hlt) MIN.out)
            rw [← eo_swp hil hjl] at ST
            have SW0 := fun (v : World) (u : Upd (fun _ => False) w2 v) => swap_any base xa mv _ bs' ent i (2 * i + 2) _ _ v (H2.out.keep0 u) (List.getElem?_eq_getElem hil) (List.getElem?_eq_getElem hjl)
            rw [show ((2 * i + 2 : Nat) : Int) = 2 * (i : Int) + 1 + 1 by omega] at SW0
            have SWH := Lib.hid SW0
            have MSH := Lib.hid (fun (v : World) (u : Upd (fun _ => False) w2 v) => meth_swap xa _ _ _ v ((H2.out.keep0 u).x.cellAt (i := 0) rfl))
            have GO := Lib.hid (show 2 * i + 2 < bs.length ∧ i < 2 * i + 2 ∧ i < n ∧ 2 * i + 2 < n by omega)
            clear hlen D hlt HD MIN L0 SW0
            go_wp2_with fail
            refine (LS.out).mono ?_
            rintro e w3 ⟨rfl, u3⟩
            have MS := MSH.out _ u3
            have SW := Lib.hid (SWH.out _ u3)
            have U3 := Lib.hid (U2.out.trans u3 (fun _ _ h => h.elim))
            clear u3 ML LS
            go_wp2_with fail
            refine (SW.out).mono ?_
            rintro e w4 ⟨rfl, h4, u4⟩
            have H4 := Lib.hid h4
            have U4 := Lib.hid (U3.out.trans u4 (fun k _ hk => rowF_perm PM.out hk))
            clear h4 u4 MS
            go_wp2
            go_roundw
            case rel => exact ⟨swp bs' i (2 * i + 2), 2 * i + 2, by go_num, Lib.hid GO.out.1, H4, Lib.hid ((swp_perm _ _ _).trans PM.out), ST, Lib.hid (fun k hk => (swp_above GO.out.2.2.1 GO.out.2.2.2 hk).trans (HA.out k hk)), U4⟩
            case measure => have := GO.out; simp [intOf]; omega
          · have D : decide (ltD (ent bs'[2 * i + 2]) (ent bs'[i])) = false := decide_eq_false hlt
            rw [D] at L0
            have LS := Lib.hid L0
            have ED := Lib.hid (down_end HD.out (fun k h0 h1 h2 => leD_trans _ _ _ (show leD (eo ent bs' i) (eo ent bs' (2 * i + 2)) by rw [eo_at (List.getElem?_eq_getElem hjl), eo_at (List.getElem?_eq_getElem hil)]; exact hlt) (MIN.out k h0 h1 h2)))
            clear hlen D hlt HD MIN L0
            go_wp2_with fail
            refine (LS.out).mono ?_
            rintro e w3 ⟨rfl, u3⟩
            have H3 := Lib.hid (H2.out.keep0 u3)
            have U3 := Lib.hid (U2.out.trans u3 (fun _ _ h => h.elim))
            clear u3 ML LS
            go_wp2
            go_ret
            exact ⟨_, bs', rfl, H3.out, PM.out, ED.out.1, ED.out.2, HA.out, U3.out⟩
        · have MIN : Hid (∀ k, 0 < k → k < n → (k - 1) / 2 = i → leD (eo ent bs' (2 * i + 1)) (eo ent bs' k)) := by
            intro k k0 k1 k2
            rcases (show k = 2 * i + 1 ∨ k = 2 * i + 2 by omega) with rfl | rfl
            · exact leD_refl _
            · rw [E1, E2]; exact hl1
          have D1 : decide (ltD (ent bs'[2 * i + 2]) (ent bs'[2 * i + 1])) = false := decide_eq_false hl1
          rw [D1] at L0
          have L1 := Lib.hid L0
          have hjl := h1l
          have HO := Lib.hid (And.intro hlen (And.intro hnn (And.intro hil hjl)))
          clear hlen E1 E2 D1 hl1 L0
          go_wp2_with fail
          refine (L1.out).mono ?_
          rintro e w2 ⟨rfl, u2⟩
          have H2 := Lib.hid (H.out.keep0 u2)
          have U2 := Lib.hid (U.out.trans u2 (fun _ _ h => h.elim))
          clear u2 M1 L1
          obtain ⟨hlen, hnn, hil, hjl⟩ := HO.out
          have L0 := less_any base xa mv _ bs' ent (2 * i + 1) i bs'[2 * i + 1] bs'[i] w2 H2.out (List.getElem?_eq_getElem hjl) (List.getElem?_eq_getElem hil)
          rw [show ((2 * i + 1 : Nat) : Int) = 2 * (i : Int) + 1 by omega] at L0
          have ML := meth_less xa _ _ _ w2 (H2.out.x.cellAt (i := 0) rfl)
          by_cases hlt : ltD (ent bs'[2 * i + 1]) (ent bs'[i])
          · have D : decide (ltD (ent bs'[2 * i + 1]) (ent bs'[i])) = true := decide_eq_true hlt
            rw [D] at L0
            have LS := Lib.hid L0
            have ST := Lib.hid (HD.out.step leD_trans (j := 2 * i + 1) (by omega) (by omega) (by omega) (by rw [eo_at (List.getElem?_eq_getElem hjl), eo_at (List.getElem?_eq_getElem hil)]; exact leD_lt hlt) MIN.out)
            rw [← eo_swp hil hjl] at ST
            have SW0 := fun (v : World) (u : Upd (fun _ => False) w2 v) => swap_any base xa mv _ bs' ent i (2 * i + 1) _ _ v (H2.out.keep0 u) (List.getElem?_eq_getElem hil) (List.getElem?_eq_getElem hjl)
            rw [show ((2 * i + 1 : Nat) : Int) = 2 * (i : Int) + 1 by omega] at SW0
            have SWH := Lib.hid SW0
            have MSH := Lib.hid (fun (v : World) (u : Upd (fun _ => False) w2 v) => meth_swap xa _ _ _ v ((H2.out.keep0 u).x.cellAt (i := 0) rfl))
            have GO := Lib.hid (show 2 * i + 1 < bs.length ∧ i < 2 * i + 1 ∧ i < n ∧ 2 * i + 1 < n by omega)
            clear hlen D hlt HD MIN L0 SW0
            go_wp2_with fail
            refine (LS.out).mono ?_
            rintro e w3 ⟨rfl, u3⟩
            have MS := MSH.out _ u3
            have SW := Lib.hid (SWH.out _ u3)
            have U3 := Lib.hid (U2.out.trans u3 (fun _ _ h => h.elim))
            clear u3 ML LS
            go_wp2_with fail
            refine (SW.out).mono ?_
            rintro e w4 ⟨rfl, h4, u4⟩
            have H4 := Lib.hid h4
            have U4 := Lib.hid (U3.out.trans u4 (fun k _ hk => rowF_perm PM.out hk))
            clear h4 u4 MS
            go_wp2
            go_roundw
            case rel => exact ⟨swp bs' i (2 * i + 1), 2 * i + 1, by go_num, Lib.hid GO.out.1, H4, Lib.hid ((swp_perm _ _ _).trans PM.out), ST, Lib.hid (fun k hk => (swp_above GO.out.2.2.1 GO.out.2.2.2 hk).trans (HA.out k hk)), U4⟩
            case measure => have := GO.out; simp [intOf]; omega
          · have D : decide (ltD (ent bs'[2 * i + 1]) (ent bs'[i])) = false := decide_eq_false hlt
            rw [D] at L0
            have LS := Lib.hid L0
            have ED := Lib.hid (down_end HD.out (fun k h0 h1 h2 => leD_trans _ _ _ (show leD (eo ent bs' i) (eo ent bs' (2 * i + 1)) by rw [eo_at (List.getElem?_eq_getElem hjl), eo_at (List.getElem?_eq_getElem hil)]; exact hlt) (MIN.out k h0 h1 h2)))
            clear hlen D hlt HD MIN L0
            go_wp2_with fail
            refine (LS.out).mono ?_
            rintro e w3 ⟨rfl, u3⟩
            have H3 := Lib.hid (H2.out.keep0 u3)
            have U3 := Lib.hid (U2.out.trans u3 (fun _ _ h => h.elim))
            clear u3 ML LS
            go_wp2
            go_ret
            exact ⟨_, bs', rfl, H3.out, PM.out, ED.out.1, ED.out.2, HA.out, U3.out⟩
      · have s3 : decide (2 * (i : Int) + 1 + 1 < (n : Int)) = false := decide_eq_false (by omega)
        have MIN : Hid (∀ k, 0 < k → k < n → (k - 1) / 2 = i → leD (eo ent bs' (2 * i + 1)) (eo ent bs' k)) := by
          intro k k0 k1 k2
          obtain rfl : k = 2 * i + 1 := by omega
          exact leD_refl _
        have hjl : 2 * i + 1 < bs'.length := by omega
        have L0 := less_any base xa mv _ bs' ent (2 * i + 1) i bs'[2 * i + 1] bs'[i] wr H.out (List.getElem?_eq_getElem hjl) (List.getElem?_eq_getElem hil)
        rw [show ((2 * i + 1 : Nat) : Int) = 2 * (i : Int) + 1 by omega] at L0
        have ML := meth_less xa _ _ _ wr (H.out.x.cellAt (i := 0) rfl)
        by_cases hlt : ltD (ent bs'[2 * i + 1]) (ent bs'[i])
        · have D : decide (ltD (ent bs'[2 * i + 1]) (ent bs'[i])) = true := decide_eq_true hlt
          rw [D] at L0
          have LS := Lib.hid L0
          have ST := Lib.hid (HD.out.step leD_trans (j := 2 * i + 1) (by omega) (by omega) (by omega) (by rw [eo_at (List.getElem?_eq_getElem hjl), eo_at (List.getElem?_eq_getElem hil)]; exact leD_lt hlt) MIN.out)
          rw [← eo_swp hil hjl] at ST
          have SW0 := fun (v : World) (u : Upd (fun _ => False) wr v) => swap_any base xa mv _ bs' ent i (2 * i + 1) _ _ v (H.out.keep0 u) (List.getElem?_eq_getElem hil) (List.getElem?_eq_getElem hjl)
          rw [show ((2 * i + 1 : Nat) : Int) = 2 * (i : Int) + 1 by omega] at SW0
          have SWH := Lib.hid SW0
          have MSH := Lib.hid (fun (v : World) (u : Upd (fun _ => False) wr v) => meth_swap xa _ _ _ v ((H.out.keep0 u).x.cellAt (i := 0) rfl))
          have GO := Lib.hid (show 2 * i + 1 < bs.length ∧ i < 2 * i + 1 ∧ i < n ∧ 2 * i + 1 < n by omega)
          clear hlen D hlt HD MIN L0 SW0
          go_wp2_with fail
          refine (LS.out).mono ?_
          rintro e w3 ⟨rfl, u3⟩
          have MS := MSH.out _ u3
          have SW := Lib.hid (SWH.out _ u3)
          have U3 := Lib.hid (U.out.trans u3 (fun _ _ h => h.elim))
          clear u3 ML LS
          go_wp2_with fail
          refine (SW.out).mono ?_
          rintro e w4 ⟨rfl, h4, u4⟩
          have H4 := Lib.hid h4
          have U4 := Lib.hid (U3.out.trans u4 (fun k _ hk => rowF_perm PM.out hk))
          clear h4 u4 MS
          go_wp2
          go_roundw
          case rel => exact ⟨swp bs' i (2 * i + 1), 2 * i + 1, by go_num, Lib.hid GO.out.1, H4, Lib.hid ((swp_perm _ _ _).trans PM.out), ST, Lib.hid (fun k hk => (swp_above GO.out.2.2.1 GO.out.2.2.2 hk).trans (HA.out k hk)), U4⟩
          case measure => have := GO.out; simp [intOf]; omega
        · have D : decide (ltD (ent bs'[2 * i + 1]) (ent bs'[i])) = false := decide_eq_false hlt
          rw [D] at L0
          have LS := Lib.hid L0
          have ED := Lib.hid (down_end HD.out (fun k h0 h1 h2 => leD_trans _ _ _ (show leD (eo ent bs' i) (eo ent bs' (2 * i + 1)) by rw [eo_at (List.getElem?_eq_getElem hjl), eo_at (List.getElem?_eq_getElem hil)]; exact hlt) (MIN.out k h0 h1 h2)))
          clear hlen D hlt HD MIN L0
          go_wp2_with fail
          refine (LS.out).mono ?_
          rintro e w3 ⟨rfl, u3⟩
          have H3 := Lib.hid (H.out.keep0 u3)
          have U3 := Lib.hid (U.out.trans u3 (fun _ _ h => h.elim))
          clear u3 ML LS
          go_wp2
          go_ret
          exact ⟨_, bs', rfl, H3.out, PM.out, ED.out.1, ED.out.2, HA.out, U3.out⟩
end Go.Proofs.YtcdihffcncaibaaDoor
/- Append to a row of the call's own: where the longer row lies. -/
set_option linter.unusedVariables false
set_option linter.unusedSimpArgs false
namespace Go.Proofs.YtcdihffcncaibaaDoor
open Go.RowKit

/-- Rows that lie where the old one lay, or in a new block. -/
def NewOr (v v' : Value) (w : World) : Prop := ∀ k, v'.ownBlock = some k → v.ownBlock = some k ∨ w.heap.size ≤ k
theorem run_append_where {P : Program} (w : World) (base : Nat) (t ty e : TypeId) (i : TypeInfo) (z : Value) (size bytes : Nat) (ht : P.underlying t = some (.slice e)) (hi : P.info? e = some i) (hz : i.zero = some z)
    (hsize : i.size = size) (hby : i.bytes = bytes) (v : Value) (n : Nat) (xs : List Value) (hown : w.ownsRow base e size v n xs)
    (a : Addr) (m c : Nat) (news : List Value) (hl : news.length = m * size) (hnews : ∀ j u, news[j]? = some u → w.cell? (a.add j) = some u) (h1 : ∀ u ∈ news, u.oneCell' = true) (hm : 0 < m)
    (h63 : n + m ≤ maxLen) (hbytes : (n + m) * bytes ≤ 140737488355328) :
    ∀ v' w', (Builtin.append_ #[t, t] ty #[v, .slice (some a) m c]).run P w = .ok v' w' → NewOr v v' w := by
  intro v' w' hr k hk
  subst hsize hby
  have h64 : n + m ≤ 9223372036854775807 := by simp only [maxLen] at h63; omega
  have hn := hown.1
  rcases hown.2 with ⟨rfl, rfl⟩ | ⟨g, cap, cur, rfl, _, hg, hnc, hcm, hcs, _⟩
  · have := run_append_nil (P := P) (ty := ty) w t e i z ht hi hz a m c news hl hnews hm (by omega) (by simp only [Nat.zero_add] at hbytes; omega)
    rw [this] at hr
    injection hr with e1 e2
    subst e1; cases hk; exact Or.inr (Nat.le_refl _)
  · by_cases hroom : n + m ≤ cap
    · have := run_append_room (P := P) (ty := ty) w t e i ht hi g n cap cur hg a m c news hl hnews h1 hroom (by rw [hl, hcs, ← Nat.add_mul]; exact Nat.mul_le_mul_right _ hroom)
      rw [this] at hr
      injection hr with e1 e2
      subst e1; exact Or.inl hk
    · have := run_append_grow (P := P) (ty := ty) w t e i z ht hi hz ⟨g, 0, none⟩ n cap xs hn (hown.cells (g := g) rfl) a m c news hl hnews (by omega) (by omega) (growslice_fits (by omega) hbytes)
      rw [this] at hr
      injection hr with e1 e2
      subst e1; cases hk; exact Or.inr (Nat.le_refl _)
theorem wpList_append_where {P : Program} {ops : Array Oper} {rest : List Oper} {o : Oper} {a : Act} {Q : Exit → Act → World → Prop} (w : World) (hgd : o.guard = none) (s x : Operand) (t : TypeId)
    (ho : o.op = .call { callee := .builtin .append, args := #[s, x], argTypes := #[t, t] })
    (base : Nat) (e : TypeId) (i : TypeInfo) (z : Value) (size bytes : Nat) (ht : P.underlying t = some (.slice e)) (hi : P.info? e = some i) (hz : i.zero = some z)
    (hsize : i.size = size) (hby : i.bytes = bytes) (hzs : z.cells.size = size) (hsz : 0 < size)
    (v : Value) (n : Nat) (xs : List Value) (hs : a.eval s = v) (hown : w.ownsRow base e size v n xs)
    (ad : Addr) (m c : Nat) (news : List Value) (hx : a.eval x = .slice (some ad) m c) (hl : news.length = m * size) (hnews : ∀ j u, news[j]? = some u → w.cell? (ad.add j) = some u) (h1 : ∀ u ∈ news, u.oneCell' = true)
    (h63 : n + m ≤ maxLen) (hbytes : (n + m) * bytes ≤ 140737488355328) (hbase : base ≤ w.heap.size) (hm : 0 < m)
    (h : ∀ v' w', w'.ownsRow base e size v' (n + m) (xs ++ news) → Upd (fun k => v.ownBlock = some k) w w' → NewOr v v' w → wpList P ops Q rest (a.put o.dst v') w') : wpList P ops Q (o :: rest) a w :=
  wpList_plain hgd fun K hK => by
    obtain ⟨v', w', hr, h2, h3, _⟩ := run_append_own (P := P) w base t o.type e i z size bytes ht hi hz hsize hby hzs hsz v n xs hown ad m c news hl hnews h1 h63 hbytes hbase
    have hw := run_append_where (P := P) w base t o.type e i z size bytes ht hi hz hsize hby v n xs hown ad m c news hl hnews h1 hm h63 hbytes v' w' hr
    unfold Oper.wp execOp
    simp only [ho, resolve, invoke, builtin, Sem.run_bind, Sem.run_pure, Result.andThen_ok, List.map_toArray, List.map_cons, List.map_nil, hs, hx, hr]
    exact hK _ _ (h v' w' h2 ((Upd.of_grown h3).weaken (fun k _ hk => hk.symm)) hw)
end Go.Proofs.YtcdihffcncaibaaDoor
/- Walks: the row of entries: how many, one more, the last one goes. -/
set_option linter.unusedVariables false
set_option linter.unusedSimpArgs false
namespace Go.Proofs.YtcdihffcncaibaaDoor
open Go.RowKit

theorem rowlen_any (p : Option Addr) (n c : Nat) (w : World) (hn : n ≤ 1000000) : Calls Tryd.prog 104 #[.slice p n c] w fun e w' => e = .returned (.int .i64 (n : Int)) ∧ w' = w := by
  go_enter Tryd.func104, Tryd.ntmps104
  go_wp2
  go_ret
  exact ⟨rfl, rfl⟩
theorem ptr_info : (Tryd.prog.info? 95).map (fun i => (i.zero, i.size, i.bytes)) = some (some (.pointer none), 1, 8) := by kernel_rfl
theorem asrtE (a : Addr) (w : World) : (Instr.typeAssert (.iface 95 (.pointer (some a))) 20 95 false).run Tryd.prog w = .ok (.pointer (some a)) w := by kernel_rfl
/-- The row with one more, not yet in its place. -/
def Pushed (base xa : Nat) (mv v : Value) (bs : List Nat) (ent : Nat → DueP) (b : Nat) (w : World) (e : Ending) (w' : World) : Prop := ∃ v', e = .returned (.tuple #[]) ∧ RowM w' base xa mv v' (bs ++ [b]) ent ∧ Upd (fun k => k = xa ∨ k = b ∨ v.ownBlock = some k) w w' ∧ (∀ k, v'.ownBlock = some k → v.ownBlock = some k ∨ w.heap.size ≤ k)
set_option maxHeartbeats 4000000 in
theorem rowPop_any (base xa : Nat) (mv v : Value) (bs : List Nat) (ent : Nat → DueP) (b : Nat) (w : World) (h : RowM w base xa mv v (bs ++ [b]) ent) (hl : bs.length + 1 ≤ 1000000) :
    Calls Tryd.prog 113 #[.pointer (some ⟨xa, 0, none⟩)] w fun e w' => ∃ v', e = .returned (.iface 95 (ptr b)) ∧ RowM w' base xa mv v' bs ent ∧ Upd (fun k => k = xa) w w' ∧ v'.ownBlock = v.ownBlock := by
  have hl2 : (bs ++ [b]).length = bs.length + 1 := by simp
  obtain ⟨g, cap, cs, ev, hg, hB, hc, hm, hgn⟩ := h.mem (i := bs.length) (by omega)
  rw [hl2] at ev hc
  subst ev
  have c1 : w.cell? ⟨xa, 0, none⟩ = some (.slice (some ⟨g, 0, none⟩) (bs.length + 1) cap) := h.x.cellAt (i := 0) rfl
  have f1 : w.frozen? ⟨xa, 0, none⟩ = false := h.x.free 0
  have c2 : w.cell? ⟨g, bs.length, none⟩ = some (.pointer (some ⟨b, 0, none⟩)) := hB.cellAt (map_at (by simp))
  have hcap : (bs.length : Int) ≤ (cap : Int) := by omega
  have hcap2 : bs.length ≤ cap := by omega
  have H := Lib.hid h
  have HB := Lib.hid hB
  have HG := Lib.hid (And.intro hg (And.intro hc hm))
  clear h hB hc hl2 hm
  go_enter Tryd.func113, Tryd.ntmps113
  go_wp2
  go_ret
  have u : Upd (fun k => k = xa) w (w.setCell ⟨xa, 0, none⟩ (.slice (some ⟨g, 0, none⟩) bs.length cap)) := (Upd.refl _ w).set (fun _ => rfl)
  have hxg : ¬ g = xa := fun e => H.out.vx (by rw [← e]; rfl)
  obtain ⟨n1, _, n2⟩ := List.nodup_append.1 H.out.nd
  refine ⟨_, rfl, ⟨H.out.x.set 0 _, ?_, fun i c hi => ?_, n1, fun hm => H.out.xn (by simp [hm]), H.out.vx, fun k hk hm => H.out.vn k hk (by simp [hm])⟩, u, rfl⟩
  · have hB := u.blk HB.out hxg
    rw [List.map_append, List.append_assoc] at hB
    exact own_of HG.out.1 hB (by simp) (by have := HG.out.2.1; simp; omega) HG.out.2.2
  · have h1 : (bs ++ [b])[i]? = some c := by rw [List.getElem?_append_left (List.getElem?_eq_some_iff.1 hi).1]; exact hi
    exact u.blk (H.out.at_ i c h1) (fun e => H.out.xn (e ▸ List.mem_of_getElem? h1))
end Go.Proofs.YtcdihffcncaibaaDoor
/- Walks: container/heap over the row of entries: one comes, one goes, one is turned. -/
set_option linter.unusedVariables false
set_option linter.unusedSimpArgs false
namespace Go.Proofs.YtcdihffcncaibaaDoor
open Go.RowKit

/-- A row of entries, in a heap's order. -/
structure HeapM (w : World) (base xa : Nat) (mv v : Value) (bs : List Nat) (ent : Nat → DueP) : Prop where
  row : RowM w base xa mv v bs ent
  heap : Pq.Heap leD (eo ent bs) bs.length
theorem eo_snoc {ent : Nat → DueP} {bs : List Nat} {b k : Nat} (h : k < bs.length) : eo ent (bs ++ [b]) k = eo ent bs k := by
  unfold eo; rw [List.getElem?_append_left h]
theorem snoc_of {l : List Nat} {n b : Nat} (hl : l.length = n + 1) (hb : l[n]? = some b) : l = l.take n ++ [b] := by
  obtain ⟨h, e⟩ := List.getElem?_eq_some_iff.1 hb
  have := List.take_succ_eq_append_getElem h
  rw [List.take_of_length_le (by omega), e] at this
  exact this
theorem rowF_own {v : Value} {bs : List Nat} {k : Nat} (h : v.ownBlock = some k) : rowF v bs k := Or.inl h
/-- With one more. -/
def Come (base xa : Nat) (mv v : Value) (bs : List Nat) (ent : Nat → DueP) (b : Nat) (w : World) (e : Ending) (w' : World) : Prop := ∃ v' bs', e = .returned (.tuple #[]) ∧ HeapM w' base xa mv v' bs' ent ∧ bs'.Perm (b :: bs) ∧ Upd (fun k => k = xa ∨ k = b ∨ rowF v bs k) w w' ∧ NewOr v v' w
/-- One has gone. -/
def Gone (base xa : Nat) (mv v : Value) (bs : List Nat) (ent : Nat → DueP) (b : Nat) (w : World) (e : Ending) (w' : World) : Prop := ∃ v' bs' i, e = .returned (.iface 95 (ptr b)) ∧ HeapM w' base xa mv v' bs' ent ∧ (b :: bs').Perm bs ∧ Upd (fun k => k = xa ∨ rowF v bs k) w w' ∧ v'.ownBlock = v.ownBlock ∧ Blk w' b (entc (ent b) i) 102
/-- What is left when the last one has gone. -/
theorem gone_of {base xa : Nat} {mv v v' : Value} {bs bs1 : List Nat} {ent : Nat → DueP} {b n : Nat} {w w1 w' : World} (h : RowM w1 base xa mv v (bs1 ++ [b]) ent) (hp : (bs1 ++ [b]).Perm bs) (hn : bs1.length = n) (hh : Pq.Heap leD (eo ent (bs1 ++ [b])) n) (u : Upd (rowF v bs) w w1)
    (h' : RowM w' base xa mv v' bs1 ent) (u' : Upd (fun k => k = xa) w1 w') (o' : v'.ownBlock = v.ownBlock) : Gone base xa mv v bs ent b w (.returned (.iface 95 (ptr b))) w' := by
  subst hn
  refine ⟨v', bs1, bs1.length, rfl, ⟨h', hh.congr (fun k hk => (eo_snoc hk).symm)⟩, (List.perm_append_singleton b bs1).symm.trans hp, (u.weaken (fun _ _ h => Or.inr h)).trans u' (fun _ _ h => Or.inl h), o', ?_⟩
  exact u'.blk (h.at_ bs1.length b (by simp)) (fun e => h.xn (e ▸ by simp))
end Go.Proofs.YtcdihffcncaibaaDoor
/- Walks: container/heap over the row of entries: the first one goes, any one goes. -/
set_option linter.unusedVariables false
set_option linter.unusedSimpArgs false
namespace Go.Proofs.YtcdihffcncaibaaDoor
open Go.RowKit

set_option maxHeartbeats 4000000 in
set_option maxRecDepth 100000 in
theorem hremove_any (base xa : Nat) (mv v : Value) (bs : List Nat) (ent : Nat → DueP) (i b : Nat) (w : World) (h : HeapM w base xa mv v bs ent) (hb : bs[i]? = some b) (hl : bs.length ≤ 1000000) :
    Calls Tryd.prog 43 #[hv xa, .int .i64 (i : Int)] w (Gone base xa mv v bs ent b w) := by
  have h0 := (List.getElem?_eq_some_iff.1 hb).1
  obtain ⟨n, hn⟩ : ∃ n, bs.length = n + 1 := ⟨bs.length - 1, by omega⟩
  obtain ⟨p1, c1, ev1, hm1⟩ := own_slice h.row.own
  rw [hn] at ev1
  subst ev1
  have LN := rowlen_any p1 (n + 1) c1 w (by omega)
  have ML := meth_len xa _ _ _ w (h.row.x.cellAt (i := 0) rfl)
  have MS := meth_swap xa _ _ _ w (h.row.x.cellAt (i := 0) rfl)
  obtain ⟨c, hc⟩ : ∃ c, bs[n]? = some c := ⟨_, List.getElem?_eq_getElem (by omega)⟩
  have HL := Lib.hid hn
  have HL1 := Lib.hid (show n + 1 ≤ 1000000 by omega)
  have hnb : n ≤ 1000000 := by omega
  have LN := Lib.hid LN
  by_cases hin : n = i
  · subst hin
    have q1 : ((n : Int) == (n : Int)) = true := by simp
    have q2 : (!((n : Int) == (n : Int))) = false := by simp
    have H4 : Hid (RowM w base xa mv (Value.slice p1 (n + 1) c1) bs ent ∧ bs.Perm bs ∧ Pq.Heap leD (eo ent bs) n ∧ (∀ k, n ≤ k → bs[k]? = bs[k]?) ∧ Upd (rowF (Value.slice p1 (n + 1) c1) bs) w w) := ⟨h.row, List.Perm.refl _, h.heap.less (by omega), fun _ _ => rfl, Upd.refl _ _⟩
    have AB := Lib.hid hb
    unfold hv
    clear h hb hc hm1 hn h0 hl MS
    go_enter Tryd.func43, Tryd.ntmps43
    go_wp2_with fail
    refine (LN.out).mono ?_
    rintro e w1 ⟨rfl, rfl⟩
    obtain ⟨h4, pm4, hh4, ab4, u4⟩ := H4.out
    have el : bs.length = n + 1 := by rw [pm4.length_eq]; exact HL.out
    have es := snoc_of el (b := b) (AB.out)
    have hn : (bs.take n).length = n := by simp; omega
    have pm5 : (bs.take n ++ [b]).Perm bs := by rw [← es] <;> exact pm4
    replace pm4 := pm5
    clear pm5
    rw [es] at h4 hh4
    generalize bs.take n = bs1 at *
    have RP := Lib.hid (rowPop_any base xa mv _ bs1 ent b w1 h4 (by have := HL1.out; omega))
    have FIN := Lib.hid (And.intro h4 (And.intro pm4 (And.intro hn (And.intro hh4 u4))))
    unfold ptr at RP
    clear h4 pm4 hh4 ab4 u4 el es hn
    have MP := meth_pop ⟨xa, 0, none⟩ w1
    go_wp2_with fail
    refine (RP.out).mono ?_
    rintro e w9 ⟨v9, rfl, h9, u9, o9⟩
    have H9 := Lib.hid (And.intro h9 (And.intro u9 o9))
    clear h9 u9 o9 MP
    go_wp2
    go_ret
    obtain ⟨h4, pm4, hn, hh4, u4⟩ := FIN.out
    exact gone_of h4 pm4 hn hh4 u4 H9.out.1 H9.out.2.1 H9.out.2.2
  · have q1 : ((n : Int) == (i : Int)) = false := by simp; omega
    have q2 : (!((n : Int) == (i : Int))) = true := by rw [q1]; rfl
    have hni : ¬ i = n := fun e => hin e.symm
    have SW := Lib.hid (swap_any base xa mv _ bs ent i n b c w h.row hb hc)
    have HT : Hid (Pq.DownOk leD (eo ent (swp bs i n)) n i i) := (h.heap.less (by omega : n ≤ bs.length)).turn leD_trans i (fun k hk hk0 => by
      rw [eo_swp h0 (by omega)]; unfold Pq.sw; rw [if_neg hk0, if_neg (by omega)])
    have AB : Hid ((swp bs i n)[n]? = some b) := by
      show _ = _
      rw [swp_get h0 (by omega), if_neg hin, if_pos rfl]; exact hb
    have HLS := Lib.hid (show (swp bs i n).length = n + 1 by rw [swp_len]; exact hn)
    have HIN := Lib.hid (show i < n by omega)
    unfold hv
    clear h hb hc hm1 hn h0 hl hin
    go_enter Tryd.func43, Tryd.ntmps43
    go_wp2_with fail
    refine (LN.out).mono ?_
    rintro e w1 ⟨rfl, rfl⟩
    go_wp2_with fail
    refine (SW.out).mono ?_
    rintro e w2 ⟨rfl, h2, u2⟩
    have H2 := Lib.hid (And.intro h2 u2)
    have DN := Lib.hid (down_any base xa mv _ (swp bs i n) ent n i w2 h2 (by rw [HLS.out]; have := HIN.out; omega) (by rw [HLS.out]; omega) (by rw [HLS.out]; exact HL1.out) HT.out)
    unfold Downed hv at DN
    clear h2 u2 ML MS
    go_wp2_with fail
    refine (DN.out).mono ?_
    rintro e w3 ⟨bb, bs3, rfl, h3, pm3, hT3, hF3, ab3, u3⟩
    have H3 := Lib.hid (And.intro h3 (And.intro pm3 (And.intro ab3 (H2.out.2.trans u3 (fun k _ hk => rowF_perm (swp_perm bs i n) hk)))))
    have HT3 := Lib.hid hT3
    have HF3 := Lib.hid hF3
    clear h3 pm3 hT3 hF3 ab3 u3
    cases bb with
    | true =>
      have H4 := Lib.hid (And.intro H3.out.1 (And.intro (H3.out.2.1.trans (swp_perm bs i n)) (And.intro (show Pq.Heap leD (eo ent bs3) n by first | exact HT3.out rfl | exact HT3.out trivial) (And.intro H3.out.2.2.1 H3.out.2.2.2))))
      obtain ⟨h4, pm4, hh4, ab4, u4⟩ := H4.out
      have el : bs3.length = n + 1 := by rw [pm4.length_eq]; exact HL.out
      have es := snoc_of el (b := b) ((ab4 n (Nat.le_refl _)).trans AB.out)
      have hn : (bs3.take n).length = n := by simp; omega
      have pm5 : (bs3.take n ++ [b]).Perm bs := by rw [← es] <;> exact pm4
      replace pm4 := pm5
      clear pm5
      rw [es] at h4 hh4
      generalize bs3.take n = bs1 at *
      have RP := Lib.hid (rowPop_any base xa mv _ bs1 ent b w3 h4 (by have := HL1.out; omega))
      have FIN := Lib.hid (And.intro h4 (And.intro pm4 (And.intro hn (And.intro hh4 u4))))
      unfold ptr at RP
      clear h4 pm4 hh4 ab4 u4 el es hn
      have MP := meth_pop ⟨xa, 0, none⟩ w3
      go_wp2_with fail
      refine (RP.out).mono ?_
      rintro e w9 ⟨v9, rfl, h9, u9, o9⟩
      have H9 := Lib.hid (And.intro h9 (And.intro u9 o9))
      clear h9 u9 o9 MP
      go_wp2
      go_ret
      obtain ⟨h4, pm4, hn, hh4, u4⟩ := FIN.out
      exact gone_of h4 pm4 hn hh4 u4 H9.out.1 H9.out.2.1 H9.out.2.2
    | false =>
      have UPA := Lib.hid (up_any base xa mv _ bs3 ent n i w3 H3.out.1 HIN.out (by rw [H3.out.2.1.length_eq, HLS.out]; omega) (by first | exact HF3.out rfl | exact HF3.out trivial))
      unfold hv at UPA
      go_wp2_with fail
      refine (UPA.out).mono ?_
      rintro e w4 ⟨rfl, bs4, h4, pm4, hh4, ab4, u4⟩
      have H4 := Lib.hid (And.intro h4 (And.intro ((pm4.trans H3.out.2.1).trans (swp_perm bs i n)) (And.intro hh4 (And.intro (fun k hk => (ab4 k hk).trans (H3.out.2.2.1 k hk)) (H3.out.2.2.2.trans u4 (fun k _ hk => rowF_perm (H3.out.2.1.trans (swp_perm bs i n)) hk))))))
      have AB4 := Lib.hid AB.out
      clear h4 pm4 hh4 ab4 u4
      obtain ⟨h4, pm4, hh4, ab4, u4⟩ := H4.out
      have el : bs4.length = n + 1 := by rw [pm4.length_eq]; exact HL.out
      have es := snoc_of el (b := b) ((ab4 n (Nat.le_refl _)).trans AB.out)
      have hn : (bs4.take n).length = n := by simp; omega
      have pm5 : (bs4.take n ++ [b]).Perm bs := by rw [← es] <;> exact pm4
      replace pm4 := pm5
      clear pm5
      rw [es] at h4 hh4
      generalize bs4.take n = bs1 at *
      have RP := Lib.hid (rowPop_any base xa mv _ bs1 ent b w4 h4 (by have := HL1.out; omega))
      have FIN := Lib.hid (And.intro h4 (And.intro pm4 (And.intro hn (And.intro hh4 u4))))
      unfold ptr at RP
      clear h4 pm4 hh4 ab4 u4 el es hn
      have MP := meth_pop ⟨xa, 0, none⟩ w4
      go_wp2_with fail
      refine (RP.out).mono ?_
      rintro e w9 ⟨v9, rfl, h9, u9, o9⟩
      have H9 := Lib.hid (And.intro h9 (And.intro u9 o9))
      clear h9 u9 o9 MP
      go_wp2
      go_ret
      obtain ⟨h4, pm4, hn, hh4, u4⟩ := FIN.out
      exact gone_of h4 pm4 hn hh4 u4 H9.out.1 H9.out.2.1 H9.out.2.2
end Go.Proofs.YtcdihffcncaibaaDoor
