/- Walks: container/heap over the row of entries: the first one goes, any one goes. -/
import Derived.Test.YtokkhddbdjflhaaExpF
set_option linter.unusedVariables false
set_option linter.unusedSimpArgs false
namespace Go.Proofs.Ytokkhddbdjflhaa
open Go.RowKit

set_option maxHeartbeats 4000000 in
set_option maxRecDepth 100000 in
theorem hpop_any (base xa : Nat) (mv v : Value) (bs : List Nat) (ent : Nat → DueP) (b : Nat) (w : World) (h : HeapM w base xa mv v bs ent) (hb : bs[0]? = some b) (hl : bs.length ≤ 1000000) :
    Calls Try.prog 28 #[hv xa] w (Gone base xa mv v bs ent b w) := by
  have h0 := (List.getElem?_eq_some_iff.1 hb).1
  obtain ⟨n, hn⟩ : ∃ n, bs.length = n + 1 := ⟨bs.length - 1, by omega⟩
  obtain ⟨p1, c1, ev1, hm1⟩ := own_slice h.row.own
  rw [hn] at ev1
  subst ev1
  have LN := rowlen_any p1 (n + 1) c1 w (by omega)
  have ML := meth_len xa _ _ _ w (h.row.x.cellAt (i := 0) rfl)
  have MS := meth_swap xa _ _ _ w (h.row.x.cellAt (i := 0) rfl)
  obtain ⟨c, hc⟩ : ∃ c, bs[n]? = some c := ⟨_, List.getElem?_eq_getElem (by omega)⟩
  have SW := Lib.hid (swap_any base xa mv _ bs ent 0 n b c w h.row hb hc)
  have HT : Hid (Pq.DownOk leD (eo ent (swp bs 0 n)) n 0 0) := (h.heap.less (by omega : n ≤ bs.length)).turn leD_trans 0 (fun k hk hk0 => by
    rw [eo_swp h0 (by omega)]; unfold Pq.sw; rw [if_neg hk0, if_neg (by omega)])
  have AB : Hid ((swp bs 0 n)[n]? = some b) := by
    show _ = _
    rw [swp_get h0 (by omega)]
    by_cases e : n = 0
    · rw [if_pos e, e]; exact hb
    · rw [if_neg e, if_pos rfl]; exact hb
  have HL := Lib.hid (show (swp bs 0 n).length = n + 1 by rw [swp_len]; exact hn)
  have HL1 := Lib.hid (show n + 1 ≤ 1000000 by omega)
  have hnb : n ≤ 1000000 := by omega
  have LN := Lib.hid LN
  have HN := Lib.hid hn
  unfold hv
  clear h hb hc hm1 hn h0 hl
  go_enter Try.func28, Try.ntmps28
  go_wp2_with fail
  refine (LN.out).mono ?_
  rintro e w1 ⟨rfl, rfl⟩
  go_wp2_with fail
  refine (SW.out).mono ?_
  rintro e w2 ⟨rfl, h2, u2⟩
  have H2 := Lib.hid (And.intro h2 u2)
  have DN := Lib.hid (down_any base xa mv _ (swp bs 0 n) ent n 0 w2 h2 (by rw [HL.out]; omega) (by rw [HL.out]; omega) (by rw [HL.out]; exact HL1.out) HT.out)
  unfold Downed hv at DN
  clear h2 u2 ML MS
  go_wp2_with fail
  refine (DN.out).mono ?_
  rintro e w3 ⟨bb, bs3, rfl, h3, pm3, hT3, hF3, ab3, u3⟩
  have H4 := Lib.hid (And.intro h3 (And.intro (pm3.trans (swp_perm bs 0 n)) (And.intro (show Pq.Heap leD (eo ent bs3) n by cases bb with | true => exact hT3 rfl | false => exact (hF3 rfl).done0) (And.intro ab3 (H2.out.2.trans u3 (fun k _ hk => rowF_perm (swp_perm bs 0 n) hk))))))
  have HLB := Lib.hid (HN.out)
  clear h3 pm3 hT3 hF3 ab3 u3 HL
  have HL := HLB
  obtain ⟨h4, pm4, hh4, ab4, u4⟩ := H4.out
  have el : bs3.length = n + 1 := by rw [pm4.length_eq]; exact HL.out
  have es := snoc_of el (b := b) ((ab4 n (Nat.le_refl _)).trans AB.out)
  have hn : (bs3.take n).length = n := by simp; omega
  have pm5 : (bs3.take n ++ [b]).Perm bs := by rw [← es] <;> exact pm4
  replace pm4 := pm5
  clear pm5
  rw [es] at h4 hh4
  generalize bs3.take n = bs1 at *
  have RP := Lib.hid (rowPop_any base xa mv _ bs1 ent b w3 h4 (by have := HL1.out; omega))
  have FIN := Lib.hid (And.intro h4 (And.intro pm4 (And.intro hn (And.intro hh4 u4))))
  unfold ptr at RP
  clear h4 pm4 hh4 ab4 u4 el es hn
  have MP := meth_pop ⟨xa, 0, none⟩ w3
  go_wp2_with fail
  refine (RP.out).mono ?_
  rintro e w9 ⟨v9, rfl, h9, u9, o9⟩
  have H9 := Lib.hid (And.intro h9 (And.intro u9 o9))
  clear h9 u9 o9 MP
  go_wp2
  go_ret
  obtain ⟨h4, pm4, hn, hh4, u4⟩ := FIN.out
  exact gone_of h4 pm4 hn hh4 u4 H9.out.1 H9.out.2.1 H9.out.2.2
set_option maxHeartbeats 4000000 in
set_option maxRecDepth 100000 in
theorem hremove_any (base xa : Nat) (mv v : Value) (bs : List Nat) (ent : Nat → DueP) (i b : Nat) (w : World) (h : HeapM w base xa mv v bs ent) (hb : bs[i]? = some b) (hl : bs.length ≤ 1000000) :
    Calls Try.prog 29 #[hv xa, .int .i64 (i : Int)] w (Gone base xa mv v bs ent b w) := by
  have h0 := (List.getElem?_eq_some_iff.1 hb).1
  obtain ⟨n, hn⟩ : ∃ n, bs.length = n + 1 := ⟨bs.length - 1, by omega⟩
  obtain ⟨p1, c1, ev1, hm1⟩ := own_slice h.row.own
  rw [hn] at ev1
  subst ev1
  have LN := rowlen_any p1 (n + 1) c1 w (by omega)
  have ML := meth_len xa _ _ _ w (h.row.x.cellAt (i := 0) rfl)
  have MS := meth_swap xa _ _ _ w (h.row.x.cellAt (i := 0) rfl)
  obtain ⟨c, hc⟩ : ∃ c, bs[n]? = some c := ⟨_, List.getElem?_eq_getElem (by omega)⟩
  have HL := Lib.hid hn
  have HL1 := Lib.hid (show n + 1 ≤ 1000000 by omega)
  have hnb : n ≤ 1000000 := by omega
  have LN := Lib.hid LN
  by_cases hin : n = i
  · subst hin
    have q1 : ((n : Int) == (n : Int)) = true := by simp
    have q2 : (!((n : Int) == (n : Int))) = false := by simp
    have H4 : Hid (RowM w base xa mv (Value.slice p1 (n + 1) c1) bs ent ∧ bs.Perm bs ∧ Pq.Heap leD (eo ent bs) n ∧ (∀ k, n ≤ k → bs[k]? = bs[k]?) ∧ Upd (rowF (Value.slice p1 (n + 1) c1) bs) w w) := ⟨h.row, List.Perm.refl _, h.heap.less (by omega), fun _ _ => rfl, Upd.refl _ _⟩
    have AB := Lib.hid hb
    unfold hv
    clear h hb hc hm1 hn h0 hl MS
    go_enter Try.func29, Try.ntmps29
    go_wp2_with fail
    refine (LN.out).mono ?_
    rintro e w1 ⟨rfl, rfl⟩
    obtain ⟨h4, pm4, hh4, ab4, u4⟩ := H4.out
    have el : bs.length = n + 1 := by rw [pm4.length_eq]; exact HL.out
    have es := snoc_of el (b := b) (AB.out)
    have hn : (bs.take n).length = n := by simp; omega
    have pm5 : (bs.take n ++ [b]).Perm bs := by rw [← es] <;> exact pm4
    replace pm4 := pm5
    clear pm5
    rw [es] at h4 hh4
    generalize bs.take n = bs1 at *
    have RP := Lib.hid (rowPop_any base xa mv _ bs1 ent b w1 h4 (by have := HL1.out; omega))
    have FIN := Lib.hid (And.intro h4 (And.intro pm4 (And.intro hn (And.intro hh4 u4))))
    unfold ptr at RP
    clear h4 pm4 hh4 ab4 u4 el es hn
    have MP := meth_pop ⟨xa, 0, none⟩ w1
    go_wp2_with fail
    refine (RP.out).mono ?_
    rintro e w9 ⟨v9, rfl, h9, u9, o9⟩
    have H9 := Lib.hid (And.intro h9 (And.intro u9 o9))
    clear h9 u9 o9 MP
    go_wp2
    go_ret
    obtain ⟨h4, pm4, hn, hh4, u4⟩ := FIN.out
    exact gone_of h4 pm4 hn hh4 u4 H9.out.1 H9.out.2.1 H9.out.2.2
  · have q1 : ((n : Int) == (i : Int)) = false := by simp; omega
    have q2 : (!((n : Int) == (i : Int))) = true := by rw [q1]; rfl
    have hni : ¬ i = n := fun e => hin e.symm
    have SW := Lib.hid (swap_any base xa mv _ bs ent i n b c w h.row hb hc)
    have HT : Hid (Pq.DownOk leD (eo ent (swp bs i n)) n i i) := (h.heap.less (by omega : n ≤ bs.length)).turn leD_trans i (fun k hk hk0 => by
      rw [eo_swp h0 (by omega)]; unfold Pq.sw; rw [if_neg hk0, if_neg (by omega)])
    have AB : Hid ((swp bs i n)[n]? = some b) := by
      show _ = _
      rw [swp_get h0 (by omega), if_neg hin, if_pos rfl]; exact hb
    have HLS := Lib.hid (show (swp bs i n).length = n + 1 by rw [swp_len]; exact hn)
    have HIN := Lib.hid (show i < n by omega)
    unfold hv
    clear h hb hc hm1 hn h0 hl hin
    go_enter Try.func29, Try.ntmps29
    go_wp2_with fail
    refine (LN.out).mono ?_
    rintro e w1 ⟨rfl, rfl⟩
    go_wp2_with fail
    refine (SW.out).mono ?_
    rintro e w2 ⟨rfl, h2, u2⟩
    have H2 := Lib.hid (And.intro h2 u2)
    have DN := Lib.hid (down_any base xa mv _ (swp bs i n) ent n i w2 h2 (by rw [HLS.out]; have := HIN.out; omega) (by rw [HLS.out]; omega) (by rw [HLS.out]; exact HL1.out) HT.out)
    unfold Downed hv at DN
    clear h2 u2 ML MS
    go_wp2_with fail
    refine (DN.out).mono ?_
    rintro e w3 ⟨bb, bs3, rfl, h3, pm3, hT3, hF3, ab3, u3⟩
    have H3 := Lib.hid (And.intro h3 (And.intro pm3 (And.intro ab3 (H2.out.2.trans u3 (fun k _ hk => rowF_perm (swp_perm bs i n) hk)))))
    have HT3 := Lib.hid hT3
    have HF3 := Lib.hid hF3
    clear h3 pm3 hT3 hF3 ab3 u3
    cases bb with
    | true =>
      have H4 := Lib.hid (And.intro H3.out.1 (And.intro (H3.out.2.1.trans (swp_perm bs i n)) (And.intro (show Pq.Heap leD (eo ent bs3) n by first | exact HT3.out rfl | exact HT3.out trivial) (And.intro H3.out.2.2.1 H3.out.2.2.2))))
      obtain ⟨h4, pm4, hh4, ab4, u4⟩ := H4.out
      have el : bs3.length = n + 1 := by rw [pm4.length_eq]; exact HL.out
      have es := snoc_of el (b := b) ((ab4 n (Nat.le_refl _)).trans AB.out)
      have hn : (bs3.take n).length = n := by simp; omega
      have pm5 : (bs3.take n ++ [b]).Perm bs := by rw [← es] <;> exact pm4
      replace pm4 := pm5
      clear pm5
      rw [es] at h4 hh4
      generalize bs3.take n = bs1 at *
      have RP := Lib.hid (rowPop_any base xa mv _ bs1 ent b w3 h4 (by have := HL1.out; omega))
      have FIN := Lib.hid (And.intro h4 (And.intro pm4 (And.intro hn (And.intro hh4 u4))))
      unfold ptr at RP
      clear h4 pm4 hh4 ab4 u4 el es hn
      have MP := meth_pop ⟨xa, 0, none⟩ w3
      go_wp2_with fail
      refine (RP.out).mono ?_
      rintro e w9 ⟨v9, rfl, h9, u9, o9⟩
      have H9 := Lib.hid (And.intro h9 (And.intro u9 o9))
      clear h9 u9 o9 MP
      go_wp2
      go_ret
      obtain ⟨h4, pm4, hn, hh4, u4⟩ := FIN.out
      exact gone_of h4 pm4 hn hh4 u4 H9.out.1 H9.out.2.1 H9.out.2.2
    | false =>
      have UPA := Lib.hid (up_any base xa mv _ bs3 ent n i w3 H3.out.1 HIN.out (by rw [H3.out.2.1.length_eq, HLS.out]; omega) (by first | exact HF3.out rfl | exact HF3.out trivial))
      unfold hv at UPA
      go_wp2_with fail
      refine (UPA.out).mono ?_
      rintro e w4 ⟨rfl, bs4, h4, pm4, hh4, ab4, u4⟩
      have H4 := Lib.hid (And.intro h4 (And.intro ((pm4.trans H3.out.2.1).trans (swp_perm bs i n)) (And.intro hh4 (And.intro (fun k hk => (ab4 k hk).trans (H3.out.2.2.1 k hk)) (H3.out.2.2.2.trans u4 (fun k _ hk => rowF_perm (H3.out.2.1.trans (swp_perm bs i n)) hk))))))
      have AB4 := Lib.hid AB.out
      clear h4 pm4 hh4 ab4 u4
      obtain ⟨h4, pm4, hh4, ab4, u4⟩ := H4.out
      have el : bs4.length = n + 1 := by rw [pm4.length_eq]; exact HL.out
      have es := snoc_of el (b := b) ((ab4 n (Nat.le_refl _)).trans AB.out)
      have hn : (bs4.take n).length = n := by simp; omega
      have pm5 : (bs4.take n ++ [b]).Perm bs := by rw [← es] <;> exact pm4
      replace pm4 := pm5
      clear pm5
      rw [es] at h4 hh4
      generalize bs4.take n = bs1 at *
      have RP := Lib.hid (rowPop_any base xa mv _ bs1 ent b w4 h4 (by have := HL1.out; omega))
      have FIN := Lib.hid (And.intro h4 (And.intro pm4 (And.intro hn (And.intro hh4 u4))))
      unfold ptr at RP
      clear h4 pm4 hh4 ab4 u4 el es hn
      have MP := meth_pop ⟨xa, 0, none⟩ w4
      go_wp2_with fail
      refine (RP.out).mono ?_
      rintro e w9 ⟨v9, rfl, h9, u9, o9⟩
      have H9 := Lib.hid (And.intro h9 (And.intro u9 o9))
      clear h9 u9 o9 MP
      go_wp2
      go_ret
      obtain ⟨h4, pm4, hn, hh4, u4⟩ := FIN.out
      exact gone_of h4 pm4 hn hh4 u4 H9.out.1 H9.out.2.1 H9.out.2.2
end Go.Proofs.Ytokkhddbdjflhaa
