/- RadixRuns: the walk. -/
import Derived.Test.YtnlbmplbaalgmaaRefD
import Derived.Test.YtnlbmplbaalgmaaActs07
set_option linter.unusedVariables false
set_option linter.unusedSimpArgs false
namespace Go.Proofs.Ytnlbmplbaalgmaa
open Go.RowKit

theorem cut_less {L : List MarkP} (hr : L.Pairwise fun a b => a.1 < b.1) (k : Txt) : decide ((cutM k L).length < L.length) = (getL L k).2 := by
  by_cases h : (getL L k).2 = true
  · rw [h]
    have h1 := cutM_len hr h
    exact decide_eq_true (by omega)
  · rw [cutM_none hr h, decide_eq_false (Nat.lt_irrefl _)]
    simpa using h
theorem over_len (L : List MarkP) (k : Txt) : overB L k = decide ((0 : Int) < ((aboveL L k).length : Int) + ((walkL L k).length : Int)) := by
  unfold overB
  refine decide_eq_decide.2 ?_
  rw [← List.length_pos_iff, ← List.length_pos_iff]
  omega
theorem same07_eq (v1 v2 : Value) (l1 l2 : List MarkP) (w : World) (h1 : RowOf mkc 2 w v1 l1) (h2 : RowOf mkc 2 w v2 l2) (e : l1 = l2) :
    Calls Try.prog 20 #[v1, v2] w fun e w' => e = .returned (.bool true) ∧ Upd (fun _ => False) w w' := by
  refine (same07_any v1 v2 l1 l2 w h1 h2).mono ?_
  rintro e w' ⟨rfl, u⟩
  exact ⟨by rw [decide_eq_true e], u⟩
/-- The tree and the document's row beside it. -/
structure Beside (w wr : World) (base xa : Nat) (L : List MarkP) (v : Value) : Prop where
  ex : ∃ E, TreeAt wr base xa L E ∧ ∀ k, v.ownBlock = some k → ¬ E k
  row : MarksAt wr base v L
  upd : Upd (fun _ => False) w wr
  lo : w.heap.size ≤ base
  hsz : base ≤ wr.heap.size
section
variable {w wr w' : World} {base xa : Nat} {L : List MarkP} {v v' : Value}
theorem Beside.keep0 (h : Beside w wr base xa L v) (u : Upd (fun _ => False) wr w') : Beside w w' base xa L v := by
  obtain ⟨E, h1, h2⟩ := h.ex
  exact ⟨⟨E, h1.keep0 u, h2⟩, h.row.keep u (fun _ _ h => h), h.upd.trans u (fun _ _ h => h), h.lo, Nat.le_trans h.hsz u.size⟩
theorem Beside.rise (h : Beside w wr base xa L v) : L.Pairwise fun a b => a.1 < b.1 := by
  obtain ⟨E, h1, h2⟩ := h.ex; exact h1.rise
theorem Beside.put (h : Beside w wr base xa L v) (hL : L.length ≤ 1000000) (key : Txt) (n : Int) (hk : key.length ≤ 1000000) (cs : List Value) (T : TypeId) :
    Calls Try.prog 12 #[.pointer (some ⟨xa, 0, none⟩), .string (ofL key), .int .i64 n] (wr.alloc (.cells cs.toArray T)) fun e w' => e = .returned (.bool (!(getL L key).2)) ∧ (∃ E, TreeAt w' base xa (putM key n L) E) ∧ MarksAt w' base v L ∧ Upd (fun _ => False) w w' ∧ wr.heap.size ≤ w'.heap.size ∧ Blk w' wr.heap.size cs T := by
  obtain ⟨E, h1, h2⟩ := h.ex
  have ua : Upd (fun _ => False) wr (wr.alloc (.cells cs.toArray T)) := (Upd.refl _ _).alloc _
  refine (radPut_any _ base xa L E (h1.keep0 ua) hL (Nat.le_trans h.hsz ua.size) key n hk).mono ?_
  rintro e w' ⟨rfl, u, E', h4, f⟩
  exact ⟨rfl, ⟨E', h4⟩, (h.row.keep ua (fun _ _ h => h)).keep u (fun k hk e => h2 k hk e), (h.upd.trans ua (fun _ _ h => h)).trans u (fun k hk e => by have := (h1.ge e).1; have := h.lo; omega), Nat.le_trans ua.size u.size, u.blk (Blk.made wr cs T) (fun e => by have := (h1.ge e).2; omega)⟩
theorem Beside.drop (h : Beside w wr base xa L v) (hL : L.length ≤ 1000000) (key : Txt) (hk : key.length ≤ 1000000) (cs : List Value) (T : TypeId) :
    Calls Try.prog 19 #[.pointer (some ⟨xa, 0, none⟩), .string (ofL key)] (wr.alloc (.cells cs.toArray T)) fun e w' => e = .returned (.bool (getL L key).2) ∧ (∃ E, TreeAt w' base xa (cutM key L) E) ∧ MarksAt w' base v L ∧ Upd (fun _ => False) w w' ∧ wr.heap.size ≤ w'.heap.size ∧ Blk w' wr.heap.size cs T := by
  obtain ⟨E, h1, h2⟩ := h.ex
  have ua : Upd (fun _ => False) wr (wr.alloc (.cells cs.toArray T)) := (Upd.refl _ _).alloc _
  refine (radDrop_any _ base xa L E (h1.keep0 ua) hL key hk).mono ?_
  rintro e w' ⟨rfl, u, E', h4, f⟩
  exact ⟨rfl, ⟨E', h4⟩, (h.row.keep ua (fun _ _ h => h)).keep u (fun k hk e => h2 k hk e), (h.upd.trans ua (fun _ _ h => h)).trans u (fun k hk e => by have := (h1.ge e).1; have := h.lo; omega), Nat.le_trans ua.size u.size, u.blk (Blk.made wr cs T) (fun e => by have := (h1.ge e).2; omega)⟩
/-- The row anew, of the call's own. -/
theorem Beside.of {L' : List MarkP} (hT : ∃ E, TreeAt wr base xa L' E) (hv : MarksAt w' wr.heap.size v' L') (u0 : Upd (fun _ => False) w wr) (u : Upd (fun _ => False) wr w') (lo : w.heap.size ≤ base) (hs : base ≤ wr.heap.size) : Beside w w' base xa L' v' := by
  obtain ⟨E, h1⟩ := hT
  exact ⟨⟨E, h1.keep0 u, fun k hk e => by have h2 := (own2_lt hv hk).2.1; have h3 := (h1.ge e).2; omega⟩, own_mono hv hs, u0.trans u (fun _ _ h => h), lo, Nat.le_trans hs u.size⟩
end
set_option maxHeartbeats 16000000 in
set_option maxRecDepth 100000 in
theorem lawRuns (v0 : Value) (l : List Act07) (asked : Txt) (w : World) (r0 : RowOf act07c 3 w v0 l) (ha : asked.length ≤ maxLen) :
    Calls Try.prog 6 #[v0, .string (ofL asked)] w fun e w' => e = .returned (.bool true) ∧ Upd (fun _ => False) w w' := by
  obtain ⟨p0, k0, e0, hm0⟩ := r0.len
  subst e0
  have AL := Lib.hid (alive07_any w)
  have R0 := Lib.hid r0
  have asz := ofL_size asked
  obtain ⟨sk, hsk⟩ : ∃ sk, sk = ofL asked := ⟨_, rfl⟩
  rw [← hsk] at asz
  rw [← hsk]
  have SK := Lib.hid hsk
  clear r0 hsk
  unfold maxLen at hm0 ha
  go_enter Try.func6, Try.ntmps6
  go_wp2_with fail
  refine (AL.out).mono ?_
  rintro e w1 ⟨rfl, u1⟩
  have U1 := Lib.hid u1
  have GR := Lib.hid (great07_any _ l w1 (R0.out.keep u1 (fun _ _ _ h => h)))
  clear u1 AL
  go_wp2_with fail
  refine (GR.out).mono ?_
  rintro e w2 ⟨hg, u2⟩
  have U2 := Lib.hid (U1.out.trans u2 (fun _ _ h => h))
  clear u2 GR
  rcases hg with rfl | ⟨rfl, h60, hks⟩
  · generalize l.length = nl at *
    generalize asked.length = na at *
    go_wp2
    go_ret
    exact ⟨rfl, U2.out⟩
  · have KS := Lib.hid hks
    by_cases h100 : 100 < asked.length
    · have q0 : (100 : Int) < (asked.length : Int) := by omega
      generalize l.length = nl at *
      generalize asked.length = na at *
      go_wp2
      go_ret
      exact ⟨rfl, U2.out⟩
    · have q0 : ¬ (100 : Int) < (asked.length : Int) := by omega
      have NW := Lib.hid (radNew_any w2 w2.heap.size (Nat.le_refl _))
      clear hks
      go_wp2_with fail
      refine (NW.out).mono ?_
      rintro e w3 ⟨xa, E, rfl, h3, u3, f3⟩
      have BS : Hid (Beside w (w3.alloc (.cells #[] 30)) w2.heap.size xa [] (.slice (some ⟨w3.heap.size, 0, none⟩) 0 0)) :=
        Beside.of ⟨E, h3⟩ (World.ownsRow_made (e := 30) (size := 2) w3 #[] 0 (Nat.le_refl _) (by unfold maxLen; omega) rfl) (U2.out.trans u3 (fun _ _ h => h)) ((Upd.refl _ _).alloc _) U2.out.size u3.size
      clear h3 u3 f3 NW
      go_wp2
      go_loopw [6, 30] (fun x6 x30 wr => ∃ (k : Nat) (L : List MarkP), x30 = .int .i64 (k : Int) ∧ k ≤ l.length ∧ L.length ≤ k ∧ Hid (∀ m ∈ L, m.1.length ≤ 100) ∧ Hid (Beside w wr w2.heap.size xa L x6)) (fun _ x30 _ => l.length - (intOf x30).toNat)
      case atStart => exact ⟨0, [], rfl, by omega, by simp, Lib.hid (fun m hm => by simp at hm), BS⟩
      case round =>
        obtain ⟨k, L, rfl, hk, hLk, KL, B⟩ := hrel
        obtain ⟨p6, c6, e6, _⟩ := own_slice B.out.row
        subst e6
        by_cases hlt : k < l.length
        · have q1 : (k : Int) < (l.length : Int) := by omega
          obtain ⟨b, off, a, ep, hb, hak, c0, c1, c2⟩ := act07_cells (R0.out.keep B.out.upd (fun _ _ _ h => h)) hlt
          subst ep
          have hka := KS.out a (List.mem_of_getElem? hak)
          have HKA := Lib.hid hka
          have PU := B.out.put (by omega) a.key a.n (by omega) [.int .i64 a.kind, .string (ofL a.key), .int .i64 a.n] 42
          have DR := B.out.drop (by omega) a.key (by omega) [.int .i64 a.kind, .string (ofL a.key), .int .i64 a.n] 42
          obtain ⟨sa, hsa⟩ : ∃ sa, sa = ofL a.key := ⟨_, rfl⟩
          rw [← hsa] at PU DR c1
          have SA := Lib.hid hsa
          have PU := Lib.hid PU
          have DR := Lib.hid DR
          have RISE := Lib.hid B.out.rise
          clear hak hsa
          generalize hnl : l.length = nl at *
          by_cases hkd : a.kind = 0
          · have qk : a.kind = 0 := hkd
            rw [hkd] at PU c0
            have PLn := putM_len RISE.out a.key a.n
            have hln : (putM a.key a.n L).length ≤ k + 1 := by split at PLn <;> omega
            have KL2 : Hid (∀ m ∈ putM a.key a.n L, m.1.length ≤ 100) := fun m hm => by
              rcases putM_mem.1 hm with e | ⟨g, _⟩
              · rw [e]; exact HKA.out
              · exact KL.out m g
            go_wp2_with fail
            refine (PU.out).mono ?_
            rintro e w5 ⟨rfl, hT5, hv5, u5, hs5, hb5⟩
            have x1 := hb5.cellAt (i := 1) (v := .string sa) rfl
            have x2 := hb5.cellAt (i := 2) (v := .int .i64 a.n) rfl
            have RP5 := rput_any _ L a.key a.n w5 hv5.row RISE.out (by omega)
            rw [← SA.out] at RP5
            have RP5 := Lib.hid RP5
            have T5 := Lib.hid hT5
            have U5 := Lib.hid u5
            have S5 := Lib.hid hs5
            clear hT5 hv5 u5 hs5 hb5 PU PLn DR
            go_wp2_with fail
            refine (RP5.out).mono ?_
            rintro e w6 ⟨v6, rfl, hv6, u6⟩
            have BB := Lib.hid (Beside.of T5.out hv6 U5.out u6 B.out.lo (Nat.le_trans B.out.hsz S5.out))
            obtain ⟨p7, c7, e7, _⟩ := own_slice hv6
            subst e7
            clear hv6 u6 RP5
            generalize putM a.key a.n L = L2 at *
            obtain ⟨E6, T6, _⟩ := BB.out.ex
            have LE := Lib.hid (radLen_any w6 w2.heap.size xa L2 E6 T6)
            have ND := Lib.hid (radNodes_any w6 w2.heap.size xa L2 E6 T6 (by omega))
            clear T6
            generalize hgb : (getL L a.key).2 = gb at *
            go_wp2_with fail
            refine (LE.out).mono ?_
            rintro e w7 ⟨rfl, rfl⟩
            go_wp2_with fail
            refine (ND.out).mono ?_
            rintro e w8 ⟨n1, rfl, hn1, _, u8⟩
            have B8 := Lib.hid (BB.out.keep0 u8)
            have RN := Lib.hid (rnodes_any _ L2 w8 w2.heap.size B8.out.row (by omega) (fun m hm => by have := KL2.out m hm; omega))
            have N1 := Lib.hid hn1
            clear u8 hn1 ND LE
            go_wp2_with fail
            refine (RN.out).mono ?_
            rintro e w9 ⟨n2, rfl, hn2, u9⟩
            have en : n2 = n1 := hn2.uniq N1.out
            subst en
            have B9 := Lib.hid (B8.out.keep0 u9)
            clear u9 hn2 RN
            generalize hL2 : L2.length = nL2 at *
            cases gb with
            | true =>
              go_wp2
              go_roundw
              case rel => exact ⟨k + 1, L2, by simp, by omega, by omega, KL2, by rw [← hL2] at *; exact B9⟩
              case measure => simp [intOf]; omega
            | false =>
              go_wp2
              go_roundw
              case rel => exact ⟨k + 1, L2, by simp, by omega, by omega, KL2, by rw [← hL2] at *; exact B9⟩
              case measure => simp [intOf]; omega
          · have qk : ¬ a.kind = 0 := hkd
            have hln : (cutM a.key L).length ≤ k + 1 := Nat.le_trans (List.length_filter_le _ _) (by omega)
            have KL2 : Hid (∀ m ∈ cutM a.key L, m.1.length ≤ 100) := fun m hm => KL.out m (cutM_mem.1 hm).1
            have CL := cut_less RISE.out a.key
            go_wp2_with fail
            refine (DR.out).mono ?_
            rintro e w5 ⟨rfl, hT5, hv5, u5, hs5, hb5⟩
            have x1 := hb5.cellAt (i := 1) (v := .string sa) rfl
            have RP5 := rdrop_any _ L a.key w5 hv5.row (by omega)
            rw [CL, ← SA.out] at RP5
            have RP5 := Lib.hid RP5
            have T5 := Lib.hid hT5
            have U5 := Lib.hid u5
            have S5 := Lib.hid hs5
            clear hT5 hv5 u5 hs5 hb5 PU DR CL
            go_wp2_with fail
            refine (RP5.out).mono ?_
            rintro e w6 ⟨v6, rfl, hv6, u6⟩
            have BB := Lib.hid (Beside.of T5.out hv6 U5.out u6 B.out.lo (Nat.le_trans B.out.hsz S5.out))
            obtain ⟨p7, c7, e7, _⟩ := own_slice hv6
            subst e7
            clear hv6 u6 RP5
            generalize cutM a.key L = L2 at *
            obtain ⟨E6, T6, _⟩ := BB.out.ex
            have LE := Lib.hid (radLen_any w6 w2.heap.size xa L2 E6 T6)
            have ND := Lib.hid (radNodes_any w6 w2.heap.size xa L2 E6 T6 (by omega))
            clear T6
            generalize hgb : (getL L a.key).2 = gb at *
            go_wp2_with fail
            refine (LE.out).mono ?_
            rintro e w7 ⟨rfl, rfl⟩
            go_wp2_with fail
            refine (ND.out).mono ?_
            rintro e w8 ⟨n1, rfl, hn1, _, u8⟩
            have B8 := Lib.hid (BB.out.keep0 u8)
            have RN := Lib.hid (rnodes_any _ L2 w8 w2.heap.size B8.out.row (by omega) (fun m hm => by have := KL2.out m hm; omega))
            have N1 := Lib.hid hn1
            clear u8 hn1 ND LE
            go_wp2_with fail
            refine (RN.out).mono ?_
            rintro e w9 ⟨n2, rfl, hn2, u9⟩
            have en : n2 = n1 := hn2.uniq N1.out
            subst en
            have B9 := Lib.hid (B8.out.keep0 u9)
            clear u9 hn2 RN
            generalize hL2 : L2.length = nL2 at *
            cases gb with
            | true =>
              go_wp2
              go_roundw
              case rel => exact ⟨k + 1, L2, by simp, by omega, by omega, KL2, by rw [← hL2] at *; exact B9⟩
              case measure => simp [intOf]; omega
            | false =>
              go_wp2
              go_roundw
              case rel => exact ⟨k + 1, L2, by simp, by omega, by omega, KL2, by rw [← hL2] at *; exact B9⟩
              case measure => simp [intOf]; omega
        · have q1 : ¬ (k : Int) < (l.length : Int) := by omega
          have hkl : L.length ≤ 60 := by omega
          have GE : Hid (∀ v, Upd (fun _ => False) wr v → Calls Try.prog 18 #[.pointer (some ⟨xa, 0, none⟩), .string sk] v fun e w' => e = .returned (.tuple #[.int .i64 (getL L asked).1, .bool (getL L asked).2]) ∧ Upd (fun _ => False) v w') := fun v u => by
            obtain ⟨E4, T4, _⟩ := (B.out.keep0 u).ex
            rw [SK.out]; exact radGet_any v _ xa L E4 asked T4 (by omega)
          have RG : Hid (∀ v, Upd (fun _ => False) wr v → Calls Try.prog 25 #[.slice p6 L.length c6, .string sk] v fun e w' => e = .returned (.tuple #[.int .i64 (getL L asked).1, .bool (getL L asked).2]) ∧ Upd (fun _ => False) v w') := fun v u => by
            rw [SK.out]; exact rget_any _ L asked v (B.out.keep0 u).row.row (by omega)
          have AB : Hid (∀ v, Upd (fun _ => False) wr v → Calls Try.prog 26 #[.slice p6 L.length c6, .string sk] v fun e w' => ∃ v', e = .returned v' ∧ MarksAt w' v.heap.size v' (aboveL L asked) ∧ Upd (fun _ => False) v w') := fun v u => by
            rw [SK.out]; exact rabove_any _ L asked v (B.out.keep0 u).row.row (by omega)
          have WA : Hid (∀ v, Upd (fun _ => False) wr v → Calls Try.prog 27 #[.slice p6 L.length c6, .string sk] v fun e w' => ∃ v', e = .returned v' ∧ MarksAt w' v.heap.size v' (walkL L asked) ∧ Upd (fun _ => False) v w') := fun v u => by
            rw [SK.out]; exact rwalk_any _ L asked v (B.out.keep0 u).row.row (by omega)
          have TA : Hid (∀ v, Upd (fun _ => False) wr v → Calls Try.prog 15 #[.pointer (some ⟨xa, 0, none⟩), .string sk] v fun e w' => ∃ v', e = .returned v' ∧ MarksAt w' v.heap.size v' (aboveL L asked) ∧ Upd (fun _ => False) v w') := fun v u => by
            obtain ⟨E4, T4, _⟩ := (B.out.keep0 u).ex
            rw [SK.out]; exact radAbove_any v _ xa L E4 T4 (by omega) asked (by omega)
          have TW : Hid (∀ v, Upd (fun _ => False) wr v → Calls Try.prog 13 #[.pointer (some ⟨xa, 0, none⟩), .string sk] v fun e w' => ∃ v', e = .returned v' ∧ MarksAt w' v.heap.size v' (walkL L asked) ∧ Upd (fun _ => False) v w') := fun v u => by
            obtain ⟨E4, T4, _⟩ := (B.out.keep0 u).ex
            rw [SK.out]; exact radWalk_any v _ xa L E4 T4 (by omega) asked (by omega)
          have TE : Hid (∀ v, Upd (fun _ => False) wr v → Calls Try.prog 13 #[.pointer (some ⟨xa, 0, none⟩), .string ⟨#[]⟩] v fun e w' => ∃ v', e = .returned v' ∧ MarksAt w' v.heap.size v' L ∧ Upd (fun _ => False) v w') := fun v u => by
            obtain ⟨E4, T4, _⟩ := (B.out.keep0 u).ex
            have h := radWalk_any v _ xa L E4 T4 (by omega) [] (by decide)
            rw [walkL_nil, show ofL [] = ⟨#[]⟩ from rfl] at h
            exact h
          have OV : Hid (∀ v, Upd (fun _ => False) wr v → Calls Try.prog 14 #[.pointer (some ⟨xa, 0, none⟩), .string sk] v fun e w' => e = .returned (.bool (decide ((0 : Int) < ((aboveL L asked).length : Int) + ((walkL L asked).length : Int)))) ∧ Upd (fun _ => False) v w') := fun v u => by
            obtain ⟨E4, T4, _⟩ := (B.out.keep0 u).ex
            rw [SK.out, ← over_len]; exact radOver_any v _ xa L E4 T4 (by omega) asked (by omega)
          have ROWL : Hid (∀ v, Upd (fun _ => False) wr v → RowOf mkc 2 v (.slice p6 L.length c6) L) := fun v u => (B.out.keep0 u).row.row
          have hA : (aboveL L asked).length ≤ 60 := Nat.le_trans (List.length_filter_le _ _) hkl
          have hW : (walkL L asked).length ≤ 60 := Nat.le_trans (List.length_filter_le _ _) hkl
          have UB := Lib.hid B.out.upd
          generalize (getL L asked).1 = gn at *
          generalize (getL L asked).2 = gb at *
          generalize aboveL L asked = LA at *
          generalize walkL L asked = LW at *
          generalize hnl : l.length = nl at *
          generalize hna : asked.length = na at *
          clear B
          go_wp2_with fail
          refine (GE.out wr (Upd.refl _ _)).mono ?_
          rintro e w4 ⟨rfl, u4⟩
          have U4 := Lib.hid u4
          have RG := Lib.hid (RG.out w4 u4)
          clear u4 GE
          go_wp2_with fail
          refine (RG.out).mono ?_
          rintro e w5 ⟨rfl, u5⟩
          have U5 := Lib.hid (U4.out.trans u5 (fun _ _ h => h))
          have AB := Lib.hid (AB.out w5 U5.out)
          clear u5 U4 RG
          go_wp2_with fail
          refine (AB.out).mono ?_
          rintro e w6 ⟨va, rfl, ha6, u6⟩
          have HA := Lib.hid ha6
          obtain ⟨pa, ca, eva, _⟩ := own_slice ha6
          subst eva
          have U6 := Lib.hid (U5.out.trans u6 (fun _ _ h => h))
          have WA := Lib.hid (WA.out w6 U6.out)
          clear u6 U5 AB ha6
          go_wp2_with fail
          refine (WA.out).mono ?_
          rintro e w7 ⟨vw, rfl, hw7, u7⟩
          have HA := Lib.hid (HA.out.keep u7 (fun _ _ h => h))
          have HW := Lib.hid hw7
          obtain ⟨pw, cw, evw, _⟩ := own_slice hw7
          subst evw
          have U7 := Lib.hid (U6.out.trans u7 (fun _ _ h => h))
          have TA := Lib.hid (TA.out w7 U7.out)
          clear u7 U6 WA hw7
          go_wp2_with fail
          refine (TA.out).mono ?_
          rintro e w8 ⟨v8, rfl, h8, u8⟩
          have S1 := Lib.hid (same07_eq _ _ LA LA w8 h8.row (HA.out.keep u8 (fun _ _ h => h)).row rfl)
          have U8 := Lib.hid (U7.out.trans u8 (fun _ _ h => h))
          have HW := Lib.hid (HW.out.keep u8 (fun _ _ h => h))
          clear u8 U7 TA h8
          go_wp2_with fail
          refine (S1.out).mono ?_
          rintro e w9 ⟨rfl, u9⟩
          have U9 := Lib.hid (U8.out.trans u9 (fun _ _ h => h))
          have HW := Lib.hid (HW.out.keep u9 (fun _ _ h => h))
          have TW := Lib.hid (TW.out w9 U9.out)
          clear u9 U8 S1
          go_wp2_with fail
          refine (TW.out).mono ?_
          rintro e w10 ⟨v10, rfl, h10, u10⟩
          have S2 := Lib.hid (same07_eq _ _ LW LW w10 h10.row (HW.out.keep u10 (fun _ _ h => h)).row rfl)
          have U10 := Lib.hid (U9.out.trans u10 (fun _ _ h => h))
          clear u10 U9 TW h10
          go_wp2_with fail
          refine (S2.out).mono ?_
          rintro e w11 ⟨rfl, u11⟩
          have U11 := Lib.hid (U10.out.trans u11 (fun _ _ h => h))
          have TE := Lib.hid (TE.out w11 U11.out)
          clear u11 U10 S2
          go_wp2_with fail
          refine (TE.out).mono ?_
          rintro e w12 ⟨v12, rfl, h12, u12⟩
          have U12 := Lib.hid (U11.out.trans u12 (fun _ _ h => h))
          have S3 := Lib.hid (same07_eq _ _ L L w12 h12.row (ROWL.out w12 U12.out) rfl)
          clear u12 U11 TE h12
          go_wp2_with fail
          refine (S3.out).mono ?_
          rintro e w13 ⟨rfl, u13⟩
          have U13 := Lib.hid (U12.out.trans u13 (fun _ _ h => h))
          have OV := Lib.hid (OV.out w13 U13.out)
          clear u13 U12 S3
          go_wp2_with fail
          refine (OV.out).mono ?_
          rintro e w14 ⟨rfl, u14⟩
          have U14 := Lib.hid (UB.out.trans (U13.out.trans u14 (fun _ _ h => h)) (fun _ _ h => h))
          have qw : IntKind.i64.wrap ((LA.length : Int) + (LW.length : Int)) = (LA.length : Int) + (LW.length : Int) := IntWalk.i64_in _ (by omega)
          clear u14 U13 OV HA HW
          by_cases h0 : (0 : Int) < (LA.length : Int) + (LW.length : Int)
          · go_wp2
            go_ret
            exact ⟨rfl, U14.out⟩
          · go_wp2
            go_ret
            exact ⟨rfl, U14.out⟩
end Go.Proofs.Ytnlbmplbaalgmaa
