/- Walk: LinesStops. -/
import Derived.Test.YtkemjjhmabemiaaDoorK10
import Derived.Test.YtkemjjhmabemiaaDoorK14
import Derived.Test.YtkemjjhmabemiaaDoorK13
import Derived.Test.YtkemjjhmabemiaaDoorK12
import Derived.Test.YtkemjjhmabemiaaDoorRows
import Derived.Test.YtkemjjhmabemiaaDoorK07
import Derived.ProofKit
import Derived.LaidMore
import Derived.Lay
import Derived.OpenShut
import Derived.Stop.Joined
import Derived.Stop.LaidErr
import Derived.Lib.LaidTab
import Derived.Test.YtkemjjhmabemiaaDoorK03
import Derived.Deep.Slices
import Derived.Deep.Fields
import Derived.ChangeSame
set_option linter.unusedVariables false
set_option linter.unusedSimpArgs false
namespace Lin
theorem next_after {l : List Txt} {b : Txt} (h0 : l ≠ []) (h1 : l.length ≤ 64) (h2 : ∀ w ∈ l, w.length ≤ 4096) : next (command l ++ b) = (some l, b, false) := by
  have := (parse_stay b).1 _ _ (parse_command h1 h2)
  rw [next_there this, if_neg h0, List.drop_left]
end Lin
namespace Go.Proofs.YtkemjjhmabemiaaDoor
open Go.RowKit
open Lin (Txt)

theorem take_le {l : List Txt} {N k : Nat} (h : ∀ w ∈ l.take k, w.length ≤ N) {x : Txt} (hx : l[k]? = some x) (h2 : x.length ≤ N) : ∀ w ∈ l.take (k + 1), w.length ≤ N := by
  obtain ⟨hk, e⟩ := List.getElem?_eq_some_iff.1 hx
  intro w hw
  rw [List.take_succ_eq_append_getElem hk, List.mem_append] at hw
  rcases hw with hw | hw
  · exact h w hw
  · simp at hw; rw [hw, e]; exact h2
set_option maxHeartbeats 8000000 in
set_option maxRecDepth 100000 in
theorem lawStops (v0 : Value) (l : List Txt) (q1 : Option Addr) (c1 : Nat) (bad : Txt) (q2 : Option Addr) (c2 : Nat) (more : Txt) (w : World) (hr : RowOf tcs 1 w v0 l) (hb1 : BAt w q1 c1 bad) (hb2 : BAt w q2 c2 more) (hz : ∀ t ∈ l, t.length ≤ maxLen) (hs : Std w) :
    Calls Tryd.prog 6 #[v0, .slice q1 bad.length c1, .slice q2 more.length c2] w fun e w' => e = .returned (.bool true) ∧ Upd (fun _ => False) w w' := by
  have AL := Lib.hid (alive_any w hs)
  have hl1 := hb1.le
  have hl2 := hb2.le
  obtain ⟨pv, cv, rfl, hlv⟩ := hr.len
  unfold maxLen at hl1 hl2 hlv hz
  have HR := Lib.hid hr
  have HB1 := Lib.hid hb1
  have HB2 := Lib.hid hb2
  have HS := Lib.hid hs
  have HZ := Lib.hid hz
  clear hr hb1 hb2 hs hz
  by_cases g0 : l = []
  · have x0 : ((l.length : Int) == 0) = true := by rw [g0]; rfl
    clear g0
    go_enter Tryd.func6, Tryd.ntmps6
    go_wp2_with fail
    refine (AL.out).mono ?_
    rintro e w1 ⟨rfl, u1⟩
    go_wp2
    go_ret
    exact ⟨rfl, u1⟩
  have x0 : ((l.length : Int) == 0) = false := by rw [beq_eq_false_iff_ne]; have := List.length_pos_iff.2 g0; omega
  by_cases g1 : 20 < l.length
  · have x1 : (20 : Int) < (l.length : Int) := by omega
    go_enter Tryd.func6, Tryd.ntmps6
    go_wp2_with fail
    refine (AL.out).mono ?_
    rintro e w1 ⟨rfl, u1⟩
    go_wp2
    go_ret
    exact ⟨rfl, u1⟩
  have x1 : ¬ (20 : Int) < (l.length : Int) := by omega
  by_cases g2 : 500 < bad.length
  · have x2 : (500 : Int) < (bad.length : Int) := by omega
    go_enter Tryd.func6, Tryd.ntmps6
    go_wp2_with fail
    refine (AL.out).mono ?_
    rintro e w1 ⟨rfl, u1⟩
    go_wp2
    go_ret
    exact ⟨rfl, u1⟩
  have x2 : ¬ (500 : Int) < (bad.length : Int) := by omega
  by_cases g3 : 500 < more.length
  · have x3 : (500 : Int) < (more.length : Int) := by omega
    go_enter Tryd.func6, Tryd.ntmps6
    go_wp2_with fail
    refine (AL.out).mono ?_
    rintro e w1 ⟨rfl, u1⟩
    go_wp2
    go_ret
    exact ⟨rfl, u1⟩
  have x3 : ¬ (500 : Int) < (more.length : Int) := by omega
  have HG0 := Lib.hid g0
  clear g0
  go_enter Tryd.func6, Tryd.ntmps6
  go_wp2_with fail
  refine (AL.out).mono ?_
  rintro e w1 ⟨rfl, u1⟩
  have U1 := Lib.hid u1
  have HS := Lib.hid (HS.out.keep u1)
  have HB1 := Lib.hid (HB1.out.keep0 u1)
  have HB2 := Lib.hid (HB2.out.keep0 u1)
  have HR := Lib.hid (HR.out.keep u1 (fun _ _ _ => id))
  clear u1
  go_wp2
  go_loopw [6, 42] (fun v6 v42 wx => ∃ j : Nat, v6 = .bool false ∧ v42 = .int .i64 (j : Int) ∧ j ≤ l.length ∧ Hid (∀ t ∈ l.take j, t.length ≤ 500) ∧ wx = w1) (fun _ v42 _ => l.length - (intOf v42).toNat)
  case atStart => exact ⟨0, rfl, rfl, by omega, Lib.hid (by simp), rfl⟩
  case round =>
    obtain ⟨j, rfl, rfl, hj, LT, hwx⟩ := hrel
    subst hwx
    by_cases hjl : j < l.length
    · obtain ⟨t, ht⟩ : ∃ t, l[j]? = some t := ⟨_, List.getElem?_eq_getElem hjl⟩
      obtain ⟨b7, o7, c7, e7, hb7, _, hc7⟩ : ∃ b off cap, Value.slice pv l.length cv = .slice (some ⟨b, off, none⟩) l.length cap ∧ b < wr.heap.size ∧ l.length ≤ maxLen ∧ ∀ i a, l[i]? = some a → ∀ j, j < 1 → wr.cell? ⟨b, off + (i * 1 + j), none⟩ = (tcs a)[j]? := by
        rcases HR.out with ⟨_, _, _, e⟩ | h
        · rw [e] at hjl; simp at hjl
        · exact h
      have hcell : wr.cell? ⟨b7, o7 + j, none⟩ = some (.string (ofL t)) := by have := hc7 j t ht 0 (by omega); simpa [tcs] using this
      have hts := ofL_size t
      have htz := HZ.out t (List.mem_of_getElem? ht)
      have q5 : (j : Int) < (l.length : Int) := by omega
      simp only [Value.slice.injEq] at e7
      obtain ⟨rfl, _, rfl⟩ := e7
      have HT := Lib.hid ht
      clear hc7 ht
      by_cases ht5 : t.length ≤ 500
      · have bt : ¬ ((500 : Int) < (t.length : Int)) := by omega
        go_wp2
        go_roundw
        case rel => exact ⟨j + 1, rfl, by go_num, by omega, Lib.hid (take_le LT.out HT.out ht5), by first | rfl | trivial⟩
        case measure => simp [intOf]; omega
      · have bt : ((500 : Int) < (t.length : Int)) := by omega
        go_wp2
        go_ret
        exact ⟨rfl, U1.out⟩
    · have q5 : ¬ (j : Int) < (l.length : Int) := by omega
      have H500 : Hid (∀ t ∈ l, t.length ≤ 500) := Lib.hid (by have := LT.out; rwa [List.take_of_length_le (by omega)] at this)
      have hst := HB1.out.str
      have RP := rparse2_any bad wr (by omega)
      cases hp : Lin.parse bad with
      | short =>
        rw [hp] at RP
        have RP : Hid (Calls Tryd.prog 12 #[.string (ofL bad)] wr fun e w' => e = .returned (.tuple #[.slice none 0 0, .int .i64 0, .int .i64 0]) ∧ Upd (fun _ => False) wr w') := Lib.hid RP
        clear hp
        go_wp2_with fail
        refine RP.out.mono ?_
        rintro e w2 ⟨rfl, u2⟩
        go_wp2
        go_ret
        exact ⟨rfl, upd0 U1.out u2⟩
      | there out n =>
        rw [hp] at RP
        have RP : Hid (Calls Tryd.prog 12 #[.string (ofL bad)] wr fun e w' => (∃ v, e = .returned (.tuple #[v, .int .i64 (n : Int), .int .i64 0]) ∧ TxtsO w' wr.heap.size v out) ∧ Upd (fun _ => False) wr w') := Lib.hid RP
        clear hp
        go_wp2_with fail
        refine RP.out.mono ?_
        rintro e w2 ⟨⟨v, rfl, _⟩, u2⟩
        go_wp2
        go_ret
        exact ⟨rfl, upd0 U1.out u2⟩
      | bad =>
        rw [hp] at RP
        have RP : Hid (Calls Tryd.prog 12 #[.string (ofL bad)] wr fun e w' => e = .returned (.tuple #[.slice none 0 0, .int .i64 0, .int .i64 61]) ∧ Upd (fun _ => False) wr w') := Lib.hid RP
        have NB : Hid (Lin.next bad = (none, [], true)) := Lib.hid (Lin.next_bad hp)
        have NA : Hid (Lin.next (Lin.command l ++ bad) = (some l, bad, false)) := Lib.hid (Lin.next_after HG0.out (by omega) (fun t ht => by have := H500.out t ht; omega))
        have hcl : (Lin.command l).length ≤ 20000 := by
          have hi : (Lib.itoa (l.length : Int)).length ≤ 20 := Whole.itoa_len (by omega) (by omega)
          have hf : ∀ (L : List Txt), (∀ t ∈ L, t.length ≤ 500) → (L.flatMap Lin.long).length ≤ L.length * 600 := by
            intro L
            induction L with
            | nil => intro _; simp
            | cons x L ih =>
              intro h
              have h1 := ih (fun t ht => h t (by simp [ht]))
              have h2 := h x (by simp)
              have hi : (Lib.itoa (x.length : Int)).length ≤ 20 := Whole.itoa_len (by omega) (by omega)
              have hx : (Lin.long x).length ≤ 600 := by
                unfold Lin.long
                simp
                omega
              rw [List.flatMap_cons, List.length_append, List.length_cons]
              omega
          have hq := hf l H500.out
          obtain ⟨F, hF⟩ : ∃ F, F = l.flatMap Lin.long := ⟨_, rfl⟩
          rw [← hF] at hq
          unfold Lin.command
          rw [← hF]
          simp
          omega
        clear hp
        go_wp2_with fail
        refine RP.out.mono ?_
        rintro e w2 ⟨rfl, u2⟩
        have U2 := Lib.hid (upd0 U1.out u2)
        have HS2 := Lib.hid (HS.out.keep u2)
        have HB1 := Lib.hid (HB1.out.keep0 u2)
        have HB2 := Lib.hid (HB2.out.keep0 u2)
        have HR := Lib.hid (HR.out.keep u2 (fun _ _ _ => id))
        have NW := Lib.hid (new_any w2)
        clear u2 hst
        go_wp2_with fail
        refine NW.out.mono ?_
        rintro e w3 ⟨rfl, ⟨E, hL⟩, u3⟩
        have HL3 := Lib.hid hL
        have U3 := Lib.hid u3
        have CM := Lib.hid (command_any w3 _ l (HR.out.keep u3 (fun _ _ _ => id)) (by omega) (fun t ht => by have := H500.out t ht; omega) (HS2.out.keep u3))
        obtain ⟨cl, hcle⟩ : ∃ cl, cl = Lin.command l := ⟨_, rfl⟩
        rw [← hcle] at CM NA hcl
        clear hL u3 hcle
        go_wp2_with fail
        refine CM.out.mono ?_
        rintro e w4 ⟨pc, cc, rfl, hwb, u4⟩
        have HL4 := HL3.out.keep0 u4
        have U4 := Lib.hid (upd0 U3.out u4)
        have FD := feed_any w4 HL4 pc cc cl hwb.1 (by simp; omega) U4.out.size
        have FD : Hid (Calls Tryd.prog 17 #[ptr w2.heap.size, .slice pc cl.length cc] w4 fun e w' => e = .returned (.tuple #[]) ∧ (∃ E', LSt w' w2.heap.size w2.heap.size cl false E' ∧ ∀ k, E' k → E k ∨ w4.heap.size ≤ k) ∧ Upd E w4 w') := Lib.hid FD
        have HL4 := Lib.hid HL4
        clear u4 hwb
        unfold ptr at FD ⊢
        go_wp2_with fail
        refine FD.out.mono ?_
        rintro e w5 ⟨rfl, ⟨E5, hL5, _⟩, u5⟩
        have U5 : Hid (Upd (fun _ => False) w2 w5) := Lib.hid (upd_lst HL4.out U4.out u5)
        have FD2 := feed_any w5 hL5 q1 c1 bad (HB1.out.keep0 U5.out) (by omega) U5.out.size
        have FD2 : Hid (Calls Tryd.prog 17 #[ptr w2.heap.size, .slice q1 bad.length c1] w5 fun e w' => e = .returned (.tuple #[]) ∧ (∃ E', LSt w' w2.heap.size w2.heap.size (cl ++ bad) false E' ∧ ∀ k, E' k → E5 k ∨ w5.heap.size ≤ k) ∧ Upd E5 w5 w') := Lib.hid FD2
        have HL5 := Lib.hid hL5
        clear hL5 u5
        unfold ptr at FD2
        go_wp2_with fail
        refine FD2.out.mono ?_
        rintro e w6 ⟨rfl, ⟨E6, hL6, _⟩, u6⟩
        have U6 : Hid (Upd (fun _ => False) w2 w6) := Lib.hid (upd_lst HL5.out U5.out u6)
        have NX := next_any w6 hL6 (HS2.out.keep U6.out) (by rw [List.length_append]; omega) HS2.out.six U6.out.size
        rw [NA.out] at NX
        have NX : Hid (Calls Tryd.prog 18 #[ptr w2.heap.size] w6 fun e w' => (∃ v, e = .returned (.tuple #[v, .bool true, .int .i64 0]) ∧ TxtsO w' w6.heap.size v l) ∧ (∃ E', LSt w' w2.heap.size w2.heap.size bad false E' ∧ ∀ k, E' k → E6 k) ∧ Upd E6 w6 w') := Lib.hid NX
        have HL6 := Lib.hid hL6
        clear hL6 u6
        unfold ptr at NX
        go_wp2_with fail
        refine NX.out.mono ?_
        rintro e w7 ⟨⟨v, rfl, ht⟩, ⟨E7, hL7, _⟩, u7⟩
        have U7 : Hid (Upd (fun _ => False) w2 w7) := Lib.hid (upd_lst HL6.out U6.out u7)
        obtain ⟨pt, ct, rfl, _, _⟩ := ht.slice
        have SM := same_any _ _ _ _ w7 (ht.row tcs_len) (HR.out.keep U7.out (fun _ _ _ => id))
        rw [decide_eq_true rfl] at SM
        have SM := Lib.hid SM
        have HL7 := Lib.hid hL7
        clear hL7 u7 ht
        go_wp2_with (go_at_call 14; refine SM.out.mono ?_; rintro e w8 ⟨rfl, n8, rfl⟩)
        have U8 : Hid (Upd (fun _ => False) w2 (w7.drewN n8)) := Lib.hid (U7.out.drewN _)
        have HL8 : Hid (LSt (w7.drewN n8) w2.heap.size w2.heap.size bad false E7) := Lib.hid (HL7.out.keep0 ((Upd.refl _ _).drewN _))
        clear HL7 U7
        obtain ⟨a, ha⟩ : ∃ a, a = w2.heap.size := ⟨_, rfl⟩
        rw [← ha]
        have HL8 : Hid (LSt (w7.drewN n8) w2.heap.size a bad false E7) := by rw [ha]; exact HL8
        clear ha
        go_wp2
        go_loopw [6, 16] (fun v6 v16 wx => ∃ (k : Nat) (r : Txt) (b : Bool) (E : Nat → Prop), v6 = .bool false ∧ v16 = .int .i64 (k : Int) ∧ k ≤ 3 ∧ Hid (LSt wx w2.heap.size a r b E) ∧ Hid ((b = false ∧ r = bad) ∨ (b = true ∧ r = [])) ∧ Hid (Upd (fun _ => False) w2 wx)) (fun _ v16 _ => 3 - (intOf v16).toNat)
        case atStart => exact ⟨0, bad, false, E7, rfl, rfl, by omega, HL8, Lib.hid (Or.inl ⟨rfl, rfl⟩), U8⟩
        case round =>
          clear HL8 U8
          obtain ⟨k, r, b, E9, rfl, rfl, hk3, LS, ST, U9⟩ := hrel
          by_cases hk : k < 3
          · have q9 : (k : Int) < 3 := by omega
            have NXX : Hid (Calls Tryd.prog 18 #[.pointer (some ⟨a, 0, none⟩)] wr fun e w' => e = .returned (.tuple #[.slice none 0 0, .bool false, .int .i64 61]) ∧ (∃ E', LSt w' w2.heap.size a [] true E') ∧ Upd E9 wr w') := by
              rcases ST.out with ⟨rfl, rfl⟩ | ⟨rfl, rfl⟩
              · have := next_any wr LS.out (HS2.out.keep U9.out) (by omega) HS2.out.six U9.out.size
                rw [NB.out] at this
                exact Lib.hid (this.mono fun e w' ⟨h1, ⟨E', h2, _⟩, h3⟩ => ⟨h1, ⟨E', h2⟩, h3⟩)
              · exact Lib.hid ((nextBad_any wr LS.out).mono fun e w' ⟨h1, h2, h3⟩ => ⟨h1, ⟨E9, h2⟩, h3.weaken (fun _ _ h => h.elim)⟩)
            go_wp2_with fail
            refine NXX.out.mono ?_
            rintro e w10 ⟨rfl, ⟨E10, hL10⟩, u10⟩
            have U10 : Hid (Upd (fun _ => False) w2 w10) := Lib.hid (upd_lst LS.out U9.out u10)
            have LF0 := left_any w10 hL10
            have LF : Hid (Calls Tryd.prog 19 #[.pointer (some ⟨a, 0, none⟩)] w10 fun e w' => e = .returned (.int .i64 0) ∧ w' = w10) := Lib.hid LF0
            clear LF0
            have FM0 := feed_any w10 hL10 q2 c2 more (HB2.out.keep0 U10.out) (by simp; omega) U10.out.size
            have FM : Hid (Calls Tryd.prog 17 #[.pointer (some ⟨a, 0, none⟩), .slice q2 more.length c2] w10 fun e w' => e = .returned (.tuple #[]) ∧ (∃ E', LSt w' w2.heap.size a [] true E' ∧ ∀ k, E' k → E10 k ∨ w10.heap.size ≤ k) ∧ Upd E10 w10 w') := Lib.hid FM0
            have HL10 := Lib.hid hL10
            clear hL10 u10 FM0
            go_wp2_with fail
            refine LF.out.mono ?_
            rintro e w11 ⟨rfl, rfl⟩
            go_wp2_with fail
            refine FM.out.mono ?_
            rintro e w12 ⟨rfl, ⟨E12, hL12, _⟩, u12⟩
            have U12 : Hid (Upd (fun _ => False) w2 w12) := Lib.hid (upd_lst HL10.out U10.out u12)
            have HL12 := Lib.hid hL12
            clear hL12 u12
            go_wp2
            go_roundw
            case rel => exact ⟨k + 1, [], true, E12, rfl, by go_num, by omega, HL12, Lib.hid (Or.inr ⟨rfl, rfl⟩), U12⟩
            case measure => simp [intOf]; omega
          · have q9 : ¬ (k : Int) < 3 := by omega
            go_wp2
            go_ret
            exact ⟨rfl, upd0 U2.out U9.out⟩
end Go.Proofs.YtkemjjhmabemiaaDoor
/- Walk: LinesAgain. -/
set_option linter.unusedVariables false
set_option linter.unusedSimpArgs false
namespace Lin
def wl : St → Nat
  | .sp => 0
  | .pl w => w.length
  | .qu _ _ w => w.length
  | .be => 0
theorem scan_len : ∀ (s : Txt) (st : St) (out l : List Txt), scan st out s = some l → ∀ t ∈ l, t ∈ out ∨ t.length ≤ wl st + s.length
  | [], st, out, l, h, t, ht => by
    cases st with
    | sp => rw [scan] at h; cases h; exact Or.inl ht
    | be => rw [scan] at h; cases h; exact Or.inl ht
    | qu m k w => rw [scan] at h; cases h
    | pl w =>
      rw [scan] at h; cases h
      rw [List.mem_append] at ht
      rcases ht with ht | ht
      · exact Or.inl ht
      · simp at ht; subst ht; exact Or.inr (by simp [wl])
  | c :: r, st, out, l, h, t, ht => by
    have hl : (c :: r).length = r.length + 1 := rfl
    cases st with
    | sp =>
      rw [scan] at h
      split at h
      · have := scan_len r _ _ _ h t ht
        exact this.imp id (fun g => by simp only [wl] at *; omega)
      · split at h
        · have := scan_len r _ _ _ h t ht
          exact this.imp id (fun g => by simp only [wl, List.length_nil] at *; omega)
        · have := scan_len r _ _ _ h t ht
          exact this.imp id (fun g => by simp only [wl, List.length_cons, List.length_nil] at *; omega)
    | be =>
      rw [scan] at h
      split at h
      · have := scan_len r _ _ _ h t ht
        exact this.imp id (fun g => by simp only [wl] at *; omega)
      · cases h
    | pl w =>
      rw [scan] at h
      split at h
      · have := scan_len r _ _ _ h t ht
        rcases this with g | g
        · rw [List.mem_append] at g
          rcases g with g | g
          · exact Or.inl g
          · simp at g; subst g; exact Or.inr (by simp only [wl]; omega)
        · exact Or.inr (by simp only [wl] at *; omega)
      · have := scan_len r _ _ _ h t ht
        exact this.imp id (fun g => by simp only [wl, List.length_append, List.length_cons, List.length_nil] at *; omega)
    | qu m k w =>
      cases k with
      | succ k =>
        rw [scan] at h
        have := scan_len r _ _ _ h t ht
        exact this.imp id (fun g => by simp only [wl] at *; omega)
      | zero =>
        rw [scan] at h
        split at h
        · have := scan_len r _ _ _ h t ht
          rcases this with g | g
          · rw [List.mem_append] at g
            rcases g with g | g
            · exact Or.inl g
            · simp at g; subst g; exact Or.inr (by simp only [wl]; omega)
          · exact Or.inr (by simp only [wl] at *; omega)
        · have := scan_len r _ _ _ h t ht
          exact this.imp id (fun g => by simp only [wl, List.length_append, List.length_cons, List.length_nil] at *; omega)
theorem words_lens {s : Txt} {l : List Txt} (h : words s = some l) : l.length ≤ 64 ∧ (∀ t ∈ l, t.length ≤ 4096) ∧ ∀ t ∈ l, t.length ≤ s.length := by
  unfold words at h
  cases hs : scan .sp [] s with
  | none => rw [hs] at h; cases h
  | some k =>
    rw [hs] at h
    have h : lim k = some l := h
    unfold lim at h
    split at h
    · next g =>
      cases h
      refine ⟨g.1, g.2, fun t ht => ?_⟩
      rcases scan_len s _ _ _ hs t ht with q | q
      · cases q
      · simpa [wl] using q
    · cases h
theorem quoteF_len (N : Nat) : ∀ (l : List Txt) (i : Nat), (∀ t ∈ l, t.length ≤ N) → (quoteF i l).length ≤ l.length * (4 * N + 3)
  | [], i, _ => by simp [quoteF]
  | s :: r, i, h => by
    have h1 := quoteF_len N r (i + 1) (fun t ht => h t (by simp [ht]))
    have h2 := h s (by simp)
    have h3 := qw_len i s
    rw [quoteF, List.length_append, List.length_append, List.length_cons, Nat.add_mul]
    have h4 : (if 0 < i then ([32] : Txt) else []).length ≤ 1 := by split <;> simp
    omega
end Lin
namespace Go.Proofs.YtkemjjhmabemiaaDoor
open Go.RowKit
open Lin (Txt)
set_option maxHeartbeats 8000000 in
set_option maxRecDepth 100000 in
theorem lawAgain (s : Txt) (w : World) (hz : s.length ≤ maxLen) (hs : Std w) :
    Calls Tryd.prog 7 #[.string (ofL s)] w fun e w' => e = .returned (.bool true) ∧ Upd (fun _ => False) w w' := by
  have AL := Lib.hid (alive_any w hs)
  have hsz := ofL_size s
  unfold maxLen at hz
  have HS := Lib.hid hs
  clear hs
  by_cases g1 : 3000 < s.length
  · have x1 : (3000 : Int) < (s.length : Int) := by omega
    go_enter Tryd.func7, Tryd.ntmps7
    go_wp2_with fail
    refine (AL.out).mono ?_
    rintro e w1 ⟨rfl, u1⟩
    go_wp2
    go_ret
    exact ⟨rfl, u1⟩
  have x1 : ¬ (3000 : Int) < (s.length : Int) := by omega
  go_enter Tryd.func7, Tryd.ntmps7
  go_wp2_with fail
  refine (AL.out).mono ?_
  rintro e w1 ⟨rfl, u1⟩
  have U1 := Lib.hid u1
  clear u1
  have WD := words_any s (by omega) w1
  cases hw : Lin.words s with
  | none =>
    rw [hw] at WD
    have WD : Hid (Calls Tryd.prog 11 #[.string (ofL s)] w1 fun e w' => e = .returned (.tuple #[.slice none 0 0, .int .i64 61]) ∧ Upd (fun _ => False) w1 w') := Lib.hid WD
    clear hw
    go_wp2_with fail
    refine WD.out.mono ?_
    rintro e w2 ⟨rfl, u2⟩
    go_wp2
    go_ret
    exact ⟨rfl, upd0 U1.out u2⟩
  | some l =>
    rw [hw] at WD
    have WD : Hid (Calls Tryd.prog 11 #[.string (ofL s)] w1 fun e w' => (∃ v, e = .returned (.tuple #[v, .int .i64 0]) ∧ TxtsO w' w1.heap.size v l) ∧ Upd (fun _ => False) w1 w') := Lib.hid WD
    obtain ⟨l64, l4096, lsz⟩ := Lin.words_lens hw
    have L4096 := Lib.hid l4096
    have LSZ := Lib.hid lsz
    have WA := Lib.hid (Lin.words_again l64 l4096)
    have hql : (Lin.quote l).length ≤ 800000 := by
      have h1 := Lin.quoteF_len 3000 l 0 (fun t ht => by have := lsz t ht; omega)
      unfold Lin.quote
      have : l.length * (4 * 3000 + 3) ≤ 64 * (4 * 3000 + 3) := Nat.mul_le_mul_right _ l64
      omega
    have qlz : (l.length : Int) ≤ 64 := by omega
    clear hw l4096 lsz
    go_wp2_with fail
    refine WD.out.mono ?_
    rintro e w2 ⟨⟨v, rfl, ht⟩, u2⟩
    obtain ⟨pv, cv, rfl, _, _⟩ := ht.slice
    have HT := Lib.hid ht
    have U2 := Lib.hid (upd0 U1.out u2)
    clear ht u2 WD
    go_wp2
    go_loopw [2, 30] (fun v2 v30 wx => ∃ j : Nat, v2 = .bool false ∧ v30 = .int .i64 (j : Int) ∧ j ≤ l.length ∧ wx = w2) (fun _ v30 _ => l.length - (intOf v30).toNat)
    case atStart => exact ⟨0, rfl, rfl, by omega, rfl⟩
    case round =>
      obtain ⟨j, rfl, rfl, hj, hwx⟩ := hrel
      subst hwx
      by_cases hjl : j < l.length
      · obtain ⟨t, ht⟩ : ∃ t, l[j]? = some t := ⟨_, List.getElem?_eq_getElem hjl⟩
        obtain ⟨g, rfl, hgl, hcell⟩ := HT.out.get ht
        have hts := ofL_size t
        have ht4 := L4096.out t (List.mem_of_getElem? ht)
        have q5 : (j : Int) < (l.length : Int) := by omega
        have bt : ¬ ((4096 : Int) < (t.length : Int)) := by omega
        clear ht
        go_wp2
        go_roundw
        case rel => exact ⟨j + 1, rfl, by go_num, by omega, by first | rfl | trivial⟩
        case measure => simp [intOf]; omega
      · have q5 : ¬ (j : Int) < (l.length : Int) := by omega
        have QA := quote_any _ l wr (HT.out.row tcs_len) (by omega) (fun t ht => by have := LSZ.out t ht; omega)
        obtain ⟨q, hq⟩ : ∃ q, q = Lin.quote l := ⟨_, rfl⟩
        rw [← hq] at QA WA hql
        have QA := Lib.hid QA
        have hqs := ofL_size q
        clear hq
        go_wp2_with fail
        refine QA.out.mono ?_
        rintro e w3 ⟨rfl, u3⟩
        have U3 := Lib.hid (upd0 U2.out u3)
        have HT3 := Lib.hid (HT.out.keep0 u3)
        have e1 : ({ data := #[32, 9] } : ByteArray) ++ ofL q ++ ({ data := #[32] } : ByteArray) = ofL (([32, 9] : Txt) ++ q ++ [32]) := by rw [ofL_app, ofL_app]; rfl
        have W2 := words_any (([32, 9] : Txt) ++ q ++ [32]) (by simp only [List.length_append, List.length_cons, List.length_nil]; omega) w3
        rw [WA.out, ← e1] at W2
        have W2 : Hid (Calls Tryd.prog 11 #[.string (({ data := #[32, 9] } : ByteArray) ++ ofL q ++ ({ data := #[32] } : ByteArray))] w3 fun e w' => (∃ v, e = .returned (.tuple #[v, .int .i64 0]) ∧ TxtsO w' w3.heap.size v l) ∧ Upd (fun _ => False) w3 w') := Lib.hid W2
        clear e1 u3
        go_wp2_with fail
        refine W2.out.mono ?_
        rintro e w4 ⟨⟨v, rfl, ht⟩, u4⟩
        obtain ⟨pt, ct, rfl, _, _⟩ := ht.slice
        have U4 := Lib.hid (upd0 U3.out u4)
        have SM := same_any _ _ _ _ w4 ((HT3.out.keep0 u4).row tcs_len) (ht.row tcs_len)
        rw [decide_eq_true rfl] at SM
        have SM := Lib.hid SM
        clear ht u4 W2
        go_wp2_with (go_at_call 14; refine SM.out.mono ?_; rintro e w8 ⟨rfl, n8, rfl⟩)
        go_ret
        exact ⟨rfl, U4.out.drewN _⟩
theorem lawAgainB (a : ByteArray) (w : World) (hz : a.size ≤ maxLen) (hs : Std w) :
    Calls Tryd.prog 7 #[.string a] w fun e w' => e = .returned (.bool true) ∧ Upd (fun _ => False) w w' := by
  have h := lawAgain a.toList w (by rw [ByteArray.toList_eq]; simpa using hz) hs
  rw [ofL_of] at h
  exact h
end Go.Proofs.YtkemjjhmabemiaaDoor
/- Walk: LinesQuotes. -/
set_option linter.unusedVariables false
set_option linter.unusedSimpArgs false
namespace Go.Proofs.YtkemjjhmabemiaaDoor
open Go.RowKit
open Lin (Txt)
theorem command_len {l : List Txt} (h64 : l.length ≤ 64) (h500 : ∀ t ∈ l, t.length ≤ 500) : (Lin.command l).length ≤ 60000 := by
  have hi : (Lib.itoa (l.length : Int)).length ≤ 20 := Whole.itoa_len (by omega) (by omega)
  have hf : ∀ (L : List Txt), (∀ t ∈ L, t.length ≤ 500) → (L.flatMap Lin.long).length ≤ L.length * 600 := by
    intro L
    induction L with
    | nil => intro _; simp
    | cons x L ih =>
      intro h
      have h1 := ih (fun t ht => h t (by simp [ht]))
      have h2 := h x (by simp)
      have hi : (Lib.itoa (x.length : Int)).length ≤ 20 := Whole.itoa_len (by omega) (by omega)
      have hx : (Lin.long x).length ≤ 600 := by
        unfold Lin.long
        simp
        omega
      rw [List.flatMap_cons, List.length_append, List.length_cons]
      omega
  have hq := hf l h500
  obtain ⟨F, hF⟩ : ∃ F, F = l.flatMap Lin.long := ⟨_, rfl⟩
  rw [← hF] at hq
  unfold Lin.command
  rw [← hF]
  simp
  omega
set_option maxHeartbeats 8000000 in
set_option maxRecDepth 100000 in
theorem lawQuotes (v0 : Value) (l : List Txt) (w : World) (hr : RowOf tcs 1 w v0 l) (hz : ∀ t ∈ l, t.length ≤ maxLen) (hs : Std w) :
    Calls Tryd.prog 8 #[v0] w fun e w' => e = .returned (.bool true) ∧ Upd (fun _ => False) w w' := by
  have AL := Lib.hid (alive_any w hs)
  obtain ⟨pv, cv, rfl, hlv⟩ := hr.len
  unfold maxLen at hlv hz
  have HR := Lib.hid hr
  have HS := Lib.hid hs
  have HZ := Lib.hid hz
  clear hr hs hz
  by_cases g1 : 64 < l.length
  · have x1 : (64 : Int) < (l.length : Int) := by omega
    go_enter Tryd.func8, Tryd.ntmps8
    go_wp2_with fail
    refine (AL.out).mono ?_
    rintro e w1 ⟨rfl, u1⟩
    go_wp2
    go_ret
    exact ⟨rfl, u1⟩
  have x1 : ¬ (64 : Int) < (l.length : Int) := by omega
  go_enter Tryd.func8, Tryd.ntmps8
  go_wp2_with fail
  refine (AL.out).mono ?_
  rintro e w1 ⟨rfl, u1⟩
  have U1 := Lib.hid u1
  have HS := Lib.hid (HS.out.keep u1)
  have HR := Lib.hid (HR.out.keep u1 (fun _ _ _ => id))
  clear u1
  go_wp2
  go_loopw [2, 3, 22] (fun v2 v3 v22 wx => ∃ (j z : Nat), v2 = .bool false ∧ v3 = .int .i64 (z : Int) ∧ z ≤ j * 500 ∧ v22 = .int .i64 (j : Int) ∧ j ≤ l.length ∧ Hid (∀ t ∈ l.take j, t.length ≤ 500) ∧ wx = w1) (fun _ _ v22 _ => l.length - (intOf v22).toNat)
  case atStart => exact ⟨0, 0, rfl, rfl, by omega, rfl, by omega, Lib.hid (by simp), rfl⟩
  case round =>
    obtain ⟨j, z, rfl, rfl, hzz, rfl, hj, LT, hwx⟩ := hrel
    subst hwx
    by_cases hjl : j < l.length
    · obtain ⟨t, ht⟩ : ∃ t, l[j]? = some t := ⟨_, List.getElem?_eq_getElem hjl⟩
      obtain ⟨b7, o7, c7, e7, hb7, _, hc7⟩ : ∃ b off cap, Value.slice pv l.length cv = .slice (some ⟨b, off, none⟩) l.length cap ∧ b < wr.heap.size ∧ l.length ≤ maxLen ∧ ∀ i a, l[i]? = some a → ∀ j, j < 1 → wr.cell? ⟨b, off + (i * 1 + j), none⟩ = (tcs a)[j]? := by
        rcases HR.out with ⟨_, _, _, e⟩ | h
        · rw [e] at hjl; simp at hjl
        · exact h
      have hcell : wr.cell? ⟨b7, o7 + j, none⟩ = some (.string (ofL t)) := by have := hc7 j t ht 0 (by omega); simpa [tcs] using this
      have hts := ofL_size t
      have htz := HZ.out t (List.mem_of_getElem? ht)
      have q5 : (j : Int) < (l.length : Int) := by omega
      simp only [Value.slice.injEq] at e7
      obtain ⟨rfl, _, rfl⟩ := e7
      have HT := Lib.hid ht
      clear hc7 ht
      by_cases ht5 : t.length ≤ 500
      · have bt : ¬ ((500 : Int) < (t.length : Int)) := by omega
        go_wp2
        go_roundw
        case rel => exact ⟨j + 1, z + t.length, rfl, by go_num, by omega, by go_num, by omega, Lib.hid (take_le LT.out HT.out ht5), by first | rfl | trivial⟩
        case measure => simp [intOf]; omega
      · have bt : ((500 : Int) < (t.length : Int)) := by omega
        go_wp2
        go_ret
        exact ⟨rfl, U1.out⟩
    · have q5 : ¬ (j : Int) < (l.length : Int) := by omega
      have H500 : Hid (∀ t ∈ l, t.length ≤ 500) := Lib.hid (by have := LT.out; rwa [List.take_of_length_le (by omega)] at this)
      have hl64 : l.length ≤ 64 := by omega
      have hl4 : ∀ t ∈ l, t.length ≤ 4096 := fun t ht => by have := H500.out t ht; omega
      have hql : (Lin.quote l).length ≤ 140000 := by
        have h1 := Lin.quoteF_len 500 l 0 H500.out
        unfold Lin.quote
        have : l.length * (4 * 500 + 3) ≤ 64 * (4 * 500 + 3) := Nat.mul_le_mul_right _ hl64
        omega
      have hcl := command_len hl64 H500.out
      have PC := Lib.hid (Lin.parse_command hl64 hl4)
      have PQ := Lib.hid (fun (h0 : l ≠ []) (h3 : (Lin.quote l).length ≤ 4000) => Lin.parse_quote h0 hl64 hl4 h3)
      have WQ := Lib.hid (Lin.words_quote hl64 hl4)
      have QA := quote_any _ l wr HR.out (by omega) (fun t ht => by have := H500.out t ht; omega)
      have RQ := Lib.hid (fun w (h : RowOf tcs 1 w (.slice pv l.length cv) l) => rquote_any _ l w h (by omega) (fun t ht => by have := H500.out t ht; omega))
      obtain ⟨q, hq⟩ : ∃ q, q = Lin.quote l := ⟨_, rfl⟩
      rw [← hq] at QA RQ hql PQ WQ
      have QA := Lib.hid QA
      have hqs := ofL_size q
      clear hq hl4
      go_wp2_with fail
      refine QA.out.mono ?_
      rintro e w2 ⟨rfl, u2⟩
      have U2 := Lib.hid (upd0 U1.out u2)
      have HR2 := Lib.hid (HR.out.keep u2 (fun _ _ _ => id))
      have HS2 := Lib.hid (HS.out.keep u2)
      have W2 := words_any q (by omega) w2
      rw [WQ.out] at W2
      have W2 : Hid (Calls Tryd.prog 11 #[.string (ofL q)] w2 fun e w' => (∃ v, e = .returned (.tuple #[v, .int .i64 0]) ∧ TxtsO w' w2.heap.size v l) ∧ Upd (fun _ => False) w2 w') := Lib.hid W2
      clear u2
      go_wp2_with fail
      refine W2.out.mono ?_
      rintro e w3 ⟨⟨v, rfl, ht⟩, u3⟩
      obtain ⟨pt, ct, rfl, _, _⟩ := ht.slice
      have U3 := Lib.hid (upd0 U2.out u3)
      have HR3 := Lib.hid (HR2.out.keep u3 (fun _ _ _ => id))
      have HS3 := Lib.hid (HS2.out.keep u3)
      have HT3 := Lib.hid (ht.row tcs_len)
      have RQ3 := Lib.hid (RQ.out w3 HR3.out)
      clear u3 ht W2
      go_wp2_with fail
      refine RQ3.out.mono ?_
      rintro e w4 ⟨rfl, u4⟩
      have U4 := Lib.hid (upd0 U3.out u4)
      have HR4 := Lib.hid (HR3.out.keep u4 (fun _ _ _ => id))
      have HS4 := Lib.hid (HS3.out.keep u4)
      have SM := same_any _ _ _ _ w4 (HT3.out.keep u4 (fun _ _ _ => id)) HR4.out
      rw [decide_eq_true rfl] at SM
      have SM := Lib.hid SM
      clear u4
      go_wp2_with (go_at_call 14; refine SM.out.mono ?_; rintro e w5 ⟨rfl, n5, rfl⟩)
      have U5 : Hid (Upd (fun _ => False) w (w4.drewN n5)) := Lib.hid (U4.out.drewN _)
      have u5 : Upd (fun _ => False) w4 (w4.drewN n5) := (Upd.refl _ _).drewN _
      have HR5 := Lib.hid (HR4.out.keep u5 (fun _ _ _ => id))
      have HS5 := Lib.hid (HS4.out.keep u5)
      have CM := Lib.hid (command_any (w4.drewN n5) _ l HR5.out hl64 (fun t ht => by have := H500.out t ht; omega) HS5.out)
      have CM2 := Lib.hid (fun w (h : RowOf tcs 1 w (.slice pv l.length cv) l) hs => command_any w _ l h hl64 (fun t ht => by have := H500.out t ht; omega) hs)
      obtain ⟨cl, hcle⟩ : ∃ cl, cl = Lin.command l := ⟨_, rfl⟩
      rw [← hcle] at CM CM2 PC hcl
      clear u5 hcle SM
      go_wp2_with fail
      refine CM.out.mono ?_
      rintro e w6 ⟨pc, cc, rfl, hwb, u6⟩
      have U6 := Lib.hid (upd0 U5.out u6)
      have HR6 := Lib.hid (HR5.out.keep u6 (fun _ _ _ => id))
      have HS6 := Lib.hid (HS5.out.keep u6)
      have PA := parse2_any pc cc cl w6 hwb.1 HS6.out (by omega)
      rw [PC.out] at PA
      have PA : Hid (Calls Tryd.prog 10 #[.slice pc cl.length cc] w6 fun e w' => (∃ v, e = .returned (.tuple #[v, .int .i64 (cl.length : Int), .int .i64 0]) ∧ TxtsO w' w6.heap.size v l) ∧ Upd (fun _ => False) w6 w') := Lib.hid PA
      clear u6 hwb CM
      go_wp2_with fail
      refine PA.out.mono ?_
      rintro e w7 ⟨⟨v, rfl, ht⟩, u7⟩
      obtain ⟨px, cx, rfl, _, _⟩ := ht.slice
      have U7 := Lib.hid (upd0 U6.out u7)
      have HR7 := Lib.hid (HR6.out.keep u7 (fun _ _ _ => id))
      have HS7 := Lib.hid (HS6.out.keep u7)
      have HT7 := Lib.hid (ht.row tcs_len)
      have CM := Lib.hid (CM2.out w7 HR7.out HS7.out)
      clear u7 ht PA
      go_wp2_with fail
      refine CM.out.mono ?_
      rintro e w8 ⟨pd, cd, rfl, _, u8⟩
      have U8 := Lib.hid (upd0 U7.out u8)
      have HR8 := Lib.hid (HR7.out.keep u8 (fun _ _ _ => id))
      have HS8 := Lib.hid (HS7.out.keep u8)
      have SM := same_any _ _ _ _ w8 (HT7.out.keep u8 (fun _ _ _ => id)) HR8.out
      rw [decide_eq_true rfl] at SM
      have SM := Lib.hid SM
      clear u8 CM CM2
      by_cases g0 : l = []
      · have y0 : ((l.length : Int) == 0) = true := by rw [g0]; rfl
        clear g0
        go_wp2_with (go_at_call 14; refine SM.out.mono ?_; rintro e w9 ⟨rfl, n9, rfl⟩)
        have U9 : Hid (Upd (fun _ => False) w (w8.drewN n9)) := Lib.hid (U8.out.drewN _)
        have u9 : Upd (fun _ => False) w8 (w8.drewN n9) := (Upd.refl _ _).drewN _
        have HR9 := Lib.hid (HR8.out.keep u9 (fun _ _ _ => id))
        have HS9 := Lib.hid (HS8.out.keep u9)
        clear u9 SM
        go_ret
        exact ⟨rfl, U9.out⟩
      have y0 : ((l.length : Int) == 0) = false := by rw [beq_eq_false_iff_ne]; have := List.length_pos_iff.2 g0; omega
      by_cases g4 : 4000 < q.length
      · have y4 : (4000 : Int) < (q.length : Int) := by omega
        clear g0
        go_wp2_with (go_at_call 14; refine SM.out.mono ?_; rintro e w9 ⟨rfl, n9, rfl⟩)
        have U9 : Hid (Upd (fun _ => False) w (w8.drewN n9)) := Lib.hid (U8.out.drewN _)
        have u9 : Upd (fun _ => False) w8 (w8.drewN n9) := (Upd.refl _ _).drewN _
        have HR9 := Lib.hid (HR8.out.keep u9 (fun _ _ _ => id))
        have HS9 := Lib.hid (HS8.out.keep u9)
        clear u9 SM
        go_ret
        exact ⟨rfl, U9.out⟩
      have y4 : ¬ (4000 : Int) < (q.length : Int) := by omega
      have y00 : ¬ (l.length : Int) = 0 := by have := List.length_pos_iff.2 g0; omega
      have y01 : ¬ l.length = 0 := by omega
      go_wp2_with (go_at_call 14; refine SM.out.mono ?_; rintro e w9 ⟨rfl, n9, rfl⟩)
      have U9 : Hid (Upd (fun _ => False) w (w8.drewN n9)) := Lib.hid (U8.out.drewN _)
      have u9 : Upd (fun _ => False) w8 (w8.drewN n9) := (Upd.refl _ _).drewN _
      have HR9 := Lib.hid (HR8.out.keep u9 (fun _ _ _ => id))
      have HS9 := Lib.hid (HS8.out.keep u9)
      clear u9 SM
      have PQ := Lib.hid (PQ.out g0 (by omega))
      have hqt : (q ++ [13, 10]).length = q.length + 2 := by simp
      obtain ⟨cp, wa, hra, hBa, ua⟩ := bytes_of (q ++ [13, 10]) (w8.drewN n9) (by unfold maxLen; omega)
      have eq1 : ofL (q ++ [13, 10]) = ofL q ++ ({ data := #[13, 10] } : ByteArray) := by rw [ofL_app]; rfl
      rw [eq1] at hra
      have PA := parse2_any _ cp (q ++ [13, 10]) wa hBa (HS9.out.keep ua) (by omega)
      rw [PQ.out] at PA
      rw [hqt] at hra PA
      have PA : Hid (Calls Tryd.prog 10 #[.slice (some ⟨w8.heap.size, 0, none⟩) (q.length + 2) cp] wa fun e w' => (∃ v, e = .returned (.tuple #[v, .int .i64 ((q.length + 2 : Nat) : Int), .int .i64 0]) ∧ TxtsO w' wa.heap.size v l) ∧ Upd (fun _ => False) wa w') := Lib.hid PA
      have Ua := Lib.hid (upd0 U9.out ua)
      have HRa := Lib.hid (HR9.out.keep ua (fun _ _ _ => id))
      have hcp := hBa.le
      unfold maxLen at hcp
      clear g0 ua hBa eq1
      rw [hra]
      simp only [Result.andThen]
      rw [Oper.upon_value]
      go_wp2_with fail
      refine PA.out.mono ?_
      rintro e wb ⟨⟨v, rfl, ht⟩, ub⟩
      obtain ⟨py, cy, rfl, _, _⟩ := ht.slice
      have Ub := Lib.hid (upd0 Ua.out ub)
      have SM := same_any _ _ _ _ wb (ht.row tcs_len) (HRa.out.keep ub (fun _ _ _ => id))
      rw [decide_eq_true rfl] at SM
      have SM := Lib.hid SM
      have en : (((q.length + 2 : Nat) : Int) == (q.length : Int) + 2) = true := by rw [beq_iff_eq]; omega
      clear ub ht PA hra
      go_wp2_with (go_at_call 14; refine SM.out.mono ?_; rintro e wc ⟨rfl, nc, rfl⟩)
      go_ret
      exact ⟨rfl, Ub.out.drewN _⟩
end Go.Proofs.YtkemjjhmabemiaaDoor
/- What the listed variables give the walks, and the witness. -/
set_option linter.unusedVariables false
set_option linter.unusedSimpArgs false
namespace Go.Proofs.YtkemjjhmabemiaaDoor
open Go.ChangeShapes Go.WideShapes Go.ChangeAt Go.WideMaps Go.WideElems Go.RowKit Go.Stop Go.Extern

theorem int_bounds {n : Int} (h : (Lit.int .i64 n).wf = true) : -9223372036854775808 ≤ n ∧ n ≤ 9223372036854775807 := by
  have := bounds_i64 h
  omega

def laidAll : List (String × DataW Unit) := [("math/bits.deBruijn32tab", Rows.laid_math_bits_deBruijn32tab), ("math/bits.deBruijn64tab", Rows.laid_math_bits_deBruijn64tab), ("internal/strconv.uint64pow10", Lib.tabData .u64 Lib.pow10Tab), ("unicode/utf8.acceptRanges", Rows.laid_unicode_utf8_acceptRanges), ("strconv.ErrRange", Rows.laid_strconv_ErrRange), ("strconv.ErrSyntax", Rows.laid_strconv_ErrSyntax), ("unicode/utf8.first", Rows.laid_unicode_utf8_first)]

theorem star : "*" ++ "errors.errorString" = "*errors.errorString" := by decide
theorem rowErr (u : TypeId) (h : Tryd.prog.typeName? 3 u = some "*errors.errorString") : u = 143 :=
  typeName_ptr_named (nm := "errors.errorString") (by rw [star]; kernel_rfl) (by kernel_rfl) (by decide) u (by rw [star]; exact h)

theorem door_met (os : Os) (args : Array Value) : laidMetH Tryd.prog laidAll ((World.laidAll Tryd.prog os laidAll).forCall (fun _ _ => 0) ⟨#[], args, []⟩).memory := by
  rw [MakeChecks.laidMetH_plain _ _ _ (by kernel_rfl)]
  exact laidMet_laidAll _ (by kernel_rfl) (by kernel_rfl)
theorem door_shaped (os : Os) (args : Array Value) : ((World.laidAll Tryd.prog os laidAll).forCall (fun _ _ => 0) ⟨#[], args, []⟩).Shaped Tryd.prog := World.shaped_of_ZipB (by kernel_rfl) (by kernel_rfl)

theorem std_of_laid {W : World} (h : laidMetH Tryd.prog laidAll W) : Std W := by
  rw [MakeChecks.laidMetH_plain _ _ _ (by kernel_rfl)] at h
  have h3 := laidMet.tail (laidMet.tail h)
  have h4 := laidMet.tail (laidMet.tail h3)
  have h5 := laidMet.tail h4
  refine ⟨Lib.tabIs_of_head (g := 3) (by kernel_rfl) (by kernel_rfl) Tryd.underlying135 Tryd.underlying123 (by kernel_rfl) (by kernel_rfl) h3, ?_, ?_⟩
  · obtain ⟨a, s, h1, _⟩ := laid_sentinel (g := 4) h5 (by kernel_rfl) (by kernel_rfl) Tryd.underlying69 rowErr Tryd.underlying143 Tryd.underlying145 rfl rfl Tryd.underlying9 (by kernel_rfl) (by kernel_rfl)
    exact ⟨_, _, h1⟩
  · obtain ⟨a, s, h1, _⟩ := laid_sentinel (g := 5) h4 (by kernel_rfl) (by kernel_rfl) Tryd.underlying69 rowErr Tryd.underlying143 Tryd.underlying145 rfl rfl Tryd.underlying9 (by kernel_rfl) (by kernel_rfl)
    exact ⟨_, _, h1⟩
end Go.Proofs.YtkemjjhmabemiaaDoor
/- An argument that is a slice of structs of one-cell fields, opened to its cells. -/
set_option linter.unusedVariables false
set_option linter.unusedSimpArgs false
namespace Go.Proofs.YtkemjjhmabemiaaDoor
open Go.RowKit Go.ChangeShapes Go.WideShapes Go.Deep

/-- A slice of structs whose fields are one cell each: its length fits, and field j of element i lies in a cell of its own, and is read by that field's type. -/
theorem slice_cells {H : Type} {enc : TypeId × Value → H} {P : Program} {w : World} {base : Nat} {spare : Nat → Bool} {held : Bool} {T E : TypeId} {fs : Array Field} {fuel len cap : Nat} {a : Addr} {x : DataW H × List MemPlace}
    (hT : P.underlying T = some (.slice E)) (hE : P.underlying E = some (.struct fs)) (h1 : oneCellFields P fs = true) (hn : P.cellsOf E = fs.size)
    (h : DataW.trod enc P w base spare held fuel T [.slice (some a) len cap] = some x) :
    len ≤ maxLen ∧ ∀ i, i < len → ∀ j f, fs[j]? = some f → ∃ v y k, w.cell? (a.add (i * fs.size + j)) = some v ∧ DataW.trod enc P w base spare held k f.type [v] = some y := by
  rcases open_slice hT h with ⟨hnil, _⟩ | ⟨a', len', cap', m, n, D, Q, hv, _, hlc, hcm, hm, _, hall⟩
  · simp at hnil
  · simp only [List.cons.injEq, Value.slice.injEq, Option.some.injEq, and_true] at hv
    obtain ⟨rfl, rfl, rfl⟩ := hv
    have hlm : len ≤ m := by rw [hm]; split <;> omega
    refine ⟨Nat.le_trans hlc hcm, fun i hi j f hj => ?_⟩
    have hjs : j < fs.size := (Array.getElem?_eq_some_iff.1 hj).1
    obtain ⟨row, hrow, hread⟩ := hall i (Nat.lt_of_lt_of_le hi hlm)
    obtain ⟨_, hsize, hcells⟩ := World.cells?_some hrow
    obtain ⟨_, k, _, _, _, _, hfield⟩ := DataW.trod_struct hE hread
    obtain ⟨hoff, hone⟩ := hone_of h1 j f hj
    have hjr : j < row.length := by omega
    have hf := hfield j f hj
    rw [hoff, hone, List.drop_eq_getElem_cons hjr] at hf
    simp only [List.take_succ_cons, List.take_zero] at hf
    have hc := hcells j (by omega)
    rw [hn, Go.Deep.add_add, List.getElem?_eq_getElem hjr] at hc
    cases hy : DataW.trod enc P w base spare held k f.type [row[j]] with
    | none =>
      rw [hy] at hf
      have := (List.getElem?_eq_none_iff.1 hf.symm)
      omega
    | some y => exact ⟨row[j], y, k, hc, hy⟩

theorem slice_nil {H : Type} {enc : TypeId × Value → H} {P : Program} {w : World} {base : Nat} {spare : Nat → Bool} {held : Bool} {T E : TypeId} {fuel len cap : Nat} {x : DataW H × List MemPlace}
    (hT : P.underlying T = some (.slice E)) (h : DataW.trod enc P w base spare held fuel T (Value.slice none len cap).cells.toList = some x) : len = 0 ∧ cap = 0 := by
  rcases open_slice hT h with ⟨hnil, _⟩ | ⟨a', _, _, _, _, _, _, hv, _⟩
  · simpa [Value.cells] using hnil
  · simp [Value.cells] at hv

theorem rowOf_mk {α : Type} {f : α → List Value} {k : Nat} (hk : 0 < k) {w : World} {a : Addr} {len cap : Nat} (g : Nat → α) (hm : len ≤ maxLen)
    (hc : ∀ i, i < len → ∀ j, j < k → ∃ v, (f (g i))[j]? = some v ∧ w.cell? (a.add (i * k + j)) = some v) : RowOf f k w (.slice (some a) len cap) ((List.range len).map g) := by
  obtain ⟨b, off, spot⟩ := a
  by_cases h0 : len = 0
  · subst h0; exact Or.inl ⟨_, _, rfl, rfl⟩
  · obtain ⟨v, _, h1⟩ := hc 0 (by omega) 0 hk
    have hspot : spot = none := by simpa [Addr.add] using World.cell?_spot h1
    subst hspot
    have hb : b < w.heap.size := by
      by_cases hb : b < w.heap.size
      · exact hb
      · simp [World.cell?, Addr.add, Array.getElem?_eq_none (by omega : w.heap.size ≤ b)] at h1
    refine Or.inr ⟨b, off, cap, by simp, hb, by simpa using hm, fun i x hi j hj => ?_⟩
    have hil : i < len := by
      have := (List.getElem?_eq_some_iff.1 hi).1
      simpa using this
    have hx : x = g i := by
      have : ((List.range len).map g)[i]? = some (g i) := by simp [hil]
      rw [this] at hi; exact (Option.some.inj hi).symm
    subst hx
    obtain ⟨v, h1, h2⟩ := hc i hil j hj
    have e : (⟨b, off, none⟩ : Addr).add (i * k + j) = ⟨b, off + (i * k + j), none⟩ := by unfold Addr.add; split <;> simp_all
    rw [e] at h2
    rw [h2, h1]
end Go.Proofs.YtkemjjhmabemiaaDoor
