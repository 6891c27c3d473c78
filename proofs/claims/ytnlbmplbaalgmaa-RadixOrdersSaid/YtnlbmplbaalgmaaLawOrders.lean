/- RadixOrders: the walk. -/
import Derived.Test.YtnlbmplbaalgmaaRefA
import Derived.Test.YtnlbmplbaalgmaaLawWalks
set_option linter.unusedVariables false
set_option linter.unusedSimpArgs false
namespace Go.Proofs.Ytnlbmplbaalgmaa
open Go.RowKit

/-- The marks are those texts of which P holds, each with its length. -/
def MarkSet (P : Txt → Prop) (L : List MarkP) : Prop := ∀ m, m ∈ L ↔ P m.1 ∧ m.2 = (m.1.length : Int)
theorem MarkSet.put {P : Txt → Prop} {L : List MarkP} (h : MarkSet P L) (t : Txt) : MarkSet (fun s => P s ∨ s = t) (putM t (t.length : Int) L) := fun m => by
  rw [putM_mem, h m]
  constructor
  · rintro (rfl | ⟨⟨h1, h2⟩, _⟩)
    · exact ⟨Or.inr rfl, rfl⟩
    · exact ⟨Or.inl h1, h2⟩
  · rintro ⟨h1 | h1, h2⟩
    · by_cases e : m.1 = t
      · left; exact Prod.ext e (by rw [h2, e])
      · exact Or.inr ⟨⟨h1, h2⟩, e⟩
    · left; exact Prod.ext h1 (by rw [h2, h1])
theorem MarkSet.congr {P Q : Txt → Prop} {L : List MarkP} (h : MarkSet P L) (e : ∀ s, P s ↔ Q s) : MarkSet Q L := fun m => by rw [h m, e]
theorem put_back {L : List MarkP} (hr : L.Pairwise fun a b => a.1 < b.1) {o : Txt} {n : Int} (h : (o, n) ∈ L) : putM o n (cutM o L) = L := by
  have hc : (cutM o L).Pairwise fun a b => a.1 < b.1 := hr.filter _
  refine marks_ext (putM_rise hc) hr fun m => ?_
  rw [putM_mem, cutM_mem]
  constructor
  · rintro (rfl | ⟨⟨h1, _⟩, _⟩)
    · exact h
    · exact h1
  · intro hm
    by_cases e : m.1 = o
    · left
      exact rise_key hr hm h e
    · exact Or.inr ⟨⟨hm, e⟩, e⟩
/-- Two trees apart from one another. -/
structure TwoT (w wr : World) (base xa xb : Nat) (La Lb : List MarkP) : Prop where
  ex : ∃ Ea Eb, TreeAt wr base xa La Ea ∧ TreeAt wr base xb Lb Eb ∧ (∀ k, Ea k → ¬ Eb k)
  upd : Upd (fun _ => False) w wr
  lo : w.heap.size ≤ base
  hsz : base ≤ wr.heap.size
section
variable {w wr w' : World} {base xa xb : Nat} {La Lb : List MarkP}
theorem TwoT.symm (h : TwoT w wr base xa xb La Lb) : TwoT w wr base xb xa Lb La := by
  obtain ⟨Ea, Eb, h1, h2, h3⟩ := h.ex
  exact ⟨⟨Eb, Ea, h2, h1, fun k hk hk2 => h3 k hk2 hk⟩, h.upd, h.lo, h.hsz⟩
theorem TwoT.keep0 (h : TwoT w wr base xa xb La Lb) (u : Upd (fun _ => False) wr w') : TwoT w w' base xa xb La Lb := by
  obtain ⟨Ea, Eb, h1, h2, h3⟩ := h.ex
  exact ⟨⟨Ea, Eb, h1.keep0 u, h2.keep0 u, h3⟩, h.upd.trans u (fun _ _ h => h), h.lo, Nat.le_trans h.hsz u.size⟩
theorem TwoT.put (h : TwoT w wr base xa xb La Lb) (hL : La.length ≤ 1000000) (key : Txt) (n : Int) (hk : key.length ≤ 1000000) :
    Calls Try.prog 12 #[.pointer (some ⟨xa, 0, none⟩), .string (ofL key), .int .i64 n] wr fun e w' => e = .returned (.bool (!(getL La key).2)) ∧ TwoT w w' base xa xb (putM key n La) Lb := by
  obtain ⟨Ea, Eb, h1, h2, h3⟩ := h.ex
  refine (radPut_any wr base xa La Ea h1 hL h.hsz key n hk).mono ?_
  rintro e w' ⟨rfl, u, E', h4, f⟩
  refine ⟨rfl, ⟨E', Eb, h4, h2.keep u (fun k hk e => h3 k e hk), fun k hk hk2 => ?_⟩, h.upd.trans u (fun k hk e => by have := (h1.ge e).1; have := h.lo; omega), h.lo, Nat.le_trans h.hsz u.size⟩
  rcases f k hk with g | g
  · exact h3 k g hk2
  · have := (h2.ge hk2).2; omega
theorem TwoT.drop (h : TwoT w wr base xa xb La Lb) (hL : La.length ≤ 1000000) (key : Txt) (hk : key.length ≤ 1000000) :
    Calls Try.prog 19 #[.pointer (some ⟨xa, 0, none⟩), .string (ofL key)] wr fun e w' => e = .returned (.bool (getL La key).2) ∧ TwoT w w' base xa xb (cutM key La) Lb := by
  obtain ⟨Ea, Eb, h1, h2, h3⟩ := h.ex
  refine (radDrop_any wr base xa La Ea h1 hL key hk).mono ?_
  rintro e w' ⟨rfl, u, E', h4, f⟩
  exact ⟨rfl, ⟨E', Eb, h4, h2.keep u (fun k hk e => h3 k e hk), fun k hk hk2 => h3 k (f k hk) hk2⟩, h.upd.trans u (fun k hk e => by have := (h1.ge e).1; have := h.lo; omega), h.lo, Nat.le_trans h.hsz u.size⟩
theorem TwoT.get (h : TwoT w wr base xa xb La Lb) (key : Txt) (hk : key.length ≤ 1000000) :
    Calls Try.prog 18 #[.pointer (some ⟨xa, 0, none⟩), .string (ofL key)] wr fun e w' => e = .returned (.tuple #[.int .i64 (getL La key).1, .bool (getL La key).2]) ∧ TwoT w w' base xa xb La Lb := by
  obtain ⟨Ea, Eb, h1, h2, h3⟩ := h.ex
  refine (radGet_any wr base xa La Ea key h1 hk).mono ?_
  rintro e w' ⟨rfl, u⟩
  exact ⟨rfl, h.keep0 u⟩
theorem TwoT.rise (h : TwoT w wr base xa xb La Lb) : La.Pairwise fun a b => a.1 < b.1 := by
  obtain ⟨Ea, Eb, h1, h2, h3⟩ := h.ex; exact h1.rise
end
set_option maxHeartbeats 16000000 in
set_option maxRecDepth 100000 in
theorem lawOrders (v0 v1 : Value) (l r : List Txt) (w : World) (r0 : RowOf txtc 1 w v0 l) (r1 : RowOf txtc 1 w v1 r) :
    Calls Try.prog 4 #[v0, v1] w fun e w' => e = .returned (.bool true) ∧ Upd (fun _ => False) w w' := by
  obtain ⟨p0, k0, e0, hm0⟩ := r0.len
  obtain ⟨p1, k1, e1, hm1⟩ := r1.len
  subst e0 e1
  have AL := Lib.hid (alive07_any w)
  have R0 := Lib.hid r0
  have R1 := Lib.hid r1
  clear r0 r1
  unfold maxLen at hm0 hm1
  go_enter Try.func4, Try.ntmps4
  go_wp2_with fail
  refine (AL.out).mono ?_
  rintro e w1 ⟨rfl, u1⟩
  have U1 := Lib.hid u1
  clear u1 AL
  by_cases hgr : 40 < l.length
  · have q0 : (40 : Int) < (l.length : Int) := by omega
    generalize l.length = nl at *
    generalize r.length = nr at *
    go_wp2
    go_ret
    exact ⟨rfl, U1.out⟩
  · have q0 : ¬ (40 : Int) < (l.length : Int) := by omega
    by_cases hgr2 : 40 < r.length
    · have q2 : (40 : Int) < (r.length : Int) := by omega
      generalize l.length = nl at *
      generalize r.length = nr at *
      go_wp2
      go_ret
      exact ⟨rfl, U1.out⟩
    · have q2 : ¬ (40 : Int) < (r.length : Int) := by omega
      have NW := Lib.hid (radNew_any w1 w1.heap.size (Nat.le_refl _))
      go_wp2_with fail
      refine (NW.out).mono ?_
      rintro e w2 ⟨xa, Ea, rfl, h2, u2, f2⟩
      have NX := Lib.hid (radNew_any w2 w1.heap.size u2.size)
      have H2 := Lib.hid h2
      have U2 := Lib.hid u2
      have F2 := Lib.hid f2
      clear h2 u2 f2 NW
      go_wp2_with fail
      refine (NX.out).mono ?_
      rintro e w3 ⟨xb, Eb, rfl, h3, u3, f3⟩
      have TT : Hid (TwoT w w3 w1.heap.size xa xb [] []) := ⟨⟨Ea, Eb, H2.out.keep0 u3, h3, fun k hk hk2 => by have := (H2.out.ge hk).2; have := f3 k hk2; omega⟩, (U1.out.trans U2.out (fun _ _ h => h)).trans u3 (fun _ _ h => h), U1.out.size, Nat.le_trans U2.out.size u3.size⟩
      clear h3 u3 f3 NX
      go_wp2
      go_loopw [26] (fun x26 wr => ∃ (k : Nat) (La Lb : List MarkP), x26 = .int .i64 (k : Int) ∧ k ≤ l.length ∧ Hid (TwoT w wr w1.heap.size xa xb La Lb) ∧ Hid (MarkSet (fun s => s ∈ l.take k) La) ∧ Hid (MarkSet (fun s => s ∈ l.drop (l.length - k)) Lb) ∧ La.length ≤ 1000 ∧ Lb.length ≤ 1000 ∧ La.length ≤ k ∧ Lb.length ≤ k) (fun x26 _ => l.length - (intOf x26).toNat)
      case atStart => exact ⟨0, [], [], rfl, Nat.zero_le _, TT, Lib.hid (fun m => by simp), Lib.hid (fun m => by simp), by simp, by simp, by simp, by simp⟩
      case round =>
        obtain ⟨k, La, Lb, rfl, hk, TW, SA, SB, ha, hb, hak, hbk⟩ := hrel
        by_cases hlt : k < l.length
        · have q1 : (k : Int) < (l.length : Int) := by omega
          obtain ⟨b0, o0, ep, hb0, ck0⟩ := txt_cell R0.out hlt
          subst ep
          obtain ⟨t, ht⟩ : ∃ t, t = l[k] := ⟨_, rfl⟩
          rw [← ht] at ck0
          have htk : l.take (k + 1) = l.take k ++ [t] := by rw [ht]; simp
          obtain ⟨q, hq⟩ : ∃ q, q = l.length - (k + 1) := ⟨_, rfl⟩
          have hql : q < l.length := by omega
          obtain ⟨b0', o0', ep', _, cq0⟩ := txt_cell R0.out hql
          obtain ⟨rfl, rfl⟩ : b0 = b0' ∧ o0 = o0' := by injection ep' with e; injection e with e1 e2; exact ⟨e1, e2⟩
          obtain ⟨t2, ht2⟩ : ∃ t2, t2 = l[q] := ⟨_, rfl⟩
          rw [← ht2] at cq0
          have hdq : l.drop q = t2 :: l.drop (l.length - k) := by rw [ht2, List.drop_eq_getElem_cons hql, show q + 1 = l.length - k by omega]
          have tsz := ofL_size t
          have t2sz := ofL_size t2
          obtain ⟨st, hst⟩ : ∃ st, st = ofL t := ⟨_, rfl⟩
          obtain ⟨st2, hst2⟩ : ∃ st2, st2 = ofL t2 := ⟨_, rfl⟩
          rw [← hst] at ck0 tsz
          rw [← hst2] at cq0 t2sz
          have KC : Hid (∀ v, Upd (fun _ => False) w v → v.cell? ⟨b0, o0 + k, none⟩ = some (.string st) ∧ v.cell? ⟨b0, o0 + q, none⟩ = some (.string st2)) := fun v u => ⟨(u.cell (p := ⟨b0, o0 + k, none⟩) hb0 id).trans ck0, (u.cell (p := ⟨b0, o0 + q, none⟩) hb0 id).trans cq0⟩
          have HTK := Lib.hid (And.intro htk hdq)
          have HQ : Hid (l.length - (k + 1) = q) := hq.symm
          obtain ⟨x0, x1⟩ := KC.out wr TW.out.upd
          have qd : (l.length : Int) - 1 - (k : Int) = (q : Int) := by omega
          have qe : IntKind.i64.wrap ((l.length : Int) - 1) = (l.length : Int) - 1 := IntWalk.i64_in _ (by omega)
          have qf : IntKind.i64.wrap ((l.length : Int) - 1 - (k : Int)) = (q : Int) := by rw [qd]; exact IntWalk.i64_in _ (by omega)
          have qf2 : IntKind.i64.wrap (q : Int) = (q : Int) := IntWalk.i64_in _ (by omega)
          have qg : (q : Int) < (l.length : Int) := by omega
          clear ck0 cq0 ep' htk hdq ht ht2 hq hb0
          by_cases h1 : 100 < t.length
          · have q3 : (100 : Int) < (t.length : Int) := by omega
            clear hst hst2
            generalize l.length = nl at *
            generalize r.length = nr at *
            generalize t.length = nt at *
            go_wp2
            go_ret
            exact ⟨rfl, TW.out.upd⟩
          · have q3 : ¬ (100 : Int) < (t.length : Int) := by omega
            have PU := TW.out.put (by omega) t (t.length : Int) (by omega)
            rw [← hst] at PU
            have PU := Lib.hid PU
            have PL1 := putM_len TW.out.rise t (t.length : Int)
            have SA1 := Lib.hid ((SA.out.put t).congr (Q := fun s => s ∈ l.take (k + 1)) (fun s => by rw [HTK.out.1, List.mem_append, List.mem_singleton]))
            have HST2 := Lib.hid hst2
            clear hst hst2
            obtain ⟨tl, htl⟩ : ∃ tl : Int, tl = (t.length : Int) := ⟨_, rfl⟩
            have TL := Lib.hid htl
            clear htl
            have hl1 : (putM t (t.length : Int) La).length ≤ k + 1 := by split at PL1 <;> omega
            generalize putM t (t.length : Int) La = La1 at *
            generalize hnl : l.length = nl at *
            generalize hnr : r.length = nr at *
            go_wp2_with fail
            refine (PU.out).mono ?_
            rintro e w4 ⟨rfl, tw⟩
            have TW4 := Lib.hid tw
            obtain ⟨y0, y1⟩ := KC.out w4 tw.upd
            clear tw PU PL1 x0 x1
            by_cases h2 : 100 < t2.length
            · have q4 : (100 : Int) < (t2.length : Int) := by omega
              generalize t2.length = nt2 at *
              go_wp2
              go_ret
              exact ⟨rfl, TW4.out.upd⟩
            · have q4 : ¬ (100 : Int) < (t2.length : Int) := by omega
              have PB := TW4.out.symm.put (by omega) t2 (t2.length : Int) (by omega)
              rw [← HST2.out] at PB
              have PB := Lib.hid PB
              have PL2 := putM_len TW.out.symm.rise t2 (t2.length : Int)
              have SB1 := Lib.hid ((SB.out.put t2).congr (Q := fun s => s ∈ l.drop (nl - (k + 1))) (fun s => by rw [HQ.out, HTK.out.2, List.mem_cons]; exact Or.comm))
              have hl2 : (putM t2 (t2.length : Int) Lb).length ≤ k + 1 := by split at PL2 <;> omega
              generalize putM t2 (t2.length : Int) Lb = Lb1 at *
              go_wp2_with fail
              refine (PB.out).mono ?_
              rintro e w5 ⟨rfl, tw⟩
              have TW5 := Lib.hid tw.symm
              clear tw PB PL2 y0 y1
              by_cases hkr : k < nr
              · have q5 : (k : Int) < (nr : Int) := by omega
                have hkr2 : k < r.length := by omega
                obtain ⟨b1, o1, ep1, hb1, co⟩ := txt_cell (hnr ▸ R1.out) hkr2
                subst ep1
                obtain ⟨o, ho⟩ : ∃ o, o = r[k] := ⟨_, rfl⟩
                rw [← ho] at co
                have osz := ofL_size o
                obtain ⟨so, hso⟩ : ∃ so, so = ofL o := ⟨_, rfl⟩
                rw [← hso] at co osz
                have OC : Hid (∀ v, Upd (fun _ => False) w v → v.cell? ⟨b1, o1 + k, none⟩ = some (.string so)) := fun v u => (u.cell (p := ⟨b1, o1 + k, none⟩) hb1 id).trans co
                have HSO := Lib.hid hso
                clear co hb1 ho hso
                have z0 := OC.out w5 TW5.out.upd
                by_cases h3 : 100 < o.length
                · have q6 : (100 : Int) < (o.length : Int) := by omega
                  generalize o.length = no at *
                  go_wp2
                  go_ret
                  exact ⟨rfl, TW5.out.upd⟩
                · have q6 : ¬ (100 : Int) < (o.length : Int) := by omega
                  have GE := TW5.out.get o (by omega)
                  rw [← HSO.out] at GE
                  have GE := Lib.hid GE
                  go_wp2_with fail
                  refine (GE.out).mono ?_
                  rintro e w6 ⟨rfl, tw⟩
                  have z6 := OC.out w6 tw.upd
                  have PU := tw.put (by omega) o 7 (by omega)
                  rw [← HSO.out] at PU
                  have PU := Lib.hid PU
                  have RI := Lib.hid tw.rise
                  have PL7 := putM_len tw.rise o 7
                  have hl7 : (putM o 7 La1).length ≤ k + 2 := by split at PL7 <;> omega
                  clear tw GE z0 PL7
                  go_wp2_with fail
                  refine (PU.out).mono ?_
                  rintro e w7 ⟨rfl, tw⟩
                  have z7 := OC.out w7 tw.upd
                  have DR := tw.drop (by omega) o (by omega)
                  rw [cut_put RI.out, ← HSO.out] at DR
                  have DR := Lib.hid DR
                  clear tw PU z6
                  go_wp2_with fail
                  refine (DR.out).mono ?_
                  rintro e w8 ⟨rfl, tw⟩
                  have z8 := OC.out w8 tw.upd
                  cases hth : (getL La1 o).2 with
                  | false =>
                    rw [cutM_none RI.out (by rw [hth]; decide)] at tw
                    have TW8 := Lib.hid tw
                    clear tw DR z7
                    go_wp2
                    go_roundw
                    case rel => exact ⟨k + 1, La1, Lb1, by simp, by omega, TW8, SA1, SB1, by omega, by omega, by omega, by omega⟩
                    case measure => simp [intOf]; omega
                  | true =>
                    have hin : (o, (o.length : Int)) ∈ La1 := by
                      obtain ⟨n, hn⟩ := (getL_iff RI.out o).1 hth
                      have := (SA1.out (o, n)).1 hn
                      rw [← this.2]; exact hn
                    have CLn : (cutM o La1).length ≤ La1.length := List.length_filter_le _ _
                    have PB := (tw.keep0 (Upd.refl _ _).drew).put (by omega) o (o.length : Int) (by omega)
                    rw [put_back RI.out hin, ← HSO.out] at PB
                    have PB := Lib.hid PB
                    have OC8 := Lib.hid tw.upd
                    clear tw DR z7 hin CLn
                    go_wp2
                    go_region_held3 (fun w' => w'.cell? ⟨b1, o1 + k, none⟩ = some (.string so)) (go_keep) (first
                      | (go_at_call 12; refine PB.out.mono ?_; rintro e w9 ⟨rfl, tw⟩; (have z9 := OC.out w9 tw.upd); (have TW9 := Lib.hid tw); clear tw))
                    go_wp2
                    go_roundw
                    case rel => exact ⟨k + 1, La1, Lb1, by simp, by omega, TW9, SA1, SB1, by omega, by omega, by omega, by omega⟩
                    case measure => simp [intOf]; omega
              · have q5 : ¬ (k : Int) < (nr : Int) := by omega
                go_wp2
                go_roundw
                case rel => exact ⟨k + 1, La1, Lb1, by simp, by omega, TW5, SA1, SB1, by omega, by omega, by omega, by omega⟩
                case measure => simp [intOf]; omega
        · have q1 : ¬ (k : Int) < (l.length : Int) := by omega
          have ek : k = l.length := by omega
          have EQ : La = Lb := marks_ext TW.out.rise TW.out.symm.rise fun m => by
            have h1 := SA.out m
            have h2 := SB.out m
            rw [ek, List.take_length] at h1
            rw [ek, Nat.sub_self, List.drop_zero] at h2
            rw [h1, h2]
          subst EQ
          obtain ⟨E1, E2, T1, T2, DD⟩ := TW.out.ex
          have L1 := Lib.hid (radLen_any wr w1.heap.size xa La E1 T1)
          have L2 := Lib.hid (radLen_any wr w1.heap.size xb La E2 T2)
          have N1 := Lib.hid (radNodes_any wr w1.heap.size xa La E1 T1 (by omega))
          have HT1 := Lib.hid T1
          have HT2 := Lib.hid T2
          clear T1 T2 DD
          go_wp2_with fail
          refine (L1.out).mono ?_
          rintro e w4 ⟨rfl, rfl⟩
          go_wp2_with fail
          refine (L2.out).mono ?_
          rintro e w5 ⟨rfl, rfl⟩
          go_wp2_with fail
          refine (N1.out).mono ?_
          rintro e w6 ⟨n1, rfl, hn1, _, u6⟩
          have N2 := Lib.hid (radNodes_any w6 w1.heap.size xb La E2 (HT2.out.keep0 u6) (by omega))
          have U6 := Lib.hid u6
          clear u6
          go_wp2_with fail
          refine (N2.out).mono ?_
          rintro e w7 ⟨n2, rfl, hn2, _, u7⟩
          have en : n2 = n1 := hn2.uniq hn1
          subst en
          have U7 := Lib.hid (U6.out.trans u7 (fun _ _ h => h))
          have WA := radWalk_any w7 w1.heap.size xa La E1 (HT1.out.keep0 U7.out) (by omega) [] (by decide)
          rw [walkL_nil, show ofL [] = ⟨#[]⟩ from rfl] at WA
          have WA := Lib.hid WA
          clear u7 hn1 hn2 N1 N2
          go_wp2_with fail
          refine (WA.out).mono ?_
          rintro e w8 ⟨va, rfl, hva, u8⟩
          have U8 := Lib.hid (U7.out.trans u8 (fun _ _ h => h))
          have WB := radWalk_any w8 w1.heap.size xb La E2 (HT2.out.keep0 U8.out) (by omega) [] (by decide)
          rw [walkL_nil, show ofL [] = ⟨#[]⟩ from rfl] at WB
          have WB := Lib.hid WB
          have HVA := Lib.hid hva
          clear hva u8 WA
          go_wp2_with fail
          refine (WB.out).mono ?_
          rintro e w9 ⟨vb, rfl, hvb, u9⟩
          have SM := Lib.hid (same07_any va vb La La w9 (HVA.out.keep u9 (fun _ _ h => h)).row hvb.row)
          have U9 := Lib.hid (U8.out.trans u9 (fun _ _ h => h))
          clear hvb u9 WB
          go_wp2_with fail
          refine (SM.out).mono ?_
          rintro e w10 ⟨rfl, u10⟩
          have U10 := Lib.hid ((TW.out.upd.trans U9.out (fun _ _ h => h)).trans u10 (fun _ _ h => h))
          clear u10
          go_wp2
          go_ret
          exact ⟨by first | rfl | simp, U10.out⟩
end Go.Proofs.Ytnlbmplbaalgmaa
