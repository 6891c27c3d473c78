/- Keys that share their beginnings: Drop. -/
import Derived.Test.YtnlbmplbaalgmaaRadX
set_option linter.unusedVariables false
set_option linter.unusedSimpArgs false
namespace Go.Proofs.Ytnlbmplbaalgmaa
open Go.RowKit
theorem WayTo.inv {G : Nat → Nd} {r a x : Nat} {l0 : List Nat} (h : WayTo G r (l0 ++ [a]) x) : a = x ∧ ((l0 = [] ∧ x = r) ∨ (l0 ≠ [] ∧ ∃ up, WayTo G r l0 up ∧ x ∈ (G up).kids)) := by
  generalize hl : l0 ++ [a] = l at h
  cases h with
  | root =>
    cases l0 with
    | nil => simp at hl; exact ⟨hl, Or.inl ⟨rfl, rfl⟩⟩
    | cons b l0 => have := congrArg List.length hl; simp at this
  | step h1 hc =>
    obtain ⟨e1, e2⟩ := List.append_inj' hl rfl
    injection e2 with e2
    subst e1 e2
    obtain ⟨l2, e3⟩ := h1.last
    exact ⟨rfl, Or.inr ⟨by rw [e3]; simp, _, h1, hc⟩⟩
theorem cutM_none {L : List MarkP} (hr : L.Pairwise fun a b => a.1 < b.1) {k : Txt} (h : ¬ (getL L k).2 = true) : cutM k L = L := by
  unfold cutM
  rw [List.filter_eq_self]
  intro m hm
  simp only [decide_eq_true_eq]
  rintro rfl
  exact h ((getL_iff hr m.1).2 ⟨m.2, hm⟩)
theorem cutM_len {L : List MarkP} (hr : L.Pairwise fun a b => a.1 < b.1) {k : Txt} (h : (getL L k).2 = true) : ((cutM k L).length : Int) = (L.length : Int) - 1 := by
  have h1 := putM_len hr k 0
  rw [if_pos h] at h1
  unfold putM at h1
  rw [(insM_perm _ _).length_eq, List.length_cons] at h1
  omega
section
variable {w w' : World} {base xa : Nat} {bs : List Nat} {G : Nat → Nd} {T : Nat → Txt} {row : Nat → Value} {many : Int} {L : List MarkP}
/-- A node's mark, and how many, stored. -/
theorem RadR.mark2 (h : RadR w base xa bs G T row many) {x : Nat} (hx : x ∈ bs) (t : Bool) (n many' : Int) :
    RadR (((w.setCell ⟨x, 1, none⟩ (.bool t)).setCell ⟨x, 2, none⟩ (.int .i64 n)).setCell ⟨xa, 4, none⟩ (.int .i64 many')) base xa bs (markG G x t n) T row many' ∧
    Upd (fun k => k = x ∨ k = xa) w (((w.setCell ⟨x, 1, none⟩ (.bool t)).setCell ⟨x, 2, none⟩ (.int .i64 n)).setCell ⟨xa, 4, none⟩ (.int .i64 many')) ∧
    ((w.setCell ⟨x, 1, none⟩ (.bool t)).setCell ⟨x, 2, none⟩ (.int .i64 n)).cell? ⟨xa, 4, none⟩ = some (.int .i64 many) := by
  have XN := h.node hx
  have TN := h.x
  have XB := (XN.set 1 (.bool t)).set 2 (.int .i64 n)
  have eX : ∀ m, ((ndc (G x) (row x) ++ tailC xa x m).set 1 (.bool t)).set 2 (.int .i64 n) = ndc (markG G x t n x) (row x) ++ tailC xa x m := fun m => by unfold markG; rw [if_pos rfl]; rfl
  rw [eX] at XB
  have eT : ∀ z, (ndc z (row xa) ++ ([.int .i64 many] : List Value)).set 4 (.int .i64 many') = ndc z (row xa) ++ ([.int .i64 many'] : List Value) := fun z => rfl
  have UB : Upd (fun k => k = x ∨ k = xa) w (((w.setCell ⟨x, 1, none⟩ (.bool t)).setCell ⟨x, 2, none⟩ (.int .i64 n)).setCell ⟨xa, 4, none⟩ (.int .i64 many')) := (((Upd.refl (fun k => k = x ∨ k = xa) w).set (fun _ => Or.inl rfl)).set (fun _ => Or.inl rfl)).set (fun _ => Or.inr rfl)
  refine ⟨h.mark UB hx (fun b hb => ?_), UB, ?_⟩
  · by_cases e : b = xa
    · rw [e]
      unfold tailC tyC; rw [if_pos rfl, if_pos rfl, ← eT]
      by_cases e2 : x = xa
      · subst e2
        have := XB
        unfold tailC tyC at this; rw [if_pos rfl, if_pos rfl] at this
        exact this.set 4 _
      · have := (TN.set_other (b' := x) (o := 1) (v := .bool t) (Ne.symm e2)).set_other (b' := x) (o := 2) (v := .int .i64 n) (Ne.symm e2)
        have := this.set 4 (.int .i64 many')
        unfold markG; rw [if_neg (Ne.symm e2)]; exact this
    · have eb : b = x := hb.elim id (fun g => absurd g e)
      subst eb
      have := XB
      unfold tailC tyC at this ⊢; rw [if_neg e, if_neg e] at this ⊢
      exact this.set_other e
  · by_cases e : x = xa
    · subst e
      refine XB.cellAt (i := 4) ?_
      unfold tailC; rw [if_pos rfl]; rfl
    · exact ((TN.set_other (b' := x) (o := 1) (v := .bool t) (Ne.symm e)).set_other (b' := x) (o := 2) (v := .int .i64 n) (Ne.symm e)).cellAt rfl
set_option maxHeartbeats 8000000 in
set_option maxRecDepth 100000 in
theorem drop_raw (h : RadR w base xa bs G T row (L.length : Int)) (hm : Marks bs G T L) (hn : Need xa bs G) (hp : (G xa).part = []) (hL : L.length ≤ 1000000) (key : Txt) (hk : key.length ≤ 9223372036854775807) :
    Calls Try.prog 19 #[.pointer (some ⟨xa, 0, none⟩), .string (ofL key)] w fun e w' => e = .returned (.bool (getL L key).2) ∧ Upd (radF bs row) w w' ∧ ∃ E', TreeAt w' base xa (cutM key L) E' ∧ ∀ k, E' k → radF bs row k := by
  have FI := Lib.hid (find_any h key hk (h.flat.way_few (Nat.le_trans (bs_few h.flat hn hm) (by omega)) key))
  have H := Lib.hid h
  have HM := Lib.hid hm
  have HN := Lib.hid hn
  have HP := Lib.hid hp
  clear h hm hn hp
  generalize ofL key = sk at *
  go_enter Try.func19, Try.ntmps19
  go_wp2_with fail
  refine (FI.out).mono ?_
  rintro e w1 ⟨v, rfl, u, hv⟩
  have U1 := Lib.hid u
  have H1 := Lib.hid (H.out.keep0 u)
  clear u FI
  have NO : (¬ ∃ b ∈ bs, T b = key ∧ (G b).there = true) → Hid ((getL L key).2 = false ∧ TreeAt w1 base xa (cutM key L) (radF bs row)) := fun hno => by
    have hg : ¬ (getL L key).2 = true := fun e => by
      obtain ⟨n, hn⟩ := (getL_iff HM.out.rise key).1 e
      obtain ⟨b, hb, e1, e2, _⟩ := (HM.out.mem key n).1 hn
      exact hno ⟨b, hb, e1, e2⟩
    refine ⟨by simpa using hg, ?_⟩
    rw [cutM_none HM.out.rise hg]
    exact ⟨bs, G, T, row, H1.out, HN.out, HM.out, HP.out, rfl⟩
  rcases hv with ⟨l, b, hw, hb, ht, hnn⟩ | ⟨rfl, hnn⟩
  · obtain ⟨l0, hl0⟩ := hw.last
    obtain ⟨_, ⟨_, e0⟩ | ⟨gw, cw, csw, ew, hgw, hBw, hcw, hmw⟩⟩ := own_blk hnn
    · rw [hl0] at e0; simp at e0
    subst ew
    have hm1 : l.length = l0.length + 1 := by rw [hl0]; simp
    have cl : w1.cell? ⟨gw, l0.length, none⟩ = some (.pointer (some ⟨b, 0, none⟩)) := hBw.cellAt (by rw [hl0]; simp [ptr])
    have c1 := H1.out.c1 hb
    have c2 := H1.out.c2 hb
    unfold maxLen at hmw
    have qa : (l0.length : Int) < (l.length : Int) := by omega
    have qb : (l.length : Int) - 1 = (l0.length : Int) := by omega
    have qc : IntKind.i64.wrap ((l.length : Int) - 1) = (l0.length : Int) := by rw [qb]; exact IntWalk.i64_in _ (by omega)
    have qc2 : IntKind.i64.wrap (l0.length : Int) = (l0.length : Int) := IntWalk.i64_in _ (by omega)
    have qe : ¬ l.length = 0 := by omega
    cases htt : (G b).there with
    | false =>
      rw [htt] at c1
      have R := NO (fun ⟨d, hd, e1, e2⟩ => by
        have := H.out.flat.inj hd hb (e1.trans ht.symm)
        subst this; rw [htt] at e2; cases e2)
      clear NO hl0 hw hBw hb ht htt hnn hm1
      generalize l0.length = m at *
      generalize l.length = nl at *
      go_wp2
      go_ret
      exact ⟨by rw [R.out.1]; rfl, U1.out.weaken (fun _ _ g => g.elim), _, R.out.2, fun _ g => g⟩
    | true =>
      rw [htt] at c1
      clear NO
      have GL : Hid ((getL L key).2 = true) := (getL_iff HM.out.rise key).2 ⟨_, (HM.out.mem key _).2 ⟨b, hb, ht, htt, rfl⟩⟩
      have CL := cutM_len HM.out.rise GL.out
      obtain ⟨MK, UM, m4⟩ := H1.out.mark2 hb false 0 ((L.length : Int) - 1)
      have DB := DropAt.begin H.out.flat HM.out HN.out hw 0
      rw [ht] at DB
      have XN := H1.out.node hb
      have f1 := XN.free 1
      have f2 := XN.free 2
      have f4 := H1.out.x.free 4
      have hl1 : 1 ≤ L.length := by
        have := (getL_iff HM.out.rise key).1 GL.out
        obtain ⟨q, hq⟩ := this
        exact List.length_pos_of_mem hq
      have qg : IntKind.i64.wrap ((L.length : Int) - 1) = (L.length : Int) - 1 := IntWalk.i64_in _ (by omega)
      have LT : l.take (l0.length + 1) = l := by rw [← hm1, List.take_length]
      have hgM : ¬ (gw = b ∨ gw = xa) := fun e => by
        have h1 := H.out.lt hb
        have h2 := H.out.lt H.out.flat.root
        rcases e with e | e <;> omega
      have NM : Hid (NodesAt (((w1.setCell ⟨b, 1, none⟩ (.bool false)).setCell ⟨b, 2, none⟩ (.int .i64 0)).setCell ⟨xa, 4, none⟩ (.int .i64 ((L.length : Int) - 1))) w.heap.size (.slice (some ⟨gw, 0, none⟩) l.length cw) l) := own_keep hnn UM (fun k hk e => hgM (by rw [← (Option.some.inj hk)] at e; exact e))
      have PM : Hid ((markG G b false 0 xa).part = []) := by
        show _ = _
        unfold markG; split
        · rename_i e; rw [← e]; exact HP.out
        · exact HP.out
      have UW : Hid (Upd (radF bs row) w (((w1.setCell ⟨b, 1, none⟩ (.bool false)).setCell ⟨b, 2, none⟩ (.int .i64 0)).setCell ⟨xa, 4, none⟩ (.int .i64 ((L.length : Int) - 1)))) := (U1.out.weaken (F := radF bs row) (fun _ _ g => g.elim)).trans UM (fun k hk e => e.elim (fun e => Or.inl (by rw [e]; exact hb)) (fun e => Or.inl (by rw [e]; exact H.out.flat.root)))
      have LX : Hid (∀ i, i < l.length → i = 0 → l.take (i + 1) = [xa]) := fun i hi e => by
        subst e
        cases hl : l with
        | nil => rw [hl] at hi; simp at hi
        | cons a l' =>
          have : ∀ (l : List Nat) (y : Nat), WayTo G xa l y → l.head? = some xa := fun l y hy => by
            induction hy with
            | root => rfl
            | step h1 _ ih =>
              obtain ⟨l2, e3⟩ := h1.last
              rw [List.head?_append, ih]; rfl
          have := this l b hw
          rw [hl] at this
          simp at this
          simp [this]
      have MKH := Lib.hid MK
      have DBH := Lib.hid DB
      have HLT := Lib.hid LT
      have HGW := Lib.hid hgw
      have HCL := Lib.hid CL
      clear MK DB LT UM XN hw hBw hl0 hnn htt hb ht hgM
      generalize hml : l0.length = m at *
      generalize hnl : l.length = nl at *
      subst hm1
      have qz : ((m : Int) + 1 == 0) = false := beq_eq_false_iff_ne.2 (by omega)
      go_wp2
      go_loopw [7] (fun x7 wr => ∃ (i x : Nat) (bs1 : List Nat) (G1 : Nat → Nd) (row1 : Nat → Value), x7 = .int .i64 (i : Int) ∧ i < m + 1 ∧ Hid (DropAt xa bs1 G1 T (cutM key L) (l.take (i + 1)) x) ∧ Hid (RadR wr base xa bs1 G1 T row1 ((L.length : Int) - 1)) ∧ Hid ((G1 xa).part = []) ∧ Hid (Upd (radF bs row) w wr) ∧ Hid (∀ k, radF bs1 row1 k → radF bs row k) ∧ Hid (NodesAt wr w.heap.size (.slice (some ⟨gw, 0, none⟩) (m + 1) cw) l)) (fun x7 _ => (intOf x7).toNat)
      case atStart => exact ⟨m, b, bs, _, row, by simp, by omega, Lib.hid (by rw [HLT.out]; exact DBH.out), MKH, PM, UW, Lib.hid (fun _ g => g), NM⟩
      case round =>
        obtain ⟨i, x, bs1, G1, row1, rfl, hi, D, R, P1, U, NB, NW⟩ := hrel
        cases i with
        | zero =>
          have D0 := Lib.hid (DropAt.done (by have := D.out; rw [LX.out 0 (by omega) rfl] at this; exact this))
          have FIN : Hid (TreeAt wr base xa (cutM key L) (radF bs1 row1)) := ⟨bs1, G1, T, row1, by rw [HCL.out]; exact R.out, D0.out, D.out.marks, P1.out, rfl⟩
          go_wp2
          go_ret
          exact ⟨by rw [GL.out]; rfl, U.out, _, FIN.out, NB.out⟩
        | succ j =>
          have hj1 : j + 1 < l.length := by omega
          have hj0 : j < l.length := by omega
          have TS : l.take (j + 1 + 1) = l.take (j + 1) ++ [l[j + 1]] := by rw [List.take_succ_eq_append_getElem hj1]
          have DW := D.out.way
          rw [TS] at DW
          obtain ⟨ex, ⟨e0, _⟩ | ⟨_, up, hwu, hxu⟩⟩ := DW.inv
          · have h1 : (l.take (j + 1)).length = 0 := by rw [e0]; rfl
            rw [List.length_take] at h1; omega
          have eup : l[j] = up := by
            have h1 : l.take (j + 1) = l.take j ++ [l[j]] := by rw [List.take_succ_eq_append_getElem hj0]
            rw [h1] at hwu
            exact hwu.inv.1
          obtain ⟨_, ⟨_, e0⟩ | ⟨g', cap', cs', ew, hg', hB', hc', hm'⟩⟩ := own_blk NW.out
          · omega
          have eg : gw = g' := by injection ew with e1 e2 e3; injection e1 with e1; injection e1
          subst eg
          have w0 : wr.cell? ⟨gw, j, none⟩ = some (.pointer (some ⟨up, 0, none⟩)) := hB'.cellAt (by rw [List.getElem?_append_left (by simpa using hj0), List.getElem?_map, List.getElem?_eq_getElem hj0, eup]; rfl)
          have w1' : wr.cell? ⟨gw, j + 1, none⟩ = some (.pointer (some ⟨x, 0, none⟩)) := hB'.cellAt (by rw [List.getElem?_append_left (by simpa using hj1), List.getElem?_map, List.getElem?_eq_getElem hj1, ex]; rfl)
          have UPM : up ∈ bs1 := hwu.mem D.out.flat
          have FAR : Hid (∀ k, (Value.slice (some ⟨gw, 0, none⟩) (m + 1) cw).ownBlock = some k → ¬ radF bs1 row1 k) := fun k hk e => by
            have h1 := (H.out.ge (NB.out k e)).2
            have h2 := HGW.out
            have h3 : gw = k := Option.some.inj hk
            omega
          have hgl := hB'.lt
          have CE : Hid (∀ w3, Upd (radF bs1 row1) wr w3 → w3.cell? ⟨gw, j, none⟩ = some (.pointer (some ⟨up, 0, none⟩)) ∧ w3.cell? ⟨gw, j + 1, none⟩ = some (.pointer (some ⟨x, 0, none⟩))) := fun w3 u3 => ⟨(u3.cell (p := ⟨gw, j, none⟩) hgl (FAR.out gw rfl)).trans w0, (u3.cell (p := ⟨gw, j + 1, none⟩) hgl (FAR.out gw rfl)).trans w1'⟩
          have ME := Lib.hid (fun v (u : Upd (fun _ => False) wr v) => mend_any (R.out.keep0 u) UPM hxu)
          have DD := Lib.hid (show DropAt xa bs1 G1 T (cutM key L) (l.take (j + 1) ++ [x]) x by have := D.out; rw [TS, ex] at this; exact this)
          have HWU := Lib.hid hwu
          have q1 : (0 : Int) < (j : Int) + 1 := by omega
          have qw0 : IntKind.i64.wrap (j : Int) = (j : Int) := IntWalk.i64_in _ (by omega)
          have qs : (j : Int) + 1 - 1 = (j : Int) := by omega
          have qb1 : (j : Int) < (m : Int) + 1 := by omega
          have qb2 : (j : Int) + 1 < (m : Int) + 1 := by omega
          have qj1 : j < m + 1 := by omega
          have qb3 : (0 : Int) ≤ (j : Int) + 1 := by omega
          have qtn : ((j : Int) + 1).toNat = j + 1 := by omega
          clear hB' ew TS DW hwu hj1 hj0 ex eup hxu
          go_wp2
          go_region_held3 (fun w' => w'.cell? ⟨gw, j, none⟩ = some (.pointer (some ⟨up, 0, none⟩)) ∧ w'.cell? ⟨gw, j + 1, none⟩ = some (.pointer (some ⟨x, 0, none⟩))) (go_keep) (first
            | (go_at_call 48; refine (ME.out _ (Upd.refl _ _).drew).mono ?_; rintro e w3 ⟨⟨v', rfl⟩, hu, hme⟩; (have HU3 := Lib.hid (((Upd.refl (radF bs1 row1) wr).drew).trans hu (fun _ _ h => h))); (have NW3 := Lib.hid (own_keep NW.out HU3.out (fun k hk => FAR.out k hk))); (have ME3 := Lib.hid hme); (obtain ⟨y0, y1⟩ := CE.out _ HU3.out); clear hu hme))
          obtain ⟨bs2, G2, row2, D2, R2, P2, N2⟩ : ∃ bs2 G2 row2, Hid (DropAt xa bs2 G2 T (cutM key L) (l.take (j + 1)) up) ∧ Hid (RadR w3 base xa bs2 G2 T row2 ((L.length : Int) - 1)) ∧ Hid ((G2 xa).part = []) ∧ Hid (∀ k, radF bs2 row2 k → radF bs row k) := by
            rcases ME3.out with ⟨hn, hr⟩ | ⟨htf, hkk, K1, K2, row', hk1, hr, hsub⟩ | ⟨htf, y, K1, K2, hkk, hk1, hr⟩
            · exact ⟨_, _, _, (DD.out.keep HWU.out hn).1, hr, P1, NB⟩
            · refine ⟨_, _, _, DD.out.less HWU.out hk1 htf hkk, hr, ?_, fun k hk => NB.out k (hsub k hk)⟩
              show (lessG G1 up (K1 ++ K2) xa).part = []
              unfold lessG; split
              · rename_i e; rw [← e]; exact P1.out
              · exact P1.out
            · refine ⟨_, _, _, DD.out.join HWU.out hk1 htf hkk, hr, ?_, fun k hk => NB.out k ?_⟩
              · show (joinG G1 up y ((G1 x).part ++ (G1 y).part) (K1 ++ y :: K2) xa).part = []
                have hyr : xa ≠ y := fun e => D.out.flat.not_root D.out.xm (show y ∈ (G1 x).kids by rw [hkk]; simp) e.symm
                unfold joinG; rw [if_neg hyr]; split
                · rename_i e; rw [← e]; exact P1.out
                · exact P1.out
              · have me : ∀ b ∈ bs1.erase x, b ∈ bs1 := fun b hb => (D.out.flat.nodup.mem_erase_iff.1 hb).2
                rcases hk with hk | ⟨b, hb, hk⟩
                · exact Or.inl (me k hk)
                · exact Or.inr ⟨b, me b hb, hk⟩
          have U3 : Hid (Upd (radF bs row) w w3) := U.out.trans HU3.out (fun k hk g => NB.out k g)
          go_wp2
          go_roundw
          case rel => exact ⟨j, up, bs2, G2, row2, by simp, by omega, D2, R2, P2, U3, N2, NW3⟩
          case measure => simp [intOf]
  · have R := NO (fun ⟨d, hd, e1, e2⟩ => hnn d hd e1)
    clear NO hnn
    go_wp2
    go_ret
    exact ⟨by rw [R.out.1]; rfl, U1.out.weaken (fun _ _ g => g.elim), _, R.out.2, fun _ g => g⟩
theorem radDrop_any (w : World) (base xa : Nat) (L : List MarkP) (E : Nat → Prop) (h : TreeAt w base xa L E) (hL : L.length ≤ 1000000) (key : Txt) (hk : key.length ≤ 9223372036854775807) :
    Calls Try.prog 19 #[.pointer (some ⟨xa, 0, none⟩), .string (ofL key)] w fun e w' => e = .returned (.bool (getL L key).2) ∧ Upd E w w' ∧ ∃ E', TreeAt w' base xa (cutM key L) E' ∧ ∀ k, E' k → E k := by
  obtain ⟨bs, G, T, row, h1, h2, h3, h4, rfl⟩ := h
  exact drop_raw h1 h3 h2 h4 hL key hk
end
end Go.Proofs.Ytnlbmplbaalgmaa
