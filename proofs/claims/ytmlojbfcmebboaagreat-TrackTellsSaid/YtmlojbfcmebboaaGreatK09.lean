/- Keys that share their beginnings: mend, Drop. -/
import Derived.Test.YtmlojbfcmebboaaGreatK08
import Derived.Test.YtmlojbfcmebboaaGreatK02
import Derived.Test.YtmlojbfcmebboaaGreatK03
import Derived.Test.YtmlojbfcmebboaaGreatK01
set_option linter.unusedVariables false
set_option linter.unusedSimpArgs false
namespace Go.Proofs.YtmlojbfcmebboaaGreat
open Go.RowKit
section
variable {w w' : World} {base xa : Nat} {bs : List Nat} {G : Nat → Nd} {T : Nat → Txt} {row : Nat → Value} {many : Int} {L : List MarkP}
/-- What a mending has done. -/
def Mended (w' : World) (base xa : Nat) (bs : List Nat) (G : Nat → Nd) (T : Nat → Txt) (row : Nat → Value) (many : Int) (up x : Nat) : Prop :=
  (needN G x ∧ RadR w' base xa bs G T row many) ∨
  ((G x).there = false ∧ (G x).kids = [] ∧ ∃ K1 K2 row', (G up).kids = K1 ++ x :: K2 ∧ RadR w' base xa (bs.erase x) (lessG G up (K1 ++ K2)) T row' many ∧ (∀ k, radF (bs.erase x) row' k → radF bs row k)) ∨
  ((G x).there = false ∧ ∃ y K1 K2, (G x).kids = [y] ∧ (G up).kids = K1 ++ x :: K2 ∧ RadR w' base xa (bs.erase x) (joinG G up y ((G x).part ++ (G y).part) (K1 ++ y :: K2)) T row many)
set_option maxHeartbeats 8000000 in
set_option maxRecDepth 100000 in
theorem mend_any (h : RadR w base xa bs G T row many) {up x : Nat} (hup : up ∈ bs) (hx : x ∈ (G up).kids) :
    Calls Tryz.prog 122 #[.pointer (some ⟨up, 0, none⟩), .pointer (some ⟨x, 0, none⟩)] w fun e w' => (∃ v, e = .returned v) ∧ Upd (radF bs row) w w' ∧ Mended w' base xa bs G T row many up x := by
  obtain ⟨xm, xn, etx⟩ := h.flat.kid up hup x hx
  have ux : up ≠ x := by rintro rfl; exact absurd (h.flat.kid_len hup hx) (Nat.lt_irrefl _)
  have xr := h.flat.not_root hup hx
  obtain ⟨c, r1, hc⟩ : ∃ c r1, (G x).part = c :: r1 := by
    cases hp : (G x).part with
    | nil => exact absurd hp xn
    | cons c r1 => exact ⟨c, r1, rfl⟩
  have hdx : hdN G x = c := by unfold hdN; rw [hc]; rfl
  have cx := h.c0 xm
  obtain ⟨sx, hsx⟩ : ∃ sx, sx = ofL (G x).part := ⟨_, rfl⟩
  rw [← hsx] at cx
  have rx : ∀ w, (Instr.index 9 (.string sx) (.int .i64 0)).run Tryz.prog w = .ok (.int .u8 (c.toNat : Int)) w := by rw [hsx, hc]; exact run_at (c :: r1) 0 c rfl
  have PL := Lib.hid (place_any h hup c)
  have H := Lib.hid h
  have UP := Lib.hid hup
  have XM := Lib.hid xm
  have XK := Lib.hid hx
  have ESX := Lib.hid hsx
  have HDX := Lib.hid hdx
  clear h hup hx xm etx hc hsx xn hdx
  go_enter Tryz.func122, Tryz.ntmps122
  go_wp2_with fail
  refine (PL.out).mono ?_
  rintro e w1 ⟨i, f, rfl, hp, u⟩
  cases f with
  | false => exact absurd HDX.out (hp.none x XK.out)
  | true =>
    obtain ⟨x', hx', hcx', K1, K2, ekk, eki⟩ := hp.some
    have exx : x' = x := pairwise_head (H.out.flat.sorted up UP.out) (by rw [ekk]; simp) XK.out (hcx'.trans HDX.out.symm)
    subst exx
    have H1 := Lib.hid (H.out.keep0 u)
    have U1 := Lib.hid u
    have EKK := Lib.hid (And.intro ekk eki)
    have c1 := H1.out.c1 XM.out
    have c3 := H1.out.c3 XM.out
    obtain ⟨px, kx, erow, hlx⟩ := own_slice (H1.out.own x' XM.out)
    have KF := H1.out.flat.kids_few XM.out
    rw [erow] at c3
    clear u hp hx' hcx' ekk eki PL cx rx
    cases ht : (G x').there with
    | true =>
      rw [ht] at c1
      have NN : Hid (needN G x') := Or.inl ht
      go_wp2
      go_end0
      exact ⟨⟨_, rfl⟩, U1.out.weaken (fun _ _ g => g.elim), Or.inl ⟨NN.out, H1.out⟩⟩
    | false =>
      rw [ht] at c1
      by_cases h2 : 1 < (G x').kids.length
      · have NN : Hid (needN G x') := Or.inr h2
        have q1 : (1 : Int) < ((G x').kids.length : Int) := by omega
        generalize (G x').kids.length = nx at *
        go_wp2
        go_end0
        exact ⟨⟨_, rfl⟩, U1.out.weaken (fun _ _ g => g.elim), Or.inl ⟨NN.out, H1.out⟩⟩
      · have q1 : ¬ (1 : Int) < ((G x').kids.length : Int) := by omega
        by_cases h0 : (G x').kids = []
        · have hz : (G x').kids.length = 0 := by rw [h0]; rfl
          have XU := H1.out.node UP.out
          have cu := H1.out.c3 UP.out
          obtain ⟨pu, ku, erow2, hlu⟩ := own_slice (H1.out.own up UP.out)
          have OW : NodesAt w1 base (row up) (K1 ++ x' :: K2) := by rw [← EKK.out.1]; exact H1.out.own up UP.out
          have DE := delP_any w1 base (row up) K1 K2 x' OW
          have KFU := H1.out.flat.kids_few UP.out
          rw [EKK.out.1, List.length_append, List.length_cons] at KFU
          have K1L : K1.length = i := EKK.out.2
          have fu := XU.free 3
          rw [erow2] at cu DE
          rw [K1L] at DE
          have DE := Lib.hid DE
          have HT := Lib.hid ht
          have H0 := Lib.hid h0
          have qw : IntKind.i64.wrap ((i : Int) + 1) = (i : Int) + 1 := IntWalk.i64_in _ (by omega)
          generalize (G x').kids.length = nx at *
          subst hz
          clear OW h0 ht
          go_wp2_with fail
          refine (DE.out).mono ?_
          rintro e w3 ⟨v', rfl, hN, hu, hnew⟩
          have X3 := hu.blk XU (fun g => H1.out.row_ne UP.out UP.out (by rw [erow2]; exact g) rfl)
          have f3 := X3.free 3
          have d3 := X3.cellAt (i := 3) (v := row up) rfl
          have X4 := X3.set 3 v'
          have N4 : NodesAt (w3.setCell ⟨up, 3, none⟩ v') base v' (K1 ++ K2) := own_keep hN ((Upd.refl (fun k => k = up) w3).set (fun _ => rfl)) (fun k hk => NodesAt.ne_node hN X3 hk)
          have UU : Upd (fun k => k = up ∨ (row up).ownBlock = some k) w1 (w3.setCell ⟨up, 3, none⟩ v') := (hu.weaken (F := fun k => k = up ∨ (row up).ownBlock = some k) (fun _ _ g => Or.inr (by rw [erow2]; exact g))).set (fun _ => Or.inl rfl)
          have H4 := Lib.hid (H1.out.less (H1.out.flat.less UP.out EKK.out.1 H0.out) UP.out ux UU X4 N4 (fun k hk => Or.inl (by rw [erow2]; exact hnew k hk)))
          have U4 : Hid (Upd (radF bs row) w (w3.setCell ⟨up, 3, none⟩ v')) := (U1.out.weaken (F := radF bs row) (fun _ _ g => g.elim)).trans UU (fun k hk g => g.elim (fun e => Or.inl (by rw [e]; exact UP.out)) (fun e => Or.inr ⟨up, UP.out, e⟩))
          have NB : Hid (∀ k, radF (bs.erase x') (fun b => if b = up then v' else row b) k → radF bs row k) := fun k hk => by
            have me : ∀ b ∈ bs.erase x', b ∈ bs := fun b hb => (H1.out.flat.nodup.mem_erase_iff.1 hb).2
            rcases hk with hk | ⟨b, hb, hk⟩
            · exact Or.inl (me k hk)
            · dsimp only at hk
              by_cases e : b = up
              · rw [if_pos e] at hk
                exact Or.inr ⟨up, UP.out, by rw [erow2]; exact hnew k hk⟩
              · rw [if_neg e] at hk; exact Or.inr ⟨b, me b hb, hk⟩
          obtain ⟨p3, k3, e3, _⟩ := own_slice hN
          clear XU X3 X4 N4 UU hN hu hnew
          subst e3
          generalize (K1 ++ K2).length = n12 at *
          go_wp2
          go_end0
          exact ⟨⟨_, rfl⟩, U4.out, Or.inr (Or.inl ⟨HT.out, H0.out, K1, K2, _, EKK.out.1, H4.out, NB.out⟩)⟩
        · obtain ⟨y, hy⟩ : ∃ y, (G x').kids = [y] := by
            cases hk : (G x').kids with
            | nil => exact absurd hk h0
            | cons a l =>
              cases l with
              | nil => exact ⟨a, rfl⟩
              | cons b l => rw [hk] at h2; simp at h2
          have hyk : y ∈ (G x').kids := by rw [hy]; simp
          obtain ⟨ym, yn, ety⟩ := H1.out.flat.kid x' XM.out y hyk
          have etx := (H1.out.flat.kid up UP.out x' XK.out).2.2
          have l1 := H1.out.flat.kid_len UP.out XK.out
          have l2 := H1.out.flat.kid_len XM.out hyk
          have yu : y ≠ up := by rintro rfl; omega
          have yx : y ≠ x' := by rintro rfl; omega
          have yr := H1.out.flat.not_root XM.out hyk
          have hl1 : (G x').kids.length = 1 := by rw [hy]; rfl
          obtain ⟨gx, cx, erx, cgx, hgxl, _, _⟩ := H1.out.kidAt XM.out (i := 0) (y := y) (by rw [hy]; rfl)
          rw [erow] at erx
          obtain ⟨rfl, rfl⟩ : px = some ⟨gx, 0, none⟩ ∧ kx = cx := by injection erx with e1 e2 e3; exact ⟨e1, e3⟩
          have YN := H1.out.at_ y ym yr
          have XN := H1.out.node XM.out
          have XU := H1.out.node UP.out
          have OW : NodesAt w1 base (row up) (G up).kids := H1.out.own up UP.out
          obtain ⟨_, ⟨_, e0⟩ | ⟨g, cap, cs, erow2, hg, hB, hcap, hmx⟩⟩ := own_blk OW
          · rw [EKK.out.1] at e0; simp at e0
          have hgown : (row up).ownBlock = some g := by rw [erow2]; rfl
          have gy : g ≠ y := H1.out.row_ne ym UP.out hgown
          have hylt := H1.out.lt ym
          have hglt := hB.lt
          have p0 := H1.out.c0 XM.out
          have p1 := H1.out.c0 ym
          have ESY := ofL_append (G x').part (G y).part
          have zx := ofL_size (G x').part
          have zy := ofL_size (G y).part
          have SM := H1.out.small y ym
          rw [ety, etx, List.length_append, List.length_append] at SM
          rw [← ESX.out] at p0 ESY zx
          obtain ⟨sy, hsy⟩ : ∃ sy, sy = ofL (G y).part := ⟨_, rfl⟩
          rw [← hsy] at p1 ESY zy
          have sv := fun w : World => run_string_add_sum (P := Tryz.prog) w sx sy (by rw [zx, zy]; unfold maxLen at SM; omega)
          rw [ESY] at sv
          obtain ⟨s3, hs3⟩ : ∃ s3, s3 = ofL ((G x').part ++ (G y).part) := ⟨_, rfl⟩
          rw [← hs3] at sv
          have fy := YN.free 0
          have YB := YN.set 0 (.string s3)
          have XB := XU.set_other (b' := y) (o := 0) (v := .string s3) (Ne.symm yu)
          have GB := hB.set_other (b' := y) (o := 0) (v := .string s3) gy
          have UB := (Upd.refl (fun k => k = y ∨ (row up).ownBlock = some k) w1).set (b := y) (o := 0) (v := .string s3) (fun _ => Or.inl rfl)
          have cu3 := H1.out.c3 UP.out
          have b3 := XB.cellAt (i := 3) (v := row up) rfl
          rw [erow2] at b3 cu3
          have hik : i < (G up).kids.length := by rw [EKK.out.1, ← EKK.out.2]; simp
          have cg := hB.cellAt (i := i) (v := .pointer (some ⟨x', 0, none⟩)) (by rw [List.getElem?_append_left (by simpa using hik), List.getElem?_map, EKK.out.1, ← EKK.out.2]; simp [ptr])
          have bg := GB.cellAt (i := i) (v := .pointer (some ⟨x', 0, none⟩)) (by rw [List.getElem?_append_left (by simpa using hik), List.getElem?_map, EKK.out.1, ← EKK.out.2]; simp [ptr])
          have fg := hB.free i
          have bf := GB.free i
          have YC := YB.set_other (b' := g) (o := i) (v := .pointer (some ⟨y, 0, none⟩)) (Ne.symm gy)
          have GC := GB.set i (.pointer (some ⟨y, 0, none⟩))
          have UC := UB.set (b := g) (o := i) (v := .pointer (some ⟨y, 0, none⟩)) (fun _ => Or.inr hgown)
          have eY : (ndc (G y) (row y)).set 0 (.string s3) = ndc { G y with part := (G x').part ++ (G y).part } (row y) := by rw [hs3]; rfl
          have KFU := H1.out.flat.kids_few UP.out
          have H4 := Lib.hid (H1.out.join (H1.out.flat.join UP.out EKK.out.1 hy) UP.out ym yu yr UC (by rw [← eY]; exact YC) (by
            have e : ((G up).kids.map ptr ++ cs).set i (.pointer (some ⟨y, 0, none⟩)) = (K1 ++ y :: K2).map ptr ++ cs := by rw [EKK.out.1, ← EKK.out.2]; simp [ptr]
            rw [e] at GC
            have el : (G up).kids.length = (K1 ++ y :: K2).length := by rw [EKK.out.1]; simp
            unfold NodesAt
            rw [erow2, el]
            exact own_of hg GC (by simp) (by rw [← el]; exact hcap) hmx))
          have U4 := Lib.hid ((U1.out.weaken (F := radF bs row) (fun _ _ g => g.elim)).trans UC (fun k hk g => g.elim (fun e => Or.inl (by rw [e]; exact ym)) (fun e => Or.inr ⟨up, UP.out, e⟩)))
          have HT := Lib.hid ht
          have HYY := Lib.hid hy
          have qi : (i : Int) < ((G up).kids.length : Int) := by omega
          rw [hl1] at c3 hlx
          clear h0 ht hy hyk YN XN XU OW hB YB XB GB UB YC GC UC eY hs3 ESY SM hsy erx ety etx hl1 hcap hgown h2 q1
          generalize (G up).kids.length = nu at *
          go_wp2
          go_region_with (fail)
          all_goals
            go_wp2
            go_end0
            exact ⟨⟨_, rfl⟩, U4.out.drew, Or.inr (Or.inr ⟨HT.out, y, K1, K2, HYY.out, EKK.out.1, H4.out.keep0 (Upd.refl _ _).drew⟩)⟩
end
end Go.Proofs.YtmlojbfcmebboaaGreat
/- Keys that share their beginnings: Drop. -/
set_option linter.unusedVariables false
set_option linter.unusedSimpArgs false
namespace Go.Proofs.YtmlojbfcmebboaaGreat
open Go.RowKit
theorem WayTo.inv {G : Nat → Nd} {r a x : Nat} {l0 : List Nat} (h : WayTo G r (l0 ++ [a]) x) : a = x ∧ ((l0 = [] ∧ x = r) ∨ (l0 ≠ [] ∧ ∃ up, WayTo G r l0 up ∧ x ∈ (G up).kids)) := by
  generalize hl : l0 ++ [a] = l at h
  cases h with
  | root =>
    cases l0 with
    | nil => simp at hl; exact ⟨hl, Or.inl ⟨rfl, rfl⟩⟩
    | cons b l0 => have := congrArg List.length hl; simp at this
  | step h1 hc =>
    obtain ⟨e1, e2⟩ := List.append_inj' hl rfl
    injection e2 with e2
    subst e1 e2
    obtain ⟨l2, e3⟩ := h1.last
    exact ⟨rfl, Or.inr ⟨by rw [e3]; simp, _, h1, hc⟩⟩
theorem cutM_none {L : List MarkP} (hr : L.Pairwise fun a b => a.1 < b.1) {k : Txt} (h : ¬ (getL L k).2 = true) : cutM k L = L := by
  unfold cutM
  rw [List.filter_eq_self]
  intro m hm
  simp only [decide_eq_true_eq]
  rintro rfl
  exact h ((getL_iff hr m.1).2 ⟨m.2, hm⟩)
theorem cutM_len {L : List MarkP} (hr : L.Pairwise fun a b => a.1 < b.1) {k : Txt} (h : (getL L k).2 = true) : ((cutM k L).length : Int) = (L.length : Int) - 1 := by
  have h1 := putM_len hr k 0
  rw [if_pos h] at h1
  unfold putM at h1
  rw [(insM_perm _ _).length_eq, List.length_cons] at h1
  omega
section
variable {w w' : World} {base xa : Nat} {bs : List Nat} {G : Nat → Nd} {T : Nat → Txt} {row : Nat → Value} {many : Int} {L : List MarkP}
/-- A node's mark, and how many, stored. -/
theorem RadR.mark2 (h : RadR w base xa bs G T row many) {x : Nat} (hx : x ∈ bs) (t : Bool) (n many' : Int) :
    RadR (((w.setCell ⟨x, 1, none⟩ (.bool t)).setCell ⟨x, 2, none⟩ (.int .i64 n)).setCell ⟨xa, 4, none⟩ (.int .i64 many')) base xa bs (markG G x t n) T row many' ∧
    Upd (fun k => k = x ∨ k = xa) w (((w.setCell ⟨x, 1, none⟩ (.bool t)).setCell ⟨x, 2, none⟩ (.int .i64 n)).setCell ⟨xa, 4, none⟩ (.int .i64 many')) ∧
    ((w.setCell ⟨x, 1, none⟩ (.bool t)).setCell ⟨x, 2, none⟩ (.int .i64 n)).cell? ⟨xa, 4, none⟩ = some (.int .i64 many) := by
  have XN := h.node hx
  have TN := h.x
  have XB := (XN.set 1 (.bool t)).set 2 (.int .i64 n)
  have eX : ∀ m, ((ndc (G x) (row x) ++ tailC xa x m).set 1 (.bool t)).set 2 (.int .i64 n) = ndc (markG G x t n x) (row x) ++ tailC xa x m := fun m => by unfold markG; rw [if_pos rfl]; rfl
  rw [eX] at XB
  have eT : ∀ z, (ndc z (row xa) ++ ([.int .i64 many] : List Value)).set 4 (.int .i64 many') = ndc z (row xa) ++ ([.int .i64 many'] : List Value) := fun z => rfl
  have UB : Upd (fun k => k = x ∨ k = xa) w (((w.setCell ⟨x, 1, none⟩ (.bool t)).setCell ⟨x, 2, none⟩ (.int .i64 n)).setCell ⟨xa, 4, none⟩ (.int .i64 many')) := (((Upd.refl (fun k => k = x ∨ k = xa) w).set (fun _ => Or.inl rfl)).set (fun _ => Or.inl rfl)).set (fun _ => Or.inr rfl)
  refine ⟨h.mark UB hx (fun b hb => ?_), UB, ?_⟩
  · by_cases e : b = xa
    · rw [e]
      unfold tailC tyC; rw [if_pos rfl, if_pos rfl, ← eT]
      by_cases e2 : x = xa
      · subst e2
        have := XB
        unfold tailC tyC at this; rw [if_pos rfl, if_pos rfl] at this
        exact this.set 4 _
      · have := (TN.set_other (b' := x) (o := 1) (v := .bool t) (Ne.symm e2)).set_other (b' := x) (o := 2) (v := .int .i64 n) (Ne.symm e2)
        have := this.set 4 (.int .i64 many')
        unfold markG; rw [if_neg (Ne.symm e2)]; exact this
    · have eb : b = x := hb.elim id (fun g => absurd g e)
      subst eb
      have := XB
      unfold tailC tyC at this ⊢; rw [if_neg e, if_neg e] at this ⊢
      exact this.set_other e
  · by_cases e : x = xa
    · subst e
      refine XB.cellAt (i := 4) ?_
      unfold tailC; rw [if_pos rfl]; rfl
    · exact ((TN.set_other (b' := x) (o := 1) (v := .bool t) (Ne.symm e)).set_other (b' := x) (o := 2) (v := .int .i64 n) (Ne.symm e)).cellAt rfl
set_option maxHeartbeats 8000000 in
set_option maxRecDepth 100000 in
theorem drop_raw (h : RadR w base xa bs G T row (L.length : Int)) (hm : Marks bs G T L) (hn : Need xa bs G) (hp : (G xa).part = []) (hL : L.length ≤ 1000000) (key : Txt) (hk : key.length ≤ 9223372036854775807) :
    Calls Tryz.prog 92 #[.pointer (some ⟨xa, 0, none⟩), .string (ofL key)] w fun e w' => e = .returned (.bool (getL L key).2) ∧ Upd (radF bs row) w w' ∧ ∃ E', TreeAt w' base xa (cutM key L) E' ∧ ∀ k, E' k → radF bs row k := by
  have FI := Lib.hid (find_any h key hk (h.flat.way_few (Nat.le_trans (bs_few h.flat hn hm) (by omega)) key))
  have H := Lib.hid h
  have HM := Lib.hid hm
  have HN := Lib.hid hn
  have HP := Lib.hid hp
  clear h hm hn hp
  generalize ofL key = sk at *
  go_enter Tryz.func92, Tryz.ntmps92
  go_wp2_with fail
  refine (FI.out).mono ?_
  rintro e w1 ⟨v, rfl, u, hv⟩
  have U1 := Lib.hid u
  have H1 := Lib.hid (H.out.keep0 u)
  clear u FI
  have NO : (¬ ∃ b ∈ bs, T b = key ∧ (G b).there = true) → Hid ((getL L key).2 = false ∧ TreeAt w1 base xa (cutM key L) (radF bs row)) := fun hno => by
    have hg : ¬ (getL L key).2 = true := fun e => by
      obtain ⟨n, hn⟩ := (getL_iff HM.out.rise key).1 e
      obtain ⟨b, hb, e1, e2, _⟩ := (HM.out.mem key n).1 hn
      exact hno ⟨b, hb, e1, e2⟩
    refine ⟨by simpa using hg, ?_⟩
    rw [cutM_none HM.out.rise hg]
    exact ⟨bs, G, T, row, H1.out, HN.out, HM.out, HP.out, rfl⟩
  rcases hv with ⟨l, b, hw, hb, ht, hnn⟩ | ⟨rfl, hnn⟩
  · obtain ⟨l0, hl0⟩ := hw.last
    obtain ⟨_, ⟨_, e0⟩ | ⟨gw, cw, csw, ew, hgw, hBw, hcw, hmw⟩⟩ := own_blk hnn
    · rw [hl0] at e0; simp at e0
    subst ew
    have hm1 : l.length = l0.length + 1 := by rw [hl0]; simp
    have cl : w1.cell? ⟨gw, l0.length, none⟩ = some (.pointer (some ⟨b, 0, none⟩)) := hBw.cellAt (by rw [hl0]; simp [ptr])
    have c1 := H1.out.c1 hb
    have c2 := H1.out.c2 hb
    unfold maxLen at hmw
    have qa : (l0.length : Int) < (l.length : Int) := by omega
    have qb : (l.length : Int) - 1 = (l0.length : Int) := by omega
    have qc : IntKind.i64.wrap ((l.length : Int) - 1) = (l0.length : Int) := by rw [qb]; exact IntWalk.i64_in _ (by omega)
    have qc2 : IntKind.i64.wrap (l0.length : Int) = (l0.length : Int) := IntWalk.i64_in _ (by omega)
    have qe : ¬ l.length = 0 := by omega
    cases htt : (G b).there with
    | false =>
      rw [htt] at c1
      have R := NO (fun ⟨d, hd, e1, e2⟩ => by
        have := H.out.flat.inj hd hb (e1.trans ht.symm)
        subst this; rw [htt] at e2; cases e2)
      clear NO hl0 hw hBw hb ht htt hnn hm1
      generalize l0.length = m at *
      generalize l.length = nl at *
      go_wp2
      go_ret
      exact ⟨by rw [R.out.1]; rfl, U1.out.weaken (fun _ _ g => g.elim), _, R.out.2, fun _ g => g⟩
    | true =>
      rw [htt] at c1
      clear NO
      have GL : Hid ((getL L key).2 = true) := (getL_iff HM.out.rise key).2 ⟨_, (HM.out.mem key _).2 ⟨b, hb, ht, htt, rfl⟩⟩
      have CL := cutM_len HM.out.rise GL.out
      obtain ⟨MK, UM, m4⟩ := H1.out.mark2 hb false 0 ((L.length : Int) - 1)
      have DB := DropAt.begin H.out.flat HM.out HN.out hw 0
      rw [ht] at DB
      have XN := H1.out.node hb
      have f1 := XN.free 1
      have f2 := XN.free 2
      have f4 := H1.out.x.free 4
      have hl1 : 1 ≤ L.length := by
        have := (getL_iff HM.out.rise key).1 GL.out
        obtain ⟨q, hq⟩ := this
        exact List.length_pos_of_mem hq
      have qg : IntKind.i64.wrap ((L.length : Int) - 1) = (L.length : Int) - 1 := IntWalk.i64_in _ (by omega)
      have LT : l.take (l0.length + 1) = l := by rw [← hm1, List.take_length]
      have hgM : ¬ (gw = b ∨ gw = xa) := fun e => by
        have h1 := H.out.lt hb
        have h2 := H.out.lt H.out.flat.root
        rcases e with e | e <;> omega
      have NM : Hid (NodesAt (((w1.setCell ⟨b, 1, none⟩ (.bool false)).setCell ⟨b, 2, none⟩ (.int .i64 0)).setCell ⟨xa, 4, none⟩ (.int .i64 ((L.length : Int) - 1))) w.heap.size (.slice (some ⟨gw, 0, none⟩) l.length cw) l) := own_keep hnn UM (fun k hk e => hgM (by rw [← (Option.some.inj hk)] at e; exact e))
      have PM : Hid ((markG G b false 0 xa).part = []) := by
        show _ = _
        unfold markG; split
        · rename_i e; rw [← e]; exact HP.out
        · exact HP.out
      have UW : Hid (Upd (radF bs row) w (((w1.setCell ⟨b, 1, none⟩ (.bool false)).setCell ⟨b, 2, none⟩ (.int .i64 0)).setCell ⟨xa, 4, none⟩ (.int .i64 ((L.length : Int) - 1)))) := (U1.out.weaken (F := radF bs row) (fun _ _ g => g.elim)).trans UM (fun k hk e => e.elim (fun e => Or.inl (by rw [e]; exact hb)) (fun e => Or.inl (by rw [e]; exact H.out.flat.root)))
      have LX : Hid (∀ i, i < l.length → i = 0 → l.take (i + 1) = [xa]) := fun i hi e => by
        subst e
        cases hl : l with
        | nil => rw [hl] at hi; simp at hi
        | cons a l' =>
          have : ∀ (l : List Nat) (y : Nat), WayTo G xa l y → l.head? = some xa := fun l y hy => by
            induction hy with
            | root => rfl
            | step h1 _ ih =>
              obtain ⟨l2, e3⟩ := h1.last
              rw [List.head?_append, ih]; rfl
          have := this l b hw
          rw [hl] at this
          simp at this
          simp [this]
      have MKH := Lib.hid MK
      have DBH := Lib.hid DB
      have HLT := Lib.hid LT
      have HGW := Lib.hid hgw
      have HCL := Lib.hid CL
      clear MK DB LT UM XN hw hBw hl0 hnn htt hb ht hgM
      generalize hml : l0.length = m at *
      generalize hnl : l.length = nl at *
      subst hm1
      have qz : ((m : Int) + 1 == 0) = false := beq_eq_false_iff_ne.2 (by omega)
      go_wp2
      go_loopw [7] (fun x7 wr => ∃ (i x : Nat) (bs1 : List Nat) (G1 : Nat → Nd) (row1 : Nat → Value), x7 = .int .i64 (i : Int) ∧ i < m + 1 ∧ Hid (DropAt xa bs1 G1 T (cutM key L) (l.take (i + 1)) x) ∧ Hid (RadR wr base xa bs1 G1 T row1 ((L.length : Int) - 1)) ∧ Hid ((G1 xa).part = []) ∧ Hid (Upd (radF bs row) w wr) ∧ Hid (∀ k, radF bs1 row1 k → radF bs row k) ∧ Hid (NodesAt wr w.heap.size (.slice (some ⟨gw, 0, none⟩) (m + 1) cw) l)) (fun x7 _ => (intOf x7).toNat)
      case atStart => exact ⟨m, b, bs, _, row, by simp, by omega, Lib.hid (by rw [HLT.out]; exact DBH.out), MKH, PM, UW, Lib.hid (fun _ g => g), NM⟩
      case round =>
        obtain ⟨i, x, bs1, G1, row1, rfl, hi, D, R, P1, U, NB, NW⟩ := hrel
        cases i with
        | zero =>
          have D0 := Lib.hid (DropAt.done (by have := D.out; rw [LX.out 0 (by omega) rfl] at this; exact this))
          have FIN : Hid (TreeAt wr base xa (cutM key L) (radF bs1 row1)) := ⟨bs1, G1, T, row1, by rw [HCL.out]; exact R.out, D0.out, D.out.marks, P1.out, rfl⟩
          go_wp2
          go_ret
          exact ⟨by rw [GL.out]; rfl, U.out, _, FIN.out, NB.out⟩
        | succ j =>
          have hj1 : j + 1 < l.length := by omega
          have hj0 : j < l.length := by omega
          have TS : l.take (j + 1 + 1) = l.take (j + 1) ++ [l[j + 1]] := by rw [List.take_succ_eq_append_getElem hj1]
          have DW := D.out.way
          rw [TS] at DW
          obtain ⟨ex, ⟨e0, _⟩ | ⟨_, up, hwu, hxu⟩⟩ := DW.inv
          · have h1 : (l.take (j + 1)).length = 0 := by rw [e0]; rfl
            rw [List.length_take] at h1; omega
          have eup : l[j] = up := by
            have h1 : l.take (j + 1) = l.take j ++ [l[j]] := by rw [List.take_succ_eq_append_getElem hj0]
            rw [h1] at hwu
            exact hwu.inv.1
          obtain ⟨_, ⟨_, e0⟩ | ⟨g', cap', cs', ew, hg', hB', hc', hm'⟩⟩ := own_blk NW.out
          · omega
          have eg : gw = g' := by injection ew with e1 e2 e3; injection e1 with e1; injection e1
          subst eg
          have w0 : wr.cell? ⟨gw, j, none⟩ = some (.pointer (some ⟨up, 0, none⟩)) := hB'.cellAt (by rw [List.getElem?_append_left (by simpa using hj0), List.getElem?_map, List.getElem?_eq_getElem hj0, eup]; rfl)
          have w1' : wr.cell? ⟨gw, j + 1, none⟩ = some (.pointer (some ⟨x, 0, none⟩)) := hB'.cellAt (by rw [List.getElem?_append_left (by simpa using hj1), List.getElem?_map, List.getElem?_eq_getElem hj1, ex]; rfl)
          have UPM : up ∈ bs1 := hwu.mem D.out.flat
          have FAR : Hid (∀ k, (Value.slice (some ⟨gw, 0, none⟩) (m + 1) cw).ownBlock = some k → ¬ radF bs1 row1 k) := fun k hk e => by
            have h1 := (H.out.ge (NB.out k e)).2
            have h2 := HGW.out
            have h3 : gw = k := Option.some.inj hk
            omega
          have hgl := hB'.lt
          have CE : Hid (∀ w3, Upd (radF bs1 row1) wr w3 → w3.cell? ⟨gw, j, none⟩ = some (.pointer (some ⟨up, 0, none⟩)) ∧ w3.cell? ⟨gw, j + 1, none⟩ = some (.pointer (some ⟨x, 0, none⟩))) := fun w3 u3 => ⟨(u3.cell (p := ⟨gw, j, none⟩) hgl (FAR.out gw rfl)).trans w0, (u3.cell (p := ⟨gw, j + 1, none⟩) hgl (FAR.out gw rfl)).trans w1'⟩
          have ME := Lib.hid (fun v (u : Upd (fun _ => False) wr v) => mend_any (R.out.keep0 u) UPM hxu)
          have DD := Lib.hid (show DropAt xa bs1 G1 T (cutM key L) (l.take (j + 1) ++ [x]) x by have := D.out; rw [TS, ex] at this; exact this)
          have HWU := Lib.hid hwu
          have q1 : (0 : Int) < (j : Int) + 1 := by omega
          have qw0 : IntKind.i64.wrap (j : Int) = (j : Int) := IntWalk.i64_in _ (by omega)
          have qs : (j : Int) + 1 - 1 = (j : Int) := by omega
          have qb1 : (j : Int) < (m : Int) + 1 := by omega
          have qb2 : (j : Int) + 1 < (m : Int) + 1 := by omega
          have qj1 : j < m + 1 := by omega
          have qb3 : (0 : Int) ≤ (j : Int) + 1 := by omega
          have qtn : ((j : Int) + 1).toNat = j + 1 := by omega
          clear hB' ew TS DW hwu hj1 hj0 ex eup hxu
          go_wp2
          go_region_held3 (fun w' => w'.cell? ⟨gw, j, none⟩ = some (.pointer (some ⟨up, 0, none⟩)) ∧ w'.cell? ⟨gw, j + 1, none⟩ = some (.pointer (some ⟨x, 0, none⟩))) (go_keep) (first
            | (go_at_call 122; refine (ME.out _ (Upd.refl _ _).drew).mono ?_; rintro e w3 ⟨⟨v', rfl⟩, hu, hme⟩; (have HU3 := Lib.hid (((Upd.refl (radF bs1 row1) wr).drew).trans hu (fun _ _ h => h))); (have NW3 := Lib.hid (own_keep NW.out HU3.out (fun k hk => FAR.out k hk))); (have ME3 := Lib.hid hme); (obtain ⟨y0, y1⟩ := CE.out _ HU3.out); clear hu hme))
          obtain ⟨bs2, G2, row2, D2, R2, P2, N2⟩ : ∃ bs2 G2 row2, Hid (DropAt xa bs2 G2 T (cutM key L) (l.take (j + 1)) up) ∧ Hid (RadR w3 base xa bs2 G2 T row2 ((L.length : Int) - 1)) ∧ Hid ((G2 xa).part = []) ∧ Hid (∀ k, radF bs2 row2 k → radF bs row k) := by
            rcases ME3.out with ⟨hn, hr⟩ | ⟨htf, hkk, K1, K2, row', hk1, hr, hsub⟩ | ⟨htf, y, K1, K2, hkk, hk1, hr⟩
            · exact ⟨_, _, _, (DD.out.keep HWU.out hn).1, hr, P1, NB⟩
            · refine ⟨_, _, _, DD.out.less HWU.out hk1 htf hkk, hr, ?_, fun k hk => NB.out k (hsub k hk)⟩
              show (lessG G1 up (K1 ++ K2) xa).part = []
              unfold lessG; split
              · rename_i e; rw [← e]; exact P1.out
              · exact P1.out
            · refine ⟨_, _, _, DD.out.join HWU.out hk1 htf hkk, hr, ?_, fun k hk => NB.out k ?_⟩
              · show (joinG G1 up y ((G1 x).part ++ (G1 y).part) (K1 ++ y :: K2) xa).part = []
                have hyr : xa ≠ y := fun e => D.out.flat.not_root D.out.xm (show y ∈ (G1 x).kids by rw [hkk]; simp) e.symm
                unfold joinG; rw [if_neg hyr]; split
                · rename_i e; rw [← e]; exact P1.out
                · exact P1.out
              · have me : ∀ b ∈ bs1.erase x, b ∈ bs1 := fun b hb => (D.out.flat.nodup.mem_erase_iff.1 hb).2
                rcases hk with hk | ⟨b, hb, hk⟩
                · exact Or.inl (me k hk)
                · exact Or.inr ⟨b, me b hb, hk⟩
          have U3 : Hid (Upd (radF bs row) w w3) := U.out.trans HU3.out (fun k hk g => NB.out k g)
          go_wp2
          go_roundw
          case rel => exact ⟨j, up, bs2, G2, row2, by simp, by omega, D2, R2, P2, U3, N2, NW3⟩
          case measure => simp [intOf]
  · have R := NO (fun ⟨d, hd, e1, e2⟩ => hnn d hd e1)
    clear NO hnn
    go_wp2
    go_ret
    exact ⟨by rw [R.out.1]; rfl, U1.out.weaken (fun _ _ g => g.elim), _, R.out.2, fun _ g => g⟩
theorem radDrop_any (w : World) (base xa : Nat) (L : List MarkP) (E : Nat → Prop) (h : TreeAt w base xa L E) (hL : L.length ≤ 1000000) (key : Txt) (hk : key.length ≤ 9223372036854775807) :
    Calls Tryz.prog 92 #[.pointer (some ⟨xa, 0, none⟩), .string (ofL key)] w fun e w' => e = .returned (.bool (getL L key).2) ∧ Upd E w w' ∧ ∃ E', TreeAt w' base xa (cutM key L) E' ∧ ∀ k, E' k → E k := by
  obtain ⟨bs, G, T, row, h1, h2, h3, h4, rfl⟩ := h
  exact drop_raw h1 h3 h2 h4 hL key hk
end
end Go.Proofs.YtmlojbfcmebboaaGreat
/- Which clients are told of which beginnings, plain: the tree's marks, the rows, the clients' own. -/
set_option linter.unusedVariables false
set_option linter.unusedSimpArgs false
set_option linter.unusedSectionVars false
namespace Go.Proofs.YtmlojbfcmebboaaGreat
open Go.RowKit

/-- The tree's marks and the rows are as P says: who is told of which beginning. -/
structure RowsOk (P : Txt → Int → Prop) (N : Nat) (L : List MarkP) (ri : Int → Option (List Int)) (nx : Int) : Prop where
  rise : L.Pairwise fun a b => a.1 < b.1
  key : ∀ t id, P t id → ∃ n, (t, n) ∈ L
  row : ∀ t n, (t, n) ∈ L → ∃ l, ri n = some l ∧ Rising l ∧ l ≠ [] ∧ l.length ≤ N ∧ ∀ id, id ∈ l ↔ P t id
  inj : ∀ t t' n, (t, n) ∈ L → (t', n) ∈ L → t = t'
  rev : ∀ n l, ri n = some l → ∃ t, (t, n) ∈ L
  num : ∀ t n, (t, n) ∈ L → 0 ≤ n ∧ n < nx
  nx : 0 ≤ nx ∧ nx ≤ N
  len : L.length ≤ N
  long : ∀ t n, (t, n) ∈ L → t.length ≤ 9223372036854775807
/-- The clients' own beginnings are as P says. -/
structure OfOk (P : Txt → Int → Prop) (N : Nat) (qi : Int → Option (List Txt)) : Prop where
  of : ∀ id l, qi id = some l → Rising l ∧ l.length ≤ N ∧ ∀ t, t ∈ l ↔ P t id
  no : ∀ id, qi id = none → ∀ t, ¬ P t id
section
variable {P Q : Txt → Int → Prop} {N : Nat} {L : List MarkP} {ri : Int → Option (List Int)} {nx : Int} {qi : Int → Option (List Txt)}
theorem RowsOk.congr (h : RowsOk P N L ri nx) (e : ∀ t id, P t id ↔ Q t id) : RowsOk Q N L ri nx := by
  have : P = Q := funext fun t => funext fun id => propext (e t id)
  subst this; exact h
theorem OfOk.congr (h : OfOk P N qi) (e : ∀ t id, P t id ↔ Q t id) : OfOk Q N qi := by
  have : P = Q := funext fun t => funext fun id => propext (e t id)
  subst this; exact h
theorem RowsOk.more (h : RowsOk P N L ri nx) {M : Nat} (hm : N ≤ M) : RowsOk P M L ri nx :=
  { h with row := fun t n hl => by obtain ⟨l, a, b, c, d, e⟩ := h.row t n hl; exact ⟨l, a, b, c, Nat.le_trans d hm, e⟩
           nx := ⟨h.nx.1, by have := h.nx.2; omega⟩, len := Nat.le_trans h.len hm }
theorem OfOk.more (h : OfOk P N qi) {M : Nat} (hm : N ≤ M) : OfOk P M qi :=
  { h with of := fun id l hl => by obtain ⟨a, b, c⟩ := h.of id l hl; exact ⟨a, Nat.le_trans b hm, c⟩ }
theorem OfOk.at_ (h : OfOk P N qi) (id : Int) : Rising ((qi id).getD []) ∧ ((qi id).getD []).length ≤ N ∧ ∀ t, t ∈ (qi id).getD [] ↔ P t id := by
  cases e : qi id with
  | none => exact ⟨List.Pairwise.nil, Nat.zero_le _, fun t => ⟨fun h => by simp at h, fun hp => absurd hp (h.no id e t)⟩⟩
  | some l => exact h.of id l e
theorem RowsOk.there (h : RowsOk P N L ri nx) {t : Txt} (ht : (getL L t).2 = true) : (t, (getL L t).1) ∈ L := by
  obtain ⟨n, hn⟩ := (getL_iff h.rise t).1 ht
  rw [getL_some h.rise hn]; exact hn
/-- A beginning that nobody was told of. -/
theorem RowsOk.fresh (h : RowsOk P N L ri nx) {s : Txt} {id : Int} (hs : ¬ (getL L s).2 = true) (hl : s.length ≤ 9223372036854775807) :
    RowsOk (fun t i => P t i ∨ t = s ∧ i = id) (N + 1) (putM s nx L) (upd ri nx (some [id])) (nx + 1) := by
  have hno : ∀ n, (s, n) ∉ L := fun n hn => hs ((getL_iff h.rise s).2 ⟨n, hn⟩)
  have hP : ∀ i, ¬ P s i := fun i hp => by obtain ⟨n, hn⟩ := h.key s i hp; exact hno n hn
  have hlen := putM_len h.rise s nx
  rw [if_neg hs] at hlen
  refine ⟨putM_rise h.rise, fun t i hp => ?_, fun t n hn => ?_, fun t t' n hn hn' => ?_, fun n l hr => ?_, fun t n hn => ?_, ⟨by have := h.nx.1; omega, by have := h.nx.2; omega⟩, by have := h.len; omega, fun t n hn => ?_⟩
  · rcases hp with hp | ⟨rfl, rfl⟩
    · obtain ⟨n, hn⟩ := h.key t i hp
      exact ⟨n, putM_mem.2 (Or.inr ⟨hn, fun e => by simp at e; rw [e] at hn; exact hno n hn⟩)⟩
    · exact ⟨nx, putM_mem.2 (Or.inl rfl)⟩
  · rcases putM_mem.1 hn with e | ⟨hn, hne⟩
    · injection e with e1 e2; subst e1 e2
      refine ⟨[id], upd_at _ _ _, List.pairwise_singleton _ _, by simp, by simp, fun i => ?_⟩
      simp only [List.mem_singleton, true_and]
      exact ⟨fun e => Or.inr e, fun e => e.elim (fun hp => absurd hp (hP i)) (fun e => e)⟩
    · obtain ⟨l, a, b, c, d, e⟩ := h.row t n hn
      refine ⟨l, by rw [upd_ne _ _ (fun e => by have := (h.num t n hn).2; omega)]; exact a, b, c, by omega, fun i => ?_⟩
      rw [e]; exact ⟨Or.inl, fun g => g.elim (fun g => g) (fun g => absurd g.1 hne)⟩
  · rcases putM_mem.1 hn with e | ⟨hn, hne⟩ <;> rcases putM_mem.1 hn' with e' | ⟨hn', hne'⟩
    · injection e with e1 e2; injection e' with e1' e2'; rw [e1, e1']
    · injection e with e1 e2; have := (h.num t' n hn').2; omega
    · injection e' with e1 e2; have := (h.num t n hn).2; omega
    · exact h.inj t t' n hn hn'
  · by_cases e : n = nx
    · subst e; exact ⟨s, putM_mem.2 (Or.inl rfl)⟩
    · rw [upd_ne _ _ e] at hr
      obtain ⟨t, ht⟩ := h.rev n l hr
      exact ⟨t, putM_mem.2 (Or.inr ⟨ht, fun e => by simp at e; rw [e] at ht; exact hno n ht⟩)⟩
  · rcases putM_mem.1 hn with e | ⟨hn, hne⟩
    · injection e with e1 e2; have := h.nx.1; omega
    · have := h.num t n hn; omega
  · rcases putM_mem.1 hn with e | ⟨hn, hne⟩
    · injection e with e1 e2; rw [e1]; exact hl
    · exact h.long t n hn
/-- A beginning that somebody was told of: one more. -/
theorem RowsOk.also (h : RowsOk P N L ri nx) {s : Txt} {id n : Int} {l : List Int} (hn : (s, n) ∈ L) (hl : ri n = some l) :
    RowsOk (fun t i => P t i ∨ t = s ∧ i = id) (N + 1) L (upd ri n (some (wth l id))) nx := by
  obtain ⟨l', a, b, c, d, e⟩ := h.row s n hn
  rw [hl] at a; injection a with a; subst a
  refine ⟨h.rise, fun t i hp => ?_, fun t m hm => ?_, h.inj, fun m l' hr => ?_, h.num, ⟨h.nx.1, by have := h.nx.2; omega⟩, by have := h.len; omega, h.long⟩
  · rcases hp with hp | ⟨rfl, rfl⟩
    · exact h.key t i hp
    · exact ⟨n, hn⟩
  · by_cases em : m = n
    · subst em
      obtain rfl : t = s := h.inj t s m hm hn
      refine ⟨_, upd_at _ _ _, wth_rising b id, fun e0 => ?_, by have := wth_len l id; omega, fun i => ?_⟩
      · have : id ∈ wth l id := wth_mem.2 (Or.inl rfl)
        rw [e0] at this; simp at this
      · rw [wth_mem, e]; simp only [true_and]; exact Or.comm
    · obtain ⟨l2, a, b2, c2, d2, e2⟩ := h.row t m hm
      refine ⟨l2, by rw [upd_ne _ _ em]; exact a, b2, c2, by omega, fun i => ?_⟩
      rw [e2]; exact ⟨Or.inl, fun g => g.elim (fun g => g) (fun g => by
        exfalso; obtain ⟨rfl, _⟩ := g
        have := rise_key h.rise hm hn rfl
        injection this with _ this; exact em this)⟩
  · by_cases e : m = n
    · subst e; exact ⟨s, hn⟩
    · rw [upd_ne _ _ e] at hr; exact h.rev m l' hr
theorem OfOk.also (h : OfOk P N qi) (s : Txt) (id : Int) : OfOk (fun t i => P t i ∨ t = s ∧ i = id) (N + 1) (upd qi id (some (wth ((qi id).getD []) s))) := by
  obtain ⟨a, b, c⟩ := h.at_ id
  refine ⟨fun i l hi => ?_, fun i hi t => ?_⟩
  · by_cases e : i = id
    · subst e
      rw [upd_at] at hi; injection hi with hi; subst hi
      refine ⟨wth_rising a s, by have := wth_len ((qi i).getD []) s; omega, fun t => ?_⟩
      rw [wth_mem, c]; simp only [and_true]; exact Or.comm
    · rw [upd_ne _ _ e] at hi
      obtain ⟨a2, b2, c2⟩ := h.of i l hi
      exact ⟨a2, by omega, fun t => by rw [c2]; exact ⟨Or.inl, fun g => g.elim (fun g => g) (fun g => absurd g.2 e)⟩⟩
  · by_cases e : i = id
    · subst e; rw [upd_at] at hi; cases hi
    · rw [upd_ne _ _ e] at hi
      rintro (g | g)
      · exact h.no i hi t g
      · exact e g.2
/-- A client is told of one beginning no more: others are. -/
theorem RowsOk.less (h : RowsOk P N L ri nx) {s : Txt} {id n : Int} {l : List Int} (hn : (s, n) ∈ L) (hl : ri n = some l) (hne : l.filter (· ≠ id) ≠ []) :
    RowsOk (fun t i => P t i ∧ ¬ (t = s ∧ i = id)) N L (upd ri n (some (l.filter (· ≠ id)))) nx := by
  obtain ⟨l', a, b, c, d, e⟩ := h.row s n hn
  rw [hl] at a; injection a with a; subst a
  refine ⟨h.rise, fun t i hp => h.key t i hp.1, fun t m hm => ?_, h.inj, fun m l' hr => ?_, h.num, h.nx, h.len, h.long⟩
  · by_cases em : m = n
    · subst em
      obtain rfl : t = s := h.inj t s m hm hn
      refine ⟨_, upd_at _ _ _, b.filter _, hne, Nat.le_trans (List.length_filter_le _ _) d, fun i => ?_⟩
      rw [List.mem_filter, e]; simp
    · obtain ⟨l2, a, b2, c2, d2, e2⟩ := h.row t m hm
      refine ⟨l2, by rw [upd_ne _ _ em]; exact a, b2, c2, d2, fun i => ?_⟩
      rw [e2]; exact ⟨fun g => ⟨g, fun g => by
        obtain ⟨rfl, _⟩ := g
        have := rise_key h.rise hm hn rfl
        injection this with _ this; exact em this⟩, fun g => g.1⟩
  · by_cases e : m = n
    · subst e; exact ⟨s, hn⟩
    · rw [upd_ne _ _ e] at hr; exact h.rev m l' hr
/-- It was the last one. -/
theorem RowsOk.last (h : RowsOk P N L ri nx) {s : Txt} {id n : Int} {l : List Int} (hn : (s, n) ∈ L) (hl : ri n = some l) (hne : l.filter (· ≠ id) = []) :
    RowsOk (fun t i => P t i ∧ ¬ (t = s ∧ i = id)) N (cutM s L) (upd (upd ri n (some (l.filter (· ≠ id)))) n none) nx := by
  obtain ⟨l', a, b, c, d, e⟩ := h.row s n hn
  rw [hl] at a; injection a with a; subst a
  have hid : ∀ i, P s i → i = id := fun i hp => Decidable.not_not.1 fun hi => by
    have : i ∈ l.filter (· ≠ id) := List.mem_filter.2 ⟨(e i).2 hp, by simpa using hi⟩
    rw [hne] at this; simp at this
  have hnn : ∀ t m, (t, m) ∈ L → t ≠ s → m ≠ n := fun t m hm ht em => ht (h.inj t s n (em ▸ hm) hn)
  refine ⟨h.rise.filter _, fun t i hp => ?_, fun t m hm => ?_, fun t t' m hm hm' => h.inj t t' m (cutM_mem.1 hm).1 (cutM_mem.1 hm').1, fun m l' hr => ?_, fun t m hm => h.num t m (cutM_mem.1 hm).1, h.nx, Nat.le_trans (List.length_filter_le _ _) h.len, fun t m hm => h.long t m (cutM_mem.1 hm).1⟩
  · obtain ⟨m, hm⟩ := h.key t i hp.1
    exact ⟨m, cutM_mem.2 ⟨hm, fun et => by simp only at et; subst et; exact hp.2 ⟨rfl, hid i hp.1⟩⟩⟩
  · obtain ⟨hm, hts⟩ := cutM_mem.1 hm
    obtain ⟨l2, a, b2, c2, d2, e2⟩ := h.row t m hm
    have em := hnn t m hm hts
    refine ⟨l2, by rw [upd_ne _ _ em, upd_ne _ _ em]; exact a, b2, c2, d2, fun i => ?_⟩
    rw [e2]; exact ⟨fun g => ⟨g, fun g => hts g.1⟩, fun g => g.1⟩
  · by_cases emn : m = n
    · subst emn; rw [upd_at] at hr; cases hr
    · rw [upd_ne _ _ emn, upd_ne _ _ emn] at hr
      obtain ⟨t, ht⟩ := h.rev m l' hr
      exact ⟨t, cutM_mem.2 ⟨ht, fun et => by
        simp only at et; subst et
        have := rise_key h.rise ht hn rfl
        injection this with _ this; exact emn this⟩⟩
theorem OfOk.gone (h : OfOk P N qi) (id : Int) : OfOk (fun t i => P t i ∧ i ≠ id) N (upd qi id none) := by
  refine ⟨fun i l hi => ?_, fun i hi t g => ?_⟩
  · by_cases e : i = id
    · subst e; rw [upd_at] at hi; cases hi
    · rw [upd_ne _ _ e] at hi
      obtain ⟨a2, b2, c2⟩ := h.of i l hi
      exact ⟨a2, b2, fun t => by rw [c2]; exact ⟨fun g => ⟨g, e⟩, fun g => g.1⟩⟩
  · by_cases e : i = id
    · exact g.2 e
    · rw [upd_ne _ _ e] at hi; exact h.no i hi t g.1
end
end Go.Proofs.YtmlojbfcmebboaaGreat
/- Texts, their rows, and marks: what all chapters over the radix tree need. -/
set_option linter.unusedVariables false
set_option linter.unusedSimpArgs false
namespace Go.Proofs.YtmlojbfcmebboaaGreat
open Go.RowKit

/-- The cells of a mark in a row. -/
theorem mark_cells {w : World} {base : Nat} {p : Option Addr} {c : Nat} {M : List MarkP} (h : MarksAt w base (.slice p M.length c) M) {j : Nat} (hj : j < M.length) :
    ∃ g, p = some ⟨g, 0, none⟩ ∧ g < w.heap.size ∧ w.cell? ⟨g, j * 2, none⟩ = some (.string (ofL (M[j]).1)) ∧ w.cell? ⟨g, j * 2 + 1, none⟩ = some (.int .i64 (M[j]).2) := by
  obtain ⟨_, ⟨_, e0⟩ | ⟨g, cap, cs, ev, hg, hB, hc, hm, hle⟩⟩ := own2_blk h
  · omega
  have fl : ∀ q, q < 2 → (flat mkc M ++ cs)[j * 2 + q]? = (mkc (M[j]))[q]? := fun q hq => by
    rw [List.getElem?_append_left (by rw [flat_length mkc 2 (fun _ => rfl)]; omega), flat_get mkc 2 (fun _ => rfl) M j q hq, List.getElem?_eq_getElem hj]; rfl
  refine ⟨g, by injection ev, hB.lt, hB.cellAt ?_, hB.cellAt ?_⟩
  · have := fl 0 (by omega); rw [Nat.add_zero] at this; exact this
  · exact fl 1 (by omega)
theorem TreeAt.rise {w : World} {base xa : Nat} {L : List MarkP} {E : Nat → Prop} (h : TreeAt w base xa L E) : L.Pairwise fun a b => a.1 < b.1 := by
  obtain ⟨bs, G, T, row, h1, h2, h3, h4, rfl⟩ := h
  exact h3.rise
end Go.Proofs.YtmlojbfcmebboaaGreat
