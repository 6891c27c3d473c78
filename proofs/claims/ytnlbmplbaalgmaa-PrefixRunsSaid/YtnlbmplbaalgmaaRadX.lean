/- Keys that share their beginnings: mend, Drop. -/
import Derived.Test.YtnlbmplbaalgmaaDelP
import Derived.Test.YtnlbmplbaalgmaaRadO
set_option linter.unusedVariables false
set_option linter.unusedSimpArgs false
namespace Go.Proofs.Ytnlbmplbaalgmaa
open Go.RowKit
section
variable {w w' : World} {base xa : Nat} {bs : List Nat} {G : Nat → Nd} {T : Nat → Txt} {row : Nat → Value} {many : Int} {L : List MarkP}
/-- What a mending has done. -/
def Mended (w' : World) (base xa : Nat) (bs : List Nat) (G : Nat → Nd) (T : Nat → Txt) (row : Nat → Value) (many : Int) (up x : Nat) : Prop :=
  (needN G x ∧ RadR w' base xa bs G T row many) ∨
  ((G x).there = false ∧ (G x).kids = [] ∧ ∃ K1 K2 row', (G up).kids = K1 ++ x :: K2 ∧ RadR w' base xa (bs.erase x) (lessG G up (K1 ++ K2)) T row' many ∧ (∀ k, radF (bs.erase x) row' k → radF bs row k)) ∨
  ((G x).there = false ∧ ∃ y K1 K2, (G x).kids = [y] ∧ (G up).kids = K1 ++ x :: K2 ∧ RadR w' base xa (bs.erase x) (joinG G up y ((G x).part ++ (G y).part) (K1 ++ y :: K2)) T row many)
set_option maxHeartbeats 8000000 in
set_option maxRecDepth 100000 in
theorem mend_any (h : RadR w base xa bs G T row many) {up x : Nat} (hup : up ∈ bs) (hx : x ∈ (G up).kids) :
    Calls Try.prog 48 #[.pointer (some ⟨up, 0, none⟩), .pointer (some ⟨x, 0, none⟩)] w fun e w' => (∃ v, e = .returned v) ∧ Upd (radF bs row) w w' ∧ Mended w' base xa bs G T row many up x := by
  obtain ⟨xm, xn, etx⟩ := h.flat.kid up hup x hx
  have ux : up ≠ x := by rintro rfl; exact absurd (h.flat.kid_len hup hx) (Nat.lt_irrefl _)
  have xr := h.flat.not_root hup hx
  obtain ⟨c, r1, hc⟩ : ∃ c r1, (G x).part = c :: r1 := by
    cases hp : (G x).part with
    | nil => exact absurd hp xn
    | cons c r1 => exact ⟨c, r1, rfl⟩
  have hdx : hdN G x = c := by unfold hdN; rw [hc]; rfl
  have cx := h.c0 xm
  obtain ⟨sx, hsx⟩ : ∃ sx, sx = ofL (G x).part := ⟨_, rfl⟩
  rw [← hsx] at cx
  have rx : ∀ w, (Instr.index 9 (.string sx) (.int .i64 0)).run Try.prog w = .ok (.int .u8 (c.toNat : Int)) w := by rw [hsx, hc]; exact run_at (c :: r1) 0 c rfl
  have PL := Lib.hid (place_any h hup c)
  have H := Lib.hid h
  have UP := Lib.hid hup
  have XM := Lib.hid xm
  have XK := Lib.hid hx
  have ESX := Lib.hid hsx
  have HDX := Lib.hid hdx
  clear h hup hx xm etx hc hsx xn hdx
  go_enter Try.func48, Try.ntmps48
  go_wp2_with fail
  refine (PL.out).mono ?_
  rintro e w1 ⟨i, f, rfl, hp, u⟩
  cases f with
  | false => exact absurd HDX.out (hp.none x XK.out)
  | true =>
    obtain ⟨x', hx', hcx', K1, K2, ekk, eki⟩ := hp.some
    have exx : x' = x := pairwise_head (H.out.flat.sorted up UP.out) (by rw [ekk]; simp) XK.out (hcx'.trans HDX.out.symm)
    subst exx
    have H1 := Lib.hid (H.out.keep0 u)
    have U1 := Lib.hid u
    have EKK := Lib.hid (And.intro ekk eki)
    have c1 := H1.out.c1 XM.out
    have c3 := H1.out.c3 XM.out
    obtain ⟨px, kx, erow, hlx⟩ := own_slice (H1.out.own x' XM.out)
    have KF := H1.out.flat.kids_few XM.out
    rw [erow] at c3
    clear u hp hx' hcx' ekk eki PL cx rx
    cases ht : (G x').there with
    | true =>
      rw [ht] at c1
      have NN : Hid (needN G x') := Or.inl ht
      go_wp2
      go_end0
      exact ⟨⟨_, rfl⟩, U1.out.weaken (fun _ _ g => g.elim), Or.inl ⟨NN.out, H1.out⟩⟩
    | false =>
      rw [ht] at c1
      by_cases h2 : 1 < (G x').kids.length
      · have NN : Hid (needN G x') := Or.inr h2
        have q1 : (1 : Int) < ((G x').kids.length : Int) := by omega
        generalize (G x').kids.length = nx at *
        go_wp2
        go_end0
        exact ⟨⟨_, rfl⟩, U1.out.weaken (fun _ _ g => g.elim), Or.inl ⟨NN.out, H1.out⟩⟩
      · have q1 : ¬ (1 : Int) < ((G x').kids.length : Int) := by omega
        by_cases h0 : (G x').kids = []
        · have hz : (G x').kids.length = 0 := by rw [h0]; rfl
          have XU := H1.out.node UP.out
          have cu := H1.out.c3 UP.out
          obtain ⟨pu, ku, erow2, hlu⟩ := own_slice (H1.out.own up UP.out)
          have OW : NodesAt w1 base (row up) (K1 ++ x' :: K2) := by rw [← EKK.out.1]; exact H1.out.own up UP.out
          have DE := delP_any w1 base (row up) K1 K2 x' OW
          have KFU := H1.out.flat.kids_few UP.out
          rw [EKK.out.1, List.length_append, List.length_cons] at KFU
          have K1L : K1.length = i := EKK.out.2
          have fu := XU.free 3
          rw [erow2] at cu DE
          rw [K1L] at DE
          have DE := Lib.hid DE
          have HT := Lib.hid ht
          have H0 := Lib.hid h0
          have qw : IntKind.i64.wrap ((i : Int) + 1) = (i : Int) + 1 := IntWalk.i64_in _ (by omega)
          generalize (G x').kids.length = nx at *
          subst hz
          clear OW h0 ht
          go_wp2_with fail
          refine (DE.out).mono ?_
          rintro e w3 ⟨v', rfl, hN, hu, hnew⟩
          have X3 := hu.blk XU (fun g => H1.out.row_ne UP.out UP.out (by rw [erow2]; exact g) rfl)
          have f3 := X3.free 3
          have d3 := X3.cellAt (i := 3) (v := row up) rfl
          have X4 := X3.set 3 v'
          have N4 : NodesAt (w3.setCell ⟨up, 3, none⟩ v') base v' (K1 ++ K2) := own_keep hN ((Upd.refl (fun k => k = up) w3).set (fun _ => rfl)) (fun k hk => NodesAt.ne_node hN X3 hk)
          have UU : Upd (fun k => k = up ∨ (row up).ownBlock = some k) w1 (w3.setCell ⟨up, 3, none⟩ v') := (hu.weaken (F := fun k => k = up ∨ (row up).ownBlock = some k) (fun _ _ g => Or.inr (by rw [erow2]; exact g))).set (fun _ => Or.inl rfl)
          have H4 := Lib.hid (H1.out.less (H1.out.flat.less UP.out EKK.out.1 H0.out) UP.out ux UU X4 N4 (fun k hk => Or.inl (by rw [erow2]; exact hnew k hk)))
          have U4 : Hid (Upd (radF bs row) w (w3.setCell ⟨up, 3, none⟩ v')) := (U1.out.weaken (F := radF bs row) (fun _ _ g => g.elim)).trans UU (fun k hk g => g.elim (fun e => Or.inl (by rw [e]; exact UP.out)) (fun e => Or.inr ⟨up, UP.out, e⟩))
          have NB : Hid (∀ k, radF (bs.erase x') (fun b => if b = up then v' else row b) k → radF bs row k) := fun k hk => by
            have me : ∀ b ∈ bs.erase x', b ∈ bs := fun b hb => (H1.out.flat.nodup.mem_erase_iff.1 hb).2
            rcases hk with hk | ⟨b, hb, hk⟩
            · exact Or.inl (me k hk)
            · dsimp only at hk
              by_cases e : b = up
              · rw [if_pos e] at hk
                exact Or.inr ⟨up, UP.out, by rw [erow2]; exact hnew k hk⟩
              · rw [if_neg e] at hk; exact Or.inr ⟨b, me b hb, hk⟩
          obtain ⟨p3, k3, e3, _⟩ := own_slice hN
          clear XU X3 X4 N4 UU hN hu hnew
          subst e3
          generalize (K1 ++ K2).length = n12 at *
          go_wp2
          go_end0
          exact ⟨⟨_, rfl⟩, U4.out, Or.inr (Or.inl ⟨HT.out, H0.out, K1, K2, _, EKK.out.1, H4.out, NB.out⟩)⟩
        · obtain ⟨y, hy⟩ : ∃ y, (G x').kids = [y] := by
            cases hk : (G x').kids with
            | nil => exact absurd hk h0
            | cons a l =>
              cases l with
              | nil => exact ⟨a, rfl⟩
              | cons b l => rw [hk] at h2; simp at h2
          have hyk : y ∈ (G x').kids := by rw [hy]; simp
          obtain ⟨ym, yn, ety⟩ := H1.out.flat.kid x' XM.out y hyk
          have etx := (H1.out.flat.kid up UP.out x' XK.out).2.2
          have l1 := H1.out.flat.kid_len UP.out XK.out
          have l2 := H1.out.flat.kid_len XM.out hyk
          have yu : y ≠ up := by rintro rfl; omega
          have yx : y ≠ x' := by rintro rfl; omega
          have yr := H1.out.flat.not_root XM.out hyk
          have hl1 : (G x').kids.length = 1 := by rw [hy]; rfl
          obtain ⟨gx, cx, erx, cgx, hgxl, _, _⟩ := H1.out.kidAt XM.out (i := 0) (y := y) (by rw [hy]; rfl)
          rw [erow] at erx
          obtain ⟨rfl, rfl⟩ : px = some ⟨gx, 0, none⟩ ∧ kx = cx := by injection erx with e1 e2 e3; exact ⟨e1, e3⟩
          have YN := H1.out.at_ y ym yr
          have XN := H1.out.node XM.out
          have XU := H1.out.node UP.out
          have OW : NodesAt w1 base (row up) (G up).kids := H1.out.own up UP.out
          obtain ⟨_, ⟨_, e0⟩ | ⟨g, cap, cs, erow2, hg, hB, hcap, hmx⟩⟩ := own_blk OW
          · rw [EKK.out.1] at e0; simp at e0
          have hgown : (row up).ownBlock = some g := by rw [erow2]; rfl
          have gy : g ≠ y := H1.out.row_ne ym UP.out hgown
          have hylt := H1.out.lt ym
          have hglt := hB.lt
          have p0 := H1.out.c0 XM.out
          have p1 := H1.out.c0 ym
          have ESY := ofL_append (G x').part (G y).part
          have zx := ofL_size (G x').part
          have zy := ofL_size (G y).part
          have SM := H1.out.small y ym
          rw [ety, etx, List.length_append, List.length_append] at SM
          rw [← ESX.out] at p0 ESY zx
          obtain ⟨sy, hsy⟩ : ∃ sy, sy = ofL (G y).part := ⟨_, rfl⟩
          rw [← hsy] at p1 ESY zy
          have sv := fun w : World => run_string_add_sum (P := Try.prog) w sx sy (by rw [zx, zy]; unfold maxLen at SM; omega)
          rw [ESY] at sv
          obtain ⟨s3, hs3⟩ : ∃ s3, s3 = ofL ((G x').part ++ (G y).part) := ⟨_, rfl⟩
          rw [← hs3] at sv
          have fy := YN.free 0
          have YB := YN.set 0 (.string s3)
          have XB := XU.set_other (b' := y) (o := 0) (v := .string s3) (Ne.symm yu)
          have GB := hB.set_other (b' := y) (o := 0) (v := .string s3) gy
          have UB := (Upd.refl (fun k => k = y ∨ (row up).ownBlock = some k) w1).set (b := y) (o := 0) (v := .string s3) (fun _ => Or.inl rfl)
          have cu3 := H1.out.c3 UP.out
          have b3 := XB.cellAt (i := 3) (v := row up) rfl
          rw [erow2] at b3 cu3
          have hik : i < (G up).kids.length := by rw [EKK.out.1, ← EKK.out.2]; simp
          have cg := hB.cellAt (i := i) (v := .pointer (some ⟨x', 0, none⟩)) (by rw [List.getElem?_append_left (by simpa using hik), List.getElem?_map, EKK.out.1, ← EKK.out.2]; simp [ptr])
          have bg := GB.cellAt (i := i) (v := .pointer (some ⟨x', 0, none⟩)) (by rw [List.getElem?_append_left (by simpa using hik), List.getElem?_map, EKK.out.1, ← EKK.out.2]; simp [ptr])
          have fg := hB.free i
          have bf := GB.free i
          have YC := YB.set_other (b' := g) (o := i) (v := .pointer (some ⟨y, 0, none⟩)) (Ne.symm gy)
          have GC := GB.set i (.pointer (some ⟨y, 0, none⟩))
          have UC := UB.set (b := g) (o := i) (v := .pointer (some ⟨y, 0, none⟩)) (fun _ => Or.inr hgown)
          have eY : (ndc (G y) (row y)).set 0 (.string s3) = ndc { G y with part := (G x').part ++ (G y).part } (row y) := by rw [hs3]; rfl
          have KFU := H1.out.flat.kids_few UP.out
          have H4 := Lib.hid (H1.out.join (H1.out.flat.join UP.out EKK.out.1 hy) UP.out ym yu yr UC (by rw [← eY]; exact YC) (by
            have e : ((G up).kids.map ptr ++ cs).set i (.pointer (some ⟨y, 0, none⟩)) = (K1 ++ y :: K2).map ptr ++ cs := by rw [EKK.out.1, ← EKK.out.2]; simp [ptr]
            rw [e] at GC
            have el : (G up).kids.length = (K1 ++ y :: K2).length := by rw [EKK.out.1]; simp
            unfold NodesAt
            rw [erow2, el]
            exact own_of hg GC (by simp) (by rw [← el]; exact hcap) hmx))
          have U4 := Lib.hid ((U1.out.weaken (F := radF bs row) (fun _ _ g => g.elim)).trans UC (fun k hk g => g.elim (fun e => Or.inl (by rw [e]; exact ym)) (fun e => Or.inr ⟨up, UP.out, e⟩)))
          have HT := Lib.hid ht
          have HYY := Lib.hid hy
          have qi : (i : Int) < ((G up).kids.length : Int) := by omega
          rw [hl1] at c3 hlx
          clear h0 ht hy hyk YN XN XU OW hB YB XB GB UB YC GC UC eY hs3 ESY SM hsy erx ety etx hl1 hcap hgown h2 q1
          generalize (G up).kids.length = nu at *
          go_wp2
          go_region_with (fail)
          all_goals
            go_wp2
            go_end0
            exact ⟨⟨_, rfl⟩, U4.out.drew, Or.inr (Or.inr ⟨HT.out, y, K1, K2, HYY.out, EKK.out.1, H4.out.keep0 (Upd.refl _ _).drew⟩)⟩
end
end Go.Proofs.Ytnlbmplbaalgmaa
