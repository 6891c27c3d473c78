/- Keys that share their beginnings: those with which a key begins. -/
import Derived.Test.YtnlbmplbaalgmaaRadE
import Derived.Deep.AppendLies
import Derived.Deep.DeepCutAuto
import Derived.Deep.CutBlock
set_option linter.unusedVariables false
set_option linter.unusedSimpArgs false
namespace Go.Proofs.Ytnlbmplbaalgmaa
open Go.RowKit

def ltM (a b : MarkP) : Prop := a.1 < b.1
def aboveL (L : List MarkP) (t : Txt) : List MarkP := L.filter fun m => decide (m.1 <+: t)
def overL (L : List MarkP) (t : Txt) : List MarkP := L.filter fun m => decide (m.1 <+: t ∧ m.1 ≠ t)
theorem marks_ext {l1 l2 : List MarkP} (h1 : l1.Pairwise ltM) (h2 : l2.Pairwise ltM) (h : ∀ x, x ∈ l1 ↔ x ∈ l2) : l1 = l2 :=
  sorted_ext (R := ltM) (fun a => List.lt_irrefl _) (fun a b k1 k2 => List.lt_irrefl _ (List.lt_trans k1 k2)) h1 h2 h
section
variable {r : Nat} {bs : List Nat} {G : Nat → Nd} {T : Nat → Txt} {L : List MarkP}
theorem Marks.at_ (hm : Marks bs G T L) (h : Flat r bs G T) {b : Nat} (hb : b ∈ bs) : aboveL L (T b) = overL L (T b) ++ if (G b).there then [(T b, (G b).n)] else [] := by
  refine marks_ext (hm.rise.filter _) ?_ fun m => ?_
  · rw [List.pairwise_append]
    refine ⟨hm.rise.filter _, by split <;> simp, fun x hx y hy => ?_⟩
    unfold overL at hx
    rw [List.mem_filter, decide_eq_true_eq] at hx
    split at hy
    · simp at hy; subst hy; exact lt_of_pre hx.2.1 hx.2.2
    · cases hy
  · unfold aboveL overL
    rw [List.mem_append, List.mem_filter, List.mem_filter, decide_eq_true_eq, decide_eq_true_eq]
    constructor
    · rintro ⟨h1, h2⟩
      by_cases e : m.1 = T b
      · obtain ⟨c, hc, ec, tc, nc⟩ := (hm.mem m.1 m.2).1 h1
        have := h.inj hc hb (ec.trans e)
        subst this
        right; rw [if_pos tc, List.mem_singleton]
        exact Prod.ext e nc.symm
      · exact Or.inl ⟨h1, h2, e⟩
    · rintro (⟨h1, h2, _⟩ | h1)
      · exact ⟨h1, h2⟩
      · split at h1
        · rename_i ht
          simp at h1; subst h1
          exact ⟨(hm.mem _ _).2 ⟨b, hb, rfl, ht, rfl⟩, List.prefix_refl _⟩
        · cases h1
theorem Marks.next (hm : Marks bs G T L) (h : Flat r bs G T) {b c : Nat} (hb : b ∈ bs) (hc : c ∈ (G b).kids) : overL L (T c) = aboveL L (T b) := by
  unfold aboveL overL
  refine List.filter_congr fun m hmm => ?_
  obtain ⟨d, hd, ed, _⟩ := (hm.mem m.1 m.2).1 hmm
  rw [← ed]
  have hcm := (h.kid b hb c hc).1
  refine decide_eq_decide.2 ⟨?_, fun p => ⟨List.IsPrefix.trans p (h.kid_pre hb hc), fun e => ?_⟩⟩
  · rintro ⟨p, ne⟩
    have u := h.pre_under hd hcm p
    cases u with
    | refl => exact absurd rfl ne
    | step u1 hk =>
      have := h.parent_eq (h.under_mem hd u1) hb hk hc
      subst this
      exact h.under_pre hd u1
  · have := h.kid_len hb hc
    have := p.length_le
    rw [e] at this; omega
theorem Marks.end_ (hm : Marks bs G T L) (h : Flat r bs G T) {b : Nat} {key rest : Txt} (hb : b ∈ bs) (e : T b ++ rest = key) (hn : ∀ x ∈ (G b).kids, ¬ (G x).part <+: rest) : aboveL L key = aboveL L (T b) := by
  unfold aboveL
  refine List.filter_congr fun m hmm => ?_
  obtain ⟨d, hd, ed, _⟩ := (hm.mem m.1 m.2).1 hmm
  rw [← ed]
  have pb : T b <+: key := ⟨rest, e⟩
  refine decide_eq_decide.2 ⟨fun p => ?_, fun p => List.IsPrefix.trans p pb⟩
  rcases Nat.le_total (T d).length (T b).length with g | g
  · exact List.prefix_of_prefix_length_le p pb g
  · obtain ⟨t, ht⟩ := List.prefix_of_prefix_length_le pb p g
    by_cases h0 : t = []
    · rw [h0, List.append_nil] at ht; rw [ht]; exact List.prefix_refl _
    · obtain ⟨x, hx, px, px2⟩ := h.down hb hd ht.symm h0
      refine absurd ?_ (hn x hx)
      have := List.IsPrefix.trans px2 p
      rw [(h.kid b hb x hx).2.2, ← e, List.prefix_append_right_inj] at this
      exact this
end
/-- A mark's cells. -/
def mkc (m : MarkP) : List Value := [.string (ofL m.1), .int .i64 m.2]
def MarksAt (w : World) (base : Nat) (v : Value) (l : List MarkP) : Prop := w.ownsRow base 30 2 v l.length (flat mkc l)
theorem mark_info : (Try.prog.info? 30).map (fun i => (i.zero, i.size, i.bytes)) = some (some (.agg #[.string ByteArray.empty, .int .i64 0]), 2, 24) := by kernel_rfl
theorem MarksAt.nil (w : World) (base : Nat) : MarksAt w base (.slice none 0 0) [] := ⟨rfl, Or.inl ⟨rfl, rfl⟩⟩
theorem MarksAt.keep {F : Nat → Prop} {w w' : World} {base : Nat} {v : Value} {l : List MarkP} (h : MarksAt w base v l) (u : Upd F w w') (hd : ∀ k, v.ownBlock = some k → ¬ F k) : MarksAt w' base v l := own_keep h u hd
section
variable {w w' : World} {base xa : Nat} {bs : List Nat} {G : Nat → Nd} {T : Nat → Txt} {row : Nat → Value} {many : Int} {L : List MarkP}
set_option maxHeartbeats 8000000 in
set_option maxRecDepth 100000 in
theorem above_raw (h : RadR w base xa bs G T row many) (hm : Marks bs G T L) (hL : L.length ≤ 1000000) (key : Txt) (hk : key.length ≤ 1000000) :
    Calls Try.prog 15 #[.pointer (some ⟨xa, 0, none⟩), .string (ofL key)] w fun e w' => ∃ v, e = .returned v ∧ MarksAt w' w.heap.size v (aboveL L key) ∧ Upd (fun _ => False) w w' := by
  have skz := ofL_size key
  have RT : Hid (∀ (t : Txt), t <+: key → ∀ w, (Instr.slice 9 (.string (ofL key)) none (some (.int .i64 (t.length : Int))) none).run Try.prog w = .ok (.string (ofL t)) w) := fun t ht w => by
    have := run_take key (t.length : Int) (by omega) (by have := ht.length_le; omega) w
    rw [Int.toNat_natCast, take_pre.2 ht] at this; exact this
  obtain ⟨sk, hsk⟩ : ∃ sk, sk = ofL key := ⟨_, rfl⟩
  rw [← hsk] at RT skz ⊢
  have H := Lib.hid h
  have HM := Lib.hid hm
  have KK := Lib.hid hsk
  clear h hsk hm
  go_enter Try.func15, Try.ntmps15
  go_wp2
  go_loopw [5, 6, 7] (fun x5 x6 x7 wr => ∃ (b : Nat) (rest : Txt) (s : ByteArray), x6 = .pointer (some ⟨b, 0, none⟩) ∧ x7 = .string s ∧ Hid (s = ofL rest) ∧ s.size = rest.length ∧ Hid (T b ++ rest = key) ∧ (T b).length + rest.length = key.length ∧ Hid (b ∈ bs) ∧ Hid (MarksAt wr w.heap.size x5 (overL L (T b))) ∧ Hid (Upd (fun _ => False) w wr)) (fun _ _ x7 _ => strLen x7)
  case atStart =>
    refine ⟨xa, key, sk, rfl, rfl, KK, skz, Lib.hid (by rw [H.out.flat.troot]; rfl), by rw [H.out.flat.troot]; simp, Lib.hid H.out.flat.root, Lib.hid ?_, Lib.hid (Upd.refl _ _)⟩
    have : overL L (T xa) = [] := by
      unfold overL; rw [H.out.flat.troot, List.filter_eq_nil_iff]
      intro m _; simp
    rw [this]; exact MarksAt.nil _ _
  case round =>
    obtain ⟨b, rest, s, rfl, rfl, ES, hsz, TB, hlen, BM, RW, U⟩ := hrel
    obtain ⟨p5, c5, e5, _⟩ := own_slice RW.out
    subst e5
    have c1 := (H.out.keep0 U.out).c1 BM.out
    have c2 := (H.out.keep0 U.out).c2 BM.out
    have AT := HM.out.at_ H.out.flat BM.out
    have OL : (overL L (T b)).length ≤ 1000000 := Nat.le_trans (List.length_filter_le _ _) hL
    cases ht : (G b).there with
    | false =>
      rw [ht] at c1 AT
      simp only [Bool.false_eq_true, if_false, List.append_nil] at AT
      have R2 : Hid (MarksAt wr w.heap.size (.slice p5 (overL L (T b)).length c5) (aboveL L (T b))) := by rw [AT]; exact RW
      have U2 := U
      obtain ⟨w1, rfl⟩ : ∃ w1, w1 = wr := ⟨_, rfl⟩
      clear RW U AT ht c2
      by_cases hr : rest = []
      · have q0 : (s.toList == []) = true := by rw [ES.out, hr, ofL_toList]; rfl
        have EN : Hid (aboveL L key = aboveL L (T b)) := by rw [← TB.out, hr, List.append_nil]; exact rfl
        clear hr
        go_wp2
        go_ret
        exact ⟨_, rfl, by rw [EN.out]; exact R2.out, U2.out⟩
      · have q0 : (s.toList == []) = false := by rw [ES.out, ofL_toList]; simpa using hr
        obtain ⟨c, r1, hc⟩ : ∃ c r1, rest = c :: r1 := by
          cases rest with
          | nil => exact absurd rfl hr
          | cons c r1 => exact ⟨c, r1, rfl⟩
        have rx : ∀ w, (Instr.index 9 (.string s) (.int .i64 0)).run Try.prog w = .ok (.int .u8 (c.toNat : Int)) w := by rw [ES.out, hc]; exact run_at (c :: r1) 0 c rfl
        have PL := Lib.hid (place_any (H.out.keep0 U2.out) BM.out c)
        have HC := Lib.hid hc
        clear hc hr
        go_wp2_with fail
        refine (PL.out).mono ?_
        rintro e w2 ⟨i, f, rfl, hp, u⟩
        have HP := Lib.hid hp
        have R3 := Lib.hid (R2.out.keep u (fun _ _ h => h))
        have U3 := Lib.hid (U2.out.trans u (fun _ _ h => h))
        clear hp u PL rx R2 U2
        cases f with
        | false =>
          have EN := Lib.hid (HM.out.end_ H.out.flat BM.out TB.out (fun x hx p => HP.out.none x hx (by have := headD_pre (H.out.flat.kid b BM.out x hx).2.1 (b := rest) (by rw [HC.out]; simp) p (List.prefix_refl _); rw [HC.out] at this; exact this)))
          go_wp2
          go_ret
          exact ⟨_, rfl, by rw [EN.out]; exact R3.out, U3.out⟩
        | true =>
          obtain ⟨y, hy, hyc, _⟩ := HP.out.some
          obtain ⟨g2, cap2, erow, cg, hgl, hil, hk256⟩ := (H.out.keep0 U3.out).kidAt BM.out hy
          have hym := List.mem_of_getElem? hy
          have YM := Lib.hid (H.out.flat.kid b BM.out y hym).1
          have c3 := (H.out.keep0 U3.out).c3 BM.out
          rw [erow] at c3
          have cy := (H.out.keep0 U3.out).c0 YM.out
          have PSZ := ofL_size (G y).part
          have BG := begins_any rest (G y).part w2
          rw [← ES.out] at BG
          obtain ⟨sp, hsp⟩ : ∃ sp, sp = ofL (G y).part := ⟨_, rfl⟩
          rw [← hsp] at cy BG PSZ
          have BG := Lib.hid BG
          have HYC := Lib.hid hyc
          have qi : (i : Int) < ((G b).kids.length : Int) := by omega
          have HYM := Lib.hid hym
          clear hgl hy hyc erow hil hsp hym
          generalize (G b).kids.length = nk at *
          generalize hd : decide ((G y).part <+: rest) = dec at BG
          go_wp2_with fail
          refine (BG.out).mono ?_
          rintro e w3 ⟨rfl, rfl⟩
          clear BG
          cases dec with
          | false =>
            have EN := Lib.hid (HM.out.end_ H.out.flat BM.out TB.out (fun x hx p => by
              have e := headD_pre (H.out.flat.kid b BM.out x hx).2.1 (b := rest) (by rw [HC.out]; simp) p (List.prefix_refl _)
              rw [HC.out] at e
              have := pairwise_head (H.out.flat.sorted b BM.out) hx HYM.out (Eq.trans e HYC.out.symm)
              subst this
              exact of_decide_eq_false hd p))
            go_wp2
            go_ret
            exact ⟨_, rfl, by rw [EN.out]; exact R3.out, U3.out⟩
          | true =>
            have HPRE := Lib.hid (of_decide_eq_true hd)
            have hpl : (G y).part.length ≤ rest.length := HPRE.out.length_le
            have hp0 : 0 < (G y).part.length := List.length_pos_iff.2 (H.out.flat.kid b BM.out y HYM.out).2.1
            have rd := run_drop rest ((G y).part.length : Int) (by omega) (by omega)
            rw [← ES.out, Int.toNat_natCast] at rd
            obtain ⟨s', hs'⟩ : ∃ s', s' = ofL (rest.drop (G y).part.length) := ⟨_, rfl⟩
            rw [← hs'] at rd
            have HS := Lib.hid hs'
            have HSL : s'.size = rest.length - (G y).part.length := by rw [hs', ofL_size, List.length_drop]
            have TL : (T y).length = (T b).length + (G y).part.length := by rw [(H.out.flat.kid b BM.out y HYM.out).2.2, List.length_append]
            have TB2 : Hid (T y ++ rest.drop (G y).part.length = key) := by
              show _ = _
              obtain ⟨u, hu⟩ := HPRE.out
              rw [(H.out.flat.kid b BM.out y HYM.out).2.2, ← TB.out, ← hu, List.append_assoc, List.drop_left]
            have R4 := R3
            rw [← HM.out.next H.out.flat BM.out HYM.out] at R4
            generalize (G y).part.length = np at *
            clear hd hs' HP HYC
            go_wp2
            go_roundw
            case rel => exact ⟨y, _, s', rfl, rfl, HS, by rw [HSL, List.length_drop], TB2, by rw [List.length_drop]; omega, YM, R4, U3⟩
            case measure => simp [strLen]; omega
    | true =>
      rw [ht] at c1 AT
      simp only [if_true] at AT
      have AT := Lib.hid AT
      have rt := RT.out (T b) ⟨rest, TB.out⟩
      obtain ⟨sb, hsb⟩ : ∃ sb, sb = ofL (T b) := ⟨_, rfl⟩
      rw [← hsb] at rt
      have HSB := Lib.hid hsb
      clear hsb
      have wj : IntKind.i64.wrap ((key.length : Int) - (rest.length : Int)) = ((T b).length : Int) := by rw [IntWalk.i64_in _ (by omega)]; omega
      have w3 : IntKind.i64.wrap ((T b).length : Int) = ((T b).length : Int) := IntWalk.i64_in _ (by omega)
      have qj : (key.length : Int) - (rest.length : Int) = ((T b).length : Int) := by omega
      obtain ⟨i0, hi0, hz0, hz1, hz2⟩ := rinfo_parts mark_info
      have hwb := U.out.size
      have hc2 := (World.block_lt_of_cell? wr _ c2)
      have OWN : Hid (wr.ownsRow w.heap.size 30 2 (.slice p5 (overL L (T b)).length c5) (overL L (T b)).length (flat mkc (overL L (T b)))) := RW.out
      have OWN2 : Hid ((wr.drew.alloc (.cells #[.string sb, .int .i64 (G b).n] 30)).ownsRow w.heap.size 30 2 (.slice p5 (overL L (T b)).length c5) (overL L (T b)).length (flat mkc (overL L (T b)))) := own_keep OWN.out ((Upd.refl (fun _ => False) wr).drew.alloc _) (fun _ _ h => h)
      clear RW ht
      go_wp2
      go_region_held3 (fun w' => w'.cell? ⟨b, 2, none⟩ = some (.int .i64 (G b).n)) (go_keep) (first
        | (refine step_append_lies _ rfl _ _ 27 rfl w.heap.size 30 i0 (.agg #[.string ByteArray.empty, .int .i64 0]) 2 24 Try.underlying27 hi0 hz0 hz1 hz2 rfl (by decide) _ _ _ rfl OWN2.out ⟨wr.heap.size, 0, none⟩ 1 1 [.string sb, .int .i64 (G b).n] rfl rfl (World.news_of_block (cs := #[.string sb, .int .i64 (G b).n]) (t := 30) (fr := (0, 0)) (Blk.made wr.drew _ _)) (by intro u hu; simp at hu; rcases hu with rfl | rfl <;> rfl) (by decide) (by unfold maxLen; omega) (by omega) (by simp; omega) _ rfl ?_; intro g cap w1 hown hgrow hat hlt; (have U1 : Upd (fun _ => False) w w1 := (U.out.drew.alloc _).trans (Upd.of_grown hgrow) (fun q hq e => by have := (World.ownsRow.lt OWN.out q e.symm).1; omega)); (have y2 := (H.out.keep0 U1).c2 BM.out); (have U2 := Lib.hid U1); (have ON := Lib.hid hown); clear hown hgrow hat hlt U1))
      have R2 : Hid (MarksAt w1 w.heap.size (.slice (some ⟨g, 0, none⟩) ((overL L (T b)).length + 1) cap) (aboveL L (T b))) := by
        show World.ownsRow _ _ _ _ _ _ _
        rw [AT.out, List.length_append]
        unfold flat
        rw [List.flatMap_append]
        have := ON.out
        rw [HSB.out] at this
        exact this
      clear y2 ON OWN OWN2 U c1 c2 i0 hi0 hz0 hz1 hz2 rt wj w3 qj hwb hc2 HSB AT
      by_cases hr : rest = []
      · have q0 : (s.toList == []) = true := by rw [ES.out, hr, ofL_toList]; rfl
        have EN : Hid (aboveL L key = aboveL L (T b)) := by rw [← TB.out, hr, List.append_nil]; exact rfl
        clear hr
        go_wp2
        go_ret
        exact ⟨_, rfl, by rw [EN.out]; exact R2.out, U2.out⟩
      · have q0 : (s.toList == []) = false := by rw [ES.out, ofL_toList]; simpa using hr
        obtain ⟨c, r1, hc⟩ : ∃ c r1, rest = c :: r1 := by
          cases rest with
          | nil => exact absurd rfl hr
          | cons c r1 => exact ⟨c, r1, rfl⟩
        have rx : ∀ w, (Instr.index 9 (.string s) (.int .i64 0)).run Try.prog w = .ok (.int .u8 (c.toNat : Int)) w := by rw [ES.out, hc]; exact run_at (c :: r1) 0 c rfl
        have PL := Lib.hid (place_any (H.out.keep0 U2.out) BM.out c)
        have HC := Lib.hid hc
        clear hc hr
        go_wp2_with fail
        refine (PL.out).mono ?_
        rintro e w2 ⟨i, f, rfl, hp, u⟩
        have HP := Lib.hid hp
        have R3 := Lib.hid (R2.out.keep u (fun _ _ h => h))
        have U3 := Lib.hid (U2.out.trans u (fun _ _ h => h))
        clear hp u PL rx R2 U2
        cases f with
        | false =>
          have EN := Lib.hid (HM.out.end_ H.out.flat BM.out TB.out (fun x hx p => HP.out.none x hx (by have := headD_pre (H.out.flat.kid b BM.out x hx).2.1 (b := rest) (by rw [HC.out]; simp) p (List.prefix_refl _); rw [HC.out] at this; exact this)))
          go_wp2
          go_ret
          exact ⟨_, rfl, by rw [EN.out]; exact R3.out, U3.out⟩
        | true =>
          obtain ⟨y, hy, hyc, _⟩ := HP.out.some
          obtain ⟨g2, cap2, erow, cg, hgl, hil, hk256⟩ := (H.out.keep0 U3.out).kidAt BM.out hy
          have hym := List.mem_of_getElem? hy
          have YM := Lib.hid (H.out.flat.kid b BM.out y hym).1
          have c3 := (H.out.keep0 U3.out).c3 BM.out
          rw [erow] at c3
          have cy := (H.out.keep0 U3.out).c0 YM.out
          have PSZ := ofL_size (G y).part
          have BG := begins_any rest (G y).part w2
          rw [← ES.out] at BG
          obtain ⟨sp, hsp⟩ : ∃ sp, sp = ofL (G y).part := ⟨_, rfl⟩
          rw [← hsp] at cy BG PSZ
          have BG := Lib.hid BG
          have HYC := Lib.hid hyc
          have qi : (i : Int) < ((G b).kids.length : Int) := by omega
          have HYM := Lib.hid hym
          clear hgl hy hyc erow hil hsp hym
          generalize (G b).kids.length = nk at *
          generalize hd : decide ((G y).part <+: rest) = dec at BG
          go_wp2_with fail
          refine (BG.out).mono ?_
          rintro e w3 ⟨rfl, rfl⟩
          clear BG
          cases dec with
          | false =>
            have EN := Lib.hid (HM.out.end_ H.out.flat BM.out TB.out (fun x hx p => by
              have e := headD_pre (H.out.flat.kid b BM.out x hx).2.1 (b := rest) (by rw [HC.out]; simp) p (List.prefix_refl _)
              rw [HC.out] at e
              have := pairwise_head (H.out.flat.sorted b BM.out) hx HYM.out (Eq.trans e HYC.out.symm)
              subst this
              exact of_decide_eq_false hd p))
            go_wp2
            go_ret
            exact ⟨_, rfl, by rw [EN.out]; exact R3.out, U3.out⟩
          | true =>
            have HPRE := Lib.hid (of_decide_eq_true hd)
            have hpl : (G y).part.length ≤ rest.length := HPRE.out.length_le
            have hp0 : 0 < (G y).part.length := List.length_pos_iff.2 (H.out.flat.kid b BM.out y HYM.out).2.1
            have rd := run_drop rest ((G y).part.length : Int) (by omega) (by omega)
            rw [← ES.out, Int.toNat_natCast] at rd
            obtain ⟨s', hs'⟩ : ∃ s', s' = ofL (rest.drop (G y).part.length) := ⟨_, rfl⟩
            rw [← hs'] at rd
            have HS := Lib.hid hs'
            have HSL : s'.size = rest.length - (G y).part.length := by rw [hs', ofL_size, List.length_drop]
            have TL : (T y).length = (T b).length + (G y).part.length := by rw [(H.out.flat.kid b BM.out y HYM.out).2.2, List.length_append]
            have TB2 : Hid (T y ++ rest.drop (G y).part.length = key) := by
              show _ = _
              obtain ⟨u, hu⟩ := HPRE.out
              rw [(H.out.flat.kid b BM.out y HYM.out).2.2, ← TB.out, ← hu, List.append_assoc, List.drop_left]
            have R4 := R3
            rw [← HM.out.next H.out.flat BM.out HYM.out] at R4
            generalize (G y).part.length = np at *
            clear hd hs' HP HYC
            go_wp2
            go_roundw
            case rel => exact ⟨y, _, s', rfl, rfl, HS, by rw [HSL, List.length_drop], TB2, by rw [List.length_drop]; omega, YM, R4, U3⟩
            case measure => simp [strLen]; omega
end
end Go.Proofs.Ytnlbmplbaalgmaa
