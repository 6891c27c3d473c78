/- Keys that share their beginnings: the node under which all stand that begin so. -/
import Derived.Test.YtnlbmplbaalgmaaRadG
set_option linter.unusedVariables false
set_option linter.unusedSimpArgs false
namespace Go.Proofs.Ytnlbmplbaalgmaa
open Go.RowKit
def cellLen (w : World) (p : Addr) : Nat := match w.cell? p with | some v => strLen v | none => 0
section
variable {w w' : World} {base xa : Nat} {bs : List Nat} {G : Nat → Nd} {T : Nat → Txt} {row : Nat → Value} {many : Int}
set_option maxHeartbeats 8000000 in
set_option maxRecDepth 100000 in
theorem under_any (h : RadR w base xa bs G T row many) (p : Txt) (hk : p.length ≤ 1000000) :
    Calls Try.prog 44 #[.pointer (some ⟨xa, 0, none⟩), .string (ofL p)] w fun e w' => Upd (fun _ => False) w w' ∧
      ((∃ x, x ∈ bs ∧ (∀ d ∈ bs, p <+: T d ↔ T x <+: T d) ∧ e = .returned (.tuple #[.agg #[.pointer (some ⟨x, 0, none⟩), .string (ofL (T x))], .bool true])) ∨
       ((∀ d ∈ bs, ¬ p <+: T d) ∧ e = .returned (.tuple #[.agg #[.pointer none, .string ByteArray.empty], .bool false]))) := by
  have skz := ofL_size p
  obtain ⟨sk, hsk⟩ : ∃ sk, sk = ofL p := ⟨_, rfl⟩
  rw [← hsk] at skz ⊢
  have H := Lib.hid h
  have KK := Lib.hid hsk
  clear h hsk
  go_enter Try.func44, Try.ntmps44
  go_wp2
  go_loopw [] (fun wr => ∃ (x : Nat) (s : ByteArray), Hid (x ∈ bs) ∧ Hid (Blk wr (w.heap.size + 1) [.pointer (some ⟨x, 0, none⟩), .string s] 86) ∧ Hid (s = ofL (T x)) ∧ s.size = (T x).length ∧ Hid (∀ d ∈ bs, p <+: T d → T x <+: T d) ∧ Hid (T x <+: p ∨ p <+: T x) ∧ Hid (Blk wr w.heap.size [.pointer none, .string ⟨#[]⟩] 86) ∧ Hid (Upd (fun _ => False) w wr)) (fun wr => p.length - cellLen wr ⟨w.heap.size + 1, 1, none⟩)
  case atStart => exact ⟨xa, ByteArray.empty, Lib.hid H.out.flat.root, Lib.hid (by have := Blk.made (w.alloc (.cells #[.pointer none, .string ⟨#[]⟩] 86)) [.pointer (some ⟨xa, 0, none⟩), .string ByteArray.empty] 86; rw [show (w.alloc (.cells #[.pointer none, .string ⟨#[]⟩] 86)).heap.size = w.heap.size + 1 by simp] at this; exact this), Lib.hid (by rw [H.out.flat.troot]; rfl), by rw [H.out.flat.troot]; rfl, Lib.hid (fun d _ _ => by rw [H.out.flat.troot]; exact List.nil_prefix), Lib.hid (Or.inl (by rw [H.out.flat.troot]; exact List.nil_prefix)), Lib.hid ((Blk.made w [.pointer none, .string ⟨#[]⟩] _).alloc _), Lib.hid (((Upd.refl _ _).alloc _).alloc _)⟩
  case round =>
    obtain ⟨x, s, XM, BX, ES, hsz, NX, CM, BR, U⟩ := hrel
    have b0 := BX.out.cellAt (i := 0) rfl
    have b1 := BX.out.cellAt (i := 1) rfl
    have d0 := BR.out.cellAt (i := 0) rfl
    have d1 := BR.out.cellAt (i := 1) rfl
    have f0 := BR.out.free 0
    have f1 := BR.out.free 1
    by_cases hlt : (T x).length < p.length
    · have hpre : T x <+: p := CM.out.elim id (fun g => by have := g.length_le; omega)
      obtain ⟨rest, hrest⟩ := hpre
      have hrl : rest.length = p.length - (T x).length := by rw [← hrest]; simp
      obtain ⟨c, r1, hc⟩ : ∃ c r1, rest = c :: r1 := by
        cases rest with
        | nil => simp at hrl; omega
        | cons c r1 => exact ⟨c, r1, rfl⟩
      have rd := run_drop p ((T x).length : Int) (by omega) (by omega)
      rw [← KK.out, Int.toNat_natCast, ← hrest, List.drop_left] at rd
      obtain ⟨s2, hs2⟩ : ∃ s2, s2 = ofL rest := ⟨_, rfl⟩
      rw [← hs2] at rd
      have rx : ∀ w, (Instr.index 9 (.string s2) (.int .i64 0)).run Try.prog w = .ok (.int .u8 (c.toNat : Int)) w := by rw [hs2, hc]; exact run_at (c :: r1) 0 c rfl
      have PL := Lib.hid (fun (v : World) (u : Upd (fun _ => False) w v) => place_any (H.out.keep0 u) XM.out c)
      have E2 := Lib.hid hs2
      have HR := Lib.hid hrest
      have HC := Lib.hid hc
      have qlt : ((T x).length : Int) < (p.length : Int) := by omega
      clear hs2 hrest hc
      go_wp2
      go_region_held3 (fun w' => w'.cell? ⟨w.heap.size + 1, 0, none⟩ = some (.pointer (some ⟨x, 0, none⟩))) (go_keep) (first
        | (go_at_call 41; refine (PL.out _ (by first | exact U.out.drew | exact U.out)).mono ?_; rintro e w2 ⟨i, f, rfl, hp, u⟩; (have BX2 := Lib.hid (u.blk (by first | exact BX.out | exact BX.out.drew) (fun h => h))); (have BR2 := Lib.hid (u.blk (by first | exact BR.out | exact BR.out.drew) (fun h => h))); (have y0 := BX2.out.cellAt (i := 0) rfl); (have U2 := Lib.hid (Upd.trans (by first | exact U.out.drew | exact U.out) u (fun _ _ h => h))); (have HP := Lib.hid hp); clear hp u))
      clear b0 b1 d0 d1 f0 f1 rx rd PL BR U
      have b1 := BX2.out.cellAt (i := 1) rfl
      have d0 := BR2.out.cellAt (i := 0) rfl
      have d1 := BR2.out.cellAt (i := 1) rfl
      have f0 := BR2.out.free 0
      have f1 := BR2.out.free 1
      cases f with
      | false =>
        have B3 := Lib.hid ((BR2.out.set 0 (.pointer none)).set 1 (.string ⟨#[]⟩))
        have U3 : Hid (Upd (fun _ => False) w ((w2.setCell ⟨w.heap.size, 0, none⟩ (.pointer none)).setCell ⟨w.heap.size, 1, none⟩ (.string ⟨#[]⟩))) := (U2.out.set (fun h => by omega)).set (fun h => by omega)
        have MS := Lib.hid (H.out.flat.under_miss XM.out HR.out HC.out HP.out.none)
        go_wp2
        have q0 := B3.out.cellAt (i := 0) rfl
        have q1 := B3.out.cellAt (i := 1) rfl
        have q2 := (BR2.out.set 0 (.pointer none)).cellAt (i := 0) rfl
        refine bodyPost_ret (v := .tuple #[.agg #[.pointer none, .string ⟨#[]⟩], .bool false]) (by simp [results, Try.results44, go_sem, q0, q1, q2]) rfl ⟨U3.out, Or.inr ⟨MS.out, rfl⟩⟩
      | true =>
        obtain ⟨y, hy, hyc, _⟩ := HP.out.some
        have HU := H.out.keep0 U2.out
        obtain ⟨g, cap, erow, cg, hgl, hil, hk256⟩ := HU.kidAt XM.out hy
        have hym := List.mem_of_getElem? hy
        have YM := Lib.hid (H.out.flat.kid x XM.out y hym).1
        have TY : Hid (T y = T x ++ (G y).part) := (H.out.flat.kid x XM.out y hym).2.2
        have hp0 : 0 < (G y).part.length := List.length_pos_iff.2 (H.out.flat.kid x XM.out y hym).2.1
        have NEXT := Lib.hid (H.out.flat.under_next XM.out HR.out HC.out hym hyc)
        have hpm : (G y).part.length ≤ maxLen := H.out.part_len XM.out hym
        have c3 := HU.c3 XM.out
        rw [erow] at c3
        have cy := HU.c0 YM.out
        have hxl := HU.lt XM.out
        have hyl := HU.lt YM.out
        have PSZ := ofL_size (G y).part
        have CO := common_any (G y).part rest w2 (by unfold maxLen at hpm; omega) (by omega)
        rw [← E2.out] at CO
        have SZ2 : s2.size = rest.length := by rw [E2.out, ofL_size]
        obtain ⟨sp, hsp⟩ : ∃ sp, sp = ofL (G y).part := ⟨_, rfl⟩
        rw [← hsp] at cy CO PSZ
        have SS : Hid (∀ v, Upd (fun _ => False) w2 v → v.cell? ⟨x, 3, none⟩ = some (.slice (some ⟨g, 0, none⟩) (G x).kids.length cap) ∧ v.cell? ⟨g, i, none⟩ = some (.pointer (some ⟨y, 0, none⟩)) ∧ v.cell? ⟨y, 0, none⟩ = some (.string sp)) := fun v u =>
          ⟨(u.cell (p := ⟨x, 3, none⟩) hxl id).trans c3, (u.cell (p := ⟨g, i, none⟩) hgl id).trans cg, (u.cell (p := ⟨y, 0, none⟩) hyl id).trans cy⟩
        have qi : (i : Int) < ((G x).kids.length : Int) := by omega
        have HSP := Lib.hid hsp
        have KL : Hid ((lcp (G y).part rest).length ≤ (G y).part.length ∧ (lcp (G y).part rest).length ≤ rest.length) := ⟨(lcp_left _ _).length_le, (lcp_right _ _).length_le⟩
        have W1 : Hid ((lcp (G y).part rest).length = (G y).part.length ↔ (G y).part <+: rest) := lcp_whole
        have W2 : Hid ((lcp (G y).part rest).length = rest.length ↔ rest <+: (G y).part) := lcp_whole2
        have CO := Lib.hid CO
        have hU2s : w.heap.size + 1 < w2.heap.size := BX2.out.lt
        clear hgl hy hyc erow hsp hym HU hxl hyl hil
        generalize (G x).kids.length = nk at *
        generalize (lcp (G y).part rest).length = k at *
        go_wp2_with fail
        refine (CO.out).mono ?_
        rintro e w3 ⟨rfl, u⟩
        have BX3 := Lib.hid (u.blk BX2.out id)
        have BR3 := Lib.hid (u.blk BR2.out id)
        have U3 := Lib.hid (U2.out.trans u (fun _ _ h => h))
        obtain ⟨t0, t1, t2⟩ := SS.out w3 u
        clear c3 cg cy CO SS u y0 b1 d0 d1 f0 f1 BX2 BR2 U2
        have b0 := BX3.out.cellAt (i := 0) rfl
        have b1 := BX3.out.cellAt (i := 1) rfl
        have e0 := BX3.out.free 0
        have e1 := BX3.out.free 1
        have d0 := BR3.out.cellAt (i := 0) rfl
        have d1 := BR3.out.cellAt (i := 1) rfl
        have f0 := BR3.out.free 0
        have f1 := BR3.out.free 1
        generalize hnp : (G y).part.length = np at *
        generalize hnr : rest.length = nr at *
        obtain ⟨hk1, hk2⟩ := KL.out
        by_cases g : k < np ∧ k < nr
        · have q1 : (k : Int) < (np : Int) := by omega
          have q2 : (k : Int) < (nr : Int) := by omega
          have MS : Hid (∀ d ∈ bs, ¬ p <+: T d) := fun d hd hpd => by
            rcases (NEXT.out d hd hpd).2 with k1 | k1
            · have := W1.out.2 k1; omega
            · have := W2.out.2 k1; omega
          have B3 := Lib.hid ((BR3.out.set 0 (.pointer none)).set 1 (.string ⟨#[]⟩))
          have U4 : Hid (Upd (fun _ => False) w ((w3.setCell ⟨w.heap.size, 0, none⟩ (.pointer none)).setCell ⟨w.heap.size, 1, none⟩ (.string ⟨#[]⟩))) := (U3.out.set (fun h => by omega)).set (fun h => by omega)
          go_wp2
          have z0 := B3.out.cellAt (i := 0) rfl
          have z1 := B3.out.cellAt (i := 1) rfl
          have z2 := (BR3.out.set 0 (.pointer none)).cellAt (i := 0) rfl
          refine bodyPost_ret (v := .tuple #[.agg #[.pointer none, .string ⟨#[]⟩], .bool false]) (by simp [results, Try.results44, go_sem, z0, z1, z2]) rfl ⟨U4.out, Or.inr ⟨MS.out, rfl⟩⟩
        · have CM2 : Hid (T y <+: p ∨ p <+: T y) := by
            show _ ∨ _
            rw [TY.out, ← HR.out, List.prefix_append_right_inj, List.prefix_append_right_inj]
            by_cases g1 : k = np
            · exact Or.inl (W1.out.1 g1)
            · exact Or.inr (W2.out.1 (by omega))
          have NX2 : Hid (∀ d ∈ bs, p <+: T d → T y <+: T d) := fun d hd hpd => (NEXT.out d hd hpd).1
          have ES2 : Hid (s ++ sp = ofL (T y)) := by
            show _ = _
            rw [TY.out, ES.out, HSP.out, ofL_append]
          have hs2 : (s ++ sp).size = (T y).length := by rw [ES2.out, ofL_size]
          have htl : (T y).length = (T x).length + np := by rw [TY.out, List.length_append, hnp]
          have BX4 := Lib.hid ((BX3.out.set 0 (.pointer (some ⟨y, 0, none⟩))).set 1 (.string (s ++ sp)))
          have BR4 := Lib.hid ((BR3.out.set_other (b' := w.heap.size + 1) (o := 0) (v := .pointer (some ⟨y, 0, none⟩)) (by omega)).set_other (b' := w.heap.size + 1) (o := 1) (v := .string (s ++ sp)) (by omega))
          have U4 : Hid (Upd (fun _ => False) w ((w3.setCell ⟨w.heap.size + 1, 0, none⟩ (.pointer (some ⟨y, 0, none⟩))).setCell ⟨w.heap.size + 1, 1, none⟩ (.string (s ++ sp)))) := (U3.out.set (fun h => by omega)).set (fun h => by omega)
          have hcl : cellLen ((w3.setCell ⟨w.heap.size + 1, 0, none⟩ (.pointer (some ⟨y, 0, none⟩))).setCell ⟨w.heap.size + 1, 1, none⟩ (.string (s ++ sp))) ⟨w.heap.size + 1, 1, none⟩ = (T y).length := by
            unfold cellLen; rw [BX4.out.cellAt (i := 1) rfl]; exact hs2
          have hsm : (T y).length ≤ maxLen := H.out.small y YM.out
          have sv := fun w : World => run_string_add_sum (P := Try.prog) w s sp (by rw [hsz, PSZ]; unfold maxLen at hsm; omega)
          generalize s ++ sp = s3 at *
          have hms : p.length - cellLen ((w3.setCell ⟨w.heap.size + 1, 0, none⟩ (.pointer (some ⟨y, 0, none⟩))).setCell ⟨w.heap.size + 1, 1, none⟩ (.string s3)) ⟨w.heap.size + 1, 1, none⟩ < p.length - cellLen wr ⟨w.heap.size + 1, 1, none⟩ := by
            rw [hcl, show cellLen wr ⟨w.heap.size + 1, 1, none⟩ = (T x).length by unfold cellLen; rw [BX.out.cellAt (i := 1) rfl]; exact hsz]; omega
          clear BX hcl
          by_cases g1 : k < np
          · have q1 : (k : Int) < (np : Int) := by omega
            have q2 : ¬ (k : Int) < (nr : Int) := by omega
            go_wp2
            go_region_with (fail)
            all_goals
              go_wp2
              go_roundw
              case rel => exact ⟨y, s3, YM, Lib.hid (BX4.out.drew), ES2, hs2, NX2, CM2, Lib.hid (BR4.out.drew), Lib.hid (U4.out.drew)⟩
              case measure => exact hms
          · have q1 : ¬ (k : Int) < (np : Int) := by omega
            go_wp2
            go_region_with (fail)
            all_goals
              go_wp2
              go_roundw
              case rel => exact ⟨y, s3, YM, Lib.hid (BX4.out.drew), ES2, hs2, NX2, CM2, Lib.hid (BR4.out.drew), Lib.hid (U4.out.drew)⟩
              case measure => exact hms
    · have qlt : ¬ ((T x).length : Int) < (p.length : Int) := by omega
      have B2 := Lib.hid ((BR.out.set 0 (.pointer (some ⟨x, 0, none⟩))).set 1 (.string s))
      have U2 : Hid (Upd (fun _ => False) w ((wr.setCell ⟨w.heap.size, 0, none⟩ (.pointer (some ⟨x, 0, none⟩))).setCell ⟨w.heap.size, 1, none⟩ (.string s))) := (U.out.set (fun h => by omega)).set (fun h => by omega)
      have EQ : Hid (∀ d ∈ bs, p <+: T d ↔ T x <+: T d) := fun d hd => ⟨NX.out d hd, fun g => by
        rcases CM.out with k | k
        · have := k.eq_of_length (by have := k.length_le; omega)
          rw [← this]; exact g
        · exact List.IsPrefix.trans k g⟩
      go_wp2
      have q0 := B2.out.cellAt (i := 0) rfl
      have q1 := B2.out.cellAt (i := 1) rfl
      refine bodyPost_ret (v := .tuple #[.agg #[.pointer (some ⟨x, 0, none⟩), .string s], .bool true]) (by simp [results, Try.results44, go_sem, q0, q1]) rfl ⟨U2.out, Or.inl ⟨x, XM.out, EQ.out, by rw [ES.out]⟩⟩
end
end Go.Proofs.Ytnlbmplbaalgmaa
