/- Keys that share their beginnings: Put. -/
import Derived.Test.YtmlojbfcmebboaaGreatK06
import Derived.Test.YtmlojbfcmebboaaGreatK07
import Derived.Test.YtmlojbfcmebboaaGreatLayDel
import Derived.Shelf.SlicesE.Delete
set_option linter.unusedVariables false
set_option linter.unusedSimpArgs false
namespace Go.Proofs.YtmlojbfcmebboaaGreat
open Go.RowKit
theorem getL_iff {L : List MarkP} (h : L.Pairwise fun a b => a.1 < b.1) (k : Txt) : (getL L k).2 = true ↔ ∃ n, (k, n) ∈ L := by
  constructor
  · intro e
    by_cases hx : ∃ n, (k, n) ∈ L
    · exact hx
    · rw [getL_none (fun n hn => hx ⟨n, hn⟩)] at e; cases e
  · rintro ⟨n, hn⟩; rw [getL_some h hn]
theorem putM_len {L : List MarkP} (h : L.Pairwise fun a b => a.1 < b.1) (k : Txt) (n : Int) : ((putM k n L).length : Int) = (L.length : Int) + (if (getL L k).2 then 0 else 1) := by
  unfold putM
  rw [(insM_perm _ _).length_eq, List.length_cons]
  unfold cutM
  by_cases hx : ∃ n, (k, n) ∈ L
  · obtain ⟨m, hm⟩ := hx
    have e := (getL_iff h k).2 ⟨m, hm⟩
    rw [if_pos e]
    have : (L.filter fun m => decide (m.1 ≠ k)).length + 1 = L.length := by
      clear e
      induction L with
      | nil => cases hm
      | cons a L ih =>
        rw [List.pairwise_cons] at h
        rcases List.mem_cons.1 hm with e | hm'
        · subst e
          rw [List.filter_cons_of_neg (by simp), List.length_cons, List.filter_eq_self.2]
          intro x hx
          simp only [decide_eq_true_eq]
          exact fun e => List.lt_irrefl _ (e ▸ h.1 x hx)
        · have hne : a.1 ≠ k := fun e => by have g := h.1 _ hm'; rw [e] at g; exact List.lt_irrefl _ g
          rw [List.filter_cons_of_pos (by simpa using hne), List.length_cons, List.length_cons, ← ih h.2 hm']
    omega
  · have e : ¬ (getL L k).2 = true := fun e => hx ((getL_iff h k).1 e)
    rw [if_neg e, List.filter_eq_self.2]
    · rfl
    · intro m hm
      simp only [decide_eq_true_eq]
      rintro rfl; exact hx ⟨m.2, hm⟩
theorem set_alloc2 (w : World) (a b : Obj) (y o : Nat) (v : Value) (h : y < w.heap.size) : ((w.alloc a).alloc b).setCell ⟨y, o, none⟩ v = ((w.setCell ⟨y, o, none⟩ v).alloc a).alloc b := by
  rw [World.setCell_alloc_past _ _ _ _ (by simp; omega), World.setCell_alloc_past _ _ _ _ h]
section
variable {w w' : World} {base xa : Nat} {bs : List Nat} {G : Nat → Nd} {T : Nat → Txt} {row : Nat → Value} {many : Int} {L : List MarkP}
set_option maxHeartbeats 16000000 in
set_option maxRecDepth 100000 in
theorem put_raw (h : RadR w base xa bs G T row (L.length : Int)) (hm : Marks bs G T L) (hn : Need xa bs G) (hp : (G xa).part = []) (hL : L.length ≤ 1000000) (hb : base ≤ w.heap.size) (key : Txt) (n : Int) (hk : key.length ≤ 9223372036854775807) :
    Calls Tryz.prog 93 #[.pointer (some ⟨xa, 0, none⟩), .string (ofL key), .int .i64 n] w fun e w' => e = .returned (.bool (!(getL L key).2)) ∧ Upd (radF bs row) w w' ∧
      ∃ E', TreeAt w' base xa (putM key n L) E' ∧ ∀ k, E' k → radF bs row k ∨ w.heap.size ≤ k := by
  have skz := ofL_size key
  obtain ⟨sk, hsk⟩ : ∃ sk, sk = ofL key := ⟨_, rfl⟩
  rw [← hsk] at skz ⊢
  have P0 := Lib.hid (PutAt.begin h.flat hm hn key)
  have KK := Lib.hid hsk
  have H0 := Lib.hid h
  have HP0 := Lib.hid hp
  have BASE := Lib.hid hb
  have RISE := Lib.hid hm.rise
  clear h hm hn hsk hp
  go_enter Tryz.func93, Tryz.ntmps93
  go_wp2
  go_loopw [1, 7] (fun x1 x7 wr => ∃ (bs1 : List Nat) (G1 : Nat → Nd) (T1 : Nat → Txt) (row1 : Nat → Value) (x : Nat) (rest : Txt) (s : ByteArray), x1 = .string s ∧ x7 = .pointer (some ⟨x, 0, none⟩) ∧ Hid (s = ofL rest) ∧ s.size = rest.length ∧ rest.length ≤ key.length ∧ Hid (RadR wr base xa bs1 G1 T1 row1 (L.length : Int)) ∧ Hid (PutAt xa bs1 G1 T1 L key x rest) ∧ Hid ((G1 xa).part = []) ∧ Hid (Upd (radF bs row) w wr) ∧ Hid (∀ k, radF bs1 row1 k → radF bs row k ∨ w.heap.size ≤ k)) (fun x1 _ _ => strLen x1)
  case atStart => exact ⟨bs, G, T, row, xa, key, sk, rfl, rfl, KK, skz, Nat.le_refl _, H0, P0, HP0, Lib.hid (Upd.refl _ _), Lib.hid (fun k hk => Or.inl hk)⟩
  case round =>
    obtain ⟨bs1, G1, T1, row1, x, rest, s, rfl, rfl, ES, hsz, hrk, H, P, HP, U, NB⟩ := hrel
    by_cases hr : rest = []
    · have q0 : (s.toList == []) = true := by rw [ES.out, hr, ofL_toList]; rfl
      subst hr
      obtain ⟨D1, D2, D3⟩ := P.out.done n
      have etx : T1 x = key := by rw [← P.out.eqn, List.append_nil]
      have R : Hid ((getL L key).2 = (G1 x).there) := by
        show _ = _
        rw [Bool.eq_iff_iff, getL_iff RISE.out]
        constructor
        · rintro ⟨m, hm⟩
          obtain ⟨b, hb, e, t, _⟩ := (P.out.marks.mem key m).1 hm
          have := P.out.flat.inj hb P.out.xm (e.trans etx.symm)
          subst this; exact t
        · intro t; exact ⟨_, (P.out.marks.mem key _).2 ⟨x, P.out.xm, etx, t, rfl⟩⟩
      have PL := putM_len RISE.out key n
      rw [R.out] at PL
      have hpart : (markG G1 x true n xa).part = [] := by
        unfold markG; split
        · rename_i e; rw [← e]; exact HP.out
        · exact HP.out
      have XN := H.out.node P.out.xm
      have TN := H.out.x
      have c1 := H.out.c1 P.out.xm
      have c2 := H.out.c2 P.out.xm
      have f1 := XN.free 1
      have f2 := XN.free 2
      have c4 : wr.cell? ⟨xa, 4, none⟩ = some (.int .i64 (L.length : Int)) := TN.cellAt rfl
      have f4 := TN.free 4
      have XB := (XN.set 1 (.bool true)).set 2 (.int .i64 n)
      have UB : Upd (fun k => k = x ∨ k = xa) wr ((wr.setCell ⟨x, 1, none⟩ (.bool true)).setCell ⟨x, 2, none⟩ (.int .i64 n)) := ((Upd.refl _ _).set (fun _ => Or.inl rfl)).set (fun _ => Or.inl rfl)
      have UF : ∀ wz, Upd (fun k => k = x ∨ k = xa) wr wz → Upd (radF bs row) w wz := fun wz uz => U.out.trans uz (fun q hq g => by
        have : radF bs1 row1 q := Or.inl (g.elim (fun e => by rw [e]; exact P.out.xm) (fun e => by rw [e]; exact P.out.flat.root))
        rcases NB.out q this with g | g
        · exact g
        · omega)
      have eX : ∀ m, ((ndc (G1 x) (row1 x) ++ tailC xa x m).set 1 (.bool true)).set 2 (.int .i64 n) = ndc (markG G1 x true n x) (row1 x) ++ tailC xa x m := fun m => by unfold markG; rw [if_pos rfl]; rfl
      rw [eX] at XB
      cases ht : (G1 x).there with
      | true =>
        rw [ht] at c1 PL R
        rw [if_pos rfl, Int.add_zero] at PL
        have H4 : Hid (RadR ((wr.setCell ⟨x, 1, none⟩ (.bool true)).setCell ⟨x, 2, none⟩ (.int .i64 n)) base xa bs1 (markG G1 x true n) T1 row1 ((putM key n L).length : Int)) := by
          rw [PL]
          refine H.out.mark UB P.out.xm (fun b hb => ?_)
          by_cases e : b = x
          · rw [e]; exact XB
          · have eb : b = xa := hb.elim (fun g => absurd g e) id
            have := ((H.out.node P.out.flat.root).set_other (b' := x) (o := 1) (v := .bool true) (by rw [← eb]; exact e)).set_other (b' := x) (o := 2) (v := .int .i64 n) (by rw [← eb]; exact e)
            unfold markG; rw [if_neg e, eb]; exact this
        have U4 := Lib.hid (UF _ UB)
        have D := Lib.hid (And.intro D2 D3)
        have HPP := Lib.hid hpart
        clear XN TN XB UB UF D1 D2 D3 hpart eX H PL
        go_wp2
        go_ret
        exact ⟨by rw [R.out]; rfl, U4.out, _, ⟨bs1, _, T1, row1, H4.out, D.out.1, D.out.2, HPP.out, rfl⟩, NB.out⟩
      | false =>
        rw [ht] at c1 PL R
        rw [if_neg (by decide)] at PL
        have eT : ∀ z, (ndc z (row1 xa) ++ ([.int .i64 (L.length : Int)] : List Value)).set 4 (.int .i64 ((L.length : Int) + 1)) = ndc z (row1 xa) ++ ([.int .i64 ((L.length : Int) + 1)] : List Value) := fun z => rfl
        have UB2 := UB.set (b := xa) (o := 4) (v := .int .i64 ((L.length : Int) + 1)) (fun _ => Or.inr rfl)
        have m4 : ((wr.setCell ⟨x, 1, none⟩ (.bool true)).setCell ⟨x, 2, none⟩ (.int .i64 n)).cell? ⟨xa, 4, none⟩ = some (.int .i64 (L.length : Int)) := by
          by_cases e : x = xa
          · subst e
            refine XB.cellAt (i := 4) ?_
            unfold tailC; rw [if_pos rfl]; rfl
          · exact ((TN.set_other (b' := x) (o := 1) (v := .bool true) (Ne.symm e)).set_other (b' := x) (o := 2) (v := .int .i64 n) (Ne.symm e)).cellAt rfl
        have H4 : Hid (RadR (((wr.setCell ⟨x, 1, none⟩ (.bool true)).setCell ⟨x, 2, none⟩ (.int .i64 n)).setCell ⟨xa, 4, none⟩ (.int .i64 ((L.length : Int) + 1))) base xa bs1 (markG G1 x true n) T1 row1 ((putM key n L).length : Int)) := by
          rw [PL]
          refine H.out.mark UB2 P.out.xm (fun b hb => ?_)
          by_cases e : b = xa
          · rw [e]
            unfold tailC tyC; rw [if_pos rfl, if_pos rfl, ← eT]
            by_cases e2 : x = xa
            · subst e2
              have := XB
              unfold tailC tyC at this; rw [if_pos rfl, if_pos rfl] at this
              exact this.set 4 _
            · have := (TN.set_other (b' := x) (o := 1) (v := .bool true) (Ne.symm e2)).set_other (b' := x) (o := 2) (v := .int .i64 n) (Ne.symm e2)
              have := this.set 4 (.int .i64 ((L.length : Int) + 1))
              unfold markG; rw [if_neg (Ne.symm e2)]; exact this
          · have eb : b = x := hb.elim id (fun g => absurd g e)
            subst eb
            have := XB
            unfold tailC tyC at this ⊢; rw [if_neg e, if_neg e] at this ⊢
            exact this.set_other e
        have U4 := Lib.hid (UF _ UB2)
        have D := Lib.hid (And.intro D2 D3)
        have HPP := Lib.hid hpart
        have qg : IntKind.i64.wrap ((L.length : Int) + 1) = (L.length : Int) + 1 := IntWalk.i64_in _ (by omega)
        clear XN TN XB UB UF D1 D2 D3 hpart eX H PL UB2 eT
        go_wp2
        go_ret
        exact ⟨by rw [R.out]; rfl, U4.out, _, ⟨bs1, _, T1, row1, H4.out, D.out.1, D.out.2, HPP.out, rfl⟩, NB.out⟩
    · have q0 : (s.toList == []) = false := by rw [ES.out, ofL_toList]; simpa using hr
      obtain ⟨c, r1, hc⟩ : ∃ c r1, rest = c :: r1 := by
        cases rest with
        | nil => exact absurd rfl hr
        | cons c r1 => exact ⟨c, r1, rfl⟩
      have rx : ∀ w, (Instr.index 9 (.string s) (.int .i64 0)).run Tryz.prog w = .ok (.int .u8 (c.toNat : Int)) w := by rw [ES.out, hc]; exact run_at (c :: r1) 0 c rfl
      have PL := Lib.hid (place_any H.out P.out.xm c)
      have HC := Lib.hid hc
      clear hc hr
      go_wp2_with fail
      refine (PL.out).mono ?_
      rintro e w1 ⟨i, f, rfl, hp, u⟩
      have HI := Lib.hid hp
      have H1 := Lib.hid (H.out.keep0 u)
      have U1 := Lib.hid (U.out.trans u (fun _ _ h => h.elim))
      have u1s := u.size
      clear hp u PL rx
      cases f with
      | false =>
        obtain ⟨K1, K2, ekk, ei, hl1, hl2⟩ : ∃ K1 K2, (G1 x).kids = K1 ++ K2 ∧ i = K1.length ∧ (∀ z ∈ K1, hdN G1 z < c) ∧ ∀ z ∈ K2, c < hdN G1 z := by
          obtain ⟨K1, K2, e1, e2, e3, ⟨e4, _⟩ | ⟨_, e4⟩⟩ := HI.out
          · cases e4
          · exact ⟨K1, K2, e1, e2, e3, e4⟩
        subst ei
        have c3 := H1.out.c3 P.out.xm
        have hxl := H1.out.lt P.out.xm
        have KF := H1.out.flat.kids_few P.out.xm
        rw [ekk] at KF
        have OWN0 : NodesAt w1 base (row1 x) (K1 ++ K2) := by rw [← ekk]; exact H1.out.own x P.out.xm
        have W2 : Upd (fun _ => False) w1 ((w1.alloc (.cells #[.string s, .bool false, .int .i64 0, .slice none 0 0] 184)).alloc (.cells #[.pointer (some ⟨w1.heap.size, 0, none⟩)] 192)) := ((Upd.refl _ _).alloc _).alloc _
        have VB : Blk ((w1.alloc (.cells #[.string s, .bool false, .int .i64 0, .slice none 0 0] 184)).alloc (.cells #[.pointer (some ⟨w1.heap.size, 0, none⟩)] 192)) (w1.heap.size + 1) [ptr w1.heap.size] 192 := by
          have := Blk.made (w1.alloc (.cells #[.string s, .bool false, .int .i64 0, .slice none 0 0] 184)) [ptr w1.heap.size] 192
          rw [show (w1.alloc (.cells #[.string s, .bool false, .int .i64 0, .slice none 0 0] 184)).heap.size = w1.heap.size + 1 by simp] at this; exact this
        have DB : Blk ((w1.alloc (.cells #[.string s, .bool false, .int .i64 0, .slice none 0 0] 184)).alloc (.cells #[.pointer (some ⟨w1.heap.size, 0, none⟩)] 192)) w1.heap.size [.string s, .bool false, .int .i64 0, .slice none 0 0] 184 :=
          (Blk.made w1 [.string s, .bool false, .int .i64 0, .slice none 0 0] _).alloc _
        have IN := Lib.hid (insP_any _ base (row1 x) K1 K2 w1.heap.size (w1.heap.size + 1) (own_keep OWN0 W2 (fun _ _ h => h)) (Nat.le_trans BASE.out (Nat.le_trans U1.out.size W2.size)) VB (fun e => by have := (own_lt OWN0 e).1; omega) (by omega))
        have W2 := Lib.hid W2
        have DB := Lib.hid DB
        have EK := Lib.hid ekk
        have LS := Lib.hid (And.intro hl1 hl2)
        clear OWN0 VB ekk hl1 hl2 HI
        go_wp2_with fail
        refine (IN.out).mono ?_
        rintro e w3 ⟨v', rfl, hN, hu, hnew⟩
        have XN := H1.out.node P.out.xm
        have X3 := hu.blk (W2.out.blk XN id) (fun g => H1.out.row_ne P.out.xm P.out.xm g rfl)
        have hne : (row1 x).ownBlock ≠ some w1.heap.size := fun e => by have := (own_lt (H1.out.own x P.out.xm) e).1; omega
        have D3 := hu.blk DB.out (fun g => hne g)
        have f3 := X3.free 3
        have d3 := X3.cellAt (i := 3) (v := row1 x) rfl
        have X4 := X3.set 3 v'
        have D4 := D3.set_other (b' := x) (o := 3) (v := v') (by omega)
        have N4 : NodesAt (w3.setCell ⟨x, 3, none⟩ v') base v' (K1 ++ w1.heap.size :: K2) := own_keep hN ((Upd.refl (fun k => k = x) w3).set (fun _ => rfl)) (fun k hk => NodesAt.ne_node hN X3 hk)
        have UU : Upd (fun k => k = x ∨ (row1 x).ownBlock = some k) w1 (w3.setCell ⟨x, 3, none⟩ v') := ((W2.out.weaken (F := fun k => k = x ∨ (row1 x).ownBlock = some k) (fun _ _ g => g.elim)).trans hu (fun k _ g => Or.inr g)).set (fun _ => Or.inl rfl)
        have w2s := W2.out.size
        have NW : NewOr (row1 x) v' w1 := fun k hk => (hnew k hk).elim Or.inl (fun g => Or.inr (Nat.le_trans w2s g))
        have U4 : Hid (Upd (radF bs row) w (w3.setCell ⟨x, 3, none⟩ v')) := U1.out.trans UU (fun k hk g => by
          have : radF bs1 row1 k := g.elim (fun e => Or.inl (by rw [e]; exact P.out.xm)) (fun e => Or.inr ⟨x, P.out.xm, e⟩)
          rcases NB.out k this with g | g
          · exact g
          · omega)
        have hdn : w1.heap.size ∉ bs1 := fun hm => by have := H1.out.lt hm; omega
        have PQ := P.out.leaf HC.out hdn EK.out LS.out.1 LS.out.2
        have TBL : (T1 x).length + rest.length = key.length := by rw [← P.out.eqn, List.length_append]
        have H4 := H1.out.leaf PQ.flat P.out.xm (Nat.le_refl _) (Nat.le_trans BASE.out U1.out.size) UU X4 (by rw [ES.out] at D4; exact D4) N4 NW (by rw [P.out.eqn]; unfold maxLen; omega)
        obtain ⟨bs2, G2, T2, row2, H5, P5, HP5, NB5, XM5, erow, KD5, GP5, DM5⟩ : ∃ bs2 G2 T2 row2, Hid (RadR (w3.setCell ⟨x, 3, none⟩ v') base xa bs2 G2 T2 row2 (L.length : Int)) ∧ Hid (PutAt xa bs2 G2 T2 L key w1.heap.size []) ∧ Hid ((G2 xa).part = []) ∧ Hid (∀ k, radF bs2 row2 k → radF bs1 row1 k ∨ w1.heap.size ≤ k) ∧ Hid (x ∈ bs2) ∧ row2 x = v' ∧ Hid ((G2 x).kids[K1.length]? = some w1.heap.size) ∧ Hid ((G2 w1.heap.size).part = rest) ∧ Hid (w1.heap.size ∈ bs2) := by
          have xd : x ≠ w1.heap.size := by omega
          have rd : xa ≠ w1.heap.size := fun e => hdn (e ▸ P.out.flat.root)
          refine ⟨_, _, _, _, H4, PQ, ?_, ?_, List.mem_cons_of_mem _ P.out.xm, ?_, ?_, ?_, List.mem_cons_self ..⟩
          · show (leafG G1 x w1.heap.size rest K1 K2 xa).part = []
            unfold leafG; rw [if_neg rd]; split
            · rename_i e; rw [← e]; exact HP.out
            · exact HP.out
          · rintro k (hk | ⟨b, hb, hk⟩)
            · rcases List.mem_cons.1 hk with e | hk
              · exact Or.inr (by rw [e]; exact Nat.le_refl _)
              · exact Or.inl (Or.inl hk)
            · dsimp only at hk
              rcases List.mem_cons.1 hb with e | hb
              · rw [e, if_pos rfl] at hk; cases hk
              · rw [if_neg (show b ≠ w1.heap.size from fun e => hdn (by rw [← e]; exact hb))] at hk
                by_cases e : b = x
                · rw [if_pos e] at hk
                  exact (NW k hk).elim (fun g => Or.inl (Or.inr ⟨x, P.out.xm, g⟩)) Or.inr
                · rw [if_neg e] at hk; exact Or.inl (Or.inr ⟨b, hb, hk⟩)
          · show (if x = w1.heap.size then _ else if x = x then v' else row1 x) = v'
            rw [if_neg xd, if_pos rfl]
          · show (leafG G1 x w1.heap.size rest K1 K2 x).kids[K1.length]? = _
            unfold leafG; rw [if_neg xd, if_pos rfl]; simp
          · show (leafG G1 x w1.heap.size rest K1 K2 w1.heap.size).part = rest
            unfold leafG; rw [if_pos rfl]
        obtain ⟨g, cap, e2, cg, hgl, hil, hk256⟩ := H5.out.kidAt XM5.out KD5.out
        rw [erow] at e2
        have cd := H5.out.c0 DM5.out
        rw [GP5.out, ← ES.out] at cd
        have ci : ((K1.length : Nat) : Int) < ((G2 x).kids.length : Int) := by omega
        subst e2
        have CO := common_any rest rest (w3.setCell ⟨x, 3, none⟩ (.slice (some ⟨g, 0, none⟩) (G2 x).kids.length cap)) (by omega) (by omega)
        rw [← ES.out, lcp_self] at CO
        have CO := Lib.hid CO
        have rd := run_drop rest (rest.length : Int) (by omega) (by omega)
        rw [← ES.out, Int.toNat_natCast, List.drop_length] at rd
        have e0 : ofL ([] : Txt) = ByteArray.empty := rfl
        rw [e0] at rd
        have NB6 : Hid (∀ k, radF bs2 row2 k → radF bs row k ∨ w.heap.size ≤ k) := fun k hk => (NB5.out k hk).elim (NB.out k) (fun g => Or.inr (Nat.le_trans U1.out.size g))
        have hrp : 0 < rest.length := by rw [HC.out]; simp
        clear XN X3 D3 X4 D4 N4 UU NW PQ H4 hN hu hnew IN W2 DB NB5 P H c3 hdn hne EK LS KF H1
        generalize K1.length = i at *
        generalize (G2 x).kids.length = nk at *
        generalize hdd : w1.heap.size = d at *
        go_wp2_with fail
        refine CO.out.mono ?_
        rintro e w5 ⟨rfl, u⟩
        have cd5 : w5.cell? ⟨d, 0, none⟩ = some (.string s) := by
          have := (H5.out.keep0 u).c0 DM5.out
          rw [GP5.out, ← ES.out] at this; exact this
        have H6 := Lib.hid (H5.out.keep0 u)
        have U6 := Lib.hid (U4.out.trans u (fun _ _ g => g.elim))
        have ql : ¬ ((rest.length : Int) < (rest.length : Int)) := by omega
        have qw : (rest.length : Int) ≤ (s.size : Int) := by omega
        clear u CO cg cd ci
        go_wp2
        go_roundw
        case rel => exact ⟨bs2, G2, T2, row2, d, [], ByteArray.empty, by first | rfl | simp, rfl, Lib.hid rfl, rfl, Nat.zero_le _, H6, P5, HP5, U6, NB6⟩
        case measure => simp [strLen, hsz]; exact hrp
      | true =>
        obtain ⟨y, hy, hyc, K1, K2, ekk, eki⟩ := HI.out.some
        obtain ⟨g, cap, erow, cg, hgl, hil, hk256⟩ := H1.out.kidAt P.out.xm hy
        have hym := List.mem_of_getElem? hy
        have YM := Lib.hid (H1.out.flat.kid x P.out.xm y hym).1
        have hp0 : 0 < (G1 y).part.length := List.length_pos_iff.2 (H1.out.flat.kid x P.out.xm y hym).2.1
        have hpm : (G1 y).part.length ≤ maxLen := H1.out.part_len P.out.xm hym
        have c3 := H1.out.c3 P.out.xm
        rw [erow] at c3
        have cy := H1.out.c0 YM.out
        have PSZ := ofL_size (G1 y).part
        have CO := common_any (G1 y).part rest w1 (by unfold maxLen at hpm; omega) (by omega)
        obtain ⟨sp, hsp⟩ : ∃ sp, sp = ofL (G1 y).part := ⟨_, rfl⟩
        rw [← ES.out, ← hsp] at CO
        rw [← hsp] at cy PSZ
        have HSP := Lib.hid hsp
        have KL : Hid ((lcp (G1 y).part rest).length ≤ (G1 y).part.length ∧ (lcp (G1 y).part rest).length ≤ rest.length) := ⟨(lcp_left _ _).length_le, (lcp_right _ _).length_le⟩
        have W1 : Hid ((lcp (G1 y).part rest).length = (G1 y).part.length ↔ (G1 y).part <+: rest) := lcp_whole
        have CO := Lib.hid CO
        have qi : (i : Int) < ((G1 x).kids.length : Int) := by omega
        have HY := Lib.hid (And.intro hy (And.intro hym hyc))
        have EKK := Lib.hid (And.intro ekk eki)
        clear hy hyc hym ekk eki hsp hil
        generalize hnk : (G1 x).kids.length = nk at *
        generalize hkk : (lcp (G1 y).part rest).length = k at *
        generalize hnp : (G1 y).part.length = np at *
        go_wp2_with fail
        refine (CO.out).mono ?_
        rintro e w2 ⟨rfl, u⟩
        have H2 := Lib.hid (H1.out.keep0 u)
        have U2 := Lib.hid (U1.out.trans u (fun _ _ g => g.elim))
        have u2s := u.size
        have c3 := H2.out.c3 P.out.xm
        rw [erow] at c3
        have cy := H2.out.c0 YM.out
        rw [← HSP.out] at cy
        have cg2 : w2.cell? ⟨g, i, none⟩ = some (.pointer (some ⟨y, 0, none⟩)) := (u.cell (p := ⟨g, i, none⟩) hgl id).trans cg
        clear u CO cg HI
        obtain ⟨hk1, hk2⟩ := KL.out
        by_cases hlt : k < np
        · have q1 : (k : Int) < (np : Int) := by omega
          have hnpre : ¬ (G1 y).part <+: rest := fun hpre => by have := W1.out.2 hpre; omega
          have XN := H2.out.node P.out.xm
          have yx : y ≠ x := by rintro rfl; exact absurd (H2.out.flat.kid_len P.out.xm HY.out.2.1) (Nat.lt_irrefl _)
          have yr := H2.out.flat.not_root P.out.xm HY.out.2.1
          have YN := H2.out.at_ y YM.out yr
          have hyl := H2.out.lt YM.out
          have hxl := H2.out.lt P.out.xm
          have OWN0 : NodesAt w2 base (row1 x) (G1 x).kids := H2.out.own x P.out.xm
          obtain ⟨_, ⟨e0, _⟩ | ⟨g', cap', cs, e0, hg, hB, hc', hm'⟩⟩ := own_blk OWN0
          · rw [erow] at e0; cases e0
          obtain ⟨rfl, rfl⟩ : g = g' ∧ cap = cap' := by
            rw [erow] at e0; injection e0 with e1 e2 e3; injection e1 with e1; injection e1 with e1; exact ⟨e1, e3⟩
          clear e0
          have hgown : (row1 x).ownBlock = some g := by rw [erow]; rfl
          have gy : g ≠ y := H2.out.row_ne YM.out P.out.xm hgown
          have gx : g ≠ x := H2.out.row_ne P.out.xm P.out.xm hgown
          have hgl2 := hB.lt
          have rt := run_take (G1 y).part (k : Int) (by omega) (by omega)
          have hlp : (G1 y).part.take k = lcp (G1 y).part rest := by rw [← hkk]; exact take_pre.2 (lcp_left _ _)
          rw [← HSP.out, Int.toNat_natCast, hlp] at rt
          have rd2 := run_drop (G1 y).part (k : Int) (by omega) (by omega)
          rw [← HSP.out, Int.toNat_natCast] at rd2
          obtain ⟨s1, hs1⟩ : ∃ s1, s1 = ofL (lcp (G1 y).part rest) := ⟨_, rfl⟩
          obtain ⟨s2, hs2⟩ : ∃ s2, s2 = ofL ((G1 y).part.drop k) := ⟨_, rfl⟩
          rw [← hs1] at rt
          rw [← hs2] at rd2
          have sz1 : s1.size = k := by rw [hs1, ofL_size, hkk]
          have rd := run_drop rest (k : Int) (by omega) (by omega)
          rw [← ES.out, Int.toNat_natCast] at rd
          obtain ⟨s', hs'⟩ : ∃ s', s' = ofL (rest.drop k) := ⟨_, rfl⟩
          rw [← hs'] at rd
          have HS := Lib.hid hs'
          have HSL : s'.size = rest.length - k := by rw [hs', ofL_size, List.length_drop]
          have hAs : (w2.alloc (.cells #[.pointer (some ⟨y, 0, none⟩)] 192)).heap.size = w2.heap.size + 1 := by simp
          have RA : Blk ((w2.alloc (.cells #[.pointer (some ⟨y, 0, none⟩)] 192)).alloc (.cells #[.string s1, .bool false, .int .i64 0, .slice (some ⟨w2.heap.size, 0, none⟩) 1 1] 184)) w2.heap.size [ptr y] 192 := (Blk.made w2 [ptr y] _).alloc _
          have DA : Blk ((w2.alloc (.cells #[.pointer (some ⟨y, 0, none⟩)] 192)).alloc (.cells #[.string s1, .bool false, .int .i64 0, .slice (some ⟨w2.heap.size, 0, none⟩) 1 1] 184)) (w2.heap.size + 1) [.string s1, .bool false, .int .i64 0, .slice (some ⟨w2.heap.size, 0, none⟩) 1 1] 184 := by
            have := Blk.made (w2.alloc (.cells #[.pointer (some ⟨y, 0, none⟩)] 192)) [.string s1, .bool false, .int .i64 0, .slice (some ⟨w2.heap.size, 0, none⟩) 1 1] 184
            rw [hAs] at this; exact this
          have YA := (YN.alloc (.cells #[.pointer (some ⟨y, 0, none⟩)] 192)).alloc (.cells #[.string s1, .bool false, .int .i64 0, .slice (some ⟨w2.heap.size, 0, none⟩) 1 1] 184)
          have XA := (XN.alloc (.cells #[.pointer (some ⟨y, 0, none⟩)] 192)).alloc (.cells #[.string s1, .bool false, .int .i64 0, .slice (some ⟨w2.heap.size, 0, none⟩) 1 1] 184)
          have GA := (hB.alloc (.cells #[.pointer (some ⟨y, 0, none⟩)] 192)).alloc (.cells #[.string s1, .bool false, .int .i64 0, .slice (some ⟨w2.heap.size, 0, none⟩) 1 1] 184)
          have UA : Upd (fun k => k = y ∨ (row1 x).ownBlock = some k) w2 ((w2.alloc (.cells #[.pointer (some ⟨y, 0, none⟩)] 192)).alloc (.cells #[.string s1, .bool false, .int .i64 0, .slice (some ⟨w2.heap.size, 0, none⟩) 1 1] 184)) := ((Upd.refl _ _).alloc _).alloc _
          have fy := YN.free 0
          have fg := hB.free i
          have a0 := YA.cellAt (i := 0) (v := .string sp) (by rw [HSP.out]; rfl)
          have a1 := YA.free 0
          have YB := YA.set 0 (.string s2)
          have XB := XA.set_other (b' := y) (o := 0) (v := .string s2) (Ne.symm yx)
          have GB := GA.set_other (b' := y) (o := 0) (v := .string s2) gy
          have RB := RA.set_other (b' := y) (o := 0) (v := .string s2) (by omega)
          have DB := DA.set_other (b' := y) (o := 0) (v := .string s2) (by omega)
          have UB := UA.set (b := y) (o := 0) (v := .string s2) (fun _ => Or.inl rfl)
          have b3 := XB.cellAt (i := 3) (v := row1 x) rfl
          rw [erow] at b3
          have bg := GB.cellAt (i := i) (v := .pointer (some ⟨y, 0, none⟩)) (by rw [List.getElem?_append_left (by have := (List.getElem?_eq_some_iff.1 HY.out.1).1; simpa using this), List.getElem?_map, HY.out.1]; rfl)
          have bf := GB.free i
          have YC := YB.set_other (b' := g) (o := i) (v := .pointer (some ⟨w2.heap.size + 1, 0, none⟩)) (Ne.symm gy)
          have GC := GB.set i (.pointer (some ⟨w2.heap.size + 1, 0, none⟩))
          have RC := RB.set_other (b' := g) (o := i) (v := .pointer (some ⟨w2.heap.size + 1, 0, none⟩)) (by omega)
          have DC := DB.set_other (b' := g) (o := i) (v := .pointer (some ⟨w2.heap.size + 1, 0, none⟩)) (by omega)
          have UC := UB.set (b := g) (o := i) (v := .pointer (some ⟨w2.heap.size + 1, 0, none⟩)) (fun _ => Or.inr hgown)
          have dc := DC.cellAt (i := 0) (v := .string s1) rfl
          have hdn : w2.heap.size + 1 ∉ bs1 := fun hm => by have := H2.out.lt hm; omega
          have PQ := P.out.split HC.out hdn EKK.out.1 HY.out.2.2 hnpre
          rw [hkk] at PQ
          have TBL : (T1 x).length + rest.length = key.length := by rw [← P.out.eqn, List.length_append]
          have bw2 : base ≤ w2.heap.size := Nat.le_trans BASE.out U2.out.size
          have eY : (ndc (G1 y) (row1 y)).set 0 (.string s2) = ndc { G1 y with part := (G1 y).part.drop k } (row1 y) := by rw [hs2]; rfl
          have eD : [.string s1, .bool false, .int .i64 0, .slice (some ⟨w2.heap.size, 0, none⟩) 1 1] = ndc ⟨lcp (G1 y).part rest, false, 0, [y]⟩ (.slice (some ⟨w2.heap.size, 0, none⟩) 1 1) := by rw [hs1]; rfl
          have H4 := H2.out.split (d := w2.heap.size + 1) (v' := .slice (some ⟨w2.heap.size, 0, none⟩) 1 1) PQ.flat P.out.xm HY.out.2.1 (by omega) (by omega) UC (by rw [← eY]; exact YC) (by rw [← eD]; exact DC) (own_of (cs := []) bw2 RC rfl rfl (by unfold maxLen; omega)) (fun q hq => Nat.le_of_eq (Option.some.inj hq))
            (by
              have el : (G1 x).kids.length = (K1 ++ (w2.heap.size + 1) :: K2).length := by rw [EKK.out.1]; simp
              have e : ((G1 x).kids.map ptr ++ cs).set i (.pointer (some ⟨w2.heap.size + 1, 0, none⟩)) = (K1 ++ (w2.heap.size + 1) :: K2).map ptr ++ cs := by
                rw [EKK.out.1, ← EKK.out.2]; simp [ptr]
              rw [e] at GC
              unfold NodesAt
              rw [erow, show nk = (K1 ++ (w2.heap.size + 1) :: K2).length by omega]
              exact own_of hg GC (by simp) (by omega) hm') (by rw [List.length_append, hkk]; unfold maxLen; omega)
          have U4 : Hid (Upd (radF bs row) w _) := U2.out.trans UC (fun q hq g => by
            have : radF bs1 row1 q := g.elim (fun e => Or.inl (by rw [e]; exact YM.out)) (fun e => Or.inr ⟨x, P.out.xm, e⟩)
            rcases NB.out q this with g | g
            · exact g
            · omega)
          rw [set_alloc2 w2 _ _ y 0 _ hyl, set_alloc2 (w2.setCell ⟨y, 0, none⟩ (.string s2)) _ _ g i _ (by simpa [World.setCell] using hgl2)] at H4 U4
          obtain ⟨bs2, G2, T2, row2, H5, P5, HP5, NB5⟩ : ∃ bs2 G2 T2 row2, Hid (RadR _ base xa bs2 G2 T2 row2 (L.length : Int)) ∧ Hid (PutAt xa bs2 G2 T2 L key (w2.heap.size + 1) (rest.drop k)) ∧ Hid ((G2 xa).part = []) ∧ Hid (∀ k, radF bs2 row2 k → radF bs row k ∨ w.heap.size ≤ k) := by
            refine ⟨_, _, _, _, H4, PQ, ?_, ?_⟩
            · show (partG G1 x (w2.heap.size + 1) y _ _ K1 K2 xa).part = []
              unfold partG; rw [if_neg (fun e => hdn (by rw [← e]; exact P.out.flat.root)), if_neg (Ne.symm yr)]; split
              · rename_i e; rw [← e]; exact HP.out
              · exact HP.out
            · rintro q (hq | ⟨b, hb, hq⟩)
              · rcases List.mem_cons.1 hq with e | hq
                · exact Or.inr (by rw [e]; exact Nat.le_trans U2.out.size (Nat.le_succ _))
                · exact NB.out q (Or.inl hq)
              · dsimp only at hq
                rcases List.mem_cons.1 hb with e | hb
                · rw [e, if_pos rfl] at hq
                  exact Or.inr (Nat.le_trans U2.out.size (Nat.le_of_eq (Option.some.inj hq)))
                · rw [if_neg (show b ≠ w2.heap.size + 1 from fun e => hdn (by rw [← e]; exact hb))] at hq
                  exact NB.out q (Or.inr ⟨b, hb, hq⟩)
          have hk0 : 0 < k := by
            rw [← hkk]
            cases hg1 : (G1 y).part with
            | nil => rw [hg1] at hnp; simp at hnp; omega
            | cons p0 p =>
              have : p0 = c := by have := HY.out.2.2; unfold hdN at this; rw [hg1] at this; exact this
              rw [HC.out, this]; simp [lcp]
          clear XN YN OWN0 hB RA DA YA XA GA UA YB XB GB RB DB UB YC GC RC DC UC H4 PQ P H NB eY eD hs1 hs2 hs' hdn hgown TBL HY EKK KL W1 H1 H2 U2 bw2 hc' hm' hg
          clear hlp hkk hAs hnpre a0 a1 b3 bg bf dc
          go_wp2
          go_roundw
          case rel => exact ⟨bs2, G2, T2, row2, _, rest.drop k, s', rfl, rfl, HS, by rw [HSL, List.length_drop], by rw [List.length_drop]; omega, H5, P5, HP5, U4, NB5⟩
          case measure => simp [strLen]; omega
        · have q1 : ¬ (k : Int) < (np : Int) := by omega
          have hpre : (G1 y).part <+: rest := W1.out.1 (by omega)
          have PD := Lib.hid (P.out.down HC.out HY.out.2.1 HY.out.2.2 hpre)
          have hpl : (G1 y).part.length ≤ rest.length := hpre.length_le
          rw [hnp] at hpl PD
          have rd := run_drop rest (np : Int) (by omega) (by omega)
          rw [← ES.out, Int.toNat_natCast] at rd
          obtain ⟨s', hs'⟩ : ∃ s', s' = ofL (rest.drop np) := ⟨_, rfl⟩
          rw [← hs'] at rd
          have HS := Lib.hid hs'
          have HSL : s'.size = rest.length - np := by rw [hs', ofL_size, List.length_drop]
          clear hs'
          go_wp2
          go_roundw
          case rel => exact ⟨bs1, G1, T1, row1, y, rest.drop np, s', rfl, rfl, HS, by rw [HSL, List.length_drop], by rw [List.length_drop]; omega, H2, PD, HP, U2, NB⟩
          case measure => simp [strLen]; omega
theorem radPut_any (w : World) (base xa : Nat) (L : List MarkP) (E : Nat → Prop) (h : TreeAt w base xa L E) (hL : L.length ≤ 1000000) (hb : base ≤ w.heap.size) (key : Txt) (n : Int) (hk : key.length ≤ 9223372036854775807) :
    Calls Tryz.prog 93 #[.pointer (some ⟨xa, 0, none⟩), .string (ofL key), .int .i64 n] w fun e w' => e = .returned (.bool (!(getL L key).2)) ∧ Upd E w w' ∧ ∃ E', TreeAt w' base xa (putM key n L) E' ∧ ∀ k, E' k → E k ∨ w.heap.size ≤ k := by
  obtain ⟨bs, G, T, row, h1, h2, h3, h4, rfl⟩ := h
  exact put_raw h1 h3 h2 h4 hL hb key n hk
end
end Go.Proofs.YtmlojbfcmebboaaGreat
/- Rows of nodes of the call's own: one less. -/
set_option linter.unusedVariables false
set_option linter.unusedSimpArgs false
namespace Go.Proofs.YtmlojbfcmebboaaGreat
open Go.RowKit Go.Sort Go.Proofs

theorem Blk.putRow {α : Type} [Inhabited α] {enc : α → Value} {w : World} {g : Nat} {cs : List Value} {T : TypeId} (h : Blk w g cs T) (d : List α) (hd : d.length ≤ cs.length) : Blk (Sort.putRow enc w g 0 d.toArray) g (d.map enc ++ cs.drop d.length) T := by
  unfold Blk at *
  unfold Sort.putRow mapBlock
  simp only [Array.getElem?_modify, h, if_true, Option.map_some]
  simp only [onCells]
  congr 2
  apply Array.ext_getElem?
  intro k
  simp only [putCells, Array.getElem?_mapIdx, List.getElem?_toArray]
  by_cases hk : k < d.length
  · rw [List.getElem?_append_left (by simpa using hk)]
    have hc : k < cs.length := by omega
    rw [List.getElem?_eq_getElem hc]
    simp [hk]
  · rw [List.getElem?_append_right (by simpa using hk)]
    simp [hk, List.getElem?_drop]
    rw [show d.length + (k - d.length) = k by omega]
def enO : Option Nat → Value
  | some b => ptr b
  | none => .pointer none
theorem delP_any (w : World) (base : Nat) (v : Value) (K1 K2 : List Nat) (x : Nat) (h : NodesAt w base v (K1 ++ x :: K2)) :
    Calls Tryz.prog 158 #[v, .int .i64 (K1.length : Int), .int .i64 ((K1.length : Int) + 1)] w fun e w' => ∃ v', e = .returned v' ∧ NodesAt w' base v' (K1 ++ K2) ∧ Upd (fun k => v.ownBlock = some k) w w' ∧ (∀ k, v'.ownBlock = some k → v.ownBlock = some k) := by
  obtain ⟨hlen, ⟨_, e0⟩ | ⟨g, cap, cs, ev, hg, hB, hc, hm⟩⟩ := own_blk h
  · simp at e0
  · subst ev
    obtain ⟨i0, hi0, hz0, hz1, hz2⟩ := rinfo_parts nodep_info
    have hsz : ((K1 ++ x :: K2).map some).toArray.size = (K1 ++ x :: K2).length := by simp
    have hH : Holds enO w g 0 ((K1 ++ x :: K2).map some).toArray := fun t ht => by
      rw [Nat.zero_add]
      rw [hsz] at ht
      refine ⟨hB.cellAt ?_, hB.free t⟩
      rw [List.getElem?_append_left (by simpa using ht), List.getElem?_map, List.getElem?_eq_getElem ht, getElem!_pos _ t (by rw [hsz]; exact ht)]
      rw [List.getElem_toArray, List.getElem_map]; rfl
    have := AnyE.slices_Delete Tryz.layDel enO (fun a => by cases a <;> rfl) none (fun _ => by kernel_rfl) i0 hi0 hz1 g 0 cap K1.length (K1.length + 1) ((K1 ++ x :: K2).map some).toArray w hH (by rw [hsz]; omega) hm (by omega) (by rw [hsz]; simp)
    rw [hsz] at this
    have ec : ((K1.length + 1 : Nat) : Int) = (K1.length : Int) + 1 := by omega
    rw [ec] at this
    refine Calls.mono this ?_
    rintro e w' ⟨rfl, q, rfl⟩
    have el : (K1 ++ x :: K2).length - (K1.length + 1 - K1.length) = (K1 ++ K2).length := by simp <;> omega
    rw [el]
    have ed : (((K1 ++ x :: K2).map some).toArray.toList.take K1.length ++ ((K1 ++ x :: K2).map some).toArray.toList.drop (K1.length + 1) ++ List.replicate (K1.length + 1 - K1.length) (none : Option Nat)) = (K1 ++ K2).map some ++ [none] := by
      simp [List.drop_append]
    rw [ed]
    have hB2 : Blk (Sort.ahead w q) g ((K1 ++ x :: K2).map ptr ++ cs) 192 := hB
    have hP := hB2.putRow (enc := enO) ((K1 ++ K2).map some ++ [none]) (by simp <;> omega)
    refine ⟨_, rfl, ?_, ⟨rfl, rfl, rfl, by simp [Sort.putRow, mapBlock, Sort.ahead], fun k hk hF => ?_⟩, fun k hk => hk⟩
    · unfold NodesAt
      refine own_of (cs := .pointer none :: cs) hg ?_ (by simp) (by simp at hc ⊢; omega) hm
      have e1 : (K1 ++ K2).map ptr ++ .pointer none :: cs = ((K1 ++ K2).map some ++ [none]).map enO ++ ((K1 ++ x :: K2).map ptr ++ cs).drop ((K1 ++ K2).map some ++ [none]).length := by
        have : ((K1 ++ K2).map some ++ [none]).length = ((K1 ++ x :: K2).map ptr).length := by simp <;> omega
        rw [this, List.drop_left]
        simp [enO, Function.comp_def]
      rw [e1]; exact hP
    · have : k ≠ g := fun e => hF (by rw [e]; rfl)
      simp [Sort.putRow, mapBlock, Sort.ahead, Array.getElem?_modify, Ne.symm this]
end Go.Proofs.YtmlojbfcmebboaaGreat
/- The tree: what is said of it by its marks: get, above. -/
set_option linter.unusedVariables false
set_option linter.unusedSimpArgs false
set_option linter.unusedSectionVars false
namespace Go.Proofs.YtmlojbfcmebboaaGreat
open Go.RowKit

theorem max_of {α : Type} (f : α → Nat) : ∀ {l : List α}, l ≠ [] → ∃ c ∈ l, ∀ d ∈ l, f d ≤ f c
  | [a], _ => ⟨a, List.mem_cons_self .., fun d hd => by simp at hd; rw [hd]; exact Nat.le_refl _⟩
  | a :: b :: l, _ => by
    obtain ⟨c, hc, h⟩ := max_of f (l := b :: l) (by simp)
    by_cases hx : f c ≤ f a
    · refine ⟨a, List.mem_cons_self .., fun d hd => ?_⟩
      rcases List.mem_cons.1 hd with e | hd
      · rw [e]; exact Nat.le_refl _
      · exact Nat.le_trans (h d hd) hx
    · refine ⟨c, List.mem_cons_of_mem _ hc, fun d hd => ?_⟩
      rcases List.mem_cons.1 hd with e | hd
      · rw [e]; omega
      · exact h d hd
section
variable {r : Nat} {bs : List Nat} {G : Nat → Nd} {T : Nat → Txt} {L : List MarkP}
/-- Below each node but the root a mark stands. -/
theorem Flat.below (h : Flat r bs G T) (hn : Need r bs G) {d : Nat} (hd : d ∈ bs) (hr : d ≠ r) : ∃ c ∈ bs, T d <+: T c ∧ (G c).there = true := by
  obtain ⟨c, hc, hmax⟩ := max_of (fun c => (T c).length) (l := bs.filter fun c => (T d).isPrefixOf (T c)) (List.ne_nil_of_mem (a := d) (List.mem_filter.2 ⟨hd, by rw [List.isPrefixOf_iff_prefix]; exact List.prefix_refl _⟩))
  rw [List.mem_filter, List.isPrefixOf_iff_prefix] at hc
  refine ⟨c, hc.1, hc.2, ?_⟩
  have hcr : c ≠ r := by
    rintro rfl
    rw [h.troot] at hc
    have e : T d = [] := List.prefix_nil.1 hc.2
    exact hr (h.inj hd hc.1 (by rw [e, h.troot]))
  rcases hn c hc.1 hcr with e | e
  · exact e
  · obtain ⟨z, hz⟩ : ∃ z, z ∈ (G c).kids := List.exists_mem_of_length_pos (by omega)
    have h1 := h.kid_len hc.1 hz
    have h2 := hmax z (List.mem_filter.2 ⟨(h.kid c hc.1 z hz).1, by rw [List.isPrefixOf_iff_prefix]; exact List.IsPrefix.trans hc.2 (h.kid_pre hc.1 hz)⟩)
    omega
theorem Marks.over (hm : Marks bs G T L) (h : Flat r bs G T) (hn : Need r bs G) (k : Txt) : (L ≠ [] ∧ ∃ d ∈ bs, k <+: T d) ↔ walkL L k ≠ [] := by
  constructor
  · rintro ⟨hL, d, hd, hp⟩
    by_cases e : d = r
    · subst e
      rw [h.troot] at hp
      have : k = [] := List.prefix_nil.1 hp
      subst this
      obtain ⟨m, hm'⟩ := List.exists_mem_of_ne_nil _ hL
      refine List.ne_nil_of_mem (a := m) ?_
      unfold walkL; rw [List.mem_filter]; exact ⟨hm', by simp⟩
    · obtain ⟨c, hc, pc, tc⟩ := h.below hn hd e
      refine List.ne_nil_of_mem (a := (T c, (G c).n)) ?_
      unfold walkL; rw [List.mem_filter]
      exact ⟨(hm.mem _ _).2 ⟨c, hc, rfl, tc, rfl⟩, by simpa using List.IsPrefix.trans hp pc⟩
  · intro hw
    obtain ⟨m, hm'⟩ := List.exists_mem_of_ne_nil _ hw
    unfold walkL at hm'; rw [List.mem_filter] at hm'
    obtain ⟨c, hc, e, _⟩ := (hm.mem m.1 m.2).1 hm'.1
    exact ⟨List.ne_nil_of_mem hm'.1, c, hc, by rw [e]; simpa using hm'.2⟩
end
def overB (L : List MarkP) (k : Txt) : Bool := decide (walkL L k ≠ [] ∨ aboveL L k ≠ [])
section
variable {w w' : World} {base xa : Nat} {bs : List Nat} {G : Nat → Nd} {T : Nat → Txt} {row : Nat → Value} {many : Int} {L : List MarkP}
theorem bs_few (h : Flat xa bs G T) (hn : Need xa bs G) (hm : Marks bs G T L) : bs.length ≤ 2 * L.length + 1 := by
  obtain ⟨S, hp, hs⟩ := h.sort_ex
  have e : L.length = (bs.filter fun b => (G b).there).length := by
    rw [← hm.all hp hs]; unfold mksOf
    rw [List.length_map]; exact (hp.filter _).length_eq
  rw [e]; exact h.count hn
theorem radGet_big (w : World) (base xa : Nat) (L : List MarkP) (E : Nat → Prop) (key : Txt) (h : TreeAt w base xa L E) (hL : L.length ≤ 1000000) (hk : key.length ≤ 9223372036854775807) :
    Calls Tryz.prog 89 #[.pointer (some ⟨xa, 0, none⟩), .string (ofL key)] w fun e w' => e = .returned (.tuple #[.int .i64 (getL L key).1, .bool (getL L key).2]) ∧ Upd (fun _ => False) w w' := by
  obtain ⟨bs, G, T, row, h1, h2, h3, h4, rfl⟩ := h
  exact radGet_raw w base xa L key h1 h3 hk (h1.flat.way_few (Nat.le_trans (bs_few h1.flat h2 h3) (by omega)) key)
theorem radAbove_any (w : World) (base xa : Nat) (L : List MarkP) (E : Nat → Prop) (h : TreeAt w base xa L E) (hL : L.length ≤ 100000) (key : Txt) (hk : key.length ≤ 1000000) :
    Calls Tryz.prog 108 #[.pointer (some ⟨xa, 0, none⟩), .string (ofL key)] w fun e w' => ∃ v, e = .returned v ∧ MarksAt w' w.heap.size v (aboveL L key) ∧ Upd (fun _ => False) w w' := by
  obtain ⟨bs, G, T, row, h1, h2, h3, h4, rfl⟩ := h
  exact above_raw h1 h3 (by omega) key hk
/-- How many nodes: the texts at which one stands or two part, and the root. -/
def NodesN (L : List MarkP) (n : Nat) : Prop := ∃ l : List Txt, l.Nodup ∧ l.length = n ∧ ∀ t, t ∈ l ↔ t = [] ∨ (∃ a ∈ L, a.1 = t) ∨ (∃ a ∈ L, ∃ b ∈ L, lcp a.1 b.1 = t)
theorem NodesN.uniq {L : List MarkP} {n m : Nat} (h1 : NodesN L n) (h2 : NodesN L m) : n = m := by
  obtain ⟨l1, n1, rfl, m1⟩ := h1
  obtain ⟨l2, n2, rfl, m2⟩ := h2
  exact ((List.perm_ext_iff_of_nodup n1 n2).2 fun t => (m1 t).trans (m2 t).symm).length_eq
theorem Marks.nodes (hm : Marks bs G T L) (h : Flat xa bs G T) (hn : Need xa bs G) : NodesN L bs.length := by
  refine ⟨bs.map T, ?_, by simp, fun t => ?_⟩
  · unfold List.Nodup
    rw [List.pairwise_map]
    refine List.Pairwise.imp_of_mem (fun {a b} ha hb ne e => ne (h.inj ha hb e)) h.nodup
  · rw [h.texts_mem hn]
    have e1 : ∀ t, (∃ b ∈ bs, (G b).there = true ∧ T b = t) ↔ ∃ a ∈ L, a.1 = t := fun t => by
      constructor
      · rintro ⟨b, hb, tb, e⟩; exact ⟨(T b, (G b).n), (hm.mem _ _).2 ⟨b, hb, rfl, tb, rfl⟩, e⟩
      · rintro ⟨a, ha, e⟩
        obtain ⟨b, hb, e2, tb, _⟩ := (hm.mem a.1 a.2).1 ha
        exact ⟨b, hb, tb, e2.trans e⟩
    rw [e1]
    refine or_congr Iff.rfl (or_congr Iff.rfl ?_)
    constructor
    · rintro ⟨a, ha, b, hb, ta, tb, e⟩
      exact ⟨(T a, (G a).n), (hm.mem _ _).2 ⟨a, ha, rfl, ta, rfl⟩, (T b, (G b).n), (hm.mem _ _).2 ⟨b, hb, rfl, tb, rfl⟩, e⟩
    · rintro ⟨a, ha, b, hb, e⟩
      obtain ⟨c, hc, ec, tc, _⟩ := (hm.mem a.1 a.2).1 ha
      obtain ⟨d, hd, ed, td, _⟩ := (hm.mem b.1 b.2).1 hb
      exact ⟨c, hc, d, hd, tc, td, by rw [ec, ed]; exact e⟩
end
end Go.Proofs.YtmlojbfcmebboaaGreat
