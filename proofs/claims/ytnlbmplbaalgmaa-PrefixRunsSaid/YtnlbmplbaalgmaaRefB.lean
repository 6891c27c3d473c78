/- The document's marks: Put, Nodes. -/
import Derived.Test.YtnlbmplbaalgmaaRefA
import Derived.Test.YtnlbmplbaalgmaaLawWalks
set_option linter.unusedVariables false
set_option linter.unusedSimpArgs false
namespace Go.Proofs.Ytnlbmplbaalgmaa
open Go.RowKit

theorem insM_snoc {x m : MarkP} (h : x.1 < m.1) : ∀ A : List MarkP, insM x (A ++ [m]) = insM x A ++ [m]
  | [] => by show insM x [m] = [x] ++ [m]; rw [insM, if_pos h]; rfl
  | a :: A => by
    rw [List.cons_append, insM, insM]
    by_cases g : x.1 < a.1
    · rw [if_pos g, if_pos g]; rfl
    · rw [if_neg g, if_neg g, insM_snoc h A]; rfl
theorem insM_last {x : MarkP} : ∀ {A : List MarkP}, (∀ a ∈ A, ¬ x.1 < a.1) → insM x A = A ++ [x]
  | [], _ => rfl
  | a :: A, h => by rw [insM, if_neg (h a (by simp)), insM_last (fun b hb => h b (by simp [hb]))]; rfl
/-- Where Put's loop stands. -/
def RP (key : Txt) (n : Int) (t : List MarkP) (pl fr : Bool) (acc : List MarkP) : Prop :=
  fr = !(t.any fun m => decide (m.1 = key)) ∧ ((pl = true ∧ acc = putM key n t ∧ ∃ m ∈ t, ¬ m.1 < key) ∨ (pl = false ∧ acc = t ∧ ∀ m ∈ t, m.1 < key))
section
variable {key : Txt} {n : Int} {t acc : List MarkP} {pl fr : Bool} {m : MarkP}
theorem any_snoc : ((t ++ [m]).any fun m => decide (m.1 = key)) = ((t.any fun m => decide (m.1 = key)) || decide (m.1 = key)) := by rw [List.any_append]; simp
theorem RP.gt (h : RP key n t true fr acc) (hr : ∀ a ∈ t, a.1 < m.1) : key < m.1 := by
  obtain ⟨_, ⟨_, _, a, ha, hk⟩ | ⟨e, _⟩⟩ := h
  · have h1 := hr a ha
    rcases List.le_iff_lt_or_eq.1 (List.not_lt.1 hk) with g | g
    · exact List.lt_trans g h1
    · rw [g]; exact h1
  · cases e
theorem cut_snoc (h : m.1 ≠ key) : cutM key (t ++ [m]) = cutM key t ++ [m] := by unfold cutM; rw [List.filter_append]; simp [h]
theorem cut_all (h : ∀ a ∈ t, a.1 < key) : cutM key t = t := by
  unfold cutM; rw [List.filter_eq_self]; intro a ha; simp only [decide_eq_true_eq]; exact fun e => List.lt_irrefl _ (e ▸ h a ha)
/-- Placed already. -/
theorem RP.on (h : RP key n t true fr acc) (hr : ∀ a ∈ t, a.1 < m.1) : RP key n (t ++ [m]) true fr (acc ++ [m]) := by
  have hg := h.gt hr
  have hne : m.1 ≠ key := fun e => List.lt_irrefl _ (e ▸ hg)
  obtain ⟨hf, ⟨_, he, a, ha, hk⟩ | ⟨e, _⟩⟩ := h
  · refine ⟨by rw [any_snoc, decide_eq_false hne, Bool.or_false]; exact hf, Or.inl ⟨rfl, ?_, a, List.mem_append_left _ ha, hk⟩⟩
    unfold putM at *
    rw [cut_snoc hne, insM_snoc hg, he]
  · cases e
theorem RP.at_ (h : RP key n t false fr acc) (e : m.1 = key) : RP key n (t ++ [m]) true false (acc ++ [(key, n)]) := by
  obtain ⟨hf, ⟨e', _⟩ | ⟨_, he, ha⟩⟩ := h
  · cases e'
  · refine ⟨by rw [any_snoc, decide_eq_true e, Bool.or_true]; rfl, Or.inl ⟨rfl, ?_, m, by simp, by rw [e]; exact List.lt_irrefl _⟩⟩
    have : cutM key (t ++ [m]) = t := by unfold cutM at *; rw [List.filter_append]; have := cut_all ha; unfold cutM at this; rw [this]; simp [e]
    unfold putM
    rw [this, he, insM_last (fun a h' g => List.lt_irrefl _ (List.lt_trans g (ha a h')))]
theorem RP.before (h : RP key n t false fr acc) (hg : key < m.1) : RP key n (t ++ [m]) true fr (acc ++ [(key, n)] ++ [m]) := by
  have hne : m.1 ≠ key := fun e => List.lt_irrefl _ (e ▸ hg)
  obtain ⟨hf, ⟨e', _⟩ | ⟨_, he, ha⟩⟩ := h
  · cases e'
  · refine ⟨by rw [any_snoc, decide_eq_false hne, Bool.or_false]; exact hf, Or.inl ⟨rfl, ?_, m, by simp, fun g => List.lt_irrefl _ (List.lt_trans g hg)⟩⟩
    unfold putM
    rw [cut_snoc hne, insM_snoc hg, cut_all ha, he, insM_last (fun a h' g => List.lt_irrefl _ (List.lt_trans g (ha a h')))]
theorem RP.not (h : RP key n t false fr acc) (hl : m.1 < key) : RP key n (t ++ [m]) false fr (acc ++ [m]) := by
  have hne : m.1 ≠ key := fun e => List.lt_irrefl _ (e ▸ hl)
  obtain ⟨hf, ⟨e', _⟩ | ⟨_, he, ha⟩⟩ := h
  · cases e'
  · refine ⟨by rw [any_snoc, decide_eq_false hne, Bool.or_false]; exact hf, Or.inr ⟨rfl, by rw [he], fun a h' => ?_⟩⟩
    rcases List.mem_append.1 h' with g | g
    · exact ha a g
    · rw [List.mem_singleton.1 g]; exact hl
theorem RP.len (h : RP key n t pl fr acc) : acc.length ≤ t.length + 1 := by
  obtain ⟨_, ⟨_, rfl, _⟩ | ⟨_, rfl, _⟩⟩ := h
  · unfold putM cutM
    rw [(insM_perm _ _).length_eq, List.length_cons]
    have := List.length_filter_le (fun m : MarkP => decide (m.1 ≠ key)) t
    omega
  · omega
theorem RP.fresh (h : RP key n t pl fr acc) (hr : t.Pairwise fun a b => a.1 < b.1) : fr = !(getL t key).2 := by
  rw [h.1]; congr 1
  rw [Bool.eq_iff_iff, getL_iff hr, List.any_eq_true]
  constructor
  · rintro ⟨m, hm, e⟩; exact ⟨m.2, by rw [← of_decide_eq_true e]; exact hm⟩
  · rintro ⟨q, hq⟩; exact ⟨_, hq, decide_eq_true rfl⟩
theorem RP.end_ (h : RP key n t pl fr acc) : (pl = true ∧ acc = putM key n t) ∨ (pl = false ∧ acc ++ [(key, n)] = putM key n t) := by
  obtain ⟨_, ⟨e, e2, _⟩ | ⟨e, e2, ha⟩⟩ := h
  · exact Or.inl ⟨e, e2⟩
  · refine Or.inr ⟨e, ?_⟩
    unfold putM
    rw [cut_all ha, e2, insM_last (fun a h' g => List.lt_irrefl _ (List.lt_trans g (ha a h')))]
end
set_option maxHeartbeats 8000000 in
set_option maxRecDepth 100000 in
theorem rput_any (v : Value) (l : List MarkP) (key : Txt) (n : Int) (w : World) (h : RowOf mkc 2 w v l) (hr : l.Pairwise fun a b => a.1 < b.1) (hl : l.length ≤ 10000) :
    Calls Try.prog 22 #[v, .string (ofL key), .int .i64 n] w fun e w' => ∃ v', e = .returned (.tuple #[v', .bool (!(getL l key).2)]) ∧ MarksAt w' w.heap.size v' (putM key n l) ∧ Upd (fun _ => False) w w' := by
  obtain ⟨p, c, ev, hm⟩ := h.len
  subst ev
  have H := Lib.hid h
  have HR := Lib.hid hr
  obtain ⟨sk, hsk⟩ : ∃ sk, sk = ofL key := ⟨_, rfl⟩
  rw [← hsk]
  have SK := Lib.hid hsk
  have MO : Hid (MarksAt (w.alloc (.cells #[] 30)) w.heap.size (.slice (some ⟨w.heap.size, 0, none⟩) 0 0) []) := World.ownsRow_made (e := 30) (size := 2) w #[] 0 (Nat.le_refl _) (by unfold maxLen; omega) rfl
  have UO : Hid (Upd (fun _ => False) w (w.alloc (.cells #[] 30))) := (Upd.refl _ _).alloc _
  clear h hsk hr
  go_enter Try.func22, Try.ntmps22
  go_wp2
  go_loopw [8, 9, 10, 16] (fun out x9 x10 xi wr => ∃ (k : Nat) (pl fr : Bool) (acc : List MarkP), k ≤ l.length ∧ xi = .int .i64 (k : Int) ∧ x9 = .bool pl ∧ x10 = .bool fr ∧ Hid (RP key n (l.take k) pl fr acc) ∧ Hid (MarksAt wr w.heap.size out acc) ∧ Hid (Upd (fun _ => False) w wr)) (fun _ _ _ xi _ => l.length - (intOf xi).toNat)
  case atStart => exact ⟨0, false, true, [], by omega, rfl, rfl, rfl, Lib.hid ⟨rfl, Or.inr ⟨rfl, rfl, fun m hm => by simp at hm⟩⟩, MO, UO⟩
  case round =>
    clear MO UO
    obtain ⟨k, pl, fr, acc, hk, rfl, rfl, rfl, RR, OW, U⟩ := hrel
    have hwl := U.out.size
    have hal : acc.length ≤ 10001 := by have := RR.out.len; rw [List.length_take] at this; omega
    obtain ⟨po, co, eo, _⟩ := own_slice OW.out
    subst eo
    by_cases hlt : k < l.length
    · have q1 : (k : Int) < (l.length : Int) := by omega
      obtain ⟨b, off, m, ep, hb, hmk, c0, c1⟩ := mark_rcells (H.out.keep U.out (fun _ _ _ h => h)) hlt
      subst ep
      have TK := Lib.hid (take_snocM hmk)
      have RISE : Hid (∀ a ∈ l.take k, a.1 < m.1) := fun a ha => by
        obtain ⟨i, hi, e⟩ := List.getElem_of_mem ha
        rw [List.length_take] at hi
        rw [List.getElem_take] at e
        have h2 := (List.getElem?_eq_some_iff.1 hmk)
        have := List.pairwise_iff_getElem.1 HR.out i k (by omega) hlt (by omega)
        rw [e, h2.2] at this; exact this
      have BQ := beq_txt m.1 key
      have BQ2 := beq_txt key m.1
      have LQ := less_txt key m.1
      rw [← SK.out] at BQ BQ2 LQ
      obtain ⟨wA, hwA⟩ : ∃ wA, wA = wr.alloc (.cells #[.string (ofL m.1), .int .i64 m.2] 30) := ⟨_, rfl⟩
      have UA : Upd (fun _ => False) wr wA := by rw [hwA]; exact (Upd.refl _ _).alloc _
      have OWA := OW.out.keep UA (fun _ _ h => h)
      have hAs : wA.heap.size = wr.heap.size + 1 := by rw [hwA, World.size_alloc]
      have BXA : Blk wA wr.heap.size [.string (ofL m.1), .int .i64 m.2] 30 := by rw [hwA]; exact Blk.made wr [.string (ofL m.1), .int .i64 m.2] _
      have AP := fun ty => marks_append wA w.heap.size ty _ acc OWA (by omega) (by omega) m.1 m.2
      have AX := fun ty => marks_append wA w.heap.size ty _ acc OWA (by omega) (by omega) key n
      rw [hAs, ← SK.out] at AX
      rw [hAs] at AP
      cases pl with
      | true =>
        have hg := RR.out.gt RISE.out
        have RN : Hid (RP key n (l.take (k + 1)) true fr (acc ++ [(m.1, m.2)])) := by show RP _ _ _ _ _ _; rw [TK.out]; exact RR.out.on RISE.out
        rw [decide_eq_false (show ¬ m.1 = key from fun e => List.lt_irrefl _ (e ▸ hg))] at BQ
        clear LQ BQ2 hg
        obtain ⟨v', w', hrr, AM, AU, _⟩ := AP 27
        obtain ⟨p3, c3, e3, _⟩ := own_slice AM
        subst e3
        have UF : Hid (Upd (fun _ => False) w w') := (U.out.trans UA (fun _ _ h => h)).trans AU (fun q hq e => by have := (own2_lt OWA e).2.1; omega)
        have AM := Lib.hid AM
        rw [hwA] at hrr
        clear AX AP BXA OWA UA hAs hwA AU
        generalize (acc ++ [(m.1, m.2)]).length = na at *
        generalize hsm : ofL m.1 = sm at *
        clear hmk hsm
        generalize hnl : l.length = nl at *
        go_wp2_with (at_builtin; refine wpList_builtin rfl _ _ 27 rfl _ _ rfl rfl hrr ?_)
        go_roundw
        case rel => exact ⟨k + 1, _, fr, _, by omega, by simp, rfl, rfl, RN, AM, UF⟩
        case measure => simp [intOf]; omega
      | false =>
        by_cases e : m.1 = key
        · have RN : Hid (RP key n (l.take (k + 1)) true false (acc ++ [(key, n)])) := by show RP _ _ _ _ _ _; rw [TK.out]; exact RR.out.at_ e
          rw [decide_eq_true e] at BQ
          rw [decide_eq_true e.symm] at BQ2
          rw [decide_eq_false (by rw [e]; exact List.lt_irrefl _)] at LQ
          obtain ⟨v', w', hrr, AM, AU, _⟩ := AX 27
          obtain ⟨p3, c3, e3, _⟩ := own_slice AM
          subst e3
          have UF : Hid (Upd (fun _ => False) w w') := (U.out.trans UA (fun _ _ h => h)).trans AU (fun q hq e => by have := (own2_lt OWA e).2.1; omega)
          have B2 := AU.blk BXA (fun e => by
            obtain ⟨_, _, cs, hB⟩ := own2_lt OW.out e
            have := hB.lt; omega)
          have y0 := B2.cellAt (i := 0) (v := .string (ofL m.1)) rfl
          have AM := Lib.hid AM
          rw [hwA] at hrr
          clear AX AP BXA OWA UA hAs hwA AU B2
          generalize (acc ++ [(key, n)]).length = na at *
          generalize hsm : ofL m.1 = sm at *
          clear hmk hsm
          generalize hnl : l.length = nl at *
          go_wp2_with (at_builtin; refine wpList_builtin rfl _ _ 27 rfl _ _ rfl rfl hrr ?_)
          go_roundw
          case rel => exact ⟨k + 1, _, false, _, by omega, by simp, rfl, rfl, RN, AM, UF⟩
          case measure => simp [intOf]; omega
        · rw [decide_eq_false e] at BQ
          rw [decide_eq_false (fun g => e g.symm)] at BQ2
          by_cases hg : key < m.1
          · rw [decide_eq_true hg] at LQ
            obtain ⟨v', w', hrr, AM, AU, _⟩ := AX 27
            obtain ⟨p3, c3, e3, _⟩ := own_slice AM
            subst e3
            have UF : Upd (fun _ => False) w w' := (U.out.trans UA (fun _ _ h => h)).trans AU (fun q hq e => by have := (own2_lt OWA e).2.1; omega)
            have B2 := AU.blk BXA (fun e => by
              obtain ⟨_, _, cs, hB⟩ := own2_lt OW.out e
              have := hB.lt; omega)
            have y0 := B2.cellAt (i := 0) (v := .string (ofL m.1)) rfl
            have y1 := B2.cellAt (i := 1) (v := .int .i64 m.2) rfl
            have hbl := B2.lt
            obtain ⟨v2, w2, hr2, AM2, AU2, _⟩ := marks_append w' w.heap.size 27 _ (acc ++ [(key, n)]) AM (by simp; omega) (Nat.le_trans hwl (Nat.le_trans UA.size AU.size)) m.1 m.2
            obtain ⟨p4, c4, e4, _⟩ := own_slice AM2
            subst e4
            have RN : Hid (RP key n (l.take (k + 1)) true fr (acc ++ [(key, n)] ++ [(m.1, m.2)])) := by show RP _ _ _ _ _ _; rw [TK.out]; exact RR.out.before hg
            have UF2 : Hid (Upd (fun _ => False) w w2) := UF.trans AU2 (fun q hq e => by have := (own2_lt AM e).2.1; omega)
            have AM2 := Lib.hid AM2
            rw [hwA] at hrr
            clear AX AP BXA OWA UA hAs hwA AU B2 AM UF AU2
            generalize (acc ++ [(key, n)] ++ [(m.1, m.2)]).length = nb at *
            generalize (acc ++ [(key, n)]).length = na at *
            generalize hsm : ofL m.1 = sm at *
            clear hmk hsm
            generalize hnl : l.length = nl at *
            go_wp2_with (first
              | (at_builtin; refine wpList_builtin rfl _ _ 27 rfl _ _ rfl rfl hrr ?_)
              | (at_builtin; refine wpList_builtin rfl _ _ 27 rfl _ _ rfl rfl hr2 ?_))
            go_roundw
            case rel => exact ⟨k + 1, _, fr, _, by omega, by simp, rfl, rfl, RN, AM2, UF2⟩
            case measure => simp [intOf]; omega
          · have hl2 : m.1 < key := by
              rcases List.le_iff_lt_or_eq.1 (List.not_lt.1 hg) with g | g
              · exact g
              · exact absurd g e
            rw [decide_eq_false hg] at LQ
            have RN : Hid (RP key n (l.take (k + 1)) false fr (acc ++ [(m.1, m.2)])) := by show RP _ _ _ _ _ _; rw [TK.out]; exact RR.out.not hl2
            clear hg hl2 e
            obtain ⟨v', w', hrr, AM, AU, _⟩ := AP 27
            obtain ⟨p3, c3, e3, _⟩ := own_slice AM
            subst e3
            have UF : Hid (Upd (fun _ => False) w w') := (U.out.trans UA (fun _ _ h => h)).trans AU (fun q hq e => by have := (own2_lt OWA e).2.1; omega)
            have AM := Lib.hid AM
            rw [hwA] at hrr
            clear AX AP BXA OWA UA hAs hwA AU
            generalize (acc ++ [(m.1, m.2)]).length = na at *
            generalize hsm : ofL m.1 = sm at *
            clear hmk hsm
            generalize hnl : l.length = nl at *
            go_wp2_with (at_builtin; refine wpList_builtin rfl _ _ 27 rfl _ _ rfl rfl hrr ?_)
            go_roundw
            case rel => exact ⟨k + 1, _, fr, _, by omega, by simp, rfl, rfl, RN, AM, UF⟩
            case measure => simp [intOf]; omega
    · have q1 : ¬ (k : Int) < (l.length : Int) := by omega
      have RE := RR.out
      rw [List.take_of_length_le (by omega)] at RE
      have FR : Hid (fr = !(getL l key).2) := RE.fresh HR.out
      rcases RE.end_ with ⟨rfl, ea⟩ | ⟨rfl, ea⟩
      · have EA := Lib.hid ea
        clear ea RE
        go_wp2
        go_ret2
        rw [← EA.out, ← FR.out]
        exact ⟨_, rfl, OW.out, U.out⟩
      · have EA := Lib.hid ea
        obtain ⟨v', w', hrr, AM, AU, _⟩ := marks_append wr w.heap.size 27 _ acc OW.out (by omega) hwl key n
        have UF : Hid (Upd (fun _ => False) w w') := U.out.trans AU (fun q hq e => by have := (own2_lt OW.out e).2.1; omega)
        rw [ea] at AM
        obtain ⟨p3, c3, e3, _⟩ := own_slice AM
        subst e3
        have AM := Lib.hid AM
        rw [← SK.out] at hrr
        clear ea RE AU
        generalize (putM key n l).length = na at *
        go_wp2_with (at_builtin; refine wpList_builtin rfl _ _ 27 rfl _ _ rfl rfl hrr ?_)
        go_ret2
        rw [← FR.out]
        exact ⟨_, rfl, AM.out, UF.out⟩
end Go.Proofs.Ytnlbmplbaalgmaa
