/- Walk: expiry's Due. -/
import Derived.Test.YtgdenmddbgcacaaGreatDoorK12
import Derived.Test.YtgdenmddbgcacaaGreatDoorK05
import Derived.Test.YtgdenmddbgcacaaGreatDoorK01
set_option linter.unusedVariables false
set_option linter.unusedSimpArgs false
namespace Go.Proofs.YtgdenmddbgcacaaGreatDoor
open Go.RowKit

/-- Entries that were taken out. -/
def TakenAt (w : World) (base : Nat) (v : Value) (ts : List Nat) : Prop := w.ownsRow base 140 1 v ts.length (ts.map ptr)
def dueF (xa : Nat) (v : Value) (bs : List Nat) : Nat → Prop := fun k => k = xa ∨ rowF v bs k
theorem own_get {w : World} {base n : Nat} {e : TypeId} {v : Value} {xs : List Value} (h : w.ownsRow base e 1 v n xs) {j : Nat} {x : Value} (hj : xs[j]? = some x) : ∃ g cap, v = .slice (some ⟨g, 0, none⟩) n cap ∧ w.cell? ⟨g, j, none⟩ = some x ∧ g < w.heap.size ∧ base ≤ g := by
  obtain ⟨hl, ⟨_, e⟩ | ⟨b, cap, cs, e, h1, h2, h3, h4⟩⟩ := own_blk h
  · have := (List.getElem?_eq_some_iff.1 hj).1; omega
  · exact ⟨b, cap, e, h2.cellAt (by rw [List.getElem?_append_left (List.getElem?_eq_some_iff.1 hj).1]; exact hj), h2.lt, h1⟩
theorem HeapM.keepLow {w w' : World} {base xa B : Nat} {mv v : Value} {bs : List Nat} {ent : Nat → DueP} (h : HeapM w base xa mv v bs ent) (u : Upd (fun q => B ≤ q) w w') (hx : xa < B) (hv : ∀ k, rowF v bs k → k < B) : HeapM w' base xa mv v bs ent :=
  ⟨h.row.keep u (by omega) (fun k hk e => by have := hv k hk; omega), h.heap⟩
theorem take_succ_of {l : List DueP} {k : Nat} {d : DueP} (h : (l.drop k).head? = some d) : k < l.length ∧ l.take (k + 1) = l.take k ++ [d] ∧ l.drop k = d :: l.drop (k + 1) := by
  cases hl : l.drop k with
  | nil => rw [hl] at h; cases h
  | cons x r =>
    rw [hl] at h; cases h
    have hk : k < l.length := by
      have := congrArg List.length hl; simp at this; omega
    have e1 := List.drop_eq_getElem_cons hk
    rw [hl] at e1
    injection e1 with e1 e2
    refine ⟨hk, ?_, by rw [e2]⟩
    rw [List.take_succ_eq_append_getElem hk, ← e1]
/-- The last step: all that was taken out is put back. -/
def DueEnd (w : World) (base xa mb : Nat) (l : List DueP) (now most : Int) (E : Nat → Prop) (e : Ending) (w' : World) : Prop := ∃ v, e = .returned v ∧ StrsAt w' w.heap.size v (((dueD now l).take most.toNat).map (·.2)) ∧ ExpTo w w' base xa E l
set_option maxHeartbeats 4000000 in
set_option maxRecDepth 100000 in
theorem xdue_any (w : World) (base xa : Nat) (l : List DueP) (E : Nat → Prop) (now most : Int) (h : ExpAt w base xa l E) (hb0 : base ≤ w.heap.size) (hl : l.length ≤ 10000) :
    Calls Tryz.prog 64 #[.pointer (some ⟨xa, 0, none⟩), .int .i64 now, .int .i64 most] w fun e w' => ∃ v, e = .returned v ∧ StrsAt w' w.heap.size v (((dueD now l).take most.toNat).map (·.2)) ∧ ExpTo w w' base xa E l := by
  obtain ⟨mb, v, bs, ent, m, h, rfl⟩ := h
  have hbl := h.llen
  have hw := h.lt
  have H := Lib.hid h
  have HW := Lib.hid hw
  have BL := Lib.hid hbl
  clear h hw hbl
  go_enter Tryz.func64, Tryz.ntmps64
  go_wp2
  go_loopw [7, 8] (fun out tv wr => ∃ (k : Nat) (v' : Value) (bs' ts : List Nat), k ≤ 10000 ∧ Hid ((k : Int) ≤ most ∨ k = 0) ∧ Hid (∀ d ∈ l.take k, d.1 ≤ now) ∧ Hid (k ≤ l.length) ∧ Hid (HeapM wr base xa (.map (some mb)) v' bs' ent) ∧ Hid (v'.ownBlock = v.ownBlock) ∧ Hid ((ts ++ bs').Perm bs) ∧ Hid ((bs'.map ent).Perm (l.drop k)) ∧ Hid (ts.map ent = l.take k) ∧ Hid (∀ t ∈ ts, ∃ i, Blk wr t (entc (ent t) i) 147) ∧
    Hid (wr.ownsRow w.heap.size 140 1 tv k (ts.map ptr)) ∧ Hid (wr.ownsRow w.heap.size 9 1 out k ((l.take k).map fun d => Value.string d.2)) ∧ Hid (Upd (dueF xa v bs) w wr)) (fun out _ _ => match out with | .slice _ n _ => 10000 - n | _ => 0)
  case atStart => exact ⟨0, v, bs, [], by omega, Lib.hid (Or.inr rfl), Lib.hid (fun d hd => by simp at hd), Lib.hid (Nat.zero_le _), Lib.hid H.out.heap, Lib.hid rfl, Lib.hid (List.Perm.refl _), Lib.hid H.out.perm, Lib.hid rfl, Lib.hid (fun t ht => by simp at ht), Lib.hid (World.ownsRow_nil _ _ _ _), Lib.hid (by simpa using World.ownsRow_nil _ _ _ _), Lib.hid (Upd.refl _ _)⟩
  case round =>
    obtain ⟨k, v', bs', ts, hk, KM, HALL, KL, HH, VO, TP, BP, TE, TB, TO, OO, U⟩ := hrel
    obtain ⟨op, oc, eo1, _⟩ := own_slice OO.out
    obtain ⟨tp, tc, et1, _⟩ := own_slice TO.out
    subst eo1 et1
    by_cases s1 : (k : Int) < most
    · have t1 : decide ((k : Int) < most) = true := decide_eq_true s1
      cases hb : bs'[0]? with
      | none =>
        have e0 : bs' = [] := by cases bs' with | nil => rfl | cons a r => simp at hb
        have HT := Lib.hid (due_end KM.out HALL.out (Or.inr (Or.inl (by
          have := BP.out; rw [e0] at this; simpa using this))))
        obtain ⟨p9, c9, ev9, _⟩ := own_slice HH.out.row.own
        have c0 := HH.out.row.x.cellAt (i := 0) rfl
        rw [ev9, e0] at c0
        clear hb e0 ev9
        obtain ⟨wo, rfl⟩ : ∃ wo, wo = wr := ⟨_, rfl⟩
        have HT0 := HT.out
        go_wp2
        go_loopw [58] (fun x58 wr => ∃ (j : Nat) (v2 : Value) (bs2 : List Nat), x58 = .int .i64 (j : Int) ∧ j ≤ k ∧ Hid (HeapM wr base xa (.map (some mb)) v2 bs2 ent) ∧ Hid ((ts.drop j ++ bs2).Perm bs) ∧ Hid (∀ t ∈ ts.drop j, ∃ i, Blk wr t (entc (ent t) i) 147) ∧ Hid (∀ q, v2.ownBlock = some q → v.ownBlock = some q ∨ wo.heap.size ≤ q) ∧ Hid (Upd (dueF xa v bs) wo wr)) (fun x58 _ => k - (intOf x58).toNat)
        case atStart => exact ⟨0, v', bs', rfl, Nat.zero_le _, HH, TP, TB, Lib.hid (fun q hq => Or.inl (by rw [← VO.out]; exact hq)), Lib.hid (Upd.refl _ _)⟩
        case round =>
          obtain ⟨j, v2, bs2, rfl, hj, H2, TP2, TB2, VO2, U2⟩ := hrel
          have lowOO : ∀ q, (Value.slice op k oc).ownBlock = some q → ¬ dueF xa v bs q := fun q hq e => by
            have h1 := (World.ownsRow.lt OO.out q hq).1
            have h2 := HW.out q (by rcases e with e | e; exact Or.inl e; exact Or.inr (Or.inr e))
            omega
          have lowTO : ∀ q, (Value.slice tp k tc).ownBlock = some q → ¬ dueF xa v bs q := fun q hq e => by
            have h1 := (World.ownsRow.lt TO.out q hq).1
            have h2 := HW.out q (by rcases e with e | e; exact Or.inl e; exact Or.inr (Or.inr e))
            omega
          have OO2 := Lib.hid (own_keep OO.out U2.out lowOO)
          have TO2 := Lib.hid (own_keep TO.out U2.out lowTO)
          clear lowOO lowTO
          by_cases hjk : j < k
          · have htl : ts.length = k := by have := congrArg List.length TE.out; simp at this; have := KL.out; omega
            have htj : j < ts.length := by omega
            obtain ⟨t, ht⟩ : ∃ t, ts[j]? = some t := ⟨_, List.getElem?_eq_getElem htj⟩
            obtain ⟨g2, cap2, ev2, c2, hg2, _⟩ := own_get TO2.out (j := j) (x := ptr t) (by rw [List.getElem?_map, ht]; rfl)
            have hdj : ts.drop j = t :: ts.drop (j + 1) := by
              rw [List.drop_eq_getElem_cons htj]; congr 1
              have := List.getElem?_eq_some_iff.1 ht; exact this.2
            have hnd : (ts.drop j ++ bs2).Nodup := TP2.out.nodup_iff.2 H.out.heap.row.nd
            have htm : t ∈ bs := TP2.out.mem_iff.1 (by rw [hdj]; simp)
            obtain ⟨ti, hti⟩ := TB2.out t (by rw [hdj]; simp)
            have htn : t ∉ bs2 := fun hm => (List.nodup_append.1 hnd).2.2 t (by rw [hdj]; simp) t hm rfl
            have htx : t ≠ xa := fun e => H.out.heap.row.xn (e ▸ htm)
            have htv : v2.ownBlock ≠ some t := fun e => by
              obtain ⟨cs, hc⟩ := own_cells H2.out.row.own e
              unfold Blk at hti; rw [hc] at hti; simp at hti
            have hbl2 : bs2.length + 1 ≤ 1000000 := by
              have := TP2.out.length_eq; simp at this; have := BL.out; omega
            have PU := Lib.hid (hpush_any base xa (.map (some mb)) v2 bs2 ent t ti wr H2.out (by have := U.out.size; have := U2.out.size; omega) hbl2 hti htn htx htv)
            injection ev2 with ev2 _ ev3
            subst ev2 ev3
            unfold ptr at c2
            have HDJ := Lib.hid hdj
            have HTM := Lib.hid (And.intro htm (And.intro htn htx))
            have HND := Lib.hid hnd
            unfold Come hv ptr at PU
            have NB2 : Hid (∀ t' ∈ ts.drop (j + 1), t' ≠ t ∧ t' ≠ xa ∧ ¬ rowF v2 bs2 t') := by
              intro t' ht'
              have hm' : t' ∈ bs := TP2.out.mem_iff.1 (by rw [hdj]; simp [ht'])
              obtain ⟨i', hB'⟩ := TB2.out t' (by rw [hdj]; simp [ht'])
              rw [hdj, List.cons_append, List.nodup_cons] at hnd
              refine ⟨fun e => hnd.1 (by rw [← e]; simp [ht']), fun e => H.out.heap.row.xn (e ▸ hm'), fun e => ?_⟩
              rcases e with e | e
              · obtain ⟨cs, hc⟩ := own_cells H2.out.row.own e
                unfold Blk at hB'; rw [hc] at hB'; simp at hB'
              · exact (List.nodup_append.1 hnd.2).2.2 t' ht' t' e rfl
            clear hdj hnd ht hti htn htv htm htl hbl2 htx
            go_wp2_with fail
            refine (PU.out).mono ?_
            rintro e w3 ⟨v3, bs3, rfl, h3, pm3, u3, o3⟩
            have H3 := Lib.hid h3
            have TP3 : Hid ((ts.drop (j + 1) ++ bs3).Perm bs) := by
              have := TP2.out
              rw [HDJ.out] at this
              refine List.Perm.trans ?_ this
              rw [List.cons_append]
              exact (List.Perm.append_left _ pm3).trans List.perm_middle
            have TB3 : Hid (∀ t' ∈ ts.drop (j + 1), ∃ i, Blk w3 t' (entc (ent t') i) 147) := fun t' ht' => by
              obtain ⟨i', hB'⟩ := TB2.out t' (by rw [HDJ.out]; simp [ht'])
              obtain ⟨n1, n2, n3⟩ := NB2.out t' ht'
              exact ⟨i', u3.blk hB' (fun e => by rcases e with e | e | e; exact n2 e; exact n1 e; exact n3 e)⟩
            have VO3 : Hid (∀ q, v3.ownBlock = some q → v.ownBlock = some q ∨ wo.heap.size ≤ q) := fun q hq => by
              rcases o3 q hq with g | g
              · exact VO2.out q g
              · exact Or.inr (Nat.le_trans U2.out.size g)
            have U3 : Hid (Upd (dueF xa v bs) wo w3) := U2.out.trans u3 (fun q hq e => by
              rcases e with e | e | e | e
              · exact Or.inl e
              · exact Or.inr (Or.inr (e ▸ HTM.out.1))
              · rcases VO2.out q e with g | g
                · exact Or.inr (Or.inl g)
                · omega
              · exact Or.inr (Or.inr (TP2.out.mem_iff.1 (by simp [e]))))
            clear h3 pm3 u3 o3 PU
            go_wp2
            go_roundw
            case rel => exact ⟨j + 1, v3, bs3, by go_num, by omega, H3, TP3, TB3, VO3, U3⟩
            case measure => simp [intOf]; omega
          · obtain rfl : j = k := by omega
            have htl : ts.length = j := by have := congrArg List.length TE.out; simp at this; have := KL.out; omega
            have HTL := Lib.hid htl
            clear htl
            go_wp2
            go_ret
            have htd : ts.drop j = [] := List.drop_eq_nil_of_le (by rw [HTL.out]; exact Nat.le_refl _)
            have tp := TP2.out
            rw [htd, List.nil_append] at tp
            have ul := U.out.trans U2.out (fun _ _ h => h)
            have hm2 : MapAt strEnc wr mb (pm m) := H.out.map.keep ul (fun e => by
              rcases e with e | e | e
              · exact H.out.mx e
              · exact H.out.mv e
              · exact H.out.mbs e)
            refine ⟨_, rfl, ?_, _, ⟨mb, v2, bs2, ent, m, H.out.re H2.out tp hm2, rfl⟩, ul.weaken (fun q _ e => by rcases e with e | e; exact Or.inl e; exact Or.inr (Or.inr e)), fun q hq => ?_⟩
            · rw [HT0]
              unfold StrsAt
              have := OO2.out
              have el : ((l.take j).map (fun d : DueP => d.2)).length = j := by simp; exact Nat.min_eq_left KL.out
              rw [el, List.map_map]
              exact this
            · rcases hq with hq | hq | hq | hq
              · exact Or.inl (Or.inl hq)
              · exact Or.inl (Or.inr (Or.inl hq))
              · rcases VO2.out q hq with g | g
                · exact Or.inl (Or.inr (Or.inr (Or.inl g)))
                · exact Or.inr (Nat.le_trans U.out.size g)
              · exact Or.inl (Or.inr (Or.inr (Or.inr (tp.mem_iff.1 hq))))
      | some b =>
        have hhf := heap_first HH.out (List.Pairwise.sublist (List.drop_sublist _ _) H.out.rise) BP.out hb
        obtain ⟨g, cap, cs, ev, hg, hB, hc, hm, hgn⟩ := HH.out.row.mem (List.getElem?_eq_some_iff.1 hb).1
        have c0 := HH.out.row.x.cellAt (i := 0) rfl
        rw [ev] at c0
        have c1 : wr.cell? ⟨g, 0, none⟩ = some (.pointer (some ⟨b, 0, none⟩)) := hB.cellAt (map_at hb)
        have d0 := (HH.out.row.at_ 0 b hb).cellAt (i := 0) rfl
        have q1 : 0 < bs'.length := (List.getElem?_eq_some_iff.1 hb).1
        have q2 : (0 : Int) < (bs'.length : Int) := by omega
        have q3 : decide ((0 : Int) < (bs'.length : Int)) = true := decide_eq_true q2
        have hbl : bs'.length ≤ 10000 := by have := BP.out.length_eq; simp at this; omega
        have HB := Lib.hid hb
        have HF := Lib.hid hhf
        obtain ⟨wn, kn, E1⟩ : ∃ a b2, ent b = (a, b2) := ⟨_, _, rfl⟩
        have HE := Lib.hid E1
        rw [E1] at d0
        clear hb hhf ev hg hB hc hm hgn E1
        by_cases s2 : wn ≤ now
        · have t2 : decide (wn ≤ now) = true := decide_eq_true s2
          have PO := Lib.hid (hpop_any base xa (.map (some mb)) v' bs' ent b wr HH.out HB.out (by omega))
          unfold Gone hv ptr at PO
          go_wp2_with fail
          refine (PO.out).mono ?_
          rintro e w1 ⟨v1, bs1, i1, rfl, h1, pm1, u1, o1, b1⟩
          have AS := asrtE ⟨b, 0, none⟩ w1
          obtain ⟨q1, q2, q3⟩ := take_succ_of HF.out
          have lowv : ∀ q, rowF v' bs' q → q < w.heap.size := fun q hq => by
            rcases hq with hq | hq
            · exact HW.out q (Or.inr (Or.inr (Or.inl (by rw [← VO.out]; exact hq))))
            · exact HW.out q (Or.inr (Or.inr (Or.inr (TP.out.mem_iff.1 (by simp [hq])))))
          have hxw : xa < w.heap.size := HW.out xa (Or.inl rfl)
          have hbm : b ∈ bs' := List.mem_of_getElem? HB.out
          have hbw : b < w.heap.size := lowv b (Or.inr hbm)
          have hxb : xa ∉ bs := H.out.heap.row.xn
          have hnd : (ts ++ bs').Nodup := TP.out.nodup_iff.2 H.out.heap.row.nd
          have uW : Upd (fun q => q < w.heap.size) wr w1 := u1.weaken (fun q _ e => by
            rcases e with e | e
            · rw [e]; exact hxw
            · exact lowv q e)
          have OO1 := Lib.hid (own_keep OO.out uW (fun q hq => by have := (World.ownsRow.lt OO.out q hq).1; omega))
          have TO1 := Lib.hid (own_keep TO.out uW (fun q hq => by have := (World.ownsRow.lt TO.out q hq).1; omega))
          have TB1 : Hid (∀ t ∈ ts ++ [b], t < w.heap.size ∧ ∃ i, Blk w1 t (entc (ent t) i) 147) := by
            intro t ht
            rcases List.mem_append.1 ht with ht | ht
            · refine ⟨HW.out t (Or.inr (Or.inr (Or.inr (TP.out.mem_iff.1 (by simp [ht]))))), ?_⟩
              obtain ⟨i', hB'⟩ := TB.out t ht
              refine ⟨i', u1.blk hB' (fun e => ?_)⟩
              rcases e with e | e | e
              · exact hxb (e ▸ TP.out.mem_iff.1 (by simp [ht]))
              · obtain ⟨cs, hc⟩ := own_cells HH.out.row.own e
                unfold Blk at hB'; rw [hc] at hB'; simp at hB'
              · exact (List.nodup_append.1 hnd).2.2 t ht t e rfl
            · simp at ht; subst ht; exact ⟨hbw, i1, b1⟩
          have H1 := Lib.hid h1
          have O1 := Lib.hid (o1.trans VO.out)
          have LV1 : Hid (xa < w.heap.size ∧ ∀ q, rowF v1 bs1 q → q < w.heap.size) := ⟨hxw, fun q hq => by
            rcases hq with hq | hq
            · exact lowv q (Or.inl (by rw [← o1]; exact hq))
            · exact lowv q (Or.inr (pm1.mem_iff.1 (by simp [hq])))⟩
          have TP1 : Hid (((ts ++ [b]) ++ bs1).Perm bs) := by
            refine List.Perm.trans ?_ TP.out
            rw [List.append_assoc]
            exact List.Perm.append_left _ pm1
          have BP1 : Hid ((bs1.map ent).Perm (l.drop (k + 1))) := by
            have := (pm1.map ent).trans BP.out
            rw [q3, List.map_cons] at this
            exact this.cons_inv
          have TE1 : Hid ((ts ++ [b]).map ent = l.take (k + 1)) := by
            show _ = _
            rw [List.map_append, TE.out, q2]; rfl
          have ALL1 : Hid (∀ d ∈ l.take (k + 1), d.1 ≤ now) := by
            intro d hd
            rw [q2] at hd
            rcases List.mem_append.1 hd with hd | hd
            · exact HALL.out d hd
            · simp at hd; rw [hd, HE.out]; exact s2
          have U1 : Hid (Upd (dueF xa v bs) w w1) := U.out.trans u1 (fun q _ e => by
            rcases e with e | e | e
            · exact Or.inl e
            · exact Or.inr (Or.inl (by rw [← VO.out]; exact e))
            · exact Or.inr (Or.inr (TP.out.mem_iff.1 (by simp [e]))))
          have Q := Lib.hid (And.intro q1 q2)
          have WS : Hid (w.heap.size ≤ w1.heap.size) := U1.out.size
          have b2 := b1.cellAt (i := 1) rfl
          rw [HE.out] at b2
          have B1 := Lib.hid b1
          have hk2 : k + 1 ≤ 10000 := by have := q1; omega
          clear h1 pm1 u1 o1 b1 q1 q2 q3 lowv hxw hbm hxb hnd uW TP BP TE TB OO TO HALL HH U PO t2 t1
          obtain ⟨i0, hi0, hz0, hz1, hz2⟩ := info_parts ptr_info
          obtain ⟨j0, hj0, hy0, hy1, hy2⟩ := info_parts string_info
          have UA : Hid (Upd (fun q => w.heap.size ≤ q) w1 (w1.alloc (.cells #[.pointer (some ⟨b, 0, none⟩)] 140))) := (Upd.refl _ _).alloc _
          have hsz := WS.out
          go_wp2_with (at_builtin; refine wpList_append_where _ rfl _ _ 113 rfl (w.heap.size) 140 i0 (.pointer none) 1 8 Tryz.underlying113 hi0 hz0 hz1 hz2 rfl (by decide) _ _ _ rfl (TO1.out.alloc _) ⟨w1.heap.size, 0, none⟩ 1 1 [.pointer (some ⟨b, 0, none⟩)] rfl rfl ?c1 ?c2 ?c3 ?c4 ?c5 (by decide) ?_)
          try (case c1 =>
            intro x u hx
            match x with
            | 0 => simp at hx; subst hx; simp [Addr.add, World.cell?_alloc_at]
            | 1 => simp at hx <;> (subst hx; simp [Addr.add, World.cell?_alloc_at])
            | 2 => simp at hx <;> (subst hx; simp [Addr.add, World.cell?_alloc_at])
            | x + 3 => simp at hx)
          try (case c2 => first | rfl | exact ⟨rfl, rfl⟩ | exact ⟨rfl, rfl, rfl⟩ | (intro u hu; simp at hu; subst hu; rfl) | (intro u hu; simp at hu; rcases hu with rfl | rfl <;> rfl))
          case c3 => unfold maxLen; omega
          case c4 => first | omega | (simp; omega)
          case c5 => first | (simp; omega) | omega
          intro tv2 w2 hown hupd hnew
          have UA2 : Hid (Upd (fun q => w.heap.size ≤ q) w1 w2) := UA.out.trans (hupd.weaken (F := fun q => w.heap.size ≤ q) (fun q _ hq => (World.ownsRow.lt TO1.out q hq).1)) (fun _ _ h => h)
          have TO2 : Hid (w2.ownsRow w.heap.size 140 1 tv2 (k + 1) ((ts ++ [b]).map ptr)) := by
            show World.ownsRow _ _ _ _ _ _ _
            rw [List.map_append]; exact hown
          have OO2 : Hid (w2.ownsRow w.heap.size 9 1 (Value.slice op k oc) k ((l.take k).map fun d => Value.string d.2)) := by
            show World.ownsRow _ _ _ _ _ _ _
            refine own_keep (OO1.out.alloc _) hupd (fun q hq hq2 => ?_)
            obtain ⟨cs, hc⟩ := own_cells OO1.out hq
            obtain ⟨cs2, hc2⟩ := own_cells TO1.out hq2
            rw [hc] at hc2; simp at hc2
          have d2 : w2.cell? ⟨b, 1, none⟩ = some (.string kn) := (UA2.out.cell (p := ⟨b, 1, none⟩) B1.out.lt (by show ¬ w.heap.size ≤ b; omega)).trans b2
          have hsz2 : w.heap.size ≤ w2.heap.size := Nat.le_trans WS.out UA2.out.size
          obtain ⟨p5, c5, e5, _⟩ := own_slice TO2.out
          subst e5
          have UB : Hid (Upd (fun q => w.heap.size ≤ q) w1 (w2.alloc (.cells #[.string kn] 9))) := UA2.out.alloc _
          clear hown hupd hnew b2 UA UA2 i0 hi0 hz0 hz1 hz2
          go_wp2_with (at_builtin; refine wpList_append_where _ rfl _ _ 54 rfl (w.heap.size) 9 j0 (.string ByteArray.empty) 1 16 Tryz.underlying54 hj0 hy0 hy1 hy2 rfl (by decide) _ _ _ rfl (OO2.out.alloc _) ⟨w2.heap.size, 0, none⟩ 1 1 [.string kn] rfl rfl ?c1 ?c2 ?c3 ?c4 ?c5 (by decide) ?_)
          case c1 =>
            intro x u hx
            match x with
            | 0 => simp at hx; subst hx; simp [Addr.add, World.cell?_alloc_at]
            | x + 1 => simp at hx
          case c2 => intro u hu; simp at hu; subst hu; rfl
          case c3 => unfold maxLen; omega
          case c4 => omega
          case c5 => simp; omega
          intro ov2 w3 hown hupd hnew
          have UC : Hid (Upd (fun q => w.heap.size ≤ q) w1 w3) := UB.out.trans (hupd.weaken (F := fun q => w.heap.size ≤ q) (fun q _ hq => (World.ownsRow.lt OO2.out q hq).1)) (fun _ _ h => h)
          have OO3 : Hid (w3.ownsRow w.heap.size 9 1 ov2 (k + 1) ((l.take (k + 1)).map fun d => Value.string d.2)) := by
            show World.ownsRow _ _ _ _ _ _ _
            rw [Q.out.2, List.map_append]
            have e : (ent b).2 = kn := by rw [HE.out]
            simp only [List.map_cons, List.map_nil, e]
            first | exact hown | (rw [List.map_take]; exact hown)
          have TO3 : Hid (w3.ownsRow w.heap.size 140 1 (Value.slice p5 (k + 1) c5) (k + 1) ((ts ++ [b]).map ptr)) := by
            show World.ownsRow _ _ _ _ _ _ _
            refine own_keep (TO2.out.alloc _) hupd (fun q hq hq2 => ?_)
            obtain ⟨cs, hc⟩ := own_cells TO2.out hq
            obtain ⟨cs2, hc2⟩ := own_cells OO2.out hq2
            rw [hc] at hc2; simp at hc2
          obtain ⟨p6, c6, e6, _⟩ := own_slice OO3.out
          subst e6
          have H3 := Lib.hid (H1.out.keepLow UC.out LV1.out.1 LV1.out.2)
          have TB3 : Hid (∀ t ∈ ts ++ [b], ∃ i, Blk w3 t (entc (ent t) i) 147) := fun t ht => by
            obtain ⟨hl1, i', hB'⟩ := TB1.out t ht
            exact ⟨i', UC.out.blk hB' (by omega)⟩
          have U3 : Hid (Upd (dueF xa v bs) w w3) := U1.out.trans UC.out (fun q hq e => by omega)
          clear hown hupd hnew UB
          go_wp2
          go_roundw
          case rel => exact ⟨k + 1, v1, bs1, ts ++ [b], hk2, Lib.hid (Or.inl (by omega)), ALL1, Lib.hid (by have := Q.out.1; omega), H3, O1, TP1, BP1, TE1, TB3, TO3, OO3, U3⟩
          case measure => simp; omega
        · have t2 : decide (wn ≤ now) = false := decide_eq_false s2
          have HT := Lib.hid (due_end KM.out HALL.out (Or.inr (Or.inr ⟨_, HF.out, by rw [HE.out]; exact Int.not_le.1 s2⟩)))
          obtain ⟨wo, rfl⟩ : ∃ wo, wo = wr := ⟨_, rfl⟩
          have HT0 := HT.out
          go_wp2
          go_loopw [58] (fun x58 wr => ∃ (j : Nat) (v2 : Value) (bs2 : List Nat), x58 = .int .i64 (j : Int) ∧ j ≤ k ∧ Hid (HeapM wr base xa (.map (some mb)) v2 bs2 ent) ∧ Hid ((ts.drop j ++ bs2).Perm bs) ∧ Hid (∀ t ∈ ts.drop j, ∃ i, Blk wr t (entc (ent t) i) 147) ∧ Hid (∀ q, v2.ownBlock = some q → v.ownBlock = some q ∨ wo.heap.size ≤ q) ∧ Hid (Upd (dueF xa v bs) wo wr)) (fun x58 _ => k - (intOf x58).toNat)
          case atStart => exact ⟨0, v', bs', rfl, Nat.zero_le _, HH, TP, TB, Lib.hid (fun q hq => Or.inl (by rw [← VO.out]; exact hq)), Lib.hid (Upd.refl _ _)⟩
          case round =>
            obtain ⟨j, v2, bs2, rfl, hj, H2, TP2, TB2, VO2, U2⟩ := hrel
            have lowOO : ∀ q, (Value.slice op k oc).ownBlock = some q → ¬ dueF xa v bs q := fun q hq e => by
              have h1 := (World.ownsRow.lt OO.out q hq).1
              have h2 := HW.out q (by rcases e with e | e; exact Or.inl e; exact Or.inr (Or.inr e))
              omega
            have lowTO : ∀ q, (Value.slice tp k tc).ownBlock = some q → ¬ dueF xa v bs q := fun q hq e => by
              have h1 := (World.ownsRow.lt TO.out q hq).1
              have h2 := HW.out q (by rcases e with e | e; exact Or.inl e; exact Or.inr (Or.inr e))
              omega
            have OO2 := Lib.hid (own_keep OO.out U2.out lowOO)
            have TO2 := Lib.hid (own_keep TO.out U2.out lowTO)
            clear lowOO lowTO
            by_cases hjk : j < k
            · have htl : ts.length = k := by have := congrArg List.length TE.out; simp at this; have := KL.out; omega
              have htj : j < ts.length := by omega
              obtain ⟨t, ht⟩ : ∃ t, ts[j]? = some t := ⟨_, List.getElem?_eq_getElem htj⟩
              obtain ⟨g2, cap2, ev2, c2, hg2, _⟩ := own_get TO2.out (j := j) (x := ptr t) (by rw [List.getElem?_map, ht]; rfl)
              have hdj : ts.drop j = t :: ts.drop (j + 1) := by
                rw [List.drop_eq_getElem_cons htj]; congr 1
                have := List.getElem?_eq_some_iff.1 ht; exact this.2
              have hnd : (ts.drop j ++ bs2).Nodup := TP2.out.nodup_iff.2 H.out.heap.row.nd
              have htm : t ∈ bs := TP2.out.mem_iff.1 (by rw [hdj]; simp)
              obtain ⟨ti, hti⟩ := TB2.out t (by rw [hdj]; simp)
              have htn : t ∉ bs2 := fun hm => (List.nodup_append.1 hnd).2.2 t (by rw [hdj]; simp) t hm rfl
              have htx : t ≠ xa := fun e => H.out.heap.row.xn (e ▸ htm)
              have htv : v2.ownBlock ≠ some t := fun e => by
                obtain ⟨cs, hc⟩ := own_cells H2.out.row.own e
                unfold Blk at hti; rw [hc] at hti; simp at hti
              have hbl2 : bs2.length + 1 ≤ 1000000 := by
                have := TP2.out.length_eq; simp at this; have := BL.out; omega
              have PU := Lib.hid (hpush_any base xa (.map (some mb)) v2 bs2 ent t ti wr H2.out (by have := U.out.size; have := U2.out.size; omega) hbl2 hti htn htx htv)
              injection ev2 with ev2 _ ev3
              subst ev2 ev3
              unfold ptr at c2
              have HDJ := Lib.hid hdj
              have HTM := Lib.hid (And.intro htm (And.intro htn htx))
              have HND := Lib.hid hnd
              unfold Come hv ptr at PU
              have NB2 : Hid (∀ t' ∈ ts.drop (j + 1), t' ≠ t ∧ t' ≠ xa ∧ ¬ rowF v2 bs2 t') := by
                intro t' ht'
                have hm' : t' ∈ bs := TP2.out.mem_iff.1 (by rw [hdj]; simp [ht'])
                obtain ⟨i', hB'⟩ := TB2.out t' (by rw [hdj]; simp [ht'])
                rw [hdj, List.cons_append, List.nodup_cons] at hnd
                refine ⟨fun e => hnd.1 (by rw [← e]; simp [ht']), fun e => H.out.heap.row.xn (e ▸ hm'), fun e => ?_⟩
                rcases e with e | e
                · obtain ⟨cs, hc⟩ := own_cells H2.out.row.own e
                  unfold Blk at hB'; rw [hc] at hB'; simp at hB'
                · exact (List.nodup_append.1 hnd.2).2.2 t' ht' t' e rfl
              clear hdj hnd ht hti htn htv htm htl hbl2 htx
              go_wp2_with fail
              refine (PU.out).mono ?_
              rintro e w3 ⟨v3, bs3, rfl, h3, pm3, u3, o3⟩
              have H3 := Lib.hid h3
              have TP3 : Hid ((ts.drop (j + 1) ++ bs3).Perm bs) := by
                have := TP2.out
                rw [HDJ.out] at this
                refine List.Perm.trans ?_ this
                rw [List.cons_append]
                exact (List.Perm.append_left _ pm3).trans List.perm_middle
              have TB3 : Hid (∀ t' ∈ ts.drop (j + 1), ∃ i, Blk w3 t' (entc (ent t') i) 147) := fun t' ht' => by
                obtain ⟨i', hB'⟩ := TB2.out t' (by rw [HDJ.out]; simp [ht'])
                obtain ⟨n1, n2, n3⟩ := NB2.out t' ht'
                exact ⟨i', u3.blk hB' (fun e => by rcases e with e | e | e; exact n2 e; exact n1 e; exact n3 e)⟩
              have VO3 : Hid (∀ q, v3.ownBlock = some q → v.ownBlock = some q ∨ wo.heap.size ≤ q) := fun q hq => by
                rcases o3 q hq with g | g
                · exact VO2.out q g
                · exact Or.inr (Nat.le_trans U2.out.size g)
              have U3 : Hid (Upd (dueF xa v bs) wo w3) := U2.out.trans u3 (fun q hq e => by
                rcases e with e | e | e | e
                · exact Or.inl e
                · exact Or.inr (Or.inr (e ▸ HTM.out.1))
                · rcases VO2.out q e with g | g
                  · exact Or.inr (Or.inl g)
                  · omega
                · exact Or.inr (Or.inr (TP2.out.mem_iff.1 (by simp [e]))))
              clear h3 pm3 u3 o3 PU
              go_wp2
              go_roundw
              case rel => exact ⟨j + 1, v3, bs3, by go_num, by omega, H3, TP3, TB3, VO3, U3⟩
              case measure => simp [intOf]; omega
            · obtain rfl : j = k := by omega
              have htl : ts.length = j := by have := congrArg List.length TE.out; simp at this; have := KL.out; omega
              have HTL := Lib.hid htl
              clear htl
              go_wp2
              go_ret
              have htd : ts.drop j = [] := List.drop_eq_nil_of_le (by rw [HTL.out]; exact Nat.le_refl _)
              have tp := TP2.out
              rw [htd, List.nil_append] at tp
              have ul := U.out.trans U2.out (fun _ _ h => h)
              have hm2 : MapAt strEnc wr mb (pm m) := H.out.map.keep ul (fun e => by
                rcases e with e | e | e
                · exact H.out.mx e
                · exact H.out.mv e
                · exact H.out.mbs e)
              refine ⟨_, rfl, ?_, _, ⟨mb, v2, bs2, ent, m, H.out.re H2.out tp hm2, rfl⟩, ul.weaken (fun q _ e => by rcases e with e | e; exact Or.inl e; exact Or.inr (Or.inr e)), fun q hq => ?_⟩
              · rw [HT0]
                unfold StrsAt
                have := OO2.out
                have el : ((l.take j).map (fun d : DueP => d.2)).length = j := by simp; exact Nat.min_eq_left KL.out
                rw [el, List.map_map]
                exact this
              · rcases hq with hq | hq | hq | hq
                · exact Or.inl (Or.inl hq)
                · exact Or.inl (Or.inr (Or.inl hq))
                · rcases VO2.out q hq with g | g
                  · exact Or.inl (Or.inr (Or.inr (Or.inl g)))
                  · exact Or.inr (Nat.le_trans U.out.size g)
                · exact Or.inl (Or.inr (Or.inr (Or.inr (tp.mem_iff.1 hq))))
    · have t1 : decide ((k : Int) < most) = false := decide_eq_false s1
      have HT := Lib.hid (due_end (now := now) KM.out HALL.out (Or.inl s1))
      obtain ⟨wo, rfl⟩ : ∃ wo, wo = wr := ⟨_, rfl⟩
      have HT0 := HT.out
      go_wp2
      go_loopw [58] (fun x58 wr => ∃ (j : Nat) (v2 : Value) (bs2 : List Nat), x58 = .int .i64 (j : Int) ∧ j ≤ k ∧ Hid (HeapM wr base xa (.map (some mb)) v2 bs2 ent) ∧ Hid ((ts.drop j ++ bs2).Perm bs) ∧ Hid (∀ t ∈ ts.drop j, ∃ i, Blk wr t (entc (ent t) i) 147) ∧ Hid (∀ q, v2.ownBlock = some q → v.ownBlock = some q ∨ wo.heap.size ≤ q) ∧ Hid (Upd (dueF xa v bs) wo wr)) (fun x58 _ => k - (intOf x58).toNat)
      case atStart => exact ⟨0, v', bs', rfl, Nat.zero_le _, HH, TP, TB, Lib.hid (fun q hq => Or.inl (by rw [← VO.out]; exact hq)), Lib.hid (Upd.refl _ _)⟩
      case round =>
        obtain ⟨j, v2, bs2, rfl, hj, H2, TP2, TB2, VO2, U2⟩ := hrel
        have lowOO : ∀ q, (Value.slice op k oc).ownBlock = some q → ¬ dueF xa v bs q := fun q hq e => by
          have h1 := (World.ownsRow.lt OO.out q hq).1
          have h2 := HW.out q (by rcases e with e | e; exact Or.inl e; exact Or.inr (Or.inr e))
          omega
        have lowTO : ∀ q, (Value.slice tp k tc).ownBlock = some q → ¬ dueF xa v bs q := fun q hq e => by
          have h1 := (World.ownsRow.lt TO.out q hq).1
          have h2 := HW.out q (by rcases e with e | e; exact Or.inl e; exact Or.inr (Or.inr e))
          omega
        have OO2 := Lib.hid (own_keep OO.out U2.out lowOO)
        have TO2 := Lib.hid (own_keep TO.out U2.out lowTO)
        clear lowOO lowTO
        by_cases hjk : j < k
        · have htl : ts.length = k := by have := congrArg List.length TE.out; simp at this; have := KL.out; omega
          have htj : j < ts.length := by omega
          obtain ⟨t, ht⟩ : ∃ t, ts[j]? = some t := ⟨_, List.getElem?_eq_getElem htj⟩
          obtain ⟨g2, cap2, ev2, c2, hg2, _⟩ := own_get TO2.out (j := j) (x := ptr t) (by rw [List.getElem?_map, ht]; rfl)
          have hdj : ts.drop j = t :: ts.drop (j + 1) := by
            rw [List.drop_eq_getElem_cons htj]; congr 1
            have := List.getElem?_eq_some_iff.1 ht; exact this.2
          have hnd : (ts.drop j ++ bs2).Nodup := TP2.out.nodup_iff.2 H.out.heap.row.nd
          have htm : t ∈ bs := TP2.out.mem_iff.1 (by rw [hdj]; simp)
          obtain ⟨ti, hti⟩ := TB2.out t (by rw [hdj]; simp)
          have htn : t ∉ bs2 := fun hm => (List.nodup_append.1 hnd).2.2 t (by rw [hdj]; simp) t hm rfl
          have htx : t ≠ xa := fun e => H.out.heap.row.xn (e ▸ htm)
          have htv : v2.ownBlock ≠ some t := fun e => by
            obtain ⟨cs, hc⟩ := own_cells H2.out.row.own e
            unfold Blk at hti; rw [hc] at hti; simp at hti
          have hbl2 : bs2.length + 1 ≤ 1000000 := by
            have := TP2.out.length_eq; simp at this; have := BL.out; omega
          have PU := Lib.hid (hpush_any base xa (.map (some mb)) v2 bs2 ent t ti wr H2.out (by have := U.out.size; have := U2.out.size; omega) hbl2 hti htn htx htv)
          injection ev2 with ev2 _ ev3
          subst ev2 ev3
          unfold ptr at c2
          have HDJ := Lib.hid hdj
          have HTM := Lib.hid (And.intro htm (And.intro htn htx))
          have HND := Lib.hid hnd
          unfold Come hv ptr at PU
          have NB2 : Hid (∀ t' ∈ ts.drop (j + 1), t' ≠ t ∧ t' ≠ xa ∧ ¬ rowF v2 bs2 t') := by
            intro t' ht'
            have hm' : t' ∈ bs := TP2.out.mem_iff.1 (by rw [hdj]; simp [ht'])
            obtain ⟨i', hB'⟩ := TB2.out t' (by rw [hdj]; simp [ht'])
            rw [hdj, List.cons_append, List.nodup_cons] at hnd
            refine ⟨fun e => hnd.1 (by rw [← e]; simp [ht']), fun e => H.out.heap.row.xn (e ▸ hm'), fun e => ?_⟩
            rcases e with e | e
            · obtain ⟨cs, hc⟩ := own_cells H2.out.row.own e
              unfold Blk at hB'; rw [hc] at hB'; simp at hB'
            · exact (List.nodup_append.1 hnd.2).2.2 t' ht' t' e rfl
          clear hdj hnd ht hti htn htv htm htl hbl2 htx
          go_wp2_with fail
          refine (PU.out).mono ?_
          rintro e w3 ⟨v3, bs3, rfl, h3, pm3, u3, o3⟩
          have H3 := Lib.hid h3
          have TP3 : Hid ((ts.drop (j + 1) ++ bs3).Perm bs) := by
            have := TP2.out
            rw [HDJ.out] at this
            refine List.Perm.trans ?_ this
            rw [List.cons_append]
            exact (List.Perm.append_left _ pm3).trans List.perm_middle
          have TB3 : Hid (∀ t' ∈ ts.drop (j + 1), ∃ i, Blk w3 t' (entc (ent t') i) 147) := fun t' ht' => by
            obtain ⟨i', hB'⟩ := TB2.out t' (by rw [HDJ.out]; simp [ht'])
            obtain ⟨n1, n2, n3⟩ := NB2.out t' ht'
            exact ⟨i', u3.blk hB' (fun e => by rcases e with e | e | e; exact n2 e; exact n1 e; exact n3 e)⟩
          have VO3 : Hid (∀ q, v3.ownBlock = some q → v.ownBlock = some q ∨ wo.heap.size ≤ q) := fun q hq => by
            rcases o3 q hq with g | g
            · exact VO2.out q g
            · exact Or.inr (Nat.le_trans U2.out.size g)
          have U3 : Hid (Upd (dueF xa v bs) wo w3) := U2.out.trans u3 (fun q hq e => by
            rcases e with e | e | e | e
            · exact Or.inl e
            · exact Or.inr (Or.inr (e ▸ HTM.out.1))
            · rcases VO2.out q e with g | g
              · exact Or.inr (Or.inl g)
              · omega
            · exact Or.inr (Or.inr (TP2.out.mem_iff.1 (by simp [e]))))
          clear h3 pm3 u3 o3 PU
          go_wp2
          go_roundw
          case rel => exact ⟨j + 1, v3, bs3, by go_num, by omega, H3, TP3, TB3, VO3, U3⟩
          case measure => simp [intOf]; omega
        · obtain rfl : j = k := by omega
          have htl : ts.length = j := by have := congrArg List.length TE.out; simp at this; have := KL.out; omega
          have HTL := Lib.hid htl
          clear htl
          go_wp2
          go_ret
          have htd : ts.drop j = [] := List.drop_eq_nil_of_le (by rw [HTL.out]; exact Nat.le_refl _)
          have tp := TP2.out
          rw [htd, List.nil_append] at tp
          have ul := U.out.trans U2.out (fun _ _ h => h)
          have hm2 : MapAt strEnc wr mb (pm m) := H.out.map.keep ul (fun e => by
            rcases e with e | e | e
            · exact H.out.mx e
            · exact H.out.mv e
            · exact H.out.mbs e)
          refine ⟨_, rfl, ?_, _, ⟨mb, v2, bs2, ent, m, H.out.re H2.out tp hm2, rfl⟩, ul.weaken (fun q _ e => by rcases e with e | e; exact Or.inl e; exact Or.inr (Or.inr e)), fun q hq => ?_⟩
          · rw [HT0]
            unfold StrsAt
            have := OO2.out
            have el : ((l.take j).map (fun d : DueP => d.2)).length = j := by simp; exact Nat.min_eq_left KL.out
            rw [el, List.map_map]
            exact this
          · rcases hq with hq | hq | hq | hq
            · exact Or.inl (Or.inl hq)
            · exact Or.inl (Or.inr (Or.inl hq))
            · rcases VO2.out q hq with g | g
              · exact Or.inl (Or.inr (Or.inr (Or.inl g)))
              · exact Or.inr (Nat.le_trans U.out.size g)
            · exact Or.inl (Or.inr (Or.inr (Or.inr (tp.mem_iff.1 hq))))
end Go.Proofs.YtgdenmddbgcacaaGreatDoor
/- A slice of things of k cells each, that is only read. -/
set_option linter.unusedVariables false
set_option linter.unusedSimpArgs false
namespace Go.Proofs.YtgdenmddbgcacaaGreatDoor
open Go.RowKit

/-- v is a slice that reads as l, each thing by its k cells. -/
def RowOf {α : Type} (f : α → List Value) (k : Nat) (w : World) (v : Value) (l : List α) : Prop :=
  (∃ p cap, v = .slice p 0 cap ∧ l = []) ∨
  ∃ b off cap, v = .slice (some ⟨b, off, none⟩) l.length cap ∧ b < w.heap.size ∧ l.length ≤ maxLen ∧ ∀ i a, l[i]? = some a → ∀ j, j < k → w.cell? ⟨b, off + (i * k + j), none⟩ = (f a)[j]?

theorem RowOf.keep {α : Type} {f : α → List Value} {k : Nat} {w w' : World} {v : Value} {l : List α} (h : RowOf f k w v l) {F : Nat → Prop} (u : Upd F w w') (hd : ∀ b, b < w.heap.size → v.ownBlock = some b → ¬ F b) : RowOf f k w' v l := by
  rcases h with h | ⟨b, off, cap, rfl, hb, hl, hc⟩
  · exact Or.inl h
  · refine Or.inr ⟨b, off, cap, rfl, Nat.lt_of_lt_of_le hb u.size, hl, fun i a hi j hj => ?_⟩
    rw [u.cell (p := ⟨b, off + (i * k + j), none⟩) hb (hd b hb rfl)]
    exact hc i a hi j hj
theorem RowOf.len {α : Type} {f : α → List Value} {k : Nat} {w : World} {v : Value} {l : List α} (h : RowOf f k w v l) : ∃ p cap, v = .slice p l.length cap ∧ l.length ≤ maxLen := by
  rcases h with ⟨p, cap, rfl, rfl⟩ | ⟨b, off, cap, rfl, _, hl, _⟩
  · exact ⟨p, cap, rfl, by unfold maxLen; simp⟩
  · exact ⟨_, cap, rfl, hl⟩

def strc (s : ByteArray) : List Value := [.string s]
end Go.Proofs.YtgdenmddbgcacaaGreatDoor
