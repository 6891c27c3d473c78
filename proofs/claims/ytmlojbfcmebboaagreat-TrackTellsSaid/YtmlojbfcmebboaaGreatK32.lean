/- TrackGone: who has left is told of nothing any more. -/
import Derived.Test.YtmlojbfcmebboaaGreatK30
import Derived.Test.YtmlojbfcmebboaaGreatK31
import Derived.Test.YtmlojbfcmebboaaGreatK23
import Derived.Test.YtmlojbfcmebboaaGreatK02
import Derived.WideKeyRuns
import Derived.Laws.StructEq
set_option linter.unusedVariables false
set_option linter.unusedSimpArgs false
set_option linter.unusedSectionVars false
set_option maxRecDepth 100000
namespace Go.Proofs.YtmlojbfcmebboaaGreat
open Go.RowKit

theorem mem_agetG {κ ν : Type} [DecidableEq κ] {M : List (κ × ν)} {k : κ} {v : ν} (h : aget M k = some v) : (k, v) ∈ M := by
  induction M with
  | nil => cases h
  | cons p r ih =>
    simp only [aget] at h
    split at h
    · next e => injection h with h; subst h; subst e; simp
    · exact List.mem_cons_of_mem _ (ih h)
theorem mem_asetG {κ ν : Type} [DecidableEq κ] {M : List (κ × ν)} {k : κ} {v : ν} {p : κ × ν} (h : p ∈ aset M k v) : p = (k, v) ∨ p ∈ M := by
  induction M with
  | nil => left; simpa [aset] using h
  | cons q r ih =>
    unfold aset at h
    split at h
    · rcases List.mem_cons.1 h with g | g
      · exact Or.inl g
      · exact Or.inr (List.mem_cons_of_mem _ g)
    · rcases List.mem_cons.1 h with g | g
      · exact Or.inr (by rw [g]; simp)
      · exact (ih g).imp id (List.mem_cons_of_mem _)
/-- Rows whose clients are as S says. -/
def InS (S : Int → Prop) (L : Rows14) : Prop := ∀ p ∈ L, ∀ x ∈ p.2, S x
theorem add14_in {S : Int → Prop} {most : Int} {L : Rows14} {key : ByteArray} {id : Int} (h : InS S L) (hid : S id) : InS S (add14 most L key id).2.2.2 ∧ ∃ l, aget (add14 most L key id).2.2.2 key = some l ∧ id ∈ l := by
  unfold add14
  split
  · next l hl =>
    refine ⟨fun p hp x hx => ?_, wth l id, by rw [aget_aset, if_pos rfl], wth_mem.2 (Or.inl rfl)⟩
    rcases mem_asetG hp with rfl | g
    · rcases wth_mem.1 hx with rfl | g
      · exact hid
      · exact h _ (mem_agetG hl) x g
    · exact h p g x hx
  · next hl =>
    have one : ∀ r : Rows14, InS S r → InS S (r ++ [(key, [id])]) := fun r hr p hp x hx => by
      rcases List.mem_append.1 hp with g | g
      · exact hr p g x hx
      · rw [List.mem_singleton] at g; subst g; rw [List.mem_singleton] at hx; rw [hx]; exact hid
    have two : ∀ r : Rows14, aget r key = none → ∃ l, aget (r ++ [(key, [id])]) key = some l ∧ id ∈ l := fun r hr => ⟨[id], by rw [← aset_out hr, aget_aset, if_pos rfl], by simp⟩
    split
    · split
      · exact ⟨one [] (fun p hp => by simp at hp), two [] rfl⟩
      · next p0 r _ =>
        refine ⟨one r (fun p hp => h p (List.mem_cons_of_mem _ hp)), two r ?_⟩
        simp only [aget] at hl
        split at hl
        · cases hl
        · exact hl
    · exact ⟨one _ h, two _ hl⟩
theorem readL_in {S : Int → Prop} (C : Int → Option CL) {most : Int} {id : Int} (hid : S id) (ks : List Txt) {L : Rows14} (h : InS S L) : InS S (readL C most id ks L).2 := by
  induction ks generalizing L with
  | nil => exact h
  | cons t r ih => exact ih (add14_in h hid).1
def mB : MD := ⟨true, true, false, false, false, 0, [[]]⟩
abbrev MG0 : List (Int × CL) := [(1, ⟨offM, 0⟩), (2, ⟨offM, 0⟩), (3, ⟨offM, 0⟩)]
abbrev MG1 : List (Int × CL) := [(1, ⟨mR 2, 0⟩), (2, ⟨offM, 0⟩), (3, ⟨offM, 0⟩)]
abbrev MG2 : List (Int × CL) := [(1, ⟨mR 2, 0⟩), (2, ⟨mB, 0⟩), (3, ⟨offM, 0⟩)]
abbrev MG : List (Int × CL) := [(1, ⟨mR 2, 0⟩), (2, ⟨mB, 0⟩), (3, ⟨onM, 0⟩)]
abbrev MH : List (Int × CL) := [(1, ⟨mR 0, 0⟩), (3, ⟨onM, 0⟩)]
def is13 (x : Int) : Prop := x = 1 ∨ x = 3
def MJ (k : Nat) : List (Int × CL) := MG0.take k
theorem gone_join {k : Nat} (hk : k < 3) : joinP (MJ k) ((k : Int) + 1) = (true, MJ (k + 1)) := by
  match k, hk with
  | 0, _ => rfl
  | 1, _ => rfl
  | 2, _ => rfl
theorem gone_read {id : Int} (hid : is13 id) (L : Rows14) (ks : List Txt) : readP MG 100 L id ks = readL (aget MG) 100 id ks L := by
  rcases hid with rfl | rfl <;> rfl
theorem gone_leave (L : Rows14) (P : Txt → Int → Prop) : leaveP MG L P 2 = ([⟨3, 1, 1, emp⟩], MH, drop14 L 2, fun t i => P t i ∧ i ≠ 2) := rfl
theorem gone_leave2 (L : Rows14) (P : Txt → Int → Prop) : leaveP MH L P 2 = ([], MH, L, P) := rfl
def goneN (ids : List Int) (key : ByteArray) : List NT := ids.map (fun x => ⟨1, x, x, key⟩) ++ [⟨2, 1, 1, emp⟩, ⟨2, 3, 3, emp⟩]
theorem gone_chg {P : Txt → Int → Prop} {L : Rows14} {n : Nat} (hP : ∀ t i, ¬ P t i) (hI : KInv L n) (hS : InS is13 L) (t : Txt) : (changeP MH P 3 [(1, t), (5, [])] L).1 = goneN ((aget L (ofL t)).getD []) (ofL t) := by
  unfold changeP changeP changeP chStep
  simp only [show ¬ (1 : Int) = 5 by decide, if_false, if_true]
  rw [ch_none hP hI]
  have h1 : ∀ x ∈ (aget L (ofL t)).getD [], is13 x := fun x hx => by
    cases hq : aget L (ofL t) with
    | none => rw [hq] at hx; simp at hx
    | some l => rw [hq] at hx; exact hS _ (mem_agetG hq) x hx
  have h2 : ((aget L (ofL t)).getD []).filter (fun x => !ownB MH 3 1 x) = (aget L (ofL t)).getD [] := List.filter_eq_self.2 (fun x hx => by
    rcases h1 x hx with rfl | rfl <;> rfl)
  have h3 : ((aget L (ofL t)).getD []).map (fun x => toldP (aget MH) 1 x (ofL t)) = ((aget L (ofL t)).getD []).map (fun x => (⟨1, x, x, ofL t⟩ : NT)) := List.map_congr_left (fun x hx => by
    rcases h1 x hx with rfl | rfl <;> rfl)
  rw [h2, h3]
  rfl
theorem drop14_in {S : Int → Prop} {L : Rows14} {id : Int} (h : InS S L) : InS S (drop14 L id) := fun p hp x hx => by
  unfold drop14 at hp
  obtain ⟨q, hq, e⟩ := List.mem_filterMap.1 hp
  split at e
  · cases e
  · injection e with e; subst e
    exact h q hq x (List.mem_filter.1 hx).1
/-- The row of a key, behind the leaving of one who is not in it. -/
theorem drop14_get {L : Rows14} {key : ByteArray} {l : List Int} (h : aget L key = some l) (hn : ∀ p ∈ L, 2 ∉ p.2) (hne : ∀ p ∈ L, p.2 ≠ []) : aget (drop14 L 2) key = some l := by
  have e : drop14 L 2 = L := by
    unfold drop14
    have : ∀ p ∈ L, (if cutId 2 p.2 = [] then none else some (p.1, cutId 2 p.2)) = some p := fun p hp => by
      have ec : cutId 2 p.2 = p.2 := by
        unfold cutId
        exact List.filter_eq_self.2 (fun x hx => by
          have : x ≠ 2 := fun e => hn p hp (e ▸ hx)
          simpa using this)
      rw [ec, if_neg (hne p hp)]
    rw [fm_congr this]
    simp
  rw [e]; exact h
theorem aget_mem_nd {ν : Type} {L : List (ByteArray × ν)} (hn : (akeys L).Nodup) {p : ByteArray × ν} (hp : p ∈ L) : aget L p.1 = some p.2 := by
  induction L with
  | nil => simp at hp
  | cons q r ih =>
    simp only [akeys, List.map_cons, List.nodup_cons] at hn
    rcases List.mem_cons.1 hp with rfl | g
    · simp [aget]
    · have : ¬ q.1 = p.1 := fun e => hn.1 (by rw [e]; exact List.mem_map.2 ⟨p, g, rfl⟩)
      simp only [aget, this, if_false]
      exact ih hn.2 g
theorem inv_ne {L : Rows14} {n : Nat} (h : KInv L n ∧ (akeys L).Nodup) : ∀ p ∈ L, p.2 ≠ [] := fun p hp => (h.1.rise p.1 p.2 (aget_mem_nd h.2 hp)).2.1
/-- What is told at the end. -/
def GN (key : ByteArray) (x : NT) : Prop := x = ⟨1, 1, 1, key⟩ ∨ x = ⟨1, 3, 3, key⟩ ∨ x = ⟨2, 1, 1, emp⟩ ∨ x = ⟨2, 3, 3, emp⟩
theorem goneN_all {ids : List Int} (h : ∀ x ∈ ids, is13 x) (key : ByteArray) : ∀ x ∈ goneN ids key, GN key x := fun x hx => by
  unfold goneN at hx
  rcases List.mem_append.1 hx with g | g
  · obtain ⟨y, hy, rfl⟩ := List.mem_map.1 g
    rcases h y hy with rfl | rfl
    · exact Or.inl rfl
    · exact Or.inr (Or.inl rfl)
  · simp at g
    rcases g with rfl | rfl
    · exact Or.inr (Or.inr (Or.inl rfl))
    · exact Or.inr (Or.inr (Or.inr rfl))
theorem goneN_one {ids : List Int} (h : 1 ∈ ids) (key : ByteArray) : (⟨1, 1, 1, key⟩ : NT) ∈ goneN ids key := List.mem_append_left _ (List.mem_map.2 ⟨1, h, rfl⟩)
set_option maxHeartbeats 16000000 in
theorem tgone_any (v : Value) (l : List Act16) (key0 : ByteArray) (w : World) (hr : RowOf act16c 12 w v l) (ha : ∀ a ∈ l, A16 w a) (hk : key0.size ≤ maxLen) :
    Calls Tryz.prog 5 #[v, .string key0] w fun e w' => e = .returned (.bool true) ∧ Upd (fun _ => False) w w' := by
  obtain ⟨kt, rfl⟩ : ∃ kt, key0 = ofL kt := ⟨key0.toList, (ofL_of key0).symm⟩
  have AL := Lib.hid (alive16_any w)
  obtain ⟨p, c, ev, hm⟩ := hr.len
  subst ev
  have HR := Lib.hid hr
  have HA := Lib.hid ha
  have GR := Lib.hid (fun (w0 : World) (u : Upd (fun _ => False) w w0) => great_any _ l w0 (hr.keep u (fun _ _ _ h => h)) (fun a h => (ha a h).keep u))
  obtain ⟨nl, hnl⟩ : ∃ nl, nl = l.length := ⟨_, rfl⟩
  rw [← hnl] at hm GR ⊢
  have NL := Lib.hid hnl
  have ksz := ofL_size kt
  clear hr ha hnl hk
  obtain ⟨key, hkey⟩ : ∃ key, key = ofL kt := ⟨_, rfl⟩
  rw [← hkey] at ksz ⊢
  have HK := Lib.hid hkey
  have KSZ := Lib.hid ksz
  clear hkey ksz
  go_enter Tryz.func5, Tryz.ntmps5
  go_wp2_with fail
  refine AL.out.mono ?_
  rintro e w0 ⟨rfl, u0⟩
  have U0 := Lib.hid u0
  have NW := Lib.hid (fun (w1 : World) (u : Upd (fun _ => False) w w1) => trkNew_any 100 w1 w.heap.size u.size (by omega) (by omega) (fun _ => False) (fun b h => h.elim))
  have GR0 := Lib.hid (GR.out w0 u0)
  clear AL u0 GR
  go_wp2_with fail
  refine GR0.out.mono ?_
  rintro e w1 ⟨g, rfl, hg, u1⟩
  have U1 := Lib.hid (U0.out.trans u1 (fun _ _ h => h))
  have HG := Lib.hid hg
  clear u1 hg GR0 U0
  cases g with
  | true =>
    go_wp2
    go_ret
    exact ⟨rfl, U1.out⟩
  | false =>
    by_cases h100 : 100 < kt.length
    · have q1 : (100 : Int) < (key.size : Int) := by rw [KSZ.out]; omega
      clear NW
      go_wp2
      go_ret
      exact ⟨rfl, U1.out⟩
    have q1 : ¬ (100 : Int) < (key.size : Int) := by rw [KSZ.out]; omega
    have NW1 := Lib.hid (NW.out w1 U1.out)
    clear NW
    have GD := Lib.hid (HG.out rfl)
    have hnl60 : nl ≤ 60 := by rw [NL.out]; exact GD.out.1
    clear HG
    go_wp2_with fail
    refine NW1.out.mono ?_
    rintro e w2 ⟨tb, rfl, ⟨cm, kb, pb, cb0, s2⟩, u2⟩
    have U2 := Lib.hid (U1.out.trans u2 (fun _ _ h => h))
    have S2 : Hid (TSt w2 w.heap.size tb cm kb pb cb0 (fun _ => False) (MJ 0) 100 [] 0 (fun _ _ => False) 0) := s2
    clear s2 u2 NW1 U1
    go_wp2
    go_loopw [6] (fun x6 wr => ∃ (k : Nat) (cb : Int → Nat), k ≤ 3 ∧ x6 = .int .i64 ((k : Int) + 1) ∧ Hid (TSt wr w.heap.size tb cm kb pb cb (fun _ => False) (MJ k) 100 [] 0 (fun _ _ => False) 0) ∧ Hid (Upd (fun _ => False) w wr)) (fun x6 _ => 4 - (intOf x6).toNat)
    case atStart => exact ⟨0, cb0, by omega, rfl, S2, U2⟩
    case round =>
      clear S2 U2
      obtain ⟨k, cb, hk3, rfl, S2, U2⟩ := hrel
      by_cases hlt : k < 3
      · have q2 : (k : Int) + 1 ≤ 3 := by omega
        have JN := Lib.hid (S2.out.join ((k : Int) + 1) (by omega) (by unfold MJ; simp; omega))
        rw [gone_join hlt] at JN
        clear S2
        go_wp2_with fail
        refine JN.out.mono ?_
        rintro e w3 ⟨rfl, ⟨cb3, s3⟩, u3⟩
        have S3 := Lib.hid s3
        have U3 : Hid (Upd (fun _ => False) w w3) := U2.out.trans u3 (fun b hb h => by have := h.1; omega)
        clear s3 u3 JN U2
        go_wp2
        go_roundw
        case rel => exact ⟨k + 1, cb3, by omega, by go_num, S3, U3⟩
        case measure => simp [intOf]; omega
      · have q2 : ¬ (k : Int) + 1 ≤ 3 := by omega
        obtain rfl : k = 3 := by omega
        have SE := Lib.hid (S2.out.set' (id := 1) (m := mR 2) (v := .slice none 0 0) (row_none wr _ _) (by decide) (by simp [mR]) (by omega) (by omega) (r := 0) (M' := MG1) (L' := []) (P' := fun _ _ => False) rfl rfl rfl (fun t i => by
          show ((False ∧ i ≠ 1) ∨ (t ∈ ([] : List Txt) ∧ i = 1)) ↔ False
          simp))
        clear S2
        go_wp2_with fail
        refine SE.out.mono ?_
        rintro e w3 ⟨rfl, s3, u3⟩
        have U3 : Hid (Upd (fun _ => False) w w3) := U2.out.trans u3 (fun b hb h => by have := h.1; omega)
        have UA : Hid (Upd (fun _ => False) w3 (w3.alloc (.cells #[.string { data := #[] }] 9))) := (Upd.refl _ _).alloc _
        have SE2 := Lib.hid ((s3.keep0 UA.out).set' (id := 2) (m := mB) (v := .slice (some ⟨w3.heap.size, 0, none⟩) 1 1) (row_txt w3 []) (by decide) (by simp [mB]) (by omega) (by omega) (r := 0) (M' := MG2) (L' := []) (P' := fun t i => t = [] ∧ i = 2) rfl rfl rfl (fun t i => by
          show ((False ∧ i ≠ 2) ∨ (t ∈ ([[]] : List Txt) ∧ i = 2)) ↔ _
          simp))
        clear s3 u3 SE U2
        go_wp2_with fail
        refine SE2.out.mono ?_
        rintro e w4 ⟨rfl, s4, u4⟩
        have U4 : Hid (Upd (fun _ => False) w w4) := (U3.out.trans UA.out (fun _ _ h => h)).trans u4 (fun b hb h => by have := h.1; omega)
        have SE3 := Lib.hid (s4.set' (id := 3) (m := onM) (v := .slice none 0 0) (row_none w4 _ _) (by decide) (by simp [onM]) (by omega) (by omega) (r := 0) (M' := MG) (L' := []) (P' := fun t i => t = [] ∧ i = 2) rfl rfl rfl (fun t i => by
          show (((t = [] ∧ i = 2) ∧ i ≠ 3) ∨ (t ∈ ([] : List Txt) ∧ i = 3)) ↔ _
          constructor
          · rintro (⟨h, _⟩ | ⟨h, _⟩)
            · exact h
            · simp at h
          · rintro ⟨h1, h2⟩; exact Or.inl ⟨⟨h1, h2⟩, by rw [h2]; decide⟩))
        clear s4 u4 SE2 UA U3
        go_wp2_with fail
        refine SE3.out.mono ?_
        rintro e w5 ⟨rfl, s5, u5⟩
        have U5 : Hid (Upd (fun _ => False) w w5) := U4.out.trans u5 (fun b hb h => by have := h.1; omega)
        have S5 : Hid (TSt w5 w.heap.size tb cm kb pb cb (fun _ => False) MG 100 [] (0 * 10) (fun t i => t = [] ∧ i = 2) 96) := s5
        clear s5 u5 SE3 U4
        go_wp2
        go_loopw [42] (fun x42 wr => ∃ (k : Nat) (L : Rows14), k ≤ nl ∧ x42 = .int .i64 (k : Int) ∧ Hid (InS is13 L) ∧ Hid (TSt wr w.heap.size tb cm kb pb cb (fun _ => False) MG 100 L (k * 10) (fun t i => t = [] ∧ i = 2) 96) ∧ Hid (Upd (fun _ => False) w wr)) (fun x42 _ => nl - (intOf x42).toNat)
        case atStart => exact ⟨0, [], by omega, rfl, Lib.hid (fun p hp => by simp at hp), S5, U5⟩
        case round =>
          clear S5 U5
          obtain ⟨k, L, hk, rfl, IN, S5, U5⟩ := hrel
          by_cases hlt : k < nl
          · have q4 : (k : Int) < (nl : Int) := by omega
            have hkl : k < l.length := by rw [← NL.out]; exact hlt
            obtain ⟨b, off, ep, hb, c0, cs⟩ := act16_cells (HR.out.keep U5.out (fun _ _ _ h => h)) hkl
            subst ep
            obtain ⟨a, hae⟩ : ∃ a, a = l[k] := ⟨_, rfl⟩
            rw [← hae] at c0 cs
            have hal : a ∈ l := by rw [hae]; exact List.getElem_mem hkl
            have AA := Lib.hid ((HA.out a hal).keep U5.out)
            have GA := Lib.hid (GD.out.2 a hal)
            obtain ⟨pk, ck, ek, _⟩ := AA.out.ks.len
            obtain ⟨pp, cp, epv, _⟩ := AA.out.ps.len
            have c1 := cs 0 (by omega)
            have c2 := cs 1 (by omega)
            have c3 := cs 2 (by omega)
            have c4 := cs 3 (by omega)
            have c5 := cs 4 (by omega)
            have c6 := cs 5 (by omega)
            have c7 := cs 6 (by omega)
            have c8 := cs 7 (by omega)
            have c9 := cs 8 (by omega)
            have c10 := cs 9 (by omega)
            have c11 := cs 10 (by omega)
            clear cs hae hkl
            obtain ⟨kd, id, ⟨on, bc, oi, oo, nlp, rd, ps⟩, pv, yes, kv, keys, evn⟩ := a
            dsimp only at ek epv
            subst ek epv
            simp only [act16c, List.getElem?_cons_succ, List.getElem?_cons_zero] at c0 c1 c2 c3 c4 c5 c6 c7 c8 c9 c10 c11
            obtain ⟨nk, hnk⟩ : ∃ nk, nk = keys.length := ⟨_, rfl⟩
            obtain ⟨np, hnp⟩ : ∃ np, np = ps.length := ⟨_, rfl⟩
            have GK : keys.length ≤ 10 := GA.out.1
            have GKL : ∀ t ∈ keys, t.length ≤ 100 := GA.out.2.2.1
            have RK := AA.out.ks
            dsimp only at RK
            rw [← hnk] at c10 RK
            rw [← hnp] at c8
            obtain ⟨OB, hOB⟩ : ∃ OB, OB = Obj.cells #[.int .i64 kd, .int .i64 id, .bool on, .bool bc, .bool oi, .bool oo, .bool nlp, .int .i64 rd, .slice pp np cp, .bool yes, .slice pk nk ck, .int .i64 evn] 35 := ⟨_, rfl⟩
            have UA : Hid (Upd (fun _ => False) wr (wr.alloc OB)) := (Upd.refl _ _).alloc _
            have U6 : Hid (Upd (fun _ => False) w (wr.alloc OB)) := U5.out.trans UA.out (fun _ _ h => h)
            have S6 := Lib.hid (S5.out.keep0 UA.out)
            by_cases h5 : kd = 5
            · subst h5
              have idw := (AA.out.idw)
              have idr : -9223372036854775808 ≤ id ∧ id ≤ 9223372036854775807 := by
                have := idw
                simp [Lit.wf, IntKind.min, IntKind.max, IntKind.bits, IntKind.signed] at this
                exact this
              obtain ⟨idr1, idr2⟩ := idr
              clear idw
              have h13 : is13 (1 + 2 * (max 0 id % 2)) := by unfold is13; omega
              have RD := Lib.hid (S6.out.readE (1 + 2 * (max 0 id % 2)) (.slice pk nk ck) keys (RK.keep UA.out (fun _ _ _ h => h)) (by
                by_cases e : keys = []
                · exact Or.inl e
                · right
                  intro b' hb' hf
                  have hw := (HA.out _ hal).ks
                  dsimp only at hw
                  rcases hw with ⟨_, _, _, e2⟩ | ⟨b2, o2, c2', e2, hb2, _⟩
                  · exact e e2
                  · injection e2 with e2
                    subst e2
                    have e3 : (some b2 : Option Nat) = some b' := hb'
                    injection e3 with e3
                    subst e3
                    exact absurd hf.1 (by omega)) (by omega) (by omega) (fun t ht => by have := GKL t ht; unfold maxLen; omega))
              rw [gone_read h13] at RD
              have IN2 := Lib.hid (readL_in (aget MG) (most := 100) h13 keys IN.out)
              have nk10 : keys.length ≤ 10 := GK
              generalize readL (aget MG) 100 (1 + 2 * (max 0 id % 2)) keys L = rr at RD IN2
              obtain ⟨nts, L2⟩ := rr
              dsimp only at RD IN2
              rw [hOB] at RD U6
              clear S6 UA RK GKL GK AA GA U5 S5 hOB h13 hal
              rw [← hnk] at nk10
              have NK := Lib.hid hnk
              clear hnk hnp
              go_wp2_with fail
              refine RD.out.mono ?_
              rintro e w7 ⟨v7, rfl, r7⟩
              have U7 : Hid (Upd (fun _ => False) w w7) := U6.out.trans r7.up (fun b hb h => by have := h.1; omega)
              have S7 : Hid (TSt w7 w.heap.size tb cm kb pb cb (fun _ => False) MG 100 L2 ((k + 1) * 10) (fun t i => t = [] ∧ i = 2) 96) := (r7.st.less (fun b h => h.elim)).more (by rw [← NK.out]; omega) (Nat.le_refl _)
              clear RD r7 U6
              go_wp2
              go_roundw
              case rel => exact ⟨k + 1, L2, by omega, by go_num, IN2, S7, U7⟩
              case measure => simp [intOf]; omega
            · have q5 : (kd == 5) = false := beq_eq_false_iff_ne.2 h5
              have S7 : Hid (TSt (wr.alloc OB) w.heap.size tb cm kb pb cb (fun _ => False) MG 100 L ((k + 1) * 10) (fun t i => t = [] ∧ i = 2) 96) := S6.out.more (by omega) (Nat.le_refl _)
              rw [hOB] at S7 U6
              clear S6 UA RK GKL GK AA GA hnk hnp U5 S5 hOB hal
              go_wp2
              go_roundw
              case rel => exact ⟨k + 1, L, by omega, by go_num, IN, S7, U6⟩
              case measure => simp [intOf]; omega
          · have q4 : ¬ (k : Int) < (nl : Int) := by omega
            have hkn : k ≤ 60 := by omega
            have R1 := Lib.hid ((S5.out.beside (.cells #[.string (ofL kt)] 9)).read 1 _ [kt] (row_txt wr kt) (fun b hb h => h.2 (Or.inr (slice_in hb))) (by simp) (by simp; omega) (by simp; unfold maxLen; have := KSZ.out; omega))
            rw [gone_read (Or.inl rfl)] at R1
            have IN2 := Lib.hid (readL_in (aget MG) (most := 100) (id := 1) (Or.inl rfl) [kt] IN.out)
            have AG2 := Lib.hid (add14_in (most := 100) (key := ofL kt) (id := 1) IN.out (Or.inl rfl)).2
            have e2 : (readL (aget MG) 100 1 [kt] L).2 = (add14 100 L (ofL kt) 1).2.2.2 := rfl
            rw [← e2] at AG2
            clear e2
            generalize readL (aget MG) 100 1 [kt] L = rr at R1 IN2 AG2
            obtain ⟨nts0, L2⟩ := rr
            dsimp only at R1 IN2 AG2
            have UB : Hid (Upd (fun _ => False) wr (wr.alloc (.cells #[.string (ofL kt)] 9))) := (Upd.refl _ _).alloc _
            rw [← HK.out] at R1 UB AG2
            clear S5 IN
            go_wp2_with fail
            refine R1.out.mono ?_
            rintro e w7 ⟨v7, rfl, r7⟩
            have U7 : Hid (Upd (fun _ => False) w w7) := (U5.out.trans UB.out (fun _ _ h => h)).trans r7.up (fun b hb h => by have := h.1; omega)
            have s7 : TSt w7 w.heap.size tb cm kb pb cb (fun _ => False) MG 100 L2 (k * 10 + 1) (fun t i => t = [] ∧ i = 2) 96 := r7.st.less (fun b h => h.elim)
            have NE := inv_ne s7.inv
            have LV := Lib.hid (s7.leave 2 (by omega) (by omega))
            rw [gone_leave] at LV
            clear r7 R1 UB U5
            obtain ⟨lk, hlk, h1k⟩ := AG2.out
            have GET := Lib.hid (drop14_get hlk (fun p hp h2 => by rcases IN2.out p hp 2 h2 with g | g <;> exact absurd g (by decide)) NE)
            have IN3 := Lib.hid (drop14_in (id := 2) IN2.out)
            have H1 := Lib.hid h1k
            have LKI : Hid (∀ x ∈ lk, is13 x) := fun x hx => IN2.out _ (mem_agetG hlk) x hx
            clear AG2 hlk h1k NE IN2 s7
            dsimp only at LV
            generalize drop14 L2 2 = L3 at LV GET IN3
            go_wp2_with fail
            refine LV.out.mono ?_
            rintro e w8 ⟨v8, rfl, r8⟩
            have U8 : Hid (Upd (fun _ => False) w w8) := U7.out.trans r8.up (fun b hb h => by have := h.1; omega)
            obtain ⟨b8, c8', e8, k0, k1, k2, k3, k4⟩ := nts_one r8.row
            subst e8
            dsimp only at k1 k2 k3 k4
            have s8 := r8.st.less (Y := fun _ => False) (fun b h => h.elim)
            have LV2 := Lib.hid (s8.leave 2 (by omega) (by omega))
            rw [gone_leave2] at LV2
            clear r8 s8 LV U7
            go_wp2_with fail
            refine LV2.out.mono ?_
            rintro e w9 ⟨v9, rfl, r9⟩
            have U9 : Hid (Upd (fun _ => False) w w9) := U8.out.trans r9.up (fun b hb h => by have := h.1; omega)
            obtain ⟨p9, c9', e9, _⟩ := r9.row.slice
            subst e9
            have s9 := r9.st.less (Y := fun _ => False) (fun b h => h.elim)
            have UE : Hid (Upd (fun _ => False) w9 (w9.alloc (.cells #[.int .i64 1, .string (ofL kt), .int .i64 5, .string { data := #[] }] 45))) := (Upd.refl _ _).alloc _
            have CH := Lib.hid ((s9.beside (.cells #[.int .i64 1, .string (ofL kt), .int .i64 5, .string { data := #[] }] 45)).change 3 (.slice (some ⟨w9.heap.size, 0, none⟩) 2 2) [(1, kt), (5, [])] (by
              refine Or.inr ⟨w9.heap.size, 0, 2, rfl, by simp, by unfold maxLen; simp, fun i x hi j hj => ?_⟩
              have hB := Blk.made w9 [.int .i64 1, .string (ofL kt), .int .i64 5, .string { data := #[] }] 45
              match i with
              | 0 =>
                simp at hi; subst hi
                match j with
                | 0 => exact hB.cell 0
                | 1 => exact hB.cell 1
              | 1 =>
                simp at hi; subst hi
                match j with
                | 0 => exact hB.cell 2
                | 1 => exact hB.cell 3
              | i + 2 => simp at hi) (fun b hb h => h.2 (Or.inr (slice_in hb))) (by simp) (by omega) (by omega) (by simp; omega))
            have ECH := gone_chg (P := fun t i => (t = [] ∧ i = 2) ∧ i ≠ 2) (fun t i h => h.2 h.1.2) s9.inv.1 IN3.out kt
            rw [← HK.out, GET.out] at ECH
            rw [ECH, ← HK.out] at CH
            rw [← HK.out] at UE
            dsimp only [Option.getD_some] at CH
            have NG := Lib.hid (goneN_all LKI.out key)
            have NO := Lib.hid (goneN_one H1.out key)
            obtain ⟨nts, hnts⟩ : ∃ nts, nts = goneN lk key := ⟨_, rfl⟩
            rw [← hnts] at CH NG NO
            clear r9 s9 LV2 U8 ECH GET IN3 H1 LKI hnts k0 k1 k2 k3 k4
            go_wp2_with fail
            refine CH.out.mono ?_
            rintro e w10 ⟨v10, rfl, r10⟩
            have U10 : Hid (Upd (fun _ => False) w w10) := (U9.out.trans UE.out (fun _ _ h => h)).trans r10.up (fun b hb h => by have := h.1; omega)
            obtain ⟨pv, cv, ev10, hmv, _⟩ := r10.row.slice
            have R10 := r10.row
            subst ev10
            obtain ⟨ln, hln⟩ : ∃ ln, ln = nts.length := ⟨_, rfl⟩
            have LN := Lib.hid hln
            rw [← hln] at R10 hmv
            unfold maxLen at hmv
            have NTH := Lib.hid R10
            generalize (w9.alloc (.cells #[.int .i64 1, .string key, .int .i64 5, .string { data := #[] }] 45)).heap.size = wb at NTH
            rw [← LN.out]
            clear r10 R10 hln CH UE U9
            go_wp2
            go_loopw [10, 103] (fun x10 x103 wr => ∃ (j : Nat) (b : Bool), j ≤ ln ∧ x103 = .int .i64 (j : Int) ∧ x10 = .bool b ∧ Hid ((⟨1, 1, 1, key⟩ : NT) ∈ nts.take j → b = true) ∧ Hid (NtsAt wr wb (.slice pv ln cv) nts) ∧ Hid (Upd (fun _ => False) w wr)) (fun _ x103 _ => ln - (intOf x103).toNat)
            case atStart => exact ⟨0, false, by omega, rfl, rfl, Lib.hid (fun h => by simp at h), NTH, U10⟩
            case round =>
              clear NTH U10
              obtain ⟨j, own, hj, rfl, rfl, OW, NTH, U10⟩ := hrel
              by_cases hlj : j < ln
              · have q5 : (j : Int) < (ln : Int) := by omega
                have hjl : j < nts.length := by rw [← LN.out]; exact hlj
                have nt0 := NTH.out
                rw [LN.out] at nt0
                obtain ⟨g, eg, hgw, hg, d0, d1, d2, d3⟩ := nts_cells nt0 hjl
                subst eg
                obtain ⟨x, hx⟩ : ∃ x, x = nts[j] := ⟨_, rfl⟩
                rw [← hx] at d0 d1 d2 d3
                have hgn := NG.out x (by rw [hx]; exact List.getElem_mem hjl)
                have TK : nts.take (j + 1) = nts.take j ++ [x] := by rw [List.take_succ_eq_append_getElem hjl, ← hx]
                have key1 : (key.toList == key.toList) = true := by simp
                clear hx nt0 hjl
                rcases hgn with rfl | rfl | rfl | rfl
                all_goals
                  dsimp only at d0 d1 d2 d3
                · have OW2 : Hid ((⟨1, 1, 1, key⟩ : NT) ∈ nts.take (j + 1) → true = true) := fun _ => rfl
                  have NT2 := Lib.hid (NTH.out.keep0 ((Upd.refl _ wr).alloc (.cells #[.int .i64 1, .int .i64 1, .int .i64 1, .string key] 40)))
                  have U11 := Lib.hid (U10.out.alloc (.cells #[.int .i64 1, .int .i64 1, .int .i64 1, .string key] 40))
                  clear OW TK NTH U10
                  cases own <;> (
                    go_wp2
                    go_roundw
                    case rel => exact ⟨j + 1, true, by omega, by go_num, rfl, OW2, NT2, U11⟩
                    case measure => simp [intOf]; omega)
                · have OW2 : Hid ((⟨1, 1, 1, key⟩ : NT) ∈ nts.take (j + 1) → own = true) := fun h => OW.out (by
                    rw [TK] at h
                    rcases List.mem_append.1 h with g | g
                    · exact g
                    · rw [List.mem_singleton] at g
                      simp at g)
                  have NT2 := Lib.hid (NTH.out.keep0 ((Upd.refl _ wr).alloc (.cells #[.int .i64 1, .int .i64 3, .int .i64 3, .string key] 40)))
                  have U11 := Lib.hid (U10.out.alloc (.cells #[.int .i64 1, .int .i64 3, .int .i64 3, .string key] 40))
                  clear OW TK NTH U10
                  cases own <;> (
                    go_wp2
                    go_roundw
                    case rel => exact ⟨j + 1, _, by omega, by go_num, rfl, OW2, NT2, U11⟩
                    case measure => simp [intOf]; omega)
                · have OW2 : Hid ((⟨1, 1, 1, key⟩ : NT) ∈ nts.take (j + 1) → own = true) := fun h => OW.out (by
                    rw [TK] at h
                    rcases List.mem_append.1 h with g | g
                    · exact g
                    · rw [List.mem_singleton] at g
                      simp at g)
                  have NT2 := Lib.hid (NTH.out.keep0 ((Upd.refl _ wr).alloc (.cells #[.int .i64 2, .int .i64 1, .int .i64 1, .string emp] 40)))
                  have U11 := Lib.hid (U10.out.alloc (.cells #[.int .i64 2, .int .i64 1, .int .i64 1, .string emp] 40))
                  clear OW TK NTH U10
                  cases own <;> (
                    go_wp2
                    go_roundw
                    case rel => exact ⟨j + 1, _, by omega, by go_num, rfl, OW2, NT2, U11⟩
                    case measure => simp [intOf]; omega)
                · have OW2 : Hid ((⟨1, 1, 1, key⟩ : NT) ∈ nts.take (j + 1) → own = true) := fun h => OW.out (by
                    rw [TK] at h
                    rcases List.mem_append.1 h with g | g
                    · exact g
                    · rw [List.mem_singleton] at g
                      simp at g)
                  have NT2 := Lib.hid (NTH.out.keep0 ((Upd.refl _ wr).alloc (.cells #[.int .i64 2, .int .i64 3, .int .i64 3, .string emp] 40)))
                  have U11 := Lib.hid (U10.out.alloc (.cells #[.int .i64 2, .int .i64 3, .int .i64 3, .string emp] 40))
                  clear OW TK NTH U10
                  cases own <;> (
                    go_wp2
                    go_roundw
                    case rel => exact ⟨j + 1, _, by omega, by go_num, rfl, OW2, NT2, U11⟩
                    case measure => simp [intOf]; omega)
              · have q5 : ¬ (j : Int) < (ln : Int) := by omega
                have ej : nts.take j = nts := List.take_of_length_le (by rw [← LN.out]; omega)
                rw [ej] at OW
                obtain rfl := OW.out NO.out
                go_wp2
                go_ret
                exact ⟨rfl, U10.out⟩
end Go.Proofs.YtmlojbfcmebboaaGreat
/- Maps of the call's own whose keys are structs. -/
set_option linter.unusedVariables false
set_option linter.unusedSimpArgs false
set_option linter.unusedSectionVars false
namespace Go.Proofs.YtmlojbfcmebboaaGreat
open Go.RowKit

/-- Keys of type K, a struct, are the things of κ, by enc. -/
structure KeyW (P : Program) (K : TypeId) {κ : Type} [DecidableEq κ] (enc : κ → Value) : Prop where
  wide : (match P.underlying K with | some (.array _ _) | some (.struct _) => true | _ => false) = true
  eqr : ∀ a b (w : World), (Op.equal K (enc a) (enc b)).run P w = .ok (decide (a = b)) w
  inj : ∀ {a b}, enc a = enc b → a = b
  same : ∀ a, Instr.sameBits 10000 (enc a) (enc a) = true
  chk : ∀ (e : Bool) a (w : World), (Instr.checkKey e 10000 K (enc a)).run P w = .ok () w
section
variable {κ : Type} [DecidableEq κ] {enc : κ → Value}
theorem findAsk_eq {P : Program} {K : TypeId} (ok : KeyW P K enc) (k : κ) (w : World) :
    ∀ (es : List MapEntry) (m : List (κ × Value)) (i : Nat), es.map (fun e => (e.key, e.val)) = m.map (fun p => (enc p.1, p.2)) →
      (aget m k = none → (Instr.findAsking K (enc k) es i).run P w = .ok none w) ∧
      (∀ v, aget m k = some v → ∃ j, j < es.length ∧ (Instr.findAsking K (enc k) es i).run P w = .ok (some (i + j, v)) w ∧ (es[j]?).map (·.key) = some (enc k) ∧
        (∀ u, (es.modify j fun e => { e with key := enc k, val := u }).map (fun e => (e.key, e.val)) = (aset m k u).map (fun p => (enc p.1, p.2))) ∧
        (es.eraseIdx j).map (fun e => (e.key, e.val)) = (adel m k).map (fun p => (enc p.1, p.2)))
  | [], [], i, _ => ⟨fun _ => by simp [Instr.findAsking], fun v h => by simp [aget] at h⟩
  | [], _ :: _, i, h => by simp at h
  | _ :: _, [], i, h => by simp at h
  | e :: es, p :: m, i, h => by
    simp only [List.map_cons, List.cons.injEq, Prod.mk.injEq] at h
    obtain ⟨⟨h1, h2⟩, h3⟩ := h
    obtain ⟨r1, r2⟩ := findAsk_eq ok k w es m (i + 1) h3
    by_cases hp : p.1 = k
    · refine ⟨fun hh => by simp [aget, hp] at hh, fun v hv => ?_⟩
      simp only [aget, hp, if_true, Option.some.injEq] at hv
      refine ⟨0, by simp, ?_, ?_, fun u => ?_, ?_⟩
      · unfold Instr.findAsking
        simp [h1, ok.eqr, hp, h2, hv, Result.andThen]
      · simp [h1, hp]
      · simp [List.modify_cons, aset, hp, h3]
      · simp [adel, hp, h3]
    · have hd : decide (k = p.1) = false := by simpa using fun e => hp e.symm
      refine ⟨fun hh => ?_, fun v hv => ?_⟩
      · simp only [aget, hp, if_false] at hh
        unfold Instr.findAsking
        simp only [Sem.run_bind, h1, ok.eqr, hd, Result.andThen]
        simpa using r1 hh
      · simp only [aget, hp, if_false] at hv
        obtain ⟨j, j1, j2, j3, j4, j5⟩ := r2 v hv
        refine ⟨j + 1, by simp; omega, ?_, ?_, fun u => ?_, ?_⟩
        · unfold Instr.findAsking
          simp only [Sem.run_bind, h1, ok.eqr, hd, Result.andThen]
          have e : i + (j + 1) = i + 1 + j := by omega
          rw [e]; simpa using j2
        · simpa using j3
        · simp only [List.modify_cons, Nat.add_one_ne_zero, if_false, Nat.add_sub_cancel, List.map_cons, aset, hp]
          rw [j4 u, h1, h2]
        · simp only [List.eraseIdx_cons_succ, List.map_cons, adel, hp, if_false]
          rw [j5, h1, h2]
theorem run_findKeyW {P : Program} {K : TypeId} (ok : KeyW P K enc) (w : World) (k : κ) (es : Array MapEntry) (m : List (κ × Value)) (h : es.toList.map (fun e => (e.key, e.val)) = m.map fun p => (enc p.1, p.2)) :
    (aget m k = none → (Instr.findKey K (enc k) es.toList).run P w = .ok none w) ∧
    (∀ v, aget m k = some v → ∃ j, j < es.size ∧ (Instr.findKey K (enc k) es.toList).run P w = .ok (some (j, v)) w ∧ (es[j]?).map (·.key) = some (enc k) ∧
      (∀ u, (es.modify j fun e => { e with key := enc k, val := u }).toList.map (fun e => (e.key, e.val)) = (aset m k u).map (fun p => (enc p.1, p.2))) ∧
      (es.eraseIdxIfInBounds j).toList.map (fun e => (e.key, e.val)) = (adel m k).map (fun p => (enc p.1, p.2))) := by
  obtain ⟨r1, r2⟩ := findAsk_eq ok k w es.toList m 0 h
  refine ⟨fun hh => ?_, fun v hv => ?_⟩
  · rw [run_findKey_eq w ok.wide]; exact r1 hh
  · obtain ⟨j, j1, j2, j3, j4, j5⟩ := r2 v hv
    refine ⟨j, by simpa using j1, ?_, ?_, fun u => ?_, ?_⟩
    · rw [run_findKey_eq w ok.wide, j2]; simp
    · simpa using j3
    · rw [← j4 u]; congr 1; simp [Array.toList_modify]
    · rw [← j5]; congr 1
      have : j < es.size := by simpa using j1
      simp [Array.eraseIdxIfInBounds, this]
section
variable {P : Program} {T K E : TypeId} {w : World} {b : Nat} {m : List (κ × Value)}
theorem MapAt.lookW (h : MapAt enc w b m) (ok : KeyW P K enc) (hT : P.underlying T = some (.map K E)) {z : Value} (hz : (zeroValue E).run P w = .ok z w) (k : κ) (commaOk : Bool) :
    (Instr.lookup T (.map (some b)) (enc k) commaOk).run P w = .ok (if commaOk then .tuple #[(aget m k).getD z, .bool (aget m k).isSome] else (aget m k).getD z) w := by
  obtain ⟨es, c, hb, he, hst⟩ := h
  obtain ⟨r1, r2⟩ := run_findKeyW ok w k es m he
  cases hk : aget m k with
  | none => simp [Instr.lookup, run_underlying hT, MapKept.run_getObj_map hb, ok.chk, r1 hk, hz, Result.andThen]
  | some v =>
    obtain ⟨j, _, hr, _⟩ := r2 v hk
    simp [Instr.lookup, run_underlying hT, MapKept.run_getObj_map hb, ok.chk, hr, Result.andThen]
theorem MapAt.putW (h : MapAt enc w b m) (ok : KeyW P K enc) (hT : P.underlying T = some (.map K E)) (k : κ) (v : Value) :
    ∃ w', (Instr.mapUpdate T (.map (some b)) (enc k) v).run P w = .ok () w' ∧ MapAt enc w' b (aset m k v) ∧ Upd (fun i => i = b) w w' := by
  obtain ⟨es, c, hb, he, hst⟩ := h
  obtain ⟨r1, r2⟩ := run_findKeyW ok w k es m he
  cases hk : aget m k with
  | none =>
    have hnew : ∀ x ∈ es.toList, x.key ≠ enc k := fun x hx e => by
      have hx2 : (x.key, x.val) ∈ es.toList.map (fun e => (e.key, e.val)) := List.mem_map.2 ⟨x, hx, rfl⟩
      rw [he] at hx2
      obtain ⟨p, hp, ep⟩ := List.mem_map.1 hx2
      injection ep with e1 _
      have := ok.inj (e1.trans e)
      exact (aget_none.1 hk) (List.mem_map.2 ⟨p, hp, this⟩)
    refine ⟨putIn w b (es.push { key := enc k, val := v, born := c }) (c + 1), ?_, ⟨_, _, putIn_map hb _ _, ?_, MapKept.stamped_push hst hnew⟩, putIn_upd _ _ _ _⟩
    · simp [Instr.mapUpdate, run_underlying hT, MapKept.run_getObj_map hb, ok.chk, r1 hk, MapKept.run_setObj_map _ hb, Result.andThen, putIn]
    · have hs : aset m k v = m ++ [(k, v)] := by
        clear r1 r2 he
        induction m with
        | nil => rfl
        | cons p r ih =>
          simp only [aget] at hk
          split at hk
          · cases hk
          · next hp => simp only [aset, hp, if_false, ih hk, List.cons_append]
      rw [hs]; simp [he]
  | some u =>
    obtain ⟨j, hj, hr, hkey, hset, _⟩ := r2 u hk
    refine ⟨putIn w b (es.modify j fun e => { e with key := enc k, val := v }) c, ?_, ⟨_, _, putIn_map hb _ _, hset v, MapKept.stamped_modify hst j _ (fun _ _ => rfl) (fun e _ he2 => by rw [he2] at hkey; simpa using hkey.symm)⟩, putIn_upd _ _ _ _⟩
    have hkk : (((es[j]?).map (·.key)).getD (enc k)) = enc k := by rw [hkey]; rfl
    simp only [Instr.mapUpdate, Sem.run_bind, run_underlying hT, Result.andThen, MapKept.run_getObj_map hb, ok.chk, hr, hkk, Instr.keyThatStays, ok.same, if_true, Sem.run_pure]
    simp [MapKept.run_setObj_map _ hb, putIn, Result.andThen]
theorem MapAt.delW (h : MapAt enc w b m) (ok : KeyW P K enc) (hT : P.underlying T = some (.map K E)) (k : κ) (R : TypeId) :
    ∃ w', (Builtin.delete_ #[T, K] R #[.map (some b), enc k]).run P w = .ok (.tuple #[]) w' ∧ MapAt enc w' b (adel m k) ∧ Upd (fun i => i = b) w w' := by
  obtain ⟨es, c, hb, he, hst⟩ := h
  obtain ⟨r1, r2⟩ := run_findKeyW ok w k es m he
  cases hk : aget m k with
  | none =>
    refine ⟨putIn w b es c, ?_, ⟨_, _, putIn_map hb _ _, ?_, hst⟩, putIn_upd _ _ _ _⟩
    · simp [Builtin.delete_, run_underlying hT, MapKept.run_getObj_map hb, ok.chk, r1 hk, MapKept.run_setObj_map _ hb, Result.andThen, putIn]
    · have hs : adel m k = m := by
        clear r1 r2 he
        induction m with
        | nil => rfl
        | cons p r ih =>
          simp only [aget] at hk
          split at hk
          · cases hk
          · next hp => simp only [adel, hp, if_false, ih hk]
      rw [hs]; exact he
  | some u =>
    obtain ⟨j, hj, hr, _, _, hdel⟩ := r2 u hk
    refine ⟨putIn w b (es.eraseIdxIfInBounds j) c, ?_, ⟨_, _, putIn_map hb _ _, hdel, MapKept.stamped_erase hst j⟩, putIn_upd _ _ _ _⟩
    simp [Builtin.delete_, run_underlying hT, MapKept.run_getObj_map hb, ok.chk, hr, MapKept.run_setObj_map _ hb, Result.andThen, putIn]
end
end
/-- The keys of layer 16's map: notices. -/
def ntEnc (n : NT) : Value := .agg #[.int .i64 n.kd, .int .i64 n.dst, .int .i64 n.who, .string n.key]
theorem nt_eq (a b : NT) (w : World) : (Op.equal 40 (ntEnc a) (ntEnc b)).run Tryz.prog w = .ok (decide (a = b)) w := by
  obtain ⟨a1, a2, a3, a4⟩ := a
  obtain ⟨b1, b2, b3, b4⟩ := b
  unfold ntEnc
  show (Op.equalIn 10000 _ _ _).run _ _ = _
  dsimp only
  go_simp
  have hb : a4.toList = b4.toList ↔ a4 = b4 := ⟨fun h => by rw [← ofL_of a4, ← ofL_of b4, h], fun h => by rw [h]⟩
  by_cases h1 : a1 = b1 <;> by_cases h2 : a2 = b2 <;> by_cases h3 : a3 = b3 <;> by_cases h4 : a4 = b4 <;> simp [h1, h2, h3, h4, hb]
theorem nt_chk (e : Bool) (a : NT) (w : World) : (Instr.checkKey e 10000 40 (ntEnc a)).run Tryz.prog w = .ok () w := by
  obtain ⟨a1, a2, a3, a4⟩ := a
  have ci : ∀ (x : Int) (w : World), (Instr.checkKey e 9999 3 (.int .i64 x)).run Tryz.prog w = .ok () w := fun x w => by
    rw [show (9999 : Nat) = 9998 + 1 from rfl, Instr.checkKey]; simp [run_underlying Tryz.underlying3]
  have cs : ∀ (x : ByteArray) (w : World), (Instr.checkKey e 9999 9 (.string x)).run Tryz.prog w = .ok () w := fun x w => by
    rw [show (9999 : Nat) = 9998 + 1 from rfl, Instr.checkKey]; simp [run_underlying Tryz.underlying9]
  unfold ntEnc
  rw [show (10000 : Nat) = 9999 + 1 from rfl, Instr.checkKey]
  dsimp only
  go_simp
theorem ntKey : KeyW Tryz.prog 40 ntEnc := ⟨by kernel_rfl, nt_eq, fun {a b} h => by
    obtain ⟨a1, a2, a3, a4⟩ := a
    obtain ⟨b1, b2, b3, b4⟩ := b
    simp [ntEnc] at h
    obtain ⟨rfl, rfl, rfl, rfl⟩ := h
    rfl, fun a => by simp [ntEnc, Instr.sameBits, bytes_beq], nt_chk⟩
end Go.Proofs.YtmlojbfcmebboaaGreat
