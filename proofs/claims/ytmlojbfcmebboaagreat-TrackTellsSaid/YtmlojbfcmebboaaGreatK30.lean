/- TrackQuiet: who isn't On is told of nothing; who speaks of the next command's keys does so for one command. -/
import Derived.Test.YtmlojbfcmebboaaGreatK29
import Derived.Test.YtmlojbfcmebboaaGreatK03
import Derived.Deep.Slices
import Derived.Deep.Fields
import Derived.ChangeSame
import Derived.ProofKit
import Derived.Test.YtmlojbfcmebboaaGreatK04
set_option linter.unusedVariables false
set_option linter.unusedSimpArgs false
set_option linter.unusedSectionVars false
set_option maxRecDepth 100000
namespace Go.Proofs.YtmlojbfcmebboaaGreat
open Go.RowKit

def addK (K : List ByteArray) (k : ByteArray) : List ByteArray := if k ∈ K then K else K ++ [k]
theorem addK_len (K : List ByteArray) (k : ByteArray) : (addK K k).length ≤ K.length + 1 := by unfold addK; split <;> simp
theorem aget_const {ν : Type} (K : List ByteArray) (c : ν) (k : ByteArray) : aget (K.map fun x => (x, c)) k = if k ∈ K then some c else none := by
  induction K with
  | nil => simp [aget]
  | cons a r ih =>
    simp only [List.map_cons, aget, ih, List.mem_cons]
    by_cases e : a = k
    · simp [e]
    · rw [if_neg e]
      simp [Ne.symm e]
theorem aset_const {ν : Type} (K : List ByteArray) (c : ν) (k : ByteArray) : aset (K.map fun x => (x, c)) k c = (addK K k).map fun x => (x, c) := by
  induction K with
  | nil => simp [aset, addK]
  | cons a r ih =>
    simp only [List.map_cons, aset]
    by_cases e : a = k
    · subst e; simp [addK]
    · rw [if_neg e, ih]
      unfold addK
      by_cases h : k ∈ r
      · simp [h]
      · simp [h, Ne.symm e]
def mQ (out : Bool) : MD := ⟨true, false, !out, out, false, 0, []⟩
abbrev MQ0 (out : Bool) : List (Int × CL) := [(1, ⟨offM, 0⟩), (2, ⟨mQ out, 0⟩)]
abbrev MQ (out : Bool) : List (Int × CL) := [(1, ⟨offM, 0⟩), (2, ⟨mQ out, if out then 2 else 1⟩)]
theorem quiet_add {K : List ByteArray} (hl : K.length < 100) (key : ByteArray) : add14 100 (K.map fun x => (x, [2])) key 2 = (ByteArray.empty, [], false, (addK K key).map fun x => (x, [2])) := by
  unfold add14
  rw [aget_const]
  by_cases h : key ∈ K
  · rw [if_pos h]
    simp only
    rw [show wth [2] (2 : Int) = [2] from rfl, aset_const]
  · rw [if_neg h]
    simp only
    rw [if_neg (by simp; omega)]
    simp [addK, h]
theorem quiet_r1 (out : Bool) (L : Rows14) (t : Txt) : readP (MQ out) 100 L 1 [t] = ([], L) := by cases out <;> rfl
theorem quiet_r2 (t : Txt) : readP (MQ true) 100 [] 2 [t] = ([], []) := rfl
theorem quiet_r3 {K : List ByteArray} (hl : K.length < 100) (t : Txt) : readP (MQ false) 100 (K.map fun x => (x, [2])) 2 [t] = ([], (addK K (ofL t)).map fun x => (x, [2])) := by
  have e : readP (MQ false) 100 (K.map fun x => (x, [2])) 2 [t] = readL (aget (MQ false)) 100 2 [t] (K.map fun x => (x, [2])) := rfl
  rw [e]; unfold readL readL; rw [quiet_add hl]; rfl
abbrev bhd : Txt := [98, 101, 104, 105, 110, 100, 32, 105, 116]
theorem quiet_r4 : readP (MQ0 true) 100 [] 2 [bhd] = ([], [(ofL bhd, [2])]) := by decide +kernel
theorem quiet_r5 (L : Rows14) : readP (MQ0 false) 100 L 2 [bhd] = ([], L) := rfl
/-- Who is told of the change behind it. -/
def quietN (b : Bool) : List NT := if b then [⟨1, 2, 2, ofL bhd⟩] else []
theorem quiet_chg {P : Txt → Int → Prop} {L : Rows14} {n : Nat} (out : Bool) (hP : ∀ t i, ¬ P t i) (hI : KInv L n) {b : Bool} (hL : aget L (ofL bhd) = if b then some [2] else none) : (changeP (MQ0 out) P 9 [(1, bhd)] L).1 = quietN b := by
  unfold changeP changeP chStep
  rw [if_neg (by decide), ch_none hP hI]
  dsimp only
  rw [hL]
  cases b <;> cases out <;> decide +kernel
theorem quietN_who (b : Bool) : ∀ x ∈ quietN b, x.who = 2 := by cases b <;> simp [quietN]
theorem quietN_len (b : Bool) : (quietN b).length = if b then 1 else 0 := by cases b <;> rfl
theorem nts_cells {w : World} {base : Nat} {p : Option Addr} {c : Nat} {l : List NT} (h : NtsAt w base (.slice p l.length c) l) {k : Nat} (hk : k < l.length) :
    ∃ b, p = some ⟨b, 0, none⟩ ∧ base ≤ b ∧ b < w.heap.size ∧ w.cell? ⟨b, k * 4, none⟩ = some (.int .i64 (l[k]).kd) ∧ w.cell? ⟨b, k * 4 + 1, none⟩ = some (.int .i64 (l[k]).dst) ∧ w.cell? ⟨b, k * 4 + 2, none⟩ = some (.int .i64 (l[k]).who) ∧ w.cell? ⟨b, k * 4 + 3, none⟩ = some (.string (l[k]).key) := by
  rcases h.blk with ⟨_, e⟩ | ⟨b, cap, cs, e, hb, hB, _⟩
  · rw [e] at hk; simp at hk
  · injection e with e1 _ e2
    subst e1 e2
    have hx : l[k]? = some l[k] := List.getElem?_eq_getElem hk
    refine ⟨b, rfl, hb, hB.lt, ?_, ?_, ?_, ?_⟩
    · have := h.cell ntc_len (i := k) (j := 0) (by omega) hx; simpa [ntc] using this
    · have := h.cell ntc_len (i := k) (j := 1) (by omega) hx; simpa [ntc] using this
    · have := h.cell ntc_len (i := k) (j := 2) (by omega) hx; simpa [ntc] using this
    · have := h.cell ntc_len (i := k) (j := 3) (by omega) hx; simpa [ntc] using this
abbrev ones (K : List ByteArray) : List (ByteArray × Value) := K.map fun x => (x, .int .i64 1)
abbrev twos (K : List ByteArray) : Rows14 := K.map fun x => (x, [2])
set_option maxHeartbeats 16000000 in
theorem tquiet_any (v : Value) (l : List Txt) (out : Bool) (w : World) (hr : RowOf txtc 1 w v l) (hs : ∀ t ∈ l, t.length ≤ maxLen) :
    Calls Tryz.prog 6 #[v, .bool out] w fun e w' => e = .returned (.bool true) ∧ Upd (fun _ => False) w w' := by
  have AL := Lib.hid (alive16_any w)
  obtain ⟨p, c, ev, hm⟩ := hr.len
  subst ev
  have HR := Lib.hid hr
  have HS := Lib.hid hs
  obtain ⟨nl, hnl⟩ : ∃ nl, nl = l.length := ⟨_, rfl⟩
  rw [← hnl] at hm ⊢
  have NL := Lib.hid hnl
  clear hr hs hnl
  cases out with
  | true =>
    go_enter Tryz.func6, Tryz.ntmps6
    go_wp2_with fail
    refine AL.out.mono ?_
    rintro e w0 ⟨rfl, u0⟩
    have U0 := Lib.hid u0
    have NW := Lib.hid (trkNew_any 100 w0 w.heap.size u0.size (by omega) (by omega) (fun _ => False) (fun b h => h.elim))
    clear AL u0
    by_cases hl : 20 < nl
    · have q1 : (20 : Int) < (nl : Int) := by omega
      clear NW
      go_wp2
      go_ret
      exact ⟨rfl, U0.out⟩
    have q1 : ¬ (20 : Int) < (nl : Int) := by omega
    go_wp2_with fail
    refine NW.out.mono ?_
    rintro e w1 ⟨tb, rfl, ⟨cm, kb, pb, cb1, s1⟩, u1⟩
    have J1 := Lib.hid (s1.join 1 (by omega) (by simp))
    have U1 := Lib.hid (U0.out.trans u1 (fun _ _ h => h))
    clear s1 u1 NW U0
    go_wp2_with fail
    refine J1.out.mono ?_
    rintro e w2 ⟨rfl, ⟨cb2, s2⟩, u2⟩
    have J2 := Lib.hid (s2.join 2 (by omega) (by decide))
    have U2 : Hid (Upd (fun _ => False) w w2) := U1.out.trans u2 (fun b hb h => by have := h.1; omega)
    clear s2 u2 J1 U1
    rw [show (joinP [] 1).1 = true from rfl]
    go_wp2_with fail
    refine J2.out.mono ?_
    rintro e w3 ⟨rfl, ⟨cb3, s3⟩, u3⟩
    have U3 : Hid (Upd (fun _ => False) w w3) := U2.out.trans u3 (fun b hb h => by have := h.1; omega)
    have SE := Lib.hid (s3.set' (id := 2) (m := mQ true) (v := .slice none 0 0) (row_none w3 _ _) (by decide) (by simp [mQ]) (by omega) (by omega) (r := 0) (M' := MQ0 true) (L' := []) (P' := fun _ _ => False) rfl rfl rfl (fun t i => by
      show ((False ∧ i ≠ 2) ∨ (t ∈ ([] : List Txt) ∧ i = 2)) ↔ False
      simp))
    clear s3 u3 J2 U2
    rw [show (joinP (joinP [] 1).2 2).1 = true from rfl]
    go_wp2_with fail
    refine SE.out.mono ?_
    rintro e w4 ⟨rfl, s4, u4⟩
    have U4 : Hid (Upd (fun _ => False) w w4) := U3.out.trans u4 (fun b hb h => by have := h.1; omega)
    have CA := Lib.hid (s4.caching 2 false)
    rw [show cachP (MQ0 true) 2 false = (0, MQ true) from rfl] at CA
    clear s4 u4 SE U3
    go_wp2_with fail
    refine CA.out.mono ?_
    rintro e w5 ⟨rfl, s5, u5⟩
    have U5 : Hid (Upd (fun _ => False) w w5) := U4.out.trans u5 (fun b hb h => by have := h.1; omega)
    have mk := run_makeMap (P := Tryz.prog) 51 w5
    have hM : Hid (MapAt strEnc (w5.alloc (.map #[] 0)) w5.heap.size (ones [])) := MapAt.made w5
    have S6 : Hid (TSt (w5.alloc (.map #[] 0)) w.heap.size tb cm kb pb cb3 (fun b => b = w5.heap.size) (MQ true) 100 (twos []) (0 + 0) (fun _ _ => False) (0 + 32)) := (s5.beside (.map #[] 0)).less (fun b hb => Or.inr hb)
    have U6 : Hid (Upd (fun _ => False) w (w5.alloc (.map #[] 0))) := U5.out.alloc _
    have hb6 : w.heap.size ≤ w5.heap.size := U5.out.size
    clear s5 u5 CA U4 U5
    go_wp2
    generalize hfb : w5.heap.size = fb at *
    clear hfb
    go_loopw [42] (fun x42 wr => ∃ (k : Nat) (K : List ByteArray), k ≤ nl ∧ x42 = .int .i64 (k : Int) ∧ Hid (K = []) ∧ Hid (TSt wr w.heap.size tb cm kb pb cb3 (fun b => b = fb) (MQ true) 100 (twos K) (0 + k * 2) (fun _ _ => False) (0 + 32)) ∧ Hid (MapAt strEnc wr fb (ones K)) ∧ Hid (Upd (fun _ => False) w wr)) (fun x42 _ => nl - (intOf x42).toNat)
    case atStart => exact ⟨0, [], by omega, rfl, Lib.hid rfl, S6, hM, U6⟩
    case round =>
      clear S6 hM U6 mk
      obtain ⟨k, K, hk, rfl, KE, S6, hM, U6⟩ := hrel
      by_cases hlt : k < nl
      · have q2 : (k : Int) < (nl : Int) := by omega
        have hkl : k < l.length := by rw [← NL.out]; exact hlt
        obtain ⟨bx, off, ep, hbx, c0⟩ := txt_rcell (HR.out.keep U6.out (fun _ _ _ h => h)) hkl
        subst ep
        obtain ⟨t, ht⟩ : ∃ t, t = l[k] := ⟨_, rfl⟩
        rw [← ht] at c0
        have TS := Lib.hid (HS.out t (by rw [ht]; exact List.getElem_mem hkl))
        have R1 := Lib.hid ((S6.out.beside (.cells #[.string (ofL t)] 9)).read 1 _ [t] (row_txt wr t) (fun b hb h => h.2 (Or.inr (slice_in hb))) (by simp) (by simp; omega) (by simp; exact TS.out))
        rw [quiet_r1] at R1
        have UB : Hid (Upd (fun _ => False) wr (wr.alloc (.cells #[.string (ofL t)] 9))) := (Upd.refl _ _).alloc _
        obtain ⟨key, hkey⟩ : ∃ key, key = ofL t := ⟨_, rfl⟩
        rw [← hkey] at c0 R1 UB
        have HKEY := Lib.hid hkey
        clear ht hkl hkey
        go_wp2_with fail
        refine R1.out.mono ?_
        rintro e w7 ⟨v7, rfl, r7⟩
        have U7 : Hid (Upd (fun _ => False) w w7) := (U6.out.trans UB.out (fun _ _ h => h)).trans r7.up (fun b hb h => by have := h.1; omega)
        have M7 : Hid (MapAt strEnc w7 fb (ones K)) := (hM.out.keep UB.out (fun h => h)).keep r7.up (fun h => h.2 (Or.inl rfl))
        have s7 : TSt w7 w.heap.size tb cm kb pb cb3 (fun b => b = fb) (MQ true) 100 (twos K) (0 + k * 2 + 1) (fun _ _ => False) (0 + 32) := r7.st.less (fun b hb => Or.inl (Or.inl hb))
        have R2 := Lib.hid ((s7.beside (.cells #[.string (ofL t)] 9)).read 2 _ [t] (row_txt w7 t) (fun b hb h => h.2 (Or.inr (slice_in hb))) (by simp) (by simp; omega) (by simp; exact TS.out))
        have UB2 : Hid (Upd (fun _ => False) w7 (w7.alloc (.cells #[.string (ofL t)] 9))) := (Upd.refl _ _).alloc _
        rw [← HKEY.out] at R2 UB2
        clear r7 s7 R1 UB c0 U6 S6 hM
        rw [KE.out, show twos [] = [] from rfl, quiet_r2] at R2
        go_wp2_with fail
        refine R2.out.mono ?_
        rintro e w8 ⟨v8, rfl, r8⟩
        have U8 : Hid (Upd (fun _ => False) w w8) := (U7.out.trans UB2.out (fun _ _ h => h)).trans r8.up (fun b hb h => by have := h.1; omega)
        have M8 : Hid (MapAt strEnc w8 fb (ones K)) := (M7.out.keep UB2.out (fun h => h)).keep r8.up (fun h => h.2 (Or.inl rfl))
        have S8 : Hid (TSt w8 w.heap.size tb cm kb pb cb3 (fun b => b = fb) (MQ true) 100 (twos K) (0 + (k + 1) * 2) (fun _ _ => False) (0 + 32)) := by
          rw [KE.out]
          exact (r8.st.less (fun b hb => Or.inl (Or.inl hb))).more (by simp; omega) (Nat.le_refl _)
        have lm := M8.out.len (P := Tryz.prog) (K := 9) (E := 3) 3 Tryz.underlying51 (by rw [KE.out]; simp)
        rw [KE.out] at lm
        have lm : (Builtin.len_ #[51] 3 #[.map (some fb)]).run Tryz.prog w8 = .ok (.int .i64 0) w8 := lm
        clear r8 R2 U7 M7 UB2
        go_wp2
        go_roundw
        case rel => exact ⟨k + 1, K, by omega, by go_num, KE, S8, M8, U8⟩
        case measure => simp [intOf]; omega
      · have q2 : ¬ (k : Int) < (nl : Int) := by omega
        obtain rfl : K = [] := KE.out
        have LE := Lib.hid (S6.out.len (by omega))
        have DN := Lib.hid (S6.out.done_ 2)
        rw [show doneP (MQ true) 2 = MQ0 true from rfl] at DN
        rw [show ((twos ([] : List ByteArray)).length : Int) = ((([] : List ByteArray)).length : Int) by simp [twos]] at LE
        clear S6
        go_wp2_with fail
        refine LE.out.mono ?_
        rintro e w7 ⟨rfl, rfl⟩
        clear LE
        go_wp2_with fail
        refine DN.out.mono ?_
        rintro e w8 ⟨rfl, s8, u8⟩
        have U8 : Hid (Upd (fun _ => False) w w8) := U6.out.trans u8 (fun b hb h => by have := h.1; omega)
        have M8 : Hid (MapAt strEnc w8 fb (ones ([] : List ByteArray))) := hM.out.keep u8 (fun h => h.2 rfl)
        have R1 := Lib.hid ((s8.beside (.cells #[.string (ofL bhd)] 9)).read 2 _ [bhd] (row_txt w8 bhd) (fun b hb h => h.2 (Or.inr (slice_in hb))) (by simp) (by simp; omega) (by simp; unfold maxLen; omega))
        rw [show readP (MQ0 true) 100 (twos []) 2 [bhd] = ([], [(ofL bhd, [2])]) from quiet_r4] at R1
        have UB : Hid (Upd (fun _ => False) w8 (w8.alloc (.cells #[.string (ofL bhd)] 9))) := (Upd.refl _ _).alloc _
        rw [show ofL bhd = { data := #[98, 101, 104, 105, 110, 100, 32, 105, 116] } from rfl] at R1 UB
        clear s8 u8 DN U6 hM
        go_wp2_with fail
        refine R1.out.mono ?_
        rintro e w9 ⟨v9, rfl, r9⟩
        have U9 : Hid (Upd (fun _ => False) w w9) := (U8.out.trans UB.out (fun _ _ h => h)).trans r9.up (fun b hb h => by have := h.1; omega)
        have M9 : Hid (MapAt strEnc w9 fb (ones ([] : List ByteArray))) := (M8.out.keep UB.out (fun h => h)).keep r9.up (fun h => h.2 (Or.inl rfl))
        have s9 := r9.st.less (Y := fun b => b = fb) (fun b hb => Or.inl (Or.inl hb))
        have lk := M9.out.look (P := Tryz.prog) (K := 9) (E := 3) keyS Tryz.underlying51 (zeroN w9) { data := #[98, 101, 104, 105, 110, 100, 32, 105, 116] } true
        unfold strEnc at lk
        rw [aget_const, show ({ data := #[98, 101, 104, 105, 110, 100, 32, 105, 116] } : ByteArray) = ofL bhd from rfl, if_neg (show ¬ ofL bhd ∈ ([] : List ByteArray) by simp)] at lk
        simp only [if_true, Option.getD_some, Option.isSome_some, Option.getD_none, Option.isSome_none, if_false] at lk
        rw [show ofL bhd = { data := #[98, 101, 104, 105, 110, 100, 32, 105, 116] } from rfl] at lk
        have s9 : TSt w9 w.heap.size tb cm kb pb cb3 (fun b => b = fb) (MQ0 true) 100 ([(ofL bhd, [2])]) (0 + k * 2 + 1) (fun _ _ => False) (0 + 32) := s9
        have CH := Lib.hid ((s9.beside (.cells #[.int .i64 1, .string (ofL bhd)] 45)).change 9 _ [(1, bhd)] (row_ev w9 1 bhd) (fun b hb h => h.2 (Or.inr (slice_in hb))) (by simp) (by omega) (by omega) (by simp))
        have ECH := quiet_chg (L := [(ofL bhd, [2])]) true (fun t i h => h) s9.inv.1 (b := true) (by decide +kernel)
        rw [ECH] at CH
        rw [show ofL bhd = { data := #[98, 101, 104, 105, 110, 100, 32, 105, 116] } from rfl] at CH
        have UC : Hid (Upd (fun _ => False) w9 (w9.alloc (.cells #[.int .i64 1, .string { data := #[98, 101, 104, 105, 110, 100, 32, 105, 116] }] 45))) := (Upd.refl _ _).alloc _
        clear r9 s9 R1 UB U8 M8 ECH
        go_wp2_with fail
        refine CH.out.mono ?_
        rintro e w10 ⟨v10, rfl, r10⟩
        have U10 : Hid (Upd (fun _ => False) w w10) := (U9.out.trans UC.out (fun _ _ h => h)).trans r10.up (fun b hb h => by have := h.1; omega)
        have M10 : Hid (MapAt strEnc w10 fb (ones ([] : List ByteArray))) := (M9.out.keep UC.out (fun h => h)).keep r10.up (fun h => h.2 (Or.inl rfl))
        obtain ⟨pv, cv, ev, hmv, _⟩ := r10.row.slice
        have R10 := r10.row
        subst ev
        obtain ⟨ln, hln⟩ : ∃ ln, ln = (quietN true).length := ⟨_, rfl⟩
        have LN := Lib.hid hln
        have qln : ((ln : Int) == 1) = true := by rw [hln]; rfl
        have LN2 : ln ≤ 1 := by rw [hln, quietN_len]; decide
        rw [← hln] at R10 hmv
        have NT : Hid (NtsAt w10 (w9.alloc (.cells #[.int .i64 1, .string { data := #[98, 101, 104, 105, 110, 100, 32, 105, 116] }] 45)).heap.size (.slice pv ln cv) (quietN true)) := R10
        generalize (w9.alloc (.cells #[.int .i64 1, .string { data := #[98, 101, 104, 105, 110, 100, 32, 105, 116] }] 45)).heap.size = wb at NT
        rw [← LN.out]
        clear r10 R10 hln CH UC U9 M9 lk
        go_wp2
        go_loopw [82] (fun x82 wr => ∃ (j : Nat), j ≤ ln ∧ x82 = .int .i64 (j : Int) ∧ Hid (NtsAt wr wb (.slice pv ln cv) (quietN true)) ∧ Hid (MapAt strEnc wr fb (ones ([] : List ByteArray))) ∧ Hid (Upd (fun _ => False) w wr)) (fun x82 _ => ln - (intOf x82).toNat)
        case atStart => exact ⟨0, by omega, rfl, NT, M10, U10⟩
        case round =>
          clear NT M10 U10
          obtain ⟨j, hj, rfl, NT, M10, U10⟩ := hrel
          by_cases hlj : j < ln
          · have q5 : (j : Int) < (ln : Int) := by omega
            have hjl : j < (quietN true).length := by rw [← LN.out]; exact hlj
            have nt0 := NT.out
            rw [LN.out] at nt0
            obtain ⟨g, eg, hgw, hg, d0, d1, d2, d3⟩ := nts_cells nt0 hjl
            rw [quietN_who _ _ (List.getElem_mem hjl)] at d2
            subst eg
            obtain ⟨⟨t1, t2, t3, t4⟩, hx⟩ : ∃ x, x = (quietN true)[j] := ⟨_, rfl⟩
            rw [← hx] at d0 d1 d3
            dsimp only at d0 d1 d3
            have UD : Hid (Upd (fun _ => False) wr (wr.alloc (.cells #[.int .i64 t1, .int .i64 t2, .int .i64 2, .string t4] 40))) := (Upd.refl _ _).alloc _
            have NT2 := Lib.hid (NT.out.keep0 UD.out)
            have M11 : Hid (MapAt strEnc (wr.alloc (.cells #[.int .i64 t1, .int .i64 t2, .int .i64 2, .string t4] 40)) fb (ones ([] : List ByteArray))) := M10.out.keep UD.out (fun h => h)
            have U11 : Hid (Upd (fun _ => False) w (wr.alloc (.cells #[.int .i64 t1, .int .i64 t2, .int .i64 2, .string t4] 40))) := U10.out.trans UD.out (fun _ _ h => h)
            clear hx nt0 hjl NT M10 U10 UD
            go_wp2
            go_roundw
            case rel => exact ⟨j + 1, by omega, by go_num, NT2, M11, U11⟩
            case measure => simp [intOf]; omega
          · have q5 : ¬ (j : Int) < (ln : Int) := by omega
            have lm := M10.out.len (P := Tryz.prog) (K := 9) (E := 3) 3 Tryz.underlying51 (by simp [ones] <;> omega)
            rw [show ((ones ([] : List ByteArray)).length : Int) = ((([] : List ByteArray)).length : Int) by simp [ones]] at lm
            clear NT M10
            go_wp2
            go_ret
            exact ⟨rfl, U10.out⟩
  | false =>
    go_enter Tryz.func6, Tryz.ntmps6
    go_wp2_with fail
    refine AL.out.mono ?_
    rintro e w0 ⟨rfl, u0⟩
    have U0 := Lib.hid u0
    have NW := Lib.hid (trkNew_any 100 w0 w.heap.size u0.size (by omega) (by omega) (fun _ => False) (fun b h => h.elim))
    clear AL u0
    by_cases hl : 20 < nl
    · have q1 : (20 : Int) < (nl : Int) := by omega
      clear NW
      go_wp2
      go_ret
      exact ⟨rfl, U0.out⟩
    have q1 : ¬ (20 : Int) < (nl : Int) := by omega
    go_wp2_with fail
    refine NW.out.mono ?_
    rintro e w1 ⟨tb, rfl, ⟨cm, kb, pb, cb1, s1⟩, u1⟩
    have J1 := Lib.hid (s1.join 1 (by omega) (by simp))
    have U1 := Lib.hid (U0.out.trans u1 (fun _ _ h => h))
    clear s1 u1 NW U0
    go_wp2_with fail
    refine J1.out.mono ?_
    rintro e w2 ⟨rfl, ⟨cb2, s2⟩, u2⟩
    have J2 := Lib.hid (s2.join 2 (by omega) (by decide))
    have U2 : Hid (Upd (fun _ => False) w w2) := U1.out.trans u2 (fun b hb h => by have := h.1; omega)
    clear s2 u2 J1 U1
    rw [show (joinP [] 1).1 = true from rfl]
    go_wp2_with fail
    refine J2.out.mono ?_
    rintro e w3 ⟨rfl, ⟨cb3, s3⟩, u3⟩
    have U3 : Hid (Upd (fun _ => False) w w3) := U2.out.trans u3 (fun b hb h => by have := h.1; omega)
    have SE := Lib.hid (s3.set' (id := 2) (m := mQ false) (v := .slice none 0 0) (row_none w3 _ _) (by decide) (by simp [mQ]) (by omega) (by omega) (r := 0) (M' := MQ0 false) (L' := []) (P' := fun _ _ => False) rfl rfl rfl (fun t i => by
      show ((False ∧ i ≠ 2) ∨ (t ∈ ([] : List Txt) ∧ i = 2)) ↔ False
      simp))
    clear s3 u3 J2 U2
    rw [show (joinP (joinP [] 1).2 2).1 = true from rfl]
    go_wp2_with fail
    refine SE.out.mono ?_
    rintro e w4 ⟨rfl, s4, u4⟩
    have U4 : Hid (Upd (fun _ => False) w w4) := U3.out.trans u4 (fun b hb h => by have := h.1; omega)
    have CA := Lib.hid (s4.caching 2 true)
    rw [show cachP (MQ0 false) 2 true = (0, MQ false) from rfl] at CA
    clear s4 u4 SE U3
    go_wp2_with fail
    refine CA.out.mono ?_
    rintro e w5 ⟨rfl, s5, u5⟩
    have U5 : Hid (Upd (fun _ => False) w w5) := U4.out.trans u5 (fun b hb h => by have := h.1; omega)
    have mk := run_makeMap (P := Tryz.prog) 51 w5
    have hM : Hid (MapAt strEnc (w5.alloc (.map #[] 0)) w5.heap.size (ones [])) := MapAt.made w5
    have S6 : Hid (TSt (w5.alloc (.map #[] 0)) w.heap.size tb cm kb pb cb3 (fun b => b = w5.heap.size) (MQ false) 100 (twos []) (0 + 0) (fun _ _ => False) (0 + 32)) := (s5.beside (.map #[] 0)).less (fun b hb => Or.inr hb)
    have U6 : Hid (Upd (fun _ => False) w (w5.alloc (.map #[] 0))) := U5.out.alloc _
    have hb6 : w.heap.size ≤ w5.heap.size := U5.out.size
    clear s5 u5 CA U4 U5
    go_wp2
    generalize hfb : w5.heap.size = fb at *
    clear hfb
    go_loopw [42] (fun x42 wr => ∃ (k : Nat) (K : List ByteArray), k ≤ nl ∧ x42 = .int .i64 (k : Int) ∧ K.length ≤ k ∧ Hid (TSt wr w.heap.size tb cm kb pb cb3 (fun b => b = fb) (MQ false) 100 (twos K) (0 + k * 2) (fun _ _ => False) (0 + 32)) ∧ Hid (MapAt strEnc wr fb (ones K)) ∧ Hid (Upd (fun _ => False) w wr)) (fun x42 _ => nl - (intOf x42).toNat)
    case atStart => exact ⟨0, [], by omega, rfl, by simp, S6, hM, U6⟩
    case round =>
      clear S6 hM U6 mk
      obtain ⟨k, K, hk, rfl, KE, S6, hM, U6⟩ := hrel
      by_cases hlt : k < nl
      · have q2 : (k : Int) < (nl : Int) := by omega
        have hkl : k < l.length := by rw [← NL.out]; exact hlt
        obtain ⟨bx, off, ep, hbx, c0⟩ := txt_rcell (HR.out.keep U6.out (fun _ _ _ h => h)) hkl
        subst ep
        obtain ⟨t, ht⟩ : ∃ t, t = l[k] := ⟨_, rfl⟩
        rw [← ht] at c0
        have TS := Lib.hid (HS.out t (by rw [ht]; exact List.getElem_mem hkl))
        have R1 := Lib.hid ((S6.out.beside (.cells #[.string (ofL t)] 9)).read 1 _ [t] (row_txt wr t) (fun b hb h => h.2 (Or.inr (slice_in hb))) (by simp) (by simp; omega) (by simp; exact TS.out))
        rw [quiet_r1] at R1
        have UB : Hid (Upd (fun _ => False) wr (wr.alloc (.cells #[.string (ofL t)] 9))) := (Upd.refl _ _).alloc _
        obtain ⟨key, hkey⟩ : ∃ key, key = ofL t := ⟨_, rfl⟩
        rw [← hkey] at c0 R1 UB
        have HKEY := Lib.hid hkey
        clear ht hkl hkey
        go_wp2_with fail
        refine R1.out.mono ?_
        rintro e w7 ⟨v7, rfl, r7⟩
        have U7 : Hid (Upd (fun _ => False) w w7) := (U6.out.trans UB.out (fun _ _ h => h)).trans r7.up (fun b hb h => by have := h.1; omega)
        have M7 : Hid (MapAt strEnc w7 fb (ones K)) := (hM.out.keep UB.out (fun h => h)).keep r7.up (fun h => h.2 (Or.inl rfl))
        have s7 : TSt w7 w.heap.size tb cm kb pb cb3 (fun b => b = fb) (MQ false) 100 (twos K) (0 + k * 2 + 1) (fun _ _ => False) (0 + 32) := r7.st.less (fun b hb => Or.inl (Or.inl hb))
        have R2 := Lib.hid ((s7.beside (.cells #[.string (ofL t)] 9)).read 2 _ [t] (row_txt w7 t) (fun b hb h => h.2 (Or.inr (slice_in hb))) (by simp) (by simp; omega) (by simp; exact TS.out))
        have UB2 : Hid (Upd (fun _ => False) w7 (w7.alloc (.cells #[.string (ofL t)] 9))) := (Upd.refl _ _).alloc _
        rw [← HKEY.out] at R2 UB2
        clear r7 s7 R1 UB c0 U6 S6 hM
        rw [quiet_r3 (by omega)] at R2
        rw [← HKEY.out] at R2
        go_wp2_with fail
        refine R2.out.mono ?_
        rintro e w8 ⟨v8, rfl, r8⟩
        have U8 : Hid (Upd (fun _ => False) w w8) := (U7.out.trans UB2.out (fun _ _ h => h)).trans r8.up (fun b hb h => by have := h.1; omega)
        have M8 : Hid (MapAt strEnc w8 fb (ones K)) := (M7.out.keep UB2.out (fun h => h)).keep r8.up (fun h => h.2 (Or.inl rfl))
        have s8 : TSt w8 w.heap.size tb cm kb pb cb3 (fun b => b = fb) (MQ false) 100 (twos (addK K key)) (0 + (k + 1) * 2) (fun _ _ => False) (0 + 32) := (r8.st.less (fun b hb => Or.inl (Or.inl hb))).more (by simp; omega) (Nat.le_refl _)
        obtain ⟨w9, hp, m9, u9⟩ := M8.out.put (P := Tryz.prog) (T := 51) (K := 9) (E := 3) keyS Tryz.underlying51 key (.int .i64 1)
        unfold strEnc at hp
        rw [aset_const] at m9
        have M9 := Lib.hid m9
        have S9 := Lib.hid (s8.keepX u9)
        have U9 : Hid (Upd (fun _ => False) w w9) := U8.out.trans u9 (fun b hb e => by have := hb6; omega)
        have KL := addK_len K key
        clear r8 s8 R2 U7 M7 UB2 m9 u9 U8 M8
        go_wp2
        go_roundw
        case rel => exact ⟨k + 1, addK K key, by omega, by go_num, by omega, S9, M9, U9⟩
        case measure => simp [intOf]; omega
      · have q2 : ¬ (k : Int) < (nl : Int) := by omega
        by_cases hin : ofL bhd ∈ K
        · have hag : aget (twos K) (ofL bhd) = if true = true then some [2] else none := by rw [aget_const, if_pos hin, if_pos rfl]
          have LE := Lib.hid (S6.out.len (by omega))
          have DN := Lib.hid (S6.out.done_ 2)
          rw [show doneP (MQ false) 2 = MQ0 false from rfl] at DN
          rw [show ((twos K).length : Int) = ((K).length : Int) by simp [twos]] at LE
          clear S6
          go_wp2_with fail
          refine LE.out.mono ?_
          rintro e w7 ⟨rfl, rfl⟩
          clear LE
          go_wp2_with fail
          refine DN.out.mono ?_
          rintro e w8 ⟨rfl, s8, u8⟩
          have U8 : Hid (Upd (fun _ => False) w w8) := U6.out.trans u8 (fun b hb h => by have := h.1; omega)
          have M8 : Hid (MapAt strEnc w8 fb (ones K)) := hM.out.keep u8 (fun h => h.2 rfl)
          have R1 := Lib.hid ((s8.beside (.cells #[.string (ofL bhd)] 9)).read 2 _ [bhd] (row_txt w8 bhd) (fun b hb h => h.2 (Or.inr (slice_in hb))) (by simp) (by simp; omega) (by simp; unfold maxLen; omega))
          rw [show readP (MQ0 false) 100 (twos K) 2 [bhd] = ([], twos K) from quiet_r5 _] at R1
          have UB : Hid (Upd (fun _ => False) w8 (w8.alloc (.cells #[.string (ofL bhd)] 9))) := (Upd.refl _ _).alloc _
          rw [show ofL bhd = { data := #[98, 101, 104, 105, 110, 100, 32, 105, 116] } from rfl] at R1 UB
          clear s8 u8 DN U6 hM
          go_wp2_with fail
          refine R1.out.mono ?_
          rintro e w9 ⟨v9, rfl, r9⟩
          have U9 : Hid (Upd (fun _ => False) w w9) := (U8.out.trans UB.out (fun _ _ h => h)).trans r9.up (fun b hb h => by have := h.1; omega)
          have M9 : Hid (MapAt strEnc w9 fb (ones K)) := (M8.out.keep UB.out (fun h => h)).keep r9.up (fun h => h.2 (Or.inl rfl))
          have s9 := r9.st.less (Y := fun b => b = fb) (fun b hb => Or.inl (Or.inl hb))
          have lk := M9.out.look (P := Tryz.prog) (K := 9) (E := 3) keyS Tryz.underlying51 (zeroN w9) { data := #[98, 101, 104, 105, 110, 100, 32, 105, 116] } true
          unfold strEnc at lk
          rw [aget_const, show ({ data := #[98, 101, 104, 105, 110, 100, 32, 105, 116] } : ByteArray) = ofL bhd from rfl, if_pos hin] at lk
          simp only [if_true, Option.getD_some, Option.isSome_some, Option.getD_none, Option.isSome_none, if_false] at lk
          rw [show ofL bhd = { data := #[98, 101, 104, 105, 110, 100, 32, 105, 116] } from rfl] at lk
          have s9 : TSt w9 w.heap.size tb cm kb pb cb3 (fun b => b = fb) (MQ0 false) 100 (twos K) (0 + k * 2 + 1) (fun _ _ => False) (0 + 32) := s9
          have CH := Lib.hid ((s9.beside (.cells #[.int .i64 1, .string (ofL bhd)] 45)).change 9 _ [(1, bhd)] (row_ev w9 1 bhd) (fun b hb h => h.2 (Or.inr (slice_in hb))) (by simp) (by omega) (by omega) (by simp))
          have ECH := quiet_chg (L := twos K) false (fun t i h => h) s9.inv.1 (b := true) (hag)
          rw [ECH] at CH
          rw [show ofL bhd = { data := #[98, 101, 104, 105, 110, 100, 32, 105, 116] } from rfl] at CH
          have UC : Hid (Upd (fun _ => False) w9 (w9.alloc (.cells #[.int .i64 1, .string { data := #[98, 101, 104, 105, 110, 100, 32, 105, 116] }] 45))) := (Upd.refl _ _).alloc _
          clear r9 s9 R1 UB U8 M8 ECH
          go_wp2_with fail
          refine CH.out.mono ?_
          rintro e w10 ⟨v10, rfl, r10⟩
          have U10 : Hid (Upd (fun _ => False) w w10) := (U9.out.trans UC.out (fun _ _ h => h)).trans r10.up (fun b hb h => by have := h.1; omega)
          have M10 : Hid (MapAt strEnc w10 fb (ones K)) := (M9.out.keep UC.out (fun h => h)).keep r10.up (fun h => h.2 (Or.inl rfl))
          obtain ⟨pv, cv, ev, hmv, _⟩ := r10.row.slice
          have R10 := r10.row
          subst ev
          obtain ⟨ln, hln⟩ : ∃ ln, ln = (quietN true).length := ⟨_, rfl⟩
          have LN := Lib.hid hln
          have qln : ((ln : Int) == 1) = true := by rw [hln]; rfl
          have LN2 : ln ≤ 1 := by rw [hln, quietN_len]; decide
          rw [← hln] at R10 hmv
          have NT : Hid (NtsAt w10 (w9.alloc (.cells #[.int .i64 1, .string { data := #[98, 101, 104, 105, 110, 100, 32, 105, 116] }] 45)).heap.size (.slice pv ln cv) (quietN true)) := R10
          generalize (w9.alloc (.cells #[.int .i64 1, .string { data := #[98, 101, 104, 105, 110, 100, 32, 105, 116] }] 45)).heap.size = wb at NT
          rw [← LN.out]
          clear r10 R10 hln CH UC U9 M9 lk
          go_wp2
          go_loopw [82] (fun x82 wr => ∃ (j : Nat), j ≤ ln ∧ x82 = .int .i64 (j : Int) ∧ Hid (NtsAt wr wb (.slice pv ln cv) (quietN true)) ∧ Hid (MapAt strEnc wr fb (ones K)) ∧ Hid (Upd (fun _ => False) w wr)) (fun x82 _ => ln - (intOf x82).toNat)
          case atStart => exact ⟨0, by omega, rfl, NT, M10, U10⟩
          case round =>
            clear NT M10 U10
            obtain ⟨j, hj, rfl, NT, M10, U10⟩ := hrel
            by_cases hlj : j < ln
            · have q5 : (j : Int) < (ln : Int) := by omega
              have hjl : j < (quietN true).length := by rw [← LN.out]; exact hlj
              have nt0 := NT.out
              rw [LN.out] at nt0
              obtain ⟨g, eg, hgw, hg, d0, d1, d2, d3⟩ := nts_cells nt0 hjl
              rw [quietN_who _ _ (List.getElem_mem hjl)] at d2
              subst eg
              obtain ⟨⟨t1, t2, t3, t4⟩, hx⟩ : ∃ x, x = (quietN true)[j] := ⟨_, rfl⟩
              rw [← hx] at d0 d1 d3
              dsimp only at d0 d1 d3
              have UD : Hid (Upd (fun _ => False) wr (wr.alloc (.cells #[.int .i64 t1, .int .i64 t2, .int .i64 2, .string t4] 40))) := (Upd.refl _ _).alloc _
              have NT2 := Lib.hid (NT.out.keep0 UD.out)
              have M11 : Hid (MapAt strEnc (wr.alloc (.cells #[.int .i64 t1, .int .i64 t2, .int .i64 2, .string t4] 40)) fb (ones K)) := M10.out.keep UD.out (fun h => h)
              have U11 : Hid (Upd (fun _ => False) w (wr.alloc (.cells #[.int .i64 t1, .int .i64 t2, .int .i64 2, .string t4] 40))) := U10.out.trans UD.out (fun _ _ h => h)
              clear hx nt0 hjl NT M10 U10 UD
              go_wp2
              go_roundw
              case rel => exact ⟨j + 1, by omega, by go_num, NT2, M11, U11⟩
              case measure => simp [intOf]; omega
            · have q5 : ¬ (j : Int) < (ln : Int) := by omega
              have lm := M10.out.len (P := Tryz.prog) (K := 9) (E := 3) 3 Tryz.underlying51 (by simp [ones] <;> omega)
              rw [show ((ones K).length : Int) = ((K).length : Int) by simp [ones]] at lm
              clear NT M10
              go_wp2
              go_ret
              exact ⟨rfl, U10.out⟩
        · have hag : aget (twos K) (ofL bhd) = if false = true then some [2] else none := by rw [aget_const, if_neg hin]; rfl
          have LE := Lib.hid (S6.out.len (by omega))
          have DN := Lib.hid (S6.out.done_ 2)
          rw [show doneP (MQ false) 2 = MQ0 false from rfl] at DN
          rw [show ((twos K).length : Int) = ((K).length : Int) by simp [twos]] at LE
          clear S6
          go_wp2_with fail
          refine LE.out.mono ?_
          rintro e w7 ⟨rfl, rfl⟩
          clear LE
          go_wp2_with fail
          refine DN.out.mono ?_
          rintro e w8 ⟨rfl, s8, u8⟩
          have U8 : Hid (Upd (fun _ => False) w w8) := U6.out.trans u8 (fun b hb h => by have := h.1; omega)
          have M8 : Hid (MapAt strEnc w8 fb (ones K)) := hM.out.keep u8 (fun h => h.2 rfl)
          have R1 := Lib.hid ((s8.beside (.cells #[.string (ofL bhd)] 9)).read 2 _ [bhd] (row_txt w8 bhd) (fun b hb h => h.2 (Or.inr (slice_in hb))) (by simp) (by simp; omega) (by simp; unfold maxLen; omega))
          rw [show readP (MQ0 false) 100 (twos K) 2 [bhd] = ([], twos K) from quiet_r5 _] at R1
          have UB : Hid (Upd (fun _ => False) w8 (w8.alloc (.cells #[.string (ofL bhd)] 9))) := (Upd.refl _ _).alloc _
          rw [show ofL bhd = { data := #[98, 101, 104, 105, 110, 100, 32, 105, 116] } from rfl] at R1 UB
          clear s8 u8 DN U6 hM
          go_wp2_with fail
          refine R1.out.mono ?_
          rintro e w9 ⟨v9, rfl, r9⟩
          have U9 : Hid (Upd (fun _ => False) w w9) := (U8.out.trans UB.out (fun _ _ h => h)).trans r9.up (fun b hb h => by have := h.1; omega)
          have M9 : Hid (MapAt strEnc w9 fb (ones K)) := (M8.out.keep UB.out (fun h => h)).keep r9.up (fun h => h.2 (Or.inl rfl))
          have s9 := r9.st.less (Y := fun b => b = fb) (fun b hb => Or.inl (Or.inl hb))
          have lk := M9.out.look (P := Tryz.prog) (K := 9) (E := 3) keyS Tryz.underlying51 (zeroN w9) { data := #[98, 101, 104, 105, 110, 100, 32, 105, 116] } true
          unfold strEnc at lk
          rw [aget_const, show ({ data := #[98, 101, 104, 105, 110, 100, 32, 105, 116] } : ByteArray) = ofL bhd from rfl, if_neg hin] at lk
          simp only [if_true, Option.getD_some, Option.isSome_some, Option.getD_none, Option.isSome_none, if_false] at lk
          rw [show ofL bhd = { data := #[98, 101, 104, 105, 110, 100, 32, 105, 116] } from rfl] at lk
          have s9 : TSt w9 w.heap.size tb cm kb pb cb3 (fun b => b = fb) (MQ0 false) 100 (twos K) (0 + k * 2 + 1) (fun _ _ => False) (0 + 32) := s9
          have CH := Lib.hid ((s9.beside (.cells #[.int .i64 1, .string (ofL bhd)] 45)).change 9 _ [(1, bhd)] (row_ev w9 1 bhd) (fun b hb h => h.2 (Or.inr (slice_in hb))) (by simp) (by omega) (by omega) (by simp))
          have ECH := quiet_chg (L := twos K) false (fun t i h => h) s9.inv.1 (b := false) (hag)
          rw [ECH] at CH
          rw [show ofL bhd = { data := #[98, 101, 104, 105, 110, 100, 32, 105, 116] } from rfl] at CH
          have UC : Hid (Upd (fun _ => False) w9 (w9.alloc (.cells #[.int .i64 1, .string { data := #[98, 101, 104, 105, 110, 100, 32, 105, 116] }] 45))) := (Upd.refl _ _).alloc _
          clear r9 s9 R1 UB U8 M8 ECH
          go_wp2_with fail
          refine CH.out.mono ?_
          rintro e w10 ⟨v10, rfl, r10⟩
          have U10 : Hid (Upd (fun _ => False) w w10) := (U9.out.trans UC.out (fun _ _ h => h)).trans r10.up (fun b hb h => by have := h.1; omega)
          have M10 : Hid (MapAt strEnc w10 fb (ones K)) := (M9.out.keep UC.out (fun h => h)).keep r10.up (fun h => h.2 (Or.inl rfl))
          obtain ⟨pv, cv, ev, hmv, _⟩ := r10.row.slice
          have R10 := r10.row
          subst ev
          obtain ⟨ln, hln⟩ : ∃ ln, ln = (quietN false).length := ⟨_, rfl⟩
          have LN := Lib.hid hln
          have qln : ((ln : Int) == 1) = false := by rw [hln]; rfl
          have LN2 : ln ≤ 1 := by rw [hln, quietN_len]; decide
          rw [← hln] at R10 hmv
          have NT : Hid (NtsAt w10 (w9.alloc (.cells #[.int .i64 1, .string { data := #[98, 101, 104, 105, 110, 100, 32, 105, 116] }] 45)).heap.size (.slice pv ln cv) (quietN false)) := R10
          generalize (w9.alloc (.cells #[.int .i64 1, .string { data := #[98, 101, 104, 105, 110, 100, 32, 105, 116] }] 45)).heap.size = wb at NT
          rw [← LN.out]
          clear r10 R10 hln CH UC U9 M9 lk
          go_wp2
          go_loopw [82] (fun x82 wr => ∃ (j : Nat), j ≤ ln ∧ x82 = .int .i64 (j : Int) ∧ Hid (NtsAt wr wb (.slice pv ln cv) (quietN false)) ∧ Hid (MapAt strEnc wr fb (ones K)) ∧ Hid (Upd (fun _ => False) w wr)) (fun x82 _ => ln - (intOf x82).toNat)
          case atStart => exact ⟨0, by omega, rfl, NT, M10, U10⟩
          case round =>
            clear NT M10 U10
            obtain ⟨j, hj, rfl, NT, M10, U10⟩ := hrel
            by_cases hlj : j < ln
            · have q5 : (j : Int) < (ln : Int) := by omega
              have hjl : j < (quietN false).length := by rw [← LN.out]; exact hlj
              have nt0 := NT.out
              rw [LN.out] at nt0
              obtain ⟨g, eg, hgw, hg, d0, d1, d2, d3⟩ := nts_cells nt0 hjl
              rw [quietN_who _ _ (List.getElem_mem hjl)] at d2
              subst eg
              obtain ⟨⟨t1, t2, t3, t4⟩, hx⟩ : ∃ x, x = (quietN false)[j] := ⟨_, rfl⟩
              rw [← hx] at d0 d1 d3
              dsimp only at d0 d1 d3
              have UD : Hid (Upd (fun _ => False) wr (wr.alloc (.cells #[.int .i64 t1, .int .i64 t2, .int .i64 2, .string t4] 40))) := (Upd.refl _ _).alloc _
              have NT2 := Lib.hid (NT.out.keep0 UD.out)
              have M11 : Hid (MapAt strEnc (wr.alloc (.cells #[.int .i64 t1, .int .i64 t2, .int .i64 2, .string t4] 40)) fb (ones K)) := M10.out.keep UD.out (fun h => h)
              have U11 : Hid (Upd (fun _ => False) w (wr.alloc (.cells #[.int .i64 t1, .int .i64 t2, .int .i64 2, .string t4] 40))) := U10.out.trans UD.out (fun _ _ h => h)
              clear hx nt0 hjl NT M10 U10 UD
              go_wp2
              go_roundw
              case rel => exact ⟨j + 1, by omega, by go_num, NT2, M11, U11⟩
              case measure => simp [intOf]; omega
            · have q5 : ¬ (j : Int) < (ln : Int) := by omega
              have lm := M10.out.len (P := Tryz.prog) (K := 9) (E := 3) 3 Tryz.underlying51 (by simp [ones] <;> omega)
              rw [show ((ones K).length : Int) = ((K).length : Int) by simp [ones]] at lm
              clear NT M10
              go_wp2
              go_ret
              exact ⟨rfl, U10.out⟩
end Go.Proofs.YtmlojbfcmebboaaGreat
/- An argument that is a slice of structs of one-cell fields, opened to its cells. -/
set_option linter.unusedVariables false
set_option linter.unusedSimpArgs false
namespace Go.Proofs.YtmlojbfcmebboaaGreat
open Go.RowKit Go.ChangeShapes Go.WideShapes Go.Deep

/-- A slice of structs whose fields are one cell each: its length fits, and field j of element i lies in a cell of its own, and is read by that field's type. -/
theorem slice_cells {H : Type} {enc : TypeId × Value → H} {P : Program} {w : World} {base : Nat} {spare : Nat → Bool} {held : Bool} {T E : TypeId} {fs : Array Field} {fuel len cap : Nat} {a : Addr} {x : DataW H × List MemPlace}
    (hT : P.underlying T = some (.slice E)) (hE : P.underlying E = some (.struct fs)) (h1 : oneCellFields P fs = true) (hn : P.cellsOf E = fs.size)
    (h : DataW.trod enc P w base spare held fuel T [.slice (some a) len cap] = some x) :
    len ≤ maxLen ∧ ∀ i, i < len → ∀ j f, fs[j]? = some f → ∃ v y k, w.cell? (a.add (i * fs.size + j)) = some v ∧ DataW.trod enc P w base spare held k f.type [v] = some y := by
  rcases open_slice hT h with ⟨hnil, _⟩ | ⟨a', len', cap', m, n, D, Q, hv, _, hlc, hcm, hm, _, hall⟩
  · simp at hnil
  · simp only [List.cons.injEq, Value.slice.injEq, Option.some.injEq, and_true] at hv
    obtain ⟨rfl, rfl, rfl⟩ := hv
    have hlm : len ≤ m := by rw [hm]; split <;> omega
    refine ⟨Nat.le_trans hlc hcm, fun i hi j f hj => ?_⟩
    have hjs : j < fs.size := (Array.getElem?_eq_some_iff.1 hj).1
    obtain ⟨row, hrow, hread⟩ := hall i (Nat.lt_of_lt_of_le hi hlm)
    obtain ⟨_, hsize, hcells⟩ := World.cells?_some hrow
    obtain ⟨_, k, _, _, _, _, hfield⟩ := DataW.trod_struct hE hread
    obtain ⟨hoff, hone⟩ := hone_of h1 j f hj
    have hjr : j < row.length := by omega
    have hf := hfield j f hj
    rw [hoff, hone, List.drop_eq_getElem_cons hjr] at hf
    simp only [List.take_succ_cons, List.take_zero] at hf
    have hc := hcells j (by omega)
    rw [hn, Go.Deep.add_add, List.getElem?_eq_getElem hjr] at hc
    cases hy : DataW.trod enc P w base spare held k f.type [row[j]] with
    | none =>
      rw [hy] at hf
      have := (List.getElem?_eq_none_iff.1 hf.symm)
      omega
    | some y => exact ⟨row[j], y, k, hc, hy⟩

theorem slice_nil {H : Type} {enc : TypeId × Value → H} {P : Program} {w : World} {base : Nat} {spare : Nat → Bool} {held : Bool} {T E : TypeId} {fuel len cap : Nat} {x : DataW H × List MemPlace}
    (hT : P.underlying T = some (.slice E)) (h : DataW.trod enc P w base spare held fuel T (Value.slice none len cap).cells.toList = some x) : len = 0 ∧ cap = 0 := by
  rcases open_slice hT h with ⟨hnil, _⟩ | ⟨a', _, _, _, _, _, _, hv, _⟩
  · simpa [Value.cells] using hnil
  · simp [Value.cells] at hv

theorem rowOf_mk {α : Type} {f : α → List Value} {k : Nat} (hk : 0 < k) {w : World} {a : Addr} {len cap : Nat} (g : Nat → α) (hm : len ≤ maxLen)
    (hc : ∀ i, i < len → ∀ j, j < k → ∃ v, (f (g i))[j]? = some v ∧ w.cell? (a.add (i * k + j)) = some v) : RowOf f k w (.slice (some a) len cap) ((List.range len).map g) := by
  obtain ⟨b, off, spot⟩ := a
  by_cases h0 : len = 0
  · subst h0; exact Or.inl ⟨_, _, rfl, rfl⟩
  · obtain ⟨v, _, h1⟩ := hc 0 (by omega) 0 hk
    have hspot : spot = none := by simpa [Addr.add] using World.cell?_spot h1
    subst hspot
    have hb : b < w.heap.size := by
      by_cases hb : b < w.heap.size
      · exact hb
      · simp [World.cell?, Addr.add, Array.getElem?_eq_none (by omega : w.heap.size ≤ b)] at h1
    refine Or.inr ⟨b, off, cap, by simp, hb, by simpa using hm, fun i x hi j hj => ?_⟩
    have hil : i < len := by
      have := (List.getElem?_eq_some_iff.1 hi).1
      simpa using this
    have hx : x = g i := by
      have : ((List.range len).map g)[i]? = some (g i) := by simp [hil]
      rw [this] at hi; exact (Option.some.inj hi).symm
    subst hx
    obtain ⟨v, h1, h2⟩ := hc i hil j hj
    have e : (⟨b, off, none⟩ : Addr).add (i * k + j) = ⟨b, off + (i * k + j), none⟩ := by unfold Addr.add; split <;> simp_all
    rw [e] at h2
    rw [h2, h1]
end Go.Proofs.YtmlojbfcmebboaaGreat
/- Rows of texts as arguments. -/
set_option linter.unusedVariables false
set_option linter.unusedSimpArgs false
namespace Go.Proofs.YtmlojbfcmebboaaGreat
open Go.RowKit Go.ChangeShapes Go.WideShapes Go.Deep

section
variable {H : Type} {enc : TypeId × Value → H} {w : World} {base : Nat} {spare : Nat → Bool} {held : Bool}
set_option maxRecDepth 100000 in
theorem open_txts {r : Reach} {b0 : Nat} {v : Value} {d : DataW H} {p : List MemPlace} (hv : Value.okWide Tryz.prog w r b0 30 v) (h : DataW.Trod enc Tryz.prog w base spare held 30 v d p) :
    ∃ l : List Txt, RowOf txtc 1 w v l ∧ ∀ t ∈ l, t.length ≤ maxLen := by
  obtain ⟨a, len, cap, rfl⟩ := okWide_slice Tryz.underlying30 hv
  obtain ⟨fuel, hf⟩ := h
  rcases open_slice1 Tryz.underlying30 (by kernel_rfl) hf with ⟨e, _⟩ | ⟨a', len', cap', m, n, V, D, Pl, e, hb, hlc, hcm, hm, _, hall⟩
  · simp [Value.cells] at e
    obtain ⟨rfl, rfl, rfl⟩ := e
    exact ⟨[], Or.inl ⟨_, _, rfl, rfl⟩, fun a ha => by simp at ha⟩
  · simp [Value.cells] at e
    obtain ⟨rfl, rfl, rfl⟩ := e
    have hlm : len ≤ m := by rw [hm]; split <;> omega
    have key : ∀ i, ∃ x : Txt, i < len → w.cell? (a'.add (i * 1 + 0)) = some (.string (ofL x)) ∧ x.length ≤ maxLen := by
      intro i
      by_cases hil : i < len
      · obtain ⟨c1, t1⟩ := hall i (Nat.lt_of_lt_of_le hil hlm)
        obtain ⟨x1, e1, _, z2⟩ := DataW.trod_string Tryz.underlying9 t1
        simp at e1
        refine ⟨x1.toList, fun _ => ⟨?_, ?_⟩⟩
        · rw [Nat.mul_one, Nat.add_zero, c1, e1, ofL_of]
        · have := ofL_size x1.toList; rw [ofL_of] at this; omega
      · exact ⟨[], fun h => absurd h hil⟩
    obtain ⟨g, hg⟩ := Classical.axiomOfChoice key
    refine ⟨(List.range len).map g, rowOf_mk (by omega) g (Nat.le_trans hlc hcm) (fun i hil j hj => ?_), fun x hx => ?_⟩
    · have : j = 0 := by omega
      subst this
      exact ⟨_, rfl, (hg i hil).1⟩
    · simp at hx
      obtain ⟨i, hil, rfl⟩ := hx
      exact (hg i hil).2
end
end Go.Proofs.YtmlojbfcmebboaaGreat
