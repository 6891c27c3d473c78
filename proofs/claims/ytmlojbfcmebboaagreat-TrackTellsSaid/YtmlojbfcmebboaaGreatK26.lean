/- Walks: what happened: who is told. -/
import Derived.Test.YtmlojbfcmebboaaGreatK24
import Derived.Test.YtmlojbfcmebboaaGreatK25
set_option linter.unusedVariables false
set_option linter.unusedSimpArgs false
set_option linter.unusedSectionVars false
set_option maxRecDepth 100000
namespace Go.Proofs.YtmlojbfcmebboaaGreat
open Go.RowKit

/-- Events: a kind, a key. -/
def evc (e : Int × Txt) : List Value := [.int .i64 e.1, .string (ofL e.2)]
theorem ev_cells {w : World} {p : Option Addr} {cap : Nat} {l : List (Int × Txt)} (h : RowOf evc 2 w (.slice p l.length cap) l) {k : Nat} (hk : k < l.length) :
    ∃ b off, p = some ⟨b, off, none⟩ ∧ b < w.heap.size ∧ w.cell? ⟨b, off + k * 2, none⟩ = some (.int .i64 (l[k]).1) ∧ w.cell? ⟨b, off + k * 2 + 1, none⟩ = some (.string (ofL (l[k]).2)) := by
  rcases h with ⟨_, _, _, e⟩ | ⟨b, off, c, e, hb, _, hc⟩
  · rw [e] at hk; simp at hk
  · simp only [Value.slice.injEq] at e
    have hx : l[k]? = some l[k] := List.getElem?_eq_getElem hk
    refine ⟨b, off, e.1, hb, ?_, ?_⟩
    · have := hc k _ hx 0 (by omega); rw [Nat.add_zero] at this; simpa [evc] using this
    · have := hc k _ hx 1 (by omega); rw [← Nat.add_assoc] at this; simpa [evc] using this
/-- Who is told of a key's change: who has read it, and whose beginnings it has. -/
noncomputable def chIds (L : Rows14) (P : Txt → Int → Prop) (key : Txt) : List Int := Classical.epsilon fun ids => Rising ids ∧ ∀ x, x ∈ ids ↔ x ∈ (aget L (ofL key)).getD [] ∨ ∃ t, t <+: key ∧ P t x
theorem chIds_eq {L : Rows14} {P : Txt → Int → Prop} {key : Txt} {ids : List Int} (h : Rising ids) (hm : ∀ x, x ∈ ids ↔ x ∈ (aget L (ofL key)).getD [] ∨ ∃ t, t <+: key ∧ P t x) : chIds L P key = ids := by
  have s := Classical.epsilon_spec (p := fun ids => Rising ids ∧ ∀ x, x ∈ ids ↔ x ∈ (aget L (ofL key)).getD [] ∨ ∃ t, t <+: key ∧ P t x) ⟨ids, h, hm⟩
  exact rising_ext s.1 h (fun x => (s.2 x).trans (hm x).symm)
/-- Is one not told of its own doing? -/
def ownB (M : List (Int × CL)) (by_ kind : Int) (x : Int) : Bool := decide (x = by_) && quietP M by_ kind
noncomputable def chStep (M : List (Int × CL)) (P : Txt → Int → Prop) (by_ : Int) (L : Rows14) (e : Int × Txt) : List NT × Rows14 :=
  if e.1 = 5 then (flushP M, []) else (((chIds L P e.2).filter fun x => !ownB M by_ e.1 x).map (fun x => toldP (aget M) 1 x (ofL e.2)), adel L (ofL e.2))
noncomputable def changeP (M : List (Int × CL)) (P : Txt → Int → Prop) (by_ : Int) : List (Int × Txt) → Rows14 → List NT × Rows14
  | [], L => ([], L)
  | e :: r, L => ((chStep M P by_ L e).1 ++ (changeP M P by_ r (chStep M P by_ L e).2).1, (changeP M P by_ r (chStep M P by_ L e).2).2)
theorem changeP_snoc (M : List (Int × CL)) (P : Txt → Int → Prop) (by_ : Int) (l : List (Int × Txt)) (e : Int × Txt) (L : Rows14) :
    changeP M P by_ (l ++ [e]) L = ((changeP M P by_ l L).1 ++ (chStep M P by_ (changeP M P by_ l L).2 e).1, (chStep M P by_ (changeP M P by_ l L).2 e).2) := by
  induction l generalizing L with
  | nil => simp [changeP]
  | cons a r ih => simp only [List.cons_append, changeP, ih, List.append_assoc]
section
variable {w w' : World} {base tb cm kb pb : Nat} {cb : Int → Nat} {X Y : Nat → Prop} {M : List (Int × CL)} {most : Int} {L : Rows14} {n : Nat} {P P' : Txt → Int → Prop} {N : Nat}
/-- The run of a row of two rows, and that they lie there. -/
theorem two_rows {w : World} {va vb : Value} : Blk (w.alloc (.cells #[va, vb] 85)) w.heap.size [va, vb] 85 := Blk.made w [va, vb] _
set_option maxHeartbeats 16000000 in
theorem TSt.changeE (h : TSt w base tb cm kb pb cb X M most L n P N) (by_ : Int) (v : Value) (l : List (Int × Txt)) (hr : RowOf evc 2 w v l) (hd : l = [] ∨ ∀ b, v.ownBlock = some b → ¬ Fr base X b) (hl : l.length ≤ 1000) (hn : n ≤ 80000) (hN : N ≤ 9000) (hs : ∀ t ∈ l, t.2.length ≤ 1000000) :
    Calls Tryz.prog 15 #[.pointer (some ⟨tb, 0, none⟩), .int .i64 by_, v] w fun e w' => ∃ v', e = .returned v' ∧ RSt w' w base tb cm kb pb cb X M most (changeP M P by_ l L).2 n P N v' (changeP M P by_ l L).1 := by
  have H := Lib.hid h
  obtain ⟨pv, kv, ev, hm⟩ := hr.len
  subst ev
  have HR := Lib.hid hr
  have HD := Lib.hid hd
  have HS := Lib.hid hs
  have MLEN := h.ok.len
  clear h hr hd hs
  obtain ⟨ll, hll⟩ : ∃ ll, ll = l.length := ⟨_, rfl⟩
  rw [← hll] at hl hm ⊢
  have LL := Lib.hid hll
  clear hll
  go_enter Tryz.func15, Tryz.ntmps15
  go_wp2
  go_loopw [7, 15] (fun x7 x15 wr => ∃ (k : Nat) (acc : List NT) (Lk : Rows14) (p8 : Option Addr) (n8 c8 : Nat), k ≤ ll ∧ x15 = .int .i64 (k : Int) ∧ x7 = .slice p8 n8 c8 ∧ Hid (n8 = acc.length ∧ changeP M P by_ (l.take k) L = (acc, Lk) ∧ acc.length ≤ k * 100000000) ∧ Hid (RSt wr w base tb cm kb pb cb X M most Lk n P N (.slice p8 n8 c8) acc)) (fun _ x15 _ => ll - (intOf x15).toNat)
  case atStart => exact ⟨0, [], L, none, 0, 0, by omega, rfl, rfl, Lib.hid ⟨rfl, rfl, by simp⟩, Lib.hid (RSt.start H.out)⟩
  case round =>
    obtain ⟨k, acc, Lk, p8, n8, c8, hk, rfl, rfl, AC, ST⟩ := hrel
    by_cases hlt : k < ll
    · have q1 : (k : Int) < (ll : Int) := by omega
      have hkl : k < l.length := by rw [← LL.out]; exact hlt
      obtain ⟨bx, off, ep, hb, c0, c1⟩ := ev_cells (HR.out.keepE ST.out.up HD.out) hkl
      obtain ⟨ek, hek⟩ : ∃ ek, ek = l[k] := ⟨_, rfl⟩
      rw [← hek] at c0 c1
      have TS := HS.out ek (by rw [hek]; exact List.getElem_mem hkl)
      have SN : Hid (changeP M P by_ (l.take (k + 1)) L = (acc ++ (chStep M P by_ Lk ek).1, (chStep M P by_ Lk ek).2)) := by
        show _ = _
        rw [List.take_succ_eq_append_getElem hkl, ← hek, changeP_snoc, AC.out.2.1]
      clear hek hkl
      subst ep
      obtain ⟨kd, t⟩ := ek
      dsimp only at c0 c1 TS
      have UE : Hid (Upd (fun _ => False) wr (wr.alloc (.cells #[.int .i64 kd, .string (ofL t)] 45))) := (Upd.refl _ _).alloc _
      have BE := Lib.hid (Blk.made wr [.int .i64 kd, .string (ofL t)] 45)
      have ACL : acc.length ≤ 100000000000 := by
        have := AC.out.2.2
        have : k * 100000000 ≤ 1000 * 100000000 := Nat.mul_le_mul_right _ (by omega)
        omega
      by_cases h5 : kd = 5
      · subst h5
        have SN : Hid (changeP M P by_ (l.take (k + 1)) L = (acc ++ flushP M, [])) := by
          show _ = _; rw [SN.out]; unfold chStep; rw [if_pos rfl]
        have FL := Lib.hid ((ST.out.st.keep0 UE.out).flush)
        have LF := flushP_len M
        generalize ofL t = key at *
        clear BE
        go_wp2_with fail
        refine FL.out.mono ?_
        rintro e w2 ⟨vf, rfl, r2⟩
        obtain ⟨pf, cf, ef, _, _⟩ := r2.row.slice
        have ST2 : RSt w2 w base tb cm kb pb cb X M most [] n P N (.slice p8 n8 c8) acc := ((ST.out.keep0 UE.out).next (r2.st.less (fun b hb => Or.inl hb)) r2.up)
        obtain ⟨p5, c5, w5, hr5, ST5, u5⟩ := ST2.appR (r2.row.row ntc_len) (by omega)
        rw [ef] at hr5
        have LA : (acc ++ flushP M).length = acc.length + (flushP M).length := List.length_append ..
        obtain ⟨n5, hn5⟩ : ∃ n5, n5 = (acc ++ flushP M).length := ⟨_, rfl⟩
        rw [← hn5] at hr5 ST5
        have AC2 : Hid (n5 = (acc ++ flushP M).length ∧ changeP M P by_ (l.take (k + 1)) L = (acc ++ flushP M, []) ∧ (acc ++ flushP M).length ≤ (k + 1) * 100000000) := ⟨hn5, SN.out, by have := AC.out.2.2; rw [Nat.add_mul]; omega⟩
        have ST5 := Lib.hid ST5
        subst ef
        clear r2 ST2 u5 ST FL UE c0 c1 hb LA SN AC hn5
        generalize (flushP M).length = nf at *
        go_wp2_with (at_builtin; refine wpList_builtinN rfl _ _ 37 rfl _ _ rfl rfl hr5 ?_)
        go_roundw
        case rel => exact ⟨k + 1, acc ++ flushP M, [], p5, n5, c5, by omega, by go_num, rfl, AC2, ST5⟩
        case measure => simp [intOf]; omega
      · obtain ⟨key, hkey⟩ : ∃ key, key = ofL t := ⟨_, rfl⟩
        have SN : Hid (changeP M P by_ (l.take (k + 1)) L = (acc ++ ((chIds Lk P t).filter fun x => !ownB M by_ kd x).map (fun x => toldP (aget M) 1 x key), adel Lk key)) := by
          show _ = _; rw [SN.out]; unfold chStep; rw [if_neg h5, hkey]
        have q5 : (kd == 5) = false := beq_eq_false_iff_ne.2 h5
        obtain ⟨ids, hids⟩ : ∃ ids, ids = (aget Lk key).getD [] := ⟨_, rfl⟩
        have CI : Hid (∀ cs, Rising cs → (∀ x, x ∈ cs ↔ x ∈ ids ∨ ∃ s, s <+: t ∧ P s x) → chIds Lk P t = cs) := fun cs h1 h2 => chIds_eq h1 (by rw [← hkey, ← hids]; exact h2)
        have LID : ids.length ≤ 80000 := by
          rw [hids]
          cases hq : aget Lk key with
          | none => simp
          | some l0 => exact Nat.le_trans (ST.out.st.inv.1.rise key l0 hq).2.2 hn
        have BE : Hid (Blk (wr.alloc (.cells #[.int .i64 kd, .string key] 45)) wr.heap.size [.int .i64 kd, .string key] 45) := by rw [hkey]; exact BE
        have UE : Hid (Upd (fun _ => False) wr (wr.alloc (.cells #[.int .i64 kd, .string key] 45))) := by rw [hkey]; exact UE
        rw [← hkey] at c1
        have S0 : Hid (TSt (wr.alloc (.cells #[.int .i64 kd, .string key] 45)) base tb cm kb pb cb (fun b => (X b ∨ (Value.slice p8 n8 c8).ownBlock = some b) ∨ b = wr.heap.size) M most Lk n P N) := ST.out.st.also UE.out (fun b hb => hb.imp id (fun e => by rw [e]; simp))
        obtain ⟨XX, hXX⟩ : ∃ XX : Nat → Prop, XX = fun b => (X b ∨ (Value.slice p8 n8 c8).ownBlock = some b) ∨ b = wr.heap.size := ⟨_, rfl⟩
        rw [← hXX] at S0
        have XXE : Hid (XX wr.heap.size) := by show XX _; rw [hXX]; exact Or.inr rfl
        have XXI : Hid (∀ b, X b ∨ (Value.slice p8 n8 c8).ownBlock = some b → XX b) := fun b hb => by rw [hXX]; exact Or.inl hb
        clear hXX
        obtain ⟨wE, hwE⟩ : ∃ wE, wE = wr.alloc (.cells #[.int .i64 kd, .string key] 45) := ⟨_, rfl⟩
        have HWE := Lib.hid hwE
        have WES : Hid (wE.heap.size = wr.heap.size + 1) := by show _ = _; rw [hwE]; simp
        have BASE : base ≤ wr.heap.size := ST.out.st.bl
        have EC : Hid (∀ w1, Blk w1 wr.heap.size [.int .i64 kd, .string key] 45 → w1.cell? ⟨wr.heap.size, 1, none⟩ = some (.string key)) := fun w1 h => h.cellAt rfl
        have TK : Hid (∀ w1, Upd (fun _ => False) wE w1 → Calls Tryz.prog 54 #[.pointer (some ⟨kb, 0, none⟩), .string key] w1 fun e w' => ∃ pa na ca, e = .returned (.slice pa na ca) ∧ Hid (na = ids.length ∧ IntsAt w' base (.slice pa na ca) ids ∧ TSt w' base tb cm kb pb cb XX M most (adel Lk key) n P N ∧ (Upd (Fr base XX) wE w' ∧ Blk w' wr.heap.size [.int .i64 kd, .string key] 45) ∧ (w'.cell? ⟨tb, 1, none⟩ = some (.pointer (some ⟨kb, 0, none⟩)) ∧ w'.cell? ⟨tb, 2, none⟩ = some (.pointer (some ⟨pb, 0, none⟩)) ∧ w'.cell? ⟨wr.heap.size, 1, none⟩ = some (.string key)))) := fun w1 u => by
          refine ((S0.out.keep0 (by rw [← HWE.out]; exact u)).ktake (by omega) key).mono ?_
          rintro e w' ⟨v, rfl, iv, sv, uv⟩
          rw [← hids] at iv
          obtain ⟨pa, ca, ea, _⟩ := own_slice iv
          subst ea
          have sv := sv.less (Y := XX) (fun b hb => Or.inl hb)
          have bE : Blk w' wr.heap.size [.int .i64 kd, .string key] 45 := uv.blk (u.blk (by rw [HWE.out]; exact BE.out) (fun h => h)) (fun h => h.2 XXE.out)
          exact ⟨pa, _, ca, rfl, rfl, iv, sv, ⟨(u.weaken (fun _ _ h => h.elim)).trans uv (fun _ _ h => h), bE⟩, sv.facts.2.2.1, sv.facts.2.2.2, EC.out w' bE⟩
        have MA : Hid (∀ w2 pa na ca, Hid (na = ids.length ∧ IntsAt w2 base (.slice pa na ca) ids ∧ TSt w2 base tb cm kb pb cb XX M most (adel Lk key) n P N ∧ (Upd (Fr base XX) wE w2 ∧ Blk w2 wr.heap.size [.int .i64 kd, .string key] 45) ∧ (w2.cell? ⟨tb, 1, none⟩ = some (.pointer (some ⟨kb, 0, none⟩)) ∧ w2.cell? ⟨tb, 2, none⟩ = some (.pointer (some ⟨pb, 0, none⟩)) ∧ w2.cell? ⟨wr.heap.size, 1, none⟩ = some (.string key))) →
            Calls Tryz.prog 55 #[.pointer (some ⟨pb, 0, none⟩), .string key] w2 fun e w' => ∃ pb3 nb cb3 l3, e = .returned (.slice pb3 nb cb3) ∧ Hid ((na = ids.length ∧ IntsAt w' base (.slice pa na ca) ids ∧ TSt w' base tb cm kb pb cb XX M most (adel Lk key) n P N ∧ (Upd (Fr base XX) wE w' ∧ Blk w' wr.heap.size [.int .i64 kd, .string key] 45) ∧ (w'.cell? ⟨tb, 1, none⟩ = some (.pointer (some ⟨kb, 0, none⟩)) ∧ w'.cell? ⟨tb, 2, none⟩ = some (.pointer (some ⟨pb, 0, none⟩)) ∧ w'.cell? ⟨wr.heap.size, 1, none⟩ = some (.string key))) ∧
              nb = l3.length ∧ IntsAt w' base (.slice pb3 nb cb3) l3 ∧ (∀ x, x ∈ l3 ↔ ∃ s, s <+: t ∧ P s x) ∧ l3.length ≤ 90000000)) := fun w2 pa na ca r2 => by
          obtain ⟨r1, r2, r3, ⟨r4, r5⟩, _⟩ := r2.out
          have pm := r3.pmatch t hN TS
          rw [← hkey] at pm
          refine pm.mono ?_
          rintro e w' ⟨v, l3, rfl, iv, _, hm3, hl3, uv⟩
          obtain ⟨pa3, ca3, ea, _⟩ := own_slice iv
          subst ea
          have sv := r3.keep0 uv
          have bE := uv.blk r5 (fun h => h)
          exact ⟨pa3, _, ca3, l3, rfl, ⟨r1, own_keep r2 uv (fun _ _ h => h), sv, ⟨r4.trans uv (fun _ _ h => h.elim), bE⟩, sv.facts.2.2.1, sv.facts.2.2.2, EC.out w' bE⟩, rfl, own_mono iv r3.bl, hm3, hl3⟩
        have BS : Hid (∀ w3 pa na ca pb3 nb cb3 l3, Hid ((na = ids.length ∧ IntsAt w3 base (.slice pa na ca) ids ∧ TSt w3 base tb cm kb pb cb XX M most (adel Lk key) n P N ∧ (Upd (Fr base XX) wE w3 ∧ Blk w3 wr.heap.size [.int .i64 kd, .string key] 45) ∧ (w3.cell? ⟨tb, 1, none⟩ = some (.pointer (some ⟨kb, 0, none⟩)) ∧ w3.cell? ⟨tb, 2, none⟩ = some (.pointer (some ⟨pb, 0, none⟩)) ∧ w3.cell? ⟨wr.heap.size, 1, none⟩ = some (.string key))) ∧
              nb = l3.length ∧ IntsAt w3 base (.slice pb3 nb cb3) l3 ∧ (∀ x, x ∈ l3 ↔ ∃ s, s <+: t ∧ P s x) ∧ l3.length ≤ 90000000) →
            True ∧ ((w3.alloc (.cells #[.slice pa na ca, .slice pb3 nb cb3] 85)).cell? ⟨tb, 1, none⟩ = some (.pointer (some ⟨kb, 0, none⟩)) ∧ (w3.alloc (.cells #[.slice pa na ca, .slice pb3 nb cb3] 85)).cell? ⟨tb, 2, none⟩ = some (.pointer (some ⟨pb, 0, none⟩)) ∧ (w3.alloc (.cells #[.slice pa na ca, .slice pb3 nb cb3] 85)).cell? ⟨wr.heap.size, 1, none⟩ = some (.string key))) := fun w3 pa na ca pb3 nb cb3 l3 r3 => by
          obtain ⟨⟨r1, r2, r3, ⟨r4, r5⟩, _⟩, _⟩ := r3.out
          have sv := r3.keep0 ((Upd.refl _ w3).alloc (.cells #[.slice pa na ca, .slice pb3 nb cb3] 85))
          exact ⟨trivial, sv.facts.2.2.1, sv.facts.2.2.2, EC.out _ (r5.alloc _)⟩
        have CO : Hid (∀ w3 pa na ca pb3 nb cb3 l3, Hid ((na = ids.length ∧ IntsAt w3 base (.slice pa na ca) ids ∧ TSt w3 base tb cm kb pb cb XX M most (adel Lk key) n P N ∧ (Upd (Fr base XX) wE w3 ∧ Blk w3 wr.heap.size [.int .i64 kd, .string key] 45) ∧ (w3.cell? ⟨tb, 1, none⟩ = some (.pointer (some ⟨kb, 0, none⟩)) ∧ w3.cell? ⟨tb, 2, none⟩ = some (.pointer (some ⟨pb, 0, none⟩)) ∧ w3.cell? ⟨wr.heap.size, 1, none⟩ = some (.string key))) ∧
              nb = l3.length ∧ IntsAt w3 base (.slice pb3 nb cb3) l3 ∧ (∀ x, x ∈ l3 ↔ ∃ s, s <+: t ∧ P s x) ∧ l3.length ≤ 90000000) →
            Calls Tryz.prog 53 #[.slice (some ⟨w3.heap.size, 0, none⟩) 2 2] (w3.alloc (.cells #[.slice pa na ca, .slice pb3 nb cb3] 85)) fun e w' => ∃ pc nc cc, e = .returned (.slice pc nc cc) ∧ Hid ((nc = (ids ++ l3).length ∧ (∀ x, x ∈ l3 ↔ ∃ s, s <+: t ∧ P s x) ∧ l3.length ≤ 90000000) ∧ IntsAt w' (wr.heap.size + 1) (.slice pc nc cc) (ids ++ l3) ∧ TSt w' base tb cm kb pb cb (fun b => XX b ∨ (Value.slice pc nc cc).ownBlock = some b) M most (adel Lk key) n P N ∧ (Upd (Fr base XX) wE w' ∧ Blk w' wr.heap.size [.int .i64 kd, .string key] 45) ∧ (w'.cell? ⟨tb, 1, none⟩ = some (.pointer (some ⟨kb, 0, none⟩)) ∧ w'.cell? ⟨tb, 2, none⟩ = some (.pointer (some ⟨pb, 0, none⟩)) ∧ w'.cell? ⟨wr.heap.size, 1, none⟩ = some (.string key)))) := fun w3 pa na ca pb3 nb cb3 l3 r3 => by
          obtain ⟨⟨r1, r2, r3, ⟨r4, r5⟩, _⟩, s1, s2, s3, s4⟩ := r3.out
          have ua : Upd (fun _ => False) w3 (w3.alloc (.cells #[.slice pa na ca, .slice pb3 nb cb3] 85)) := (Upd.refl _ w3).alloc _
          have bb := Blk.made w3 [.slice pa na ca, .slice pb3 nb cb3] 85
          have i1 := own_keep r2 ua (fun _ _ h => h)
          have i2 := own_keep s2 ua (fun _ _ h => h)
          refine (concatI_any w3.heap.size 2 [(.slice pa na ca, ids), (.slice pb3 nb cb3, l3)] _ (by simp) (fun j r hj => ?_) (fun r hr => ?_) (by simp) (by simp [sumI]; omega)).mono ?_
          · match j with
            | 0 => simp at hj; subst hj; exact bb.cellAt rfl
            | 1 => simp at hj; subst hj; exact bb.cellAt rfl
            | j + 2 => simp at hj
          · simp at hr
            rcases hr with rfl | rfl
            · exact IntsAt.row i1
            · exact IntsAt.row i2
          · rintro e w' ⟨v, rfl, iv, uv⟩
            have iv : IntsAt w' (w3.alloc (.cells #[.slice pa na ca, .slice pb3 nb cb3] 85)).heap.size v (ids ++ l3) := by simpa using iv
            obtain ⟨pc, cc, ec, _⟩ := own_slice iv
            subst ec
            have u3 := ua.trans uv (fun _ _ h => h)
            have hz : wr.heap.size + 1 ≤ w3.heap.size := by have := r4.size; have := WES.out; omega
            have hs3 : (w3.alloc (.cells #[.slice pa na ca, .slice pb3 nb cb3] 85)).heap.size = w3.heap.size + 1 := by simp
            have sv : TSt w' base tb cm kb pb cb (fun b => XX b ∨ (Value.slice pc (ids ++ l3).length cc).ownBlock = some b) M most (adel Lk key) n P N := r3.also u3 (fun b hb => hb.imp id (fun e => by
              have := ints_block iv e; exact ⟨by omega, this.2.1⟩))
            have bE := u3.blk r5 (fun h => h)
            exact ⟨pc, _, cc, rfl, ⟨rfl, s3, s4⟩, own_mono iv (by omega), sv, ⟨r4.trans u3 (fun _ _ h => h.elim), bE⟩, sv.facts.2.2.1, sv.facts.2.2.2, EC.out w' bE⟩
        obtain ⟨xb, x0, x1, x2⟩ := ST.out.st.facts
        clear S0 BE hkey hwE hids UE BASE EC WES
        go_wp2_with fail
        refine wp_region_held_drew (S := (fun w' => w'.cell? ⟨tb, 1, none⟩ = some (.pointer (some ⟨kb, 0, none⟩)) ∧ w'.cell? ⟨tb, 2, none⟩ = some (.pointer (some ⟨pb, 0, none⟩)) ∧ w'.cell? ⟨wr.heap.size, 1, none⟩ = some (.string key))) (by kernel_rfl) ?_ (fun hHeld => ?_)
        · (try dsimp only); go_keep
        try simp only [Array.replicate, Act.put, List.setIfInBounds_toArray]
        refine' wpAnyH_take (i := 0) (oi := _) (v := _) ?hiRa1 (by kernel_rfl) (by kernel_rfl) (by kernel_rfl) ?hQRa1 ?hyRa1 (by assumption) ?restRa1
        case' hiRa1 => (first | (simp only [List.getElem?_toArray, List.getElem?_cons_succ, List.getElem?_cons_zero]; done) | (simp only [List.getElem?_toArray, List.getElem?_cons_succ, List.getElem?_cons_zero]; rfl))
        case' hQRa1 => exact fun _ _ _ h => h
        case' hyRa1 => refine Or.inl ⟨by rfl, ?_⟩
        (intro w hSw; (try dsimp only at hSw); go_simp; try with_reducible rfl)
        try simp only [Act.put, List.setIfInBounds_toArray, List.set_cons_zero, List.set_cons_succ]
        refine' wpAnyH_take (i := 1) (oi := _) (v := _) ?hiRa2 (by kernel_rfl) (by kernel_rfl) (by kernel_rfl) ?hQRa2 ?hyRa2 (by assumption) ?restRa2
        case' hiRa2 => (first | (simp only [List.getElem?_toArray, List.getElem?_cons_succ, List.getElem?_cons_zero]; done) | (simp only [List.getElem?_toArray, List.getElem?_cons_succ, List.getElem?_cons_zero]; rfl))
        case' hQRa2 => exact fun _ _ _ h => h
        case' hyRa2 => refine Or.inl ⟨by rfl, ?_⟩
        (intro w hSw; (try dsimp only at hSw); go_simp; try with_reducible rfl)
        try simp only [Act.put, List.setIfInBounds_toArray, List.set_cons_zero, List.set_cons_succ]
        refine' wpAnyH_take (i := 2) (oi := _) (v := _) ?hiRa3 (by kernel_rfl) (by kernel_rfl) (by kernel_rfl) ?hQRa3 ?hyRa3 (by assumption) ?restRa3
        case' hiRa3 => (first | (simp only [List.getElem?_toArray, List.getElem?_cons_succ, List.getElem?_cons_zero]; done) | (simp only [List.getElem?_toArray, List.getElem?_cons_succ, List.getElem?_cons_zero]; rfl))
        case' hQRa3 => exact fun _ _ _ h => h
        case' hyRa3 => refine Or.inl ⟨by rfl, ?_⟩
        (intro w hSw; (try dsimp only at hSw); go_simp; try with_reducible rfl)
        try simp only [Act.put, List.setIfInBounds_toArray, List.set_cons_zero, List.set_cons_succ]
        refine' wpAnyH_take (i := 3) (oi := _) (v := _) ?hiRa4 (by kernel_rfl) (by kernel_rfl) (by kernel_rfl) ?hQRa4 ?hyRa4 (by assumption) ?restRa4
        case' hiRa4 => (first | (simp only [List.getElem?_toArray, List.getElem?_cons_succ, List.getElem?_cons_zero]; done) | (simp only [List.getElem?_toArray, List.getElem?_cons_succ, List.getElem?_cons_zero]; rfl))
        case' hQRa4 => exact fun _ _ _ h => h
        case' hyRa4 => refine Or.inl ⟨by rfl, ?_⟩
        (intro w hSw; (try dsimp only at hSw); go_simp; try with_reducible rfl)
        try simp only [Act.put, List.setIfInBounds_toArray, List.set_cons_zero, List.set_cons_succ]
        refine' wpAnyH_take (i := 4) (oi := _) (v := _) ?hiRa5 (by kernel_rfl) (by kernel_rfl) (by kernel_rfl) ?hQRa5 ?hyRa5 (by assumption) ?restRa5
        case' hiRa5 => (first | (simp only [List.getElem?_toArray, List.getElem?_cons_succ, List.getElem?_cons_zero]; done) | (simp only [List.getElem?_toArray, List.getElem?_cons_succ, List.getElem?_cons_zero]; rfl))
        case' hQRa5 => exact fun _ _ _ h => h
        case' hyRa5 => refine Or.inl ⟨by rfl, ?_⟩
        (intro w hSw; (try dsimp only at hSw); go_simp; try with_reducible rfl)
        try simp only [Act.put, List.setIfInBounds_toArray, List.set_cons_zero, List.set_cons_succ]
        refine' wpAnyH_take (i := 5) (oi := _) (v := _) ?hiRa6 (by kernel_rfl) (by kernel_rfl) (by kernel_rfl) ?hQRa6 ?hyRa6 (by assumption) ?restRa6
        case' hiRa6 => (first | (simp only [List.getElem?_toArray, List.getElem?_cons_succ, List.getElem?_cons_zero]; done) | (simp only [List.getElem?_toArray, List.getElem?_cons_succ, List.getElem?_cons_zero]; rfl))
        case' hQRa6 => exact fun _ _ _ h => h
        case' hyRa6 => refine Or.inl ⟨by rfl, ?_⟩
        (intro w hSw; (try dsimp only at hSw); go_simp; try with_reducible rfl)
        try simp only [Act.put, List.setIfInBounds_toArray, List.set_cons_zero, List.set_cons_succ]
        refine' wpAnyH_take (i := 7) (oi := _) (v := _) ?hiRa7 (by kernel_rfl) (by kernel_rfl) (by kernel_rfl) ?hQRa7 ?hyRa7 (by assumption) ?restRa7
        case' hiRa7 => (first | (simp only [List.getElem?_toArray, List.getElem?_cons_succ, List.getElem?_cons_zero]; done) | (simp only [List.getElem?_toArray, List.getElem?_cons_succ, List.getElem?_cons_zero]; rfl))
        case' hQRa7 => exact fun _ _ _ h => h
        case' hyRa7 => refine Or.inl ⟨by rfl, ?_⟩
        (intro w hSw; (try dsimp only at hSw); go_simp; try with_reducible rfl)
        try simp only [Act.put, List.setIfInBounds_toArray, List.set_cons_zero, List.set_cons_succ]
        refine' wpAnyH_take (i := 8) (oi := _) (v := _) ?hiRa8 (by kernel_rfl) (by kernel_rfl) (by kernel_rfl) ?hQRa8 ?hyRa8 (by assumption) ?restRa8
        case' hiRa8 => (first | (simp only [List.getElem?_toArray, List.getElem?_cons_succ, List.getElem?_cons_zero]; done) | (simp only [List.getElem?_toArray, List.getElem?_cons_succ, List.getElem?_cons_zero]; rfl))
        case' hQRa8 => exact fun _ _ _ h => h
        case' hyRa8 => refine Or.inl ⟨by rfl, ?_⟩
        (intro w hSw; (try dsimp only at hSw); go_simp; try with_reducible rfl)
        try simp only [Act.put, List.setIfInBounds_toArray, List.set_cons_zero, List.set_cons_succ]
        refine' wpAnyH_take (i := 9) (oi := _) (v := _) ?hiRa9 (by kernel_rfl) (by kernel_rfl) (by kernel_rfl) ?hQRa9 ?hyRa9 (by assumption) ?restRa9
        case' hiRa9 => (first | (simp only [List.getElem?_toArray, List.getElem?_cons_succ, List.getElem?_cons_zero]; done) | (simp only [List.getElem?_toArray, List.getElem?_cons_succ, List.getElem?_cons_zero]; rfl))
        case' hQRa9 => exact fun _ _ _ h => h
        case' hyRa9 => refine Or.inl ⟨by rfl, ?_⟩
        (intro w hSw; (try dsimp only at hSw); go_simp; try with_reducible rfl)
        try simp only [Act.put, List.setIfInBounds_toArray, List.set_cons_zero, List.set_cons_succ]
        refine' wpAnyH_take (i := 10) (oi := _) (v := _) ?hiRa10 (by kernel_rfl) (by kernel_rfl) (by kernel_rfl) ?hQRa10 ?hyRa10 (by assumption) ?restRa10
        case' hiRa10 => (first | (simp only [List.getElem?_toArray, List.getElem?_cons_succ, List.getElem?_cons_zero]; done) | (simp only [List.getElem?_toArray, List.getElem?_cons_succ, List.getElem?_cons_zero]; rfl))
        case' hQRa10 => exact fun _ _ _ h => h
        case' hyRa10 => refine Or.inl ⟨by rfl, ?_⟩
        (intro w hSw; (try dsimp only at hSw); go_simp; try with_reducible rfl)
        try simp only [Act.put, List.setIfInBounds_toArray, List.set_cons_zero, List.set_cons_succ]
        refine' wpAnyH_take (i := 11) (oi := _) (v := _) ?hiRa11 (by kernel_rfl) (by kernel_rfl) (by kernel_rfl) ?hQRa11 ?hyRa11 (by assumption) ?restRa11
        case' hiRa11 => (first | (simp only [List.getElem?_toArray, List.getElem?_cons_succ, List.getElem?_cons_zero]; done) | (simp only [List.getElem?_toArray, List.getElem?_cons_succ, List.getElem?_cons_zero]; rfl))
        case' hQRa11 => exact fun _ _ _ h => h
        case' hyRa11 => refine Or.inl ⟨by rfl, ?_⟩
        (intro w hSw; (try dsimp only at hSw); go_simp; try with_reducible rfl)
        try simp only [Act.put, List.setIfInBounds_toArray, List.set_cons_zero, List.set_cons_succ]
        refine' wpAnyH_take (i := 12) (oi := _) (v := _) ?hiRa12 (by kernel_rfl) (by kernel_rfl) (by kernel_rfl) ?hQRa12 ?hyRa12 (by assumption) ?restRa12
        case' hiRa12 => (first | (simp only [List.getElem?_toArray, List.getElem?_cons_succ, List.getElem?_cons_zero]; done) | (simp only [List.getElem?_toArray, List.getElem?_cons_succ, List.getElem?_cons_zero]; rfl))
        case' hQRa12 => exact fun _ _ _ h => h
        case' hyRa12 => refine Or.inl ⟨by rfl, ?_⟩
        (intro w hSw; (try dsimp only at hSw); go_simp; try with_reducible rfl)
        try simp only [Act.put, List.setIfInBounds_toArray, List.set_cons_zero, List.set_cons_succ]
        refine wpAnyH_ready (rs := [6]) (by kernel_rfl) (by simp) ?_
        refine' AllReadyH.cons (o := _) ?hiRa13 (fun K hK => ?hKRa13) AllReadyH.nil
        case' hiRa13 => (first | (simp only [List.getElem?_toArray, List.getElem?_cons_succ, List.getElem?_cons_zero]; done) | (simp only [List.getElem?_toArray, List.getElem?_cons_succ, List.getElem?_cons_zero]; rfl))
        go_simp
        (go_at_call 54; refine (TK.out _ (by rw [HWE.out]; first | exact Upd.refl _ _ | exact (Upd.refl _ _).drew)).mono ?_; rintro e w2 ⟨pa, na, ca, rfl, r2⟩; (have z2 := r2.out.2.2.2.2))
        refine hK.out _ _ ?_ (fun hHeld => ?_)
        · (try dsimp only); go_keep
        clear hK K
        try simp only [Act.put, List.setIfInBounds_toArray, List.set_cons_zero, List.set_cons_succ]
        refine wpAnyH_ready (rs := [13]) (by kernel_rfl) (by simp) ?_
        refine' AllReadyH.cons (o := _) ?hiRa14 (fun K hK => ?hKRa14) AllReadyH.nil
        case' hiRa14 => (first | (simp only [List.getElem?_toArray, List.getElem?_cons_succ, List.getElem?_cons_zero]; done) | (simp only [List.getElem?_toArray, List.getElem?_cons_succ, List.getElem?_cons_zero]; rfl))
        go_simp
        (go_at_call 55; refine (MA.out w2 pa na ca r2).mono ?_; rintro e w3 ⟨pb3, nb, cb3, l3, rfl, r3⟩; (have z3 := r3.out.1.2.2.2.2); clear r2 z2)
        refine hK.out _ _ ?_ (fun hHeld => ?_)
        · (try dsimp only); go_keep
        clear hK K
        try simp only [Act.put, List.setIfInBounds_toArray, List.set_cons_zero, List.set_cons_succ]
        refine wpAnyH_ready (rs := [14]) (by kernel_rfl) (by simp) ?_
        refine' AllReadyH.cons (o := _) ?hiRa15 (fun K hK => ?hKRa15) AllReadyH.nil
        case' hiRa15 => (first | (simp only [List.getElem?_toArray, List.getElem?_cons_succ, List.getElem?_cons_zero]; done) | (simp only [List.getElem?_toArray, List.getElem?_cons_succ, List.getElem?_cons_zero]; rfl))
        go_simp
        (obtain ⟨ez, z4⟩ := BS.out w3 pa na ca pb3 nb cb3 l3 r3)
        refine hK.out _ _ ?_ (fun hHeld => ?_)
        · (try dsimp only); go_keep
        clear hK K
        try simp only [Act.put, List.setIfInBounds_toArray, List.set_cons_zero, List.set_cons_succ]
        refine wpAnyH_ready (rs := [15]) (by kernel_rfl) (by simp) ?_
        refine' AllReadyH.cons (o := _) ?hiRa16 (fun K hK => ?hKRa16) AllReadyH.nil
        case' hiRa16 => (first | (simp only [List.getElem?_toArray, List.getElem?_cons_succ, List.getElem?_cons_zero]; done) | (simp only [List.getElem?_toArray, List.getElem?_cons_succ, List.getElem?_cons_zero]; rfl))
        go_simp
        (go_at_call 53; refine (CO.out w3 pa na ca pb3 nb cb3 l3 r3).mono ?_; rintro e w5 ⟨pc, nc, cc, rfl, r5⟩; (have z5 := r5.out.2.2.2); clear r3 z3 z4)
        refine hK.out _ _ ?_ (fun hHeld => ?_)
        · (try dsimp only); go_keep
        clear hK K
        try simp only [Act.put, List.setIfInBounds_toArray, List.set_cons_zero, List.set_cons_succ]
        refine' wpAnyH_take (i := 16) (oi := _) (v := _) ?hiRa17 (by kernel_rfl) (by kernel_rfl) (by kernel_rfl) ?hQRa17 ?hyRa17 (by assumption) ?restRa17
        case' hiRa17 => (first | (simp only [List.getElem?_toArray, List.getElem?_cons_succ, List.getElem?_cons_zero]; done) | (simp only [List.getElem?_toArray, List.getElem?_cons_succ, List.getElem?_cons_zero]; rfl))
        case' hQRa17 => exact fun _ _ _ h => h
        case' hyRa17 => refine Or.inl ⟨by rfl, ?_⟩
        (intro w hSw; (try dsimp only at hSw); go_simp; try with_reducible rfl)
        try simp only [Act.put, List.setIfInBounds_toArray, List.set_cons_zero, List.set_cons_succ]
        refine wpAnyH_done (by kernel_rfl) ?_ _
        clear z5 ez hHeld xb x0 x1 x2 c0 c1 hb TK MA BS CO
        obtain ⟨⟨g1, g2, g3⟩, i5, s5, ⟨u5, b5⟩, _⟩ := r5.out
        have LZ : (ids ++ l3).length ≤ 1000000000 := by rw [List.length_append]; omega
        have XI5 : ∀ b, (Value.slice p8 n8 c8).ownBlock = some b → (Value.slice pc nc cc).ownBlock ≠ some b := fun b hb e => by
          have := (ST.out.row.lt hb).2.1
          have := (ints_block i5 e).1
          omega
        have SO := Lib.hid (sorti_any (wr.heap.size + 1) _ (ids ++ l3) w5 i5 LZ)
        have G1 := Lib.hid g1
        have G2 := Lib.hid g2
        have S5 := Lib.hid s5
        have U5 := Lib.hid u5
        have B5 := Lib.hid b5
        have XI5 := Lib.hid XI5
        have OWN5 : Hid (∀ b, (Value.slice pc nc cc).ownBlock = some b → wr.heap.size + 1 ≤ b) := fun b hb => (ints_block i5 hb).1
        clear r5 i5 s5 u5 b5 g1 g2
        go_wp2_with fail
        refine SO.out.mono ?_
        rintro e w6 ⟨rfl, i6, u6⟩
        have CP := Lib.hid (compacti_any (wr.heap.size + 1) _ _ w6 i6 (by rw [List.length_mergeSort]; exact LZ))
        have U6 := Lib.hid u6
        clear SO i6 u6
        go_wp2_with fail
        refine CP.out.mono ?_
        rintro e w7 ⟨v7, rfl, i7, u7⟩
        obtain ⟨hs1, hs2⟩ := sort_rising (ids ++ l3)
        have LCS := Nat.le_trans (Lib.compact_length_le ((ids ++ l3).mergeSort fun x y => decide (x ≤ y))) (by rw [List.length_mergeSort]; exact Nat.le_refl _)
        obtain ⟨cs, hcs⟩ : ∃ cs, cs = Lib.compact ((ids ++ l3).mergeSort fun x y => decide (x ≤ y)) := ⟨_, rfl⟩
        rw [← hcs] at i7 hs1 hs2 LCS
        have ECS := CI.out cs hs1 (fun x => by rw [hs2, List.mem_append, G2.out])
        rw [ECS] at SN
        have s7 : TSt w7 base tb cm kb pb cb (fun b => X b ∨ (Value.slice p8 n8 c8).ownBlock = some b) M most (adel Lk key) n P N :=
          ((S5.out.keepX (U6.out.weaken (fun b _ hb => Or.inr hb))).keepX (u7.weaken (fun b _ hb => Or.inr hb))).less (fun b hb => Or.inl (XXI.out b hb))
        have u57 : Upd (fun b => (Value.slice pc nc cc).ownBlock = some b) w5 w7 := U6.out.trans u7 (fun _ _ h => h)
        have uE7 : Upd (Fr base (fun b => X b ∨ (Value.slice p8 n8 c8).ownBlock = some b)) wr w7 := by
          have uE : Upd (fun _ => False) wr wE := by rw [HWE.out]; exact (Upd.refl _ _).alloc _
          have h1 : Upd (Fr base XX) wr w5 := (uE.weaken (fun _ _ h => h.elim)).trans U5.out (fun _ _ h => h)
          have h2 := h1.trans u57 (fun b hb e => by have := OWN5.out b e; omega)
          exact h2.weaken (fun b _ h => ⟨h.1, fun g => h.2 (XXI.out b g)⟩)
        have ST7 := Lib.hid (ST.out.next s7 uE7)
        have BE7 : Hid (Blk w7 wr.heap.size [.int .i64 kd, .string key] 45) := u57.blk B5.out (fun e => by have := OWN5.out _ e; omega)
        obtain ⟨p7, c7, e7, hm7⟩ := own_slice i7
        subst e7
        obtain ⟨ni, hni⟩ : ∃ ni, ni = cs.length := ⟨_, rfl⟩
        have NI := Lib.hid hni
        rw [← hni] at hm7 LCS
        have II : Hid (IntsAt w7 (wr.heap.size + 1) (.slice p7 ni c7) cs) := by show IntsAt _ _ _ _; rw [hni]; exact i7
        have LNI : ni ≤ 90080000 := by rw [List.length_append] at LCS; omega
        clear CP i7 u7 hs1 hs2 hcs ECS s7 u57 uE7 hni S5 U5 U6 B5 XI5 OWN5 CI XXE XXI HWE LCS LZ G1 G2 ST
        generalize wr.heap.size = eb at *
        obtain ⟨wb, hwb⟩ : ∃ wb, wb = eb + 1 := ⟨_, rfl⟩
        rw [← hwb] at II
        clear hwb
        rw [← NI.out]
        go_wp2
        go_loopw [7, 47] (fun x7 x47 wq => ∃ (j : Nat) (p9 : Option Addr) (n9 c9 : Nat), j ≤ ni ∧ x47 = .int .i64 (j : Int) ∧ x7 = .slice p9 n9 c9 ∧ Hid (n9 = (acc ++ ((cs.take j).filter fun x => !ownB M by_ kd x).map (fun x => toldP (aget M) 1 x key)).length) ∧ Hid (RSt wq w base tb cm kb pb cb X M most (adel Lk key) n P N (.slice p9 n9 c9) (acc ++ ((cs.take j).filter fun x => !ownB M by_ kd x).map (fun x => toldP (aget M) 1 x key))) ∧ Hid (IntsAt wq wb (.slice p7 ni c7) cs) ∧ Hid (Blk wq eb [.int .i64 kd, .string key] 45)) (fun _ x47 _ => ni - (intOf x47).toNat)
        case atStart => exact ⟨0, p8, n8, c8, by omega, rfl, rfl, Lib.hid (by simp [AC.out.1]), Lib.hid (by simpa using ST7.out), II, BE7⟩
        case round =>
          clear II ST7 BE7
          obtain ⟨j, p9, n9, c9, hj, rfl, rfl, N9, ST, II, BE⟩ := hrel
          by_cases hlj : j < ni
          · have q2 : (j : Int) < (ni : Int) := by omega
            have hjl : j < cs.length := by rw [← NI.out]; exact hlj
            have i0 := II.out
            rw [NI.out] at i0
            obtain ⟨g, cap, e1, ck, hg⟩ := ints_cell i0 hjl
            injection e1 with e1 _ e2
            subst e1 e2
            obtain ⟨x, hx⟩ : ∃ x, x = cs[j] := ⟨_, rfl⟩
            rw [← hx] at ck
            obtain ⟨xb, x0, x1, x2⟩ := ST.out.st.facts
            have TK0 : Hid (cs.take (j + 1) = cs.take j ++ [x]) := by show _ = _; rw [List.take_succ_eq_append_getElem hjl, ← hx]
            have e0 := BE.out.cellAt (i := 0) (v := .int .i64 kd) rfl
            have e1 := BE.out.cellAt (i := 1) (v := .string key) rfl
            have eb0 := BE.out.lt
            have LJ : ((cs.take j).filter fun x => !ownB M by_ kd x).length ≤ 90080000 := by
              have := List.length_filter_le (fun x => !ownB M by_ kd x) (cs.take j)
              have := List.length_take_le j cs
              omega
            clear hx i0 hjl
            by_cases hxb : x = by_
            · subst hxb
              have QU := Lib.hid (ST.out.st.quiet x kd key)
              cases hq : quietP M x kd with
              | true =>
                have OB : ownB M x kd x = true := by unfold ownB; rw [decide_eq_true rfl, hq]; rfl
                have TK : (cs.take (j + 1)).filter (fun y => !ownB M x kd y) = (cs.take j).filter (fun y => !ownB M x kd y) := by
                  rw [TK0.out, filter_snoc, OB]; simp
                rw [← TK] at N9 ST
                rw [hq] at QU
                clear TK TK0 OB hq LJ
                go_wp2_with fail
                refine QU.out.mono ?_
                rintro e w8 ⟨rfl, u8⟩
                have ST8 := Lib.hid (ST.out.keep0 u8)
                have II8 : Hid (IntsAt w8 wb (.slice (some ⟨g, 0, none⟩) ni c7) cs) := own_keep II.out u8 (fun _ _ h => h)
                have BE8 := Lib.hid (u8.blk BE.out (fun h => h))
                clear QU u8 ST II BE e0 e1 x0 x1 x2 xb ck hg
                go_wp2
                go_roundw
                case rel => exact ⟨j + 1, p9, n9, c9, by omega, by go_num, rfl, N9, ST8, II8, BE8⟩
                case measure => simp [intOf]; omega
              | false =>
                have OB : (!ownB M x kd x) = true := by unfold ownB; rw [hq]; simp
                rw [hq] at QU
                clear hq
                go_wp2_with fail
                refine QU.out.mono ?_
                rintro e w8 ⟨rfl, u8⟩
                have ST8 := Lib.hid (ST.out.keep0 u8)
                have II8 : Hid (IntsAt w8 wb (.slice (some ⟨g, 0, none⟩) ni c7) cs) := own_keep II.out u8 (fun _ _ h => h)
                have BE8 := Lib.hid (u8.blk BE.out (fun h => h))
                have e0 := BE8.out.cellAt (i := 0) (v := .int .i64 kd) rfl
                have e1 := BE8.out.cellAt (i := 1) (v := .string key) rfl
                have eb0 := BE8.out.lt
                clear QU u8 II BE x0 x1 x2 xb ST
                obtain ⟨xb, x0, x1, x2⟩ := ST8.out.st.facts
                obtain ⟨nt, hnt⟩ : ∃ nt, nt = toldP (aget M) 1 x key := ⟨_, rfl⟩
                have TO := Lib.hid (ST8.out.st.told 1 x key)
                rw [← hnt] at TO
                have TK : Hid (((cs.take (j + 1)).filter fun y => !ownB M x kd y).map (fun x => toldP (aget M) 1 x key) = ((cs.take j).filter fun y => !ownB M x kd y).map (fun x => toldP (aget M) 1 x key) ++ [nt]) := by
                  show _ = _
                  rw [TK0.out, filter_snoc, OB, if_pos rfl, List.map_append, hnt]; rfl
                clear hnt OB
                obtain ⟨t1, t2, t3, t4⟩ := nt
                unfold ntV at TO
                dsimp only at TO
                go_wp2_with fail
                refine TO.out.mono ?_
                rintro e w3 ⟨rfl, u3⟩
                obtain ⟨p5, c5, w5, hr5, ST5, u5⟩ := (ST8.out.keep0 u3).app ⟨t1, t2, t3, t4⟩ (by rw [List.length_append, List.length_map]; omega)
                have i3 := own_keep II8.out u3 (fun _ _ h => h)
                have II5 : Hid (IntsAt w5 wb (.slice (some ⟨g, 0, none⟩) ni c7) cs) := own_keep i3 u5 (fun b hb => ints_nts i3 (ST8.out.row.keep0 u3) hb)
                have BE5 : Hid (Blk w5 eb [.int .i64 kd, .string key] 45) := u5.blk (u3.blk BE8.out (fun h => h)) (fun e => by
                  obtain ⟨_, _, cs', hc'⟩ := (ST8.out.row.keep0 u3).lt e
                  exact absurd ((u3.blk BE8.out (fun h => h)).ty hc') (by decide))
                rw [List.append_assoc, ← TK.out] at ST5
                have L5 : Hid ((acc ++ ((cs.take j).filter fun y => !ownB M x kd y).map (fun x => toldP (aget M) 1 x key)).length + 1 = (acc ++ ((cs.take (j + 1)).filter fun y => !ownB M x kd y).map (fun x => toldP (aget M) 1 x key)).length) := by
                  show _ = _
                  rw [TK.out, ← List.append_assoc]; simp [List.length_append]; omega
                rw [← N9.out] at hr5 L5 ST5
                have ST5 := Lib.hid ST5
                clear u3 u5 TO TK ck hg xb x0 x1 x2 i3 e0 e1
                go_wp2_with (at_builtin; refine wpList_builtinN rfl _ _ 37 rfl _ _ rfl rfl hr5 ?_)
                go_roundw
                case rel => exact ⟨j + 1, p5, n9 + 1, c5, by omega, by go_num, rfl, L5, ST5, II5, BE5⟩
                case measure => simp [intOf]; omega
            · have qx : (x == by_) = false := beq_eq_false_iff_ne.2 hxb
              have OB : (!ownB M by_ kd x) = true := by unfold ownB; rw [decide_eq_false hxb]; rfl
              clear hxb
              obtain ⟨nt, hnt⟩ : ∃ nt, nt = toldP (aget M) 1 x key := ⟨_, rfl⟩
              have TO := Lib.hid (ST.out.st.told 1 x key)
              rw [← hnt] at TO
              have TK : Hid (((cs.take (j + 1)).filter fun y => !ownB M by_ kd y).map (fun x => toldP (aget M) 1 x key) = ((cs.take j).filter fun y => !ownB M by_ kd y).map (fun x => toldP (aget M) 1 x key) ++ [nt]) := by
                show _ = _
                rw [TK0.out, filter_snoc, OB, if_pos rfl, List.map_append, hnt]; rfl
              clear hnt OB
              obtain ⟨t1, t2, t3, t4⟩ := nt
              unfold ntV at TO
              dsimp only at TO
              go_wp2_with fail
              refine TO.out.mono ?_
              rintro e w3 ⟨rfl, u3⟩
              obtain ⟨p5, c5, w5, hr5, ST5, u5⟩ := (ST.out.keep0 u3).app ⟨t1, t2, t3, t4⟩ (by rw [List.length_append, List.length_map]; omega)
              have i3 := own_keep II.out u3 (fun _ _ h => h)
              have II5 : Hid (IntsAt w5 wb (.slice (some ⟨g, 0, none⟩) ni c7) cs) := own_keep i3 u5 (fun b hb => ints_nts i3 (ST.out.row.keep0 u3) hb)
              have BE5 : Hid (Blk w5 eb [.int .i64 kd, .string key] 45) := u5.blk (u3.blk BE.out (fun h => h)) (fun e => by
                obtain ⟨_, _, cs', hc'⟩ := (ST.out.row.keep0 u3).lt e
                exact absurd ((u3.blk BE.out (fun h => h)).ty hc') (by decide))
              rw [List.append_assoc, ← TK.out] at ST5
              have L5 : Hid ((acc ++ ((cs.take j).filter fun y => !ownB M by_ kd y).map (fun x => toldP (aget M) 1 x key)).length + 1 = (acc ++ ((cs.take (j + 1)).filter fun y => !ownB M by_ kd y).map (fun x => toldP (aget M) 1 x key)).length) := by
                show _ = _
                rw [TK.out, ← List.append_assoc]; simp [List.length_append]; omega
              rw [← N9.out] at hr5 L5 ST5
              have ST5 := Lib.hid ST5
              clear u3 u5 TO TK ck hg xb x0 x1 x2 i3 e0 e1
              go_wp2_with (at_builtin; refine wpList_builtinN rfl _ _ 37 rfl _ _ rfl rfl hr5 ?_)
              go_roundw
              case rel => exact ⟨j + 1, p5, n9 + 1, c5, by omega, by go_num, rfl, L5, ST5, II5, BE5⟩
              case measure => simp [intOf]; omega
          · have q2 : ¬ (j : Int) < (ni : Int) := by omega
            have ej : cs.take j = cs := List.take_of_length_le (by rw [← NI.out]; omega)
            rw [ej] at N9 ST
            have LE : (acc ++ (cs.filter fun x => !ownB M by_ kd x).map (fun x => toldP (aget M) 1 x key)).length ≤ (k + 1) * 100000000 := by
              have := AC.out.2.2
              have := List.length_filter_le (fun x => !ownB M by_ kd x) cs
              rw [List.length_append, List.length_map, Nat.add_mul]
              have := NI.out
              omega
            have AC2 : Hid (n9 = (acc ++ (cs.filter fun x => !ownB M by_ kd x).map (fun x => toldP (aget M) 1 x key)).length ∧ changeP M P by_ (l.take (k + 1)) L = (acc ++ (cs.filter fun x => !ownB M by_ kd x).map (fun x => toldP (aget M) 1 x key), adel Lk key) ∧ (acc ++ (cs.filter fun x => !ownB M by_ kd x).map (fun x => toldP (aget M) 1 x key)).length ≤ (k + 1) * 100000000) := ⟨N9.out, SN.out, LE⟩
            clear N9 AC SN LE II ej BE
            go_wp2
            go_roundw
            case rel => exact ⟨k + 1, _, adel Lk key, p9, n9, c9, by omega, by go_num, rfl, AC2, ST⟩
            case measure => simp [intOf]; omega
    · have q1 : ¬ (k : Int) < (ll : Int) := by omega
      have ek : k = ll := by omega
      subst ek
      have EQ : Hid (changeP M P by_ l L = (acc, Lk)) := by
        have := AC.out.2.1
        rw [List.take_of_length_le (by rw [← LL.out]; omega)] at this; exact this
      go_wp2
      go_ret
      rw [EQ.out]
      exact ⟨_, rfl, ST.out⟩
theorem TSt.change (h : TSt w base tb cm kb pb cb X M most L n P N) (by_ : Int) (v : Value) (l : List (Int × Txt)) (hr : RowOf evc 2 w v l) (hd : ∀ b, v.ownBlock = some b → ¬ Fr base X b) (hl : l.length ≤ 1000) (hn : n ≤ 80000) (hN : N ≤ 9000) (hs : ∀ t ∈ l, t.2.length ≤ 1000000) :
    Calls Tryz.prog 15 #[.pointer (some ⟨tb, 0, none⟩), .int .i64 by_, v] w fun e w' => ∃ v', e = .returned v' ∧ RSt w' w base tb cm kb pb cb X M most (changeP M P by_ l L).2 n P N v' (changeP M P by_ l L).1 :=
  h.changeE by_ v l hr (Or.inr hd) hl hn hN hs
end
end Go.Proofs.YtmlojbfcmebboaaGreat
