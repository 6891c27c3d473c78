/- Who must be told: how it lies in memory: clients, keys and beginnings, apart from one another. -/
import Derived.Test.YtmlojbfcmebboaaGreatK04
import Derived.Test.YtmlojbfcmebboaaGreatK13
import Derived.Test.YtmlojbfcmebboaaGreatK18
import Derived.Test.YtmlojbfcmebboaaGreatK03
import Derived.Deep.Upon
set_option linter.unusedVariables false
set_option linter.unusedSimpArgs false
set_option linter.unusedSectionVars false
namespace Go.Proofs.YtmlojbfcmebboaaGreat
open Go.RowKit

/-- A client: its mode, and what was said of the next command's keys. -/
structure CL where
  md : MD
  cg : Int
def clc (c : CL) (v : Value) : List Value := [.bool c.md.on, .bool c.md.bc, .bool c.md.oi, .bool c.md.oo, .bool c.md.nl, .int .i64 c.md.rd, v, .int .i64 c.cg]
/-- The blocks of the tracker itself, and of its clients. -/
def ownT (tb cm : Nat) (cb : Int → Nat) (vs : Int → Value) (C : Int → Option CL) : Nat → Prop := fun b => b = tb ∨ b = cm ∨ ∃ id c, C id = some c ∧ (b = cb id ∨ (vs id).ownBlock = some b)
structure TRaw (w : World) (base tb cm kb pb : Nat) (Q : List (Int × Value)) (cb : Int → Nat) (vs : Int → Value) (C : Int → Option CL) (most : Int) (L : Rows14) (n : Nat) (E : Nat → Prop) (P : Txt → Int → Prop) (N : Nat) (F : Nat → Prop) : Prop where
  blk : Blk w tb [.map (some cm), ptr kb, ptr pb] 95
  keys : KAt w base kb most L n E
  pfx : PAt w base pb P N F
  cmap : MapAt intEnc w cm Q
  nd : (akeys Q).Nodup
  get : ∀ id, aget Q id = (C id).map fun _ => ptr (cb id)
  cl : ∀ id c, C id = some c → Blk w (cb id) (clc c (vs id)) 98 ∧ TxtsAt w base (vs id) c.md.ps
  inj : ∀ i j, C i ≠ none → C j ≠ none → cb i = cb j → i = j
  lo : ∀ b, ownT tb cm cb vs C b → base ≤ b
  own : ∀ b, ownT tb cm cb vs C b → ¬ E b ∧ ¬ F b
  ef : ∀ b, E b → ¬ F b
  bl : base ≤ w.heap.size
section
variable {w w' : World} {base tb cm kb pb : Nat} {Q : List (Int × Value)} {cb : Int → Nat} {vs : Int → Value} {C : Int → Option CL} {most : Int} {L L' : Rows14} {n n' : Nat} {E E' : Nat → Prop} {P P' : Txt → Int → Prop} {N N' : Nat} {F F' : Nat → Prop}
theorem txts_blkT {w : World} {base b : Nat} {v : Value} {xs : List Txt} (h : TxtsAt w base v xs) (hv : v.ownBlock = some b) : base ≤ b ∧ b < w.heap.size ∧ ∃ cs, Blk w b cs 9 := by
  obtain ⟨h1, h2, cs, h3⟩ := own_lt h hv; exact ⟨h2, h1, cs, h3⟩
theorem MapAt.notBlk {κ : Type} [DecidableEq κ] {enc : κ → Value} {w : World} {b : Nat} {m : List (κ × Value)} (h : MapAt enc w b m) {cs : List Value} {T : TypeId} (h' : Blk w b cs T) : False := by
  obtain ⟨es, clock, hb, _⟩ := h
  unfold Blk at h'; rw [hb] at h'; injection h' with h'; cases h'
theorem TRaw.lt (h : TRaw w base tb cm kb pb Q cb vs C most L n E P N F) {b : Nat} (hb : ownT tb cm cb vs C b) : base ≤ b ∧ b < w.heap.size := by
  refine ⟨h.lo b hb, ?_⟩
  rcases hb with rfl | rfl | ⟨id, c, hc, rfl | hb⟩
  · exact h.blk.lt
  · exact h.cmap.lt
  · exact (h.cl id c hc).1.lt
  · exact (txts_blkT (h.cl id c hc).2 hb).2.1
/-- All blocks that it takes. -/
def footT (tb cm : Nat) (cb : Int → Nat) (vs : Int → Value) (C : Int → Option CL) (E F : Nat → Prop) : Nat → Prop := fun b => ownT tb cm cb vs C b ∨ E b ∨ F b
theorem TRaw.ltF (h : TRaw w base tb cm kb pb Q cb vs C most L n E P N F) {b : Nat} (hb : footT tb cm cb vs C E F b) : base ≤ b ∧ b < w.heap.size := by
  rcases hb with hb | hb | hb
  · exact h.lt hb
  · exact h.keys.lt b hb
  · exact h.pfx.lt b hb
theorem TRaw.keepOwn {G : Nat → Prop} (h : TRaw w base tb cm kb pb Q cb vs C most L n E P N F) (u : Upd G w w') (hd : ∀ b, ownT tb cm cb vs C b → ¬ G b) :
    Blk w' tb [.map (some cm), ptr kb, ptr pb] 95 ∧ MapAt intEnc w' cm Q ∧ (∀ id c, C id = some c → Blk w' (cb id) (clc c (vs id)) 98 ∧ TxtsAt w' base (vs id) c.md.ps) :=
  ⟨u.blk h.blk (hd _ (Or.inl rfl)), h.cmap.keep u (hd _ (Or.inr (Or.inl rfl))), fun id c hc => ⟨u.blk (h.cl id c hc).1 (hd _ (Or.inr (Or.inr ⟨id, c, hc, Or.inl rfl⟩))), own_keep (h.cl id c hc).2 u (fun b hb => hd b (Or.inr (Or.inr ⟨id, c, hc, Or.inr hb⟩)))⟩⟩
theorem TRaw.keep {G : Nat → Prop} (h : TRaw w base tb cm kb pb Q cb vs C most L n E P N F) (u : Upd G w w') (hd : ∀ b, footT tb cm cb vs C E F b → ¬ G b) : TRaw w' base tb cm kb pb Q cb vs C most L n E P N F := by
  obtain ⟨a, b, c⟩ := h.keepOwn u (fun b hb => hd b (Or.inl hb))
  exact { h with blk := a, cmap := b, cl := c, keys := h.keys.keep u (fun b hb => hd b (Or.inr (Or.inl hb))), pfx := h.pfx.keep u (fun b hb => hd b (Or.inr (Or.inr hb))), bl := Nat.le_trans h.bl u.size }
theorem TRaw.keep0 (h : TRaw w base tb cm kb pb Q cb vs C most L n E P N F) (u : Upd (fun _ => False) w w') : TRaw w' base tb cm kb pb Q cb vs C most L n E P N F := h.keep u (fun _ _ h => h)
/-- The rows of keys are others now. -/
theorem TRaw.keysTo (h : TRaw w base tb cm kb pb Q cb vs C most L n E P N F) (k : KAt w' base kb most L' n' E') (u : Upd E w w') (f : FromF E E' w) : TRaw w' base tb cm kb pb Q cb vs C most L' n' E' P N F := by
  obtain ⟨a, b, c⟩ := h.keepOwn u (fun b hb => (h.own b hb).1)
  refine { h with blk := a, cmap := b, cl := c, keys := k, pfx := h.pfx.keep u (fun b hb he => h.ef b he hb), bl := Nat.le_trans h.bl u.size, own := fun b hb => ⟨fun he => ?_, (h.own b hb).2⟩, ef := fun b he hf => ?_ }
  · rcases f b he with g | g
    · exact (h.own b hb).1 g
    · have := (h.lt hb).2; omega
  · rcases f b he with g | g
    · exact h.ef b g hf
    · have := (h.pfx.lt b hf).2; omega
/-- The beginnings are others now. -/
theorem TRaw.pfxTo (h : TRaw w base tb cm kb pb Q cb vs C most L n E P N F) (k : PAt w' base pb P' N' F') (u : Upd F w w') (f : ∀ b, F' b → F b ∨ w.heap.size ≤ b) : TRaw w' base tb cm kb pb Q cb vs C most L n E P' N' F' := by
  obtain ⟨a, b, c⟩ := h.keepOwn u (fun b hb => (h.own b hb).2)
  refine { h with blk := a, cmap := b, cl := c, pfx := k, keys := h.keys.keep u (fun b he hf => h.ef b he hf), bl := Nat.le_trans h.bl u.size, own := fun b hb => ⟨(h.own b hb).1, fun hf => ?_⟩, ef := fun b he hf => ?_ }
  · rcases f b hf with g | g
    · exact (h.own b hb).2 g
    · have := (h.lt hb).2; omega
  · rcases f b hf with g | g
    · exact h.ef b he g
    · have := (h.keys.lt b he).2; omega
/-- A client's block is another one now: where its beginnings lie is in none of the others' blocks. -/
theorem TRaw.clSet (h : TRaw w base tb cm kb pb Q cb vs C most L n E P N F) {id : Int} {c c' : CL} {v' : Value} (hc : C id = some c) (u : Upd (fun b => b = cb id) w w') (hB : Blk w' (cb id) (clc c' v') 98) (hv : TxtsAt w' base v' c'.md.ps)
    (hf : ∀ b, v'.ownBlock = some b → ¬ E b ∧ ¬ F b) : TRaw w' base tb cm kb pb Q cb (upd vs id v') (upd C id (some c')) most L n E P N F := by
  have hcm : cm ≠ cb id := fun e => h.cmap.notBlk (e ▸ (h.cl id c hc).1)
  have htb : tb ≠ cb id := fun e => absurd (h.blk.ty (e ▸ (h.cl id c hc).1)) (by decide)
  have hoc : ownT tb cm cb vs C (cb id) := Or.inr (Or.inr ⟨id, c, hc, Or.inl rfl⟩)
  have hown : ∀ b, ownT tb cm cb (upd vs id v') (upd C id (some c')) b → ownT tb cm cb vs C b ∨ v'.ownBlock = some b := by
    rintro b (rfl | rfl | ⟨j, d, hd, hb⟩)
    · exact Or.inl (Or.inl rfl)
    · exact Or.inl (Or.inr (Or.inl rfl))
    · by_cases e : j = id
      · subst e
        rw [upd_at] at hb
        rcases hb with rfl | hb
        · exact Or.inl hoc
        · exact Or.inr hb
      · rw [upd_ne _ _ e] at hd hb
        exact Or.inl (Or.inr (Or.inr ⟨j, d, hd, hb⟩))
  refine ⟨u.blk h.blk htb, h.keys.keep u (fun b he e => (h.own _ hoc).1 (e ▸ he)), h.pfx.keep u (fun b he e => (h.own _ hoc).2 (e ▸ he)), h.cmap.keep u hcm, h.nd, fun j => ?_, fun j d hd => ?_, fun i j hi hj e => ?_, fun b hb => ?_, fun b hb => ?_, h.ef, Nat.le_trans h.bl u.size⟩
  · rw [h.get]
    by_cases e : j = id
    · subst e; rw [upd_at, hc]; rfl
    · rw [upd_ne _ _ e]
  · by_cases e : j = id
    · subst e; rw [upd_at] at hd ⊢; injection hd with hd; subst hd; exact ⟨hB, hv⟩
    · rw [upd_ne _ _ e] at hd ⊢
      have hne : cb j ≠ cb id := fun e2 => e (h.inj j id (by rw [hd]; simp) (by rw [hc]; simp) e2)
      refine ⟨u.blk (h.cl j d hd).1 hne, own_keep (h.cl j d hd).2 u (fun b hb e2 => ?_)⟩
      obtain ⟨_, _, cs, hs⟩ := txts_blkT (h.cl j d hd).2 hb
      subst e2
      exact absurd ((h.cl id c hc).1.ty hs) (by decide)
  · refine h.inj i j (fun g => ?_) (fun g => ?_) e
    · by_cases e2 : i = id
      · subst e2; rw [hc] at g; cases g
      · rw [upd_ne _ _ e2] at hi; exact hi g
    · by_cases e2 : j = id
      · subst e2; rw [hc] at g; cases g
      · rw [upd_ne _ _ e2] at hj; exact hj g
  · rcases hown b hb with g | g
    · exact h.lo b g
    · exact (txts_blkT hv g).1
  · rcases hown b hb with g | g
    · exact h.own b g
    · exact hf b g
/-- A client more. -/
theorem TRaw.clNew (h : TRaw w base tb cm kb pb Q cb vs C most L n E P N F) {id : Int} {c : CL} {x : Nat} (hc : C id = none) {w1 : World} (u1 : Upd (fun _ => False) w w1) (hB : Blk w1 x (clc c (.slice none 0 0)) 98) (hx : w.heap.size ≤ x) (hps : c.md.ps = [])
    (hM : MapAt intEnc w' cm (aset Q id (ptr x))) (u2 : Upd (fun b => b = cm) w1 w') : TRaw w' base tb cm kb pb (aset Q id (ptr x)) (upd cb id x) (upd vs id (.slice none 0 0)) (upd C id (some c)) most L n E P N F := by
  have u : Upd (fun b => b = cm) w w' := (u1.weaken (F := fun b => b = cm) (fun _ _ h => h.elim)).trans u2 (fun _ _ h => h)
  have htb : tb ≠ cm := fun e => h.cmap.notBlk (e ▸ h.blk)
  have hom : ownT tb cm cb vs C cm := Or.inr (Or.inl rfl)
  have hxm : x ≠ cm := fun e => by have := h.cmap.lt; omega
  have hown : ∀ b, ownT tb cm (upd cb id x) (upd vs id (.slice none 0 0)) (upd C id (some c)) b → ownT tb cm cb vs C b ∨ b = x := by
    rintro b (rfl | rfl | ⟨j, d, hd, hb⟩)
    · exact Or.inl (Or.inl rfl)
    · exact Or.inl (Or.inr (Or.inl rfl))
    · by_cases e : j = id
      · subst e
        rw [upd_at, upd_at] at hb
        rcases hb with rfl | hb
        · exact Or.inr rfl
        · cases hb
      · rw [upd_ne _ _ e] at hd; rw [upd_ne _ _ e, upd_ne _ _ e] at hb
        exact Or.inl (Or.inr (Or.inr ⟨j, d, hd, hb⟩))
  have hxE : ¬ E x ∧ ¬ F x := ⟨fun he => by have := (h.keys.lt x he).2; omega, fun he => by have := (h.pfx.lt x he).2; omega⟩
  refine ⟨u.blk h.blk htb, h.keys.keep u (fun b he e => (h.own _ hom).1 (e ▸ he)), h.pfx.keep u (fun b he e => (h.own _ hom).2 (e ▸ he)), hM, nodup_aset h.nd id _, fun j => ?_, fun j d hd => ?_, fun i j hi hj e => ?_, fun b hb => ?_, fun b hb => ?_, h.ef, Nat.le_trans h.bl u.size⟩
  · rw [aget_aset]
    by_cases e : id = j
    · subst e; rw [if_pos rfl, upd_at, upd_at]; rfl
    · rw [if_neg e, upd_ne _ _ (Ne.symm e), upd_ne _ _ (Ne.symm e)]; exact h.get j
  · by_cases e : j = id
    · subst e; rw [upd_at] at hd ⊢; rw [upd_at]; injection hd with hd; subst hd
      exact ⟨u2.blk hB hxm, by rw [hps]; exact World.ownsRow_nil _ _ _ _⟩
    · rw [upd_ne _ _ e] at hd ⊢; rw [upd_ne _ _ e]
      refine ⟨u.blk (h.cl j d hd).1 (fun e2 => h.cmap.notBlk (e2 ▸ (h.cl j d hd).1)), own_keep (h.cl j d hd).2 u (fun b hb e2 => ?_)⟩
      obtain ⟨_, _, cs, hs⟩ := txts_blkT (h.cl j d hd).2 hb
      subst e2
      exact h.cmap.notBlk hs
  · by_cases ei : i = id <;> by_cases ej : j = id
    · rw [ei, ej]
    · subst ei; rw [upd_at, upd_ne _ _ ej] at e; rw [upd_ne _ _ ej] at hj
      exfalso
      cases hq : C j with
      | none => exact hj hq
      | some d => have := (h.cl j d hq).1.lt; omega
    · subst ej; rw [upd_at, upd_ne _ _ ei] at e; rw [upd_ne _ _ ei] at hi
      exfalso
      cases hq : C i with
      | none => exact hi hq
      | some d => have := (h.cl i d hq).1.lt; omega
    · rw [upd_ne _ _ ei] at hi e; rw [upd_ne _ _ ej] at hj e; exact h.inj i j hi hj e
  · rcases hown b hb with g | rfl
    · exact h.lo b g
    · exact Nat.le_trans h.bl hx
  · rcases hown b hb with g | rfl
    · exact h.own b g
    · exact hxE
/-- A client less. -/
theorem TRaw.clDel (h : TRaw w base tb cm kb pb Q cb vs C most L n E P N F) {id : Int} (hM : MapAt intEnc w' cm (adel Q id)) (u : Upd (fun b => b = cm) w w') : TRaw w' base tb cm kb pb (adel Q id) cb vs (upd C id none) most L n E P N F := by
  have htb : tb ≠ cm := fun e => h.cmap.notBlk (e ▸ h.blk)
  have hom : ownT tb cm cb vs C cm := Or.inr (Or.inl rfl)
  have hown : ∀ b, ownT tb cm cb vs (upd C id none) b → ownT tb cm cb vs C b := by
    rintro b (rfl | rfl | ⟨j, d, hd, hb⟩)
    · exact Or.inl rfl
    · exact Or.inr (Or.inl rfl)
    · by_cases e : j = id
      · subst e; rw [upd_at] at hd; cases hd
      · rw [upd_ne _ _ e] at hd; exact Or.inr (Or.inr ⟨j, d, hd, hb⟩)
  have hC : ∀ j, upd C id none j ≠ none → C j ≠ none := fun j hj => by
    by_cases e : j = id
    · subst e; rw [upd_at] at hj; exact absurd rfl hj
    · rw [upd_ne _ _ e] at hj; exact hj
  refine ⟨u.blk h.blk htb, h.keys.keep u (fun b he e => (h.own _ hom).1 (e ▸ he)), h.pfx.keep u (fun b he e => (h.own _ hom).2 (e ▸ he)), hM, nodup_adel h.nd id, fun j => ?_, fun j d hd => ?_, fun i j hi hj e => h.inj i j (hC i hi) (hC j hj) e, fun b hb => h.lo b (hown b hb), fun b hb => h.own b (hown b hb), h.ef, Nat.le_trans h.bl u.size⟩
  · rw [aget_adel h.nd]
    by_cases e : id = j
    · subst e; rw [if_pos rfl, upd_at]; rfl
    · rw [if_neg e, upd_ne _ _ (Ne.symm e)]; exact h.get j
  · by_cases e : j = id
    · subst e; rw [upd_at] at hd; cases hd
    · rw [upd_ne _ _ e] at hd
      refine ⟨u.blk (h.cl j d hd).1 (fun e2 => h.cmap.notBlk (e2 ▸ (h.cl j d hd).1)), own_keep (h.cl j d hd).2 u (fun b hb e2 => ?_)⟩
      obtain ⟨_, _, cs, hs⟩ := txts_blkT (h.cl j d hd).2 hb
      subst e2
      exact h.cmap.notBlk hs
/-- The run of a look-up of a client. -/
theorem TRaw.look (h : TRaw w base tb cm kb pb Q cb vs C most L n E P N F) (id : Int) : (Instr.lookup 89 (.map (some cm)) (.int .i64 id) false).run Tryz.prog w = .ok (match C id with | some _ => ptr (cb id) | none => .pointer none) w := by
  have := h.cmap.look (T := 89) keyI Tryz.underlying89 (z := .pointer none) (Tryz.zeroValue96 w) id false
  rw [h.get] at this
  cases hc : C id with
  | none => rw [hc] at this; exact this
  | some c => rw [hc] at this; exact this
end
end Go.Proofs.YtmlojbfcmebboaaGreat
/- Modes: the same; which can be; a copy. -/
set_option linter.unusedVariables false
set_option linter.unusedSimpArgs false
namespace Go.Proofs.YtmlojbfcmebboaaGreat
open Go.RowKit

theorem txts_strs {w : World} {v : Value} {l : List Txt} (h : RowOf txtc 1 w v l) : ∃ p c, v = .slice p l.length c ∧ l.length ≤ maxLen := h.len
theorem map_ofL_inj : ∀ {a b : List Txt}, a.map ofL = b.map ofL → a = b
  | [], [], _ => rfl
  | [], _ :: _, h => by simp at h
  | _ :: _, [], h => by simp at h
  | x :: a, y :: b, h => by
    simp only [List.map_cons, List.cons.injEq] at h
    rw [ofL_inj h.1, map_ofL_inj h.2]
theorem txt_at {w : World} {p : Option Addr} {cap n : Nat} {l : List Txt} (h : RowOf txtc 1 w (.slice p n cap) l) (hl : l ≠ []) : n = l.length ∧ ∃ b off, p = some ⟨b, off, none⟩ ∧ b < w.heap.size ∧ ∀ j, j < (l.map ofL).length → w.cell? ⟨b, off + j, none⟩ = some (.string ((l.map ofL).getD j ByteArray.empty)) := by
  rcases h with ⟨_, _, _, e⟩ | ⟨b, off, c, e, hb, _, hc⟩
  · exact absurd e hl
  · simp only [Value.slice.injEq] at e
    refine ⟨e.2.1, b, off, e.1, hb, fun j hj => ?_⟩
    rw [List.length_map] at hj
    have := hc j _ (List.getElem?_eq_getElem hj) 0 (by omega)
    rw [List.getD_eq_getElem?_getD, List.getElem?_map, List.getElem?_eq_getElem hj]
    simpa [txtc] using this
/-- Equal of texts. -/
theorem equalT_any (v1 v2 : Value) (l1 l2 : List Txt) (w : World) (h1 : RowOf txtc 1 w v1 l1) (h2 : RowOf txtc 1 w v2 l2) (hl : l1.length ≤ 1000000) :
    Calls Tryz.prog 116 #[v1, v2] w fun e w' => e = .returned (.bool (decide (l1 = l2))) ∧ Upd (fun _ => False) w w' := by
  obtain ⟨p1, c1, rfl, hm1⟩ := h1.len
  obtain ⟨p2, c2, rfl, hm2⟩ := h2.len
  unfold maxLen at hm1 hm2
  by_cases e1 : l1 = []
  · subst e1
    refine (Tryz.slices_Equal_string_empty p1 p2 c1 l2.length c2 w (by omega)).mono ?_
    rintro e w' ⟨rfl, rfl⟩
    refine ⟨?_, Upd.refl _ _⟩
    congr 2
    refine decide_eq_decide.2 ?_
    rw [List.length_eq_zero_iff]; exact eq_comm
  · by_cases hn : l1.length = l2.length
    · have e2 : l2 ≠ [] := fun e => e1 (List.length_eq_zero_iff.1 (by rw [hn, e]; rfl))
      obtain ⟨_, b1, o1, rfl, _, hc1⟩ := txt_at h1 e1
      obtain ⟨_, b2, o2, rfl, _, hc2⟩ := txt_at h2 e2
      refine (Tryz.slices_Equal_string b1 o1 l1.length c1 b2 o2 l2.length c2 (l1.map ofL) (l2.map ofL) w (by simp) (by simp) (by omega) (by omega) hc1 hc2).mono ?_
      rintro e w' ⟨rfl, q, rfl⟩
      refine ⟨?_, (Upd.refl _ _).drewN q⟩
      congr 2
      refine decide_eq_decide.2 ?_
      rw [List.take_of_length_le (by simp), List.take_of_length_le (by simp)]
      exact ⟨map_ofL_inj, fun e => by rw [e]⟩
    · refine (Tryz.slices_Equal_string_lens p1 p2 l1.length c1 l2.length c2 w hn).mono ?_
      rintro e w' ⟨rfl, rfl⟩
      exact ⟨by rw [decide_eq_false (fun e => hn (by rw [e]))], Upd.refl _ _⟩
set_option maxHeartbeats 8000000 in
set_option maxRecDepth 100000 in
theorem msame_any (m m' : MD) (v v' : Value) (w : World) (h : RowOf txtc 1 w v m.ps) (h' : RowOf txtc 1 w v' m'.ps) (hl : m.ps.length ≤ 1000000) :
    Calls Tryz.prog 84 #[mdV m v, mdV m' v'] w fun e w' => e = .returned (.bool (decide (m = m'))) ∧ Upd (fun _ => False) w w' := by
  obtain ⟨p, c, rfl, hm⟩ := h.len
  obtain ⟨p', c', rfl, hm'⟩ := h'.len
  unfold maxLen at hm hm'
  obtain ⟨on, bc, oi, oo, nl, rd, ps⟩ := m
  obtain ⟨on', bc', oi', oo', nl', rd', ps'⟩ := m'
  have U : Hid (∀ o o', Upd (fun _ => False) w ((w.alloc o).alloc o')) := fun o o' => ((Upd.refl _ _).alloc o).alloc o'
  have EQ : Hid (∀ W, Upd (fun _ => False) w W → Calls Tryz.prog 116 #[.slice p ps.length c, .slice p' ps'.length c'] W fun e w' => e = .returned (.bool (decide (ps = ps'))) ∧ Upd (fun _ => False) w w') := fun W u => by
    refine (equalT_any _ _ ps ps' W (h.keep u (fun _ _ _ h => h)) (h'.keep u (fun _ _ _ h => h)) hl).mono ?_
    rintro e w' ⟨rfl, u2⟩; exact ⟨rfl, u.trans u2 (fun _ _ h => h)⟩
  clear h h'
  unfold mdV
  dsimp only at *
  generalize hn : ps.length = np at *
  generalize hn' : ps'.length = np' at *
  have HN := Lib.hid hn
  have HN' := Lib.hid hn'
  clear hn hn'
  have RM : Hid (decide ((⟨on, bc, oi, oo, nl, rd, ps⟩ : MD) = ⟨on', bc', oi', oo', nl', rd', ps'⟩) = decide (on = on' ∧ bc = bc' ∧ oi = oi' ∧ oo = oo' ∧ nl = nl' ∧ rd = rd' ∧ ps = ps')) := decide_eq_decide.2 (by
    constructor
    · intro e; injection e with a1 a2 a3 a4 a5 a6 a7; exact ⟨a1, a2, a3, a4, a5, a6, a7⟩
    · rintro ⟨rfl, rfl, rfl, rfl, rfl, rfl, rfl⟩; rfl)
  generalize decide ((⟨on, bc, oi, oo, nl, rd, ps⟩ : MD) = ⟨on', bc', oi', oo', nl', rd', ps'⟩) = dd at *
  by_cases h1 : on = on'
  · subst h1
    by_cases h2 : bc = bc'
    · subst h2
      by_cases h3 : oi = oi'
      · subst h3
        by_cases h4 : oo = oo'
        · subst h4
          by_cases h5 : nl = nl'
          · subst h5
            by_cases h6 : rd = rd'
            · subst h6
              have R : Hid (dd = decide (ps = ps')) := RM.out.trans (decide_eq_decide.2 (by simp))
              clear RM
              generalize decide (ps = ps') = dp at *
              go_enter Tryz.func84, Tryz.ntmps84
              go_wp2_with fail
              refine (EQ.out _ (U.out _ _)).mono ?_
              rintro e w5 ⟨rfl, u5⟩
              have U5 := Lib.hid u5
              clear u5
              go_wp2
              go_ret
              exact ⟨by rw [R.out]; rfl, U5.out⟩
            · have e : (rd == rd') = false := beq_eq_false_iff_ne.2 h6
              have R : Hid (dd = false) := RM.out.trans (by simp [h6])
              clear RM
              go_enter Tryz.func84, Tryz.ntmps84
              go_wp2
              go_ret
              exact ⟨by rw [R.out]; rfl, U.out _ _⟩
          · have e : (nl == nl') = false := beq_eq_false_iff_ne.2 h5
            have R : Hid (dd = false) := RM.out.trans (by simp [h5])
            clear RM
            go_enter Tryz.func84, Tryz.ntmps84
            go_wp2
            go_ret
            exact ⟨by rw [R.out]; rfl, U.out _ _⟩
        · have e : (oo == oo') = false := beq_eq_false_iff_ne.2 h4
          have R : Hid (dd = false) := RM.out.trans (by simp [h4])
          clear RM
          go_enter Tryz.func84, Tryz.ntmps84
          go_wp2
          go_ret
          exact ⟨by rw [R.out]; rfl, U.out _ _⟩
      · have e : (oi == oi') = false := beq_eq_false_iff_ne.2 h3
        have R : Hid (dd = false) := RM.out.trans (by simp [h3])
        clear RM
        go_enter Tryz.func84, Tryz.ntmps84
        go_wp2
        go_ret
        exact ⟨by rw [R.out]; rfl, U.out _ _⟩
    · have e : (bc == bc') = false := beq_eq_false_iff_ne.2 h2
      have R : Hid (dd = false) := RM.out.trans (by simp [h2])
      clear RM
      go_enter Tryz.func84, Tryz.ntmps84
      go_wp2
      go_ret
      exact ⟨by rw [R.out]; rfl, U.out _ _⟩
  · have e : (on == on') = false := beq_eq_false_iff_ne.2 h1
    have R : Hid (dd = false) := RM.out.trans (by simp [h1])
    clear RM
    go_enter Tryz.func84, Tryz.ntmps84
    go_wp2
    go_ret
    exact ⟨by rw [R.out]; rfl, U.out _ _⟩
set_option maxHeartbeats 8000000 in
set_option maxRecDepth 100000 in
theorem right_any (m : MD) (v : Value) (w : World) (h : RowOf txtc 1 w v m.ps) (hl : m.ps.length ≤ 1000000) (hs : ∀ t ∈ m.ps, t.length ≤ maxLen) :
    Calls Tryz.prog 44 #[mdV m v] w fun e w' => e = .returned (.bool (rightM m)) ∧ Upd (fun _ => False) w w' := by
  obtain ⟨p, c, rfl, hm⟩ := h.len
  unfold maxLen at hm
  obtain ⟨on, bc, oi, oo, nl, rd, ps⟩ := m
  dsimp only at *
  have U : Hid (∀ o, Upd (fun _ => False) w (w.alloc o)) := fun o => (Upd.refl _ _).alloc o
  have SA : Hid (∀ W, Upd (fun _ => False) w W → Calls Tryz.prog 84 #[mdV ⟨on, bc, oi, oo, nl, rd, ps⟩ (.slice p ps.length c), mdV offM (.slice none 0 0)] W fun e w' => e = .returned (.bool (decide ((⟨on, bc, oi, oo, nl, rd, ps⟩ : MD) = offM))) ∧ Upd (fun _ => False) w w') := fun W u => by
    refine (msame_any ⟨on, bc, oi, oo, nl, rd, ps⟩ offM _ _ W (h.keep u (fun _ _ _ h => h)) (Or.inl ⟨none, 0, rfl, rfl⟩) hl).mono ?_
    rintro e w' ⟨rfl, u2⟩; exact ⟨rfl, u.trans u2 (fun _ _ h => h)⟩
  have PX : Hid (∀ W, Upd (fun _ => False) w W → Calls Tryz.prog 85 #[.slice p ps.length c] W fun e w' => e = .returned (.bool (decide (preR ps))) ∧ Upd (fun _ => False) w w') := fun W u => by
    refine (prefixes_any _ ps W (h.keep u (fun _ _ _ h => h)) hl hs).mono ?_
    rintro e w' ⟨rfl, u2⟩; exact ⟨rfl, u.trans u2 (fun _ _ h => h)⟩
  clear h hs
  unfold mdV at *
  have RM : Hid (rightM ⟨on, bc, oi, oo, nl, rd, ps⟩ = if on = false then decide ((⟨on, bc, oi, oo, nl, rd, ps⟩ : MD) = offM) else if rd < 0 ∨ 1000000000 < rd ∨ (oi = true ∧ oo = true) ∨ (bc = true ∧ (oi = true ∨ oo = true)) then false else if bc = false then decide (ps = []) else decide (preR ps)) := rfl
  generalize rightM ⟨on, bc, oi, oo, nl, rd, ps⟩ = rr at *
  cases on with
  | false =>
    have R : Hid (rr = decide ((⟨false, bc, oi, oo, nl, rd, ps⟩ : MD) = offM)) := RM.out
    generalize decide ((⟨false, bc, oi, oo, nl, rd, ps⟩ : MD) = offM) = dd at *
    dsimp only [offM] at *
    generalize ps.length = np at *
    clear RM PX
    go_enter Tryz.func44, Tryz.ntmps44
    go_wp2_with fail
    refine (SA.out _ (U.out _)).mono ?_
    rintro e w5 ⟨rfl, u5⟩
    have U5 := Lib.hid u5
    clear u5
    go_wp2
    go_ret
    exact ⟨by rw [R.out]; rfl, U5.out⟩
  | true =>
    clear SA
    by_cases h1 : rd < 0
    · have R : Hid (rr = false) := RM.out.trans (by simp [h1])
      clear RM PX
      generalize ps.length = np at *
      go_enter Tryz.func44, Tryz.ntmps44
      go_wp2
      all_goals (go_ret; exact ⟨by rw [R.out]; rfl, U.out _⟩)
    · by_cases h2 : 1000000000 < rd
      · have R : Hid (rr = false) := RM.out.trans (by simp [h2])
        clear RM PX
        generalize ps.length = np at *
        go_enter Tryz.func44, Tryz.ntmps44
        go_wp2
        all_goals (go_ret; exact ⟨by rw [R.out]; rfl, U.out _⟩)
      · have RM : Hid (rr = if (oi = true ∧ oo = true) ∨ (bc = true ∧ (oi = true ∨ oo = true)) then false else if bc = false then decide (ps = []) else decide (preR ps)) := RM.out.trans (by simp [h1, h2])
        have LE : Hid (decide (ps = []) = decide ((ps.length : Int) = 0)) := decide_eq_decide.2 (by rw [← List.length_eq_zero_iff]; omega)
        generalize hdp : decide (preR ps) = dp at *
        generalize decide (ps = []) = d0 at *
        generalize ps.length = np at *
        clear hdp
        cases bc with
        | false =>
          cases oi with
          | false =>
            cases oo with
            | false =>
              have R : Hid (rr = d0) := RM.out.trans (by simp)
              clear RM PX
              go_enter Tryz.func44, Tryz.ntmps44
              go_wp2
              go_ret
              exact ⟨by rw [R.out, LE.out]; rfl, U.out _⟩
            | true =>
              have R : Hid (rr = d0) := RM.out.trans (by simp)
              clear RM PX
              go_enter Tryz.func44, Tryz.ntmps44
              go_wp2
              go_ret
              exact ⟨by rw [R.out, LE.out]; rfl, U.out _⟩
          | true =>
            cases oo with
            | false =>
              have R : Hid (rr = d0) := RM.out.trans (by simp)
              clear RM PX
              go_enter Tryz.func44, Tryz.ntmps44
              go_wp2
              go_ret
              exact ⟨by rw [R.out, LE.out]; rfl, U.out _⟩
            | true =>
              have R : Hid (rr = false) := RM.out.trans (by simp)
              clear RM PX LE
              go_enter Tryz.func44, Tryz.ntmps44
              go_wp2
              go_ret
              exact ⟨by rw [R.out]; rfl, U.out _⟩
        | true =>
          cases oi with
          | false =>
            cases oo with
            | false =>
              have R : Hid (rr = dp) := RM.out.trans (by simp)
              clear RM LE
              go_enter Tryz.func44, Tryz.ntmps44
              go_wp2_with fail
              refine (PX.out _ (U.out _)).mono ?_
              rintro e w5 ⟨rfl, u5⟩
              have U5 := Lib.hid u5
              clear u5
              go_wp2
              go_ret
              exact ⟨by rw [R.out]; rfl, U5.out⟩
            | true =>
              have R : Hid (rr = false) := RM.out.trans (by simp)
              clear RM PX LE
              go_enter Tryz.func44, Tryz.ntmps44
              go_wp2
              go_ret
              exact ⟨by rw [R.out]; rfl, U.out _⟩
          | true =>
            cases oo with
            | false =>
              have R : Hid (rr = false) := RM.out.trans (by simp)
              clear RM PX LE
              go_enter Tryz.func44, Tryz.ntmps44
              go_wp2
              go_ret
              exact ⟨by rw [R.out]; rfl, U.out _⟩
            | true =>
              have R : Hid (rr = false) := RM.out.trans (by simp)
              clear RM PX LE
              go_enter Tryz.func44, Tryz.ntmps44
              go_wp2
              go_ret
              exact ⟨by rw [R.out]; rfl, U.out _⟩
end Go.Proofs.YtmlojbfcmebboaaGreat
/- Rows of structs of k cells each, of the call's own: read, append, store. -/
set_option linter.unusedVariables false
set_option linter.unusedSimpArgs false
namespace Go.Proofs.YtmlojbfcmebboaaGreat
open Go.RowKit

section
variable {α : Type} {f : α → List Value} {k : Nat} {w w' : World} {base : Nat} {e : TypeId} {v : Value} {l : List α}
/-- v is a slice of the call's own, from block base on, that holds l, each thing by its k cells. -/
def OwnN (f : α → List Value) (k : Nat) (e : TypeId) (w : World) (base : Nat) (v : Value) (l : List α) : Prop := w.ownsRow base e k v l.length (flat f l)
theorem OwnN.keep {F : Nat → Prop} (h : OwnN f k e w base v l) (u : Upd F w w') (hd : ∀ b, v.ownBlock = some b → ¬ F b) : OwnN f k e w' base v l := own_keep h u hd
theorem OwnN.keep0 (h : OwnN f k e w base v l) (u : Upd (fun _ => False) w w') : OwnN f k e w' base v l := own_keep h u (fun _ _ h => h)
theorem OwnN.mono {b2 : Nat} (h : OwnN f k e w base v l) (hb : b2 ≤ base) : OwnN f k e w b2 v l := by
  refine ⟨h.1, h.2.imp id ?_⟩
  rintro ⟨g, cap, cur, a, b, c⟩
  exact ⟨g, cap, cur, a, Nat.le_trans hb b, c⟩
theorem OwnN.blk (h : OwnN f k e w base v l) : (v = .slice none 0 0 ∧ l = []) ∨ ∃ b cap cs, v = .slice (some ⟨b, 0, none⟩) l.length cap ∧ base ≤ b ∧ Blk w b (flat f l ++ cs) e ∧ l.length * k + cs.length = cap * k ∧ cap ≤ maxLen ∧ l.length ≤ cap := by
  obtain ⟨h0, ⟨rfl, e0⟩ | ⟨g, cap, cur, rfl, hg, hh, h1, h2, h3, h4⟩⟩ := h
  · exact Or.inl ⟨rfl, List.length_eq_zero_iff.1 e0⟩
  · refine Or.inr ⟨g, cap, cur.toList.drop (l.length * k), rfl, hg, ?_, ?_, h2, h1⟩
    · unfold Blk
      rw [← h4, List.take_append_drop]; exact hh
    · have : l.length * k ≤ cap * k := Nat.mul_le_mul_right _ h1
      simp; omega
theorem OwnN.lt (h : OwnN f k e w base v l) {b : Nat} (hb : v.ownBlock = some b) : base ≤ b ∧ b < w.heap.size ∧ ∃ cs, Blk w b cs e := by
  rcases h.blk with ⟨rfl, _⟩ | ⟨g, cap, cs, rfl, hg, hB, _⟩
  · cases hb
  · cases hb; exact ⟨hg, hB.lt, _, hB⟩
theorem OwnN.slice (h : OwnN f k e w base v l) : ∃ p c, v = .slice p l.length c ∧ l.length ≤ maxLen ∧ l.length ≤ c := by
  rcases h.blk with ⟨rfl, rfl⟩ | ⟨g, cap, cs, rfl, hg, hB, _, h1, h2⟩
  · exact ⟨_, _, rfl, by unfold maxLen; simp, by simp⟩
  · exact ⟨_, _, rfl, by omega, h2⟩
theorem OwnN.row (h : OwnN f k e w base v l) (hf : ∀ a, (f a).length = k) : RowOf f k w v l := by
  rcases h.blk with ⟨rfl, rfl⟩ | ⟨g, cap, cs, rfl, hg, hB, _, h1, h2⟩
  · exact Or.inl ⟨none, 0, rfl, rfl⟩
  · refine Or.inr ⟨g, 0, cap, rfl, hB.lt, by omega, fun i a hi j hj => ?_⟩
    have hil : i < l.length := (List.getElem?_eq_some_iff.1 hi).1
    have hlt : i * k + j < l.length * k := by
      have : (i + 1) * k ≤ l.length * k := Nat.mul_le_mul_right _ hil
      rw [Nat.add_mul] at this; omega
    rw [Nat.zero_add, hB.cell, List.getElem?_append_left (by rw [flat_length f k hf]; exact hlt), flat_get f k hf l i j hj, hi]; rfl
theorem OwnN.none : OwnN f k e w base (.slice none 0 0) ([] : List α) := ⟨by simp [flat], Or.inl ⟨rfl, rfl⟩⟩
theorem OwnN.ofBlk {b cap : Nat} {cs : List Value} (hb : base ≤ b) (hf : ∀ a, (f a).length = k) (h : Blk w b (flat f l ++ cs) e) (hc : l.length * k + cs.length = cap * k) (hm : cap ≤ maxLen) (hle : l.length ≤ cap) : OwnN f k e w base (.slice (some ⟨b, 0, Option.none⟩) l.length cap) l := by
  have hl := flat_length f k hf l
  exact ⟨hl, Or.inr ⟨b, cap, _, rfl, hb, h, hle, hm, by simp; omega, by rw [← hl]; simp⟩⟩
/-- An empty row, made. -/
theorem OwnN.made (w : World) (e : TypeId) : OwnN f k e (w.alloc (.cells #[] e)) w.heap.size (.slice (some ⟨w.heap.size, 0, Option.none⟩) 0 0) ([] : List α) :=
  ⟨by simp [flat], Or.inr ⟨w.heap.size, 0, _, rfl, Nat.le_refl _, by
    have := Blk.made w [] e; exact this, Nat.le_refl _, by unfold maxLen; omega, by simp, by simp [flat]⟩⟩
/-- A thing's cells in a block of their own: a row of one. -/
theorem RowOf.lit (w : World) (a : α) (cs : List Value) (e : TypeId) (hcs : f a = cs) (hk : cs.length = k) : RowOf f k (w.alloc (.cells cs.toArray e)) (.slice (some ⟨w.heap.size, 0, Option.none⟩) 1 1) [a] := by
  refine Or.inr ⟨w.heap.size, 0, 1, rfl, by simp, by unfold maxLen; simp, fun i x hi j hj => ?_⟩
  cases i with
  | zero =>
    simp at hi; subst hi
    rw [Nat.zero_mul, Nat.zero_add, Nat.zero_add, (Blk.made w cs e).cell, hcs]
  | succ i => simp at hi
/-- A cell of a thing is written. -/
theorem OwnN.set {g n c i j : Nat} {a b : α} {x : Value} (h : OwnN f k e w base (.slice (some ⟨g, 0, Option.none⟩) n c) l) (hf : ∀ a, (f a).length = k) (hj : j < k) (ha : l[i]? = some a) (hb : f b = (f a).set j x) :
    OwnN f k e (w.setCell ⟨g, i * k + j, Option.none⟩ x) base (.slice (some ⟨g, 0, Option.none⟩) n c) (l.set i b) := by
  rcases h.blk with ⟨e1, _⟩ | ⟨g', cap, cs, e1, hg, hB, h1, h2, h3⟩
  · cases e1
  · injection e1 with e1 e2 e3
    injection e1 with e1; injection e1 with e1
    subst e1 e3
    have hil : i < l.length := (List.getElem?_eq_some_iff.1 ha).1
    have hlt : i * k + j < l.length * k := by
      have : (i + 1) * k ≤ l.length * k := Nat.mul_le_mul_right _ hil
      rw [Nat.add_mul] at this; omega
    have hs := hB.set (i * k + j) x
    rw [List.set_append_left _ _ (by rw [flat_length f k hf]; exact hlt), flat_set f k hf l i j hj a b x ha hb] at hs
    have := OwnN.ofBlk (base := base) (cap := c) (l := l.set i b) hg hf hs (by rw [List.length_set]; exact h1) h2 (by rw [List.length_set]; exact h3)
    rw [List.length_set] at this
    rw [e2]; exact this
theorem OwnN.cell {g n c : Nat} (h : OwnN f k e w base (.slice (some ⟨g, 0, Option.none⟩) n c) l) (hf : ∀ a, (f a).length = k) {i j : Nat} {a : α} (hj : j < k) (ha : l[i]? = some a) : w.cell? ⟨g, i * k + j, Option.none⟩ = (f a)[j]? := by
  rcases h.row hf with ⟨_, _, _, e1⟩ | ⟨b, off, cap, e1, _, _, hc⟩
  · subst e1; simp at ha
  · have h0 := h.blk
    rcases h0 with ⟨e2, _⟩ | ⟨g', cap', cs, e2, hg, hB, h1, h2, h3⟩
    · cases e2
    · injection e2 with e2 e3 e4
      injection e2 with e2; injection e2 with e2
      subst e2
      have hil : i < l.length := (List.getElem?_eq_some_iff.1 ha).1
      have hlt : i * k + j < l.length * k := by
        have : (i + 1) * k ≤ l.length * k := Nat.mul_le_mul_right _ hil
        rw [Nat.add_mul] at this; omega
      rw [hB.cell, List.getElem?_append_left (by rw [flat_length f k hf]; exact hlt), flat_get f k hf l i j hj, ha]; rfl
/-- append(v, v2...): v of the call's own, v2 any row. -/
theorem OwnN.append {P : Program} {v2 : Value} {l2 : List α} (t ty : TypeId) (i : TypeInfo) (z : Value) (bytes : Nat) (ht : P.underlying t = some (.slice e)) (hi : P.info? e = some i) (hz : i.zero = some z)
    (hsize : i.size = k) (hby : i.bytes = bytes) (hzs : z.cells.size = k) (hk : 0 < k) (hf : ∀ a, (f a).length = k) (h1 : ∀ a ∈ l2, ∀ u ∈ f a, u.oneCell' = true)
    (h : OwnN f k e w base v l) (h2 : RowOf f k w v2 l2) (h63 : l.length + l2.length ≤ maxLen) (hbytes : (l.length + l2.length) * bytes ≤ 140737488355328) (hb : base ≤ w.heap.size) :
    ∃ v' w', (Builtin.append_ #[t, t] ty #[v, v2]).run P w = .ok v' w' ∧ OwnN f k e w' base v' (l ++ l2) ∧ Upd (fun b => v.ownBlock = some b) w w' ∧ NewOr v v' w := by
  have hfl := flat_length f k hf l2
  have e2 : flat f (l ++ l2) = flat f l ++ flat f l2 := by simp [flat]
  have ho : ∀ u ∈ flat f l2, u.oneCell' = true := by
    intro u hu
    unfold flat at hu
    obtain ⟨m, hml, hm⟩ := List.mem_flatMap.1 hu
    exact h1 m hml u hm
  by_cases h0 : l2 = []
  · subst h0
    obtain ⟨p, cp, rfl, _, hle⟩ := h.slice
    obtain ⟨a, c, rfl⟩ : ∃ a c, v2 = .slice a 0 c := by
      rcases h2 with ⟨a, c, e, _⟩ | ⟨b, off, cap, e, _⟩
      · exact ⟨_, _, e⟩
      · exact ⟨_, _, e⟩
    have hs : Src P i.size t (.slice a 0 c) 0 [] w := by
      cases a with
      | none => exact Src.ofNil w ht c
      | some a => exact Src.ofSlice w ht a 0 c [] (by simp) (fun j u h => by simp at h) (fun u h => by cases h)
    refine ⟨_, _, run_append_nothing (P := P) w t t ty e i ht hi p l.length cp hle _ hs, by simpa using h, Upd.refl _ _, fun k hk => Or.inl hk⟩
  · obtain ⟨b, off, c, rfl, hb2, _, hc⟩ : ∃ b off cap, v2 = .slice (some ⟨b, off, Option.none⟩) l2.length cap ∧ b < w.heap.size ∧ l2.length ≤ maxLen ∧ ∀ i a, l2[i]? = some a → ∀ j, j < k → w.cell? ⟨b, off + (i * k + j), Option.none⟩ = (f a)[j]? := by
      rcases h2 with ⟨_, _, _, e⟩ | h2
      · exact absurd e h0
      · exact h2
    have hn : ∀ j u, (flat f l2)[j]? = some u → w.cell? ((⟨b, off, Option.none⟩ : Addr).add j) = some u := by
      intro j u hj
      have hjl := (List.getElem?_eq_some_iff.1 hj).1
      rw [hfl] at hjl
      have hi : j / k < l2.length := (Nat.div_lt_iff_lt_mul hk).2 hjl
      have hmod := Nat.mod_lt j hk
      have h1 := hc (j / k) l2[j / k] (List.getElem?_eq_getElem hi) (j % k) hmod
      have h3 := flat_get f k hf l2 (j / k) (j % k) hmod
      have ej : j / k * k + j % k = j := Nat.div_add_mod' j k
      rw [ej] at h1 h3
      rw [hj, List.getElem?_eq_getElem hi] at h3
      have e : (⟨b, off, Option.none⟩ : Addr).add j = ⟨b, off + j, Option.none⟩ := by simp [Addr.add]
      rw [e, h1]; exact h3.symm
    have hpos := List.length_pos_iff.2 h0
    obtain ⟨v', w', hr, q2, q3, _⟩ := run_append_own (P := P) w base t ty e i z k bytes ht hi hz hsize hby hzs hk v l.length _ h ⟨b, off, Option.none⟩ l2.length c _ hfl hn ho h63 hbytes hb
    have hw := run_append_where (P := P) w base t ty e i z k bytes ht hi hz hsize hby v l.length _ h ⟨b, off, Option.none⟩ l2.length c _ hfl hn ho hpos h63 hbytes v' w' hr
    refine ⟨v', w', hr, ?_, (Upd.of_grown q3).weaken (fun k _ hk => hk.symm), hw⟩
    unfold OwnN
    rw [e2, List.length_append]; exact q2
end
/-- A step of a region that draws its order: append. -/
theorem step_builtinN {P : Program} {ops : Array Oper} {o : Oper} {a : Act} {w w' : World} {K : Act → World → Prop} {Q : Exit → Act → World → Prop} {E : Prop} {v' : Value} (hg : o.guard = none) (s x : Operand) (t : TypeId)
    (ho : o.op = .call { callee := .builtin .append, args := #[s, x], argTypes := #[t, t] }) (u y : Value) (hs : a.eval s = u) (hx : a.eval x = y)
    (hr : (Builtin.append_ #[t, t] o.type #[u, y]).run P w = .ok v' w') (hK : K (a.put o.dst v') w') :
    if Region.wanted o (yielded ops a.tmps) = true then Oper.wp P o a w K Q else E := by
  have hw : Region.wanted o (yielded ops a.tmps) = true := by simp [Region.wanted, hg]
  rw [if_pos hw]
  unfold Oper.wp execOp
  subst hs hx
  simp only [ho, resolve, invoke, builtin, Sem.run_bind, Sem.run_pure, Result.andThen_ok, List.map_toArray, List.map_cons, List.map_nil, hr]
  exact hK
theorem wpList_builtinN {P : Program} {ops : Array Oper} {rest : List Oper} {o : Oper} {a : Act} {w w' : World} {Q : Exit → Act → World → Prop} {v' : Value} (hg : o.guard = none) (s x : Operand) (t : TypeId)
    (ho : o.op = .call { callee := .builtin .append, args := #[s, x], argTypes := #[t, t] }) (u y : Value) (hs : a.eval s = u) (hx : a.eval x = y)
    (hr : (Builtin.append_ #[t, t] o.type #[u, y]).run P w = .ok v' w') (hK : wpList P ops Q rest (a.put o.dst v') w') : wpList P ops Q (o :: rest) a w :=
  wpList_plain hg fun K hK' => by
    unfold Oper.wp execOp
    subst hs hx
    simp only [ho, resolve, invoke, builtin, Sem.run_bind, Sem.run_pure, Result.andThen_ok, List.map_toArray, List.map_cons, List.map_nil, hr]
    exact hK' _ _ hK
theorem info_parts {o : Option TypeInfo} {x : Option Value × Nat × Nat} (h : o.map (fun i => (i.zero, i.size, i.bytes)) = some x) : ∃ i, o = some i ∧ i.zero = x.1 ∧ i.size = x.2.1 ∧ i.bytes = x.2.2 := by
  cases o with
  | none => cases h
  | some i => simp only [Option.map_some, Option.some.injEq] at h; subst h; exact ⟨i, rfl, rfl, rfl, rfl⟩
end Go.Proofs.YtmlojbfcmebboaaGreat
