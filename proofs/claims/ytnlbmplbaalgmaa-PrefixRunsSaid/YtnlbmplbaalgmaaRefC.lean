/- The document's marks: Nodes. -/
import Derived.Test.YtnlbmplbaalgmaaRefB
import Derived.Test.YtnlbmplbaalgmaaOwn
set_option linter.unusedVariables false
set_option linter.unusedSimpArgs false
namespace Go.Proofs.Ytnlbmplbaalgmaa
open Go.RowKit

def TxtsAt (w : World) (base : Nat) (v : Value) (l : List Txt) : Prop := w.ownsRow base 9 1 v l.length (l.map fun t => .string (ofL t))
theorem txts_get {w : World} {base : Nat} {p : Option Addr} {c : Nat} {l : List Txt} (h : TxtsAt w base (.slice p l.length c) l) {k : Nat} (hk : k < l.length) :
    ∃ g, p = some ⟨g, 0, none⟩ ∧ g < w.heap.size ∧ w.cell? ⟨g, k, none⟩ = some (.string (ofL l[k])) := by
  obtain ⟨_, ⟨_, e0⟩ | ⟨g, cap, cs, ev, hg, hB, hc, hm⟩⟩ := own_blk h
  · omega
  · refine ⟨g, by injection ev, hB.lt, hB.cellAt ?_⟩
    rw [List.getElem?_append_left (by simpa using hk), List.getElem?_map, List.getElem?_eq_getElem hk]; rfl
/-- A text more, if it isn't there. -/
def addT (l : List Txt) (s : Txt) : List Txt := if s ∈ l then l else l ++ [s]
theorem addT_mem {l : List Txt} {s t : Txt} : t ∈ addT l s ↔ t ∈ l ∨ t = s := by
  unfold addT; split
  · rename_i h; constructor
    · exact Or.inl
    · rintro (g | g)
      · exact g
      · rw [g]; exact h
  · rw [List.mem_append, List.mem_singleton]
theorem addT_nodup {l : List Txt} {s : Txt} (h : l.Nodup) : (addT l s).Nodup := by
  unfold addT; split
  · exact h
  · rename_i hn
    exact List.nodup_append.2 ⟨h, by simp, fun x hx y hy e => by simp at hy; subst hy; subst e; exact hn hx⟩
theorem addT_len {l : List Txt} {s : Txt} : (addT l s).length ≤ l.length + 1 := by unfold addT; split <;> simp
theorem txts_one {l : List Txt} : ∀ u ∈ l.map (fun t => Value.string (ofL t)), u.oneCell' = true := by intro u hu; obtain ⟨_, _, rfl⟩ := List.mem_map.1 hu; rfl
set_option maxHeartbeats 4000000 in
set_option maxRecDepth 100000 in
theorem radd_any (v : Value) (l : List Txt) (s : Txt) (w : World) (base : Nat) (h : TxtsAt w base v l) (hl : l.length ≤ 200000) (hb : base ≤ w.heap.size) :
    Calls Try.prog 49 #[v, .string (ofL s)] w fun e w' => ∃ v', e = .returned v' ∧ TxtsAt w' base v' (addT l s) ∧ Upd (fun _ => False) w w' := by
  obtain ⟨p, c, ev, hm⟩ := own_slice h
  subst ev
  have H := Lib.hid h
  obtain ⟨sk, hsk⟩ : ∃ sk, sk = ofL s := ⟨_, rfl⟩
  rw [← hsk]
  have SK := Lib.hid hsk
  clear h hsk
  go_enter Try.func49, Try.ntmps49
  go_wp2
  go_loopw [9] (fun x9 wr => ∃ (k : Nat), k ≤ l.length ∧ x9 = .int .i64 (k : Int) ∧ Hid (∀ t ∈ l.take k, t ≠ s) ∧ Hid (Upd (fun _ => False) w wr)) (fun x9 _ => l.length - (intOf x9).toNat)
  case atStart => exact ⟨0, by omega, rfl, Lib.hid (fun t ht => by simp at ht), Lib.hid (Upd.refl _ _)⟩
  case round =>
    obtain ⟨k, hk, rfl, NK, U⟩ := hrel
    have HW := own_keep H.out U.out (fun _ _ h => h)
    by_cases hlt : k < l.length
    · have q1 : (k : Int) < (l.length : Int) := by omega
      obtain ⟨g, ep, hg, c0⟩ := txts_get HW hlt
      subst ep
      have BQ := beq_txt l[k] s
      rw [← SK.out] at BQ
      have HTK := Lib.hid (List.take_succ_eq_append_getElem hlt)
      by_cases e : l[k] = s
      · rw [decide_eq_true e] at BQ
        have AD : Hid (addT l s = l) := by unfold addT; rw [← e, if_pos (List.getElem_mem hlt)]; exact rfl
        have HW := Lib.hid HW
        clear e HTK
        generalize ofL l[k] = sm at *
        clear hlt
        generalize hnl : l.length = nl at *
        go_wp2
        go_ret
        exact ⟨_, rfl, by rw [AD.out, ← hnl] at *; exact HW.out, U.out⟩
      · rw [decide_eq_false e] at BQ
        have NK2 : Hid (∀ t ∈ l.take (k + 1), t ≠ s) := fun t ht => by
          rw [HTK.out] at ht
          rcases List.mem_append.1 ht with g | g
          · exact NK.out t g
          · rw [List.mem_singleton.1 g]; exact e
        clear e HTK HW
        generalize ofL l[k] = sm at *
        clear hlt
        generalize hnl : l.length = nl at *
        go_wp2
        go_roundw
        case rel => exact ⟨k + 1, by omega, by simp, NK2, U⟩
        case measure => simp [intOf]; omega
    · have q1 : ¬ (k : Int) < (l.length : Int) := by omega
      have AD : Hid (addT l s = l ++ [s]) := by
        have := NK.out
        rw [List.take_of_length_le (by omega)] at this
        unfold addT; rw [if_neg (fun hm => this s hm rfl)]; exact rfl
      obtain ⟨i0, hi0, hz0, hz1, hz2⟩ := rinfo_parts string_info
      have hwl := U.out.size
      have u1 : Upd (fun _ => False) wr (wr.alloc (.cells #[] 9)) := (Upd.refl _ _).alloc _
      have ME : (wr.alloc (.cells #[] 9)).ownsRow base 9 1 (.slice (some ⟨wr.heap.size, 0, none⟩) 0 0) 0 [] := World.ownsRow_made (e := 9) (size := 1) wr #[] 0 (by omega) (by unfold maxLen; omega) rfl
      obtain ⟨v3, w3, hr1, AM1, AU1, NO1⟩ := append_row (P := Try.prog) _ base base 22 22 9 i0 (.string ByteArray.empty) 16 Try.underlying22 hi0 hz0 hz1 hz2 rfl _ _ 0 l.length [] _ ME (own_keep HW u1 (fun _ _ h => h)) txts_one (by unfold maxLen; omega) (by omega) (by have := u1.size; omega)
      rw [List.nil_append, Nat.zero_add] at AM1
      obtain ⟨p3, c3, e3, _⟩ := own_slice AM1
      subst e3
      have U3 : Upd (fun _ => False) w w3 := (U.out.trans u1 (fun _ _ h => h)).trans AU1 (fun q hq e => by have e2 : wr.heap.size = q := Option.some.inj e; omega)
      have u4 : Upd (fun _ => False) w3 (w3.alloc (.cells #[.string sk] 9)) := (Upd.refl _ _).alloc _
      have MS : (w3.alloc (.cells #[.string sk] 9)).ownsRow 0 9 1 (.slice (some ⟨w3.heap.size, 0, none⟩) 1 1) 1 [.string sk] := own_of (cs := []) (Nat.zero_le _) (Blk.made w3 _ _) rfl rfl (by unfold maxLen; omega)
      obtain ⟨v4, w4, hr2, AM2, AU2, _⟩ := append_row (P := Try.prog) _ base 0 22 22 9 i0 (.string ByteArray.empty) 16 Try.underlying22 hi0 hz0 hz1 hz2 rfl _ _ l.length 1 _ [.string sk] (own_keep AM1 u4 (fun _ _ h => h)) MS (by intro u hu; simp at hu; subst hu; rfl) (by unfold maxLen; omega) (by omega) (by have := u4.size; have := U3.size; omega)
      have U4 : Hid (Upd (fun _ => False) w w4) := (U3.trans u4 (fun _ _ h => h)).trans AU2 (fun q hq e => by
        rcases NO1 q e with g | g
        · have e2 : wr.heap.size = q := Option.some.inj g; omega
        · have := u1.size; omega)
      have AMF : Hid (TxtsAt w4 base v4 (addT l s)) := by
        show TxtsAt _ _ _ _
        rw [AD.out]
        unfold TxtsAt
        rw [List.length_append, List.map_append]
        rw [SK.out] at AM2; exact AM2
      clear ME AM1 AU1 AM2 MS AU2 NO1 u1 u4 U3 HW
      generalize hnl : l.length = nl at *
      go_wp2_with (first
        | (at_builtin; refine wpList_builtin rfl _ _ 22 rfl _ _ rfl rfl hr1 ?_)
        | (at_builtin; refine wpList_builtin rfl _ _ 22 rfl _ _ rfl rfl hr2 ?_))
      go_ret
      exact ⟨_, rfl, AMF.out, U4.out⟩
/-- Which texts are told of marks. -/
def MemP (S : List MarkP) (t : Txt) : Prop := t = [] ∨ (∃ a ∈ S, a.1 = t) ∨ (∃ a ∈ S, ∃ b ∈ S, lcp a.1 b.1 = t)
theorem memP_snoc {S : List MarkP} {a : MarkP} {t : Txt} : MemP (S ++ [a]) t ↔ (MemP S t ∨ t = a.1) ∨ ∃ b ∈ S, lcp a.1 b.1 = t := by
  unfold MemP
  simp only [List.mem_append, List.mem_singleton]
  constructor
  · rintro (h | ⟨b, hb | hb, e⟩ | ⟨b, hb | hb, c, hc | hc, e⟩)
    · exact Or.inl (Or.inl (Or.inl h))
    · exact Or.inl (Or.inl (Or.inr (Or.inl ⟨b, hb, e⟩)))
    · subst hb; exact Or.inl (Or.inr e.symm)
    · exact Or.inl (Or.inl (Or.inr (Or.inr ⟨b, hb, c, hc, e⟩)))
    · subst hc; exact Or.inr ⟨b, hb, by rw [lcp_comm]; exact e⟩
    · subst hb; exact Or.inr ⟨c, hc, e⟩
    · subst hb; subst hc; rw [lcp_self] at e; exact Or.inl (Or.inr e.symm)
  · rintro ((( h | ⟨b, hb, e⟩ | ⟨b, hb, c, hc, e⟩) | h) | ⟨b, hb, e⟩)
    · exact Or.inl h
    · exact Or.inr (Or.inl ⟨b, Or.inl hb, e⟩)
    · exact Or.inr (Or.inr ⟨b, Or.inl hb, c, Or.inl hc, e⟩)
    · exact Or.inr (Or.inl ⟨a, Or.inr rfl, h.symm⟩)
    · exact Or.inr (Or.inr ⟨a, Or.inr rfl, b, Or.inl hb, e⟩)
end Go.Proofs.Ytnlbmplbaalgmaa
