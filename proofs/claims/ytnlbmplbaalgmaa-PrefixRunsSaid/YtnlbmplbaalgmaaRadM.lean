/- Keys that share their beginnings: what the operations do to the nodes in memory. -/
import Derived.Test.YtnlbmplbaalgmaaRadK
import Derived.Test.YtnlbmplbaalgmaaRadL
set_option linter.unusedVariables false
set_option linter.unusedSimpArgs false
namespace Go.Proofs.Ytnlbmplbaalgmaa
open Go.RowKit
def tailC (xa b : Nat) (many : Int) : List Value := if b = xa then [.int .i64 many] else []
def tyC (xa b : Nat) : TypeId := if b = xa then 79 else 77
section
variable {w w' : World} {base xa x y d up : Nat} {bs : List Nat} {G : Nat → Nd} {T : Nat → Txt} {row : Nat → Value} {many many' : Int} {K1 K2 : List Nat} {p p1 p2 : Txt} {v' : Value}
theorem RadR.node (h : RadR w base xa bs G T row many) {b : Nat} (hb : b ∈ bs) : Blk w b (ndc (G b) (row b) ++ tailC xa b many) (tyC xa b) := by
  unfold tailC tyC
  by_cases e : b = xa
  · subst e; rw [if_pos rfl, if_pos rfl]; exact h.x
  · rw [if_neg e, if_neg e, List.append_nil]; exact h.at_ b hb e
theorem RadR.of {bs : List Nat} {G : Nat → Nd} {T : Nat → Txt} (hf : Flat xa bs G T) (hn : ∀ b ∈ bs, Blk w b (ndc (G b) (row b) ++ tailC xa b many) (tyC xa b)) (ho : ∀ b ∈ bs, NodesAt w base (row b) (G b).kids)
    (ha : ∀ b ∈ bs, ∀ c ∈ bs, b ≠ c → ∀ k, (row b).ownBlock = some k → (row c).ownBlock ≠ some k) (hl : ∀ b ∈ bs, base ≤ b) (hs : ∀ b ∈ bs, (T b).length ≤ maxLen) : RadR w base xa bs G T row many := by
  refine ⟨hf, ?_, fun b hb e => ?_, ho, ha, hl, hs⟩
  · have := hn xa hf.root; unfold tailC tyC at this; rw [if_pos rfl, if_pos rfl] at this; exact this
  · have := hn b hb; unfold tailC tyC at this; rw [if_neg e, if_neg e, List.append_nil] at this; exact this
theorem tyC_ne (xa b : Nat) : tyC xa b ≠ 80 := by unfold tyC; split <;> decide
theorem NodesAt.ne_node {b k : Nat} {cs : List Value} {l : List Nat} {v : Value} (h : NodesAt w base v l) (hB : Blk w b cs (tyC xa d)) (hk : v.ownBlock = some k) : k ≠ b := by
  rintro rfl
  obtain ⟨_, _, cs', hB'⟩ := own_lt h hk
  exact tyC_ne xa d (hB.ty hB')
/-- A node more. -/
theorem RadR.leaf (h : RadR w base xa bs G T row many) (hf : Flat xa (d :: bs) (leafG G x d p K1 K2) (setT T d (T x ++ p))) (hx : x ∈ bs) (hd : w.heap.size ≤ d) (hbd : base ≤ d) (u : Upd (fun k => k = x ∨ (row x).ownBlock = some k) w w')
    (hX : Blk w' x (ndc { G x with kids := K1 ++ d :: K2 } v' ++ tailC xa x many) (tyC xa x)) (hD : Blk w' d (ndc ⟨p, false, 0, []⟩ (.slice none 0 0)) 77) (ho : NodesAt w' base v' (K1 ++ d :: K2)) (hn : NewOr (row x) v' w) (hs : (T x ++ p).length ≤ maxLen) :
    RadR w' base xa (d :: bs) (leafG G x d p K1 K2) (setT T d (T x ++ p)) (fun b => if b = d then .slice none 0 0 else if b = x then v' else row b) many := by
  have ne : ∀ b ∈ bs, b ≠ d := fun b hb e => by have := h.lt hb; omega
  have dx : d ≠ xa := fun e => ne xa h.flat.root e.symm
  refine RadR.of hf ?_ ?_ ?_ ?_ ?_
  · intro b hb
    rcases List.mem_cons.1 hb with e | hb
    · rw [e, if_pos rfl]
      unfold leafG tailC tyC; rw [if_pos rfl, if_neg dx, if_neg dx, List.append_nil]; exact hD
    · rw [if_neg (ne b hb)]
      unfold leafG; rw [if_neg (ne b hb)]
      by_cases e : b = x
      · subst e; rw [if_pos rfl, if_pos rfl]; exact hX
      · rw [if_neg e, if_neg e]
        exact u.blk (h.node hb) (fun g => g.elim e (fun g => h.row_ne hb hx g rfl))
  · intro b hb
    rcases List.mem_cons.1 hb with e | hb
    · rw [e, if_pos rfl]; unfold leafG; rw [if_pos rfl]; exact ⟨rfl, Or.inl ⟨rfl, rfl⟩⟩
    · rw [if_neg (ne b hb)]
      unfold leafG; rw [if_neg (ne b hb)]
      by_cases e : b = x
      · subst e; rw [if_pos rfl, if_pos rfl]; exact ho
      · rw [if_neg e, if_neg e]
        exact own_keep (h.own b hb) u (fun k hk g => g.elim (h.row_ne hx hb hk) (fun g => h.apart b hb x hx e k hk g))
  · intro b hb c hc ne' k hk hk2
    have far : ∀ b ∈ bs, b ≠ x → ∀ k, v'.ownBlock = some k → (row b).ownBlock = some k → False := fun b hb e k h1 h2 => by
      rcases hn k h1 with g | g
      · exact h.apart b hb x hx e k h2 g
      · have := (own_lt (h.own b hb) h2).1; omega
    rcases List.mem_cons.1 hb with e | hb
    · rw [e, if_pos rfl] at hk; cases hk
    · rcases List.mem_cons.1 hc with e | hc
      · rw [e, if_pos rfl] at hk2; cases hk2
      · rw [if_neg (ne b hb)] at hk
        rw [if_neg (ne c hc)] at hk2
        by_cases e1 : b = x <;> by_cases e2 : c = x
        · exact ne' (e1.trans e2.symm)
        · rw [if_pos e1] at hk; rw [if_neg e2] at hk2; exact far c hc e2 k hk hk2
        · rw [if_neg e1] at hk; rw [if_pos e2] at hk2; exact far b hb e1 k hk2 hk
        · rw [if_neg e1] at hk; rw [if_neg e2] at hk2; exact h.apart b hb c hc ne' k hk hk2
  · intro b hb
    rcases List.mem_cons.1 hb with e | hb
    · rw [e]; exact hbd
    · exact h.lo b hb
  · intro b hb
    unfold setT
    rcases List.mem_cons.1 hb with e | hb
    · rw [if_pos e]; exact hs
    · rw [if_neg (ne b hb)]; exact h.small b hb
/-- A node parted in two. -/
theorem RadR.split (h : RadR w base xa bs G T row many) (hf : Flat xa (d :: bs) (partG G x d y p1 p2 K1 K2) (setT T d (T x ++ p1))) (hx : x ∈ bs) (hy : y ∈ (G x).kids) (hd : w.heap.size ≤ d) (hbd : base ≤ d) (u : Upd (fun k => k = y ∨ (row x).ownBlock = some k) w w')
    (hY : Blk w' y (ndc { G y with part := p2 } (row y)) 77) (hD : Blk w' d (ndc ⟨p1, false, 0, [y]⟩ v') 77) (hv : NodesAt w' base v' [y]) (hn : ∀ k, v'.ownBlock = some k → w.heap.size ≤ k)
    (ho : NodesAt w' base (row x) (K1 ++ d :: K2)) (hs : (T x ++ p1).length ≤ maxLen) :
    RadR w' base xa (d :: bs) (partG G x d y p1 p2 K1 K2) (setT T d (T x ++ p1)) (fun b => if b = d then v' else row b) many := by
  have ne : ∀ b ∈ bs, b ≠ d := fun b hb e => by have := h.lt hb; omega
  have dx : d ≠ xa := fun e => ne xa h.flat.root e.symm
  obtain ⟨ym, yn, _⟩ := h.flat.kid x hx y hy
  have yx : y ≠ x := by rintro rfl; exact absurd (h.flat.kid_len hx hy) (Nat.lt_irrefl _)
  have yr := h.flat.not_root hx hy
  refine RadR.of hf ?_ ?_ ?_ ?_ ?_
  · intro b hb
    rcases List.mem_cons.1 hb with e | hb
    · rw [e, if_pos rfl]
      unfold partG tailC tyC; rw [if_pos rfl, if_neg dx, if_neg dx, List.append_nil]; exact hD
    · rw [if_neg (ne b hb)]
      unfold partG; rw [if_neg (ne b hb)]
      by_cases e : b = y
      · subst e
        unfold tailC tyC; rw [if_pos rfl, if_neg yr, if_neg yr, List.append_nil]; exact hY
      · have hB := u.blk (h.node hb) (fun g => g.elim e (fun g => h.row_ne hb hx g rfl))
        rw [if_neg e]
        by_cases e2 : b = x
        · subst e2; rw [if_pos rfl]; exact hB
        · rw [if_neg e2]; exact hB
  · intro b hb
    rcases List.mem_cons.1 hb with e | hb
    · rw [e, if_pos rfl]; unfold partG; rw [if_pos rfl]; exact hv
    · rw [if_neg (ne b hb)]
      unfold partG; rw [if_neg (ne b hb)]
      by_cases e2 : b = x
      · subst e2
        rw [if_neg (Ne.symm yx), if_pos rfl]; exact ho
      · have := own_keep (h.own b hb) u (fun k hk g => g.elim (h.row_ne ym hb hk) (fun g => h.apart b hb x hx e2 k hk g))
        by_cases e : b = y
        · subst e; rw [if_pos rfl]; exact this
        · rw [if_neg e, if_neg e2]; exact this
  · intro b hb c hc ne' k hk hk2
    rcases List.mem_cons.1 hb with e | hb
    · rw [e, if_pos rfl] at hk
      rcases List.mem_cons.1 hc with e2 | hc
      · exact ne' (e.trans e2.symm)
      · rw [if_neg (ne c hc)] at hk2
        have := hn k hk; have := (own_lt (h.own c hc) hk2).1; omega
    · rw [if_neg (ne b hb)] at hk
      rcases List.mem_cons.1 hc with e2 | hc
      · rw [e2, if_pos rfl] at hk2
        have := hn k hk2; have := (own_lt (h.own b hb) hk).1; omega
      · rw [if_neg (ne c hc)] at hk2; exact h.apart b hb c hc ne' k hk hk2
  · intro b hb
    rcases List.mem_cons.1 hb with e | hb
    · rw [e]; exact hbd
    · exact h.lo b hb
  · intro b hb
    unfold setT
    rcases List.mem_cons.1 hb with e | hb
    · rw [if_pos e]; exact hs
    · rw [if_neg (ne b hb)]; exact h.small b hb
/-- A node's mark, and how many. -/
theorem RadR.mark (h : RadR w base xa bs G T row many) {t : Bool} {n : Int} (u : Upd (fun k => k = x ∨ k = xa) w w')
    (hx : x ∈ bs) (hX : ∀ b, b = x ∨ b = xa → Blk w' b (ndc (markG G x t n b) (row b) ++ tailC xa b many') (tyC xa b)) : RadR w' base xa bs (markG G x t n) T row many' := by
  have gk : ∀ z, (markG G x t n z).kids = (G z).kids := fun z => by unfold markG; split <;> first | rfl | (rename_i e; subst e; rfl)
  refine RadR.of (h.flat.mark x t n) ?_ ?_ h.apart h.lo h.small
  · intro b hb
    by_cases e : b = x ∨ b = xa
    · exact hX b e
    · have e1 : b ≠ x := fun g => e (Or.inl g)
      have e2 : b ≠ xa := fun g => e (Or.inr g)
      have := u.blk (h.node hb) e
      unfold markG; rw [if_neg e1]
      unfold tailC at *; rw [if_neg e2] at *; exact this
  · intro b hb
    rw [gk]
    exact own_keep (h.own b hb) u (fun k hk g => g.elim (h.row_ne hx hb hk) (h.row_ne h.flat.root hb hk))
/-- A node less. -/
theorem RadR.less (h : RadR w base xa bs G T row many) (hf : Flat xa (bs.erase x) (lessG G up (K1 ++ K2)) T) (hup : up ∈ bs) (ux : up ≠ x) (u : Upd (fun k => k = up ∨ (row up).ownBlock = some k) w w')
    (hU : Blk w' up (ndc { G up with kids := K1 ++ K2 } v' ++ tailC xa up many) (tyC xa up)) (ho : NodesAt w' base v' (K1 ++ K2)) (hn : NewOr (row up) v' w) :
    RadR w' base xa (bs.erase x) (lessG G up (K1 ++ K2)) T (fun b => if b = up then v' else row b) many := by
  have me : ∀ b ∈ bs.erase x, b ∈ bs := fun b hb => (h.flat.nodup.mem_erase_iff.1 hb).2
  refine RadR.of hf ?_ ?_ ?_ (fun b hb => h.lo b (me b hb)) (fun b hb => h.small b (me b hb))
  · intro b hb
    unfold lessG
    by_cases e : b = up
    · subst e; rw [if_pos rfl, if_pos rfl]; exact hU
    · rw [if_neg e, if_neg e]
      exact u.blk (h.node (me b hb)) (fun g => g.elim e (fun g => h.row_ne (me b hb) hup g rfl))
  · intro b hb
    unfold lessG
    by_cases e : b = up
    · subst e; rw [if_pos rfl, if_pos rfl]; exact ho
    · rw [if_neg e, if_neg e]
      exact own_keep (h.own b (me b hb)) u (fun k hk g => g.elim (h.row_ne hup (me b hb) hk) (fun g => h.apart b (me b hb) up hup e k hk g))
  · intro b hb c hc ne' k hk hk2
    have far : ∀ b ∈ bs, b ≠ up → ∀ k, v'.ownBlock = some k → (row b).ownBlock = some k → False := fun b hb e k h1 h2 => by
      rcases hn k h1 with g | g
      · exact h.apart b hb up hup e k h2 g
      · have := (own_lt (h.own b hb) h2).1; omega
    by_cases e1 : b = up <;> by_cases e2 : c = up
    · exact ne' (e1.trans e2.symm)
    · rw [if_pos e1] at hk; rw [if_neg e2] at hk2; exact far c (me c hc) e2 k hk hk2
    · rw [if_neg e1] at hk; rw [if_pos e2] at hk2; exact far b (me b hb) e1 k hk2 hk
    · rw [if_neg e1] at hk; rw [if_neg e2] at hk2; exact h.apart b (me b hb) c (me c hc) ne' k hk hk2
/-- A node becomes one with the one below it. -/
theorem RadR.join (h : RadR w base xa bs G T row many) (hf : Flat xa (bs.erase x) (joinG G up y p (K1 ++ y :: K2)) T) (hup : up ∈ bs) (hy : y ∈ bs) (yu : y ≠ up) (yr : y ≠ xa) (u : Upd (fun k => k = y ∨ (row up).ownBlock = some k) w w')
    (hY : Blk w' y (ndc { G y with part := p } (row y)) 77) (ho : NodesAt w' base (row up) (K1 ++ y :: K2)) :
    RadR w' base xa (bs.erase x) (joinG G up y p (K1 ++ y :: K2)) T row many := by
  have me : ∀ b ∈ bs.erase x, b ∈ bs := fun b hb => (h.flat.nodup.mem_erase_iff.1 hb).2
  refine RadR.of hf ?_ ?_ (fun b hb c hc => h.apart b (me b hb) c (me c hc)) (fun b hb => h.lo b (me b hb)) (fun b hb => h.small b (me b hb))
  · intro b hb
    unfold joinG
    by_cases e : b = y
    · subst e
      unfold tailC tyC; rw [if_pos rfl, if_neg yr, if_neg yr, List.append_nil]; exact hY
    · rw [if_neg e]
      have := u.blk (h.node (me b hb)) (fun g => g.elim e (fun g => h.row_ne (me b hb) hup g rfl))
      by_cases e2 : b = up
      · subst e2; rw [if_pos rfl]; exact this
      · rw [if_neg e2]; exact this
  · intro b hb
    unfold joinG
    by_cases e2 : b = up
    · subst e2; rw [if_neg (Ne.symm yu), if_pos rfl]; exact ho
    · have := own_keep (h.own b (me b hb)) u (fun k hk g => g.elim (h.row_ne hy (me b hb) hk) (fun g => h.apart b (me b hb) up hup e2 k hk g))
      by_cases e : b = y
      · subst e; rw [if_pos rfl]; exact this
      · rw [if_neg e, if_neg e2]; exact this
end
end Go.Proofs.Ytnlbmplbaalgmaa
