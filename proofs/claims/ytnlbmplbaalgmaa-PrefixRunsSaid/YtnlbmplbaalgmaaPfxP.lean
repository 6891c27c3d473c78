/- Which clients are told of which beginnings, plain: the tree's marks, the rows, the clients' own. -/
import Derived.Test.YtnlbmplbaalgmaaWth
import Derived.Test.YtnlbmplbaalgmaaRadY
set_option linter.unusedVariables false
set_option linter.unusedSimpArgs false
set_option linter.unusedSectionVars false
namespace Go.Proofs.Ytnlbmplbaalgmaa
open Go.RowKit

/-- The tree's marks and the rows are as P says: who is told of which beginning. -/
structure RowsOk (P : Txt → Int → Prop) (N : Nat) (L : List MarkP) (ri : Int → Option (List Int)) (nx : Int) : Prop where
  rise : L.Pairwise fun a b => a.1 < b.1
  key : ∀ t id, P t id → ∃ n, (t, n) ∈ L
  row : ∀ t n, (t, n) ∈ L → ∃ l, ri n = some l ∧ Rising l ∧ l ≠ [] ∧ l.length ≤ N ∧ ∀ id, id ∈ l ↔ P t id
  inj : ∀ t t' n, (t, n) ∈ L → (t', n) ∈ L → t = t'
  rev : ∀ n l, ri n = some l → ∃ t, (t, n) ∈ L
  num : ∀ t n, (t, n) ∈ L → 0 ≤ n ∧ n < nx
  nx : 0 ≤ nx ∧ nx ≤ N
  len : L.length ≤ N
  long : ∀ t n, (t, n) ∈ L → t.length ≤ 9223372036854775807
/-- The clients' own beginnings are as P says. -/
structure OfOk (P : Txt → Int → Prop) (N : Nat) (qi : Int → Option (List Txt)) : Prop where
  of : ∀ id l, qi id = some l → Rising l ∧ l.length ≤ N ∧ ∀ t, t ∈ l ↔ P t id
  no : ∀ id, qi id = none → ∀ t, ¬ P t id
section
variable {P Q : Txt → Int → Prop} {N : Nat} {L : List MarkP} {ri : Int → Option (List Int)} {nx : Int} {qi : Int → Option (List Txt)}
theorem RowsOk.congr (h : RowsOk P N L ri nx) (e : ∀ t id, P t id ↔ Q t id) : RowsOk Q N L ri nx := by
  have : P = Q := funext fun t => funext fun id => propext (e t id)
  subst this; exact h
theorem OfOk.congr (h : OfOk P N qi) (e : ∀ t id, P t id ↔ Q t id) : OfOk Q N qi := by
  have : P = Q := funext fun t => funext fun id => propext (e t id)
  subst this; exact h
theorem RowsOk.more (h : RowsOk P N L ri nx) {M : Nat} (hm : N ≤ M) : RowsOk P M L ri nx :=
  { h with row := fun t n hl => by obtain ⟨l, a, b, c, d, e⟩ := h.row t n hl; exact ⟨l, a, b, c, Nat.le_trans d hm, e⟩
           nx := ⟨h.nx.1, by have := h.nx.2; omega⟩, len := Nat.le_trans h.len hm }
theorem OfOk.more (h : OfOk P N qi) {M : Nat} (hm : N ≤ M) : OfOk P M qi :=
  { h with of := fun id l hl => by obtain ⟨a, b, c⟩ := h.of id l hl; exact ⟨a, Nat.le_trans b hm, c⟩ }
theorem OfOk.at_ (h : OfOk P N qi) (id : Int) : Rising ((qi id).getD []) ∧ ((qi id).getD []).length ≤ N ∧ ∀ t, t ∈ (qi id).getD [] ↔ P t id := by
  cases e : qi id with
  | none => exact ⟨List.Pairwise.nil, Nat.zero_le _, fun t => ⟨fun h => by simp at h, fun hp => absurd hp (h.no id e t)⟩⟩
  | some l => exact h.of id l e
theorem RowsOk.there (h : RowsOk P N L ri nx) {t : Txt} (ht : (getL L t).2 = true) : (t, (getL L t).1) ∈ L := by
  obtain ⟨n, hn⟩ := (getL_iff h.rise t).1 ht
  rw [getL_some h.rise hn]; exact hn
/-- A beginning that nobody was told of. -/
theorem RowsOk.fresh (h : RowsOk P N L ri nx) {s : Txt} {id : Int} (hs : ¬ (getL L s).2 = true) (hl : s.length ≤ 9223372036854775807) :
    RowsOk (fun t i => P t i ∨ t = s ∧ i = id) (N + 1) (putM s nx L) (upd ri nx (some [id])) (nx + 1) := by
  have hno : ∀ n, (s, n) ∉ L := fun n hn => hs ((getL_iff h.rise s).2 ⟨n, hn⟩)
  have hP : ∀ i, ¬ P s i := fun i hp => by obtain ⟨n, hn⟩ := h.key s i hp; exact hno n hn
  have hlen := putM_len h.rise s nx
  rw [if_neg hs] at hlen
  refine ⟨putM_rise h.rise, fun t i hp => ?_, fun t n hn => ?_, fun t t' n hn hn' => ?_, fun n l hr => ?_, fun t n hn => ?_, ⟨by have := h.nx.1; omega, by have := h.nx.2; omega⟩, by have := h.len; omega, fun t n hn => ?_⟩
  · rcases hp with hp | ⟨rfl, rfl⟩
    · obtain ⟨n, hn⟩ := h.key t i hp
      exact ⟨n, putM_mem.2 (Or.inr ⟨hn, fun e => by simp at e; rw [e] at hn; exact hno n hn⟩)⟩
    · exact ⟨nx, putM_mem.2 (Or.inl rfl)⟩
  · rcases putM_mem.1 hn with e | ⟨hn, hne⟩
    · injection e with e1 e2; subst e1 e2
      refine ⟨[id], upd_at _ _ _, List.pairwise_singleton _ _, by simp, by simp, fun i => ?_⟩
      simp only [List.mem_singleton, true_and]
      exact ⟨fun e => Or.inr e, fun e => e.elim (fun hp => absurd hp (hP i)) (fun e => e)⟩
    · obtain ⟨l, a, b, c, d, e⟩ := h.row t n hn
      refine ⟨l, by rw [upd_ne _ _ (fun e => by have := (h.num t n hn).2; omega)]; exact a, b, c, by omega, fun i => ?_⟩
      rw [e]; exact ⟨Or.inl, fun g => g.elim (fun g => g) (fun g => absurd g.1 hne)⟩
  · rcases putM_mem.1 hn with e | ⟨hn, hne⟩ <;> rcases putM_mem.1 hn' with e' | ⟨hn', hne'⟩
    · injection e with e1 e2; injection e' with e1' e2'; rw [e1, e1']
    · injection e with e1 e2; have := (h.num t' n hn').2; omega
    · injection e' with e1 e2; have := (h.num t n hn).2; omega
    · exact h.inj t t' n hn hn'
  · by_cases e : n = nx
    · subst e; exact ⟨s, putM_mem.2 (Or.inl rfl)⟩
    · rw [upd_ne _ _ e] at hr
      obtain ⟨t, ht⟩ := h.rev n l hr
      exact ⟨t, putM_mem.2 (Or.inr ⟨ht, fun e => by simp at e; rw [e] at ht; exact hno n ht⟩)⟩
  · rcases putM_mem.1 hn with e | ⟨hn, hne⟩
    · injection e with e1 e2; have := h.nx.1; omega
    · have := h.num t n hn; omega
  · rcases putM_mem.1 hn with e | ⟨hn, hne⟩
    · injection e with e1 e2; rw [e1]; exact hl
    · exact h.long t n hn
/-- A beginning that somebody was told of: one more. -/
theorem RowsOk.also (h : RowsOk P N L ri nx) {s : Txt} {id n : Int} {l : List Int} (hn : (s, n) ∈ L) (hl : ri n = some l) :
    RowsOk (fun t i => P t i ∨ t = s ∧ i = id) (N + 1) L (upd ri n (some (wth l id))) nx := by
  obtain ⟨l', a, b, c, d, e⟩ := h.row s n hn
  rw [hl] at a; injection a with a; subst a
  refine ⟨h.rise, fun t i hp => ?_, fun t m hm => ?_, h.inj, fun m l' hr => ?_, h.num, ⟨h.nx.1, by have := h.nx.2; omega⟩, by have := h.len; omega, h.long⟩
  · rcases hp with hp | ⟨rfl, rfl⟩
    · exact h.key t i hp
    · exact ⟨n, hn⟩
  · by_cases em : m = n
    · subst em
      obtain rfl : t = s := h.inj t s m hm hn
      refine ⟨_, upd_at _ _ _, wth_rising b id, fun e0 => ?_, by have := wth_len l id; omega, fun i => ?_⟩
      · have : id ∈ wth l id := wth_mem.2 (Or.inl rfl)
        rw [e0] at this; simp at this
      · rw [wth_mem, e]; simp only [true_and]; exact Or.comm
    · obtain ⟨l2, a, b2, c2, d2, e2⟩ := h.row t m hm
      refine ⟨l2, by rw [upd_ne _ _ em]; exact a, b2, c2, by omega, fun i => ?_⟩
      rw [e2]; exact ⟨Or.inl, fun g => g.elim (fun g => g) (fun g => by
        exfalso; obtain ⟨rfl, _⟩ := g
        have := rise_key h.rise hm hn rfl
        injection this with _ this; exact em this)⟩
  · by_cases e : m = n
    · subst e; exact ⟨s, hn⟩
    · rw [upd_ne _ _ e] at hr; exact h.rev m l' hr
theorem OfOk.also (h : OfOk P N qi) (s : Txt) (id : Int) : OfOk (fun t i => P t i ∨ t = s ∧ i = id) (N + 1) (upd qi id (some (wth ((qi id).getD []) s))) := by
  obtain ⟨a, b, c⟩ := h.at_ id
  refine ⟨fun i l hi => ?_, fun i hi t => ?_⟩
  · by_cases e : i = id
    · subst e
      rw [upd_at] at hi; injection hi with hi; subst hi
      refine ⟨wth_rising a s, by have := wth_len ((qi i).getD []) s; omega, fun t => ?_⟩
      rw [wth_mem, c]; simp only [and_true]; exact Or.comm
    · rw [upd_ne _ _ e] at hi
      obtain ⟨a2, b2, c2⟩ := h.of i l hi
      exact ⟨a2, by omega, fun t => by rw [c2]; exact ⟨Or.inl, fun g => g.elim (fun g => g) (fun g => absurd g.2 e)⟩⟩
  · by_cases e : i = id
    · subst e; rw [upd_at] at hi; cases hi
    · rw [upd_ne _ _ e] at hi
      rintro (g | g)
      · exact h.no i hi t g
      · exact e g.2
/-- A client is told of one beginning no more: others are. -/
theorem RowsOk.less (h : RowsOk P N L ri nx) {s : Txt} {id n : Int} {l : List Int} (hn : (s, n) ∈ L) (hl : ri n = some l) (hne : l.filter (· ≠ id) ≠ []) :
    RowsOk (fun t i => P t i ∧ ¬ (t = s ∧ i = id)) N L (upd ri n (some (l.filter (· ≠ id)))) nx := by
  obtain ⟨l', a, b, c, d, e⟩ := h.row s n hn
  rw [hl] at a; injection a with a; subst a
  refine ⟨h.rise, fun t i hp => h.key t i hp.1, fun t m hm => ?_, h.inj, fun m l' hr => ?_, h.num, h.nx, h.len, h.long⟩
  · by_cases em : m = n
    · subst em
      obtain rfl : t = s := h.inj t s m hm hn
      refine ⟨_, upd_at _ _ _, b.filter _, hne, Nat.le_trans (List.length_filter_le _ _) d, fun i => ?_⟩
      rw [List.mem_filter, e]; simp
    · obtain ⟨l2, a, b2, c2, d2, e2⟩ := h.row t m hm
      refine ⟨l2, by rw [upd_ne _ _ em]; exact a, b2, c2, d2, fun i => ?_⟩
      rw [e2]; exact ⟨fun g => ⟨g, fun g => by
        obtain ⟨rfl, _⟩ := g
        have := rise_key h.rise hm hn rfl
        injection this with _ this; exact em this⟩, fun g => g.1⟩
  · by_cases e : m = n
    · subst e; exact ⟨s, hn⟩
    · rw [upd_ne _ _ e] at hr; exact h.rev m l' hr
/-- It was the last one. -/
theorem RowsOk.last (h : RowsOk P N L ri nx) {s : Txt} {id n : Int} {l : List Int} (hn : (s, n) ∈ L) (hl : ri n = some l) (hne : l.filter (· ≠ id) = []) :
    RowsOk (fun t i => P t i ∧ ¬ (t = s ∧ i = id)) N (cutM s L) (upd (upd ri n (some (l.filter (· ≠ id)))) n none) nx := by
  obtain ⟨l', a, b, c, d, e⟩ := h.row s n hn
  rw [hl] at a; injection a with a; subst a
  have hid : ∀ i, P s i → i = id := fun i hp => Decidable.not_not.1 fun hi => by
    have : i ∈ l.filter (· ≠ id) := List.mem_filter.2 ⟨(e i).2 hp, by simpa using hi⟩
    rw [hne] at this; simp at this
  have hnn : ∀ t m, (t, m) ∈ L → t ≠ s → m ≠ n := fun t m hm ht em => ht (h.inj t s n (em ▸ hm) hn)
  refine ⟨h.rise.filter _, fun t i hp => ?_, fun t m hm => ?_, fun t t' m hm hm' => h.inj t t' m (cutM_mem.1 hm).1 (cutM_mem.1 hm').1, fun m l' hr => ?_, fun t m hm => h.num t m (cutM_mem.1 hm).1, h.nx, Nat.le_trans (List.length_filter_le _ _) h.len, fun t m hm => h.long t m (cutM_mem.1 hm).1⟩
  · obtain ⟨m, hm⟩ := h.key t i hp.1
    exact ⟨m, cutM_mem.2 ⟨hm, fun et => by simp only at et; subst et; exact hp.2 ⟨rfl, hid i hp.1⟩⟩⟩
  · obtain ⟨hm, hts⟩ := cutM_mem.1 hm
    obtain ⟨l2, a, b2, c2, d2, e2⟩ := h.row t m hm
    have em := hnn t m hm hts
    refine ⟨l2, by rw [upd_ne _ _ em, upd_ne _ _ em]; exact a, b2, c2, d2, fun i => ?_⟩
    rw [e2]; exact ⟨fun g => ⟨g, fun g => hts g.1⟩, fun g => g.1⟩
  · by_cases emn : m = n
    · subst emn; rw [upd_at] at hr; cases hr
    · rw [upd_ne _ _ emn, upd_ne _ _ emn] at hr
      obtain ⟨t, ht⟩ := h.rev m l' hr
      exact ⟨t, cutM_mem.2 ⟨ht, fun et => by
        simp only at et; subst et
        have := rise_key h.rise ht hn rfl
        injection this with _ this; exact emn this⟩⟩
theorem OfOk.gone (h : OfOk P N qi) (id : Int) : OfOk (fun t i => P t i ∧ i ≠ id) N (upd qi id none) := by
  refine ⟨fun i l hi => ?_, fun i hi t g => ?_⟩
  · by_cases e : i = id
    · subst e; rw [upd_at] at hi; cases hi
    · rw [upd_ne _ _ e] at hi
      obtain ⟨a2, b2, c2⟩ := h.of i l hi
      exact ⟨a2, b2, fun t => by rw [c2]; exact ⟨fun g => ⟨g, e⟩, fun g => g.1⟩⟩
  · by_cases e : i = id
    · exact g.2 e
    · rw [upd_ne _ _ e] at hi; exact h.no i hi t g.1
end
end Go.Proofs.Ytnlbmplbaalgmaa
