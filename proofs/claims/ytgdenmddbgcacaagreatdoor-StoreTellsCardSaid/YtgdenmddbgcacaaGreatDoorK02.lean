/- Plain: numbers as text, and back. No program in sight. -/
import Derived.Lib.ParseIntB
import Derived.Lib.ItoaMem
import GoSem.Op.String
import Derived.Test.YtgdenmddbgcacaaGreatDoorK01
import Derived.Test.YtgdenmddbgcacaaGreatDoorRows
set_option linter.unusedVariables false
set_option linter.unusedSimpArgs false
namespace Whole
open Go.Lib

def isD (c : UInt8) : Prop := 48 ≤ c.toNat ∧ c.toNat ≤ 57
instance : DecidablePred isD := fun c => by unfold isD; exact inferInstance
def val (acc : Nat) (l : List UInt8) : Nat := l.foldl (fun a c => a * 10 + (c.toNat - 48)) acc
theorem val_cons (acc : Nat) (c : UInt8) (l : List UInt8) : val acc (c :: l) = val (acc * 10 + (c.toNat - 48)) l := by unfold val; rw [List.foldl_cons]
theorem val_snoc (acc : Nat) (l : List UInt8) (c : UInt8) : val acc (l ++ [c]) = val acc l * 10 + (c.toNat - 48) := by unfold val; simp
theorem val_ge (l : List UInt8) : ∀ acc, acc ≤ val acc l := by
  induction l with
  | nil => intro acc; exact Nat.le_refl _
  | cons c r ih => intro acc; rw [val_cons]; have := ih (acc * 10 + (c.toNat - 48)); omega

theorem parse_ok (M : Nat) (hM : M < 18446744073709551616) : ∀ (l : List UInt8) (acc : Nat), (∀ c ∈ l, isD c) → val acc l ≤ M → parseUintM M acc l = .ok (val acc l)
  | [], acc, _, _ => rfl
  | c :: r, acc, h, hv => by
    have hc := h c (by simp)
    rw [val_cons] at hv ⊢
    have hg := val_ge r (acc * 10 + (c.toNat - 48))
    rw [parseUintM, if_pos (show 48 ≤ c.toNat ∧ c.toNat ≤ 57 from hc), if_neg (by omega), if_neg (by omega)]
    exact parse_ok M hM r _ (fun x hx => h x (by simp [hx])) hv
theorem parse_range {l : List UInt8} {v : Int} (h : parseIntB 64 l = .ok v) : -9223372036854775808 ≤ v ∧ v ≤ 9223372036854775807 := by
  unfold parseIntB at h
  cases l with
  | nil => simp at h
  | cons c r =>
    simp only at h
    split at h
    · cases h
    · cases h
    · next u hu =>
      split at h
      · cases h
      · split at h
        · cases h
        · next h1 h2 =>
          injection h with h
          subst h
          by_cases hn : c.toNat = 45
          · simp [hn] at h2 ⊢; omega
          · simp [hn] at h1 ⊢; omega

theorem dec_isD (u : Nat) : ∀ c ∈ decDigits u, isD c := by
  induction u using Nat.strongRecOn with
  | _ u ih =>
    intro c hc
    rw [decDigits] at hc
    split at hc
    · next h =>
      simp only [List.mem_singleton] at hc
      subst hc
      unfold isD
      rw [UInt8.toNat_ofNat']; omega
    · next h =>
      rw [List.mem_append] at hc
      rcases hc with hc | hc
      · exact ih (u / 10) (by omega) c hc
      · simp only [List.mem_singleton] at hc
        subst hc
        unfold isD
        rw [UInt8.toNat_ofNat']; omega
theorem dec_val (u : Nat) : val 0 (decDigits u) = u := by
  induction u using Nat.strongRecOn with
  | _ u ih =>
    rw [decDigits]
    split
    · next h =>
      show 0 * 10 + ((UInt8.ofNat (48 + u)).toNat - 48) = u
      rw [UInt8.toNat_ofNat']; omega
    · next h =>
      rw [val_snoc, ih (u / 10) (by omega), UInt8.toNat_ofNat']; omega
theorem dec_ne (u : Nat) : decDigits u ≠ [] := by
  rw [decDigits]
  split
  · simp
  · simp
theorem head_app {l k : List UInt8} (h : l ≠ []) : (l ++ k).head? = l.head? := by
  cases l with
  | nil => exact absurd rfl h
  | cons c r => rfl
theorem dec_head (u : Nat) (h : u ≠ 0) : (decDigits u).head? ≠ some 48 := by
  induction u using Nat.strongRecOn with
  | _ u ih =>
    rw [decDigits]
    split
    · next hl =>
      simp only [List.head?_cons, ne_eq, Option.some.injEq]
      intro e
      have := congrArg UInt8.toNat e
      rw [UInt8.toNat_ofNat'] at this
      simp at this; omega
    · next hl =>
      have := ih (u / 10) (by omega) (by omega)
      rw [head_app (dec_ne _)]
      exact this
theorem dec_len (u k : Nat) (hk : 1 ≤ k) (h : u < 10 ^ k) : (decDigits u).length ≤ k := by
  induction k generalizing u with
  | zero => omega
  | succ k ih =>
    rw [decDigits]
    split
    · simp
    · next hl =>
      have h10 : 10 ^ (k + 1) = 10 * 10 ^ k := by rw [Nat.pow_succ, Nat.mul_comm]
      have hk1 : 1 ≤ k := by
        cases k with
        | zero => simp at h; omega
        | succ k => omega
      have := ih (u / 10) hk1 (by omega)
      simp only [List.length_append, List.length_cons, List.length_nil]; omega
theorem toNat_back {c : UInt8} (h : isD c) : UInt8.ofNat (48 + (c.toNat - 48)) = c := by
  have e : 48 + (c.toNat - 48) = c.toNat := by unfold isD at h; omega
  rw [e]; simp
theorem val_pos {l : List UInt8} (hd : ∀ c ∈ l, isD c) (hn : l ≠ []) (hh : l.head? ≠ some 48) : 1 ≤ val 0 l := by
  cases l with
  | nil => exact absurd rfl hn
  | cons c r =>
    rw [val_cons]
    have hc := hd c (by simp)
    have := val_ge r (0 * 10 + (c.toNat - 48))
    have : c.toNat ≠ 48 := fun e => hh (by simp only [List.head?_cons, Option.some.injEq]; exact UInt8.toNat_inj.1 (by rw [e]; rfl))
    unfold isD at hc; omega
theorem canon (n : Nat) : ∀ l : List UInt8, l.length = n → (∀ c ∈ l, isD c) → l ≠ [] → (l.head? ≠ some 48 ∨ l.length = 1) → decDigits (val 0 l) = l := by
  induction n with
  | zero => intro l hl _ hn _; exact absurd (List.length_eq_zero_iff.1 hl) hn
  | succ n ih =>
    intro l hl hd hn hh
    obtain ⟨r, c, rfl⟩ : ∃ r c, l = r ++ [c] := ⟨l.dropLast, l.getLast hn, (List.dropLast_concat_getLast hn).symm⟩
    have hc := hd c (by simp)
    rw [val_snoc]
    by_cases hr : r = []
    · subst hr
      have e : val 0 [] * 10 + (c.toNat - 48) = c.toNat - 48 := by show 0 * 10 + _ = _; omega
      rw [e, decDigits, dif_pos (by unfold isD at hc; omega), toNat_back hc]; rfl
    · have hh2 : r.head? ≠ some 48 := by
        rcases hh with hh | hh
        · rwa [head_app hr] at hh
        · exact absurd (by simpa using hh) hr
      have hdr : ∀ x ∈ r, isD x := fun x hx => hd x (by simp [hx])
      have hp := val_pos hdr hr hh2
      have hlen : r.length = n := by simpa using hl
      have := ih r hlen hdr hr (Or.inl hh2)
      have hcd : c.toNat - 48 < 10 := by unfold isD at hc; omega
      rw [decDigits, dif_neg (by omega)]
      have e1 : (val 0 r * 10 + (c.toNat - 48)) / 10 = val 0 r := by omega
      have e2 : (val 0 r * 10 + (c.toNat - 48)) % 10 = c.toNat - 48 := by omega
      rw [e1, e2, this, toNat_back hc]

/-- The loop of the document's parse: from 0 down. -/
def refLoop : Int → List UInt8 → Option Int
  | n, [] => some n
  | n, c :: r => if ¬ isD c then none else if n < -922337203685477580 ∨ (n = -922337203685477580 ∧ 8 < (c.toNat : Int) - 48) then none else refLoop (10 * n - ((c.toNat : Int) - 48)) r
theorem refLoop_is (l : List UInt8) : ∀ (acc : Nat) (m : Int), acc ≤ 9223372036854775808 → (refLoop (-(acc : Int)) l = some m ↔ (∀ c ∈ l, isD c) ∧ m = -(val acc l : Int) ∧ val acc l ≤ 9223372036854775808) := by
  induction l with
  | nil =>
    intro acc m ha
    simp only [refLoop, Option.some.injEq, List.not_mem_nil, false_imp_iff, implies_true, true_and]
    show -(acc : Int) = m ↔ m = -(acc : Int) ∧ acc ≤ _
    constructor
    · intro h; exact ⟨h.symm, ha⟩
    · intro h; exact h.1.symm
  | cons c r ih =>
    intro acc m ha
    rw [refLoop]
    by_cases hc : isD c
    · rw [if_neg (by simpa using hc)]
      have hc' := hc
      unfold isD at hc'
      have e : (10 * -(acc : Int) - ((c.toNat : Int) - 48)) = -((acc * 10 + (c.toNat - 48) : Nat) : Int) := by omega
      have hg := val_ge r (acc * 10 + (c.toNat - 48))
      split
      · next hb =>
        simp only [reduceCtorEq, false_iff]
        rintro ⟨_, _, hv⟩
        rw [val_cons] at hv
        omega
      · next hb =>
        rw [e, ih _ m (by omega), val_cons]
        simp only [List.mem_cons, forall_eq_or_imp, hc, true_and]
    · rw [if_pos (by simpa using hc)]
      simp only [reduceCtorEq, false_iff]
      rintro ⟨h, _⟩
      exact hc (h c (by simp))

def refEnd (neg : Bool) (ds : List UInt8) : Option Int :=
  if ds.length = 0 ∨ 19 < ds.length ∨ (ds.head? = some 48 ∧ (1 < ds.length ∨ neg = true)) then none
  else match refLoop (-((0 : Nat) : Int)) ds with
    | none => none
    | some n => if neg = true then some n else if n = -9223372036854775808 then none else some (-n)
def refParse (s : List UInt8) : Option Int := if s.head? = some 45 then refEnd true s.tail else refEnd false s

theorem refParse_is (s : List UInt8) (v : Int) : refParse s = some v ↔ itoa v = s ∧ -9223372036854775808 ≤ v ∧ v ≤ 9223372036854775807 := by
  unfold refParse
  by_cases hs : s.head? = some 45
  · rw [if_pos hs]
    obtain ⟨ds, rfl⟩ : ∃ ds, s = 45 :: ds := by
      cases s with
      | nil => simp at hs
      | cons c r => simp only [List.head?_cons, Option.some.injEq] at hs; exact ⟨r, by rw [hs]⟩
    rw [List.tail_cons]
    unfold refEnd
    constructor
    · intro h
      by_cases hn : ds.length = 0 ∨ 19 < ds.length ∨ (ds.head? = some 48 ∧ (1 < ds.length ∨ true = true))
      · rw [if_pos hn] at h; cases h
      · rw [if_neg hn] at h
        cases hl : refLoop (-((0 : Nat) : Int)) ds with
        | none => rw [hl] at h; cases h
        | some n =>
          rw [hl] at h
          simp only [if_true, Option.some.injEq] at h
          subst h
          obtain ⟨h1, h2, h3⟩ := (refLoop_is ds 0 n (by omega)).1 hl
          have hne : ds ≠ [] := fun e => hn (Or.inl (by rw [e]; rfl))
          have hh : ds.head? ≠ some 48 := fun e => hn (Or.inr (Or.inr ⟨e, Or.inr rfl⟩))
          have hp := val_pos h1 hne hh
          have hcn := canon _ ds rfl h1 hne (Or.inl hh)
          rw [h2, itoa_neg _ hp, hcn]
          exact ⟨rfl, by omega, by omega⟩
    · rintro ⟨h, h1, h2⟩
      by_cases hv : v < 0
      · obtain ⟨u, rfl⟩ : ∃ u : Nat, v = -(u : Int) := ⟨v.natAbs, by omega⟩
        rw [itoa_neg u (by omega)] at h
        injection h with _ h
        subst h
        have hl : (decDigits u).length ≤ 19 := dec_len u 19 (by omega) (by omega)
        have hne := dec_ne u
        have hlz : ¬ (decDigits u).length = 0 := fun e => hne (List.length_eq_zero_iff.1 e)
        have hh := dec_head u (by omega)
        rw [if_neg (by rintro (h | h | h); exact hlz h; omega; exact hh h.1), (refLoop_is (decDigits u) 0 (-(u : Int)) (by omega)).2 ⟨dec_isD u, by rw [dec_val], by rw [dec_val]; omega⟩]
        rfl
      · obtain ⟨u, rfl⟩ : ∃ u : Nat, v = (u : Int) := ⟨v.toNat, by omega⟩
        rw [itoa_nonneg] at h
        have := dec_isD u 45 (by rw [h]; simp)
        unfold isD at this
        simp at this
  · rw [if_neg hs]
    unfold refEnd
    constructor
    · intro h
      by_cases hn : s.length = 0 ∨ 19 < s.length ∨ (s.head? = some 48 ∧ (1 < s.length ∨ false = true))
      · rw [if_pos hn] at h; cases h
      · rw [if_neg hn] at h
        cases hl : refLoop (-((0 : Nat) : Int)) s with
        | none => rw [hl] at h; cases h
        | some n =>
          rw [hl] at h
          simp only [Bool.false_eq_true, if_false] at h
          split at h
          · cases h
          · next hm =>
            simp only [Option.some.injEq] at h
            subst h
            obtain ⟨h1, h2, h3⟩ := (refLoop_is s 0 n (by omega)).1 hl
            have hne : s ≠ [] := fun e => hn (Or.inl (by rw [e]; rfl))
            have hpos : 1 ≤ s.length := List.length_pos_iff.2 hne
            have hh : s.head? ≠ some 48 ∨ s.length = 1 := by
              by_cases e : s.head? = some 48
              · right
                have : ¬ 1 < s.length := fun e2 => hn (Or.inr (Or.inr ⟨e, Or.inl e2⟩))
                omega
              · exact Or.inl e
            have hcn := canon _ s rfl h1 hne hh
            have e : -n = ((val 0 s : Nat) : Int) := by omega
            rw [e, itoa_nonneg, hcn]
            exact ⟨rfl, by omega, by omega⟩
    · rintro ⟨h, h1, h2⟩
      by_cases hv : v < 0
      · obtain ⟨u, rfl⟩ : ∃ u : Nat, v = -(u : Int) := ⟨v.natAbs, by omega⟩
        rw [itoa_neg u (by omega)] at h
        subst h
        simp at hs
      · obtain ⟨u, rfl⟩ : ∃ u : Nat, v = (u : Int) := ⟨v.toNat, by omega⟩
        rw [itoa_nonneg] at h
        subst h
        have hl : (decDigits u).length ≤ 19 := dec_len u 19 (by omega) (by omega)
        have hlz : ¬ (decDigits u).length = 0 := fun e => dec_ne u (List.length_eq_zero_iff.1 e)
        have hh : ¬ ((decDigits u).head? = some 48 ∧ (1 < (decDigits u).length ∨ false = true)) := by
          rintro ⟨e1, e2 | e2⟩
          case inr => cases e2
          by_cases hu : u = 0
          · subst hu; rw [decDigits] at e2; simp at e2
          · exact dec_head u hu e1
        rw [if_neg (by rintro (h | h | h); exact hlz h; omega; exact hh h), (refLoop_is (decDigits u) 0 (-(u : Int)) (by omega)).2 ⟨dec_isD u, by rw [dec_val], by rw [dec_val]; omega⟩]
        simp only [Bool.false_eq_true, if_false]
        rw [if_neg (by omega)]
        simp

/-- The library's parse of a numeral. -/
theorem parse_itoa {v : Int} (h1 : -9223372036854775808 ≤ v) (h2 : v ≤ 9223372036854775807) : parseIntB 64 (itoa v) = .ok v := by
  by_cases hv : v < 0
  · obtain ⟨u, rfl⟩ : ∃ u : Nat, v = -(u : Int) := ⟨v.natAbs, by omega⟩
    rw [itoa_neg u (by omega)]
    have hp : parseUintM (2 ^ 64 - 1) 0 (decDigits u) = .ok u := by
      rw [parse_ok _ (by decide) _ _ (dec_isD u) (by rw [dec_val]; omega), dec_val]
    unfold parseIntB parseUintB
    simp [dec_ne u, hp]
    omega
  · obtain ⟨u, rfl⟩ : ∃ u : Nat, v = (u : Int) := ⟨v.toNat, by omega⟩
    rw [itoa_nonneg]
    have hp : parseUintM (2 ^ 64 - 1) 0 (decDigits u) = .ok u := by
      rw [parse_ok _ (by decide) _ _ (dec_isD u) (by rw [dec_val]; omega), dec_val]
    cases hd : decDigits u with
    | nil => exact absurd hd (dec_ne u)
    | cons c r =>
      have hc := dec_isD u c (by rw [hd]; simp)
      unfold isD at hc
      rw [hd] at hp
      have n1 : ¬ c.toNat = 45 := by omega
      have n2 : ¬ c.toNat = 43 := by omega
      unfold parseIntB parseUintB
      simp [n1, n2, hp]
      omega

/-- The program's parse: the library's, and the number's text again. -/
def wparse (s : List UInt8) : Option Int := match parseIntB 64 s with
  | .ok v => if itoa v = s then some v else none
  | _ => none
theorem wparse_is (s : List UInt8) (v : Int) : wparse s = some v ↔ itoa v = s ∧ -9223372036854775808 ≤ v ∧ v ≤ 9223372036854775807 := by
  constructor
  · intro h
    unfold wparse at h
    cases hp : parseIntB 64 s with
    | ok u =>
      rw [hp] at h
      simp only at h
      split at h
      · next e =>
        simp only [Option.some.injEq] at h
        subst h
        exact ⟨e, parse_range hp⟩
      · cases h
    | _ => rw [hp] at h; cases h
  · rintro ⟨rfl, h1, h2⟩
    unfold wparse
    rw [parse_itoa h1 h2]
    simp
theorem wparse_ref (s : List UInt8) : wparse s = refParse s := by
  cases h : refParse s with
  | some v => exact (wparse_is s v).2 ((refParse_is s v).1 h)
  | none =>
    cases h2 : wparse s with
    | none => rfl
    | some v => rw [(refParse_is s v).2 ((wparse_is s v).1 h2)] at h; cases h

/-- Texts of one length: the greater number is the greater text. -/
theorem val_bounds : ∀ (l : List UInt8) (acc : Nat), (∀ c ∈ l, isD c) → acc * 10 ^ l.length ≤ val acc l ∧ val acc l < (acc + 1) * 10 ^ l.length
  | [], acc, _ => by show acc * 1 ≤ acc ∧ acc < (acc + 1) * 1; omega
  | c :: l, acc, h => by
    have hc := h c (by simp)
    unfold isD at hc
    obtain ⟨h1, h2⟩ := val_bounds l (acc * 10 + (c.toNat - 48)) (fun x hx => h x (by simp [hx]))
    rw [val_cons, List.length_cons, Nat.pow_succ]
    generalize 10 ^ l.length = t at *
    generalize hd : c.toNat - 48 = d at *
    have hd9 : d ≤ 9 := by omega
    refine ⟨Nat.le_trans ?_ h1, Nat.lt_of_lt_of_le h2 ?_⟩
    · rw [Nat.mul_comm t 10, ← Nat.mul_assoc]; exact Nat.mul_le_mul_right _ (by omega)
    · rw [Nat.mul_comm t 10, ← Nat.mul_assoc]; exact Nat.mul_le_mul_right _ (by omega)
theorem less_val : ∀ (l k : List UInt8) (acc : Nat), l.length = k.length → (∀ c ∈ l, isD c) → (∀ c ∈ k, isD c) → Go.Op.bytesLess l k = decide (val acc l < val acc k)
  | [], [], acc, _, _, _ => by simp [Go.Op.bytesLess, val]
  | [], _ :: _, acc, h, _, _ => by simp at h
  | _ :: _, [], acc, h, _, _ => by simp at h
  | c :: l, d :: k, acc, h, hl, hk => by
    have hc := hl c (by simp)
    have hd := hk d (by simp)
    unfold isD at hc hd
    have hlen : l.length = k.length := by simpa using h
    have hl' : ∀ x ∈ l, isD x := fun x hx => hl x (by simp [hx])
    have hk' : ∀ x ∈ k, isD x := fun x hx => hk x (by simp [hx])
    rw [Go.Op.bytesLess, val_cons, val_cons]
    have lt_iff : c < d ↔ c.toNat < d.toNat := UInt8.lt_iff_toNat_lt
    by_cases e : c = d
    · subst e
      rw [less_val l k (acc * 10 + (c.toNat - 48)) hlen hl' hk']
      simp
    · have hne : c.toNat ≠ d.toNat := fun e2 => e (UInt8.toNat_inj.1 e2)
      obtain ⟨a1, a2⟩ := val_bounds l (acc * 10 + (c.toNat - 48)) hl'
      obtain ⟨b1, b2⟩ := val_bounds k (acc * 10 + (d.toNat - 48)) hk'
      rw [hlen] at a1 a2
      have hb : (c == d) = false := by simpa using e
      rw [hb, Bool.false_and, Bool.or_false]
      by_cases g : c.toNat < d.toNat
      · have : (acc * 10 + (c.toNat - 48) + 1) * 10 ^ k.length ≤ (acc * 10 + (d.toNat - 48)) * 10 ^ k.length := Nat.mul_le_mul_right _ (by omega)
        have g2 : c < d := lt_iff.2 g
        simp only [g2, decide_true]
        symm; rw [decide_eq_true_eq]; omega
      · have : (acc * 10 + (d.toNat - 48) + 1) * 10 ^ k.length ≤ (acc * 10 + (c.toNat - 48)) * 10 ^ k.length := Nat.mul_le_mul_right _ (by omega)
        have g2 : ¬ c < d := fun h => g (lt_iff.1 h)
        simp only [g2, decide_false]
        symm; rw [decide_eq_false_iff_not]; omega
theorem less_itoa {a b : Int} (ha : 0 ≤ a) (hb : 0 ≤ b) (h : (itoa a).length = (itoa b).length) : Go.Op.bytesLess (itoa a) (itoa b) = decide (a < b) := by
  obtain ⟨u, rfl⟩ : ∃ u : Nat, a = (u : Int) := ⟨a.toNat, by omega⟩
  obtain ⟨v, rfl⟩ : ∃ v : Nat, b = (v : Int) := ⟨b.toNat, by omega⟩
  rw [itoa_nonneg, itoa_nonneg] at h ⊢
  rw [less_val _ _ 0 h (dec_isD u) (dec_isD v), dec_val, dec_val]
  simp
theorem itoa_len {v : Int} (h1 : -9223372036854775808 ≤ v) (h2 : v ≤ 9223372036854775807) : (itoa v).length ≤ 20 := by
  by_cases hv : v < 0
  · obtain ⟨u, rfl⟩ : ∃ u : Nat, v = -(u : Int) := ⟨v.natAbs, by omega⟩
    rw [itoa_neg u (by omega)]
    have := dec_len u 19 (by omega) (by omega)
    simp only [List.length_cons]; omega
  · obtain ⟨u, rfl⟩ : ∃ u : Nat, v = (u : Int) := ⟨v.toNat, by omega⟩
    rw [itoa_nonneg]
    have := dec_len u 19 (by omega) (by omega)
    omega
end Whole
/- Maps from texts to blocks. -/
set_option linter.unusedVariables false
set_option linter.unusedSimpArgs false
namespace Go.Proofs.YtgdenmddbgcacaaGreatDoor
open Go.RowKit

instance : LawfulBEq ByteArray where
  eq_of_beq {a b} h := by rw [bytes_beq] at h; exact of_decide_eq_true h
  rfl {a} := by rw [bytes_beq]; exact decide_eq_true rfl
def strEnc (s : ByteArray) : Value := .string s
theorem keyS : KeyOk Tryz.prog 9 strEnc := stringKey Tryz.underlying9
def pm (m : List (ByteArray × Nat)) : List (ByteArray × Value) := m.map fun p => (p.1, ptr p.2)
theorem pm_get (m : List (ByteArray × Nat)) (k : ByteArray) : aget (pm m) k = (aget m k).map ptr := by
  induction m with
  | nil => rfl
  | cons p r ih =>
    simp only [pm, List.map_cons, aget] at ih ⊢
    split
    · rfl
    · exact ih
theorem pm_set (m : List (ByteArray × Nat)) (k : ByteArray) (n : Nat) : aset (pm m) k (ptr n) = pm (aset m k n) := by
  induction m with
  | nil => rfl
  | cons p r ih =>
    simp only [pm, List.map_cons, aset] at ih ⊢
    split
    · rfl
    · rw [ih]; rfl
theorem pm_del (m : List (ByteArray × Nat)) (k : ByteArray) : adel (pm m) k = pm (adel m k) := by
  induction m with
  | nil => rfl
  | cons p r ih =>
    simp only [pm, List.map_cons, adel] at ih ⊢
    split
    · rfl
    · rw [ih]; rfl
theorem pm_len (m : List (ByteArray × Nat)) : (pm m).length = m.length := by simp [pm]

def lv (o : Option Nat) : Value := .pointer (o.map fun b => ⟨b, 0, none⟩)
theorem MapAt.notCells {κ : Type} {enc : κ → Value} {w : World} {b : Nat} {m : List (κ × Value)} (h : MapAt enc w b m) {b' : Nat} {cs : Array Value} {T : TypeId} (hb : w.heap[b']? = some (.cells cs T (0, 0))) : b ≠ b' := by
  rintro rfl
  obtain ⟨es, c, he, _⟩ := h
  rw [hb] at he; injection he with he; cases he
/-- F' is of F's blocks and of new ones. -/
def FromF (F F' : Nat → Prop) (w : World) : Prop := ∀ k, F' k → F k ∨ w.heap.size ≤ k
theorem FromF.trans {F G H : Nat → Prop} {w w1 : World} (h : FromF F G w) (k : FromF G H w1) (hs : w.heap.size ≤ w1.heap.size) : FromF F H w := fun i hi => by
  rcases k i hi with g | g
  · exact h i g
  · exact Or.inr (Nat.le_trans hs g)
theorem FromF.lift {F G : Nat → Prop} {w w1 w2 : World} (h : FromF F G w) (u : Upd F w w1) (k : Upd G w1 w2) : Upd F w w2 :=
  u.trans k fun i hi hg => by
    rcases h i hg with g | g
    · exact g
    · omega
theorem FromF.refl (F : Nat → Prop) (w : World) : FromF F F w := fun _ h => Or.inl h
theorem subset_len {α : Type} [DecidableEq α] : ∀ {l m : List α}, l.Nodup → (∀ x ∈ l, x ∈ m) → l.length ≤ m.length
  | [], m, _, _ => Nat.zero_le _
  | a :: l, m, h, hs => by
    obtain ⟨h1, h2⟩ := List.nodup_cons.1 h
    have ha := hs a (by simp)
    obtain ⟨s, t, rfl⟩ := List.append_of_mem ha
    have := subset_len (l := l) (m := s ++ t) h2 (fun x hx => by
      have := hs x (by simp [hx])
      simp only [List.mem_append, List.mem_cons] at this ⊢
      rcases this with g | g | g
      · exact Or.inl g
      · exact absurd (g ▸ hx) h1
      · exact Or.inr g)
    simp only [List.length_append, List.length_cons] at this ⊢; omega
end Go.Proofs.YtgdenmddbgcacaaGreatDoor
