/- Plain: numbers as text, and back. No program in sight. -/
import Derived.Lib.ParseIntB
import Derived.Lib.ItoaMem
import GoSem.Op.String
import Derived.Test.YtcpfkkbegnhofaaDoorK02
import Derived.Lib.MapLaws
import Derived.Lib.TrimAscii
set_option linter.unusedVariables false
set_option linter.unusedSimpArgs false
namespace Whole
open Go.Lib

def isD (c : UInt8) : Prop := 48 ≤ c.toNat ∧ c.toNat ≤ 57
instance : DecidablePred isD := fun c => by unfold isD; exact inferInstance
def val (acc : Nat) (l : List UInt8) : Nat := l.foldl (fun a c => a * 10 + (c.toNat - 48)) acc
theorem val_cons (acc : Nat) (c : UInt8) (l : List UInt8) : val acc (c :: l) = val (acc * 10 + (c.toNat - 48)) l := by unfold val; rw [List.foldl_cons]
theorem val_snoc (acc : Nat) (l : List UInt8) (c : UInt8) : val acc (l ++ [c]) = val acc l * 10 + (c.toNat - 48) := by unfold val; simp
theorem val_ge (l : List UInt8) : ∀ acc, acc ≤ val acc l := by
  induction l with
  | nil => intro acc; exact Nat.le_refl _
  | cons c r ih => intro acc; rw [val_cons]; have := ih (acc * 10 + (c.toNat - 48)); omega

theorem parse_ok (M : Nat) (hM : M < 18446744073709551616) : ∀ (l : List UInt8) (acc : Nat), (∀ c ∈ l, isD c) → val acc l ≤ M → parseUintM M acc l = .ok (val acc l)
  | [], acc, _, _ => rfl
  | c :: r, acc, h, hv => by
    have hc := h c (by simp)
    rw [val_cons] at hv ⊢
    have hg := val_ge r (acc * 10 + (c.toNat - 48))
    rw [parseUintM, if_pos (show 48 ≤ c.toNat ∧ c.toNat ≤ 57 from hc), if_neg (by omega), if_neg (by omega)]
    exact parse_ok M hM r _ (fun x hx => h x (by simp [hx])) hv
theorem parse_range {l : List UInt8} {v : Int} (h : parseIntB 64 l = .ok v) : -9223372036854775808 ≤ v ∧ v ≤ 9223372036854775807 := by
  unfold parseIntB at h
  cases l with
  | nil => simp at h
  | cons c r =>
    simp only at h
    split at h
    · cases h
    · cases h
    · next u hu =>
      split at h
      · cases h
      · split at h
        · cases h
        · next h1 h2 =>
          injection h with h
          subst h
          by_cases hn : c.toNat = 45
          · simp [hn] at h2 ⊢; omega
          · simp [hn] at h1 ⊢; omega

theorem dec_isD (u : Nat) : ∀ c ∈ decDigits u, isD c := by
  induction u using Nat.strongRecOn with
  | _ u ih =>
    intro c hc
    rw [decDigits] at hc
    split at hc
    · next h =>
      simp only [List.mem_singleton] at hc
      subst hc
      unfold isD
      rw [UInt8.toNat_ofNat']; omega
    · next h =>
      rw [List.mem_append] at hc
      rcases hc with hc | hc
      · exact ih (u / 10) (by omega) c hc
      · simp only [List.mem_singleton] at hc
        subst hc
        unfold isD
        rw [UInt8.toNat_ofNat']; omega
theorem dec_val (u : Nat) : val 0 (decDigits u) = u := by
  induction u using Nat.strongRecOn with
  | _ u ih =>
    rw [decDigits]
    split
    · next h =>
      show 0 * 10 + ((UInt8.ofNat (48 + u)).toNat - 48) = u
      rw [UInt8.toNat_ofNat']; omega
    · next h =>
      rw [val_snoc, ih (u / 10) (by omega), UInt8.toNat_ofNat']; omega
theorem dec_ne (u : Nat) : decDigits u ≠ [] := by
  rw [decDigits]
  split
  · simp
  · simp
theorem head_app {l k : List UInt8} (h : l ≠ []) : (l ++ k).head? = l.head? := by
  cases l with
  | nil => exact absurd rfl h
  | cons c r => rfl
theorem dec_head (u : Nat) (h : u ≠ 0) : (decDigits u).head? ≠ some 48 := by
  induction u using Nat.strongRecOn with
  | _ u ih =>
    rw [decDigits]
    split
    · next hl =>
      simp only [List.head?_cons, ne_eq, Option.some.injEq]
      intro e
      have := congrArg UInt8.toNat e
      rw [UInt8.toNat_ofNat'] at this
      simp at this; omega
    · next hl =>
      have := ih (u / 10) (by omega) (by omega)
      rw [head_app (dec_ne _)]
      exact this
theorem dec_len (u k : Nat) (hk : 1 ≤ k) (h : u < 10 ^ k) : (decDigits u).length ≤ k := by
  induction k generalizing u with
  | zero => omega
  | succ k ih =>
    rw [decDigits]
    split
    · simp
    · next hl =>
      have h10 : 10 ^ (k + 1) = 10 * 10 ^ k := by rw [Nat.pow_succ, Nat.mul_comm]
      have hk1 : 1 ≤ k := by
        cases k with
        | zero => simp at h; omega
        | succ k => omega
      have := ih (u / 10) hk1 (by omega)
      simp only [List.length_append, List.length_cons, List.length_nil]; omega
theorem toNat_back {c : UInt8} (h : isD c) : UInt8.ofNat (48 + (c.toNat - 48)) = c := by
  have e : 48 + (c.toNat - 48) = c.toNat := by unfold isD at h; omega
  rw [e]; simp
theorem val_pos {l : List UInt8} (hd : ∀ c ∈ l, isD c) (hn : l ≠ []) (hh : l.head? ≠ some 48) : 1 ≤ val 0 l := by
  cases l with
  | nil => exact absurd rfl hn
  | cons c r =>
    rw [val_cons]
    have hc := hd c (by simp)
    have := val_ge r (0 * 10 + (c.toNat - 48))
    have : c.toNat ≠ 48 := fun e => hh (by simp only [List.head?_cons, Option.some.injEq]; exact UInt8.toNat_inj.1 (by rw [e]; rfl))
    unfold isD at hc; omega
theorem canon (n : Nat) : ∀ l : List UInt8, l.length = n → (∀ c ∈ l, isD c) → l ≠ [] → (l.head? ≠ some 48 ∨ l.length = 1) → decDigits (val 0 l) = l := by
  induction n with
  | zero => intro l hl _ hn _; exact absurd (List.length_eq_zero_iff.1 hl) hn
  | succ n ih =>
    intro l hl hd hn hh
    obtain ⟨r, c, rfl⟩ : ∃ r c, l = r ++ [c] := ⟨l.dropLast, l.getLast hn, (List.dropLast_concat_getLast hn).symm⟩
    have hc := hd c (by simp)
    rw [val_snoc]
    by_cases hr : r = []
    · subst hr
      have e : val 0 [] * 10 + (c.toNat - 48) = c.toNat - 48 := by show 0 * 10 + _ = _; omega
      rw [e, decDigits, dif_pos (by unfold isD at hc; omega), toNat_back hc]; rfl
    · have hh2 : r.head? ≠ some 48 := by
        rcases hh with hh | hh
        · rwa [head_app hr] at hh
        · exact absurd (by simpa using hh) hr
      have hdr : ∀ x ∈ r, isD x := fun x hx => hd x (by simp [hx])
      have hp := val_pos hdr hr hh2
      have hlen : r.length = n := by simpa using hl
      have := ih r hlen hdr hr (Or.inl hh2)
      have hcd : c.toNat - 48 < 10 := by unfold isD at hc; omega
      rw [decDigits, dif_neg (by omega)]
      have e1 : (val 0 r * 10 + (c.toNat - 48)) / 10 = val 0 r := by omega
      have e2 : (val 0 r * 10 + (c.toNat - 48)) % 10 = c.toNat - 48 := by omega
      rw [e1, e2, this, toNat_back hc]

/-- The loop of the document's parse: from 0 down. -/
def refLoop : Int → List UInt8 → Option Int
  | n, [] => some n
  | n, c :: r => if ¬ isD c then none else if n < -922337203685477580 ∨ (n = -922337203685477580 ∧ 8 < (c.toNat : Int) - 48) then none else refLoop (10 * n - ((c.toNat : Int) - 48)) r
theorem refLoop_is (l : List UInt8) : ∀ (acc : Nat) (m : Int), acc ≤ 9223372036854775808 → (refLoop (-(acc : Int)) l = some m ↔ (∀ c ∈ l, isD c) ∧ m = -(val acc l : Int) ∧ val acc l ≤ 9223372036854775808) := by
  induction l with
  | nil =>
    intro acc m ha
    simp only [refLoop, Option.some.injEq, List.not_mem_nil, false_imp_iff, implies_true, true_and]
    show -(acc : Int) = m ↔ m = -(acc : Int) ∧ acc ≤ _
    constructor
    · intro h; exact ⟨h.symm, ha⟩
    · intro h; exact h.1.symm
  | cons c r ih =>
    intro acc m ha
    rw [refLoop]
    by_cases hc : isD c
    · rw [if_neg (by simpa using hc)]
      have hc' := hc
      unfold isD at hc'
      have e : (10 * -(acc : Int) - ((c.toNat : Int) - 48)) = -((acc * 10 + (c.toNat - 48) : Nat) : Int) := by omega
      have hg := val_ge r (acc * 10 + (c.toNat - 48))
      split
      · next hb =>
        simp only [reduceCtorEq, false_iff]
        rintro ⟨_, _, hv⟩
        rw [val_cons] at hv
        omega
      · next hb =>
        rw [e, ih _ m (by omega), val_cons]
        simp only [List.mem_cons, forall_eq_or_imp, hc, true_and]
    · rw [if_pos (by simpa using hc)]
      simp only [reduceCtorEq, false_iff]
      rintro ⟨h, _⟩
      exact hc (h c (by simp))

def refEnd (neg : Bool) (ds : List UInt8) : Option Int :=
  if ds.length = 0 ∨ 19 < ds.length ∨ (ds.head? = some 48 ∧ (1 < ds.length ∨ neg = true)) then none
  else match refLoop (-((0 : Nat) : Int)) ds with
    | none => none
    | some n => if neg = true then some n else if n = -9223372036854775808 then none else some (-n)
def refParse (s : List UInt8) : Option Int := if s.head? = some 45 then refEnd true s.tail else refEnd false s

theorem refParse_is (s : List UInt8) (v : Int) : refParse s = some v ↔ itoa v = s ∧ -9223372036854775808 ≤ v ∧ v ≤ 9223372036854775807 := by
  unfold refParse
  by_cases hs : s.head? = some 45
  · rw [if_pos hs]
    obtain ⟨ds, rfl⟩ : ∃ ds, s = 45 :: ds := by
      cases s with
      | nil => simp at hs
      | cons c r => simp only [List.head?_cons, Option.some.injEq] at hs; exact ⟨r, by rw [hs]⟩
    rw [List.tail_cons]
    unfold refEnd
    constructor
    · intro h
      by_cases hn : ds.length = 0 ∨ 19 < ds.length ∨ (ds.head? = some 48 ∧ (1 < ds.length ∨ true = true))
      · rw [if_pos hn] at h; cases h
      · rw [if_neg hn] at h
        cases hl : refLoop (-((0 : Nat) : Int)) ds with
        | none => rw [hl] at h; cases h
        | some n =>
          rw [hl] at h
          simp only [if_true, Option.some.injEq] at h
          subst h
          obtain ⟨h1, h2, h3⟩ := (refLoop_is ds 0 n (by omega)).1 hl
          have hne : ds ≠ [] := fun e => hn (Or.inl (by rw [e]; rfl))
          have hh : ds.head? ≠ some 48 := fun e => hn (Or.inr (Or.inr ⟨e, Or.inr rfl⟩))
          have hp := val_pos h1 hne hh
          have hcn := canon _ ds rfl h1 hne (Or.inl hh)
          rw [h2, itoa_neg _ hp, hcn]
          exact ⟨rfl, by omega, by omega⟩
    · rintro ⟨h, h1, h2⟩
      by_cases hv : v < 0
      · obtain ⟨u, rfl⟩ : ∃ u : Nat, v = -(u : Int) := ⟨v.natAbs, by omega⟩
        rw [itoa_neg u (by omega)] at h
        injection h with _ h
        subst h
        have hl : (decDigits u).length ≤ 19 := dec_len u 19 (by omega) (by omega)
        have hne := dec_ne u
        have hlz : ¬ (decDigits u).length = 0 := fun e => hne (List.length_eq_zero_iff.1 e)
        have hh := dec_head u (by omega)
        rw [if_neg (by rintro (h | h | h); exact hlz h; omega; exact hh h.1), (refLoop_is (decDigits u) 0 (-(u : Int)) (by omega)).2 ⟨dec_isD u, by rw [dec_val], by rw [dec_val]; omega⟩]
        rfl
      · obtain ⟨u, rfl⟩ : ∃ u : Nat, v = (u : Int) := ⟨v.toNat, by omega⟩
        rw [itoa_nonneg] at h
        have := dec_isD u 45 (by rw [h]; simp)
        unfold isD at this
        simp at this
  · rw [if_neg hs]
    unfold refEnd
    constructor
    · intro h
      by_cases hn : s.length = 0 ∨ 19 < s.length ∨ (s.head? = some 48 ∧ (1 < s.length ∨ false = true))
      · rw [if_pos hn] at h; cases h
      · rw [if_neg hn] at h
        cases hl : refLoop (-((0 : Nat) : Int)) s with
        | none => rw [hl] at h; cases h
        | some n =>
          rw [hl] at h
          simp only [Bool.false_eq_true, if_false] at h
          split at h
          · cases h
          · next hm =>
            simp only [Option.some.injEq] at h
            subst h
            obtain ⟨h1, h2, h3⟩ := (refLoop_is s 0 n (by omega)).1 hl
            have hne : s ≠ [] := fun e => hn (Or.inl (by rw [e]; rfl))
            have hpos : 1 ≤ s.length := List.length_pos_iff.2 hne
            have hh : s.head? ≠ some 48 ∨ s.length = 1 := by
              by_cases e : s.head? = some 48
              · right
                have : ¬ 1 < s.length := fun e2 => hn (Or.inr (Or.inr ⟨e, Or.inl e2⟩))
                omega
              · exact Or.inl e
            have hcn := canon _ s rfl h1 hne hh
            have e : -n = ((val 0 s : Nat) : Int) := by omega
            rw [e, itoa_nonneg, hcn]
            exact ⟨rfl, by omega, by omega⟩
    · rintro ⟨h, h1, h2⟩
      by_cases hv : v < 0
      · obtain ⟨u, rfl⟩ : ∃ u : Nat, v = -(u : Int) := ⟨v.natAbs, by omega⟩
        rw [itoa_neg u (by omega)] at h
        subst h
        simp at hs
      · obtain ⟨u, rfl⟩ : ∃ u : Nat, v = (u : Int) := ⟨v.toNat, by omega⟩
        rw [itoa_nonneg] at h
        subst h
        have hl : (decDigits u).length ≤ 19 := dec_len u 19 (by omega) (by omega)
        have hlz : ¬ (decDigits u).length = 0 := fun e => dec_ne u (List.length_eq_zero_iff.1 e)
        have hh : ¬ ((decDigits u).head? = some 48 ∧ (1 < (decDigits u).length ∨ false = true)) := by
          rintro ⟨e1, e2 | e2⟩
          case inr => cases e2
          by_cases hu : u = 0
          · subst hu; rw [decDigits] at e2; simp at e2
          · exact dec_head u hu e1
        rw [if_neg (by rintro (h | h | h); exact hlz h; omega; exact hh h), (refLoop_is (decDigits u) 0 (-(u : Int)) (by omega)).2 ⟨dec_isD u, by rw [dec_val], by rw [dec_val]; omega⟩]
        simp only [Bool.false_eq_true, if_false]
        rw [if_neg (by omega)]
        simp

/-- The library's parse of a numeral. -/
theorem parse_itoa {v : Int} (h1 : -9223372036854775808 ≤ v) (h2 : v ≤ 9223372036854775807) : parseIntB 64 (itoa v) = .ok v := by
  by_cases hv : v < 0
  · obtain ⟨u, rfl⟩ : ∃ u : Nat, v = -(u : Int) := ⟨v.natAbs, by omega⟩
    rw [itoa_neg u (by omega)]
    have hp : parseUintM (2 ^ 64 - 1) 0 (decDigits u) = .ok u := by
      rw [parse_ok _ (by decide) _ _ (dec_isD u) (by rw [dec_val]; omega), dec_val]
    unfold parseIntB parseUintB
    simp [dec_ne u, hp]
    omega
  · obtain ⟨u, rfl⟩ : ∃ u : Nat, v = (u : Int) := ⟨v.toNat, by omega⟩
    rw [itoa_nonneg]
    have hp : parseUintM (2 ^ 64 - 1) 0 (decDigits u) = .ok u := by
      rw [parse_ok _ (by decide) _ _ (dec_isD u) (by rw [dec_val]; omega), dec_val]
    cases hd : decDigits u with
    | nil => exact absurd hd (dec_ne u)
    | cons c r =>
      have hc := dec_isD u c (by rw [hd]; simp)
      unfold isD at hc
      rw [hd] at hp
      have n1 : ¬ c.toNat = 45 := by omega
      have n2 : ¬ c.toNat = 43 := by omega
      unfold parseIntB parseUintB
      simp [n1, n2, hp]
      omega

/-- The program's parse: the library's, and the number's text again. -/
def wparse (s : List UInt8) : Option Int := match parseIntB 64 s with
  | .ok v => if itoa v = s then some v else none
  | _ => none
theorem wparse_is (s : List UInt8) (v : Int) : wparse s = some v ↔ itoa v = s ∧ -9223372036854775808 ≤ v ∧ v ≤ 9223372036854775807 := by
  constructor
  · intro h
    unfold wparse at h
    cases hp : parseIntB 64 s with
    | ok u =>
      rw [hp] at h
      simp only at h
      split at h
      · next e =>
        simp only [Option.some.injEq] at h
        subst h
        exact ⟨e, parse_range hp⟩
      · cases h
    | _ => rw [hp] at h; cases h
  · rintro ⟨rfl, h1, h2⟩
    unfold wparse
    rw [parse_itoa h1 h2]
    simp
theorem wparse_ref (s : List UInt8) : wparse s = refParse s := by
  cases h : refParse s with
  | some v => exact (wparse_is s v).2 ((refParse_is s v).1 h)
  | none =>
    cases h2 : wparse s with
    | none => rfl
    | some v => rw [(refParse_is s v).2 ((wparse_is s v).1 h2)] at h; cases h

/-- Texts of one length: the greater number is the greater text. -/
theorem val_bounds : ∀ (l : List UInt8) (acc : Nat), (∀ c ∈ l, isD c) → acc * 10 ^ l.length ≤ val acc l ∧ val acc l < (acc + 1) * 10 ^ l.length
  | [], acc, _ => by show acc * 1 ≤ acc ∧ acc < (acc + 1) * 1; omega
  | c :: l, acc, h => by
    have hc := h c (by simp)
    unfold isD at hc
    obtain ⟨h1, h2⟩ := val_bounds l (acc * 10 + (c.toNat - 48)) (fun x hx => h x (by simp [hx]))
    rw [val_cons, List.length_cons, Nat.pow_succ]
    generalize 10 ^ l.length = t at *
    generalize hd : c.toNat - 48 = d at *
    have hd9 : d ≤ 9 := by omega
    refine ⟨Nat.le_trans ?_ h1, Nat.lt_of_lt_of_le h2 ?_⟩
    · rw [Nat.mul_comm t 10, ← Nat.mul_assoc]; exact Nat.mul_le_mul_right _ (by omega)
    · rw [Nat.mul_comm t 10, ← Nat.mul_assoc]; exact Nat.mul_le_mul_right _ (by omega)
theorem less_val : ∀ (l k : List UInt8) (acc : Nat), l.length = k.length → (∀ c ∈ l, isD c) → (∀ c ∈ k, isD c) → Go.Op.bytesLess l k = decide (val acc l < val acc k)
  | [], [], acc, _, _, _ => by simp [Go.Op.bytesLess, val]
  | [], _ :: _, acc, h, _, _ => by simp at h
  | _ :: _, [], acc, h, _, _ => by simp at h
  | c :: l, d :: k, acc, h, hl, hk => by
    have hc := hl c (by simp)
    have hd := hk d (by simp)
    unfold isD at hc hd
    have hlen : l.length = k.length := by simpa using h
    have hl' : ∀ x ∈ l, isD x := fun x hx => hl x (by simp [hx])
    have hk' : ∀ x ∈ k, isD x := fun x hx => hk x (by simp [hx])
    rw [Go.Op.bytesLess, val_cons, val_cons]
    have lt_iff : c < d ↔ c.toNat < d.toNat := UInt8.lt_iff_toNat_lt
    by_cases e : c = d
    · subst e
      rw [less_val l k (acc * 10 + (c.toNat - 48)) hlen hl' hk']
      simp
    · have hne : c.toNat ≠ d.toNat := fun e2 => e (UInt8.toNat_inj.1 e2)
      obtain ⟨a1, a2⟩ := val_bounds l (acc * 10 + (c.toNat - 48)) hl'
      obtain ⟨b1, b2⟩ := val_bounds k (acc * 10 + (d.toNat - 48)) hk'
      rw [hlen] at a1 a2
      have hb : (c == d) = false := by simpa using e
      rw [hb, Bool.false_and, Bool.or_false]
      by_cases g : c.toNat < d.toNat
      · have : (acc * 10 + (c.toNat - 48) + 1) * 10 ^ k.length ≤ (acc * 10 + (d.toNat - 48)) * 10 ^ k.length := Nat.mul_le_mul_right _ (by omega)
        have g2 : c < d := lt_iff.2 g
        simp only [g2, decide_true]
        symm; rw [decide_eq_true_eq]; omega
      · have : (acc * 10 + (d.toNat - 48) + 1) * 10 ^ k.length ≤ (acc * 10 + (c.toNat - 48)) * 10 ^ k.length := Nat.mul_le_mul_right _ (by omega)
        have g2 : ¬ c < d := fun h => g (lt_iff.1 h)
        simp only [g2, decide_false]
        symm; rw [decide_eq_false_iff_not]; omega
theorem less_itoa {a b : Int} (ha : 0 ≤ a) (hb : 0 ≤ b) (h : (itoa a).length = (itoa b).length) : Go.Op.bytesLess (itoa a) (itoa b) = decide (a < b) := by
  obtain ⟨u, rfl⟩ : ∃ u : Nat, a = (u : Int) := ⟨a.toNat, by omega⟩
  obtain ⟨v, rfl⟩ : ∃ v : Nat, b = (v : Int) := ⟨b.toNat, by omega⟩
  rw [itoa_nonneg, itoa_nonneg] at h ⊢
  rw [less_val _ _ 0 h (dec_isD u) (dec_isD v), dec_val, dec_val]
  simp
theorem itoa_len {v : Int} (h1 : -9223372036854775808 ≤ v) (h2 : v ≤ 9223372036854775807) : (itoa v).length ≤ 20 := by
  by_cases hv : v < 0
  · obtain ⟨u, rfl⟩ : ∃ u : Nat, v = -(u : Int) := ⟨v.natAbs, by omega⟩
    rw [itoa_neg u (by omega)]
    have := dec_len u 19 (by omega) (by omega)
    simp only [List.length_cons]; omega
  · obtain ⟨u, rfl⟩ : ∃ u : Nat, v = (u : Int) := ⟨v.toNat, by omega⟩
    rw [itoa_nonneg]
    have := dec_len u 19 (by omega) (by omega)
    omega
end Whole
/- Modes of words, plain: great letters; a mode of words; in order; flags. -/
set_option linter.unusedVariables false
set_option linter.unusedSimpArgs false
namespace Go.Proofs.YtcpfkkbegnhofaaDoor

/-- A byte in great letters. -/
def upb (c : UInt8) : UInt8 := if 97 ≤ c.toNat ∧ c.toNat ≤ 122 then UInt8.ofNat (c.toNat - 32) else c
/-- A rune in great letters. -/
def upf (x : Int) : Int := if 97 ≤ x ∧ x ≤ 122 then x - 32 else x
theorem upf_pos (x : Nat) (h : x ≤ 1114111) : 0 ≤ upf x ∧ upf x ≤ 2147483647 := by unfold upf; split <;> omega
theorem upb_nat (c : UInt8) : ((upb c).toNat : Int) = upf (c.toNat : Int) := by
  have h : ∀ n : Nat, n < 256 → ((upb (UInt8.ofNat n)).toNat : Int) = upf ((UInt8.ofNat n).toNat : Int) := by decide +kernel
  have := h c.toNat c.toNat_lt
  simpa using this
theorem enc_ascii (c : UInt8) (h : c.toNat < 128) : Lib.encodeRune (c.toNat : Int) = [c] := by
  unfold Lib.encodeRune
  rw [Lib.encodeRuneZ_one (by omega) (by omega)]
  simp
theorem up_ascii (c : UInt8) (r : Txt) (h : c.toNat < 128) : Lib.mapD upf (c :: r) = upb c :: Lib.mapD upf r := by
  rw [Lib.mapD_step _ _ (by simp), Lib.decodeL_ascii c r h]
  have e : upf ((c.toNat : Nat) : Int) = ((upb c).toNat : Int) := (upb_nat c).symm
  have h2 : (upb c).toNat < 128 := by
    have := upb_nat c
    unfold upf at this
    split at this <;> omega
  rw [e, if_pos (by omega), enc_ascii _ h2]; rfl
theorem up_high (c : UInt8) (r : Txt) (h : 128 ≤ c.toNat) : ∃ d t, Lib.mapD upf (c :: r) = d :: t ∧ 128 ≤ d.toNat := by
  rw [Lib.mapD_step _ _ (by simp)]
  have hw := Lib.decodeL_width (c :: r)
  by_cases hv : (Lib.decodeL (c :: r)).1 = 65533 ∧ (Lib.decodeL (c :: r)).2 = 1
  · rw [hv.1, hv.2]
    have e : upf ((65533 : Nat) : Int) = 65533 := by decide
    rw [e, if_pos (by omega)]
    have e2 : Lib.encodeRune 65533 = [239, 191, 189] := by decide
    rw [e2]
    exact ⟨239, _, rfl, by decide⟩
  · have he := Lib.encode_decode (c :: r) (by simp) hv
    obtain ⟨k, hk⟩ : ∃ k, (Lib.decodeL (c :: r)).2 = k + 1 := ⟨(Lib.decodeL (c :: r)).2 - 1, by omega⟩
    have h128 : 128 ≤ (Lib.decodeL (c :: r)).1 := by
      apply Classical.byContradiction
      intro hn
      have h1 : (UInt8.ofNat (Lib.decodeL (c :: r)).1).toNat = (Lib.decodeL (c :: r)).1 := by rw [UInt8.toNat_ofNat']; omega
      have h2 := enc_ascii (UInt8.ofNat (Lib.decodeL (c :: r)).1) (by rw [h1]; omega)
      rw [h1, he, hk, List.take_succ_cons] at h2
      injection h2 with h3 h4
      rw [h3, h1] at h; omega
    have e : upf (((Lib.decodeL (c :: r)).1 : Nat) : Int) = (((Lib.decodeL (c :: r)).1 : Nat) : Int) := by unfold upf; rw [if_neg (by omega)]
    rw [e, if_pos (by omega), he, hk, List.take_succ_cons]
    exact ⟨c, _, rfl, h⟩
/-- A word in great letters is an ASCII word. -/
theorem map_up : ∀ (s W : Txt), (∀ b ∈ W, b.toNat < 128) → (Lib.mapD upf s = W ↔ s.map upb = W)
  | [], W, _ => by rw [Lib.mapD_nil]; rfl
  | c :: r, W, hW => by
    by_cases h : c.toNat < 128
    · rw [up_ascii c r h, List.map_cons]
      cases W with
      | nil => simp
      | cons x W =>
        rw [List.cons.injEq, List.cons.injEq, map_up r W (fun b hb => hW b (by simp [hb]))]
    · obtain ⟨d, t, e, hd⟩ := up_high c r (by omega)
      have hu : upb c = c := by unfold upb; rw [if_neg (by omega)]
      rw [e, List.map_cons, hu]
      cases W with
      | nil => simp
      | cons x W =>
        have hx := hW x (by simp)
        rw [List.cons.injEq, List.cons.injEq]
        constructor
        · rintro ⟨rfl, _⟩; omega
        · rintro ⟨rfl, _⟩; omega
/-- Is a word that one, in great or small letters? -/
def isW (w k : Txt) : Bool := decide (w.map upb = k)
def kON : Txt := [79, 78]
def kOFF : Txt := [79, 70, 70]
def kBC : Txt := [66, 67, 65, 83, 84]
def kOI : Txt := [79, 80, 84, 73, 78]
def kOO : Txt := [79, 80, 84, 79, 85, 84]
def kNL : Txt := [78, 79, 76, 79, 79, 80]
def kRD : Txt := [82, 69, 68, 73, 82, 69, 67, 84]
def kPX : Txt := [80, 82, 69, 70, 73, 88]
/-- A number of a client. -/
def numM (w : Txt) : Option Int := match Whole.wparse w with
  | some n => if n < 0 ∨ 1000000000 < n then none else some n
  | none => none
/-- The words behind the first. -/
def optsM : MD → List Txt → Option MD
  | m, [] => some m
  | m, w :: r =>
    if isW w kBC then optsM { m with bc := true } r
    else if isW w kOI then optsM { m with oi := true } r
    else if isW w kOO then optsM { m with oo := true } r
    else if isW w kNL then optsM { m with nl := true } r
    else match r with
      | [] => none
      | x :: r' =>
        if isW w kRD then (match numM x with
          | some n => optsM { m with rd := n } r'
          | none => none)
        else if isW w kPX then optsM { m with ps := m.ps ++ [x] } r'
        else none
termination_by _ l => l.length
theorem optsM_nil (m : MD) : optsM m [] = some m := by rw [optsM.eq_def]
theorem optsM_cons (m : MD) (w : Txt) (r : List Txt) : optsM m (w :: r) =
    if isW w kBC then optsM { m with bc := true } r
    else if isW w kOI then optsM { m with oi := true } r
    else if isW w kOO then optsM { m with oo := true } r
    else if isW w kNL then optsM { m with nl := true } r
    else match r with
      | [] => none
      | x :: r' =>
        if isW w kRD then (match numM x with
          | some n => optsM { m with rd := n } r'
          | none => none)
        else if isW w kPX then optsM { m with ps := m.ps ++ [x] } r'
        else none := by rw [optsM.eq_def]
/-- Texts in order. -/
def ordT (l : List Txt) : List Txt := l.mergeSort fun x y => decide (x ≤ y)
def finM (m : MD) : MD := { m with ps := if m.bc = true ∧ m.ps = [] then [[]] else ordT m.ps }
def parseM (ws : List Txt) : MD × Int := match ws with
  | [] => (offM, 131)
  | w :: r =>
    if isW w kON = false ∧ isW w kOFF = false then (offM, 131)
    else match optsM { offM with on := true } r with
      | none => (offM, 131)
      | some m => if isW w kON = false then (offM, 0) else if rightM (finM m) = true then (finM m, 0) else (offM, 132)
def setOn (b : Bool) (m : MD) : MD := { m with on := b }
theorem optsM_on (b : Bool) : ∀ (n : Nat) (m : MD) (l : List Txt), l.length ≤ n → optsM (setOn b m) l = (optsM m l).map (setOn b)
  | 0, m, [], _ => by rw [optsM_nil, optsM_nil]; rfl
  | n + 1, m, [], _ => by rw [optsM_nil, optsM_nil]; rfl
  | n + 1, m, w :: r, h => by
    have ih := fun m l hl => optsM_on b n m l hl
    have hr : r.length ≤ n := by simpa using h
    rw [optsM_cons, optsM_cons]
    split
    · exact ih { m with bc := true } r hr
    · split
      · exact ih { m with oi := true } r hr
      · split
        · exact ih { m with oo := true } r hr
        · split
          · exact ih { m with nl := true } r hr
          · cases r with
            | nil => rfl
            | cons x r' =>
              simp only
              have hr' : r'.length ≤ n := by simp at hr; omega
              split
              · cases numM x with
                | none => rfl
                | some k => exact ih { m with rd := k } r' hr'
              · split
                · exact ih { m with ps := m.ps ++ [x] } r' hr'
                · rfl
theorem ord_perm_eq : ∀ {a b : List Txt}, Ord a → Ord b → a.Perm b → a = b
  | [], b, _, _, h => by simpa using h.symm.eq_nil
  | x :: a, [], _, _, h => by simpa using h.eq_nil
  | x :: a, y :: b, ha, hb, h => by
    obtain ⟨ha1, ha2⟩ := List.pairwise_cons.1 ha
    obtain ⟨hb1, hb2⟩ := List.pairwise_cons.1 hb
    have hxy : x = y := by
      have h1 : x ∈ y :: b := h.mem_iff.1 (by simp)
      have h2 : y ∈ x :: a := h.mem_iff.2 (by simp)
      rcases List.mem_cons.1 h1 with e | e
      · exact e
      · rcases List.mem_cons.1 h2 with e2 | e2
        · exact e2.symm
        · have g1 := hb1 x e
          have g2 := ha1 y e2
          rcases LinO.tri x y with g | g | g
          · exact absurd g g1
          · exact g
          · exact absurd g g2
    subst hxy
    rw [ord_perm_eq ha2 hb2 ((List.perm_cons x).1 h)]
theorem ordT_perm (l : List Txt) : (ordT l).Perm l := List.mergeSort_perm l _
theorem ordT_ord (l : List Txt) : Ord (ordT l) := by
  have : (ordT l).Pairwise fun a b => (decide (a ≤ b)) = true := List.pairwise_mergeSort (fun a b c h1 h2 => by
    simp only [decide_eq_true_eq] at *
    exact List.le_trans h1 h2) (fun a b => by
    simp only [Bool.or_eq_true, decide_eq_true_eq]
    exact List.le_total a b) l
  exact this.imp (fun {a b} h => by
    have h : a ≤ b := by simpa using h
    exact List.not_lt.2 h)
theorem ordT_eq {a l : List Txt} (h : Ord a) (hp : a.Perm l) : a = ordT l := ord_perm_eq h (ordT_ord l) (hp.trans (ordT_perm l).symm)
theorem ordT_one (t : Txt) : ordT [t] = [t] := by unfold ordT; simp
/-- Words of a mode. -/
def flagsM (m : MD) : List Txt :=
  if m.on = false then [[111, 102, 102]]
  else [[111, 110]] ++ (if m.bc then [[98, 99, 97, 115, 116]] else []) ++ (if m.oi then [[111, 112, 116, 105, 110]] else []) ++ (if m.oo then [[111, 112, 116, 111, 117, 116]] else []) ++ (if m.nl then [[110, 111, 108, 111, 111, 112]] else [])
end Go.Proofs.YtcpfkkbegnhofaaDoor
