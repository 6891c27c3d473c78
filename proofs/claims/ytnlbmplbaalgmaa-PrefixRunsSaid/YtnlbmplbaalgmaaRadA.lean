/- Keys that share their beginnings: texts, what two begin with, where one stands. -/
import Derived.Test.YtnlbmplbaalgmaaRadQ
import Derived.Test.YtnlbmplbaalgmaaOwn
import Derived.IntWalk
import Derived.Deep.RegionHeld3
import Derived.Deep.QuietTactic
import Derived.BigQuiet
set_option linter.unusedVariables false
set_option linter.unusedSimpArgs false
namespace Go.Proofs.Ytnlbmplbaalgmaa
open Go.RowKit

def ofL (l : Txt) : ByteArray := ⟨l.toArray⟩
theorem ofL_toList (l : Txt) : (ofL l).toList = l := by rw [ByteArray.toList_eq]; unfold ofL; simp
theorem ofL_of (b : ByteArray) : ofL b.toList = b := by rw [ByteArray.toList_eq]; unfold ofL; cases b; simp
theorem ofL_size (l : Txt) : (ofL l).size = l.length := by unfold ofL; simp [ByteArray.size]
theorem ofL_inj {a b : Txt} (h : ofL a = ofL b) : a = b := by rw [← ofL_toList a, ← ofL_toList b, h]

theorem lcp_next : ∀ (a b : Txt) (k : Nat), k ≤ (lcp a b).length → (k < (lcp a b).length ↔ ∃ x, a[k]? = some x ∧ b[k]? = some x)
  | [], b, k, _ => by cases b <;> simp [lcp]
  | x :: a, [], k, _ => by simp [lcp]
  | x :: a, y :: b, 0, _ => by
    unfold lcp
    by_cases e : x = y
    · subst e; simp
    · rw [if_neg e]; simp [e, Ne.symm e]
  | x :: a, y :: b, k + 1, h => by
    unfold lcp at h ⊢
    by_cases e : x = y
    · subst e
      rw [if_pos rfl] at h ⊢
      rw [List.length_cons] at h ⊢
      have := lcp_next a b k (by omega)
      simp only [List.getElem?_cons_succ]
      rw [← this]; omega
    · rw [if_neg e] at h; simp at h
theorem run_at (a : Txt) (k : Nat) (x : UInt8) (h : a[k]? = some x) (w : World) : (Instr.index 9 (.string (ofL a)) (.int .i64 (k : Int))).run Try.prog w = .ok (.int .u8 (x.toNat : Int)) w := by
  obtain ⟨hk, e⟩ := List.getElem?_eq_some_iff.1 h
  have hs : (0 : Int) ≤ (k : Int) ∧ (k : Int) < ((ofL a).size : Int) := ⟨by omega, by rw [ofL_size]; omega⟩
  rw [run_index_string w _ _ _ _ Try.underlying9, dif_pos hs]
  subst e
  rfl
set_option maxHeartbeats 4000000 in
set_option maxRecDepth 100000 in
theorem common_any (a b : Txt) (w : World) (ha : a.length ≤ 9223372036854775807) (hb : b.length ≤ 9223372036854775807) :
    Calls Try.prog 43 #[.string (ofL a), .string (ofL b)] w fun e w' => e = .returned (.int .i64 ((lcp a b).length : Int)) ∧ Upd (fun _ => False) w w' := by
  have s1 := ofL_size a
  have s2 := ofL_size b
  go_enter Try.func43, Try.ntmps43
  go_wp2
  go_loopw [5] (fun x5 wr => ∃ (k : Nat), x5 = .int .i64 (k : Int) ∧ k ≤ (lcp a b).length ∧ Hid (Upd (fun _ => False) w wr)) (fun x5 _ => (lcp a b).length - (intOf x5).toNat)
  case atStart => exact ⟨0, rfl, by omega, Lib.hid (Upd.refl _ _)⟩
  case round =>
    obtain ⟨k, rfl, hk, U⟩ := hrel
    have NX := lcp_next a b k hk
    by_cases h1 : k < a.length
    · have q1 : (k : Int) < (a.length : Int) := by omega
      by_cases h2 : k < b.length
      · have q2 : (k : Int) < (b.length : Int) := by omega
        obtain ⟨x, hx⟩ : ∃ x, a[k]? = some x := ⟨_, List.getElem?_eq_getElem h1⟩
        obtain ⟨y, hy⟩ : ∃ y, b[k]? = some y := ⟨_, List.getElem?_eq_getElem h2⟩
        have rx := run_at a k x hx
        have ry := run_at b k y hy
        by_cases e : x = y
        · subst e
          have hk2 := NX.2 ⟨_, hx, hy⟩
          clear NX hx hy
          go_wp2
          go_quiet (fail)
          go_wp2
          go_roundw
          case rel => exact ⟨k + 1, by go_num, by omega, U.out.drewN nq⟩
          case measure => simp [intOf]; omega
        · have hk2 : (lcp a b).length = k := by
            by_cases h : k < (lcp a b).length
            · obtain ⟨z, h3, h4⟩ := NX.1 h
              rw [hx] at h3; rw [hy] at h4
              cases h3; cases h4; exact absurd rfl e
            · omega
          have e2 : ¬ (x.toNat : Int) = (y.toNat : Int) := fun h => e (UInt8.toNat_inj.1 (by omega))
          clear NX hx hy
          go_wp2
          go_quiet (fail)
          go_wp2
          go_ret
          exact ⟨ret_int (by omega), U.out.drewN nq⟩
      · have q2 : ¬ (k : Int) < (b.length : Int) := by omega
        have hk2 : (lcp a b).length = k := by
          have := (lcp_right a b).length_le
          omega
        clear NX
        go_wp2
        go_quiet (fail)
        go_wp2
        go_ret
        exact ⟨ret_int (by omega), U.out.drewN nq⟩
    · have q1 : ¬ (k : Int) < (a.length : Int) := by omega
      have hk2 : (lcp a b).length = k := by
        have := (lcp_left a b).length_le
        omega
      clear NX
      go_wp2
      go_quiet (fail)
      go_wp2
      go_ret
      exact ⟨ret_int (by omega), U.out.drewN nq⟩
def cmpX (l g : Bool) : Int := if l then -1 else if g then 1 else 0
theorem cmpX_any (a b : Int) (w : World) : Calls Try.prog 64 #[.int .u8 a, .int .u8 b] w fun e w' => e = .returned (.int .i64 (cmpX (decide (a < b)) (decide (b < a)))) ∧ w' = w := by
  cases h1 : decide (a < b) with
  | true =>
    go_enter Try.func64, Try.ntmps64
    go_wp2
    go_ret
    exact ⟨rfl, rfl⟩
  | false =>
    cases h2 : decide (b < a) with
    | true =>
      go_enter Try.func64, Try.ntmps64
      go_wp2
      go_ret
      exact ⟨rfl, rfl⟩
    | false =>
      go_enter Try.func64, Try.ntmps64
      go_wp2
      go_ret
      exact ⟨rfl, rfl⟩
def cmpB (a b : UInt8) : Int := if a < b then -1 else if b < a then 1 else 0
theorem cmpB_eq (a b : UInt8) : cmpX (decide ((a.toNat : Int) < (b.toNat : Int))) (decide ((b.toNat : Int) < (a.toNat : Int))) = cmpB a b := by
  have e : ∀ a b : UInt8, ((a.toNat : Int) < (b.toNat : Int)) ↔ a < b := fun a b => by rw [UInt8.lt_iff_toNat_lt]; omega
  unfold cmpX cmpB
  simp only [e, decide_eq_true_eq]
set_option maxRecDepth 100000 in
set_option maxHeartbeats 4000000 in
/-- The byte a node goes on with, beside another one. -/
theorem byte_any (b : Nat) (p : Txt) (c : UInt8) (w : World) (hp : p ≠ []) (h : w.cell? ⟨b, 0, none⟩ = some (.string (ofL p))) :
    Calls Try.prog 63 #[.pointer (some ⟨b, 0, none⟩), .int .u8 (c.toNat : Int)] w fun e w' => e = .returned (.int .i64 (cmpB (p.headD 0) c)) ∧ w' = w := by
  have rx : ∀ w, (Instr.index 9 (.string (ofL p)) (.int .i64 0)).run Try.prog w = .ok (.int .u8 ((p.headD 0).toNat : Int)) w := run_at p 0 (p.headD 0) (by cases p with | nil => exact absurd rfl hp | cons x p => rfl)
  have CB := cmpX_any ((p.headD 0).toNat : Int) (c.toNat : Int) w
  rw [cmpB_eq] at CB
  have CB := Lib.hid CB
  generalize cmpB (p.headD 0) c = q at *
  generalize ((p.headD 0).toNat : Int) = x at *
  generalize (c.toNat : Int) = y at *
  clear hp
  generalize ofL p = s at *
  go_enter Try.func63, Try.ntmps63
  go_wp2_with fail
  refine (CB.out).mono ?_
  rintro e w1 ⟨rfl, rfl⟩
  go_wp2
  go_ret
  exact ⟨rfl, rfl⟩
end Go.Proofs.Ytnlbmplbaalgmaa
