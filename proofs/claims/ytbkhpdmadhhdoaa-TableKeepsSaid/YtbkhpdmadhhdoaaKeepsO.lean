/- TableKeeps: the table and the map beside it, in one world. -/
import Derived.Test.YtbkhpdmadhhdoaaKeepsP
set_option linter.unusedVariables false
set_option linter.unusedSimpArgs false
namespace Go.Proofs.Ytbkhpdmadhhdoaa
open Go.RowKit
open Tbl (Tab)

def strEnc (s : ByteArray) : Value := .string s
/-- Table a and map b, apart from each other and from block c, all new since w. -/
structure Keeps (w w' : World) (a b : Nat) (t : Tab) (m : Nums) (n c : Nat) : Prop where
  at' : ∃ bo bf, TabAt w' a bo bf t ∧ ∀ i, tabF a bo bf t i → w.heap.size ≤ i ∧ i ≠ b ∧ i ≠ c
  inv : t.Inv n
  al : Alike t m
  mp : MapAt strEnc w' b (vm m)
  nb : w.heap.size ≤ b
  nc : c ≠ b
  upd : Upd (fun _ => False) w w'
theorem Keeps.keep {w w' w2 : World} {a b n c : Nat} {t : Tab} {m : Nums} (h : Keeps w w' a b t m n c) (k : Upd (fun _ => False) w' w2) : Keeps w w2 a b t m n c := by
  obtain ⟨bo, bf, h1, h2⟩ := h.at'
  exact ⟨⟨bo, bf, h1.keep k (fun _ _ => id), h2⟩, h.inv, h.al, h.mp.keep k id, h.nb, h.nc, h.upd.trans k (fun _ _ h => h)⟩
theorem Keeps.recent {w w' : World} {a b n c : Nat} {t : Tab} {m : Nums} (h : Keeps w w' a b t m n c) (o : Obj) : Keeps w (w'.alloc o) a b t m n w'.heap.size := by
  have k : Upd (fun _ => False) w' (w'.alloc o) := (Upd.refl _ _).alloc _
  obtain ⟨bo, bf, h1, h2⟩ := h.at'
  refine ⟨⟨bo, bf, h1.keep k (fun _ _ => id), fun i hi => ⟨(h2 i hi).1, (h2 i hi).2.1, fun e => by have := h1.lt i hi; omega⟩⟩, h.inv, h.al, h.mp.keep k id, h.nb, fun e => by have := h.mp.lt; omega, h.upd.trans k (fun _ _ h => h)⟩
theorem keyS : KeyOk Try.prog 9 strEnc := stringKey Try.underlying9
theorem zero64 (w : World) : (zeroValue 2).run Try.prog w = .ok (.int .i64 0) w := by rfl

section
variable {w w' : World} {a b n c : Nat} {t : Tab} {m : Nums}
def LookIs (w : World) (b : Nat) (key : ByteArray) (x : Int) (y : Bool) : Prop :=
  (Instr.lookup 44 (.map (some b)) (.string key) true).run Try.prog w = .ok (.tuple #[.int .i64 x, .bool y]) w
theorem look_is (h : MapAt strEnc w b (vm m)) (key : ByteArray) : LookIs w b key ((aget m key).getD 0) (aget m key).isSome := by
  have := h.look keyS Try.underlying44 (zero64 w) key true
  unfold LookIs
  refine Eq.trans this ?_
  rw [vm_get]
  cases aget m key <;> rfl
/-- The table's block moves on; the map's block and block c stand. -/
theorem Keeps.to (h : Keeps w w' a b t m n c) (hc : c < w'.heap.size) {bo bf : Nat} (h1 : TabAt w' a bo bf t) (h2 : ∀ i, tabF a bo bf t i → w.heap.size ≤ i ∧ i ≠ b ∧ i ≠ c)
    {w2 : World} {t' : Tab} (k : TabTo w' w2 a bo bf t t') : (∃ bo bf, TabAt w2 a bo bf t' ∧ ∀ i, tabF a bo bf t' i → w.heap.size ≤ i ∧ i ≠ b ∧ i ≠ c) ∧ MapAt strEnc w2 b (vm m) ∧ Upd (fun _ => False) w w2 ∧ w2.heap[c]? = w'.heap[c]? ∧ w'.heap.size ≤ w2.heap.size := by
  obtain ⟨bo', bf', k1, k2, k3⟩ := k
  refine ⟨⟨bo', bf', k1, fun i hi => ?_⟩, h.mp.keep k2 (fun hh => (h2 b hh).2.1 rfl), h.upd.trans k2 (fun i hi hh => by have := (h2 i hh).1; omega), k2.block c hc (fun hh => (h2 c hh).2.2 rfl), k2.size⟩
  rcases k3 i hi with g | g
  · exact h2 i g
  · have := h.upd.size; have := h.mp.lt; omega
/-- A step of the map alone. -/
theorem Keeps.turn {w2 w3 : World} {t' : Tab} {m' : Nums} {n' : Nat} (hu : Upd (fun _ => False) w w2) (hb : w.heap.size ≤ b) (hcb : c ≠ b) (ht : ∃ bo bf, TabAt w2 a bo bf t' ∧ ∀ i, tabF a bo bf t' i → w.heap.size ≤ i ∧ i ≠ b ∧ i ≠ c)
    (hi : t'.Inv n') (ha : Alike t' m') (hm : MapAt strEnc w3 b (vm m')) (u : Upd (fun i => i = b) w2 w3) : Keeps w w3 a b t' m' n' c := by
  obtain ⟨bo, bf, h1, h2⟩ := ht
  exact ⟨⟨bo, bf, h1.keep u (fun i hi e => (h2 i hi).2.1 e), h2⟩, hi, ha, hm, hb, hcb, hu.trans u (fun i hi e => by subst e; omega)⟩

theorem keeps_drop (h : Keeps w w' a b t m n c) (hc : c < w'.heap.size) (key : ByteArray) (R : TypeId) (hn : n ≤ 10000) (hk : key.size ≤ 100000) :
    ∃ x y t' m', Calls Try.prog 13 #[.pointer (some ⟨a, 0, none⟩), .string key] w' fun e w2 => e = .returned (.tuple #[.int .i64 x, .bool y]) ∧ LookIs w2 b key x y ∧ w2.heap[c]? = w'.heap[c]? ∧
      ∃ w3, (Builtin.delete_ #[44, 9] R #[.map (some b), .string key]).run Try.prog w2 = .ok (.tuple #[]) w3 ∧ Keeps w w3 a b t' m' n c := by
  obtain ⟨bo, bf, h1, h2⟩ := h.at'
  obtain ⟨al, e⟩ := h.al.drop h.inv key
  refine ⟨(aget m key).getD 0, (aget m key).isSome, (t.drop key).1, adel m key, (tdrop_any n a bo bf t key w' h1 h.inv hn hk).mono fun e' w2 ⟨e1, e2⟩ => ?_⟩
  obtain ⟨k1, k2, k3, k4, k5⟩ := h.to hc h1 h2 e2
  obtain ⟨w3, d1, d2, d3⟩ := k2.del keyS Try.underlying44 key R
  rw [vm_del] at d2
  rw [e] at e1
  exact ⟨e1, look_is k2 key, k4, w3, d1, Keeps.turn k3 h.nb h.nc k1 (Tbl.drop_inv h.inv key) al d2 d3⟩
theorem keeps_put (h : Keeps w w' a b t m n c) (hc : c < w'.heap.size) (key : ByteArray) (x : Int) (hn : n ≤ 10000) (hk : key.size ≤ 100000) :
    ∃ t' m' q, Calls Try.prog 10 #[.pointer (some ⟨a, 0, none⟩), .string key, .int .i64 x] w' fun e w2 => e = .returned (.bool q) ∧ w2.heap[c]? = w'.heap[c]? ∧
      ∃ w3, (Instr.mapUpdate 44 (.map (some b)) (.string key) (.int .i64 x)).run Try.prog w2 = .ok () w3 ∧ Keeps w w3 a b t' m' (n + 1) c := by
  obtain ⟨bo, bf, h1, h2⟩ := h.at'
  refine ⟨(t.put key x).1, aset m key x, (t.put key x).2, (tput_any n a bo bf t key x w' h1 h.inv hn hk).mono fun e' w2 ⟨e1, e2⟩ => ?_⟩
  obtain ⟨k1, k2, k3, k4, k5⟩ := h.to hc h1 h2 e2
  obtain ⟨w3, d1, d2, d3⟩ := k2.put keyS Try.underlying44 key (.int .i64 x)
  rw [vm_set] at d2
  exact ⟨e1, k4, w3, d1, Keeps.turn k3 h.nb h.nc k1 (Tbl.put_inv h.inv key x hk) (h.al.put h.inv key x) d2 d3⟩
theorem keeps_get (h : Keeps w w' a b t m n c) (hc : c < w'.heap.size) (key : ByteArray) (hn : n ≤ 10000) (hk : key.size ≤ 100000) :
    ∃ x y t', Calls Try.prog 19 #[.pointer (some ⟨a, 0, none⟩), .string key] w' fun e w2 => e = .returned (.tuple #[.int .i64 x, .bool y]) ∧ LookIs w2 b key x y ∧ w2.heap[c]? = w'.heap[c]? ∧ Keeps w w2 a b t' m n c := by
  obtain ⟨bo, bf, h1, h2⟩ := h.at'
  obtain ⟨al, e⟩ := h.al.get h.inv key
  refine ⟨(aget m key).getD 0, (aget m key).isSome, (t.get key).1, (tget_any n a bo bf t key w' h1 h.inv hn hk).mono fun e' w2 ⟨e1, e2⟩ => ?_⟩
  obtain ⟨k1, k2, k3, k4, k5⟩ := h.to hc h1 h2 e2
  rw [e] at e1
  exact ⟨e1, look_is k2 key, k4, k1, Tbl.step_inv h.inv, al, k2, h.nb, h.nc, k3⟩
theorem Keeps.small (h : Keeps w w' a b t m n c) (hn : n ≤ 10000) : t.len = (m.length : Int) ∧ m.length ≤ 1000000 := by
  have e := h.al.len h.inv
  have := h.inv.of; have := h.inv.ff; have := h.inv.hi; have := h.inv.hi2
  refine ⟨e, ?_⟩
  have : t.len = t.old.full + t.fresh.full := rfl
  omega
theorem keeps_mlen (h : Keeps w w' a b t m n c) (hn : n ≤ 10000) (R : TypeId) (k : Nat) : (Builtin.len_ #[44] R #[.map (some b)]).run Try.prog (w'.drewN k) = .ok (.int .i64 (m.length : Int)) (w'.drewN k) := by
  have hl : (vm m).length = m.length := by simp [vm]
  have := (h.mp.keep ((Upd.refl (fun _ => False) _).drewN k) id).len R Try.underlying44 (by rw [hl]; have := (h.small hn).2; omega)
  rw [hl] at this; exact this
theorem keeps_len (h : Keeps w w' a b t m n c) (hn : n ≤ 10000) :
    Calls Try.prog 12 #[.pointer (some ⟨a, 0, none⟩)] w' fun e w2 => e = .returned (.int .i64 (m.length : Int)) ∧ ∃ k, w2 = w'.drewN k := by
  obtain ⟨bo, bf, h1, h2⟩ := h.at'
  have := h.inv.of; have := h.inv.ff; have := h.inv.hi; have := h.inv.hi2
  rw [← (h.small hn).1]
  exact len_any a bo bf t w' h1 (by omega) (by omega) (by omega) (by omega)
theorem keeps_keys (h : Keeps w w' a b t m n c) (hn : n ≤ 10000) :
    Calls Try.prog 17 #[.pointer (some ⟨a, 0, none⟩)] w' fun e w2 => ∃ v l, e = .returned v ∧ RowOf strc 1 w2 v l ∧ Keeps w w2 a b t m n c ∧ l.length = m.length ∧
      Hid (∀ key ∈ l, (aget m key).isSome = true) ∧ Hid (∀ i x y, l[i]? = some x → l[i + 1]? = some y → Op.bytesLess x.toList y.toList = true) := by
  obtain ⟨bo, bf, h1, h2⟩ := h.at'
  refine (keys_any n a bo bf t w' h1 h.inv hn).mono fun e w2 ⟨v, e1, e2, e3⟩ => ⟨v, _, e1, e2.row, h.keep e3, ?_, fun key hk => ?_, fun i x y hx hy => sortStr_less (Tbl.keysRaw_nodup h.al.good) hx hy⟩
  · have e := h.al.len h.inv
    rw [← Tbl.keysRaw_len h.inv] at e
    rw [sortStr_len]; omega
  · have hk2 := (h.al.keys key).1 ((sortStr_perm _).mem_iff.1 hk)
    cases hg : aget m key with
    | none => exact absurd hk2 (aget_none.1 hg)
    | some _ => rfl
end
theorem keeps_new {w w1 : World} (hu : Upd (fun _ => False) w w1) :
    Calls Try.prog 9 #[] w1 fun e w2 => ∃ a, e = .returned (.pointer (some ⟨a, 0, none⟩)) ∧ Keeps w (w2.alloc (.map #[] 0)) a w2.heap.size Tab.new [] 0 (w2.heap.size + 1) := by
  refine (new_any w1).mono ?_
  rintro e w2 ⟨a, F, rfl, ⟨bo, bf, h, rfl⟩, u2, hn⟩
  have k : Upd (fun _ => False) w2 (w2.alloc (.map #[] 0)) := (Upd.refl _ _).alloc _
  have := hu.size; have := u2.size
  refine ⟨a, rfl, ⟨bo, bf, h.keep k (fun _ _ => id), fun i hi => ?_⟩, Tbl.inv_new 0, Alike.new, MapAt.made w2, by omega, by omega, (hu.trans u2 (fun _ _ h => h)).trans k (fun _ _ h => h)⟩
  have := hn i hi; have := h.lt i hi; omega
end Go.Proofs.Ytbkhpdmadhhdoaa
