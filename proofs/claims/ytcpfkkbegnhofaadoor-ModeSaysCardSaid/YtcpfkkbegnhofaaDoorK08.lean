/- Walks: words in great letters; is a word another one? -/
import Derived.Test.YtcpfkkbegnhofaaDoorK03
import Derived.Test.YtcpfkkbegnhofaaDoorK07
import Derived.Shelf.Strings.MapAny
import Derived.Lib.LaidU8
import Derived.Test.YtcpfkkbegnhofaaDoorK05
import Derived.Deep.Upon
import Derived.Laws.StructEq
import Derived.Deep.AppendLies
import Derived.Deep.RegionHeld3
set_option linter.unusedVariables false
set_option linter.unusedSimpArgs false
namespace Go.Proofs.YtcpfkkbegnhofaaDoor
open Go.RowKit

/-- What start-up code has laid: numbers' tables, runes' tables. -/
structure StdU (w : World) : Prop where
  std : Std w
  utf : Lib.Utf8Tabs 0 1 w
theorem StdU.keep {w w' : World} (h : StdU w) (u : Upd (fun _ => False) w w') : StdU w' :=
  ⟨h.std.keep u, Utf8Tabs_below h.utf (u.below (Nat.le_refl _) (fun i h => h.elim))⟩
theorem upFn (W : World) (x : Nat) (hx : x ≤ 1114111) : FnGives Tryd.prog 40 #[] #[encR x] (.int .i32 (upf x)) W := by
  unfold FnGives encR
  show Calls Tryd.prog 40 #[.int .i32 (x : Int)] W _
  unfold upf
  have h0 : (0 : Int) ≤ (x : Int) ∧ (x : Int) ≤ 1114111 := by omega
  obtain ⟨h0, h1⟩ := h0
  generalize (x : Int) = y at *
  clear hx
  by_cases a : (97 : Int) ≤ y
  · by_cases b : y ≤ 122
    · rw [if_pos ⟨a, b⟩]
      have e : y - 97 + 65 = y - 32 := by omega
      have w1 : IntKind.i32.wrap (y - 97) = y - 97 := by unfold IntKind.wrap; simp [IntKind.bits, IntKind.signed]; omega
      have w2 : IntKind.i32.wrap (y - 97 + 65) = y - 97 + 65 := by unfold IntKind.wrap; simp [IntKind.bits, IntKind.signed]; omega
      go_enter Tryd.func40, Tryd.ntmps40
      go_wp2
      go_ret
      exact ⟨ret_int (by omega), 0, rfl⟩
    · rw [if_neg (fun h => b h.2)]
      go_enter Tryd.func40, Tryd.ntmps40
      go_wp2
      go_ret
      exact ⟨rfl, 0, rfl⟩
  · rw [if_neg (fun h => a h.1)]
    go_enter Tryd.func40, Tryd.ntmps40
    go_wp2
    go_ret
    exact ⟨rfl, 0, rfl⟩
theorem wbeq (s k : Txt) (hk : ∀ b ∈ k, b.toNat < 128) : ((ofL (Lib.mapD upf s)).toList == k) = isW s k := by
  rw [ofL_toList]
  unfold isW
  by_cases h : s.map upb = k
  · rw [decide_eq_true h, beq_iff_eq]; exact (map_up s k hk).2 h
  · rw [decide_eq_false h, beq_eq_false_iff_ne]; exact fun e => h ((map_up s k hk).1 e)
set_option maxHeartbeats 2000000 in
set_option maxRecDepth 100000 in
theorem is_any (a k : Txt) (w : World) (ha : a.length ≤ 100000) (hk : k.length ≤ 100) :
    Calls Tryd.prog 32 #[.string (ofL a), .string (ofL k)] w fun e w' => e = .returned (.bool (isW a k)) ∧ w' = w := by
  have sa := ofL_size a
  have sk := ofL_size k
  by_cases hl : a.length = k.length
  · obtain ⟨rb, hrb⟩ : ∃ rb, rb = isW a k := ⟨_, rfl⟩
    rw [← hrb]
    have HR := Lib.hid hrb
    have q0 : ((a.length : Int) != (k.length : Int)) = false := by simp [hl]
    clear hrb
    go_enter Tryd.func32, Tryd.ntmps32
    go_wp2
    go_loopw [4, 5] (fun v4 v5 wr => ∃ i : Nat, v4 = .bool false ∧ v5 = .int .i64 (i : Int) ∧ i ≤ a.length ∧ Hid ((a.take i).map upb = k.take i) ∧ wr = w) (fun _ v5 _ => a.length - (intOf v5).toNat)
    case atStart => exact ⟨0, rfl, rfl, by omega, Lib.hid (by simp), rfl⟩
    case round =>
      obtain ⟨i, rfl, rfl, hi, HT, rfl⟩ := hrel
      by_cases hlt : i < a.length
      · obtain ⟨c, hc⟩ : ∃ c, a[i]? = some c := ⟨_, List.getElem?_eq_getElem hlt⟩
        obtain ⟨d, hd⟩ : ∃ d, k[i]? = some d := ⟨_, List.getElem?_eq_getElem (by omega)⟩
        have rx := run_at a i c hc
        have ry := run_at k i d hd
        have q1 : (i : Int) < (a.length : Int) := by omega
        have HC := Lib.hid hc
        have HD := Lib.hid hd
        have hc0 : (0 : Int) ≤ (c.toNat : Int) ∧ (c.toNat : Int) < 256 := by have := c.toNat_lt; omega
        obtain ⟨hc0, hc1⟩ := hc0
        clear hc hd
        have UB := upb_nat c
        unfold upf at UB
        by_cases hcd : upb c = d
        · have HS : Hid ((a.take (i + 1)).map upb = k.take (i + 1)) := Lib.hid (by
            obtain ⟨h1, e1⟩ := List.getElem?_eq_some_iff.1 HC.out
            obtain ⟨h2, e2⟩ := List.getElem?_eq_some_iff.1 HD.out
            rw [List.take_succ_eq_append_getElem h1, List.take_succ_eq_append_getElem h2, List.map_append, HT.out, e1, e2]; simp [hcd])
          rw [hcd] at UB
          by_cases b1 : (97 : Int) ≤ (c.toNat : Int)
          · by_cases b2 : (c.toNat : Int) ≤ 122
            · rw [if_pos ⟨b1, b2⟩] at UB
              have ew : IntKind.u8.wrap ((c.toNat : Int) - 32) = (c.toNat : Int) - 32 := by unfold IntKind.wrap; simp [IntKind.bits, IntKind.signed]; omega
              have qn : (((c.toNat : Int) - 32) != (d.toNat : Int)) = false := by simp [UB]
              clear hcd UB
              go_wp2
              go_roundw
              case rel => exact ⟨i + 1, rfl, by go_num, by omega, HS, by first | rfl | trivial⟩
              case measure => simp [intOf]; omega
            · rw [if_neg (fun h => b2 h.2)] at UB
              have qn : ((c.toNat : Int) != (d.toNat : Int)) = false := by simp [UB]
              clear hcd UB
              go_wp2
              go_roundw
              case rel => exact ⟨i + 1, rfl, by go_num, by omega, HS, by first | rfl | trivial⟩
              case measure => simp [intOf]; omega
          · rw [if_neg (fun h => b1 h.1)] at UB
            have qn : ((c.toNat : Int) != (d.toNat : Int)) = false := by simp [UB]
            clear hcd UB
            go_wp2
            go_roundw
            case rel => exact ⟨i + 1, rfl, by go_num, by omega, HS, by first | rfl | trivial⟩
            case measure => simp [intOf]; omega
        · have HN : Hid (rb = false) := Lib.hid (by
            rw [HR.out]; unfold isW
            apply decide_eq_false
            intro e
            have := congrArg (fun l : Txt => l[i]?) e
            simp only [List.getElem?_map, HC.out, HD.out, Option.map_some, Option.some.injEq] at this
            exact hcd this)
          have hne : ¬ ((upb c).toNat : Int) = (d.toNat : Int) := fun e => hcd (UInt8.toNat_inj.1 (by omega))
          rw [UB] at hne
          by_cases b1 : (97 : Int) ≤ (c.toNat : Int)
          · by_cases b2 : (c.toNat : Int) ≤ 122
            · rw [if_pos ⟨b1, b2⟩] at hne
              have ew : IntKind.u8.wrap ((c.toNat : Int) - 32) = (c.toNat : Int) - 32 := by unfold IntKind.wrap; simp [IntKind.bits, IntKind.signed]; omega
              have qn : (((c.toNat : Int) - 32) != (d.toNat : Int)) = true := by simp [hne]
              clear hcd UB hne
              go_wp2
              go_ret
              exact ⟨ret_bool HN.out.symm, rfl⟩
            · rw [if_neg (fun h => b2 h.2)] at hne
              have qn : ((c.toNat : Int) != (d.toNat : Int)) = true := by simp [hne]
              clear hcd UB hne
              go_wp2
              go_ret
              exact ⟨ret_bool HN.out.symm, rfl⟩
          · rw [if_neg (fun h => b1 h.1)] at hne
            have qn : ((c.toNat : Int) != (d.toNat : Int)) = true := by simp [hne]
            clear hcd UB hne
            go_wp2
            go_ret
            exact ⟨ret_bool HN.out.symm, rfl⟩
      · have HY : Hid (rb = true) := Lib.hid (by
          rw [HR.out]; unfold isW
          apply decide_eq_true
          have := HT.out
          rwa [List.take_of_length_le (by omega), List.take_of_length_le (by omega)] at this)
        have q1 : ¬ (i : Int) < (a.length : Int) := by omega
        go_wp2
        go_ret
        exact ⟨ret_bool HY.out.symm, rfl⟩
  · have HN : isW a k = false := by
      unfold isW
      apply decide_eq_false
      intro e
      exact hl (by rw [← e, List.length_map])
    rw [HN]
    have q0 : ((a.length : Int) != (k.length : Int)) = true := by
      have : ¬ (a.length : Int) = (k.length : Int) := by omega
      simp [this]
    clear HN
    go_enter Tryd.func32, Tryd.ntmps32
    go_wp2
    go_ret
    exact ⟨rfl, rfl⟩
end Go.Proofs.YtcpfkkbegnhofaaDoor
/- Append of a whole row to a row of the call's own. -/
set_option linter.unusedVariables false
set_option linter.unusedSimpArgs false
namespace Go.Proofs.YtcpfkkbegnhofaaDoor
open Go.RowKit

theorem append_row {P : Program} (w : World) (base base2 : Nat) (t ty e : TypeId) (i : TypeInfo) (z : Value) (bytes : Nat) (ht : P.underlying t = some (.slice e)) (hi : P.info? e = some i) (hz : i.zero = some z)
    (hsize : i.size = 1) (hby : i.bytes = bytes) (hzs : z.cells.size = 1) (v v2 : Value) (n m : Nat) (xs ys : List Value) (hown : w.ownsRow base e 1 v n xs) (h2 : w.ownsRow base2 e 1 v2 m ys) (h1 : ∀ u ∈ ys, u.oneCell' = true)
    (h63 : n + m ≤ maxLen) (hbytes : (n + m) * bytes ≤ 140737488355328) (hbase : base ≤ w.heap.size) :
    ∃ v' w', (Builtin.append_ #[t, t] ty #[v, v2]).run P w = .ok v' w' ∧ w'.ownsRow base e 1 v' (n + m) (xs ++ ys) ∧ Upd (fun k => v.ownBlock = some k) w w' ∧ NewOr v v' w := by
  obtain ⟨hlen, hv2⟩ := h2
  have hsh : ∃ a c, v2 = .slice a m c ∧ (m = 0 ∨ ∃ g, a = some ⟨g, 0, none⟩) ∧ (∀ g, a = some ⟨g, 0, none⟩ → ∀ j u, ys[j]? = some u → w.cell? ((⟨g, 0, none⟩ : Addr).add j) = some u) := by
    rcases hv2 with ⟨rfl, rfl⟩ | ⟨g, cap, cur, rfl, _, hh, q1, q2, q3, q4⟩
    · exact ⟨none, 0, rfl, Or.inl rfl, fun g h => by cases h⟩
    · refine ⟨some ⟨g, 0, none⟩, cap, rfl, Or.inr ⟨g, rfl⟩, fun g' hg' j u hj => ?_⟩
      cases hg'
      have : (⟨g, 0, none⟩ : Addr).add j = ⟨g, j, none⟩ := by unfold Addr.add; split <;> simp_all
      rw [this, cell_of_row w g j cur e (0, 0) hh]
      rw [← q4, List.getElem?_take] at hj
      split at hj
      · simpa using hj
      · cases hj
  obtain ⟨a, c, rfl, hm, hc⟩ := hsh
  by_cases h0 : m = 0
  · subst h0
    have hys : ys = [] := List.length_eq_zero_iff.1 (by omega)
    subst hys
    have hv : ∃ p cp, v = .slice p n cp ∧ n ≤ cp := by
      rcases hown.2 with ⟨rfl, rfl⟩ | ⟨g, cap, cur, rfl, _, _, q1, _⟩
      · exact ⟨_, _, rfl, Nat.le_refl _⟩
      · exact ⟨_, _, rfl, q1⟩
    obtain ⟨p, cp, rfl, hle⟩ := hv
    have hs : Src P i.size t (.slice a 0 c) 0 [] w := by
      cases a with
      | none => exact Src.ofNil w ht c
      | some a => exact Src.ofSlice w ht a 0 c [] (by simp) (fun j u h => by simp at h) (fun u h => by cases h)
    refine ⟨_, _, run_append_nothing (P := P) w t t ty e i ht hi p n cp hle _ hs, by simpa using hown, Upd.refl _ _, fun k hk => Or.inl hk⟩
  · obtain ⟨g, rfl⟩ : ∃ g, a = some ⟨g, 0, none⟩ := hm.elim (fun e => absurd e h0) id
    obtain ⟨v', w', hr, q2, q3, _⟩ := run_append_own (P := P) w base t ty e i z 1 bytes ht hi hz hsize hby hzs (by decide) v n xs hown ⟨g, 0, none⟩ m c ys hlen (hc g rfl) h1 h63 hbytes hbase
    exact ⟨v', w', hr, q2, (Upd.of_grown q3).weaken (fun k _ hk => hk.symm), run_append_where (P := P) w base t ty e i z 1 bytes ht hi hz hsize hby v n xs hown ⟨g, 0, none⟩ m c ys hlen (hc g rfl) h1 (Nat.pos_of_ne_zero h0) h63 hbytes v' w' hr⟩
/-- A step of a region that draws its order: append. -/
theorem step_builtin {P : Program} {ops : Array Oper} {o : Oper} {a : Act} {w w' : World} {K : Act → World → Prop} {Q : Exit → Act → World → Prop} {E : Prop} {v' : Value} (hg : o.guard = none) (s x : Operand) (t : TypeId)
    (ho : o.op = .call { callee := .builtin .append, args := #[s, x], argTypes := #[t, t] }) (u y : Value) (hs : a.eval s = u) (hx : a.eval x = y)
    (hr : (Builtin.append_ #[t, t] o.type #[u, y]).run P w = .ok v' w') (hK : K (a.put o.dst v') w') :
    if Region.wanted o (yielded ops a.tmps) = true then Oper.wp P o a w K Q else E := by
  have hw : Region.wanted o (yielded ops a.tmps) = true := by simp [Region.wanted, hg]
  rw [if_pos hw]
  unfold Oper.wp execOp
  subst hs hx
  simp only [ho, resolve, invoke, builtin, Sem.run_bind, Sem.run_pure, Result.andThen_ok, List.map_toArray, List.map_cons, List.map_nil, hr]
  exact hK
theorem wpList_builtin {P : Program} {ops : Array Oper} {rest : List Oper} {o : Oper} {a : Act} {w w' : World} {Q : Exit → Act → World → Prop} {v' : Value} (hg : o.guard = none) (s x : Operand) (t : TypeId)
    (ho : o.op = .call { callee := .builtin .append, args := #[s, x], argTypes := #[t, t] }) (u y : Value) (hs : a.eval s = u) (hx : a.eval x = y)
    (hr : (Builtin.append_ #[t, t] o.type #[u, y]).run P w = .ok v' w') (hK : wpList P ops Q rest (a.put o.dst v') w') : wpList P ops Q (o :: rest) a w :=
  wpList_plain hg fun K hK' => by
    unfold Oper.wp execOp
    subst hs hx
    simp only [ho, resolve, invoke, builtin, Sem.run_bind, Sem.run_pure, Result.andThen_ok, List.map_toArray, List.map_cons, List.map_nil, hr]
    exact hK' _ _ hK
/-- A row of the call's own, without its last ones. -/
theorem own_cut {w : World} {base n m : Nat} {e : TypeId} {p : Option Addr} {c : Nat} {xs ys : List Value} (h : w.ownsRow base e 1 (.slice p n c) n (xs ++ ys)) (hm : xs.length = m) : w.ownsRow base e 1 (.slice p m c) m xs := by
  obtain ⟨hl, hv⟩ := h
  rw [List.length_append] at hl
  rcases hv with ⟨e1, rfl⟩ | ⟨g, cap, cur, e1, hg, hh, q1, q2, q3, q4⟩
  · cases e1
    have : m = 0 := by omega
    subst this
    exact ⟨by omega, Or.inl ⟨rfl, rfl⟩⟩
  · cases e1
    refine ⟨by omega, Or.inr ⟨g, _, cur, rfl, hg, hh, by omega, q2, q3, ?_⟩⟩
    rw [Nat.mul_one] at *
    have : cur.toList.take m = (cur.toList.take n).take m := by rw [List.take_take, Nat.min_eq_left (by omega)]
    rw [this, q4, ← hm, List.take_left]
end Go.Proofs.YtcpfkkbegnhofaaDoor
/- Rows of texts: cut, put together (as the document does). -/
set_option linter.unusedVariables false
set_option linter.unusedSimpArgs false
namespace Go.Proofs.YtcpfkkbegnhofaaDoor
open Go.RowKit

theorem addr_addY (g o j : Nat) : (⟨g, o, none⟩ : Addr).add j = ⟨g, o + j, none⟩ := Addr.add_lit ..
theorem txts_append (w : World) (base base2 : Nat) (ty : TypeId) (v v2 : Value) (xs ys : List Txt) (h : TxtsAt w base v xs) (h2 : TxtsAt w base2 v2 ys) (hl : xs.length + ys.length ≤ 1000000) (hb : base ≤ w.heap.size) :
    ∃ v' w', (Builtin.append_ #[22, 22] ty #[v, v2]).run Tryd.prog w = .ok v' w' ∧ TxtsAt w' base v' (xs ++ ys) ∧ Upd (fun k => v.ownBlock = some k) w w' ∧ NewOr v v' w := by
  obtain ⟨i0, hi0, hz0, hz1, hz2⟩ := info_parts string_info
  obtain ⟨v', w', a, b, c, d⟩ := append_row w base base2 22 ty 9 i0 (.string ByteArray.empty) 16 Tryd.underlying22 hi0 hz0 hz1 hz2 rfl v v2 xs.length ys.length _ _ h h2 txts_one (by unfold maxLen; omega) (by omega) hb
  refine ⟨v', w', a, ?_, c, d⟩
  unfold TxtsAt
  rw [List.length_append, List.map_append]; exact b
theorem txts_lit (w : World) (t : Txt) : TxtsAt (w.alloc (.cells #[.string (ofL t)] 9)) 0 (.slice (some ⟨w.heap.size, 0, none⟩) 1 1) [t] := own_of (cs := []) (Nat.zero_le _) (Blk.made w _ _) rfl rfl (by unfold maxLen; omega)
theorem txts_none (w : World) : TxtsAt (w.alloc (.cells #[] 9)) w.heap.size (.slice (some ⟨w.heap.size, 0, none⟩) 0 0) [] :=
  World.ownsRow_made (e := 9) (size := 1) w #[] 0 (Nat.le_refl _) (by unfold maxLen; omega) rfl

theorem txts_app (w : World) (base : Nat) (v : Value) (l : List Txt) (t : Txt) (h : TxtsAt w base v l) (hl : l.length ≤ 900000) (hb : base ≤ w.heap.size) :
    ∃ p c w', (Builtin.append_ #[22, 22] 22 #[v, .slice (some ⟨w.heap.size, 0, none⟩) 1 1]).run Tryd.prog (w.alloc (.cells #[.string (ofL t)] 9)) = .ok (.slice p (l.length + 1) c) w' ∧ TxtsAt w' base (.slice p (l.length + 1) c) (l ++ [t]) ∧ Upd (fun k => base ≤ k) w w' := by
  have u0 : Upd (fun _ => False) w (w.alloc (.cells #[.string (ofL t)] 9)) := (Upd.refl _ _).alloc _
  have h0 : TxtsAt (w.alloc (.cells #[.string (ofL t)] 9)) base v l := own_keep h u0 (fun _ _ h => h)
  obtain ⟨v', w', a, b, c, d⟩ := txts_append _ base 0 22 v _ l [t] h0 (txts_lit w t) (by simp; omega) (Nat.le_trans hb u0.size)
  obtain ⟨p, k, e, _⟩ := own_slice b
  rw [List.length_append] at e
  subst e
  exact ⟨p, k, w', a, b, (u0.weaken (F := fun k => base ≤ k) (fun _ _ h => h.elim)).trans c (fun k _ hk => (own_lt h hk).2.1)⟩
theorem txt_row {w : World} {base g n c a : Nat} {l : List Txt} (h : TxtsAt w base (.slice (some ⟨g, 0, none⟩) n c) l) (hn : n = l.length) (ha : a ≤ l.length) : RowOf txtc 1 w (.slice (some ⟨g, a, none⟩) (l.length - a) (c - a)) (l.drop a) := by
  subst hn
  obtain ⟨_, ⟨e, _⟩ | ⟨g', cap, cs, ev, hg, hB, hc, hm⟩⟩ := own_blk h
  · cases e
  · simp only [Value.slice.injEq, Option.some.injEq, Addr.mk.injEq] at ev
    obtain ⟨⟨rfl, _⟩, _, rfl⟩ := ev
    refine Or.inr ⟨g, a, c - a, by rw [List.length_drop], hB.lt, by rw [List.length_drop]; omega, fun i t hi j hj => ?_⟩
    have : j = 0 := by omega
    subst this
    have hil := (List.getElem?_eq_some_iff.1 hi).1
    rw [List.length_drop] at hil
    rw [List.getElem?_drop] at hi
    rw [hB.cell, Nat.mul_one, Nat.add_zero, List.getElem?_append_left (by simp; omega), List.getElem?_map, hi]; rfl
/-- The rest of a row, at a row of its own. -/
theorem txts_rest (w : World) (base : Nat) (v2 : Value) (l : List Txt) (h : RowOf txtc 1 w v2 l) (hl : l.length ≤ 1000000) (hb : base ≤ w.heap.size) :
    ∃ v' w', (Builtin.append_ #[22, 22] 22 #[.slice (some ⟨w.heap.size, 0, none⟩) 0 0, v2]).run Tryd.prog (w.alloc (.cells #[] 9)) = .ok v' w' ∧ TxtsAt w' base v' l ∧ Upd (fun _ => False) w w' := by
  obtain ⟨i0, hi0, hz0, hz1, hz2⟩ := info_parts string_info
  have u0 : Upd (fun _ => False) w (w.alloc (.cells #[] 9)) := (Upd.refl _ _).alloc _
  have h2 := h.keep u0 (fun _ _ _ h => h)
  have hN : TxtsAt (w.alloc (.cells #[] 9)) base (.slice (some ⟨w.heap.size, 0, none⟩) 0 0) [] := World.ownsRow_made (e := 9) (size := 1) w #[] 0 hb (by unfold maxLen; omega) rfl
  by_cases h0 : l = []
  · subst h0
    obtain ⟨p, c, rfl⟩ : ∃ a c, v2 = .slice a 0 c := by
      rcases h2 with ⟨a, c, e, _⟩ | ⟨b, off, cap, e, _⟩
      · exact ⟨_, _, e⟩
      · exact ⟨_, _, e⟩
    have hs : Src Tryd.prog i0.size 22 (.slice p 0 c) 0 [] (w.alloc (.cells #[] 9)) := by
      cases p with
      | none => exact Src.ofNil _ Tryd.underlying22 c
      | some a => exact Src.ofSlice _ Tryd.underlying22 a 0 c [] (by simp) (fun j u h => by simp at h) (fun u h => by cases h)
    exact ⟨_, _, run_append_nothing (P := Tryd.prog) _ 22 22 22 9 i0 Tryd.underlying22 hi0 _ 0 0 (Nat.le_refl _) _ hs, hN, u0⟩
  · obtain ⟨b, off, c, rfl, hb2, _, hc⟩ : ∃ b off cap, v2 = .slice (some ⟨b, off, none⟩) l.length cap ∧ b < (w.alloc (.cells #[] 9)).heap.size ∧ l.length ≤ maxLen ∧ ∀ i a, l[i]? = some a → ∀ j, j < 1 → (w.alloc (.cells #[] 9)).cell? ⟨b, off + (i * 1 + j), none⟩ = (txtc a)[j]? := by
      rcases h2 with ⟨_, _, _, e⟩ | h2
      · exact absurd e h0
      · exact h2
    have hn : ∀ j u, (l.map fun t => Value.string (ofL t))[j]? = some u → (w.alloc (.cells #[] 9)).cell? ((⟨b, off, none⟩ : Addr).add j) = some u := by
      intro j u hj
      rw [List.getElem?_map] at hj
      obtain ⟨t, ht, rfl⟩ := Option.map_eq_some_iff.1 hj
      have h1 := hc j t ht 0 (by omega)
      have e : (⟨b, off, none⟩ : Addr).add j = ⟨b, off + (j * 1 + 0), none⟩ := by simp [Addr.add]
      rw [e, h1]; rfl
    obtain ⟨v', w', hr, q2, q3, _⟩ := run_append_own (P := Tryd.prog) _ base 22 22 9 i0 (.string ByteArray.empty) 1 16 Tryd.underlying22 hi0 hz0 hz1 hz2 rfl (by decide) _ 0 [] hN ⟨b, off, none⟩ l.length c _ (by simp) hn txts_one (by unfold maxLen; omega) (by omega) (Nat.le_trans hb u0.size)
    refine ⟨v', w', hr, ?_, u0.trans (Upd.of_grown q3) (fun k hk e => ?_)⟩
    · unfold TxtsAt
      rw [Nat.zero_add, List.nil_append] at q2; exact q2
    · have e2 : w.heap.size = k := Option.some.inj (e.symm ▸ rfl : (some w.heap.size) = some k)
      omega
theorem slice_rest (g na cc a : Nat) (h1 : a ≤ na) : ∃ V, (∀ w, (Instr.slice 22 (.slice (some ⟨g, 0, none⟩) na cc) (some (.int .i64 (a : Int))) none none).run Tryd.prog w = .ok V w) ∧
    ∀ (w : World) (base : Nat) (l : List Txt), TxtsAt w base (.slice (some ⟨g, 0, none⟩) na cc) l → RowOf txtc 1 w V (l.drop a) := by
  have hE : Tryd.prog.elem 22 = 9 := by simp [Program.elem, Tryd.underlying22]
  refine ⟨_, fun w => by rw [run_slice_l (P := Tryd.prog) w 22 _ na cc (by rw [hE]; exact Tryd.underlying22) .i64 (a : Int) (by omega) (by omega), hE, Tryd.sizeOf9]; rfl, fun w base l h => ?_⟩
  obtain ⟨_, ⟨e, _⟩ | ⟨g', cap, cs, ev, hg, hB, hc, hm⟩⟩ := own_blk h
  · cases e
  simp only [Value.slice.injEq] at ev
  have hnl : na = l.length := ev.2.1
  unfold sliced
  rw [Int.toNat_natCast]
  split
  · rename_i hcc
    have h0 : l.drop a = [] := List.drop_eq_nil_of_le (by omega)
    rw [h0]
    exact Or.inl ⟨_, _, by rw [show na - a = 0 by omega], rfl⟩
  · have e2 : (some (⟨g, 0, none⟩ : Addr)).map (fun x => x.add (a * 1)) = some ⟨g, a, none⟩ := by simp [Addr.add_lit]
    have := txt_row (a := a) h hnl (by omega)
    rw [← hnl] at this
    simpa [addr_addY] using this
theorem slice_head (g na cc a : Nat) (h1 : a ≤ cc) (w : World) : (Instr.slice 22 (.slice (some ⟨g, 0, none⟩) na cc) none (some (.int .i64 (a : Int))) (some (.int .i64 (a : Int)))).run Tryd.prog w = .ok (.slice (some ⟨g, 0, none⟩) a a) w := by
  have hE : Tryd.prog.elem 22 = 9 := by simp [Program.elem, Tryd.underlying22]
  rw [run_slice_hm (P := Tryd.prog) w 22 _ na cc (by rw [hE]; exact Tryd.underlying22) .i64 .i64 (a : Int) (a : Int) (by omega) (by omega) (by omega), hE, Tryd.sizeOf9]
  simp [Result.andThen, sliced, addr_addY]
/-- A text more behind the beginning of a row: at a row of its own. -/
theorem txts_cut (w : World) (base g n c a : Nat) (l : List Txt) (t : Txt) (h : TxtsAt w base (.slice (some ⟨g, 0, none⟩) n c) l) (ha : a ≤ l.length) (hl : l.length ≤ 1000000) (hb : base ≤ w.heap.size) :
    ∃ p c' w', (Builtin.append_ #[22, 22] 22 #[.slice (some ⟨g, 0, none⟩) a a, .slice (some ⟨w.heap.size, 0, none⟩) 1 1]).run Tryd.prog (w.alloc (.cells #[.string (ofL t)] 9)) = .ok (.slice p (a + 1) c') w' ∧ TxtsAt w' base (.slice p (a + 1) c') (l.take a ++ [t]) ∧ Upd (fun _ => False) w w' := by
  obtain ⟨i0, hi0, hz0, hz1, hz2⟩ := info_parts string_info
  have u0 : Upd (fun _ => False) w (w.alloc (.cells #[.string (ofL t)] 9)) := (Upd.refl _ _).alloc _
  obtain ⟨_, ⟨e, _⟩ | ⟨g', cap, cs, ev, hg, hB0, hc, hm⟩⟩ := own_blk h
  · cases e
  simp only [Value.slice.injEq, Option.some.injEq, Addr.mk.injEq] at ev
  obtain ⟨⟨rfl, _⟩, _, rfl⟩ := ev
  have hB := u0.blk hB0 id
  have hxl : ((l.take a).map fun t => Value.string (ofL t)).length = a := by simp; omega
  have holds : ∀ j u, ((l.take a).map fun t => Value.string (ofL t))[j]? = some u → (w.alloc (.cells #[.string (ofL t)] 9)).cell? ((⟨g, 0, none⟩ : Addr).add j) = some u := by
    intro j u hj
    have hjl := (List.getElem?_eq_some_iff.1 hj).1
    rw [hxl] at hjl
    have e : (⟨g, 0, none⟩ : Addr).add j = ⟨g, j, none⟩ := by have := addr_addY g 0 j; rw [Nat.zero_add] at this; exact this
    rw [e, hB.cell, List.getElem?_append_left (by simp; omega), ← hj, List.getElem?_map, List.getElem?_map, List.getElem?_take_of_lt hjl]
  have hN : Blk (w.alloc (.cells #[.string (ofL t)] 9)) w.heap.size [.string (ofL t)] 9 := Blk.made w _ _
  have hn : ∀ j u, [Value.string (ofL t)][j]? = some u → (w.alloc (.cells #[.string (ofL t)] 9)).cell? ((⟨w.heap.size, 0, none⟩ : Addr).add j) = some u := World.news_of_block (cs := #[.string (ofL t)]) (t := 9) (fr := (0, 0)) hN
  generalize hwA : w.alloc (.cells #[.string (ofL t)] 9) = wA at *
  have hr := run_append_grow (P := Tryd.prog) wA 22 22 9 i0 (.string ByteArray.empty) Tryd.underlying22 hi0 hz0 ⟨g, 0, none⟩ a a _ (by rw [hz1, hxl]; simp) holds ⟨w.heap.size, 0, none⟩ 1 1 [.string (ofL t)] (by rw [hz1]; rfl) hn (by omega) (by omega) (growslice_fits (by omega) (by rw [hz2]; show (a + 1) * 16 ≤ _; omega))
  have hge := grownCap_ge wA (a + 1) a 9
  have hcm := grownCap_le_maxLen wA (a + 1) a 9 (by unfold maxLen; omega)
  refine ⟨_, _, _, hr, ⟨by simp, .inr ⟨_, _, _, by simp [Nat.min_eq_left ha], Nat.le_trans hb u0.size, heap_alloc_new wA.drew _, by simp [Nat.min_eq_left ha]; exact hge, hcm, ?_, ?_⟩⟩, ?_⟩
  · simp only [Array.size_append, List.size_toArray, size_zeroCells, hxl, List.length_singleton]
    have : (Value.string ByteArray.empty).cells.size = 1 := rfl
    rw [this]; omega
  · rw [show (l.take a ++ [t]).length * 1 = a + 1 by simp; omega]
    simp only [Array.toList_append, List.append_assoc]
    rw [← List.append_assoc, List.map_append]
    exact List.take_left' (by rw [List.length_append, hxl]; rfl)
  · exact u0.trans ((Upd.refl _ _).drew.alloc _) (fun _ _ h => h)
end Go.Proofs.YtcpfkkbegnhofaaDoor
/- Walks: words in great letters; one word of a mode. -/
set_option linter.unusedVariables false
set_option linter.unusedSimpArgs false
namespace Go.Proofs.YtcpfkkbegnhofaaDoor
open Go.RowKit

theorem upper_any (s : Txt) (hz : s.length ≤ 100000) (w : World) (hs : StdU w) :
    Calls Tryd.prog 28 #[.string (ofL s)] w fun e w' => e = .returned (.string (ofL (Lib.mapD upf s))) ∧ Upd (fun _ => False) w w' := by
  have sz := ofL_size s
  have MP := Lib.hid (Tryd.strings_Map_runes 40 #[] (enters_of Tryd.func40 (by kernel_rfl) rfl) upf (ofL s) w (by omega) (fun W x hx _ => upFn W x hx) (fun x hx => upf_pos x hx) hs.utf)
  have MP : Hid (Calls Tryd.prog 39 #[.func (.func 40) #[] #[], .string (ofL s)] w fun e w' => e = .returned (.string (ofL (Lib.mapD upf s))) ∧ Upd (fun _ => False) w w') := Lib.hid (MP.out.mono fun e w' ⟨h1, h2⟩ => ⟨h1, (Upd.of_below h2).weaken (fun i hi h => by omega)⟩)
  generalize ofL (Lib.mapD upf s) = res at *
  generalize ofL s = st at *
  clear hs
  go_enter Tryd.func28, Tryd.ntmps28
  go_wp2_with fail
  refine (MP.out).mono ?_
  rintro e w1 ⟨rfl, u1⟩
  go_wp2
  go_ret
  exact ⟨rfl, u1⟩
/-- One word more of a mode, and how many words it takes. -/
def optStep (m : MD) (w : Txt) (r : List Txt) : Option (MD × Nat) :=
  if isW w kBC then some ({ m with bc := true }, 1)
  else if isW w kOI then some ({ m with oi := true }, 1)
  else if isW w kOO then some ({ m with oo := true }, 1)
  else if isW w kNL then some ({ m with nl := true }, 1)
  else match r with
    | [] => none
    | x :: _ =>
      if isW w kRD then (match numM x with
        | some n => some ({ m with rd := n }, 2)
        | none => none)
      else if isW w kPX then some ({ m with ps := m.ps ++ [x] }, 2)
      else none
theorem optsM_step (m : MD) (w : Txt) (r : List Txt) : optsM m (w :: r) = match optStep m w r with
    | some (m', k) => optsM m' (r.drop (k - 1))
    | none => none := by
  rw [optsM_cons]
  unfold optStep
  split
  · rfl
  · split
    · rfl
    · split
      · rfl
      · split
        · rfl
        · cases r with
          | nil => rfl
          | cons x r' =>
            simp only
            split
            · cases numM x <;> rfl
            · split <;> rfl
theorem optStep_bounds {m m' : MD} {w : Txt} {r : List Txt} {k : Nat} (h : optStep m w r = some (m', k)) : 1 ≤ k ∧ k ≤ (w :: r).length ∧ m'.ps.length ≤ m.ps.length + 1 ∧ m'.on = m.on ∧ (∀ t ∈ m'.ps, t ∈ m.ps ∨ t ∈ r) := by
  unfold optStep at h
  split at h
  · cases h; exact ⟨by omega, by simp, by simp, rfl, fun t ht => Or.inl ht⟩
  · split at h
    · cases h; exact ⟨by omega, by simp, by simp, rfl, fun t ht => Or.inl ht⟩
    · split at h
      · cases h; exact ⟨by omega, by simp, by simp, rfl, fun t ht => Or.inl ht⟩
      · split at h
        · cases h; exact ⟨by omega, by simp, by simp, rfl, fun t ht => Or.inl ht⟩
        · cases r with
          | nil => cases h
          | cons x r' =>
            simp only at h
            split at h
            · cases hn : numM x with
              | none => rw [hn] at h; cases h
              | some n => rw [hn] at h; cases h; exact ⟨by omega, by simp, by simp, rfl, fun t ht => Or.inl ht⟩
            · split at h
              · cases h
                refine ⟨by omega, by simp, by simp, rfl, fun t ht => ?_⟩
                rcases List.mem_append.1 ht with g | g
                · exact Or.inl g
                · rw [List.mem_singleton.1 g]; exact Or.inr (by simp)
              · cases h
/-- A mode being made, in a block of the call's own. -/
def OptS (w0 w : World) (mb : Nat) (m : MD) (v : Value) : Prop :=
  Blk w mb (mdc m v) 24 ∧ w0.heap.size ≤ mb ∧ TxtsAt w w0.heap.size v m.ps ∧ Upd (fun _ => False) w0 w
theorem OptS.keep {w0 w w' : World} {mb : Nat} {m : MD} {v : Value} (h : OptS w0 w mb m v) (u : Upd (fun _ => False) w w') : OptS w0 w' mb m v := by
  obtain ⟨h1, h2, h3, h4⟩ := h
  exact ⟨u.blk h1 id, h2, own_keep h3 u (fun _ _ h => h), h4.trans u (fun _ _ h => h)⟩
theorem OptS.ne {w0 w : World} {mb : Nat} {m : MD} {v : Value} (h : OptS w0 w mb m v) {b : Nat} (hb : v.ownBlock = some b) : b ≠ mb := by
  rintro rfl
  obtain ⟨_, _, cs, hs⟩ := own_lt h.2.2.1 hb
  exact ty_ne (h.1.ty hs)
theorem OptS.set {w0 w : World} {mb : Nat} {m m' : MD} {v : Value} (h : OptS w0 w mb m v) (i : Nat) (x : Value) (hm : mdc m' v = (mdc m v).set i x) (hp : m'.ps = m.ps) : OptS w0 (w.setCell ⟨mb, i, none⟩ x) mb m' v := by
  have hne := fun b hb => h.ne (b := b) hb
  obtain ⟨h1, h2, h3, h4⟩ := h
  have us : Upd (fun b => b = mb) w (w.setCell ⟨mb, i, none⟩ x) := (Upd.refl _ _).set (fun _ => rfl)
  refine ⟨by rw [hm]; exact h1.set i x, h2, ?_, h4.trans us (fun i hi e => by omega)⟩
  rw [hp]; exact own_keep h3 us (fun b hb e => hne b hb e)
theorem numM_eq (x : ByteArray) (t : Txt) (e : x = ofL t) : (numM t = some (pnum x) ∧ perr x = 0 ∧ ¬ pnum x < 0 ∧ ¬ 1000000000 < pnum x) ∨ (numM t = none ∧ (perr x = 11 ∨ (perr x = 0 ∧ (pnum x < 0 ∨ (¬ pnum x < 0 ∧ 1000000000 < pnum x))))) := by
  subst e
  unfold numM pnum perr
  rw [show (ofL t).data.toList = t from rfl]
  cases h : Whole.wparse t with
  | none => right; exact ⟨rfl, Or.inl rfl⟩
  | some n =>
    by_cases hn : n < 0 ∨ 1000000000 < n
    · right
      refine ⟨by simp [hn], Or.inr ⟨rfl, ?_⟩⟩
      simp only [Option.getD_some]
      omega
    · left
      rw [not_or] at hn
      exact ⟨by simp [hn.1, hn.2], rfl, hn.1, hn.2⟩
theorem txts_app1 (w : World) (base : Nat) (v : Value) (l : List Txt) (t : Txt) (h : TxtsAt w base v l) (hl : l.length ≤ 900000) (hb : base ≤ w.heap.size) :
    ∃ p c w', (Builtin.append_ #[22, 22] 22 #[v, .slice (some ⟨w.heap.size, 0, none⟩) 1 1]).run Tryd.prog (w.alloc (.cells #[.string (ofL t)] 9)) = .ok (.slice p (l.length + 1) c) w' ∧ TxtsAt w' base (.slice p (l.length + 1) c) (l ++ [t]) ∧ Upd (fun k => v.ownBlock = some k) w w' := by
  have u0 : Upd (fun _ => False) w (w.alloc (.cells #[.string (ofL t)] 9)) := (Upd.refl _ _).alloc _
  have h0 : TxtsAt (w.alloc (.cells #[.string (ofL t)] 9)) base v l := own_keep h u0 (fun _ _ h => h)
  obtain ⟨v', w', a, b, c, d⟩ := txts_append _ base 0 22 v _ l [t] h0 (txts_lit w t) (by simp; omega) (Nat.le_trans hb u0.size)
  obtain ⟨p, k, e, _⟩ := own_slice b
  rw [List.length_append] at e
  subst e
  exact ⟨p, k, w', a, b, (u0.weaken (F := fun k => v.ownBlock = some k) (fun _ _ h => h.elim)).trans c (fun _ _ h => h)⟩
/-- What comes of a word. -/
def OptRes (w0 : World) (mb : Nat) (m : MD) (v : Value) (os : Option (MD × Nat)) (e : Ending) (w' : World) : Prop := match os with
  | none => e = .returned (.int .i64 0) ∧ OptS w0 w' mb m v
  | some (m', k) => e = .returned (.int .i64 (k : Int)) ∧ ∃ v', OptS w0 w' mb m' v'
theorem opt_none {w0 w' : World} {mb : Nat} {m : MD} {v : Value} {os : Option (MD × Nat)} (h : os = none) (ho : OptS w0 w' mb m v) : OptRes w0 mb m v os (.returned (.int .i64 0)) w' := by subst h; exact ⟨rfl, ho⟩
theorem opt_some {w0 w' : World} {mb : Nat} {m m' : MD} {v v' : Value} {k : Nat} {n : Int} {os : Option (MD × Nat)} (h : os = some (m', k)) (hn : n = (k : Int)) (ho : OptS w0 w' mb m' v') : OptRes w0 mb m v os (.returned (.int .i64 n)) w' := by subst h hn; exact ⟨rfl, v', ho⟩
set_option maxHeartbeats 8000000 in
set_option maxRecDepth 100000 in
theorem option_any {w0 w : World} {mb : Nat} {m : MD} {v : Value} (h : OptS w0 w mb m v) (vw : Value) (t : Txt) (r : List Txt) (hr : RowOf txtc 1 w vw (t :: r)) (hs : StdU w) (hb : ∀ b, vw.ownBlock = some b → b < w0.heap.size) (hl : ∀ x ∈ t :: r, x.length ≤ 10000) (hps : m.ps.length ≤ 10000) :
    Calls Tryd.prog 29 #[.pointer (some ⟨mb, 0, none⟩), vw] w fun e w' => OptRes w0 mb m v (optStep m t r) e w' := by
  obtain ⟨pw, cw, rfl, hlw⟩ := hr.len
  have UP := upper_any t (by have := hl t (by simp); omega) w hs
  obtain ⟨wb, off, rfl, hwb, c0⟩ := txt_rcell hr (k := 0) (by simp)
  have hc0 : w.cell? ⟨wb, off, none⟩ = some (.string (ofL t)) := by simpa using c0
  unfold maxLen at hlw
  have q0 : (0 : Int) < ((t :: r).length : Int) := by simp
  obtain ⟨U, hU⟩ : ∃ U, U = ofL (Lib.mapD upf t) := ⟨_, rfl⟩
  have b1 : (U.toList == [66, 67, 65, 83, 84]) = isW t kBC := by rw [hU]; exact wbeq t kBC (by decide)
  have b2 : (U.toList == [79, 80, 84, 73, 78]) = isW t kOI := by rw [hU]; exact wbeq t kOI (by decide)
  have b3 : (U.toList == [79, 80, 84, 79, 85, 84]) = isW t kOO := by rw [hU]; exact wbeq t kOO (by decide)
  have b4 : (U.toList == [78, 79, 76, 79, 79, 80]) = isW t kNL := by rw [hU]; exact wbeq t kNL (by decide)
  have b5 : (U.toList == [82, 69, 68, 73, 82, 69, 67, 84]) = isW t kRD := by rw [hU]; exact wbeq t kRD (by decide)
  have b6 : (U.toList == [80, 82, 69, 70, 73, 88]) = isW t kPX := by rw [hU]; exact wbeq t kPX (by decide)
  rw [← hU] at UP
  have UP := Lib.hid UP
  have H := Lib.hid h
  have HR := Lib.hid hr
  have HL := Lib.hid hl
  have HS := Lib.hid hs
  have HB := Lib.hid hb
  have OS : Hid (optStep m t r = if isW t kBC then some ({ m with bc := true }, 1) else if isW t kOI then some ({ m with oi := true }, 1) else if isW t kOO then some ({ m with oo := true }, 1) else if isW t kNL then some ({ m with nl := true }, 1)
    else match r with
    | [] => none
    | x :: _ =>
      if isW t kRD then (match numM x with
        | some n => some ({ m with rd := n }, 2)
        | none => none)
      else if isW t kPX then some ({ m with ps := m.ps ++ [x] }, 2)
      else none) := rfl
  generalize optStep m t r = os at *
  clear c0 hU h hr hl hs hb
  go_enter Tryd.func29, Tryd.ntmps29
  go_wp2_with fail
  refine (UP.out).mono ?_
  rintro e w1 ⟨rfl, u1⟩
  have H1 := Lib.hid (H.out.keep u1)
  have HR1 := Lib.hid (HR.out.keep u1 (fun _ _ _ => id))
  have HS1 := Lib.hid (HS.out.keep u1)
  obtain ⟨x1, f1, e0, e1, e2, e3, e4, e5, e6⟩ := mode_facts H1.out.1
  clear u1
  cases h1 : isW t kBC with
  | true =>
    rw [h1] at b1 OS
    clear b2 b3 b4 b5 b6
    replace OS : Hid (os = some ({ m with bc := true }, 1)) := OS
    have HF := Lib.hid (H1.out.set (m' := { m with bc := true }) 1 (.bool true) rfl rfl)
    go_wp2
    go_ret
    exact opt_some OS.out rfl HF.out
  | false =>
    rw [h1] at b1 OS
    cases h2 : isW t kOI with
    | true =>
      rw [h2] at b2 OS
      clear b3 b4 b5 b6
      replace OS : Hid (os = some ({ m with oi := true }, 1)) := OS
      have HF := Lib.hid (H1.out.set (m' := { m with oi := true }) 2 (.bool true) rfl rfl)
      go_wp2
      go_ret
      exact opt_some OS.out rfl HF.out
    | false =>
      rw [h2] at b2 OS
      cases h3 : isW t kOO with
      | true =>
        rw [h3] at b3 OS
        clear b4 b5 b6
        replace OS : Hid (os = some ({ m with oo := true }, 1)) := OS
        have HF := Lib.hid (H1.out.set (m' := { m with oo := true }) 3 (.bool true) rfl rfl)
        go_wp2
        go_ret
        exact opt_some OS.out rfl HF.out
      | false =>
        rw [h3] at b3 OS
        cases h4 : isW t kNL with
        | true =>
          rw [h4] at b4 OS
          clear b5 b6
          replace OS : Hid (os = some ({ m with nl := true }, 1)) := OS
          have HF := Lib.hid (H1.out.set (m' := { m with nl := true }) 4 (.bool true) rfl rfl)
          go_wp2
          go_ret
          exact opt_some OS.out rfl HF.out
        | false =>
          rw [h4] at b4 OS
          cases r with
          | nil =>
            replace OS : Hid (os = none) := OS
            cases h5 : isW t kRD with
            | true =>
              rw [h5] at b5
              clear b6
              go_wp2
              go_ret
              exact opt_none OS.out H1.out
            | false =>
              rw [h5] at b5
              cases h6 : isW t kPX with
              | true =>
                rw [h6] at b6
                go_wp2
                go_ret
                exact opt_none OS.out H1.out
              | false =>
                rw [h6] at b6
                go_wp2
                go_ret
                exact opt_none OS.out H1.out
          | cons x r' =>
            obtain ⟨wb2, off2, ep, _, c9⟩ := txt_rcell HR1.out (k := 1) (by simp)
            simp only [Option.some.injEq, Addr.mk.injEq] at ep
            obtain ⟨rfl, rfl, _⟩ := ep
            have c1 : w1.cell? ⟨wb, off + 1, none⟩ = some (.string (ofL x)) := by simpa using c9
            clear c9
            have q2 : ¬ ((t :: x :: r').length : Int) < 2 := by simp; omega
            have q3 : (1 : Int) < ((t :: x :: r').length : Int) := by simp; omega
            have hxl := HL.out x (by simp)
            have hxs := ofL_size x
            cases h5 : isW t kRD with
            | true =>
              rw [h5] at b5 OS
              clear b6
              have PA := Lib.hid (parse_any (ofL x) (by omega) w1 HS1.out.std)
              have NM := numM_eq (ofL x) x rfl
              replace OS : Hid (os = match numM x with
                | some n => some ({ m with rd := n }, 2)
                | none => none) := OS
              obtain ⟨sx, hsx⟩ : ∃ sx, sx = ofL x := ⟨_, rfl⟩
              rw [← hsx] at PA NM c1
              clear hsx
              rcases NM with ⟨hm, hp, hq1, hq2⟩ | ⟨hm, hp | ⟨hp, hq1 | ⟨hq1, hq2⟩⟩⟩
              · rw [hm] at OS
                replace OS : Hid (os = some ({ m with rd := pnum sx }, 2)) := OS
                rw [hp] at PA
                generalize pnum sx = nx at *
                clear hm hp
                go_wp2_with fail
                refine PA.out.mono ?_
                rintro e w2 ⟨rfl, u2⟩
                have H2 := Lib.hid (H1.out.keep u2)
                obtain ⟨y1, g1, d0, d1, d2, d3, d4, d5, d6⟩ := mode_facts H2.out.1
                have HF := Lib.hid (H2.out.set (m' := { m with rd := nx }) 5 (.int .i64 nx) rfl rfl)
                clear u2
                go_wp2
                go_ret
                exact opt_some OS.out rfl HF.out
              · rw [hm] at OS
                replace OS : Hid (os = none) := OS
                rw [hp] at PA
                generalize pnum sx = nx at *
                clear hm hp
                go_wp2_with fail
                refine PA.out.mono ?_
                rintro e w2 ⟨rfl, u2⟩
                have H2 := Lib.hid (H1.out.keep u2)
                clear u2
                go_wp2
                go_ret
                exact opt_none OS.out H2.out
              all_goals
                rw [hm] at OS
                replace OS : Hid (os = none) := OS
                rw [hp] at PA
                generalize pnum sx = nx at *
                clear hm hp
                go_wp2_with fail
                refine PA.out.mono ?_
                rintro e w2 ⟨rfl, u2⟩
                have H2 := Lib.hid (H1.out.keep u2)
                clear u2
                go_wp2
                go_ret
                exact opt_none OS.out H2.out
            | false =>
              rw [h5] at b5 OS
              cases h6 : isW t kPX with
              | false =>
                rw [h6] at b6 OS
                replace OS : Hid (os = none) := OS
                go_wp2
                go_ret
                exact opt_none OS.out H1.out
              | true =>
                rw [h6] at b6 OS
                replace OS : Hid (os = some ({ m with ps := m.ps ++ [x] }, 2)) := OS
                obtain ⟨pv, cv, hv, hvl⟩ := own_slice H1.out.2.2.1
                unfold maxLen at hvl
                subst hv
                obtain ⟨p4, c4, w4, hr4, i4, u4⟩ := txts_app1 w1.drew w0.heap.size (.slice pv m.ps.length cv) m.ps x (own_keep H1.out.2.2.1 ((Upd.refl (fun _ => False) w1).drew) (fun _ _ h => h)) (by omega) H1.out.2.2.2.size
                have hr4 : (Builtin.append_ #[22, 22] 22 #[.slice pv m.ps.length cv, .slice (some ⟨w1.heap.size, 0, none⟩) 1 1]).run Tryd.prog (w1.alloc (.cells #[.string (ofL x)] 9)).drew = .ok (.slice p4 (m.ps.length + 1) c4) w4 := hr4
                have q5 : (1 : Int) < (r'.length : Int) + 1 + 1 := by omega
                have u4 : Upd (fun k => (Value.slice pv m.ps.length cv).ownBlock = some k) w1 w4 := ((Upd.refl (fun k => (Value.slice pv m.ps.length cv).ownBlock = some k) w1).drew).trans u4 (fun _ _ h => h)
                have b4 := u4.blk H1.out.1 (fun e => H1.out.ne e rfl)
                have hb4 := b4.lt
                have m4 := b4.free 6
                have z4 : w4.cell? ⟨mb, 6, none⟩ = some (.slice pv m.ps.length cv) := b4.cellAt rfl
                have HF : Hid (OptS w0 (w4.setCell ⟨mb, 6, none⟩ (.slice p4 (m.ps.length + 1) c4)) mb { m with ps := m.ps ++ [x] } (.slice p4 (m.ps.length + 1) c4)) := by
                  have us : Upd (fun b => b = mb) w4 (w4.setCell ⟨mb, 6, none⟩ (.slice p4 (m.ps.length + 1) c4)) := (Upd.refl _ _).set (fun _ => rfl)
                  refine ⟨b4.set 6 _, H1.out.2.1, own_keep i4 us (fun b hb e => ?_), (H1.out.2.2.2.trans u4 (fun i hi e => ?_)).trans us (fun i hi e => ?_)⟩
                  · obtain ⟨_, _, cs, hs⟩ := own_lt i4 hb
                    subst e
                    exact ty_ne (b4.ty hs)
                  · have := (own_lt H1.out.2.2.1 e).2.1; omega
                  · have := H1.out.2.1; omega
                clear u4 i4 b4
                go_wp2
                go_region_law (refine step_builtin rfl _ _ 22 rfl _ _ (by simp [Act.eval, Act.put]) (by simp [Act.eval, Act.put]) hr4 ?_)
                all_goals
                  try go_wp2
                  go_ret
                  exact opt_some OS.out rfl HF.out
end Go.Proofs.YtcpfkkbegnhofaaDoor
