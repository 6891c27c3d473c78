/- TableKeeps, walked. -/
import Derived.Test.YtbkhpdmadhhdoaaKeepsO
import Derived.Deep.RegionHeld3
import Derived.Deep.DeepCutAuto
set_option linter.unusedVariables false
set_option linter.unusedSimpArgs false
namespace Go.Proofs.Ytbkhpdmadhhdoaa
open Go.RowKit
open Tbl (Tab)

set_option maxRecDepth 100000 in
set_option maxHeartbeats 4000000 in
theorem lawKeeps (v : Value) (l : List Act8) (w : World) (h : RowOf act8c 3 w v l) (s : ∀ a ∈ l, a.key.size ≤ maxLen) :
    Calls Try.prog 6 #[v] w fun e w' => e = .returned (.bool true) ∧ Upd (fun _ => False) w w' := by
  obtain ⟨p1, k1, rfl, b1⟩ := h.len
  have H1 := Lib.hid h
  have S1 := Lib.hid s
  clear h s b1
  go_enter Try.func6, Try.ntmps6
  go_wp2_with fail
  refine (alive_any w).mono ?_
  rintro e w1 ⟨rfl, u1⟩
  have G1 := Lib.hid (great8_any _ l w1 (H1.out.keep u1 (fun _ _ _ => id)) S1.out)
  have U1 := Lib.hid u1
  clear u1
  go_wp2_with fail
  refine G1.out.mono ?_
  rintro e w2 ⟨rfl, u2⟩
  have U2 := Lib.hid (U1.out.trans u2 (fun _ _ h => h))
  clear u2 G1 U1
  cases hg1 : great8 l
  · obtain ⟨n1, z1⟩ := great8_no hg1
    have Z1 := Lib.hid z1
    clear z1 hg1
    have N := Lib.hid (keeps_new U2.out)
    go_wp2_with fail
    refine N.out.mono ?_
    rintro e w4 ⟨a, rfl, hT⟩
    have T := Lib.hid hT
    clear N hT
    have mk := run_makeMap (P := Try.prog) 44 w4
    go_wp2
    clear mk
    generalize w4.heap.size = b at *
    go_loopw [30] (fun x wr => ∃ (k n c : Nat) (t : Tab) (m : Nums), k ≤ l.length ∧ n ≤ k ∧ x = .int .i64 (k : Int) ∧ Hid (Keeps w wr a b t m n c)) (fun x _ => l.length - (intOf x).toNat)
    case atStart => exact ⟨0, 0, _, _, _, by omega, by omega, rfl, T⟩
    case round =>
      obtain ⟨k, n, c, t, m, hk, hnk, rfl, T⟩ := hrel
      by_cases hlt : k < l.length
      · obtain ⟨x, off, act, rfl, hb, ha, c0, c1, c2⟩ := act8_cells (H1.out.keep T.out.upd (fun _ _ _ => id)) hlt
        have hsz := Z1.out act (List.mem_of_getElem? ha)
        have T1 := Lib.hid (T.out.recent (.cells #[.int .i64 act.kind, .string act.key, .int .i64 act.n] 39))
        have B1 : Hid (Blk (wr.alloc (.cells #[.int .i64 act.kind, .string act.key, .int .i64 act.n] 39)) wr.heap.size (act8c act) 39) := Blk.made wr (act8c act) _
        clear ha
        by_cases hkind : act.kind = 1
        · have hkb : (act.kind == 1) = true := by simpa using hkind
          obtain ⟨x, y, t', m', D⟩ := keeps_drop T1.out (by simp) act.key 0 (by omega) (by omega)
          have D := Lib.hid D
          clear hkind T T1
          go_wp2_with fail
          refine D.out.mono ?_
          rintro e w5 ⟨rfl, lk, hc, w6, de, hT⟩
          have q1 := B1.out.lt
          have y1 : w5.cell? ⟨wr.heap.size, 1, none⟩ = some (.string act.key) := (World.cell?_of_block hc).trans (B1.out.cellAt rfl)
          have T6 := Lib.hid hT
          have LE := Lib.hid (keeps_len hT (by omega))
          have ML := Lib.hid (fun k => keeps_mlen hT (by omega) 3 k)
          unfold LookIs at lk
          clear D hc hT c0 c1 c2
          go_wp2_with fail
          refine LE.out.mono ?_
          rintro e w7 ⟨rfl, q2, rfl⟩
          have ml := ML.out q2
          clear LE ML
          go_wp2
          go_roundw
          case rel => exact ⟨k + 1, n, _, _, _, by omega, by omega, rfl, T6.out.keep ((Upd.refl (fun _ => False) _).drewN q2)⟩
          case measure => simp [intOf]; omega
        · have hkb : (act.kind == 1) = false := by simpa using hkind
          obtain ⟨t', m', q, D⟩ := keeps_put T1.out (by simp) act.key (k : Int) (by omega) (by omega)
          have D := Lib.hid D
          clear hkind T T1
          go_wp2_with fail
          refine D.out.mono ?_
          rintro e w5 ⟨rfl, hc, w6, de, hT⟩
          have q1 := B1.out.lt
          have y1 : w5.cell? ⟨wr.heap.size, 1, none⟩ = some (.string act.key) := (World.cell?_of_block hc).trans (B1.out.cellAt rfl)
          have T6 := Lib.hid hT
          have LE := Lib.hid (keeps_len hT (by omega))
          have ML := Lib.hid (fun k => keeps_mlen hT (by omega) 3 k)
          clear D hc hT c0 c1 c2
          go_wp2_with fail
          refine LE.out.mono ?_
          rintro e w7 ⟨rfl, q2, rfl⟩
          have ml := ML.out q2
          clear LE ML
          go_wp2
          go_roundw
          case rel => exact ⟨k + 1, n + 1, _, _, _, by omega, by omega, rfl, T6.out.keep ((Upd.refl (fun _ => False) _).drewN q2)⟩
          case measure => simp [intOf]; omega
      · have hk2 : k = l.length := by omega
        subst hk2
        have hn : n ≤ 150 := by omega
        go_wp2
        go_loopw [80] (fun x wr => ∃ (k c : Nat) (t : Tab), k ≤ l.length ∧ x = .int .i64 (k : Int) ∧ Hid (Keeps w wr a b t m n c)) (fun x _ => l.length - (intOf x).toNat)
        case atStart => exact ⟨0, _, _, by omega, rfl, T⟩
        case round =>
          obtain ⟨k, c, t, hk, rfl, T⟩ := hrel
          by_cases hlt : k < l.length
          · obtain ⟨x, off, act, rfl, hb, ha, c0, c1, c2⟩ := act8_cells (H1.out.keep T.out.upd (fun _ _ _ => id)) hlt
            have hsz := Z1.out act (List.mem_of_getElem? ha)
            have T1 := Lib.hid (T.out.recent (.cells #[.int .i64 act.kind, .string act.key, .int .i64 act.n] 39))
            have B1 : Hid (Blk (wr.alloc (.cells #[.int .i64 act.kind, .string act.key, .int .i64 act.n] 39)) wr.heap.size (act8c act) 39) := Blk.made wr (act8c act) _
            clear ha
            obtain ⟨x, y, t', D⟩ := keeps_get T1.out (by simp) act.key (by omega) (by omega)
            have D := Lib.hid D
            clear T T1
            go_wp2_with fail
            refine D.out.mono ?_
            rintro e w5 ⟨rfl, lk, hc, hT⟩
            have q1 := B1.out.lt
            have y1 : w5.cell? ⟨wr.heap.size, 1, none⟩ = some (.string act.key) := (World.cell?_of_block hc).trans (B1.out.cellAt rfl)
            have T6 := Lib.hid hT
            unfold LookIs at lk
            clear D hc hT c0 c1 c2
            go_wp2
            go_roundw
            case rel => exact ⟨k + 1, _, _, by omega, rfl, T6⟩
            case measure => simp [intOf]; omega
          · have KE := Lib.hid (keeps_keys T.out (by omega))
            go_wp2_with fail
            refine KE.out.mono ?_
            rintro e w6 ⟨v, ks, rfl, hv, hT, hlen, hin, hord⟩
            obtain ⟨pv, cv, rfl, hb⟩ := hv.len
            have V := Lib.hid hv
            have T6 := Lib.hid hT
            have LB := Lib.hid hb
            clear hv hT hb KE T
            go_wp2
            go_loopw [111] (fun x wr => ∃ k : Nat, k ≤ ks.length ∧ x = .int .i64 (k : Int) ∧ wr = w6) (fun x _ => ks.length - (intOf x).toNat)
            case atStart => exact ⟨0, by omega, rfl, rfl⟩
            case round =>
              obtain ⟨k, hk, rfl, rfl⟩ := hrel
              by_cases hlt : k < ks.length
              · obtain ⟨y, hy⟩ : ∃ y, ks[k]? = some y := ⟨_, List.getElem?_eq_getElem hlt⟩
                obtain ⟨g, off, cap, e, _, _, cs⟩ : ∃ b off cap, Value.slice pv ks.length cv = .slice (some ⟨b, off, none⟩) ks.length cap ∧ b < wr.heap.size ∧ ks.length ≤ maxLen ∧ ∀ i a, ks[i]? = some a → ∀ j, j < 1 → wr.cell? ⟨b, off + (i * 1 + j), none⟩ = (strc a)[j]? := by
                  rcases V.out with ⟨_, _, _, e⟩ | h
                  · rw [e] at hlt; simp at hlt
                  · exact h
                have d1 : wr.cell? ⟨g, off + k, none⟩ = some (.string y) := by have := cs k y hy 0 (by omega); simpa [strc] using this
                simp only [Value.slice.injEq] at e
                obtain ⟨rfl, _, rfl⟩ := e
                have lk := look_is T6.out.mp y
                rw [hin.out y (List.mem_of_getElem? hy)] at lk
                unfold LookIs at lk
                by_cases hz : k = 0
                · subst hz
                  rw [Nat.add_zero] at d1
                  clear cs hy
                  go_wp2
                  go_roundw
                  case rel => exact ⟨1, by omega, rfl, by first | trivial | rfl⟩
                  case measure => simp [intOf]; omega
                · obtain ⟨j, rfl⟩ : ∃ j, k = j + 1 := ⟨k - 1, by omega⟩
                  obtain ⟨x, hx⟩ : ∃ x, ks[j]? = some x := ⟨_, List.getElem?_eq_getElem (by omega)⟩
                  have d2 : wr.cell? ⟨g, off + j, none⟩ = some (.string x) := by have := cs j x hx 0 (by omega); simpa [strc] using this
                  have less := hord.out j x y hx hy
                  clear cs hy hx
                  have hjb : j < 1000000 := by have := (T6.out.small (by omega)).2; omega
                  go_wp2
                  go_roundw
                  case rel => exact ⟨j + 2, by omega, by go_num, by first | trivial | rfl⟩
                  case measure => simp [intOf]; omega
              · have hk2 : k = ks.length := by omega
                subst hk2
                have ml := keeps_mlen T6.out (by omega) 3 0
                rw [World.drewN_zero] at ml
                have ee : ((ks.length : Int) == (m.length : Int)) = true := by simp [hlen]
                go_wp2
                go_ret
                exact ⟨rfl, T6.out.upd⟩
  · clear hg1
    go_wp2
    go_ret
    exact ⟨rfl, U2.out⟩
end Go.Proofs.Ytbkhpdmadhhdoaa
