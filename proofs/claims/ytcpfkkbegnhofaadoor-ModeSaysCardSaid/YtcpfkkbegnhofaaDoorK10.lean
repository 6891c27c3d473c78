/- The chapter's example, plain. -/
import Derived.Test.YtcpfkkbegnhofaaDoorK09
import Derived.Test.YtcpfkkbegnhofaaDoorK08
import Derived.Test.YtcpfkkbegnhofaaDoorK02
set_option linter.unusedVariables false
set_option linter.unusedSimpArgs false
namespace Go.Proofs.YtcpfkkbegnhofaaDoor
open Go.RowKit

/-- As optsM, counted. -/
def optsF : Nat → MD → List Txt → Option MD
  | _, m, [] => some m
  | 0, _, _ :: _ => none
  | n + 1, m, w :: r => match optStep m w r with
    | some (m', k) => optsF n m' (r.drop (k - 1))
    | none => none
theorem optsM_F : ∀ (n : Nat) (m : MD) (l : List Txt), l.length ≤ n → optsM m l = optsF n m l
  | 0, m, [], _ => by rw [optsM_nil]; rfl
  | n + 1, m, [], _ => by rw [optsM_nil]; rfl
  | n + 1, m, w :: r, h => by
    rw [optsM_step, optsF]
    cases optStep m w r with
    | none => rfl
    | some p =>
      obtain ⟨m', k⟩ := p
      simp only
      exact optsM_F n m' _ (by simp at h ⊢; omega)
theorem on_of {t : Txt} {r : List Txt} {m : MD} (hb : isW t kON = true) (h : optsF r.length { offM with on := true } r = some m) : parseM (t :: r) = if rightM (finM m) = true then (finM m, 0) else (offM, 132) :=
  parse_on hb (by rw [optsM_F _ _ _ (Nat.le_refl _)]; exact h)
def sOn : Txt := [111, 110]
def sOptin : Txt := [111, 112, 116, 105, 110]
def sOptout : Txt := [111, 112, 116, 111, 117, 116]
def ex1 : List Txt := [sOn, sOptin, sOptout]
def ex2 : List Txt := [[79, 78], [98, 99, 97, 115, 116], [80, 114, 101, 102, 105, 120], [98], [80, 82, 69, 70, 73, 88], [97], [114, 101, 100, 105, 114, 101, 99, 116], [55]]
theorem ex1_eq : parseM ex1 = (offM, 132) := by
  have h := on_of (t := sOn) (r := [sOptin, sOptout]) (m := ⟨true, false, true, true, false, 0, []⟩) (by decide +kernel) (by decide +kernel)
  unfold ex1
  rw [h, if_neg]
  decide +kernel
theorem ord_two : ordT ([[98], [97]] : List Txt) = [[97], [98]] := (ordT_eq (by decide) (by decide)).symm
def ex2M : MD := ⟨true, true, false, false, false, 7, [[97], [98]]⟩
theorem ex2_fin : finM ⟨true, true, false, false, false, 7, [[98], [97]]⟩ = ex2M := by
  unfold finM ex2M
  rw [if_neg (by simp), ord_two]
theorem ex2_eq : parseM ex2 = (ex2M, 0) := by
  have h := on_of (t := [79, 78]) (r := [[98, 99, 97, 115, 116], [80, 114, 101, 102, 105, 120], [98], [80, 82, 69, 70, 73, 88], [97], [114, 101, 100, 105, 114, 101, 99, 116], [55]]) (m := ⟨true, true, false, false, false, 7, [[98], [97]]⟩) (by decide +kernel) (by decide +kernel)
  unfold ex2
  rw [h, ex2_fin, if_pos (by decide +kernel)]
end Go.Proofs.YtcpfkkbegnhofaaDoor
/- Walks: words written out; the chapter's example; ModeNames. -/
set_option linter.unusedVariables false
set_option linter.unusedSimpArgs false
namespace Go.Proofs.YtcpfkkbegnhofaaDoor
open Go.RowKit

theorem lit_rwt (w : World) (l : List Txt) (cs : List Value) (h : cs = l.map fun t => .string (ofL t)) (hl : l.length ≤ 1000) : RwT (w.alloc (.cells cs.toArray 9)) (some ⟨w.heap.size, 0, none⟩) l.length l := by
  subst h
  refine ⟨Or.inr ⟨w.heap.size, 0, l.length, rfl, by simp, by unfold maxLen; omega, fun i a hi j hj => ?_⟩, Nat.le_refl _, by unfold maxLen; omega⟩
  obtain rfl : j = 0 := by omega
  rw [Nat.mul_one, Nat.zero_add, Nat.add_zero, (Blk.made w _ _).cell, List.getElem?_map, hi]; rfl
/-- What Parse hands back. -/
def PR (w : World) (base : Nat) (m : MD) (er : Int) (e : Ending) (w' : World) : Prop :=
  ∃ p' c', e = .returned (.tuple #[.agg #[.bool m.on, .bool m.bc, .bool m.oi, .bool m.oo, .bool m.nl, .int .i64 m.rd, .slice p' m.ps.length c'], .int .i64 er]) ∧ c' ≤ 9223372036854775807 ∧ TxtsAt w' base (.slice p' m.ps.length c') m.ps ∧ Upd (fun _ => False) w w'
theorem own_capT {w : World} {base : Nat} {p : Option Addr} {n c : Nat} {l : List Txt} (h : TxtsAt w base (.slice p n c) l) : c ≤ 9223372036854775807 := by
  rcases h.2 with ⟨e, _⟩ | ⟨g, cap, cs, e, _, _, _, hm, _⟩
  · cases e; omega
  · unfold maxLen at hm
    simp only [Value.slice.injEq] at e
    omega
theorem parseR_any (p : Option Addr) (c : Nat) (ws : List Txt) (w : World) (h : RwT w p c ws) (hs : StdU w) (hn : ws.length ≤ 1000) (hl : ∀ t ∈ ws, t.length ≤ 10000) (m : MD) (er : Int) (hm : parseM ws = (m, er)) :
    Calls Tryd.prog 12 #[.slice p ws.length c] w (PR w w.heap.size m er) := by
  refine (parseW_any p c ws w h hs hn hl).mono ?_
  rintro e w' ⟨v', he, ht, u⟩
  rw [hm] at he ht
  obtain ⟨p', c', rfl, _⟩ := own_slice ht
  exact ⟨p', c', he, own_capT ht, ht, u⟩
theorem parse_lit (w : World) (hs : StdU w) (l : List Txt) (cs : List Value) (h : cs = l.map fun t => .string (ofL t)) (n : Nat) (hnl : n = l.length) (hn : l.length ≤ 1000) (hl : ∀ t ∈ l, t.length ≤ 10000) (m : MD) (er : Int) (hm : parseM l = (m, er)) :
    Calls Tryd.prog 12 #[.slice (some ⟨w.heap.size, 0, none⟩) n n] (w.alloc (.cells cs.toArray 9)) (PR w w.heap.size m er) := by
  subst hnl
  have u0 : Upd (fun _ => False) w (w.alloc (.cells cs.toArray 9)) := (Upd.refl _ _).alloc _
  refine (parseR_any _ _ l _ (lit_rwt w l cs h hn) (hs.keep u0) hn hl m er hm).mono ?_
  rintro e w' ⟨p', c', he, hc, ht, u⟩
  exact ⟨p', c', he, hc, own_monoT ht u0.size, u0.trans u (fun _ _ h => h)⟩
/-- The same, spelled out. -/
theorem parse_out (w : World) (hs : StdU w) (l : List Txt) (cs : List Value) (h : cs = l.map fun t => .string (ofL t)) (n : Nat) (hnl : n = l.length) (hn : l.length ≤ 1000) (hl : ∀ t ∈ l, t.length ≤ 10000) (on bc oi oo nl : Bool) (rd : Int) (ps : List Txt) (k : Nat) (hk : k = ps.length) (er : Int) (hm : parseM l = (⟨on, bc, oi, oo, nl, rd, ps⟩, er)) (b : Nat) (hb : b = w.heap.size) :
    Calls Tryd.prog 12 #[.slice (some ⟨b, 0, none⟩) n n] (w.alloc (.cells cs.toArray 9)) fun e w' => ∃ p' c', e = .returned (.tuple #[.agg #[.bool on, .bool bc, .bool oi, .bool oo, .bool nl, .int .i64 rd, .slice p' k c'], .int .i64 er]) ∧ c' ≤ 9223372036854775807 ∧ TxtsAt w' w.heap.size (.slice p' k c') ps ∧ Upd (fun _ => False) w w' := by
  subst hk hb
  exact parse_lit w hs l cs h n hnl hn hl _ er hm
set_option maxHeartbeats 4000000 in
set_option maxRecDepth 100000 in
theorem alive_any (w : World) (hs : StdU w) : Calls Tryd.prog 9 #[] w fun e w' => e = .returned (.bool true) ∧ Upd (fun _ => False) w w' := by
  have P1 := Lib.hid (parse_out w hs ex1 [.string { data := #[111, 110] }, .string { data := #[111, 112, 116, 105, 110] }, .string { data := #[111, 112, 116, 111, 117, 116] }] rfl 3 rfl (by decide) (by decide) _ _ _ _ _ _ _ 0 rfl 132 ex1_eq _ rfl)
  have P2 := Lib.hid (fun W (u : Upd (fun _ => False) w W) b hb => parse_out W (hs.keep u) ex2 [.string { data := #[79, 78] }, .string { data := #[98, 99, 97, 115, 116] }, .string { data := #[80, 114, 101, 102, 105, 120] }, .string { data := #[98] }, .string { data := #[80, 82, 69, 70, 73, 88] }, .string { data := #[97] }, .string { data := #[114, 101, 100, 105, 114, 101, 99, 116] }, .string { data := #[55] }] rfl 8 rfl (by decide) (by decide) _ _ _ _ _ _ _ 2 rfl 0 ex2_eq b hb)
  clear hs
  go_enter Tryd.func9, Tryd.ntmps9
  go_wp2_with fail
  refine P1.out.mono ?_
  rintro e w1 ⟨p1, c1, rfl, hc1, _, u1⟩
  have UA : Hid (Upd (fun _ => False) w (w1.alloc (.cells #[.bool false, .bool false, .bool false, .bool false, .bool false, .int .i64 0, .slice p1 0 c1] 24))) := Lib.hid (u1.alloc _)
  have P2 := Lib.hid (P2.out _ UA.out (w1.heap.size + 1) (by simp))
  clear u1
  go_wp2_with fail
  refine P2.out.mono ?_
  rintro e w2 ⟨p2, c2, rfl, hc2, t2, u2⟩
  have UB := Lib.hid (UA.out.trans u2 (fun _ _ h => h))
  obtain ⟨g, rfl, hg, hcell0⟩ := txts_get (l := [[97], [98]]) t2 (k := 0) (by simp)
  have hcell : w2.cell? ⟨g, 0, none⟩ = some (.string { data := #[97] }) := hcell0
  clear hcell0
  have RI : Hid (∀ o, Calls Tryd.prog 18 #[.agg #[.bool true, .bool true, .bool false, .bool false, .bool false, .int .i64 7, .slice (some ⟨g, 0, none⟩) 2 c2]] (w2.alloc o) fun e w' => e = .returned (.bool true) ∧ Upd (fun _ => False) (w2.alloc o) w') := Lib.hid (fun o => by
    have := right_any ex2M (.slice (some ⟨g, 0, none⟩) 2 c2) (w2.alloc o) ((txts_row t2).keep ((Upd.refl _ _).alloc o) (fun _ _ _ => id)) (by decide) (by decide)
    rw [show rightM ex2M = true by decide +kernel] at this
    exact this)
  clear t2 u2
  go_wp2_with fail
  refine (RI.out _).mono ?_
  rintro e w3 ⟨rfl, u3⟩
  go_wp2
  go_ret
  exact ⟨rfl, (UB.out.alloc _).trans u3 (fun _ _ h => h)⟩
def sPre : Txt := [112, 114, 101, 102, 105, 120]
def sBc : Txt := [98, 99, 97, 115, 116]
def n2 : List Txt := [sOn, sPre]
def n3 : List Txt := [sOn, sPre, [97]]
def n4 : List Txt := [sOn, sBc]
def n5 : List Txt := [sOn, sBc, sPre, [97], sPre, [97, 98]]
theorem n2_eq : parseM n2 = (offM, 131) := parse_none (b := true) (by decide +kernel) (Or.inl rfl) (by rw [optsM_F _ _ _ (Nat.le_refl _)]; decide +kernel)
theorem n3_eq : parseM n3 = (offM, 132) := by
  have h := on_of (t := sOn) (r := [sPre, [97]]) (m := ⟨true, false, false, false, false, 0, [[97]]⟩) (by decide +kernel) (by decide +kernel)
  have e : finM ⟨true, false, false, false, false, 0, [[97]]⟩ = ⟨true, false, false, false, false, 0, [[97]]⟩ := by unfold finM; rw [if_neg (by simp), ordT_one]
  unfold n3
  rw [h, e, if_neg (by decide +kernel)]
theorem n4_eq : parseM n4 = (⟨true, true, false, false, false, 0, [[]]⟩, 0) := by
  have h := on_of (t := sOn) (r := [sBc]) (m := ⟨true, true, false, false, false, 0, []⟩) (by decide +kernel) (by decide +kernel)
  have e : finM ⟨true, true, false, false, false, 0, []⟩ = ⟨true, true, false, false, false, 0, [[]]⟩ := by unfold finM; rw [if_pos (by simp)]
  unfold n4
  rw [h, e, if_pos (by decide +kernel)]
theorem n5_eq : parseM n5 = (offM, 132) := by
  have h := on_of (t := sOn) (r := [sBc, sPre, [97], sPre, [97, 98]]) (m := ⟨true, true, false, false, false, 0, [[97], [97, 98]]⟩) (by decide +kernel) (by decide +kernel)
  have e : finM ⟨true, true, false, false, false, 0, [[97], [97, 98]]⟩ = ⟨true, true, false, false, false, 0, [[97], [97, 98]]⟩ := by
    unfold finM
    rw [if_neg (by simp), show ordT ([[97], [97, 98]] : List Txt) = [[97], [97, 98]] from (ordT_eq (by decide) (by decide)).symm]
  unfold n5
  rw [h, e, if_neg (by decide +kernel)]
end Go.Proofs.YtcpfkkbegnhofaaDoor
/- Walks: is a mode too great? -/
set_option linter.unusedVariables false
set_option linter.unusedSimpArgs false
namespace Go.Proofs.YtcpfkkbegnhofaaDoor
open Go.RowKit

/-- What is small enough. -/
def Small (m : MD) : Prop := m.ps.length ≤ 50 ∧ ∀ t ∈ m.ps, t.length ≤ 600
def GreatM (m : MD) (w : World) (e : Ending) (w' : World) : Prop := ∃ g : Bool, e = .returned (.bool g) ∧ (g = false → Small m) ∧ Upd (fun _ => False) w w'
theorem take_leT {l : List Txt} {N k : Nat} (h : ∀ w ∈ l.take k, w.length ≤ N) {x : Txt} (hx : l[k]? = some x) (h2 : x.length ≤ N) : ∀ w ∈ l.take (k + 1), w.length ≤ N := by
  obtain ⟨hk, e⟩ := List.getElem?_eq_some_iff.1 hx
  intro w hw
  rw [List.take_succ_eq_append_getElem hk, List.mem_append] at hw
  rcases hw with hw | hw
  · exact h w hw
  · simp at hw; rw [hw, e]; exact h2
set_option maxHeartbeats 4000000 in
set_option maxRecDepth 100000 in
theorem great_any (m : MD) (p : Option Addr) (c : Nat) (w : World) (h : RwT w p c m.ps) (hz : ∀ t ∈ m.ps, t.length ≤ maxLen) :
    Calls Tryd.prog 10 #[mdV m (.slice p m.ps.length c)] w (GreatM m w) := by
  obtain ⟨on, bc, oi, oo, nl, rd, ps⟩ := m
  dsimp only at *
  unfold mdV
  have hle := h.2
  unfold maxLen at hle hz
  have H := Lib.hid h
  have HZ := Lib.hid hz
  obtain ⟨n, hn⟩ : ∃ n, n = ps.length := ⟨_, rfl⟩
  have HN := Lib.hid hn
  dsimp only
  rw [← hn] at hle ⊢
  clear h hz hn
  have U0 : Hid (Upd (fun _ => False) w (w.alloc (.cells #[.bool on, .bool bc, .bool oi, .bool oo, .bool nl, .int .i64 rd, .slice p n c] 24))) := (Upd.refl _ _).alloc _
  by_cases h50 : 50 < n
  · have q1 : (50 : Int) < (n : Int) := by omega
    go_enter Tryd.func10, Tryd.ntmps10
    go_wp2
    go_ret
    exact ⟨true, rfl, fun h => (by cases h), U0.out⟩
  · have q1 : ¬ (50 : Int) < (n : Int) := by omega
    go_enter Tryd.func10, Tryd.ntmps10
    go_wp2
    go_loopw [2, 12] (fun v2 v12 wx => ∃ k : Nat, v2 = .bool false ∧ v12 = .int .i64 (k : Int) ∧ k ≤ n ∧ Hid (∀ t ∈ ps.take k, t.length ≤ 600) ∧ wx = w.alloc (.cells #[.bool on, .bool bc, .bool oi, .bool oo, .bool nl, .int .i64 rd, .slice p n c] 24)) (fun _ v12 _ => n - (intOf v12).toNat)
    case atStart => exact ⟨0, rfl, rfl, by omega, Lib.hid (by simp), rfl⟩
    case round =>
      obtain ⟨k, rfl, rfl, hk, LT, hwr⟩ := hrel
      subst hwr
      by_cases hkn : k < n
      · have q2 : (k : Int) < (n : Int) := by omega
        have hkl : k < ps.length := by rw [← HN.out]; exact hkn
        obtain ⟨b, off, rfl, hb, c0⟩ := txt_rcell (H.out.keep U0.out).1 hkl
        obtain ⟨t, ht⟩ : ∃ t, ps[k]? = some t := ⟨_, List.getElem?_eq_getElem hkl⟩
        have et : ps[k] = t := (List.getElem?_eq_some_iff.1 ht).2
        rw [et] at c0
        have hts := ofL_size t
        have htz := HZ.out t (List.mem_of_getElem? ht)
        have HT := Lib.hid ht
        clear ht et hkl
        by_cases h6 : t.length ≤ 600
        · have q3 : ¬ (600 : Int) < (t.length : Int) := by omega
          go_wp2
          go_roundw
          case rel => exact ⟨k + 1, rfl, by go_num, by omega, Lib.hid (take_leT LT.out HT.out h6), by first | rfl | trivial⟩
          case measure => simp [intOf]; omega
        · have q3 : (600 : Int) < (t.length : Int) := by omega
          go_wp2
          go_ret
          exact ⟨true, rfl, fun h => (by cases h), U0.out⟩
      · have q2 : ¬ (k : Int) < (n : Int) := by omega
        have SM : Hid (Small ⟨on, bc, oi, oo, nl, rd, ps⟩) := Lib.hid ⟨by show ps.length ≤ 50; rw [← HN.out]; omega, by have := LT.out; rwa [List.take_of_length_le (by rw [← HN.out]; omega)] at this⟩
        go_wp2
        go_ret
        exact ⟨false, rfl, fun _ => SM.out, U0.out⟩
end Go.Proofs.YtcpfkkbegnhofaaDoor
/- A mode said in words, plain. -/
set_option linter.unusedVariables false
set_option linter.unusedSimpArgs false
namespace Go.Proofs.YtcpfkkbegnhofaaDoor

def lwB : List Txt := [[79, 78], [66, 67, 65, 83, 84], [79, 80, 84, 73, 78], [79, 80, 84, 79, 85, 84], [78, 79, 76, 79, 79, 80]]
def lwS : List Txt := [[111, 110], [98, 99, 97, 115, 116], [111, 112, 116, 105, 110], [111, 112, 116, 111, 117, 116], [110, 111, 108, 111, 111, 112]]
def lw (s : Bool) : List Txt := if s then lwS else lwB
def wIs (m : MD) : Nat → Bool
  | 0 => m.bc
  | 1 => m.oi
  | 2 => m.oo
  | _ => m.nl
/-- The first word, and those of k marks. -/
def wf (s : Bool) (m : MD) : Nat → List Txt
  | 0 => [(lw s).getD 0 []]
  | k + 1 => wf s m k ++ (if wIs m k then [(lw s).getD (k + 1) []] else [])
def wPre : Txt := [80, 114, 101, 102, 105, 120]
def pw (l : List Txt) : List Txt := l.flatMap fun p => [wPre, p]
theorem wf_len (s : Bool) (m : MD) : ∀ k, (wf s m k).length ≤ k + 1
  | 0 => by simp [wf]
  | k + 1 => by
    have := wf_len s m k
    rw [wf, List.length_append]
    split <;> simp <;> omega
theorem wf_small (s : Bool) (m : MD) : ∀ k, k ≤ 4 → ∀ t ∈ wf s m k, t.length ≤ 10
  | 0, _, t, h => by
    rw [wf, List.mem_singleton] at h
    subst h
    cases s <;> decide
  | k + 1, hk, t, h => by
    rw [wf, List.mem_append] at h
    rcases h with h | h
    · exact wf_small s m k (by omega) t h
    · split at h
      · rw [List.mem_singleton] at h
        subst h
        have : k = 0 ∨ k = 1 ∨ k = 2 ∨ k = 3 := by omega
        rcases this with rfl | rfl | rfl | rfl <;> cases s <;> decide
      · cases h
theorem pw_len (l : List Txt) : (pw l).length = 2 * l.length := by
  unfold pw
  induction l with
  | nil => rfl
  | cons p r ih => rw [List.flatMap_cons, List.length_append, ih]; simp; omega
theorem pw_small {l : List Txt} (h : ∀ t ∈ l, t.length ≤ 512) : ∀ t ∈ pw l, t.length ≤ 512 := by
  intro t ht
  unfold pw at ht
  obtain ⟨p, hp, hm⟩ := List.mem_flatMap.1 ht
  simp only [List.mem_cons, List.not_mem_nil, or_false] at hm
  rcases hm with rfl | rfl
  · decide
  · exact h _ hp
theorem opts_pre (m : MD) (p : Txt) (r : List Txt) : optsM m (wPre :: p :: r) = optsM { m with ps := m.ps ++ [p] } r := by
  rw [optsM_cons, if_neg (by decide), if_neg (by decide), if_neg (by decide), if_neg (by decide)]
  simp only
  rw [if_neg (by decide), if_pos (by decide)]
theorem opts_pw : ∀ (l : List Txt) (m : MD), optsM m (pw l) = some { m with ps := m.ps ++ l }
  | [], m => by unfold pw; rw [List.flatMap_nil, optsM_nil]; simp
  | p :: l, m => by
    have := opts_pw l { m with ps := m.ps ++ [p] }
    unfold pw at this ⊢
    rw [List.flatMap_cons]
    show optsM m (wPre :: p :: l.flatMap _) = _
    rw [opts_pre, this]; simp
theorem opts_bc (s : Bool) (m : MD) (r : List Txt) : optsM m ((lw s).getD 1 [] :: r) = optsM { m with bc := true } r := by
  cases s <;> (rw [optsM_cons, if_pos (by decide)])
theorem opts_oi (s : Bool) (m : MD) (r : List Txt) : optsM m ((lw s).getD 2 [] :: r) = optsM { m with oi := true } r := by
  cases s <;> (rw [optsM_cons, if_neg (by decide), if_pos (by decide)])
theorem opts_oo (s : Bool) (m : MD) (r : List Txt) : optsM m ((lw s).getD 3 [] :: r) = optsM { m with oo := true } r := by
  cases s <;> (rw [optsM_cons, if_neg (by decide), if_neg (by decide), if_pos (by decide)])
theorem opts_nl (s : Bool) (m : MD) (r : List Txt) : optsM m ((lw s).getD 4 [] :: r) = optsM { m with nl := true } r := by
  cases s <;> (rw [optsM_cons, if_neg (by decide), if_neg (by decide), if_neg (by decide), if_pos (by decide)])
theorem opts_wf (s : Bool) (m : MD) (r : List Txt) : ∃ r', wf s m 4 ++ r = (lw s).getD 0 [] :: r' ∧ optsM { offM with on := true } r' = optsM ⟨true, m.bc, m.oi, m.oo, m.nl, 0, []⟩ r := by
  obtain ⟨on, bc, oi, oo, nl, rd, ps⟩ := m
  refine ⟨(if bc then [(lw s).getD 1 []] else []) ++ ((if oi then [(lw s).getD 2 []] else []) ++ ((if oo then [(lw s).getD 3 []] else []) ++ ((if nl then [(lw s).getD 4 []] else []) ++ r))), by simp [wf, wIs], ?_⟩
  have hF : ∀ (a b : List Txt), (if false = true then a else b) = b := fun _ _ => rfl
  have hT : ∀ (a b : List Txt), (if true = true then a else b) = a := fun _ _ => rfl
  have hA : ∀ (x : Txt) (b : List Txt), [x] ++ b = x :: b := fun _ _ => rfl
  have hN : ∀ (b : List Txt), [] ++ b = b := fun _ => rfl
  cases bc <;> cases oi <;> cases oo <;> cases nl <;> (repeat (first | rw [hF] | rw [hT]); repeat (first | rw [hA] | rw [hN]); repeat (first | rw [opts_bc] | rw [opts_oi] | rw [opts_oo] | rw [opts_nl])) <;> rfl
theorem right_rd {m : MD} (h : rightM m = true) (ho : m.on = true) : rightM { m with rd := 0 } = true := by
  unfold rightM at *
  rw [if_neg (by rw [ho]; simp)] at h
  simp only
  rw [if_neg (by rw [ho]; simp)]
  split at h
  · cases h
  · rename_i g
    rw [if_neg (by simp only [not_or] at g ⊢; exact ⟨by omega, by omega, g.2.2⟩)]
    exact h
theorem right_ord {m : MD} (h : rightM m = true) (ho : m.on = true) : ordT m.ps.reverse = m.ps ∧ ¬ (m.bc = true ∧ m.ps.reverse = []) := by
  unfold rightM at h
  rw [if_neg (by rw [ho]; simp)] at h
  split at h
  · cases h
  · split at h
    · rename_i hb
      have e := of_decide_eq_true h
      rw [e]
      exact ⟨by unfold ordT; simp, by rw [hb]; simp⟩
    · have e := of_decide_eq_true h
      have hr := preR_rising e
      refine ⟨(ordT_eq (hr.imp fun g => lin_asymm g) (List.reverse_perm _).symm).symm, fun g => ?_⟩
      have h3 := e.2.2.1
      rw [List.reverse_eq_nil_iff] at g
      rw [g.2] at h3; simp at h3
/-- Said in words, it is that mode. -/
theorem words_mode {m : MD} (s : Bool) (h : rightM m = true) (ho : m.on = true) : parseM (wf s m 4 ++ pw m.ps.reverse) = ({ m with rd := 0 }, 0) := by
  obtain ⟨r', e1, e2⟩ := opts_wf s m (pw m.ps.reverse)
  rw [e1]
  have e3 := opts_pw m.ps.reverse ⟨true, m.bc, m.oi, m.oo, m.nl, 0, []⟩
  rw [← e2] at e3
  obtain ⟨g1, g2⟩ := right_ord h ho
  have e4 : finM ⟨true, m.bc, m.oi, m.oo, m.nl, 0, [] ++ m.ps.reverse⟩ = { m with rd := 0 } := by
    unfold finM
    simp only [List.nil_append]
    rw [if_neg g2, g1]
    obtain ⟨on, bc, oi, oo, nl, rd, ps⟩ := m
    simp only at ho
    subst ho
    rfl
  rw [parse_on (by cases s <;> decide) e3, e4, if_pos (right_rd h ho)]
theorem words_off : parseM [[111, 102, 102]] = (offM, 0) := parse_off (m := ⟨false, false, false, false, false, 0, []⟩) (by decide) (by decide) (by rw [optsM_nil]; rfl)
end Go.Proofs.YtcpfkkbegnhofaaDoor
/- The document's modes: texts in order; which can be; from one to another. -/
set_option linter.unusedVariables false
set_option linter.unusedSimpArgs false
namespace Go.Proofs.YtcpfkkbegnhofaaDoor
open Go.RowKit

set_option maxHeartbeats 8000000 in
set_option maxRecDepth 100000 in
theorem sorted13b_any (v : Value) (l : List Txt) (w : World) (h : RowOf txtc 1 w v l) (hl : l.length ≤ 10000) :
    Calls Tryd.prog 34 #[v] w fun e w' => ∃ v' l', e = .returned v' ∧ TxtsAt w' w.heap.size v' l' ∧ Ord l' ∧ l'.Perm l ∧ Upd (fun _ => False) w w' := by
  obtain ⟨p, c, ev, hm⟩ := h.len
  subst ev
  have H := Lib.hid h
  have MO := Lib.hid (txts_none w)
  have UO : Hid (Upd (fun _ => False) w (w.alloc (.cells #[] 9))) := (Upd.refl _ _).alloc _
  obtain ⟨nl, hnl⟩ : ∃ nl, nl = l.length := ⟨_, rfl⟩
  rw [← hnl] at H hl hm ⊢
  have NL := Lib.hid hnl
  clear h hnl
  go_enter Tryd.func34, Tryd.ntmps34
  go_wp2
  go_loopw [3, 11] (fun out xi wr => ∃ (k g c na : Nat) (acc : List Txt), k ≤ nl ∧ na ≤ k ∧ out = .slice (some ⟨g, 0, none⟩) na c ∧ xi = .int .i64 (k : Int) ∧ Hid (na = acc.length) ∧ na ≤ c ∧ c ≤ maxLen ∧ Hid (Ord acc ∧ acc.Perm (l.take k)) ∧ Hid (TxtsAt wr w.heap.size (.slice (some ⟨g, 0, none⟩) na c) acc) ∧ Hid (Upd (fun _ => False) w wr)) (fun _ xi _ => nl - (intOf xi).toNat)
  case atStart => exact ⟨0, w.heap.size, 0, 0, [], by omega, by omega, rfl, rfl, Lib.hid rfl, by omega, by unfold maxLen; omega, Lib.hid ⟨List.Pairwise.nil, by simp⟩, MO, UO⟩
  case round =>
    clear MO UO
    obtain ⟨k, g, cc, na, acc, hk, hna, rfl, rfl, NA, hcc, hcm, RM, OW, U⟩ := hrel
    have hwl := U.out.size
    unfold maxLen at hcm
    by_cases hlt : k < nl
    · have q1 : (k : Int) < (nl : Int) := by omega
      have hkl : k < l.length := by rw [← NL.out]; exact hlt
      obtain ⟨b, off, ep, hb, c0⟩ := txt_rcell (NL.out ▸ H.out.keep U.out (fun _ _ _ h => h)) hkl
      subst ep
      have TK := Lib.hid (List.take_succ_eq_append_getElem hkl)
      obtain ⟨s, hs⟩ : ∃ s, s = l[k] := ⟨_, rfl⟩
      rw [← hs] at c0 TK
      obtain ⟨sm, hsm⟩ : ∃ sm, sm = ofL s := ⟨_, rfl⟩
      rw [← hsm] at c0
      have SM := Lib.hid hsm
      clear hs hsm hkl
      obtain ⟨w6, rfl⟩ : ∃ w6, w6 = wr := ⟨_, rfl⟩
      go_wp2
      go_loopw [6] (fun x6 wq => ∃ (a : Nat), x6 = .int .i64 (a : Int) ∧ a ≤ na ∧ Hid (wq = w6) ∧ Hid (∀ t ∈ acc.take a, ¬ s < t)) (fun x6 _ => na - (intOf x6).toNat)
      case atStart => exact ⟨0, rfl, by omega, Lib.hid rfl, Lib.hid (fun t ht => by simp at ht)⟩
      case round =>
        obtain ⟨a, rfl, ha, WQ, LT⟩ := hrel
        have hwq := WQ.out
        subst hwq
        clear WQ
        by_cases hal : a < na
        · have hal2 : a < acc.length := by rw [← NA.out]; exact hal
          obtain ⟨g', ep', _, c1⟩ := txts_get (NA.out ▸ OW.out) hal2
          have eg : g = g' := by injection ep' with e; injection e
          subst eg
          have q2 : (a : Int) < (na : Int) := by omega
          have BQ := beq_txt acc[a] s
          have LQ := less_txt acc[a] s
          rw [← SM.out] at BQ LQ
          rcases LinO.tri acc[a] s with hs | hs | hs
          · rw [decide_eq_true hs] at LQ
            rw [decide_eq_false (fun e => LinO.irr s (by rw [e] at hs; exact hs))] at BQ
            have HLE : ¬ s < acc[a] := lin_asymm hs
            have LT2 : Hid (∀ t ∈ acc.take (a + 1), ¬ s < t) := fun t ht => by
              rw [List.take_succ_eq_append_getElem hal2] at ht
              rcases List.mem_append.1 ht with h | h
              · exact LT.out t h
              · rw [List.mem_singleton.1 h]; exact HLE
            clear hs HLE
            generalize ofL acc[a] = sa at *
            clear hal2 ep'
            go_wp2
            go_roundw
            case rel => exact ⟨a + 1, by simp, by omega, Lib.hid (by first | trivial | rfl), LT2⟩
            case measure => simp [intOf]; omega
          · rw [decide_eq_true hs] at BQ
            have HLE : ¬ s < acc[a] := by rw [hs]; exact LinO.irr s
            rw [decide_eq_false (by rw [hs]; exact LinO.irr s)] at LQ
            have LT2 : Hid (∀ t ∈ acc.take (a + 1), ¬ s < t) := fun t ht => by
              rw [List.take_succ_eq_append_getElem hal2] at ht
              rcases List.mem_append.1 ht with h | h
              · exact LT.out t h
              · rw [List.mem_singleton.1 h]; exact HLE
            clear hs HLE
            generalize ofL acc[a] = sa at *
            clear hal2 ep'
            go_wp2
            go_roundw
            case rel => exact ⟨a + 1, by simp, by omega, Lib.hid (by first | trivial | rfl), LT2⟩
            case measure => simp [intOf]; omega
          · rw [decide_eq_false (fun e => LinO.irr s (by rw [e] at hs; exact hs))] at BQ
            rw [decide_eq_false (lin_asymm hs)] at LQ
            have GT : ∀ t ∈ acc.drop a, s < t := fun t ht => by
              rw [List.drop_eq_getElem_cons hal2] at ht
              rcases List.mem_cons.1 ht with h | h
              · rw [h]; exact hs
              · have hp := RM.out.1
                rw [← List.take_append_drop a acc, List.drop_eq_getElem_cons hal2] at hp
                have h3 := (List.pairwise_cons.1 (List.pairwise_append.1 hp).2.1).1 t h
                rcases LinO.tri s t with g | g | g
                · exact g
                · subst g; exact absurd hs h3
                · exact absurd (LinO.tr g hs) h3
            clear hs
            generalize ofL acc[a] = sa at *
            clear hal2 ep'
            obtain ⟨V2, RS1, RS2⟩ := slice_rest g na cc a ha
            have RS3 := slice_head g na cc a (by omega)
            obtain ⟨v2, w2, hr1, R1, U1⟩ := txts_rest wr w.heap.size _ (acc.drop a) (RS2 _ _ _ OW.out) (by rw [List.length_drop, ← NA.out]; omega) hwl
            have OW2 := own_keep OW.out U1 (fun _ _ h => h)
            obtain ⟨p3, c3, w3, hr2, R2, U2⟩ := txts_cut w2 w.heap.size g na cc a acc s OW2 (by rw [← NA.out]; exact ha) (by rw [← NA.out]; omega) (Nat.le_trans hwl U1.size)
            obtain ⟨v4, w4, hr3, R3, U3, NO⟩ := txts_append w3 w.heap.size w.heap.size 22 _ v2 _ _ R2 (own_keep R1 U2 (fun _ _ h => h)) (by simp; rw [← NA.out]; omega) (Nat.le_trans hwl (Nat.le_trans U1.size U2.size))
            rw [← SM.out] at hr2
            obtain ⟨SP1, SP2⟩ := ord_put RM.out.1 LT.out GT
            have LN : (acc.take a ++ [s] ++ acc.drop a).length = na + 1 := by
              rw [List.length_append, List.length_append, List.length_take, List.length_drop, ← NA.out]; simp; omega
            have R3B := own_blk R3
            rw [LN] at R3B
            obtain ⟨_, ⟨_, e0⟩ | ⟨g4, c4, cs4, ev4, _, _, hc4, hm4⟩⟩ := R3B
            · omega
            subst ev4
            have SP2 : Hid ((acc.take a ++ [s] ++ acc.drop a).Perm (l.take (k + 1))) := by
              show _
              rw [TK.out]; exact SP2.trans (RM.out.2.append_right [s])
            have SP1 := Lib.hid SP1
            have LN := Lib.hid LN.symm
            have R3 := Lib.hid R3
            have U4 : Hid (Upd (fun _ => False) w w4) := ((U.out.trans U1 (fun _ _ h => h)).trans U2 (fun _ _ h => h)).trans U3 (fun q hq e => by have := (own_lt R2 e).2.1; omega)
            clear R1 R2 U1 U2 U3 OW2 NO GT RS2
            generalize acc.take a ++ [s] ++ acc.drop a = acc2 at *
            go_wp2_with (first | (at_builtin; refine wpList_builtin rfl _ _ 22 rfl _ _ rfl rfl hr1 ?_) | (at_builtin; refine wpList_builtin rfl _ _ 22 rfl _ _ rfl rfl hr2 ?_) | (at_builtin; refine wpList_builtin rfl _ _ 22 rfl _ _ rfl rfl hr3 ?_))
            go_roundw
            case rel => exact ⟨k + 1, g4, c4, na + 1, acc2, by omega, by omega, rfl, by simp, LN, by omega, hm4, Lib.hid ⟨SP1.out, SP2.out⟩, R3, U4⟩
            case measure => simp [intOf]; omega
        · have q2 : ¬ (a : Int) < (na : Int) := by omega
          have GT : ∀ t ∈ acc.drop a, s < t := fun t ht => by
            rw [List.drop_eq_nil_of_le (by rw [← NA.out]; omega)] at ht; cases ht
          obtain ⟨V2, RS1, RS2⟩ := slice_rest g na cc a ha
          have RS3 := slice_head g na cc a (by omega)
          obtain ⟨v2, w2, hr1, R1, U1⟩ := txts_rest wr w.heap.size _ (acc.drop a) (RS2 _ _ _ OW.out) (by rw [List.length_drop, ← NA.out]; omega) hwl
          have OW2 := own_keep OW.out U1 (fun _ _ h => h)
          obtain ⟨p3, c3, w3, hr2, R2, U2⟩ := txts_cut w2 w.heap.size g na cc a acc s OW2 (by rw [← NA.out]; exact ha) (by rw [← NA.out]; omega) (Nat.le_trans hwl U1.size)
          obtain ⟨v4, w4, hr3, R3, U3, NO⟩ := txts_append w3 w.heap.size w.heap.size 22 _ v2 _ _ R2 (own_keep R1 U2 (fun _ _ h => h)) (by simp; rw [← NA.out]; omega) (Nat.le_trans hwl (Nat.le_trans U1.size U2.size))
          rw [← SM.out] at hr2
          obtain ⟨SP1, SP2⟩ := ord_put RM.out.1 LT.out GT
          have LN : (acc.take a ++ [s] ++ acc.drop a).length = na + 1 := by
            rw [List.length_append, List.length_append, List.length_take, List.length_drop, ← NA.out]; simp; omega
          have R3B := own_blk R3
          rw [LN] at R3B
          obtain ⟨_, ⟨_, e0⟩ | ⟨g4, c4, cs4, ev4, _, _, hc4, hm4⟩⟩ := R3B
          · omega
          subst ev4
          have SP2 : Hid ((acc.take a ++ [s] ++ acc.drop a).Perm (l.take (k + 1))) := by
            show _
            rw [TK.out]; exact SP2.trans (RM.out.2.append_right [s])
          have SP1 := Lib.hid SP1
          have LN := Lib.hid LN.symm
          have R3 := Lib.hid R3
          have U4 : Hid (Upd (fun _ => False) w w4) := ((U.out.trans U1 (fun _ _ h => h)).trans U2 (fun _ _ h => h)).trans U3 (fun q hq e => by have := (own_lt R2 e).2.1; omega)
          clear R1 R2 U1 U2 U3 OW2 NO GT RS2
          generalize acc.take a ++ [s] ++ acc.drop a = acc2 at *
          go_wp2_with (first | (at_builtin; refine wpList_builtin rfl _ _ 22 rfl _ _ rfl rfl hr1 ?_) | (at_builtin; refine wpList_builtin rfl _ _ 22 rfl _ _ rfl rfl hr2 ?_) | (at_builtin; refine wpList_builtin rfl _ _ 22 rfl _ _ rfl rfl hr3 ?_))
          go_roundw
          case rel => exact ⟨k + 1, g4, c4, na + 1, acc2, by omega, by omega, rfl, by simp, LN, by omega, hm4, Lib.hid ⟨SP1.out, SP2.out⟩, R3, U4⟩
          case measure => simp [intOf]; omega
    · have q1 : ¬ (k : Int) < (nl : Int) := by omega
      have EA : Hid (acc.Perm l) := by have := RM.out.2; rwa [List.take_of_length_le (by rw [← NL.out]; omega)] at this
      go_wp2
      go_ret
      exact ⟨_, rfl, acc, OW.out, RM.out.1, EA.out, U.out⟩
end Go.Proofs.YtcpfkkbegnhofaaDoor
/- The document's modes: the same; what may be said; what is told. -/
set_option linter.unusedVariables false
set_option linter.unusedSimpArgs false
namespace Go.Proofs.YtcpfkkbegnhofaaDoor
open Go.RowKit

set_option maxHeartbeats 2000000 in
theorem tracks13_any (m : MD) (v : Value) (c : Int) (w : World) : Calls Tryd.prog 25 #[mdV m v, .int .i64 c] w fun e w' => e = .returned (.bool (tracksM m c)) ∧ Upd (fun _ => False) w w' := by
  obtain ⟨on, bc, oi, oo, nl, rd, ps⟩ := m
  have U : Hid (∀ o, Upd (fun _ => False) w (w.alloc o)) := fun o => (Upd.refl _ _).alloc o
  unfold mdV tracksM
  dsimp only
  by_cases h1 : c = 1
  · subst h1
    cases on <;> cases bc <;> cases oi <;> cases oo <;> (
      go_enter Tryd.func25, Tryd.ntmps25
      go_wp2
      go_ret
      exact ⟨rfl, U.out _⟩)
  · by_cases h2 : c = 2
    · subst h2
      cases on <;> cases bc <;> cases oi <;> cases oo <;> (
        go_enter Tryd.func25, Tryd.ntmps25
        go_wp2
        go_ret
        exact ⟨rfl, U.out _⟩)
    · have e1 : decide (c = 1) = false := decide_eq_false h1
      have e2 : decide (c ≠ 2) = true := decide_eq_true h2
      have e3 : (c == 1) = false := beq_eq_false_iff_ne.2 h1
      have e4 : (c != 2) = true := by rw [bne_iff_ne]; exact h2
      rw [e1, e2]
      cases on <;> cases bc <;> cases oi <;> cases oo <;> (
        go_enter Tryd.func25, Tryd.ntmps25
        go_wp2
        go_ret
        exact ⟨rfl, U.out _⟩)
set_option maxHeartbeats 2000000 in
theorem caching13_any (m : MD) (v : Value) (yes : Bool) (w : World) : Calls Tryd.prog 24 #[mdV m v, .bool yes] w fun e w' => e = .returned (.int .i64 (cachM m yes)) ∧ Upd (fun _ => False) w w' := by
  obtain ⟨on, bc, oi, oo, nl, rd, ps⟩ := m
  have U : Hid (∀ o, Upd (fun _ => False) w (w.alloc o)) := fun o => (Upd.refl _ _).alloc o
  unfold mdV cachM
  dsimp only
  cases on <;> cases oi <;> cases oo <;> cases yes <;> (
    go_enter Tryd.func24, Tryd.ntmps24
    go_wp2
    go_ret
    exact ⟨rfl, U.out _⟩)
set_option maxHeartbeats 8000000 in
set_option maxRecDepth 100000 in
theorem same13r_any (m m' : MD) (v v' : Value) (w : World) (h : RowOf txtc 1 w v m.ps) (h' : RowOf txtc 1 w v' m'.ps) (hl : m.ps.length ≤ 1000000) :
    Calls Tryd.prog 17 #[mdV m v, mdV m' v'] w fun e w' => e = .returned (.bool (decide (m = m'))) ∧ Upd (fun _ => False) w w' := by
  obtain ⟨p, c, rfl, hm⟩ := h.len
  obtain ⟨p', c', rfl, hm'⟩ := h'.len
  unfold maxLen at hm hm'
  obtain ⟨on, bc, oi, oo, nl, rd, ps⟩ := m
  obtain ⟨on', bc', oi', oo', nl', rd', ps'⟩ := m'
  have U : Hid (∀ o o', Upd (fun _ => False) w ((w.alloc o).alloc o')) := fun o o' => ((Upd.refl _ _).alloc o).alloc o'
  have H := Lib.hid h
  have H' := Lib.hid h'
  clear h h'
  unfold mdV
  dsimp only at *
  have RM : Hid (decide ((⟨on, bc, oi, oo, nl, rd, ps⟩ : MD) = ⟨on', bc', oi', oo', nl', rd', ps'⟩) = decide (on = on' ∧ bc = bc' ∧ oi = oi' ∧ oo = oo' ∧ nl = nl' ∧ rd = rd' ∧ ps = ps')) := decide_eq_decide.2 (by
    constructor
    · intro e; injection e with a1 a2 a3 a4 a5 a6 a7; exact ⟨a1, a2, a3, a4, a5, a6, a7⟩
    · rintro ⟨rfl, rfl, rfl, rfl, rfl, rfl, rfl⟩; rfl)
  generalize decide ((⟨on, bc, oi, oo, nl, rd, ps⟩ : MD) = ⟨on', bc', oi', oo', nl', rd', ps'⟩) = dd at *
  by_cases h1 : on = on'
  · subst h1
    by_cases h2 : bc = bc'
    · subst h2
      by_cases h3 : oi = oi'
      · subst h3
        by_cases h4 : oo = oo'
        · subst h4
          by_cases h5 : nl = nl'
          · subst h5
            by_cases h6 : rd = rd'
            · subst h6
              by_cases h7 : ps.length = ps'.length
              · have R : Hid (dd = decide (ps = ps')) := RM.out.trans (decide_eq_decide.2 (by simp))
                clear RM
                obtain ⟨np, hn⟩ : ∃ np, np = ps.length := ⟨_, rfl⟩
                have HN := Lib.hid hn
                have HN' := Lib.hid (hn.trans h7)
                rw [← h7, ← hn] at H' ⊢
                rw [← hn] at H hl hm
                clear hn h7 hm'
                have K1 : Hid (∀ W, Upd (fun _ => False) ((w.alloc (.cells #[.bool on, .bool bc, .bool oi, .bool oo, .bool nl, .int .i64 rd, .slice p np c] 24)).alloc (.cells #[.bool on, .bool bc, .bool oi, .bool oo, .bool nl, .int .i64 rd, .slice p' np c'] 24)) W → Blk W w.heap.size [.bool on, .bool bc, .bool oi, .bool oo, .bool nl, .int .i64 rd, .slice p np c] 24 ∧ Blk W (w.heap.size + 1) [.bool on, .bool bc, .bool oi, .bool oo, .bool nl, .int .i64 rd, .slice p' np c'] 24) := fun W u => by
                  refine ⟨u.blk ((Blk.made w [.bool on, .bool bc, .bool oi, .bool oo, .bool nl, .int .i64 rd, .slice p np c] _).alloc _) (fun h => h), u.blk ?_ (fun h => h)⟩
                  have := Blk.made (w.alloc (.cells #[.bool on, .bool bc, .bool oi, .bool oo, .bool nl, .int .i64 rd, .slice p np c] 24)) [.bool on, .bool bc, .bool oi, .bool oo, .bool nl, .int .i64 rd, .slice p' np c'] 24
                  rw [World.size_alloc] at this; exact this
                go_enter Tryd.func17, Tryd.ntmps17
                go_wp2
                go_loopw [58] (fun x7 wr => ∃ (k : Nat), k ≤ np ∧ x7 = .int .i64 (k : Int) ∧ Hid (ps.take k = ps'.take k) ∧ Hid (Upd (fun _ => False) ((w.alloc (.cells #[.bool on, .bool bc, .bool oi, .bool oo, .bool nl, .int .i64 rd, .slice p np c] 24)).alloc (.cells #[.bool on, .bool bc, .bool oi, .bool oo, .bool nl, .int .i64 rd, .slice p' np c'] 24)) wr)) (fun x7 _ => np - (intOf x7).toNat)
                case atStart => exact ⟨0, by omega, rfl, Lib.hid (by simp), Lib.hid (Upd.refl _ _)⟩
                case round =>
                  obtain ⟨k, hk, rfl, TK, U1⟩ := hrel
                  by_cases hlt : k < np
                  · have q1 : (k : Int) < (np : Int) := by omega
                    obtain ⟨b1, b2⟩ := K1.out wr U1.out
                    have y1 := b1.lt
                    have y2 := b2.lt
                    have d6 := b1.cellAt (i := 6) (v := .slice p np c) rfl
                    have e6 := b2.cellAt (i := 6) (v := .slice p' np c') rfl
                    have hk1 : k < ps.length := by rw [← HN.out]; exact hlt
                    have hk2 : k < ps'.length := by rw [← HN'.out]; exact hlt
                    obtain ⟨g1, o1, ep1, _, c1⟩ := txt_rcell (HN.out ▸ H.out.keep ((U.out _ _).trans U1.out (fun _ _ h => h)) (fun _ _ _ h => h)) hk1
                    obtain ⟨g2, o2, ep2, _, c2⟩ := txt_rcell (HN'.out ▸ H'.out.keep ((U.out _ _).trans U1.out (fun _ _ h => h)) (fun _ _ _ h => h)) hk2
                    subst ep1
                    subst ep2
                    have HX : Hid (ps.take (k + 1) = ps.take k ++ [ps[k]] ∧ ps'.take (k + 1) = ps'.take k ++ [ps'[k]]) := ⟨List.take_succ_eq_append_getElem hk1, List.take_succ_eq_append_getElem hk2⟩
                    obtain ⟨x, hx⟩ : ∃ x, x = ps[k] := ⟨_, rfl⟩
                    obtain ⟨y, hy⟩ : ∃ y, y = ps'[k] := ⟨_, rfl⟩
                    rw [← hx, ← hy] at HX
                    rw [← hx] at c1
                    rw [← hy] at c2
                    have BQ := beq_txt x y
                    clear hx hy hk1 hk2 b1 b2
                    by_cases hxy : x = y
                    · have TK2 : Hid (ps.take (k + 1) = ps'.take (k + 1)) := by
                        show _ = _
                        rw [HX.out.1, HX.out.2, TK.out, hxy]
                      rw [decide_eq_true hxy] at BQ
                      clear hxy
                      generalize ofL x = sx at *
                      generalize ofL y = sy at *
                      have BN : (sx.toList != sy.toList) = false := by first | (simpa using BQ) | (simp [BQ])
                      go_wp2
                      go_quiet (fail)
                      go_wp2
                      go_roundw
                      case rel => exact ⟨k + 1, by omega, by simp, TK2, Lib.hid (U1.out.drewN _)⟩
                      case measure => simp [intOf]; omega
                    · have R2 : Hid (dd = false) := R.out.trans (decide_eq_false (fun e => by
                        have h3 := HX.out.1.symm.trans ((congrArg (List.take (k + 1)) e).trans HX.out.2)
                        have := congrArg List.getLast? h3
                        simp at this
                        exact hxy this))
                      rw [decide_eq_false hxy] at BQ
                      clear hxy R
                      generalize ofL x = sx at *
                      generalize ofL y = sy at *
                      have BN : (sx.toList != sy.toList) = true := by first | (simpa using BQ) | (simp [BQ])
                      go_wp2
                      go_quiet (fail)
                      go_wp2
                      go_ret
                      exact ⟨by rw [R2.out]; rfl, (U.out _ _).trans (U1.out.drewN _) (fun _ _ h => h)⟩
                  · have q1 : ¬ (k : Int) < (np : Int) := by omega
                    have R2 : Hid (dd = true) := R.out.trans (decide_eq_true (by
                      have := TK.out
                      rwa [List.take_of_length_le (by rw [← HN.out]; omega), List.take_of_length_le (by rw [← HN'.out]; omega)] at this))
                    clear R
                    go_wp2
                    go_ret
                    exact ⟨by rw [R2.out]; rfl, (U.out _ _).trans U1.out (fun _ _ h => h)⟩
              · have e : ((ps.length : Int) == (ps'.length : Int)) = false := beq_eq_false_iff_ne.2 (fun h => h7 (by exact_mod_cast h))
                have h8 : ps ≠ ps' := fun e => h7 (by rw [e])
                clear h7
                generalize ps.length = np at *
                generalize ps'.length = np' at *
                have R : Hid (dd = false) := RM.out.trans (by simp [h8])
                clear RM
                go_enter Tryd.func17, Tryd.ntmps17
                go_wp2
                go_ret
                exact ⟨by rw [R.out]; rfl, U.out _ _⟩
            · have e : (rd == rd') = false := beq_eq_false_iff_ne.2 h6
              generalize ps.length = np at *
              generalize ps'.length = np' at *
              have R : Hid (dd = false) := RM.out.trans (by simp [h6])
              clear RM
              go_enter Tryd.func17, Tryd.ntmps17
              go_wp2
              go_ret
              exact ⟨by rw [R.out]; rfl, U.out _ _⟩
          · have e : (nl == nl') = false := beq_eq_false_iff_ne.2 h5
            generalize ps.length = np at *
            generalize ps'.length = np' at *
            have R : Hid (dd = false) := RM.out.trans (by simp [h5])
            clear RM
            go_enter Tryd.func17, Tryd.ntmps17
            go_wp2
            go_ret
            exact ⟨by rw [R.out]; rfl, U.out _ _⟩
        · have e : (oo == oo') = false := beq_eq_false_iff_ne.2 h4
          generalize ps.length = np at *
          generalize ps'.length = np' at *
          have R : Hid (dd = false) := RM.out.trans (by simp [h4])
          clear RM
          go_enter Tryd.func17, Tryd.ntmps17
          go_wp2
          go_ret
          exact ⟨by rw [R.out]; rfl, U.out _ _⟩
      · have e : (oi == oi') = false := beq_eq_false_iff_ne.2 h3
        generalize ps.length = np at *
        generalize ps'.length = np' at *
        have R : Hid (dd = false) := RM.out.trans (by simp [h3])
        clear RM
        go_enter Tryd.func17, Tryd.ntmps17
        go_wp2
        go_ret
        exact ⟨by rw [R.out]; rfl, U.out _ _⟩
    · have e : (bc == bc') = false := beq_eq_false_iff_ne.2 h2
      generalize ps.length = np at *
      generalize ps'.length = np' at *
      have R : Hid (dd = false) := RM.out.trans (by simp [h2])
      clear RM
      go_enter Tryd.func17, Tryd.ntmps17
      go_wp2
      go_ret
      exact ⟨by rw [R.out]; rfl, U.out _ _⟩
  · have e : (on == on') = false := beq_eq_false_iff_ne.2 h1
    generalize ps.length = np at *
    generalize ps'.length = np' at *
    have R : Hid (dd = false) := RM.out.trans (by simp [h1])
    clear RM
    go_enter Tryd.func17, Tryd.ntmps17
    go_wp2
    go_ret
    exact ⟨by rw [R.out]; rfl, U.out _ _⟩
end Go.Proofs.YtcpfkkbegnhofaaDoor
