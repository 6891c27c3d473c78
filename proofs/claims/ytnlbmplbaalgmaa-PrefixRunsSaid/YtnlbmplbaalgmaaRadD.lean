/- Keys that share their beginnings: the way to a key. -/
import Derived.Test.YtnlbmplbaalgmaaRadC
import Derived.Test.YtnlbmplbaalgmaaAppW
set_option linter.unusedVariables false
set_option linter.unusedSimpArgs false
namespace Go.Proofs.Ytnlbmplbaalgmaa
open Go.RowKit

theorem nodep_info : (Try.prog.info? 80).map (fun i => (i.zero, i.size, i.bytes)) = some (some (.pointer none), 1, 8) := by kernel_rfl
theorem rinfo_parts {o : Option TypeInfo} {x : Option Value × Nat × Nat} (h : o.map (fun i => (i.zero, i.size, i.bytes)) = some x) : ∃ i, o = some i ∧ i.zero = x.1 ∧ i.size = x.2.1 ∧ i.bytes = x.2.2 := by
  cases o with
  | none => cases h
  | some i => cases h; exact ⟨i, rfl, rfl, rfl, rfl⟩
/-- A way from the root to b. -/
inductive WayTo (G : Nat → Nd) (r : Nat) : List Nat → Nat → Prop
  | root : WayTo G r [r] r
  | step {l : List Nat} {b c : Nat} : WayTo G r l b → c ∈ (G b).kids → WayTo G r (l ++ [c]) c
theorem WayTo.last {G : Nat → Nd} {r : Nat} {l : List Nat} {b : Nat} (h : WayTo G r l b) : ∃ l0, l = l0 ++ [b] := by
  cases h with
  | root => exact ⟨[], rfl⟩
  | step => exact ⟨_, rfl⟩
def strLen : Value → Nat
  | .string s => s.size
  | _ => 0
/-- A row of nodes of the call's own. -/
def NodesAt (w : World) (base : Nat) (v : Value) (l : List Nat) : Prop := w.ownsRow base 80 1 v l.length (l.map ptr)
theorem Place.none {G : Nat → Nd} {K : List Nat} {c : UInt8} {i : Nat} (h : Place G K c i false) : ∀ x ∈ K, hdN G x ≠ c := by
  obtain ⟨K1, K2, rfl, _, h1, ⟨hf, _⟩ | ⟨_, h2⟩⟩ := h
  · cases hf
  · intro x hx e
    rcases List.mem_append.1 hx with hx | hx
    · exact UInt8.lt_irrefl _ (e ▸ h1 x hx)
    · exact UInt8.lt_irrefl _ (e ▸ h2 x hx)
theorem Place.some {G : Nat → Nd} {K : List Nat} {c : UInt8} {i : Nat} (h : Place G K c i true) : ∃ y, K[i]? = some y ∧ hdN G y = c ∧ ∃ K1 K2, K = K1 ++ y :: K2 ∧ K1.length = i := by
  obtain ⟨K1, K2, rfl, rfl, h1, ⟨_, y, K3, rfl, hy⟩ | ⟨hf, _⟩⟩ := h
  · exact ⟨y, by simp, hy, K1, K3, rfl, rfl⟩
  · cases hf
theorem Flat.miss {r : Nat} {bs : List Nat} {G : Nat → Nd} {T : Nat → Txt} (h : Flat r bs G T) {b : Nat} {key rest r1 : Txt} {c : UInt8} (hb : b ∈ bs) (e : T b ++ rest = key) (hr : rest = c :: r1) (hn : ∀ x ∈ (G b).kids, hdN G x = c → ¬ (G x).part <+: rest) : ∀ d ∈ bs, T d ≠ key := by
  rintro d hd rfl
  obtain ⟨x, hx, p, _⟩ := h.down hb hd e.symm (by rw [hr]; simp)
  refine hn x hx ?_ p
  have := headD_pre (h.kid b hb x hx).2.1 (b := rest) (by rw [hr]; simp) p (List.prefix_refl _)
  rw [hr] at this; exact this
section
variable {w w' : World} {base xa : Nat} {bs : List Nat} {G : Nat → Nd} {T : Nat → Txt} {row : Nat → Value} {many : Int}
/-- The one that stands at place i in the row below b. -/
theorem RadR.kidAt (h : RadR w base xa bs G T row many) {b : Nat} (hb : b ∈ bs) {i y : Nat} (hy : (G b).kids[i]? = some y) :
    ∃ g cap, row b = .slice (some ⟨g, 0, none⟩) (G b).kids.length cap ∧ w.cell? ⟨g, i, none⟩ = some (.pointer (some ⟨y, 0, none⟩)) ∧ g < w.heap.size ∧ i < (G b).kids.length ∧ (G b).kids.length ≤ 256 := by
  have hi := (List.getElem?_eq_some_iff.1 hy).1
  obtain ⟨_, ⟨_, e⟩ | ⟨g, cap, cs, e, hg, hB, hc, hm⟩⟩ := own_blk (h.own b hb)
  · omega
  · refine ⟨g, cap, e, hB.cellAt ?_, hB.lt, hi, h.flat.kids_few hb⟩
    rw [List.getElem?_append_left (by simpa using hi), List.getElem?_map, hy]; rfl
theorem WayTo.inb {l : List Nat} {b : Nat} (hw : WayTo G xa l b) (h : Flat xa bs G T) : (∀ x ∈ l, x ∈ bs ∧ (T x).length ≤ (T b).length) ∧ l.Nodup ∧ b ∈ bs ∧ l.length ≤ (T b).length + 1 := by
  induction hw with
  | root => exact ⟨fun x hx => by rw [List.mem_singleton] at hx; subst hx; exact ⟨h.root, Nat.le_refl _⟩, by simp, h.root, by simp⟩
  | @step l b c hw hc ih =>
    obtain ⟨i1, i2, i3, i4⟩ := ih
    obtain ⟨k1, k2, k3⟩ := h.kid b i3 c hc
    have hl : (T b).length < (T c).length := by
      rw [k3, List.length_append]
      have := List.length_pos_iff.2 k2
      omega
    refine ⟨fun x hx => ?_, ?_, k1, ?_⟩
    · rcases List.mem_append.1 hx with hx | hx
      · exact ⟨(i1 x hx).1, Nat.le_of_lt (Nat.lt_of_le_of_lt (i1 x hx).2 hl)⟩
      · rw [List.mem_singleton] at hx; subst hx; exact ⟨k1, Nat.le_refl _⟩
    · unfold List.Nodup
      rw [List.pairwise_append]
      refine ⟨i2, by simp, fun x hx y hy e => ?_⟩
      rw [List.mem_singleton] at hy; subst hy; subst e
      have := (i1 x hx).2; omega
    · rw [List.length_append, List.length_singleton]; omega
theorem WayTo.few {l : List Nat} {b : Nat} (hw : WayTo G xa l b) (h : Flat xa bs G T) : l.length ≤ bs.length :=
  len_le_of_nodup (hw.inb h).2.1 fun x hx => ((hw.inb h).1 x hx).1
/-- What bounds the ways to a key's beginnings. -/
def WayFew (G : Nat → Nd) (T : Nat → Txt) (xa : Nat) (key : Txt) : Prop := ∀ l b, WayTo G xa l b → T b <+: key → l.length ≤ 1000000000000
theorem Flat.way_key (h : Flat xa bs G T) {key : Txt} (hk : key.length ≤ 1000000) : WayFew G T xa key := fun l b hw hp => by
  have h1 := (hw.inb h).2.2.2
  have h2 := hp.length_le
  omega
theorem Flat.way_few (h : Flat xa bs G T) (hb : bs.length ≤ 1000000000000) (key : Txt) : WayFew G T xa key := fun l b hw _ => Nat.le_trans (hw.few h) hb
set_option maxHeartbeats 4000000 in
set_option maxRecDepth 100000 in
theorem find_any (h : RadR w base xa bs G T row many) (key : Txt) (hk : key.length ≤ 9223372036854775807) (hway : WayFew G T xa key) :
    Calls Try.prog 47 #[.pointer (some ⟨xa, 0, none⟩), .string (ofL key)] w fun e w' => ∃ v, e = .returned v ∧ Upd (fun _ => False) w w' ∧
      ((∃ l b, WayTo G xa l b ∧ b ∈ bs ∧ T b = key ∧ NodesAt w' w.heap.size v l) ∨ (v = .slice none 0 0 ∧ ∀ b ∈ bs, T b ≠ key)) := by
  obtain ⟨sk, hsk⟩ : ∃ sk, sk = ofL key := ⟨_, rfl⟩
  rw [← hsk]
  have H := Lib.hid h
  have KK := Lib.hid hsk
  have HW := Lib.hid hway
  clear hway
  have R0 : Hid (NodesAt (w.alloc (.cells #[.pointer (some ⟨xa, 0, none⟩)] 80)) w.heap.size (.slice (some ⟨w.heap.size, 0, none⟩) 1 1) [xa]) :=
    own_of (cs := []) (Nat.le_refl _) (Blk.made w _ _) rfl rfl (by unfold maxLen; omega)
  clear h hsk
  go_enter Try.func47, Try.ntmps47
  go_wp2
  go_loopw [1, 5] (fun x1 x5 wr => ∃ (l : List Nat) (b : Nat) (rest : Txt) (s : ByteArray), x1 = .string s ∧ Hid (s = ofL rest) ∧ s.size = rest.length ∧ rest.length ≤ key.length ∧ Hid (T b ++ rest = key) ∧ Hid (WayTo G xa l b) ∧ Hid (b ∈ bs) ∧ Hid (NodesAt wr w.heap.size x5 l) ∧ Hid (Upd (fun _ => False) w wr)) (fun x1 _ _ => strLen x1)
  case atStart => exact ⟨[xa], xa, key, sk, rfl, KK, by rw [KK.out, ofL_size], Nat.le_refl _, Lib.hid (by rw [H.out.flat.troot]; rfl), Lib.hid .root, Lib.hid H.out.flat.root, R0, Lib.hid ((Upd.refl _ _).alloc _)⟩
  case round =>
    obtain ⟨l, b, rest, s, rfl, ES, hsz, hlr, TB, WY, BM, RW, U⟩ := hrel
    by_cases hr : rest = []
    · have q0 : (s.toList == []) = true := by rw [ES.out, hr, ofL_toList]; rfl
      go_wp2
      go_ret
      refine ⟨_, rfl, U.out, Or.inl ⟨l, b, WY.out, BM.out, by rw [← TB.out, hr, List.append_nil], RW.out⟩⟩
    · have q0 : (s.toList == []) = false := by rw [ES.out, ofL_toList]; simpa using hr
      obtain ⟨c, r1, hc⟩ : ∃ c r1, rest = c :: r1 := by
        cases rest with
        | nil => exact absurd rfl hr
        | cons c r1 => exact ⟨c, r1, rfl⟩
      have rx : ∀ w, (Instr.index 9 (.string s) (.int .i64 0)).run Try.prog w = .ok (.int .u8 (c.toNat : Int)) w := by rw [ES.out, hc]; exact run_at (c :: r1) 0 c rfl
      have hlw : l.length ≤ 1000000000000 := HW.out l b WY.out ⟨rest, TB.out⟩
      obtain ⟨l0, hl0⟩ := WY.out.last
      obtain ⟨_, ⟨_, e0⟩ | ⟨gw, cw, csw, ew, hgw, hBw, hcw, hmw⟩⟩ := own_blk RW.out
      · rw [hl0] at e0; simp at e0
      subst ew
      have hm1 : l.length = l0.length + 1 := by rw [hl0]; simp
      have cl : wr.cell? ⟨gw, l0.length, none⟩ = some (.pointer (some ⟨b, 0, none⟩)) := hBw.cellAt (by rw [hl0]; simp [ptr])
      have PL := Lib.hid (place_any (H.out.keep0 U.out) BM.out c)
      have HC := Lib.hid hc
      have HM := Lib.hid hm1
      have qa : (l0.length : Int) < (l.length : Int) := by omega
      have qb : (l.length : Int) - 1 = (l0.length : Int) := by omega
      have qc : IntKind.i64.wrap ((l.length : Int) - 1) = (l0.length : Int) := by rw [qb]; exact IntWalk.i64_in _ (by omega)
      have qd : l.length ≤ 9223372036854775808 := by omega
      clear hc hl0 hm1 hBw hr
      generalize l0.length = m at *
      go_wp2_with fail
      refine (PL.out).mono ?_
      rintro e w1 ⟨i, f, rfl, hp, u⟩
      have HP := Lib.hid hp
      have RW1 := Lib.hid (own_keep RW.out u (fun _ _ h => h))
      have U1 := Lib.hid (U.out.trans u (fun _ _ h => h))
      clear hp u PL cl rx qc qb qa
      cases f with
      | false =>
        go_wp2
        go_ret
        exact ⟨_, rfl, U1.out, Or.inr ⟨rfl, H.out.flat.miss BM.out TB.out HC.out (fun x hx e => absurd e (HP.out.none x hx))⟩⟩
      | true =>
        obtain ⟨y, hy, hyc, _⟩ := HP.out.some
        obtain ⟨g, cap, erow, cg, hgl, hil, hk256⟩ := H.out.kidAt BM.out hy
        have hym := List.mem_of_getElem? hy
        have YM := Lib.hid (H.out.flat.kid b BM.out y hym).1
        have c3 := H.out.c3 BM.out
        rw [erow] at c3
        have cy := H.out.c0 YM.out
        have hbl := H.out.lt BM.out
        have hyl := H.out.lt YM.out
        have PSZ := ofL_size (G y).part
        have BG := begins_any rest (G y).part w1
        rw [← ES.out] at BG
        obtain ⟨sp, hsp⟩ : ∃ sp, sp = ofL (G y).part := ⟨_, rfl⟩
        rw [← hsp] at cy BG PSZ
        have SS : Hid (∀ v, Upd (fun q => w.heap.size ≤ q) w v → v.cell? ⟨b, 3, none⟩ = some (.slice (some ⟨g, 0, none⟩) (G b).kids.length cap) ∧ v.cell? ⟨g, i, none⟩ = some (.pointer (some ⟨y, 0, none⟩)) ∧ v.cell? ⟨y, 0, none⟩ = some (.string sp)) := fun v u =>
          ⟨(u.cell (p := ⟨b, 3, none⟩) hbl (by show ¬ w.heap.size ≤ b; omega)).trans c3, (u.cell (p := ⟨g, i, none⟩) hgl (by show ¬ w.heap.size ≤ g; omega)).trans cg, (u.cell (p := ⟨y, 0, none⟩) hyl (by show ¬ w.heap.size ≤ y; omega)).trans cy⟩
        have UX := Lib.hid (U1.out.weaken (F := fun q => w.heap.size ≤ q) (fun _ _ h => h.elim))
        obtain ⟨s0, s1, s2⟩ := SS.out w1 UX.out
        have BG := Lib.hid BG
        have HY := Lib.hid hy
        have HYC := Lib.hid hyc
        have qi : (i : Int) < ((G b).kids.length : Int) := by omega
        have HSP := Lib.hid hsp
        have HYM := Lib.hid hym
        clear c3 cg cy hbl hyl hgl hy hyc erow hil hsp hym
        generalize (G b).kids.length = nk at *
        generalize hd : decide ((G y).part <+: rest) = dec at BG
        go_wp2_with fail
        refine (BG.out).mono ?_
        rintro e w2 ⟨rfl, rfl⟩
        clear BG
        cases dec with
        | false =>
          go_wp2
          go_ret
          refine ⟨_, rfl, U1.out, Or.inr ⟨rfl, H.out.flat.miss BM.out TB.out HC.out (fun x hx e p => ?_)⟩⟩
          have := pairwise_head (H.out.flat.sorted b BM.out) hx HYM.out (e.trans HYC.out.symm)
          subst this
          exact of_decide_eq_false hd p
        | true =>
          have HPRE := Lib.hid (of_decide_eq_true hd)
          have hpl : (G y).part.length ≤ rest.length := HPRE.out.length_le
          have hp0 : 0 < (G y).part.length := List.length_pos_iff.2 (H.out.flat.kid b BM.out y HYM.out).2.1
          have rd := run_drop rest ((G y).part.length : Int) (by omega) (by omega)
          rw [← ES.out, Int.toNat_natCast] at rd
          obtain ⟨s', hs'⟩ : ∃ s', s' = ofL (rest.drop (G y).part.length) := ⟨_, rfl⟩
          rw [← hs'] at rd
          have HS := Lib.hid hs'
          have HSL : s'.size = rest.length - (G y).part.length := by rw [hs', ofL_size, List.length_drop]
          have TB2 : Hid (T y ++ rest.drop (G y).part.length = key) := by
            show _ = _
            obtain ⟨u, hu⟩ := HPRE.out
            rw [(H.out.flat.kid b BM.out y HYM.out).2.2, ← TB.out, ← hu, List.append_assoc, List.drop_left]
          have WY2 := Lib.hid (WayTo.step WY.out HYM.out)
          generalize (G y).part.length = np at *
          have UA : Hid (Upd (fun q => False) w (w2.alloc (.cells #[.pointer (some ⟨y, 0, none⟩)] 80))) := U1.out.alloc _
          obtain ⟨i0, hi0, hz0, hz1, hz2⟩ := rinfo_parts nodep_info
          have hwb := U1.out.size
          clear hd hs' HP HYC
          go_wp2_with (at_builtin; refine wpList_append_where _ rfl _ _ 75 rfl (w.heap.size) 80 i0 (.pointer none) 1 8 Try.underlying75 hi0 hz0 hz1 hz2 rfl (by decide) _ _ _ rfl (RW1.out.alloc _) ⟨w2.heap.size, 0, none⟩ 1 1 [.pointer (some ⟨y, 0, none⟩)] rfl rfl ?c1 ?c2 ?c3 ?c4 ?c5 (by decide) ?_)
          try (case c1 =>
            intro x u hx
            match x with
            | 0 => simp at hx; subst hx; simp [Addr.add, World.cell?_alloc_at]
            | 1 => simp at hx <;> (subst hx; simp [Addr.add, World.cell?_alloc_at])
            | 2 => simp at hx <;> (subst hx; simp [Addr.add, World.cell?_alloc_at])
            | x + 3 => simp at hx)
          try (case c2 => first | rfl | exact ⟨rfl, rfl⟩ | exact ⟨rfl, rfl, rfl⟩ | (intro u hu; simp at hu; subst hu; rfl) | (intro u hu; simp at hu; rcases hu with rfl | rfl <;> rfl))
          case c3 => unfold maxLen; omega
          case c4 => first | omega | (simp; omega)
          case c5 => first | (simp; omega) | omega
          intro v2 w3 hown hupd hnew
          have U3 : Hid (Upd (fun q => False) w w3) := UA.out.trans hupd (fun q hq e => by have := (World.ownsRow.lt RW1.out q e).1; omega)
          have R3 : Hid (NodesAt w3 w.heap.size v2 (l ++ [y])) := by
            show World.ownsRow _ _ _ _ _ _ _
            rw [List.map_append, List.length_append]; exact hown
          obtain ⟨t0, t1, t2⟩ := SS.out w3 (U3.out.weaken (fun _ _ h => h.elim))
          clear hown hupd hnew UA i0 hi0 hz0 hz1 hz2 s0 s1 s2
          go_wp2
          go_roundw
          case rel => exact ⟨l ++ [y], y, _, s', rfl, HS, by rw [HSL, List.length_drop], by rw [List.length_drop]; omega, TB2, WY2, YM, R3, U3⟩
          case measure => simp [strLen]; omega
end
end Go.Proofs.Ytnlbmplbaalgmaa
