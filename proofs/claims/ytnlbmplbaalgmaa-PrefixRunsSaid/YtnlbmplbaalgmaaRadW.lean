/- Keys that share their beginnings: Walk. -/
import Derived.Test.YtnlbmplbaalgmaaRadS
import Derived.Test.YtnlbmplbaalgmaaRadG
import Derived.Test.YtnlbmplbaalgmaaRadH
import Derived.RangeFuncLeaves
set_option linter.unusedVariables false
set_option linter.unusedSimpArgs false
namespace Go.Proofs.Ytnlbmplbaalgmaa
open Go.RowKit
attribute [local go_sem] Oper.semAt_some
/-- A step's cells. -/
def stc (T : Nat → Txt) (b : Nat) : List Value := [ptr b, .string (ofL (T b))]
def StackAt (w : World) (base : Nat) (T : Nat → Txt) (v : Value) (l : List Nat) : Prop := w.ownsRow base 86 2 v l.length (flat (stc T) l)
theorem step_info : (Try.prog.info? 86).map (fun i => (i.zero, i.size, i.bytes)) = some (some (.agg #[.pointer none, .string ByteArray.empty]), 2, 24) := by kernel_rfl
def mkD (D : Nat) : Deferred := { target := .collected D, args := #[] }
theorem own2_of {w : World} {base b cap n : Nat} {e : TypeId} {xs cs : List Value} (hb : base ≤ b) (h : Blk w b (xs ++ cs) e) (hn : xs.length = n * 2) (hc : n * 2 + cs.length = cap * 2) (hm : cap ≤ maxLen) : w.ownsRow base e 2 (.slice (some ⟨b, 0, none⟩) n cap) n xs :=
  ⟨hn, Or.inr ⟨b, cap, _, rfl, hb, h, by omega, hm, by simp; omega, by rw [← hn]; simp⟩⟩
theorem own2_blk {w : World} {base n : Nat} {e : TypeId} {v : Value} {xs : List Value} (h : w.ownsRow base e 2 v n xs) : xs.length = n * 2 ∧ ((v = .slice none 0 0 ∧ n = 0) ∨ ∃ b cap cs, v = .slice (some ⟨b, 0, none⟩) n cap ∧ base ≤ b ∧ Blk w b (xs ++ cs) e ∧ n * 2 + cs.length = cap * 2 ∧ cap ≤ maxLen ∧ n ≤ cap) := by
  obtain ⟨h0, ⟨rfl, e⟩ | ⟨g, cap, cur, rfl, hg, hh, h1, h2, h3, h4⟩⟩ := h
  · exact ⟨h0, Or.inl ⟨rfl, e⟩⟩
  · refine ⟨h0, Or.inr ⟨g, cap, cur.toList.drop (n * 2), rfl, hg, ?_, ?_, h2, h1⟩⟩
    · unfold Blk
      rw [← h4, List.take_append_drop]; exact hh
    · simp; omega
theorem own2_lt {w : World} {base n : Nat} {e : TypeId} {v : Value} {xs : List Value} (h : w.ownsRow base e 2 v n xs) {k : Nat} (hk : v.ownBlock = some k) : k < w.heap.size ∧ base ≤ k ∧ ∃ cs, Blk w k cs e := by
  obtain ⟨_, ⟨rfl, _⟩ | ⟨b, cap, cs, rfl, hb, hB, _⟩⟩ := own2_blk h
  · cases hk
  · cases hk; exact ⟨hB.lt, hb, _, hB⟩
def Opens (Ds : List Nat) (W : World) : Prop := ∀ D ∈ Ds, W.heap[D]? = some (.deferred (some []))
theorem append2 {P : Program} (w : World) (base : Nat) (t ty e : TypeId) (i : TypeInfo) (z : Value) (bytes : Nat) (ht : P.underlying t = some (.slice e)) (hi : P.info? e = some i) (hz : i.zero = some z)
    (hsize : i.size = 2) (hby : i.bytes = bytes) (hzs : z.cells.size = 2) (v : Value) (n : Nat) (xs : List Value) (hown : w.ownsRow base e 2 v n xs) (c0 c1 : Value) (h0 : c0.oneCell' = true) (h1 : c1.oneCell' = true)
    (h63 : n + 1 ≤ maxLen) (hbytes : (n + 1) * bytes ≤ 140737488355328) (hbase : base ≤ w.heap.size) :
    ∃ v' w', (Builtin.append_ #[t, t] ty #[v, .slice (some ⟨w.heap.size, 0, none⟩) 1 1]).run P (w.drew.alloc (.cells #[c0, c1] e)) = .ok v' w' ∧ w'.ownsRow base e 2 v' (n + 1) (xs ++ [c0, c1]) ∧ Upd (fun k => v.ownBlock = some k) w w' ∧ NewOr v v' w := by
  have u0 : Upd (fun _ => False) w (w.drew.alloc (.cells #[c0, c1] e)) := (Upd.refl _ _).drew.alloc _
  have hN : Blk (w.drew.alloc (.cells #[c0, c1] e)) w.heap.size [c0, c1] e := Blk.made w.drew [c0, c1] e
  have hown2 := own_keep hown u0 (fun _ _ h => h)
  have hsz : w.heap.size ≤ (w.drew.alloc (.cells #[c0, c1] e)).heap.size := u0.size
  have hn : ∀ j u, [c0, c1][j]? = some u → (w.drew.alloc (.cells #[c0, c1] e)).cell? ((⟨w.heap.size, 0, none⟩ : Addr).add j) = some u := World.news_of_block (cs := #[c0, c1]) (t := e) (fr := (0, 0)) hN
  have ho : ∀ u ∈ [c0, c1], u.oneCell' = true := by intro u hu; simp at hu; rcases hu with rfl | rfl <;> assumption
  obtain ⟨v', w', hr, q2, q3, _⟩ := run_append_own (P := P) _ base t ty e i z 2 bytes ht hi hz hsize hby hzs (by decide) v n xs hown2 ⟨w.heap.size, 0, none⟩ 1 1 [c0, c1] rfl hn ho h63 hbytes (Nat.le_trans hbase hsz)
  have hw := run_append_where (P := P) _ base t ty e i z 2 bytes ht hi hz hsize hby v n xs hown2 ⟨w.heap.size, 0, none⟩ 1 1 [c0, c1] rfl hn ho (by decide) h63 hbytes v' w' hr
  exact ⟨v', w', hr, q2, (u0.weaken (F := fun k => v.ownBlock = some k) (fun _ _ h => h.elim)).trans (Upd.of_grown q3) (fun k _ hk => hk.symm), fun k hk => (hw k hk).elim Or.inl (fun g => Or.inr (Nat.le_trans hsz g))⟩
theorem own2_cut {w : World} {base n m : Nat} {e : TypeId} {p : Option Addr} {c : Nat} {xs ys : List Value} (h : w.ownsRow base e 2 (.slice p n c) n (xs ++ ys)) (hm : xs.length = m * 2) (hle : m ≤ n) : w.ownsRow base e 2 (.slice p m c) m xs := by
  obtain ⟨hl, hv⟩ := h
  rw [List.length_append] at hl
  rcases hv with ⟨e1, rfl⟩ | ⟨g, cap, cur, e1, hg, hh, q1, q2, q3, q4⟩
  · cases e1
    have : m = 0 := by omega
    subst this
    exact ⟨by omega, Or.inl ⟨rfl, rfl⟩⟩
  · cases e1
    refine ⟨by omega, Or.inr ⟨g, _, cur, rfl, hg, hh, by omega, q2, q3, ?_⟩⟩
    have : cur.toList.take (m * 2) = (cur.toList.take (n * 2)).take (m * 2) := by rw [List.take_take, Nat.min_eq_left (by omega)]
    rw [this, q4, ← hm, List.take_left]
theorem len_le_flat {α β : Type} {f : α → List β} : ∀ {l : List α}, (∀ b ∈ l, 1 ≤ (f b).length) → l.length ≤ (l.flatMap f).length
  | [], _ => Nat.zero_le _
  | a :: l, h => by
    have h1 := h a (List.mem_cons_self ..)
    have h2 := len_le_flat (l := l) (fun b hb => h b (List.mem_cons_of_mem _ hb))
    rw [List.flatMap_cons, List.length_append, List.length_cons]; omega
theorem opens_cells {Ds : List Nat} {W : World} {D : Nat} {e : TypeId} (h : Opens Ds W) (hD : D ∈ Ds) (hc : ∃ cs, Blk W D cs e) : False := by
  obtain ⟨cs, hB⟩ := hc
  have := h D hD
  unfold Blk at hB
  rw [this] at hB; cases hB
theorem Opens.keep {Ds : List Nat} {W W' : World} {F : Nat → Prop} (h : Opens Ds W) (u : Upd F W W') (hF : ∀ D ∈ Ds, ¬ F D) : Opens Ds W' := fun D hD => by
  have hl : D < W.heap.size := (Array.getElem?_eq_some_iff.1 (h D hD)).1
  rw [u.block D hl (hF D hD)]; exact h D hD
theorem marks_end {fn : Func} {R : Ending → World → Prop} {tmps : Array Value} {n : Nat} : ∀ (Ds : List Nat) (w : World), Opens Ds w → Ds.Nodup → (∀ w', Upd (fun k => k ∈ Ds) w w' → LeavesIn Fence.wide n Try.prog fn tmps R [] .returning w') → LeavesInM Fence.wide n Try.prog fn tmps R (Ds.map mkD) .returning w
  | [], w, _, _, h => h w (Upd.refl _ _)
  | D :: Ds, w, ho, hn, h => by
    rw [List.nodup_cons] at hn
    have hD := ho D (List.mem_cons_self ..)
    have u : Upd (fun k => k = D) w (w.putObj D (.deferred none)) := ⟨rfl, rfl, rfl, by simp, fun k _ hk => World.putObj_heap_other hk⟩
    refine ⟨by simp, .inl ⟨_, _, rfl, run_takeDeferred hD, ?_⟩⟩
    exact marks_end Ds _ ((show Opens Ds w from fun E hE => ho E (List.mem_cons_of_mem _ hE)).keep u (fun E hE e => hn.1 (e ▸ hE))) hn.2 (fun w' u' => h w' ((u.weaken (fun _ _ e => by rw [e]; exact List.mem_cons_self ..)).trans u' (fun _ _ hk => List.mem_cons_of_mem _ hk)))
section
variable {w w' : World} {base xa : Nat} {bs : List Nat} {G : Nat → Nd} {T : Nat → Txt} {row : Nat → Value} {many : Int} {L : List MarkP}
theorem RadR.ne_of_ty (h : RadR w base xa bs G T row many) {b c : Nat} {cs : List Value} {ty : TypeId} (hb : b ∈ bs) (hB : Blk w c cs ty) (h1 : ty ≠ 79) (h2 : ty ≠ 77) : b ≠ c := by
  rintro rfl
  obtain ⟨cs', ty', hB', ht⟩ := h.blk hb
  have := hB.ty hB'
  rcases ht with rfl | rfl
  · exact h1 this
  · exact h2 this
/-- The range over a row stands: m is the stack. -/
def WalkJ (w w4 : World) (T : Nat → Txt) (gs B8 : Nat) (m : List Nat) (W : World) : Prop :=
  ∃ vs2, Blk W B8 [vs2] 89 ∧ StackAt W w.heap.size T vs2 m ∧ (∀ k, vs2.ownBlock = some k → k = gs ∨ w4.heap.size ≤ k) ∧ Upd (fun k => k = B8 ∨ k = gs) w4 W
/-- Walk's loop stands: done are told, l is the stack, Ds the marks of the ranges that have ended. -/
structure WalkI (w wr : World) (bs S : List Nat) (G : Nat → Nd) (T : Nat → Txt) (x : Nat) (u5 : Value) (done l Ds : List Nat) (vs : Value) (B8 : Nat) : Prop where
  all : subs T S (T x) = done ++ l.reverse.flatMap fun b => subs T S (T b)
  mem : ∀ b ∈ l, b ∈ bs
  out : MarksAt wr w.heap.size u5 (mksOf G T done)
  box : Blk wr B8 [vs] 89
  stack : StackAt wr w.heap.size T vs l
  upd : Upd (fun _ => False) w wr
  opens : Opens Ds wr
  nd : Ds.Nodup
  ge : ∀ D ∈ Ds, w.heap.size ≤ D
  len : done.length = Ds.length
  gb : w.heap.size ≤ B8
set_option maxHeartbeats 16000000 in
set_option maxRecDepth 100000 in
theorem walk_raw (h : RadR w base xa bs G T row many) (hm : Marks bs G T L) (hL : L.length ≤ 1000000) (hbs : bs.length ≤ 1000000) (p : Txt) (hk : p.length ≤ 1000000) :
    Calls Try.prog 13 #[.pointer (some ⟨xa, 0, none⟩), .string (ofL p)] w fun e w' => ∃ v, e = .returned v ∧ MarksAt w' w.heap.size v (walkL L p) ∧ Upd (fun _ => False) w w' := by
  obtain ⟨S, hp, hs⟩ := h.flat.sort_ex
  have SC : Hid (∀ x ∈ bs, subs T S (T x) = x :: (G x).kids.flatMap fun c => subs T S (T c)) := fun x hx => h.flat.subs_cons hp hs hx
  have UN := Lib.hid (under_any h p hk)
  have H := Lib.hid h
  have HM := Lib.hid hm
  have HPS := Lib.hid (And.intro hp hs)
  clear h hm hp hs
  obtain ⟨sk, hsk⟩ : ∃ sk, sk = ofL p := ⟨_, rfl⟩
  rw [← hsk] at UN ⊢
  clear hsk
  refine callsIn_wide.1 (callsIn_of_wp_marks (n := 8) Try.func13 rfl trivial ?_ rfl)
  simp only [Try.ntmps13, List.size_toArray, List.length_cons, List.length_nil, Nat.reduceAdd, Nat.reduceSub, Array.replicate_succ, Array.replicate_zero, List.push_toArray, List.append_toArray, List.nil_append, List.cons_append]
  refine wpIn_wide.2 ?_
  go_wp2_with fail
  refine UN.out.mono ?_
  rintro e w1 ⟨u, ⟨x, hx, hpx, rfl⟩ | ⟨hn, rfl⟩⟩
  · have XM := Lib.hid hx
    have WK : Hid (walkL L p = mksOf G T (subs T S (T x))) := HM.out.walk HPS.out.1 HPS.out.2 hpx
    have U1 := Lib.hid u
    obtain ⟨sx, hsx⟩ : ∃ sx, sx = ofL (T x) := ⟨_, rfl⟩
    rw [← hsx]
    have ESX := Lib.hid hsx
    have UB : (subs T S (T x)).length ≤ 1000000 := by
      have h1 : (subs T S (T x)).length ≤ S.length := List.length_filter_le _ _
      rw [HPS.out.1.length_eq] at h1; omega
    clear hx hpx u hsx UN
    go_wp2
    have hz1 : (w1.alloc (.cells #[.pointer (some ⟨x, 0, none⟩), .string sx] 86)).heap.size = w1.heap.size + 1 := by simp
    have hz2 : ((w1.alloc (.cells #[.pointer (some ⟨x, 0, none⟩), .string sx] 86)).alloc (.cells #[.pointer (some ⟨x, 0, none⟩), .string sx] 86)).heap.size = w1.heap.size + 1 + 1 := by simp
    refine wp_loop (fun a wr => ∃ (u5 u9 u10 u11 u22 u23 u24 u25 u26 u27 u28 u29 u30 u31 u32 u33 u34 u35 u36 u37 u38 u39 u40 u41 u42 u43 u44 u45 u46 u47 u48 u49 u50 u51 u52 u53 u54 u55 u56 u57 u58 u59 u60 u61 u62 u63 u64 u65 u66 u67 u68 u69 u70 u71 u72 u8 : Value) (ds : List Deferred), (∃ (done l Ds : List Nat) (vs : Value) (B8 : Nat), u8 = .pointer (some ⟨B8, 0, none⟩) ∧ ds = Ds.map mkD ∧ WalkI w wr bs S G T x u5 done l Ds vs B8) ∧ a = { tmps := #[.pointer (some ⟨xa, 0, none⟩), .string sk, undef, undef, .slice none 0 0, u5, .pointer (some ⟨w1.heap.size, 0, none⟩), .bool true, u8, u9, u10, u11, .tuple #[.agg #[.pointer (some ⟨x, 0, none⟩), .string sx], .bool true], .pointer (some ⟨xa, 0, none⟩), .string sk, .tuple #[.agg #[.pointer (some ⟨x, 0, none⟩), .string sx], .bool true], .agg #[.pointer (some ⟨x, 0, none⟩), .string sx], .bool true, .bool true, .bool false, .agg #[.pointer (some ⟨x, 0, none⟩), .string sx], .slice (some ⟨w1.heap.size + 1, 0, none⟩) 1 1, u22, u23, u24, u25, u26, u27, u28, u29, u30, u31, u32, u33, u34, u35, u36, u37, u38, u39, u40, u41, u42, u43, u44, u45, u46, u47, u48, u49, u50, u51, u52, u53, u54, u55, u56, u57, u58, u59, u60, u61, u62, u63, u64, u65, u66, u67, u68, u69, u70, u71, u72, undef], defers := ds })
      (fun a _ => (subs T S (T x)).length - a.defers.length) ?start ?round
    case start =>
      (repeat apply Exists.intro)
      refine ⟨?_, rfl⟩
      refine ⟨[], [x], [], .slice (some ⟨w1.heap.size + 1, 0, none⟩) 1 1, w1.heap.size + 1 + 1, rfl, rfl, ?_⟩
      have b1 := Blk.made (w1.alloc (.cells #[.pointer (some ⟨x, 0, none⟩), .string sx] 86)) [.pointer (some ⟨x, 0, none⟩), .string sx] 86
      rw [hz1] at b1
      have b2 := Blk.made ((w1.alloc (.cells #[.pointer (some ⟨x, 0, none⟩), .string sx] 86)).alloc (.cells #[.pointer (some ⟨x, 0, none⟩), .string sx] 86)) [.slice (some ⟨w1.heap.size + 1, 0, none⟩) 1 1] 89
      rw [hz2] at b2
      have us := U1.out.size
      refine ⟨by simp, fun b hb => by simp at hb; rw [hb]; exact XM.out, MarksAt.nil _ _, b2, own2_of (cs := []) (by omega) (by rw [show flat (stc T) [x] ++ [] = [.pointer (some ⟨x, 0, none⟩), .string sx] by rw [ESX.out]; rfl]; exact b1.alloc _) rfl rfl (by unfold maxLen; omega), ((U1.out.alloc _).alloc _).alloc _, fun D hD => (by cases hD), List.nodup_nil, fun D hD => (by cases hD), rfl, by omega⟩
    case round =>
      intro a wr hI
      obtain ⟨u5, hI⟩ := hI
      obtain ⟨u9, hI⟩ := hI
      obtain ⟨u10, hI⟩ := hI
      obtain ⟨u11, hI⟩ := hI
      obtain ⟨u22, hI⟩ := hI
      obtain ⟨u23, hI⟩ := hI
      obtain ⟨u24, hI⟩ := hI
      obtain ⟨u25, hI⟩ := hI
      obtain ⟨u26, hI⟩ := hI
      obtain ⟨u27, hI⟩ := hI
      obtain ⟨u28, hI⟩ := hI
      obtain ⟨u29, hI⟩ := hI
      obtain ⟨u30, hI⟩ := hI
      obtain ⟨u31, hI⟩ := hI
      obtain ⟨u32, hI⟩ := hI
      obtain ⟨u33, hI⟩ := hI
      obtain ⟨u34, hI⟩ := hI
      obtain ⟨u35, hI⟩ := hI
      obtain ⟨u36, hI⟩ := hI
      obtain ⟨u37, hI⟩ := hI
      obtain ⟨u38, hI⟩ := hI
      obtain ⟨u39, hI⟩ := hI
      obtain ⟨u40, hI⟩ := hI
      obtain ⟨u41, hI⟩ := hI
      obtain ⟨u42, hI⟩ := hI
      obtain ⟨u43, hI⟩ := hI
      obtain ⟨u44, hI⟩ := hI
      obtain ⟨u45, hI⟩ := hI
      obtain ⟨u46, hI⟩ := hI
      obtain ⟨u47, hI⟩ := hI
      obtain ⟨u48, hI⟩ := hI
      obtain ⟨u49, hI⟩ := hI
      obtain ⟨u50, hI⟩ := hI
      obtain ⟨u51, hI⟩ := hI
      obtain ⟨u52, hI⟩ := hI
      obtain ⟨u53, hI⟩ := hI
      obtain ⟨u54, hI⟩ := hI
      obtain ⟨u55, hI⟩ := hI
      obtain ⟨u56, hI⟩ := hI
      obtain ⟨u57, hI⟩ := hI
      obtain ⟨u58, hI⟩ := hI
      obtain ⟨u59, hI⟩ := hI
      obtain ⟨u60, hI⟩ := hI
      obtain ⟨u61, hI⟩ := hI
      obtain ⟨u62, hI⟩ := hI
      obtain ⟨u63, hI⟩ := hI
      obtain ⟨u64, hI⟩ := hI
      obtain ⟨u65, hI⟩ := hI
      obtain ⟨u66, hI⟩ := hI
      obtain ⟨u67, hI⟩ := hI
      obtain ⟨u68, hI⟩ := hI
      obtain ⟨u69, hI⟩ := hI
      obtain ⟨u70, hI⟩ := hI
      obtain ⟨u71, hI⟩ := hI
      obtain ⟨u72, hI⟩ := hI
      obtain ⟨u8, hI⟩ := hI
      obtain ⟨ds, hI⟩ := hI
      obtain ⟨hR, ha⟩ := hI
      subst ha
      obtain ⟨done, l, Ds, vs, B8, hu, hd, I⟩ := hR
      subst hu hd
      have IH := Lib.hid I
      have c8 := I.box.cellAt (i := 0) (v := vs) rfl
      have f8 := I.box.free 0
      obtain ⟨p8, k8, evs, hl63⟩ := own_slice I.stack
      subst evs
      clear I
      by_cases hne : l = []
      · have hl0 : l.length = 0 := by rw [hne]; rfl
        have ED : Hid (subs T S (T x) = done) := by show _ = _; have := IH.out.all; rw [hne] at this; simpa using this
        generalize l.length = nl at *
        subst hl0
        go_wp2
        refine marks_end Ds wr IH.out.opens IH.out.nd (fun w' u => ⟨_, results_tmp (t := 4) rfl _ _ _, _, rfl, ?_, IH.out.upd.trans u (fun i hi hD => by have := IH.out.ge i hD; omega)⟩)
        rw [WK.out, ED.out]
        exact IH.out.out.keep u (fun k hk hD => opens_cells IH.out.opens hD (own2_lt IH.out.out hk).2.2)
      · obtain ⟨l0, b, hl0⟩ : ∃ l0 b, l = l0 ++ [b] := ⟨_, _, (List.dropLast_concat_getLast hne).symm⟩
        have BM := Lib.hid (IH.out.mem b (by rw [hl0]; simp))
        have hm1 : l.length = l0.length + 1 := by rw [hl0]; simp
        have LB : l.length ≤ 1000000 := by
          have h1 : l.reverse.length ≤ (l.reverse.flatMap fun b => subs T S (T b)).length := len_le_flat (fun b hb => by rw [SC.out b (IH.out.mem b (List.mem_reverse.1 hb))]; simp)
          have h2 := congrArg List.length IH.out.all
          rw [List.length_append] at h2
          rw [List.length_reverse] at h1; omega
        obtain ⟨hfl, ⟨e0, _⟩ | ⟨gs, cs8, csx, ev, hgs, hBs, hcs, hms, hle⟩⟩ := own2_blk IH.out.stack
        · injection e0 with e1 e2 e3; omega
        obtain ⟨rfl, rfl⟩ : p8 = some ⟨gs, 0, none⟩ ∧ k8 = cs8 := by injection ev with e1 e2 e3; exact ⟨e1, e3⟩
        have fg : ∀ i : Nat, (flat (stc T) l ++ csx)[i]? = (flat (stc T) l0 ++ (stc T b ++ csx))[i]? := fun i => by rw [hl0]; unfold flat; rw [List.flatMap_append, List.append_assoc]; simp only [List.flatMap_cons, List.flatMap_nil, List.append_nil]
        have hf0 : (flat (stc T) l0).length = l0.length * 2 := flat_length _ 2 (fun _ => rfl) _
        obtain ⟨sb, hsb⟩ : ∃ sb, sb = ofL (T b) := ⟨_, rfl⟩
        have s0 : wr.cell? ⟨gs, l0.length * 2, none⟩ = some (.pointer (some ⟨b, 0, none⟩)) := hBs.cellAt (by rw [fg, List.getElem?_append_right (by omega), hf0, Nat.sub_self]; rfl)
        have s1 : wr.cell? ⟨gs, l0.length * 2 + 1, none⟩ = some (.string sb) := hBs.cellAt (by rw [fg, List.getElem?_append_right (by omega), hf0, Nat.add_sub_cancel_left, hsb]; rfl)
        have ESB := Lib.hid hsb
        have HR := Lib.hid (H.out.keep0 IH.out.upd)
        have b1 := HR.out.c1 BM.out
        have b2 := HR.out.c2 BM.out
        have hbl := HR.out.lt BM.out
        have h8l := IH.out.box.lt
        have hgl := hBs.lt
        have qa : (l0.length : Int) < (l.length : Int) := by omega
        have qb : (l.length : Int) - 1 = (l0.length : Int) := by omega
        have qc : IntKind.i64.wrap ((l.length : Int) - 1) = (l0.length : Int) := by rw [qb]; exact IntWalk.i64_in _ (by unfold maxLen at hl63; omega)
        have qc2 : IntKind.i64.wrap (l0.length : Int) = (l0.length : Int) := IntWalk.i64_in _ (by unfold maxLen at hl63; omega)
        have qe : (0 : Int) < (l.length : Int) := by omega
        have qf : (l0.length : Int) ≤ (k8 : Int) := by omega
        have qh : l0.length ≤ k8 := by omega
        have hb8 : b ≠ B8 := fun e => HR.out.ne_of_ty BM.out IH.out.box (by decide) (by decide) e
        have hg8 : gs ≠ B8 := fun e => by have := (e ▸ hBs).ty IH.out.box; exact absurd this (by decide)
        have STC : StackAt wr w.heap.size T (.slice (some ⟨gs, 0, none⟩) l0.length k8) l0 := own2_cut (n := l.length) (ys := stc T b) (by have := IH.out.stack; unfold StackAt flat at this; rw [hl0, List.flatMap_append] at this; rw [hl0]; unfold flat; simpa using this) (flat_length _ 2 (fun _ => rfl) _) (by omega)
        have SUB : Hid (subs T S (T x) = (done ++ [b]) ++ (l0 ++ (G b).kids.reverse).reverse.flatMap fun c => subs T S (T c)) := by
          show _ = _
          rw [IH.out.all, hl0, List.reverse_append, List.reverse_append, List.reverse_reverse, List.flatMap_append, List.flatMap_append]
          simp [SC.out b BM.out]
        have LM2 : Hid (∀ c ∈ l0 ++ (G b).kids.reverse, c ∈ bs) := fun c hc => (List.mem_append.1 hc).elim (fun h => IH.out.mem c (by rw [hl0]; simp [h])) (fun h => (H.out.flat.kid b BM.out c (List.mem_reverse.1 h)).1)
        obtain ⟨pR, cR, erow, hkm⟩ := own_slice (H.out.own b BM.out)
        have KF := H.out.flat.kids_few BM.out
        have HLL := Lib.hid hl0
        clear hl0 hne hBs fg hf0 hcs hms hle hfl hsb hgs
        generalize hnl0 : l0.length = nl0 at *
        generalize hnl : l.length = nl at *
        obtain ⟨im, him, hzm0, hzm1, hzm2⟩ := rinfo_parts mark_info
        have DL : done.length ≤ 1000000 := by
          have := congrArg List.length IH.out.all
          rw [List.length_append] at this; omega
        have ML : (mksOf G T done).length ≤ 1000000 := by
          have : (mksOf G T done).length ≤ done.length := by unfold mksOf; rw [List.length_map]; exact List.length_filter_le _ _
          omega
        have hszA : (wr.setCell ⟨B8, 0, none⟩ (.slice (some ⟨gs, 0, none⟩) nl0 k8)).heap.size = wr.heap.size := by simp [World.setCell]
        obtain ⟨wA, hwA⟩ : ∃ wA, wA = (wr.setCell ⟨B8, 0, none⟩ (.slice (some ⟨gs, 0, none⟩) nl0 k8)).alloc (.cells #[.pointer (some ⟨b, 0, none⟩), .string sb] 86) := ⟨_, rfl⟩
        have hAs : wA.heap.size = wr.heap.size + 1 := by rw [hwA, World.size_alloc, hszA]
        have UA : Upd (fun k => k = B8) wr wA := by rw [hwA]; exact ((Upd.refl (fun k => k = B8) wr).set (fun _ => rfl)).alloc _
        have A8 : Blk wA B8 [.slice (some ⟨gs, 0, none⟩) nl0 k8] 89 := by rw [hwA]; exact (IH.out.box.set 0 _).alloc _
        have A9 : Blk wA wr.heap.size [.pointer (some ⟨b, 0, none⟩), .string sb] 86 := by
          rw [hwA]; have := Blk.made (wr.setCell ⟨B8, 0, none⟩ (.slice (some ⟨gs, 0, none⟩) nl0 k8)) [.pointer (some ⟨b, 0, none⟩), .string sb] 86
          rw [hszA] at this; exact this
        have OUTA : MarksAt wA w.heap.size u5 (mksOf G T done) := IH.out.out.keep UA (fun k hk e => by
          obtain ⟨_, _, cs, hB⟩ := own2_lt IH.out.out hk
          rw [e] at hB; exact absurd (hB.ty IH.out.box) (by decide))
        have STA : StackAt wA w.heap.size T (.slice (some ⟨gs, 0, none⟩) nl0 k8) l0 := own_keep STC UA (fun k hk e => hg8 ((Option.some.inj hk).trans e))
        have OPA : Opens Ds wA := IH.out.opens.keep UA (fun D hD e => opens_cells IH.out.opens hD ⟨_, e ▸ IH.out.box⟩)
        have UWA : Upd (fun _ => False) w wA := IH.out.upd.trans UA (fun k hk e => by have := IH.out.gb; omega)
        have wbA := UWA.size
        cases ht : (G b).there with
        | true =>
          rw [ht] at b1
          have AP := append2 (P := Try.prog) wA w.heap.size 27 27 30 im (.agg #[.string ByteArray.empty, .int .i64 0]) 24 Try.underlying27 him hzm0 hzm1 hzm2 rfl u5 (mksOf G T done).length _ OUTA (.string sb) (.int .i64 (G b).n) rfl rfl (by unfold maxLen; omega) (by omega) (by omega)
          obtain ⟨v5, w3, hr, AM, AU, AN⟩ := AP
          have a90 := A9.cellAt (i := 0) (v := .pointer (some ⟨b, 0, none⟩)) rfl
          have a91 := A9.cellAt (i := 1) (v := .string sb) rfl
          have HA := H.out.keep0 UWA
          have ab2 := HA.c2 BM.out
          have U3 : Upd (fun _ => False) w w3 := UWA.trans AU (fun k hk e => by have := (own2_lt OUTA e).2.1; omega)
          have ne5 : ∀ c cs ty, Blk wA c cs ty → ty ≠ 30 → ¬ u5.ownBlock = some c := fun c cs ty hB hne e => by
            obtain ⟨_, _, cs', hB'⟩ := own2_lt OUTA e
            exact hne (hB.ty hB')
          have B38 := AU.blk A8 (ne5 _ _ _ A8 (by decide))
          have B39 := AU.blk A9 (ne5 _ _ _ A9 (by decide))
          have ST3 : StackAt w3 w.heap.size T (.slice (some ⟨gs, 0, none⟩) nl0 k8) l0 := own_keep STA AU (fun k hk e => by
            obtain ⟨_, _, cs, hB⟩ := own2_lt STA hk
            exact ne5 _ _ _ hB (by decide) e)
          have OP3 : Opens Ds w3 := OPA.keep AU (fun D hD e => opens_cells OPA hD (own2_lt OUTA e).2.2)
          have y0 := B39.cellAt (i := 0) (v := .pointer (some ⟨b, 0, none⟩)) rfl
          have y1 := B39.cellAt (i := 1) (v := .string sb) rfl
          have y2 := (H.out.keep0 U3).c2 BM.out
          have MK3 : MarksAt w3 w.heap.size v5 (mksOf G T (done ++ [b])) := by
            have e : mksOf G T (done ++ [b]) = mksOf G T done ++ [(T b, (G b).n)] := by rw [mksOf_append, mksOf_cons, ht]; simp [mksOf]
            rw [e]
            unfold MarksAt flat
            rw [List.flatMap_append, List.length_append]
            rw [ESB.out] at AM; exact AM
          have HAS := Lib.hid hAs
          clear hAs
          go_wp2
          rw [← hwA]
          clear hwA
          go_region_held3 (fun w' => w'.cell? ⟨wr.heap.size, 0, none⟩ = some (.pointer (some ⟨b, 0, none⟩)) ∧ w'.cell? ⟨wr.heap.size, 1, none⟩ = some (.string sb) ∧ w'.cell? ⟨b, 2, none⟩ = some (.int .i64 (G b).n)) (go_keep) (first
            | (refine step_builtin rfl _ _ 27 rfl _ _ rfl rfl hr ?_))
          clear y1 y2 a90 a91 ab2 HA AM AU AN A8 A9 OUTA STA OPA UWA UA hr ne5 c8 f8 s0 s1 b1 b2
          have c3 := (H.out.keep0 U3).c3 BM.out
          rw [erow] at c3
          have BA := Lib.hid (back_any pR (G b).kids.length cR w3)
          go_wp2_with fail
          refine (BA.out).mono ?_
          rintro e w4 ⟨rfl, rfl⟩
          clear BA c3 y0
          go_wp2
          have hro : Fence.wide.round = none := rfl
          obtain ⟨w4, hw4⟩ : ∃ w4, w4 = w3.alloc (.cells #[.slice pR (G b).kids.length cR] 75) := ⟨_, rfl⟩
          rw [← hw4]
          have hs4 : w4.heap.size = w3.heap.size + 1 := by rw [hw4, World.size_alloc]
          have hs3 : wr.heap.size < w3.heap.size := B39.lt
          have C8 : Blk w4 B8 [.slice (some ⟨gs, 0, none⟩) nl0 k8] 89 := by rw [hw4]; exact B38.alloc _
          have C9 : Blk w4 wr.heap.size [.pointer (some ⟨b, 0, none⟩), .string sb] 86 := by rw [hw4]; exact B39.alloc _
          have CB : Blk w4 w3.heap.size [.slice pR (G b).kids.length cR] 75 := by rw [hw4]; exact Blk.made w3 [.slice pR (G b).kids.length cR] _
          have U34 : Upd (fun _ => False) w3 w4 := by rw [hw4]; exact (Upd.refl _ _).alloc _
          have U4 : Upd (fun _ => False) w w4 := U3.trans U34 (fun _ _ h => h)
          have ST4 : StackAt w4 w.heap.size T (.slice (some ⟨gs, 0, none⟩) nl0 k8) l0 := own_keep ST3 U34 (fun _ _ h => h)
          have OP4 : Opens Ds w4 := OP3.keep U34 (fun _ _ h => h)
          have MK4 : MarksAt w4 w.heap.size v5 (mksOf G T (done ++ [b])) := MK3.keep U34 (fun _ _ h => h)
          have H4 := H.out.keep0 U4
          have RI : RowIn base w3.heap.size (.slice pR (G b).kids.length cR) (G b).kids w4 := ⟨CB.cellAt rfl, by have := H4.own b BM.out; rw [erow] at this; exact this⟩
          have lowb : base ≤ w4.heap.size := by have := H.out.lo b BM.out; omega
          refine (wpIn_wide (n := 8)).1 ?_
          refine wpIn_rangeFunc_ownF hro (by decide) (gf := 67) (lb := #[.pointer (some ⟨w3.heap.size, 0, none⟩)]) rfl trivial (enters_of Try.func67 (by kernel_rfl) rfl)
            (back_stops (fun y : { y : Nat × Nat // y.2 ∈ (G b).kids } => y.1) Fence.wide 7 trivial hro (by decide) base w3.heap.size (.slice pR (G b).kids.length cR) (G b).kids (by omega) (fun c hc i => ⟨⟨(i, c), hc⟩, rfl⟩) w4 (by omega) RI lowb) (fun h k hr => k (h hr)) (fun W l o o' hl ho hc hw hr => hr.putObj ho hc o') (Below.refl _ _) (fun _ => rfl)
            (fun pre W => WalkJ w w4 T gs B8 (l0 ++ pre.map fun y => y.1.2) W) (fun _ _ _ => False) ?own (fun _ _ _ _ _ hs _ _ => hs) ?start (fun y => { tmps := #[.pointer (some ⟨xa, 0, none⟩), .string sk, undef, undef, .slice none 0 0, v5, .pointer (some ⟨w1.heap.size, 0, none⟩), .bool true, .pointer (some ⟨B8, 0, none⟩), .pointer (some ⟨wr.heap.size, 0, none⟩), u10, ptr y.1.2, .tuple #[.agg #[.pointer (some ⟨x, 0, none⟩), .string sx], .bool true], .pointer (some ⟨xa, 0, none⟩), .string sk, .tuple #[.agg #[.pointer (some ⟨x, 0, none⟩), .string sx], .bool true], .agg #[.pointer (some ⟨x, 0, none⟩), .string sx], .bool true, .bool true, .bool false, .agg #[.pointer (some ⟨x, 0, none⟩), .string sx], .slice (some ⟨w1.heap.size + 1, 0, none⟩) 1 1, .slice (some ⟨gs, 0, none⟩) (nl0 + 1) k8, .int .i64 ((nl0 : Int) + 1), .bool true, .slice (some ⟨gs, 0, none⟩) (nl0 + 1) k8, .slice (some ⟨gs, 0, none⟩) (nl0 + 1) k8, .int .i64 ((nl0 : Int) + 1), .int .i64 (nl0 : Int), .pointer (some ⟨gs, nl0 * 2, none⟩), .agg #[.pointer (some ⟨b, 0, none⟩), .string sb], .slice (some ⟨gs, 0, none⟩) (nl0 + 1) k8, .slice (some ⟨gs, 0, none⟩) (nl0 + 1) k8, .int .i64 ((nl0 : Int) + 1), .int .i64 (nl0 : Int), .slice (some ⟨gs, 0, none⟩) nl0 k8, .pointer (some ⟨wr.heap.size, 0, none⟩), .pointer (some ⟨b, 0, none⟩), .pointer (some ⟨b, 0, none⟩), .pointer (some ⟨b, 1, none⟩), .bool true, u5, .pointer (some ⟨wr.heap.size, 1, none⟩), .string sb, .pointer (some ⟨wr.heap.size, 0, none⟩), .pointer (some ⟨b, 0, none⟩), .pointer (some ⟨b, 0, none⟩), .pointer (some ⟨b, 2, none⟩), .int .i64 (G b).n, .agg #[.string sb, .int .i64 (G b).n], .slice (some ⟨wA.heap.size, 0, none⟩) 1 1, v5, .pointer (some ⟨wr.heap.size, 0, none⟩), .pointer (some ⟨b, 0, none⟩), .pointer (some ⟨b, 0, none⟩), .pointer (some ⟨b, 3, none⟩), .slice pR (G b).kids.length cR, .func (.func 67) #[] #[.pointer (some ⟨w3.heap.size, 0, none⟩)], .int .i64 (y.1.1 : Int), ptr y.1.2, u60, u61, u62, u63, u64, u65, u66, u67, u68, u69, u70, u71, u72, undef], defers := [] }) ?assign ?body ?done ?stop
          case own =>
            rintro pre W W' row ⟨vs2, J1, J2, J3, J4⟩ hg hr
            have u := Upd.of_grown hg
            refine ⟨vs2, u.blk J1 (fun e => by have := (hr _ e.symm).1; have := C8.lt; omega), own_keep J2 u (fun k hk e => ?_), J3, J4.trans u (fun k hk e => by have := (hr _ e.symm).1; omega)⟩
            obtain ⟨_, o, ho, hc⟩ := hr _ e.symm
            obtain ⟨_, _, cs, hB⟩ := own2_lt J2 hk
            unfold Blk at hB; rw [ho] at hB; cases hB; cases hc
          case start => exact ⟨_, C8, by simpa using ST4, fun k hk => Or.inl (Option.some.inj hk).symm, Upd.refl _ _⟩
          case assign =>
            intro l y W K hK
            gi_wp2
            exact hK
          case stop =>
            rintro D c pre W _ _ h _
            exact h.elim
          case body =>
            rintro l pre y W ⟨vs2, J1, J2, J3, J4⟩ hpl
            have hc := y.2
            unfold ptr
            generalize hM : (l0 ++ pre.map fun y : { y : Nat × Nat // y.2 ∈ (G b).kids } => y.1.2) = M at *
            have hM1 : l0 ++ (pre ++ [y]).map (fun y : { y : Nat × Nat // y.2 ∈ (G b).kids } => y.1.2) = M ++ [y.1.2] := by rw [← hM]; simp
            have hML : M.length ≤ 1001000 := by
              have h1 := hpl; rw [← hM, List.length_append, List.length_map]; omega
            generalize y.1.2 = c at *
            generalize y.1.1 = ix at *
            have CM := Lib.hid (H.out.flat.kid b BM.out c hc).1
            have UW : Upd (fun _ => False) w W := U4.trans J4 (fun k hk e => by
              have h1 := IH.out.gb
              have h2 := (own2_lt ST4 (k := gs) rfl).2.1
              rcases e with e | e <;> omega)
            have HW := H.out.keep0 UW
            have s7 := HW.c0 CM.out
            have PSZ := ofL_size (G c).part
            obtain ⟨sp, hsp⟩ : ∃ sp, sp = ofL (G c).part := ⟨_, rfl⟩
            rw [← hsp] at s7 PSZ
            have TC := (H.out.flat.kid b BM.out c hc).2.2
            have CS := H.out.small c CM.out
            have SBZ : sb.size = (T b).length := by rw [ESB.out, ofL_size]
            have sv := fun w : World => run_string_add_sum (P := Try.prog) w sb sp (by rw [SBZ, PSZ]; rw [TC, List.length_append] at CS; unfold maxLen at CS; omega)
            have E3 : Hid (sb ++ sp = ofL (T c)) := by show _ = _; rw [TC, ESB.out, hsp, ofL_append]
            have hg89 : gs ≠ B8 := hg8
            have S9g : wr.heap.size ≠ gs := by omega
            have S98 : wr.heap.size ≠ B8 := by omega
            have J9 := J4.blk C9 (fun e => e.elim S98 S9g)
            have s0 := J1.cellAt (i := 0) (v := vs2) rfl
            have h8W := J1.lt
            have s3 := J9.cellAt (i := 1) (v := .string sb) rfl
            generalize sb ++ sp = s3t at *
            have sW := UW.size
            obtain ⟨p2, k2, e2, _⟩ := own_slice J2
            subst e2
            obtain ⟨ist, hist, hzs0, hzs1, hzs2⟩ := rinfo_parts step_info
            obtain ⟨v', wB, hr, AM, AU, AN⟩ := append2 (P := Try.prog) W w.heap.size 89 89 86 ist (.agg #[.pointer none, .string ByteArray.empty]) 24 Try.underlying89 hist hzs0 hzs1 hzs2 rfl _ _ _ J2 (.pointer (some ⟨c, 0, none⟩)) (.string s3t) rfl rfl (by unfold maxLen; omega) (by omega) sW
            obtain ⟨p3, k3, e3, _⟩ := own_slice AM
            subst e3
            have ne8 : ∀ k, (Value.slice p2 M.length k2).ownBlock = some k → k ≠ B8 := fun k hk e => by
              obtain ⟨_, _, cs, hB⟩ := own2_lt J2 hk
              rw [e] at hB; exact absurd (hB.ty J1) (by decide)
            have B1 := AU.blk J1 (fun e => ne8 _ e rfl)
            have z0 := B1.cellAt (i := 0) (v := .slice p2 M.length k2) rfl
            have z1 := B1.free 0
            have KO : KeepsOthers W (wB.setCell ⟨B8, 0, none⟩ (.slice p3 (M.length + 1) k3)) := by
              refine KeepsOthers.trans ⟨AU.size, fun k o hk ho => ?_⟩ (KeepsOthers.setCell _ _ _)
              refine (AU.block k (Array.getElem?_eq_some_iff.1 hk).1 (fun e => ?_)).trans hk
              obtain ⟨_, _, cs, hB⟩ := own2_lt J2 e
              unfold Blk at hB; rw [hk] at hB; cases hB; cases ho
            have UF : Upd (fun k => k = B8 ∨ k = gs) w4 (wB.setCell ⟨B8, 0, none⟩ (.slice p3 (M.length + 1) k3)) := (J4.trans AU (fun k hk e => by
              rcases J3 k e with g | g
              · exact Or.inr g
              · omega)).set (fun _ => Or.inl rfl)
            have RF : RowIn base w3.heap.size (.slice pR (G b).kids.length cR) (G b).kids (wB.setCell ⟨B8, 0, none⟩ (.slice p3 (M.length + 1) k3)) := by
              have h8l := B38.lt
              have hgl3 := (own2_lt ST3 (k := gs) rfl).1
              refine ⟨(UF.blk CB (fun e => by rcases e with e | e <;> omega)).cellAt rfl, own_keep RI.2 UF (fun k hk e => ?_)⟩
              obtain ⟨_, _, cs, hB⟩ := own_lt RI.2 hk
              rcases e with e | e
              · rw [e] at hB; exact absurd (hB.ty C8) (by decide)
              · obtain ⟨_, _, cs', hB'⟩ := own2_lt ST4 (k := gs) rfl
                rw [e] at hB; exact absurd (hB.ty hB') (by decide)
            have JF : WalkJ w w4 T gs B8 (M ++ [c]) (wB.setCell ⟨B8, 0, none⟩ (.slice p3 (M.length + 1) k3)) := by
              refine ⟨_, B1.set 0 _, ?_, fun k hk => ?_, UF⟩
              · unfold StackAt flat
                rw [List.flatMap_append, List.length_append]
                have AM2 : wB.ownsRow w.heap.size 86 2 (.slice p3 (M.length + 1) k3) (M.length + 1) (flat (stc T) M ++ [.pointer (some ⟨c, 0, none⟩), .string (ofL (T c))]) := by rw [← E3.out]; exact AM
                refine own_keep AM2 ((Upd.refl (fun k => k = B8) wB).set (fun _ => rfl)) (fun k hk e => ?_)
                obtain ⟨_, _, cs, hB⟩ := own2_lt AM2 hk
                rw [e] at hB; exact absurd (hB.ty B1) (by decide)
              · rcases AN k hk with g | g
                · exact J3 k g
                · exact Or.inr (Nat.le_trans J4.size g)
            have FIN := Lib.hid (show ownPostK (fun W W' => RowIn base w3.heap.size (.slice pR (G b).kids.length cR) (G b).kids W → RowIn base w3.heap.size (.slice pR (G b).kids.length cR) (G b).kids W') (fun pre W => WalkJ w w4 T gs B8 (l0 ++ pre.map fun y : { y : Nat × Nat // y.2 ∈ (G b).kids } => y.1.2) W) (fun _ _ _ => False) (pre ++ [y]) W .normal { tmps := #[], defers := [] } _ from ⟨KO, fun _ => RF, by show WalkJ _ _ _ _ _ _ _; rw [hM1]; exact JF⟩)
            clear KO RF JF UF B1 AM AU AN ne8 J9 J1 J2 J3 J4 HW UW TC CS SBZ PSZ hsp C8 C9 CB ST4 OP4 MK4 H4 RI B38 B39 ST3 OP3 MK3 hM hM1
            gi_wp2
            refine wpIn_region_any (by kernel_rfl) (wpAny_round (by intro o ho c; simp only [List.mem_toArray, List.mem_cons, List.not_mem_nil, or_false] at ho; rcases ho with rfl | rfl | rfl | rfl | rfl | rfl | rfl | rfl | rfl | rfl | rfl | rfl | rfl <;> (intro e; cases e)) (by rintro ⟨_, _, h⟩; exact h) _ _ _ _ ?_)
            change wpAny _ _ _ _ _ _ _ (World.drew _)
            refine' wpAny_take (i := 1) (oi := _) (v := _) ?hia1 (by kernel_rfl) (by kernel_rfl) (by kernel_rfl) ?hQa1 ?hya1 ?resta1
            case' hia1 => (first | (simp only [List.getElem?_toArray, List.getElem?_cons_succ, List.getElem?_cons_zero]; done) | (simp only [List.getElem?_toArray, List.getElem?_cons_succ, List.getElem?_cons_zero]; rfl))
            case' hQa1 => exact fun _ _ _ h => h
            case' hya1 => refine Or.inl ⟨by rfl, ?_⟩
            (intro w; go_simp; try with_reducible rfl)
            try simp only [Act.put, List.setIfInBounds_toArray, List.set_cons_zero, List.set_cons_succ]
            refine' wpAny_take (i := 2) (oi := _) (v := _) ?hia2 (by kernel_rfl) (by kernel_rfl) (by kernel_rfl) ?hQa2 ?hya2 ?resta2
            case' hia2 => (first | (simp only [List.getElem?_toArray, List.getElem?_cons_succ, List.getElem?_cons_zero]; done) | (simp only [List.getElem?_toArray, List.getElem?_cons_succ, List.getElem?_cons_zero]; rfl))
            case' hQa2 => exact fun _ _ _ h => h
            case' hya2 => refine Or.inl ⟨by rfl, ?_⟩
            (intro w; go_simp; try with_reducible rfl)
            try simp only [Act.put, List.setIfInBounds_toArray, List.set_cons_zero, List.set_cons_succ]
            refine' wpAny_take (i := 4) (oi := _) (v := _) ?hia3 (by kernel_rfl) (by kernel_rfl) (by kernel_rfl) ?hQa3 ?hya3 ?resta3
            case' hia3 => (first | (simp only [List.getElem?_toArray, List.getElem?_cons_succ, List.getElem?_cons_zero]; done) | (simp only [List.getElem?_toArray, List.getElem?_cons_succ, List.getElem?_cons_zero]; rfl))
            case' hQa3 => exact fun _ _ _ h => h
            case' hya3 => refine Or.inl ⟨by rfl, ?_⟩
            (intro w; go_simp; try with_reducible rfl)
            try simp only [Act.put, List.setIfInBounds_toArray, List.set_cons_zero, List.set_cons_succ]
            refine' wpAny_take (i := 5) (oi := _) (v := _) ?hia4 (by kernel_rfl) (by kernel_rfl) (by kernel_rfl) ?hQa4 ?hya4 ?resta4
            case' hia4 => (first | (simp only [List.getElem?_toArray, List.getElem?_cons_succ, List.getElem?_cons_zero]; done) | (simp only [List.getElem?_toArray, List.getElem?_cons_succ, List.getElem?_cons_zero]; rfl))
            case' hQa4 => exact fun _ _ _ h => h
            case' hya4 => refine Or.inl ⟨by rfl, ?_⟩
            (intro w; go_simp; try with_reducible rfl)
            try simp only [Act.put, List.setIfInBounds_toArray, List.set_cons_zero, List.set_cons_succ]
            refine' wpAny_take (i := 6) (oi := _) (v := _) ?hia5 (by kernel_rfl) (by kernel_rfl) (by kernel_rfl) ?hQa5 ?hya5 ?resta5
            case' hia5 => (first | (simp only [List.getElem?_toArray, List.getElem?_cons_succ, List.getElem?_cons_zero]; done) | (simp only [List.getElem?_toArray, List.getElem?_cons_succ, List.getElem?_cons_zero]; rfl))
            case' hQa5 => exact fun _ _ _ h => h
            case' hya5 => refine Or.inl ⟨by rfl, ?_⟩
            (intro w; go_simp; try with_reducible rfl)
            try simp only [Act.put, List.setIfInBounds_toArray, List.set_cons_zero, List.set_cons_succ]
            refine wpAny_ready (rs := [0, 3, 7]) (by kernel_rfl) (by simp) ?_
            refine AllReady.cons rfl (fun K hK => ?_) (AllReady.cons rfl (fun K hK => ?_) (AllReady.cons rfl (fun K hK => ?_) AllReady.nil))
            · go_simp
              refine hK _ _ ?_
              clear hK K
              try simp only [Act.put, List.setIfInBounds_toArray, List.set_cons_zero, List.set_cons_succ]
              refine wpAny_ready (rs := [3, 7]) (by kernel_rfl) (by simp) ?_
              refine AllReady.cons rfl (fun K hK => ?_) (AllReady.cons rfl (fun K hK => ?_) AllReady.nil)
              · go_simp
                refine hK _ _ ?_
                clear hK K
                try simp only [Act.put, List.setIfInBounds_toArray, List.set_cons_zero, List.set_cons_succ]
                refine wpAny_ready (rs := [7]) (by kernel_rfl) (by simp) ?_
                refine AllReady.cons rfl (fun K hK => ?_) AllReady.nil
                go_simp
                refine hK _ _ ?_
                clear hK K
                try simp only [Act.put, List.setIfInBounds_toArray, List.set_cons_zero, List.set_cons_succ]
                refine' wpAny_take (i := 8) (oi := _) (v := _) ?hia6 (by kernel_rfl) (by kernel_rfl) (by kernel_rfl) ?hQa6 ?hya6 ?resta6
                case' hia6 => (first | (simp only [List.getElem?_toArray, List.getElem?_cons_succ, List.getElem?_cons_zero]; done) | (simp only [List.getElem?_toArray, List.getElem?_cons_succ, List.getElem?_cons_zero]; rfl))
                case' hQa6 => exact fun _ _ _ h => h
                case' hya6 => refine Or.inl ⟨by rfl, ?_⟩
                (intro w; go_simp; try with_reducible rfl)
                try simp only [Act.put, List.setIfInBounds_toArray, List.set_cons_zero, List.set_cons_succ]
                refine' wpAny_take (i := 9) (oi := _) (v := _) ?hia7 (by kernel_rfl) (by kernel_rfl) (by kernel_rfl) ?hQa7 ?hya7 ?resta7
                case' hia7 => (first | (simp only [List.getElem?_toArray, List.getElem?_cons_succ, List.getElem?_cons_zero]; done) | (simp only [List.getElem?_toArray, List.getElem?_cons_succ, List.getElem?_cons_zero]; rfl))
                case' hQa7 => exact fun _ _ _ h => h
                case' hya7 => refine Or.inl ⟨by rfl, ?_⟩
                (intro w; go_simp; try with_reducible rfl)
                try simp only [Act.put, List.setIfInBounds_toArray, List.set_cons_zero, List.set_cons_succ]
                refine wpAny_ready (rs := [10]) (by kernel_rfl) (by simp) ?_
                refine AllReady.cons rfl (fun K hK => ?_) AllReady.nil
                go_simp
                refine hK _ _ ?_
                clear hK K
                try simp only [Act.put, List.setIfInBounds_toArray, List.set_cons_zero, List.set_cons_succ]
                refine wpAny_ready (rs := [11]) (by kernel_rfl) (by simp) ?_
                refine AllReady.cons rfl (fun K hK => ?_) AllReady.nil
                refine step_builtin rfl _ _ 89 rfl _ _ rfl rfl hr ?_
                refine hK _ _ ?_
                clear hK K
                try simp only [Act.put, List.setIfInBounds_toArray, List.set_cons_zero, List.set_cons_succ]
                refine wpAny_ready (rs := [12]) (by kernel_rfl) (by simp) ?_
                refine AllReady.cons rfl (fun K hK => ?_) AllReady.nil
                go_simp
                refine hK _ _ ?_
                clear hK K
                try simp only [Act.put, List.setIfInBounds_toArray, List.set_cons_zero, List.set_cons_succ]
                refine wpAny_done (by kernel_rfl) ?_ _
                exact FIN.out
              · go_simp
                refine hK _ _ ?_
                clear hK K
                try simp only [Act.put, List.setIfInBounds_toArray, List.set_cons_zero, List.set_cons_succ]
                refine wpAny_ready (rs := [3]) (by kernel_rfl) (by simp) ?_
                refine AllReady.cons rfl (fun K hK => ?_) AllReady.nil
                go_simp
                refine hK _ _ ?_
                clear hK K
                try simp only [Act.put, List.setIfInBounds_toArray, List.set_cons_zero, List.set_cons_succ]
                refine' wpAny_take (i := 8) (oi := _) (v := _) ?hia8 (by kernel_rfl) (by kernel_rfl) (by kernel_rfl) ?hQa8 ?hya8 ?resta8
                case' hia8 => (first | (simp only [List.getElem?_toArray, List.getElem?_cons_succ, List.getElem?_cons_zero]; done) | (simp only [List.getElem?_toArray, List.getElem?_cons_succ, List.getElem?_cons_zero]; rfl))
                case' hQa8 => exact fun _ _ _ h => h
                case' hya8 => refine Or.inl ⟨by rfl, ?_⟩
                (intro w; go_simp; try with_reducible rfl)
                try simp only [Act.put, List.setIfInBounds_toArray, List.set_cons_zero, List.set_cons_succ]
                refine' wpAny_take (i := 9) (oi := _) (v := _) ?hia9 (by kernel_rfl) (by kernel_rfl) (by kernel_rfl) ?hQa9 ?hya9 ?resta9
                case' hia9 => (first | (simp only [List.getElem?_toArray, List.getElem?_cons_succ, List.getElem?_cons_zero]; done) | (simp only [List.getElem?_toArray, List.getElem?_cons_succ, List.getElem?_cons_zero]; rfl))
                case' hQa9 => exact fun _ _ _ h => h
                case' hya9 => refine Or.inl ⟨by rfl, ?_⟩
                (intro w; go_simp; try with_reducible rfl)
                try simp only [Act.put, List.setIfInBounds_toArray, List.set_cons_zero, List.set_cons_succ]
                refine wpAny_ready (rs := [10]) (by kernel_rfl) (by simp) ?_
                refine AllReady.cons rfl (fun K hK => ?_) AllReady.nil
                go_simp
                refine hK _ _ ?_
                clear hK K
                try simp only [Act.put, List.setIfInBounds_toArray, List.set_cons_zero, List.set_cons_succ]
                refine wpAny_ready (rs := [11]) (by kernel_rfl) (by simp) ?_
                refine AllReady.cons rfl (fun K hK => ?_) AllReady.nil
                refine step_builtin rfl _ _ 89 rfl _ _ rfl rfl hr ?_
                refine hK _ _ ?_
                clear hK K
                try simp only [Act.put, List.setIfInBounds_toArray, List.set_cons_zero, List.set_cons_succ]
                refine wpAny_ready (rs := [12]) (by kernel_rfl) (by simp) ?_
                refine AllReady.cons rfl (fun K hK => ?_) AllReady.nil
                go_simp
                refine hK _ _ ?_
                clear hK K
                try simp only [Act.put, List.setIfInBounds_toArray, List.set_cons_zero, List.set_cons_succ]
                refine wpAny_done (by kernel_rfl) ?_ _
                exact FIN.out
            · go_simp
              refine hK _ _ ?_
              clear hK K
              try simp only [Act.put, List.setIfInBounds_toArray, List.set_cons_zero, List.set_cons_succ]
              refine wpAny_ready (rs := [0, 7]) (by kernel_rfl) (by simp) ?_
              refine AllReady.cons rfl (fun K hK => ?_) (AllReady.cons rfl (fun K hK => ?_) AllReady.nil)
              · go_simp
                refine hK _ _ ?_
                clear hK K
                try simp only [Act.put, List.setIfInBounds_toArray, List.set_cons_zero, List.set_cons_succ]
                refine wpAny_ready (rs := [7]) (by kernel_rfl) (by simp) ?_
                refine AllReady.cons rfl (fun K hK => ?_) AllReady.nil
                go_simp
                refine hK _ _ ?_
                clear hK K
                try simp only [Act.put, List.setIfInBounds_toArray, List.set_cons_zero, List.set_cons_succ]
                refine' wpAny_take (i := 8) (oi := _) (v := _) ?hia10 (by kernel_rfl) (by kernel_rfl) (by kernel_rfl) ?hQa10 ?hya10 ?resta10
                case' hia10 => (first | (simp only [List.getElem?_toArray, List.getElem?_cons_succ, List.getElem?_cons_zero]; done) | (simp only [List.getElem?_toArray, List.getElem?_cons_succ, List.getElem?_cons_zero]; rfl))
                case' hQa10 => exact fun _ _ _ h => h
                case' hya10 => refine Or.inl ⟨by rfl, ?_⟩
                (intro w; go_simp; try with_reducible rfl)
                try simp only [Act.put, List.setIfInBounds_toArray, List.set_cons_zero, List.set_cons_succ]
                refine' wpAny_take (i := 9) (oi := _) (v := _) ?hia11 (by kernel_rfl) (by kernel_rfl) (by kernel_rfl) ?hQa11 ?hya11 ?resta11
                case' hia11 => (first | (simp only [List.getElem?_toArray, List.getElem?_cons_succ, List.getElem?_cons_zero]; done) | (simp only [List.getElem?_toArray, List.getElem?_cons_succ, List.getElem?_cons_zero]; rfl))
                case' hQa11 => exact fun _ _ _ h => h
                case' hya11 => refine Or.inl ⟨by rfl, ?_⟩
                (intro w; go_simp; try with_reducible rfl)
                try simp only [Act.put, List.setIfInBounds_toArray, List.set_cons_zero, List.set_cons_succ]
                refine wpAny_ready (rs := [10]) (by kernel_rfl) (by simp) ?_
                refine AllReady.cons rfl (fun K hK => ?_) AllReady.nil
                go_simp
                refine hK _ _ ?_
                clear hK K
                try simp only [Act.put, List.setIfInBounds_toArray, List.set_cons_zero, List.set_cons_succ]
                refine wpAny_ready (rs := [11]) (by kernel_rfl) (by simp) ?_
                refine AllReady.cons rfl (fun K hK => ?_) AllReady.nil
                refine step_builtin rfl _ _ 89 rfl _ _ rfl rfl hr ?_
                refine hK _ _ ?_
                clear hK K
                try simp only [Act.put, List.setIfInBounds_toArray, List.set_cons_zero, List.set_cons_succ]
                refine wpAny_ready (rs := [12]) (by kernel_rfl) (by simp) ?_
                refine AllReady.cons rfl (fun K hK => ?_) AllReady.nil
                go_simp
                refine hK _ _ ?_
                clear hK K
                try simp only [Act.put, List.setIfInBounds_toArray, List.set_cons_zero, List.set_cons_succ]
                refine wpAny_done (by kernel_rfl) ?_ _
                exact FIN.out
              · go_simp
                refine hK _ _ ?_
                clear hK K
                try simp only [Act.put, List.setIfInBounds_toArray, List.set_cons_zero, List.set_cons_succ]
                refine' wpAny_take (i := 8) (oi := _) (v := _) ?hia12 (by kernel_rfl) (by kernel_rfl) (by kernel_rfl) ?hQa12 ?hya12 ?resta12
                case' hia12 => (first | (simp only [List.getElem?_toArray, List.getElem?_cons_succ, List.getElem?_cons_zero]; done) | (simp only [List.getElem?_toArray, List.getElem?_cons_succ, List.getElem?_cons_zero]; rfl))
                case' hQa12 => exact fun _ _ _ h => h
                case' hya12 => refine Or.inl ⟨by rfl, ?_⟩
                (intro w; go_simp; try with_reducible rfl)
                try simp only [Act.put, List.setIfInBounds_toArray, List.set_cons_zero, List.set_cons_succ]
                refine' wpAny_take (i := 9) (oi := _) (v := _) ?hia13 (by kernel_rfl) (by kernel_rfl) (by kernel_rfl) ?hQa13 ?hya13 ?resta13
                case' hia13 => (first | (simp only [List.getElem?_toArray, List.getElem?_cons_succ, List.getElem?_cons_zero]; done) | (simp only [List.getElem?_toArray, List.getElem?_cons_succ, List.getElem?_cons_zero]; rfl))
                case' hQa13 => exact fun _ _ _ h => h
                case' hya13 => refine Or.inl ⟨by rfl, ?_⟩
                (intro w; go_simp; try with_reducible rfl)
                try simp only [Act.put, List.setIfInBounds_toArray, List.set_cons_zero, List.set_cons_succ]
                refine wpAny_ready (rs := [0, 10]) (by kernel_rfl) (by simp) ?_
                refine AllReady.cons rfl (fun K hK => ?_) (AllReady.cons rfl (fun K hK => ?_) AllReady.nil)
                · go_simp
                  refine hK _ _ ?_
                  clear hK K
                  try simp only [Act.put, List.setIfInBounds_toArray, List.set_cons_zero, List.set_cons_succ]
                  refine wpAny_ready (rs := [10]) (by kernel_rfl) (by simp) ?_
                  refine AllReady.cons rfl (fun K hK => ?_) AllReady.nil
                  go_simp
                  refine hK _ _ ?_
                  clear hK K
                  try simp only [Act.put, List.setIfInBounds_toArray, List.set_cons_zero, List.set_cons_succ]
                  refine wpAny_ready (rs := [11]) (by kernel_rfl) (by simp) ?_
                  refine AllReady.cons rfl (fun K hK => ?_) AllReady.nil
                  refine step_builtin rfl _ _ 89 rfl _ _ rfl rfl hr ?_
                  refine hK _ _ ?_
                  clear hK K
                  try simp only [Act.put, List.setIfInBounds_toArray, List.set_cons_zero, List.set_cons_succ]
                  refine wpAny_ready (rs := [12]) (by kernel_rfl) (by simp) ?_
                  refine AllReady.cons rfl (fun K hK => ?_) AllReady.nil
                  go_simp
                  refine hK _ _ ?_
                  clear hK K
                  try simp only [Act.put, List.setIfInBounds_toArray, List.set_cons_zero, List.set_cons_succ]
                  refine wpAny_done (by kernel_rfl) ?_ _
                  exact FIN.out
                · go_simp
                  refine hK _ _ ?_
                  clear hK K
                  try simp only [Act.put, List.setIfInBounds_toArray, List.set_cons_zero, List.set_cons_succ]
                  refine wpAny_ready (rs := [0]) (by kernel_rfl) (by simp) ?_
                  refine AllReady.cons rfl (fun K hK => ?_) AllReady.nil
                  go_simp
                  refine hK _ _ ?_
                  clear hK K
                  try simp only [Act.put, List.setIfInBounds_toArray, List.set_cons_zero, List.set_cons_succ]
                  refine wpAny_ready (rs := [11]) (by kernel_rfl) (by simp) ?_
                  refine AllReady.cons rfl (fun K hK => ?_) AllReady.nil
                  refine step_builtin rfl _ _ 89 rfl _ _ rfl rfl hr ?_
                  refine hK _ _ ?_
                  clear hK K
                  try simp only [Act.put, List.setIfInBounds_toArray, List.set_cons_zero, List.set_cons_succ]
                  refine wpAny_ready (rs := [12]) (by kernel_rfl) (by simp) ?_
                  refine AllReady.cons rfl (fun K hK => ?_) AllReady.nil
                  go_simp
                  refine hK _ _ ?_
                  clear hK K
                  try simp only [Act.put, List.setIfInBounds_toArray, List.set_cons_zero, List.set_cons_succ]
                  refine wpAny_done (by kernel_rfl) ?_ _
                  exact FIN.out
            · go_simp
              refine hK _ _ ?_
              clear hK K
              try simp only [Act.put, List.setIfInBounds_toArray, List.set_cons_zero, List.set_cons_succ]
              refine wpAny_ready (rs := [0, 3]) (by kernel_rfl) (by simp) ?_
              refine AllReady.cons rfl (fun K hK => ?_) (AllReady.cons rfl (fun K hK => ?_) AllReady.nil)
              · go_simp
                refine hK _ _ ?_
                clear hK K
                try simp only [Act.put, List.setIfInBounds_toArray, List.set_cons_zero, List.set_cons_succ]
                refine wpAny_ready (rs := [3]) (by kernel_rfl) (by simp) ?_
                refine AllReady.cons rfl (fun K hK => ?_) AllReady.nil
                go_simp
                refine hK _ _ ?_
                clear hK K
                try simp only [Act.put, List.setIfInBounds_toArray, List.set_cons_zero, List.set_cons_succ]
                refine' wpAny_take (i := 8) (oi := _) (v := _) ?hia14 (by kernel_rfl) (by kernel_rfl) (by kernel_rfl) ?hQa14 ?hya14 ?resta14
                case' hia14 => (first | (simp only [List.getElem?_toArray, List.getElem?_cons_succ, List.getElem?_cons_zero]; done) | (simp only [List.getElem?_toArray, List.getElem?_cons_succ, List.getElem?_cons_zero]; rfl))
                case' hQa14 => exact fun _ _ _ h => h
                case' hya14 => refine Or.inl ⟨by rfl, ?_⟩
                (intro w; go_simp; try with_reducible rfl)
                try simp only [Act.put, List.setIfInBounds_toArray, List.set_cons_zero, List.set_cons_succ]
                refine' wpAny_take (i := 9) (oi := _) (v := _) ?hia15 (by kernel_rfl) (by kernel_rfl) (by kernel_rfl) ?hQa15 ?hya15 ?resta15
                case' hia15 => (first | (simp only [List.getElem?_toArray, List.getElem?_cons_succ, List.getElem?_cons_zero]; done) | (simp only [List.getElem?_toArray, List.getElem?_cons_succ, List.getElem?_cons_zero]; rfl))
                case' hQa15 => exact fun _ _ _ h => h
                case' hya15 => refine Or.inl ⟨by rfl, ?_⟩
                (intro w; go_simp; try with_reducible rfl)
                try simp only [Act.put, List.setIfInBounds_toArray, List.set_cons_zero, List.set_cons_succ]
                refine wpAny_ready (rs := [10]) (by kernel_rfl) (by simp) ?_
                refine AllReady.cons rfl (fun K hK => ?_) AllReady.nil
                go_simp
                refine hK _ _ ?_
                clear hK K
                try simp only [Act.put, List.setIfInBounds_toArray, List.set_cons_zero, List.set_cons_succ]
                refine wpAny_ready (rs := [11]) (by kernel_rfl) (by simp) ?_
                refine AllReady.cons rfl (fun K hK => ?_) AllReady.nil
                refine step_builtin rfl _ _ 89 rfl _ _ rfl rfl hr ?_
                refine hK _ _ ?_
                clear hK K
                try simp only [Act.put, List.setIfInBounds_toArray, List.set_cons_zero, List.set_cons_succ]
                refine wpAny_ready (rs := [12]) (by kernel_rfl) (by simp) ?_
                refine AllReady.cons rfl (fun K hK => ?_) AllReady.nil
                go_simp
                refine hK _ _ ?_
                clear hK K
                try simp only [Act.put, List.setIfInBounds_toArray, List.set_cons_zero, List.set_cons_succ]
                refine wpAny_done (by kernel_rfl) ?_ _
                exact FIN.out
              · go_simp
                refine hK _ _ ?_
                clear hK K
                try simp only [Act.put, List.setIfInBounds_toArray, List.set_cons_zero, List.set_cons_succ]
                refine' wpAny_take (i := 8) (oi := _) (v := _) ?hia16 (by kernel_rfl) (by kernel_rfl) (by kernel_rfl) ?hQa16 ?hya16 ?resta16
                case' hia16 => (first | (simp only [List.getElem?_toArray, List.getElem?_cons_succ, List.getElem?_cons_zero]; done) | (simp only [List.getElem?_toArray, List.getElem?_cons_succ, List.getElem?_cons_zero]; rfl))
                case' hQa16 => exact fun _ _ _ h => h
                case' hya16 => refine Or.inl ⟨by rfl, ?_⟩
                (intro w; go_simp; try with_reducible rfl)
                try simp only [Act.put, List.setIfInBounds_toArray, List.set_cons_zero, List.set_cons_succ]
                refine' wpAny_take (i := 9) (oi := _) (v := _) ?hia17 (by kernel_rfl) (by kernel_rfl) (by kernel_rfl) ?hQa17 ?hya17 ?resta17
                case' hia17 => (first | (simp only [List.getElem?_toArray, List.getElem?_cons_succ, List.getElem?_cons_zero]; done) | (simp only [List.getElem?_toArray, List.getElem?_cons_succ, List.getElem?_cons_zero]; rfl))
                case' hQa17 => exact fun _ _ _ h => h
                case' hya17 => refine Or.inl ⟨by rfl, ?_⟩
                (intro w; go_simp; try with_reducible rfl)
                try simp only [Act.put, List.setIfInBounds_toArray, List.set_cons_zero, List.set_cons_succ]
                refine wpAny_ready (rs := [0, 10]) (by kernel_rfl) (by simp) ?_
                refine AllReady.cons rfl (fun K hK => ?_) (AllReady.cons rfl (fun K hK => ?_) AllReady.nil)
                · go_simp
                  refine hK _ _ ?_
                  clear hK K
                  try simp only [Act.put, List.setIfInBounds_toArray, List.set_cons_zero, List.set_cons_succ]
                  refine wpAny_ready (rs := [10]) (by kernel_rfl) (by simp) ?_
                  refine AllReady.cons rfl (fun K hK => ?_) AllReady.nil
                  go_simp
                  refine hK _ _ ?_
                  clear hK K
                  try simp only [Act.put, List.setIfInBounds_toArray, List.set_cons_zero, List.set_cons_succ]
                  refine wpAny_ready (rs := [11]) (by kernel_rfl) (by simp) ?_
                  refine AllReady.cons rfl (fun K hK => ?_) AllReady.nil
                  refine step_builtin rfl _ _ 89 rfl _ _ rfl rfl hr ?_
                  refine hK _ _ ?_
                  clear hK K
                  try simp only [Act.put, List.setIfInBounds_toArray, List.set_cons_zero, List.set_cons_succ]
                  refine wpAny_ready (rs := [12]) (by kernel_rfl) (by simp) ?_
                  refine AllReady.cons rfl (fun K hK => ?_) AllReady.nil
                  go_simp
                  refine hK _ _ ?_
                  clear hK K
                  try simp only [Act.put, List.setIfInBounds_toArray, List.set_cons_zero, List.set_cons_succ]
                  refine wpAny_done (by kernel_rfl) ?_ _
                  exact FIN.out
                · go_simp
                  refine hK _ _ ?_
                  clear hK K
                  try simp only [Act.put, List.setIfInBounds_toArray, List.set_cons_zero, List.set_cons_succ]
                  refine wpAny_ready (rs := [0]) (by kernel_rfl) (by simp) ?_
                  refine AllReady.cons rfl (fun K hK => ?_) AllReady.nil
                  go_simp
                  refine hK _ _ ?_
                  clear hK K
                  try simp only [Act.put, List.setIfInBounds_toArray, List.set_cons_zero, List.set_cons_succ]
                  refine wpAny_ready (rs := [11]) (by kernel_rfl) (by simp) ?_
                  refine AllReady.cons rfl (fun K hK => ?_) AllReady.nil
                  refine step_builtin rfl _ _ 89 rfl _ _ rfl rfl hr ?_
                  refine hK _ _ ?_
                  clear hK K
                  try simp only [Act.put, List.setIfInBounds_toArray, List.set_cons_zero, List.set_cons_succ]
                  refine wpAny_ready (rs := [12]) (by kernel_rfl) (by simp) ?_
                  refine AllReady.cons rfl (fun K hK => ?_) AllReady.nil
                  go_simp
                  refine hK _ _ ?_
                  clear hK K
                  try simp only [Act.put, List.setIfInBounds_toArray, List.set_cons_zero, List.set_cons_succ]
                  refine wpAny_done (by kernel_rfl) ?_ _
                  exact FIN.out
          case done =>
            rintro D ys W hD hys ⟨vs2, J1, J2, J3, J4⟩ hK
            have hyk : ys.map (fun y : { y : Nat × Nat // y.2 ∈ (G b).kids } => y.1.2) = (G b).kids.reverse := by
              rw [← bk_map, ← hys, List.map_map]; rfl
            rw [hyk] at J2
            obtain ⟨p2, k2, e2, _⟩ := own_slice J2
            subst e2
            have s0 := J1.cellAt (i := 0) (v := .slice p2 (l0 ++ (G b).kids.reverse).length k2) rfl
            have h8W := J1.lt
            have UJ : ∀ k, k < w.heap.size → k = B8 ∨ k = gs → False := fun k hk e => by
              have h1 := IH.out.gb
              have h2 := (own2_lt ST4 (k := gs) rfl).2.1
              rcases e with e | e <;> omega
            have WI : Hid (WalkI w (W.alloc (.cells #[.slice p2 (l0 ++ (G b).kids.reverse).length k2] 89)) bs S G T x v5 (done ++ [b]) (l0 ++ (G b).kids.reverse) (D :: Ds) (.slice p2 (l0 ++ (G b).kids.reverse).length k2) W.heap.size) := by
              have u5 : Upd (fun _ => False) W (W.alloc (.cells #[.slice p2 (l0 ++ (G b).kids.reverse).length k2] 89)) := (Upd.refl _ _).alloc _
              have OW : Opens Ds W := OP4.keep J4 (fun E hE e => by
                rcases e with e | e
                · exact opens_cells OP4 hE ⟨_, e ▸ C8⟩
                · exact opens_cells OP4 hE (e ▸ (own2_lt ST4 (k := gs) rfl).2.2))
              have MW : MarksAt W w.heap.size v5 (mksOf G T (done ++ [b])) := MK4.keep J4 (fun k hk e => by
                obtain ⟨_, _, cs, hB⟩ := own2_lt MK4 hk
                rcases e with e | e
                · rw [e] at hB; exact absurd (hB.ty C8) (by decide)
                · obtain ⟨_, _, cs', hB'⟩ := own2_lt ST4 (k := gs) rfl
                  rw [e] at hB; exact absurd (hB.ty hB') (by decide))
              refine ⟨SUB.out, LM2.out, MW.keep u5 (fun _ _ h => h), Blk.made W [_] _, own_keep J2 u5 (fun _ _ h => h), (U4.trans J4 UJ).alloc _, ?_, ?_, ?_, ?_, ?_⟩
              · intro E hE
                rcases List.mem_cons.1 hE with e | hE
                · rw [e]; exact (u5.block D (Array.getElem?_eq_some_iff.1 hK).1 id).trans hK
                · exact (OW.keep u5 (fun _ _ h => h)) E hE
              · refine List.nodup_cons.2 ⟨fun hm => ?_, IH.out.nd⟩
                have := (Array.getElem?_eq_some_iff.1 (OP4 D hm)).1; omega
              · intro E hE
                rcases List.mem_cons.1 hE with e | hE
                · rw [e]; have := U4.size; omega
                · exact IH.out.ge E hE
              · rw [List.length_append, List.length_cons, IH.out.len]; rfl
              · have := U4.size; have := J4.size; omega
            have MS : (subs T S (T x)).length - (D :: Ds).length < (subs T S (T x)).length - Ds.length := by
              have h1 := congrArg List.length SUB.out
              rw [List.length_append, List.length_append, List.length_singleton, IH.out.len] at h1
              rw [List.length_cons]; omega
            clear UJ J1 J2 J3 J4 hK hyk hys C8 C9 CB ST4 OP4 MK4 H4 RI B38 B39 ST3 OP3 MK3 U34 U4 hw4
            generalize (l0 ++ (G b).kids.reverse).length = qn at *
            go_wp2
            refine ⟨?_, ?measure⟩
            · (repeat apply Exists.intro)
              refine ⟨?_, rfl⟩
              exact ⟨_, _, D :: Ds, _, W.heap.size, rfl, rfl, WI.out⟩
            case measure => simpa using MS
        | false =>
          rw [ht] at b1
          have c3 := HR.out.c3 BM.out
          rw [erow] at c3
          have BA := Lib.hid (back_any pR (G b).kids.length cR ((wr.setCell ⟨B8, 0, none⟩ (.slice (some ⟨gs, 0, none⟩) nl0 k8)).alloc (.cells #[.pointer (some ⟨b, 0, none⟩), .string sb] 86)))
          have HAS := Lib.hid hAs
          clear hAs
          have HWA := Lib.hid hwA
          clear hwA
          go_wp2_with fail
          refine (BA.out).mono ?_
          rintro e w4 ⟨rfl, rfl⟩
          clear BA c3
          go_wp2
          rw [← HWA.out, ← HAS.out]
          have MK3 : MarksAt wA w.heap.size u5 (mksOf G T (done ++ [b])) := by
            have e : mksOf G T (done ++ [b]) = mksOf G T done := by rw [mksOf_append, mksOf_cons, ht]; simp [mksOf]
            rw [e]; exact OUTA
          obtain ⟨w3, rfl⟩ : ∃ w3, w3 = wA := ⟨_, rfl⟩
          obtain ⟨v5, rfl⟩ : ∃ v5, v5 = u5 := ⟨_, rfl⟩
          have B38 := A8
          have B39 := A9
          have ST3 := STA
          have OP3 := OPA
          have U3 := UWA
          clear HWA c8 f8 s0 s1 b1 b2 A8 A9 STA OPA UWA UA OUTA
          have hro : Fence.wide.round = none := rfl
          obtain ⟨w4, hw4⟩ : ∃ w4, w4 = w3.alloc (.cells #[.slice pR (G b).kids.length cR] 75) := ⟨_, rfl⟩
          rw [← hw4]
          have hs4 : w4.heap.size = w3.heap.size + 1 := by rw [hw4, World.size_alloc]
          have hs3 : wr.heap.size < w3.heap.size := B39.lt
          have C8 : Blk w4 B8 [.slice (some ⟨gs, 0, none⟩) nl0 k8] 89 := by rw [hw4]; exact B38.alloc _
          have C9 : Blk w4 wr.heap.size [.pointer (some ⟨b, 0, none⟩), .string sb] 86 := by rw [hw4]; exact B39.alloc _
          have CB : Blk w4 w3.heap.size [.slice pR (G b).kids.length cR] 75 := by rw [hw4]; exact Blk.made w3 [.slice pR (G b).kids.length cR] _
          have U34 : Upd (fun _ => False) w3 w4 := by rw [hw4]; exact (Upd.refl _ _).alloc _
          have U4 : Upd (fun _ => False) w w4 := U3.trans U34 (fun _ _ h => h)
          have ST4 : StackAt w4 w.heap.size T (.slice (some ⟨gs, 0, none⟩) nl0 k8) l0 := own_keep ST3 U34 (fun _ _ h => h)
          have OP4 : Opens Ds w4 := OP3.keep U34 (fun _ _ h => h)
          have MK4 : MarksAt w4 w.heap.size v5 (mksOf G T (done ++ [b])) := MK3.keep U34 (fun _ _ h => h)
          have H4 := H.out.keep0 U4
          have RI : RowIn base w3.heap.size (.slice pR (G b).kids.length cR) (G b).kids w4 := ⟨CB.cellAt rfl, by have := H4.own b BM.out; rw [erow] at this; exact this⟩
          have lowb : base ≤ w4.heap.size := by have := H.out.lo b BM.out; omega
          refine (wpIn_wide (n := 8)).1 ?_
          refine wpIn_rangeFunc_ownF hro (by decide) (gf := 67) (lb := #[.pointer (some ⟨w3.heap.size, 0, none⟩)]) rfl trivial (enters_of Try.func67 (by kernel_rfl) rfl)
            (back_stops (fun y : { y : Nat × Nat // y.2 ∈ (G b).kids } => y.1) Fence.wide 7 trivial hro (by decide) base w3.heap.size (.slice pR (G b).kids.length cR) (G b).kids (by omega) (fun c hc i => ⟨⟨(i, c), hc⟩, rfl⟩) w4 (by omega) RI lowb) (fun h k hr => k (h hr)) (fun W l o o' hl ho hc hw hr => hr.putObj ho hc o') (Below.refl _ _) (fun _ => rfl)
            (fun pre W => WalkJ w w4 T gs B8 (l0 ++ pre.map fun y => y.1.2) W) (fun _ _ _ => False) ?own (fun _ _ _ _ _ hs _ _ => hs) ?start (fun y => { tmps := #[.pointer (some ⟨xa, 0, none⟩), .string sk, undef, undef, .slice none 0 0, v5, .pointer (some ⟨w1.heap.size, 0, none⟩), .bool true, .pointer (some ⟨B8, 0, none⟩), .pointer (some ⟨wr.heap.size, 0, none⟩), u10, ptr y.1.2, .tuple #[.agg #[.pointer (some ⟨x, 0, none⟩), .string sx], .bool true], .pointer (some ⟨xa, 0, none⟩), .string sk, .tuple #[.agg #[.pointer (some ⟨x, 0, none⟩), .string sx], .bool true], .agg #[.pointer (some ⟨x, 0, none⟩), .string sx], .bool true, .bool true, .bool false, .agg #[.pointer (some ⟨x, 0, none⟩), .string sx], .slice (some ⟨w1.heap.size + 1, 0, none⟩) 1 1, .slice (some ⟨gs, 0, none⟩) (nl0 + 1) k8, .int .i64 ((nl0 : Int) + 1), .bool true, .slice (some ⟨gs, 0, none⟩) (nl0 + 1) k8, .slice (some ⟨gs, 0, none⟩) (nl0 + 1) k8, .int .i64 ((nl0 : Int) + 1), .int .i64 (nl0 : Int), .pointer (some ⟨gs, nl0 * 2, none⟩), .agg #[.pointer (some ⟨b, 0, none⟩), .string sb], .slice (some ⟨gs, 0, none⟩) (nl0 + 1) k8, .slice (some ⟨gs, 0, none⟩) (nl0 + 1) k8, .int .i64 ((nl0 : Int) + 1), .int .i64 (nl0 : Int), .slice (some ⟨gs, 0, none⟩) nl0 k8, .pointer (some ⟨wr.heap.size, 0, none⟩), .pointer (some ⟨b, 0, none⟩), .pointer (some ⟨b, 0, none⟩), .pointer (some ⟨b, 1, none⟩), .bool false, u41, u42, u43, u44, u45, u46, u47, u48, u49, u50, u51, .pointer (some ⟨wr.heap.size, 0, none⟩), .pointer (some ⟨b, 0, none⟩), .pointer (some ⟨b, 0, none⟩), .pointer (some ⟨b, 3, none⟩), .slice pR (G b).kids.length cR, .func (.func 67) #[] #[.pointer (some ⟨w3.heap.size, 0, none⟩)], .int .i64 (y.1.1 : Int), ptr y.1.2, u60, u61, u62, u63, u64, u65, u66, u67, u68, u69, u70, u71, u72, undef], defers := [] }) ?assign ?body ?done ?stop
          case own =>
            rintro pre W W' row ⟨vs2, J1, J2, J3, J4⟩ hg hr
            have u := Upd.of_grown hg
            refine ⟨vs2, u.blk J1 (fun e => by have := (hr _ e.symm).1; have := C8.lt; omega), own_keep J2 u (fun k hk e => ?_), J3, J4.trans u (fun k hk e => by have := (hr _ e.symm).1; omega)⟩
            obtain ⟨_, o, ho, hc⟩ := hr _ e.symm
            obtain ⟨_, _, cs, hB⟩ := own2_lt J2 hk
            unfold Blk at hB; rw [ho] at hB; cases hB; cases hc
          case start => exact ⟨_, C8, by simpa using ST4, fun k hk => Or.inl (Option.some.inj hk).symm, Upd.refl _ _⟩
          case assign =>
            intro l y W K hK
            gi_wp2
            exact hK
          case stop =>
            rintro D c pre W _ _ h _
            exact h.elim
          case body =>
            rintro l pre y W ⟨vs2, J1, J2, J3, J4⟩ hpl
            have hc := y.2
            unfold ptr
            generalize hM : (l0 ++ pre.map fun y : { y : Nat × Nat // y.2 ∈ (G b).kids } => y.1.2) = M at *
            have hM1 : l0 ++ (pre ++ [y]).map (fun y : { y : Nat × Nat // y.2 ∈ (G b).kids } => y.1.2) = M ++ [y.1.2] := by rw [← hM]; simp
            have hML : M.length ≤ 1001000 := by
              have h1 := hpl; rw [← hM, List.length_append, List.length_map]; omega
            generalize y.1.2 = c at *
            generalize y.1.1 = ix at *
            have CM := Lib.hid (H.out.flat.kid b BM.out c hc).1
            have UW : Upd (fun _ => False) w W := U4.trans J4 (fun k hk e => by
              have h1 := IH.out.gb
              have h2 := (own2_lt ST4 (k := gs) rfl).2.1
              rcases e with e | e <;> omega)
            have HW := H.out.keep0 UW
            have s7 := HW.c0 CM.out
            have PSZ := ofL_size (G c).part
            obtain ⟨sp, hsp⟩ : ∃ sp, sp = ofL (G c).part := ⟨_, rfl⟩
            rw [← hsp] at s7 PSZ
            have TC := (H.out.flat.kid b BM.out c hc).2.2
            have CS := H.out.small c CM.out
            have SBZ : sb.size = (T b).length := by rw [ESB.out, ofL_size]
            have sv := fun w : World => run_string_add_sum (P := Try.prog) w sb sp (by rw [SBZ, PSZ]; rw [TC, List.length_append] at CS; unfold maxLen at CS; omega)
            have E3 : Hid (sb ++ sp = ofL (T c)) := by show _ = _; rw [TC, ESB.out, hsp, ofL_append]
            have hg89 : gs ≠ B8 := hg8
            have S9g : wr.heap.size ≠ gs := by omega
            have S98 : wr.heap.size ≠ B8 := by omega
            have J9 := J4.blk C9 (fun e => e.elim S98 S9g)
            have s0 := J1.cellAt (i := 0) (v := vs2) rfl
            have h8W := J1.lt
            have s3 := J9.cellAt (i := 1) (v := .string sb) rfl
            generalize sb ++ sp = s3t at *
            have sW := UW.size
            obtain ⟨p2, k2, e2, _⟩ := own_slice J2
            subst e2
            obtain ⟨ist, hist, hzs0, hzs1, hzs2⟩ := rinfo_parts step_info
            obtain ⟨v', wB, hr, AM, AU, AN⟩ := append2 (P := Try.prog) W w.heap.size 89 89 86 ist (.agg #[.pointer none, .string ByteArray.empty]) 24 Try.underlying89 hist hzs0 hzs1 hzs2 rfl _ _ _ J2 (.pointer (some ⟨c, 0, none⟩)) (.string s3t) rfl rfl (by unfold maxLen; omega) (by omega) sW
            obtain ⟨p3, k3, e3, _⟩ := own_slice AM
            subst e3
            have ne8 : ∀ k, (Value.slice p2 M.length k2).ownBlock = some k → k ≠ B8 := fun k hk e => by
              obtain ⟨_, _, cs, hB⟩ := own2_lt J2 hk
              rw [e] at hB; exact absurd (hB.ty J1) (by decide)
            have B1 := AU.blk J1 (fun e => ne8 _ e rfl)
            have z0 := B1.cellAt (i := 0) (v := .slice p2 M.length k2) rfl
            have z1 := B1.free 0
            have KO : KeepsOthers W (wB.setCell ⟨B8, 0, none⟩ (.slice p3 (M.length + 1) k3)) := by
              refine KeepsOthers.trans ⟨AU.size, fun k o hk ho => ?_⟩ (KeepsOthers.setCell _ _ _)
              refine (AU.block k (Array.getElem?_eq_some_iff.1 hk).1 (fun e => ?_)).trans hk
              obtain ⟨_, _, cs, hB⟩ := own2_lt J2 e
              unfold Blk at hB; rw [hk] at hB; cases hB; cases ho
            have UF : Upd (fun k => k = B8 ∨ k = gs) w4 (wB.setCell ⟨B8, 0, none⟩ (.slice p3 (M.length + 1) k3)) := (J4.trans AU (fun k hk e => by
              rcases J3 k e with g | g
              · exact Or.inr g
              · omega)).set (fun _ => Or.inl rfl)
            have RF : RowIn base w3.heap.size (.slice pR (G b).kids.length cR) (G b).kids (wB.setCell ⟨B8, 0, none⟩ (.slice p3 (M.length + 1) k3)) := by
              have h8l := B38.lt
              have hgl3 := (own2_lt ST3 (k := gs) rfl).1
              refine ⟨(UF.blk CB (fun e => by rcases e with e | e <;> omega)).cellAt rfl, own_keep RI.2 UF (fun k hk e => ?_)⟩
              obtain ⟨_, _, cs, hB⟩ := own_lt RI.2 hk
              rcases e with e | e
              · rw [e] at hB; exact absurd (hB.ty C8) (by decide)
              · obtain ⟨_, _, cs', hB'⟩ := own2_lt ST4 (k := gs) rfl
                rw [e] at hB; exact absurd (hB.ty hB') (by decide)
            have JF : WalkJ w w4 T gs B8 (M ++ [c]) (wB.setCell ⟨B8, 0, none⟩ (.slice p3 (M.length + 1) k3)) := by
              refine ⟨_, B1.set 0 _, ?_, fun k hk => ?_, UF⟩
              · unfold StackAt flat
                rw [List.flatMap_append, List.length_append]
                have AM2 : wB.ownsRow w.heap.size 86 2 (.slice p3 (M.length + 1) k3) (M.length + 1) (flat (stc T) M ++ [.pointer (some ⟨c, 0, none⟩), .string (ofL (T c))]) := by rw [← E3.out]; exact AM
                refine own_keep AM2 ((Upd.refl (fun k => k = B8) wB).set (fun _ => rfl)) (fun k hk e => ?_)
                obtain ⟨_, _, cs, hB⟩ := own2_lt AM2 hk
                rw [e] at hB; exact absurd (hB.ty B1) (by decide)
              · rcases AN k hk with g | g
                · exact J3 k g
                · exact Or.inr (Nat.le_trans J4.size g)
            have FIN := Lib.hid (show ownPostK (fun W W' => RowIn base w3.heap.size (.slice pR (G b).kids.length cR) (G b).kids W → RowIn base w3.heap.size (.slice pR (G b).kids.length cR) (G b).kids W') (fun pre W => WalkJ w w4 T gs B8 (l0 ++ pre.map fun y : { y : Nat × Nat // y.2 ∈ (G b).kids } => y.1.2) W) (fun _ _ _ => False) (pre ++ [y]) W .normal { tmps := #[], defers := [] } _ from ⟨KO, fun _ => RF, by show WalkJ _ _ _ _ _ _ _; rw [hM1]; exact JF⟩)
            clear KO RF JF UF B1 AM AU AN ne8 J9 J1 J2 J3 J4 HW UW TC CS SBZ PSZ hsp C8 C9 CB ST4 OP4 MK4 H4 RI B38 B39 ST3 OP3 MK3 hM hM1
            gi_wp2
            refine wpIn_region_any (by kernel_rfl) (wpAny_round (by intro o ho c; simp only [List.mem_toArray, List.mem_cons, List.not_mem_nil, or_false] at ho; rcases ho with rfl | rfl | rfl | rfl | rfl | rfl | rfl | rfl | rfl | rfl | rfl | rfl | rfl <;> (intro e; cases e)) (by rintro ⟨_, _, h⟩; exact h) _ _ _ _ ?_)
            change wpAny _ _ _ _ _ _ _ (World.drew _)
            refine' wpAny_take (i := 1) (oi := _) (v := _) ?hib1 (by kernel_rfl) (by kernel_rfl) (by kernel_rfl) ?hQb1 ?hyb1 ?restb1
            case' hib1 => (first | (simp only [List.getElem?_toArray, List.getElem?_cons_succ, List.getElem?_cons_zero]; done) | (simp only [List.getElem?_toArray, List.getElem?_cons_succ, List.getElem?_cons_zero]; rfl))
            case' hQb1 => exact fun _ _ _ h => h
            case' hyb1 => refine Or.inl ⟨by rfl, ?_⟩
            (intro w; go_simp; try with_reducible rfl)
            try simp only [Act.put, List.setIfInBounds_toArray, List.set_cons_zero, List.set_cons_succ]
            refine' wpAny_take (i := 2) (oi := _) (v := _) ?hib2 (by kernel_rfl) (by kernel_rfl) (by kernel_rfl) ?hQb2 ?hyb2 ?restb2
            case' hib2 => (first | (simp only [List.getElem?_toArray, List.getElem?_cons_succ, List.getElem?_cons_zero]; done) | (simp only [List.getElem?_toArray, List.getElem?_cons_succ, List.getElem?_cons_zero]; rfl))
            case' hQb2 => exact fun _ _ _ h => h
            case' hyb2 => refine Or.inl ⟨by rfl, ?_⟩
            (intro w; go_simp; try with_reducible rfl)
            try simp only [Act.put, List.setIfInBounds_toArray, List.set_cons_zero, List.set_cons_succ]
            refine' wpAny_take (i := 4) (oi := _) (v := _) ?hib3 (by kernel_rfl) (by kernel_rfl) (by kernel_rfl) ?hQb3 ?hyb3 ?restb3
            case' hib3 => (first | (simp only [List.getElem?_toArray, List.getElem?_cons_succ, List.getElem?_cons_zero]; done) | (simp only [List.getElem?_toArray, List.getElem?_cons_succ, List.getElem?_cons_zero]; rfl))
            case' hQb3 => exact fun _ _ _ h => h
            case' hyb3 => refine Or.inl ⟨by rfl, ?_⟩
            (intro w; go_simp; try with_reducible rfl)
            try simp only [Act.put, List.setIfInBounds_toArray, List.set_cons_zero, List.set_cons_succ]
            refine' wpAny_take (i := 5) (oi := _) (v := _) ?hib4 (by kernel_rfl) (by kernel_rfl) (by kernel_rfl) ?hQb4 ?hyb4 ?restb4
            case' hib4 => (first | (simp only [List.getElem?_toArray, List.getElem?_cons_succ, List.getElem?_cons_zero]; done) | (simp only [List.getElem?_toArray, List.getElem?_cons_succ, List.getElem?_cons_zero]; rfl))
            case' hQb4 => exact fun _ _ _ h => h
            case' hyb4 => refine Or.inl ⟨by rfl, ?_⟩
            (intro w; go_simp; try with_reducible rfl)
            try simp only [Act.put, List.setIfInBounds_toArray, List.set_cons_zero, List.set_cons_succ]
            refine' wpAny_take (i := 6) (oi := _) (v := _) ?hib5 (by kernel_rfl) (by kernel_rfl) (by kernel_rfl) ?hQb5 ?hyb5 ?restb5
            case' hib5 => (first | (simp only [List.getElem?_toArray, List.getElem?_cons_succ, List.getElem?_cons_zero]; done) | (simp only [List.getElem?_toArray, List.getElem?_cons_succ, List.getElem?_cons_zero]; rfl))
            case' hQb5 => exact fun _ _ _ h => h
            case' hyb5 => refine Or.inl ⟨by rfl, ?_⟩
            (intro w; go_simp; try with_reducible rfl)
            try simp only [Act.put, List.setIfInBounds_toArray, List.set_cons_zero, List.set_cons_succ]
            refine wpAny_ready (rs := [0, 3, 7]) (by kernel_rfl) (by simp) ?_
            refine AllReady.cons rfl (fun K hK => ?_) (AllReady.cons rfl (fun K hK => ?_) (AllReady.cons rfl (fun K hK => ?_) AllReady.nil))
            · go_simp
              refine hK _ _ ?_
              clear hK K
              try simp only [Act.put, List.setIfInBounds_toArray, List.set_cons_zero, List.set_cons_succ]
              refine wpAny_ready (rs := [3, 7]) (by kernel_rfl) (by simp) ?_
              refine AllReady.cons rfl (fun K hK => ?_) (AllReady.cons rfl (fun K hK => ?_) AllReady.nil)
              · go_simp
                refine hK _ _ ?_
                clear hK K
                try simp only [Act.put, List.setIfInBounds_toArray, List.set_cons_zero, List.set_cons_succ]
                refine wpAny_ready (rs := [7]) (by kernel_rfl) (by simp) ?_
                refine AllReady.cons rfl (fun K hK => ?_) AllReady.nil
                go_simp
                refine hK _ _ ?_
                clear hK K
                try simp only [Act.put, List.setIfInBounds_toArray, List.set_cons_zero, List.set_cons_succ]
                refine' wpAny_take (i := 8) (oi := _) (v := _) ?hib6 (by kernel_rfl) (by kernel_rfl) (by kernel_rfl) ?hQb6 ?hyb6 ?restb6
                case' hib6 => (first | (simp only [List.getElem?_toArray, List.getElem?_cons_succ, List.getElem?_cons_zero]; done) | (simp only [List.getElem?_toArray, List.getElem?_cons_succ, List.getElem?_cons_zero]; rfl))
                case' hQb6 => exact fun _ _ _ h => h
                case' hyb6 => refine Or.inl ⟨by rfl, ?_⟩
                (intro w; go_simp; try with_reducible rfl)
                try simp only [Act.put, List.setIfInBounds_toArray, List.set_cons_zero, List.set_cons_succ]
                refine' wpAny_take (i := 9) (oi := _) (v := _) ?hib7 (by kernel_rfl) (by kernel_rfl) (by kernel_rfl) ?hQb7 ?hyb7 ?restb7
                case' hib7 => (first | (simp only [List.getElem?_toArray, List.getElem?_cons_succ, List.getElem?_cons_zero]; done) | (simp only [List.getElem?_toArray, List.getElem?_cons_succ, List.getElem?_cons_zero]; rfl))
                case' hQb7 => exact fun _ _ _ h => h
                case' hyb7 => refine Or.inl ⟨by rfl, ?_⟩
                (intro w; go_simp; try with_reducible rfl)
                try simp only [Act.put, List.setIfInBounds_toArray, List.set_cons_zero, List.set_cons_succ]
                refine wpAny_ready (rs := [10]) (by kernel_rfl) (by simp) ?_
                refine AllReady.cons rfl (fun K hK => ?_) AllReady.nil
                go_simp
                refine hK _ _ ?_
                clear hK K
                try simp only [Act.put, List.setIfInBounds_toArray, List.set_cons_zero, List.set_cons_succ]
                refine wpAny_ready (rs := [11]) (by kernel_rfl) (by simp) ?_
                refine AllReady.cons rfl (fun K hK => ?_) AllReady.nil
                refine step_builtin rfl _ _ 89 rfl _ _ rfl rfl hr ?_
                refine hK _ _ ?_
                clear hK K
                try simp only [Act.put, List.setIfInBounds_toArray, List.set_cons_zero, List.set_cons_succ]
                refine wpAny_ready (rs := [12]) (by kernel_rfl) (by simp) ?_
                refine AllReady.cons rfl (fun K hK => ?_) AllReady.nil
                go_simp
                refine hK _ _ ?_
                clear hK K
                try simp only [Act.put, List.setIfInBounds_toArray, List.set_cons_zero, List.set_cons_succ]
                refine wpAny_done (by kernel_rfl) ?_ _
                exact FIN.out
              · go_simp
                refine hK _ _ ?_
                clear hK K
                try simp only [Act.put, List.setIfInBounds_toArray, List.set_cons_zero, List.set_cons_succ]
                refine wpAny_ready (rs := [3]) (by kernel_rfl) (by simp) ?_
                refine AllReady.cons rfl (fun K hK => ?_) AllReady.nil
                go_simp
                refine hK _ _ ?_
                clear hK K
                try simp only [Act.put, List.setIfInBounds_toArray, List.set_cons_zero, List.set_cons_succ]
                refine' wpAny_take (i := 8) (oi := _) (v := _) ?hib8 (by kernel_rfl) (by kernel_rfl) (by kernel_rfl) ?hQb8 ?hyb8 ?restb8
                case' hib8 => (first | (simp only [List.getElem?_toArray, List.getElem?_cons_succ, List.getElem?_cons_zero]; done) | (simp only [List.getElem?_toArray, List.getElem?_cons_succ, List.getElem?_cons_zero]; rfl))
                case' hQb8 => exact fun _ _ _ h => h
                case' hyb8 => refine Or.inl ⟨by rfl, ?_⟩
                (intro w; go_simp; try with_reducible rfl)
                try simp only [Act.put, List.setIfInBounds_toArray, List.set_cons_zero, List.set_cons_succ]
                refine' wpAny_take (i := 9) (oi := _) (v := _) ?hib9 (by kernel_rfl) (by kernel_rfl) (by kernel_rfl) ?hQb9 ?hyb9 ?restb9
                case' hib9 => (first | (simp only [List.getElem?_toArray, List.getElem?_cons_succ, List.getElem?_cons_zero]; done) | (simp only [List.getElem?_toArray, List.getElem?_cons_succ, List.getElem?_cons_zero]; rfl))
                case' hQb9 => exact fun _ _ _ h => h
                case' hyb9 => refine Or.inl ⟨by rfl, ?_⟩
                (intro w; go_simp; try with_reducible rfl)
                try simp only [Act.put, List.setIfInBounds_toArray, List.set_cons_zero, List.set_cons_succ]
                refine wpAny_ready (rs := [10]) (by kernel_rfl) (by simp) ?_
                refine AllReady.cons rfl (fun K hK => ?_) AllReady.nil
                go_simp
                refine hK _ _ ?_
                clear hK K
                try simp only [Act.put, List.setIfInBounds_toArray, List.set_cons_zero, List.set_cons_succ]
                refine wpAny_ready (rs := [11]) (by kernel_rfl) (by simp) ?_
                refine AllReady.cons rfl (fun K hK => ?_) AllReady.nil
                refine step_builtin rfl _ _ 89 rfl _ _ rfl rfl hr ?_
                refine hK _ _ ?_
                clear hK K
                try simp only [Act.put, List.setIfInBounds_toArray, List.set_cons_zero, List.set_cons_succ]
                refine wpAny_ready (rs := [12]) (by kernel_rfl) (by simp) ?_
                refine AllReady.cons rfl (fun K hK => ?_) AllReady.nil
                go_simp
                refine hK _ _ ?_
                clear hK K
                try simp only [Act.put, List.setIfInBounds_toArray, List.set_cons_zero, List.set_cons_succ]
                refine wpAny_done (by kernel_rfl) ?_ _
                exact FIN.out
            · go_simp
              refine hK _ _ ?_
              clear hK K
              try simp only [Act.put, List.setIfInBounds_toArray, List.set_cons_zero, List.set_cons_succ]
              refine wpAny_ready (rs := [0, 7]) (by kernel_rfl) (by simp) ?_
              refine AllReady.cons rfl (fun K hK => ?_) (AllReady.cons rfl (fun K hK => ?_) AllReady.nil)
              · go_simp
                refine hK _ _ ?_
                clear hK K
                try simp only [Act.put, List.setIfInBounds_toArray, List.set_cons_zero, List.set_cons_succ]
                refine wpAny_ready (rs := [7]) (by kernel_rfl) (by simp) ?_
                refine AllReady.cons rfl (fun K hK => ?_) AllReady.nil
                go_simp
                refine hK _ _ ?_
                clear hK K
                try simp only [Act.put, List.setIfInBounds_toArray, List.set_cons_zero, List.set_cons_succ]
                refine' wpAny_take (i := 8) (oi := _) (v := _) ?hib10 (by kernel_rfl) (by kernel_rfl) (by kernel_rfl) ?hQb10 ?hyb10 ?restb10
                case' hib10 => (first | (simp only [List.getElem?_toArray, List.getElem?_cons_succ, List.getElem?_cons_zero]; done) | (simp only [List.getElem?_toArray, List.getElem?_cons_succ, List.getElem?_cons_zero]; rfl))
                case' hQb10 => exact fun _ _ _ h => h
                case' hyb10 => refine Or.inl ⟨by rfl, ?_⟩
                (intro w; go_simp; try with_reducible rfl)
                try simp only [Act.put, List.setIfInBounds_toArray, List.set_cons_zero, List.set_cons_succ]
                refine' wpAny_take (i := 9) (oi := _) (v := _) ?hib11 (by kernel_rfl) (by kernel_rfl) (by kernel_rfl) ?hQb11 ?hyb11 ?restb11
                case' hib11 => (first | (simp only [List.getElem?_toArray, List.getElem?_cons_succ, List.getElem?_cons_zero]; done) | (simp only [List.getElem?_toArray, List.getElem?_cons_succ, List.getElem?_cons_zero]; rfl))
                case' hQb11 => exact fun _ _ _ h => h
                case' hyb11 => refine Or.inl ⟨by rfl, ?_⟩
                (intro w; go_simp; try with_reducible rfl)
                try simp only [Act.put, List.setIfInBounds_toArray, List.set_cons_zero, List.set_cons_succ]
                refine wpAny_ready (rs := [10]) (by kernel_rfl) (by simp) ?_
                refine AllReady.cons rfl (fun K hK => ?_) AllReady.nil
                go_simp
                refine hK _ _ ?_
                clear hK K
                try simp only [Act.put, List.setIfInBounds_toArray, List.set_cons_zero, List.set_cons_succ]
                refine wpAny_ready (rs := [11]) (by kernel_rfl) (by simp) ?_
                refine AllReady.cons rfl (fun K hK => ?_) AllReady.nil
                refine step_builtin rfl _ _ 89 rfl _ _ rfl rfl hr ?_
                refine hK _ _ ?_
                clear hK K
                try simp only [Act.put, List.setIfInBounds_toArray, List.set_cons_zero, List.set_cons_succ]
                refine wpAny_ready (rs := [12]) (by kernel_rfl) (by simp) ?_
                refine AllReady.cons rfl (fun K hK => ?_) AllReady.nil
                go_simp
                refine hK _ _ ?_
                clear hK K
                try simp only [Act.put, List.setIfInBounds_toArray, List.set_cons_zero, List.set_cons_succ]
                refine wpAny_done (by kernel_rfl) ?_ _
                exact FIN.out
              · go_simp
                refine hK _ _ ?_
                clear hK K
                try simp only [Act.put, List.setIfInBounds_toArray, List.set_cons_zero, List.set_cons_succ]
                refine' wpAny_take (i := 8) (oi := _) (v := _) ?hib12 (by kernel_rfl) (by kernel_rfl) (by kernel_rfl) ?hQb12 ?hyb12 ?restb12
                case' hib12 => (first | (simp only [List.getElem?_toArray, List.getElem?_cons_succ, List.getElem?_cons_zero]; done) | (simp only [List.getElem?_toArray, List.getElem?_cons_succ, List.getElem?_cons_zero]; rfl))
                case' hQb12 => exact fun _ _ _ h => h
                case' hyb12 => refine Or.inl ⟨by rfl, ?_⟩
                (intro w; go_simp; try with_reducible rfl)
                try simp only [Act.put, List.setIfInBounds_toArray, List.set_cons_zero, List.set_cons_succ]
                refine' wpAny_take (i := 9) (oi := _) (v := _) ?hib13 (by kernel_rfl) (by kernel_rfl) (by kernel_rfl) ?hQb13 ?hyb13 ?restb13
                case' hib13 => (first | (simp only [List.getElem?_toArray, List.getElem?_cons_succ, List.getElem?_cons_zero]; done) | (simp only [List.getElem?_toArray, List.getElem?_cons_succ, List.getElem?_cons_zero]; rfl))
                case' hQb13 => exact fun _ _ _ h => h
                case' hyb13 => refine Or.inl ⟨by rfl, ?_⟩
                (intro w; go_simp; try with_reducible rfl)
                try simp only [Act.put, List.setIfInBounds_toArray, List.set_cons_zero, List.set_cons_succ]
                refine wpAny_ready (rs := [0, 10]) (by kernel_rfl) (by simp) ?_
                refine AllReady.cons rfl (fun K hK => ?_) (AllReady.cons rfl (fun K hK => ?_) AllReady.nil)
                · go_simp
                  refine hK _ _ ?_
                  clear hK K
                  try simp only [Act.put, List.setIfInBounds_toArray, List.set_cons_zero, List.set_cons_succ]
                  refine wpAny_ready (rs := [10]) (by kernel_rfl) (by simp) ?_
                  refine AllReady.cons rfl (fun K hK => ?_) AllReady.nil
                  go_simp
                  refine hK _ _ ?_
                  clear hK K
                  try simp only [Act.put, List.setIfInBounds_toArray, List.set_cons_zero, List.set_cons_succ]
                  refine wpAny_ready (rs := [11]) (by kernel_rfl) (by simp) ?_
                  refine AllReady.cons rfl (fun K hK => ?_) AllReady.nil
                  refine step_builtin rfl _ _ 89 rfl _ _ rfl rfl hr ?_
                  refine hK _ _ ?_
                  clear hK K
                  try simp only [Act.put, List.setIfInBounds_toArray, List.set_cons_zero, List.set_cons_succ]
                  refine wpAny_ready (rs := [12]) (by kernel_rfl) (by simp) ?_
                  refine AllReady.cons rfl (fun K hK => ?_) AllReady.nil
                  go_simp
                  refine hK _ _ ?_
                  clear hK K
                  try simp only [Act.put, List.setIfInBounds_toArray, List.set_cons_zero, List.set_cons_succ]
                  refine wpAny_done (by kernel_rfl) ?_ _
                  exact FIN.out
                · go_simp
                  refine hK _ _ ?_
                  clear hK K
                  try simp only [Act.put, List.setIfInBounds_toArray, List.set_cons_zero, List.set_cons_succ]
                  refine wpAny_ready (rs := [0]) (by kernel_rfl) (by simp) ?_
                  refine AllReady.cons rfl (fun K hK => ?_) AllReady.nil
                  go_simp
                  refine hK _ _ ?_
                  clear hK K
                  try simp only [Act.put, List.setIfInBounds_toArray, List.set_cons_zero, List.set_cons_succ]
                  refine wpAny_ready (rs := [11]) (by kernel_rfl) (by simp) ?_
                  refine AllReady.cons rfl (fun K hK => ?_) AllReady.nil
                  refine step_builtin rfl _ _ 89 rfl _ _ rfl rfl hr ?_
                  refine hK _ _ ?_
                  clear hK K
                  try simp only [Act.put, List.setIfInBounds_toArray, List.set_cons_zero, List.set_cons_succ]
                  refine wpAny_ready (rs := [12]) (by kernel_rfl) (by simp) ?_
                  refine AllReady.cons rfl (fun K hK => ?_) AllReady.nil
                  go_simp
                  refine hK _ _ ?_
                  clear hK K
                  try simp only [Act.put, List.setIfInBounds_toArray, List.set_cons_zero, List.set_cons_succ]
                  refine wpAny_done (by kernel_rfl) ?_ _
                  exact FIN.out
            · go_simp
              refine hK _ _ ?_
              clear hK K
              try simp only [Act.put, List.setIfInBounds_toArray, List.set_cons_zero, List.set_cons_succ]
              refine wpAny_ready (rs := [0, 3]) (by kernel_rfl) (by simp) ?_
              refine AllReady.cons rfl (fun K hK => ?_) (AllReady.cons rfl (fun K hK => ?_) AllReady.nil)
              · go_simp
                refine hK _ _ ?_
                clear hK K
                try simp only [Act.put, List.setIfInBounds_toArray, List.set_cons_zero, List.set_cons_succ]
                refine wpAny_ready (rs := [3]) (by kernel_rfl) (by simp) ?_
                refine AllReady.cons rfl (fun K hK => ?_) AllReady.nil
                go_simp
                refine hK _ _ ?_
                clear hK K
                try simp only [Act.put, List.setIfInBounds_toArray, List.set_cons_zero, List.set_cons_succ]
                refine' wpAny_take (i := 8) (oi := _) (v := _) ?hib14 (by kernel_rfl) (by kernel_rfl) (by kernel_rfl) ?hQb14 ?hyb14 ?restb14
                case' hib14 => (first | (simp only [List.getElem?_toArray, List.getElem?_cons_succ, List.getElem?_cons_zero]; done) | (simp only [List.getElem?_toArray, List.getElem?_cons_succ, List.getElem?_cons_zero]; rfl))
                case' hQb14 => exact fun _ _ _ h => h
                case' hyb14 => refine Or.inl ⟨by rfl, ?_⟩
                (intro w; go_simp; try with_reducible rfl)
                try simp only [Act.put, List.setIfInBounds_toArray, List.set_cons_zero, List.set_cons_succ]
                refine' wpAny_take (i := 9) (oi := _) (v := _) ?hib15 (by kernel_rfl) (by kernel_rfl) (by kernel_rfl) ?hQb15 ?hyb15 ?restb15
                case' hib15 => (first | (simp only [List.getElem?_toArray, List.getElem?_cons_succ, List.getElem?_cons_zero]; done) | (simp only [List.getElem?_toArray, List.getElem?_cons_succ, List.getElem?_cons_zero]; rfl))
                case' hQb15 => exact fun _ _ _ h => h
                case' hyb15 => refine Or.inl ⟨by rfl, ?_⟩
                (intro w; go_simp; try with_reducible rfl)
                try simp only [Act.put, List.setIfInBounds_toArray, List.set_cons_zero, List.set_cons_succ]
                refine wpAny_ready (rs := [10]) (by kernel_rfl) (by simp) ?_
                refine AllReady.cons rfl (fun K hK => ?_) AllReady.nil
                go_simp
                refine hK _ _ ?_
                clear hK K
                try simp only [Act.put, List.setIfInBounds_toArray, List.set_cons_zero, List.set_cons_succ]
                refine wpAny_ready (rs := [11]) (by kernel_rfl) (by simp) ?_
                refine AllReady.cons rfl (fun K hK => ?_) AllReady.nil
                refine step_builtin rfl _ _ 89 rfl _ _ rfl rfl hr ?_
                refine hK _ _ ?_
                clear hK K
                try simp only [Act.put, List.setIfInBounds_toArray, List.set_cons_zero, List.set_cons_succ]
                refine wpAny_ready (rs := [12]) (by kernel_rfl) (by simp) ?_
                refine AllReady.cons rfl (fun K hK => ?_) AllReady.nil
                go_simp
                refine hK _ _ ?_
                clear hK K
                try simp only [Act.put, List.setIfInBounds_toArray, List.set_cons_zero, List.set_cons_succ]
                refine wpAny_done (by kernel_rfl) ?_ _
                exact FIN.out
              · go_simp
                refine hK _ _ ?_
                clear hK K
                try simp only [Act.put, List.setIfInBounds_toArray, List.set_cons_zero, List.set_cons_succ]
                refine' wpAny_take (i := 8) (oi := _) (v := _) ?hib16 (by kernel_rfl) (by kernel_rfl) (by kernel_rfl) ?hQb16 ?hyb16 ?restb16
                case' hib16 => (first | (simp only [List.getElem?_toArray, List.getElem?_cons_succ, List.getElem?_cons_zero]; done) | (simp only [List.getElem?_toArray, List.getElem?_cons_succ, List.getElem?_cons_zero]; rfl))
                case' hQb16 => exact fun _ _ _ h => h
                case' hyb16 => refine Or.inl ⟨by rfl, ?_⟩
                (intro w; go_simp; try with_reducible rfl)
                try simp only [Act.put, List.setIfInBounds_toArray, List.set_cons_zero, List.set_cons_succ]
                refine' wpAny_take (i := 9) (oi := _) (v := _) ?hib17 (by kernel_rfl) (by kernel_rfl) (by kernel_rfl) ?hQb17 ?hyb17 ?restb17
                case' hib17 => (first | (simp only [List.getElem?_toArray, List.getElem?_cons_succ, List.getElem?_cons_zero]; done) | (simp only [List.getElem?_toArray, List.getElem?_cons_succ, List.getElem?_cons_zero]; rfl))
                case' hQb17 => exact fun _ _ _ h => h
                case' hyb17 => refine Or.inl ⟨by rfl, ?_⟩
                (intro w; go_simp; try with_reducible rfl)
                try simp only [Act.put, List.setIfInBounds_toArray, List.set_cons_zero, List.set_cons_succ]
                refine wpAny_ready (rs := [0, 10]) (by kernel_rfl) (by simp) ?_
                refine AllReady.cons rfl (fun K hK => ?_) (AllReady.cons rfl (fun K hK => ?_) AllReady.nil)
                · go_simp
                  refine hK _ _ ?_
                  clear hK K
                  try simp only [Act.put, List.setIfInBounds_toArray, List.set_cons_zero, List.set_cons_succ]
                  refine wpAny_ready (rs := [10]) (by kernel_rfl) (by simp) ?_
                  refine AllReady.cons rfl (fun K hK => ?_) AllReady.nil
                  go_simp
                  refine hK _ _ ?_
                  clear hK K
                  try simp only [Act.put, List.setIfInBounds_toArray, List.set_cons_zero, List.set_cons_succ]
                  refine wpAny_ready (rs := [11]) (by kernel_rfl) (by simp) ?_
                  refine AllReady.cons rfl (fun K hK => ?_) AllReady.nil
                  refine step_builtin rfl _ _ 89 rfl _ _ rfl rfl hr ?_
                  refine hK _ _ ?_
                  clear hK K
                  try simp only [Act.put, List.setIfInBounds_toArray, List.set_cons_zero, List.set_cons_succ]
                  refine wpAny_ready (rs := [12]) (by kernel_rfl) (by simp) ?_
                  refine AllReady.cons rfl (fun K hK => ?_) AllReady.nil
                  go_simp
                  refine hK _ _ ?_
                  clear hK K
                  try simp only [Act.put, List.setIfInBounds_toArray, List.set_cons_zero, List.set_cons_succ]
                  refine wpAny_done (by kernel_rfl) ?_ _
                  exact FIN.out
                · go_simp
                  refine hK _ _ ?_
                  clear hK K
                  try simp only [Act.put, List.setIfInBounds_toArray, List.set_cons_zero, List.set_cons_succ]
                  refine wpAny_ready (rs := [0]) (by kernel_rfl) (by simp) ?_
                  refine AllReady.cons rfl (fun K hK => ?_) AllReady.nil
                  go_simp
                  refine hK _ _ ?_
                  clear hK K
                  try simp only [Act.put, List.setIfInBounds_toArray, List.set_cons_zero, List.set_cons_succ]
                  refine wpAny_ready (rs := [11]) (by kernel_rfl) (by simp) ?_
                  refine AllReady.cons rfl (fun K hK => ?_) AllReady.nil
                  refine step_builtin rfl _ _ 89 rfl _ _ rfl rfl hr ?_
                  refine hK _ _ ?_
                  clear hK K
                  try simp only [Act.put, List.setIfInBounds_toArray, List.set_cons_zero, List.set_cons_succ]
                  refine wpAny_ready (rs := [12]) (by kernel_rfl) (by simp) ?_
                  refine AllReady.cons rfl (fun K hK => ?_) AllReady.nil
                  go_simp
                  refine hK _ _ ?_
                  clear hK K
                  try simp only [Act.put, List.setIfInBounds_toArray, List.set_cons_zero, List.set_cons_succ]
                  refine wpAny_done (by kernel_rfl) ?_ _
                  exact FIN.out
          case done =>
            rintro D ys W hD hys ⟨vs2, J1, J2, J3, J4⟩ hK
            have hyk : ys.map (fun y : { y : Nat × Nat // y.2 ∈ (G b).kids } => y.1.2) = (G b).kids.reverse := by
              rw [← bk_map, ← hys, List.map_map]; rfl
            rw [hyk] at J2
            obtain ⟨p2, k2, e2, _⟩ := own_slice J2
            subst e2
            have s0 := J1.cellAt (i := 0) (v := .slice p2 (l0 ++ (G b).kids.reverse).length k2) rfl
            have h8W := J1.lt
            have UJ : ∀ k, k < w.heap.size → k = B8 ∨ k = gs → False := fun k hk e => by
              have h1 := IH.out.gb
              have h2 := (own2_lt ST4 (k := gs) rfl).2.1
              rcases e with e | e <;> omega
            have WI : Hid (WalkI w (W.alloc (.cells #[.slice p2 (l0 ++ (G b).kids.reverse).length k2] 89)) bs S G T x v5 (done ++ [b]) (l0 ++ (G b).kids.reverse) (D :: Ds) (.slice p2 (l0 ++ (G b).kids.reverse).length k2) W.heap.size) := by
              have u5 : Upd (fun _ => False) W (W.alloc (.cells #[.slice p2 (l0 ++ (G b).kids.reverse).length k2] 89)) := (Upd.refl _ _).alloc _
              have OW : Opens Ds W := OP4.keep J4 (fun E hE e => by
                rcases e with e | e
                · exact opens_cells OP4 hE ⟨_, e ▸ C8⟩
                · exact opens_cells OP4 hE (e ▸ (own2_lt ST4 (k := gs) rfl).2.2))
              have MW : MarksAt W w.heap.size v5 (mksOf G T (done ++ [b])) := MK4.keep J4 (fun k hk e => by
                obtain ⟨_, _, cs, hB⟩ := own2_lt MK4 hk
                rcases e with e | e
                · rw [e] at hB; exact absurd (hB.ty C8) (by decide)
                · obtain ⟨_, _, cs', hB'⟩ := own2_lt ST4 (k := gs) rfl
                  rw [e] at hB; exact absurd (hB.ty hB') (by decide))
              refine ⟨SUB.out, LM2.out, MW.keep u5 (fun _ _ h => h), Blk.made W [_] _, own_keep J2 u5 (fun _ _ h => h), (U4.trans J4 UJ).alloc _, ?_, ?_, ?_, ?_, ?_⟩
              · intro E hE
                rcases List.mem_cons.1 hE with e | hE
                · rw [e]; exact (u5.block D (Array.getElem?_eq_some_iff.1 hK).1 id).trans hK
                · exact (OW.keep u5 (fun _ _ h => h)) E hE
              · refine List.nodup_cons.2 ⟨fun hm => ?_, IH.out.nd⟩
                have := (Array.getElem?_eq_some_iff.1 (OP4 D hm)).1; omega
              · intro E hE
                rcases List.mem_cons.1 hE with e | hE
                · rw [e]; have := U4.size; omega
                · exact IH.out.ge E hE
              · rw [List.length_append, List.length_cons, IH.out.len]; rfl
              · have := U4.size; have := J4.size; omega
            have MS : (subs T S (T x)).length - (D :: Ds).length < (subs T S (T x)).length - Ds.length := by
              have h1 := congrArg List.length SUB.out
              rw [List.length_append, List.length_append, List.length_singleton, IH.out.len] at h1
              rw [List.length_cons]; omega
            clear UJ J1 J2 J3 J4 hK hyk hys C8 C9 CB ST4 OP4 MK4 H4 RI B38 B39 ST3 OP3 MK3 U34 U4 hw4
            generalize (l0 ++ (G b).kids.reverse).length = qn at *
            go_wp2
            refine ⟨?_, ?measure⟩
            · (repeat apply Exists.intro)
              refine ⟨?_, rfl⟩
              exact ⟨_, _, D :: Ds, _, W.heap.size, rfl, rfl, WI.out⟩
            case measure => simpa using MS
  · have EN : Hid (walkL L p = []) := HM.out.walk_none hn
    have U1 := Lib.hid u
    clear hn u UN
    go_wp2
    refine marks_end [] _ (fun D hD => by cases hD) List.nodup_nil (fun w' u => ⟨_, results_tmp (t := 4) rfl _ _ _, _, rfl, ?_, (U1.out.alloc _).trans u (fun _ _ hD => by cases hD)⟩)
    rw [EN.out]; exact MarksAt.nil _ _
end
end Go.Proofs.Ytnlbmplbaalgmaa
