/- sched: Trace; the reference's Trace (chapter 21). The reference's Trace; the law SchedTraces (chapter 21). -/
import Derived.Test.YtmphookgaopdlaaGreatSdNx
import Derived.Test.YtmphookgaopdlaaGreatSdUntils
import Derived.Test.YtmphookgaopdlaaGreatFrEq
namespace Go.Proofs.YtmphookgaopdlaaGreat
open Go.RowKit Go.Sort Go.Shelf
attribute [local go_sem] Oper.semAt_some
set_option linter.unusedVariables false

/-- The ranges from a tick on, at most so many. -/
def rngW (F : Nat) (l : List WinR) (t : Nat) : WinR := ⟨t, untilS F l t, (winD l (t % F)).part⟩
def traceK (F : Nat) (l : List WinR) : Nat → Nat → List WinR
  | 0, _ => []
  | k + 1, t => rngW F l t :: (if t + untilS F l t = 18446744073709551616 then [] else traceK F l k (t + untilS F l t))
theorem traceK_len {F : Nat} {l : List WinR} : ∀ k t, (traceK F l k t).length ≤ k
  | 0, _ => Nat.le_refl _
  | k + 1, t => by
    unfold traceK
    rw [List.length_cons]
    split
    · simp
    · have := traceK_len (F := F) (l := l) k (t + untilS F l t); omega
theorem rngs_left (F : Nat) (l : List WinR) : ∀ k t, rngs F l (k + 1) t = rngW F l t :: rngs F l k (t + untilS F l t)
  | 0, t => by rw [rngs_succ]; rfl
  | k + 1, t => by
    rw [rngs_succ, rngs_left F l k t, rngs_succ F l k (t + untilS F l t)]
    rfl
/-- As many ranges as were asked for, or all that there are. -/
theorem trace_full {F : Nat} {l : List WinR} : ∀ k t, liveS F l k t → traceK F l k t = rngs F l k t
  | 0, _, _ => rfl
  | 1, t, _ => by
    unfold traceK
    rw [rngs_left]
    split <;> rfl
  | k + 2, t, hl => by
    have h1 : t + untilS F l t < 18446744073709551616 := hl 1 (by omega)
    rw [rngs_left]
    unfold traceK
    rw [if_neg (by omega), trace_full (k + 1) _ (live_tail hl)]
theorem trace_end {F : Nat} {l : List WinR} : ∀ k n t, liveS F l (k + 1) t → tsS F l (k + 1) t = 18446744073709551616 → k < n → traceK F l n t = rngs F l (k + 1) t
  | 0, n + 1, t, _, he, _ => by
    unfold traceK
    rw [rngs_left, if_pos (show t + untilS F l t = _ from he)]; rfl
  | k + 1, n + 1, t, hl, he, hn => by
    have h1 : t + untilS F l t < 18446744073709551616 := hl 1 (by omega)
    unfold traceK
    rw [rngs_left, if_neg (by omega), trace_end k n _ (live_tail hl) he (by omega)]
/-- A list of windows in a row of the call's own, nil if empty. -/
def TrV (out : List WinR) (w : World) (e : Ending) (w' : World) : Prop :=
  ∃ a c, e = .returned (.slice a out.length c) ∧ w'.ownsRow w.heap.size 38 3 (.slice a out.length c) out.length (out.flatMap winL) ∧ Below w.heap.size w w'
/-- Trace's own boxes: n, out. -/
structure TrB (n : Nat) (w : World) (pre : List WinR) (W : World) : Prop where
  below : Below w.heap.size w W
  bn : Blk W w.heap.size 3 #[.int .i64 (n : Int)]
  own : ∃ a c, Blk W (w.heap.size + 1) 24 #[.slice a pre.length c] ∧ W.ownsRow w.heap.size 38 3 (.slice a pre.length c) pre.length (pre.flatMap winL) ∧ (∀ r, (Value.slice a pre.length c).ownBlock = some r → w.heap.size + 6 ≤ r)
theorem TrB.but {M : Nat → Prop} {n : Nat} {w W W' : World} {pre : List WinR} (h : TrB n w pre W) (hb : But M W W') (hM : ∀ i, M i → w.heap.size + 2 ≤ i ∧ i < w.heap.size + 6) : TrB n w pre W' := by
  obtain ⟨h1, h2, a, c, h3, h4, h5⟩ := h
  refine ⟨h1.trans (hb.below h1.size (fun k hk hm => by have := hM k hm; omega)), hb.blk h2 (fun hm => by have := hM _ hm; omega), a, c, hb.blk h3 (fun hm => by have := hM _ hm; omega), own_but h4 hb (fun k hk hm => by have := hM k hm; have := h5 k hk; omega), h5⟩
theorem TrB.start (n : Nat) (w : World) : TrB n w [] ((w.alloc (.cells #[.int .i64 (n : Int)] 3)).alloc (.cells #[.slice none 0 0] 24)) := by
  have h2 := Blk.new (w.alloc (.cells #[.int .i64 (n : Int)] 3)) 24 #[.slice none 0 0]
  rw [World.size_alloc] at h2
  exact ⟨((Below.refl _ w).alloc (Nat.le_refl _) _).alloc (by simp) _, (Blk.new w _ _).alloc _, none, 0, h2, World.ownsRow_nil _ _ _ _, fun r hr => by cases hr⟩
theorem TrB.belowW {n : Nat} {w W W' : World} {pre : List WinR} (h : TrB n w pre W) (hb : Below W.heap.size W W') : TrB n w pre W' := h.but (But.of_below (M := fun _ => False) hb) (fun i hi => hi.elim)
set_option maxRecDepth 100000 in
set_option maxHeartbeats 4000000 in
theorem Trace_calls (F : Nat) (l : List WinR) (a : Option Addr) (cap g t n : Nat) (w : World) (h : SdAt F l a cap g w) (hS : Sch F l) (hl : l.length ≤ 1048576) (ht : t < 18446744073709551616) (hn0 : 0 < n) (hn : n ≤ 1000000) :
    Calls Tryz.prog 23 #[.pointer (some ⟨g, 0, none⟩), .int .u64 (t : Int), .int .i64 (n : Int)] w (TrV (traceK F l n t) w) := by
  have HST := hide (TrB.start n w)
  have HRC := hide (fun W => ranges_calls g t W)
  have HRS := hide (fun Bs Bt W (hE : RgEnv w.heap.size Bs Bt F l a cap g t W) (h1 : w.heap.size ≤ W.heap.size) (h2 : w.heap.size ≤ Bt) (h3 : Bs ≠ Bt) => rg_seq w.heap.size Bs Bt F l a cap g t W hE h1 h2 h3 hS hl ht)
  have HENV := hide (fun W (hb : Below w.heap.size w W) => (show RgEnv w.heap.size W.heap.size (W.heap.size + 1) F l a cap g t ((W.alloc (.cells #[.pointer (some ⟨g, 0, none⟩)] 32)).alloc (.cells #[.int .u64 (t : Int)] 22)) from by
    have hd := h.below hb
    have hgz := h.box.lt
    refine ⟨(hd.box.alloc _).alloc _, hgz, (h.row.below hb).below (((Below.refl _ W).alloc hb.size _).alloc (by simp; have := hb.size; omega) _), (Blk.new W _ _).alloc _, ?_⟩
    have := Blk.new (W.alloc (.cells #[.pointer (some ⟨g, 0, none⟩)] 32)) 22 #[.int .u64 (t : Int)]
    rwa [World.size_alloc] at this))
  have HTF := hide (fun (xs : List WinR) (hx : RgAll F l t xs) (hlt : xs.length < n) => (show traceK F l n t = xs from by
    obtain ⟨k, rfl, hl2, he⟩ := hx
    rw [rngs_len] at hlt
    exact trace_end k n t hl2 he (by omega)))
  have HTP := hide (fun (xs : List WinR) (hx : RgPre F l t xs) (he : xs.length = n) => (show traceK F l n t = xs from by
    obtain ⟨k, rfl, hl2⟩ := hx
    rw [rngs_len] at he
    subst he
    exact trace_full _ t hl2))
  obtain ⟨TK, hTK⟩ : ∃ T, T = traceK F l n t := ⟨_, rfl⟩
  rw [← hTK] at HTF HTP ⊢
  obtain ⟨i0, hi, hz0, hz1, hz2⟩ := info_parts win_info3
  have HII := hide hi
  have HN0 := hide hn0
  have hnI : (n : Int) ≤ 1000000 := by omega
  have hle : decide ((n : Int) ≤ 0) = false := by rw [decide_eq_false_iff_not]; omega
  have hle2 : decide (n ≤ 0) = false := by rw [decide_eq_false_iff_not]; omega
  have hle3 : decide (n = 0) = false := by rw [decide_eq_false_iff_not]; omega
  have hle4 : (n = 0) = False := by simp; omega
  refine callsIn_wide (n := 3) |>.1 (callsIn_of_wp_marks Tryz.func23 rfl trivial ?_ rfl)
  simp only [Tryz.ntmps23, List.size_toArray, List.length_cons, List.length_nil, Nat.reduceAdd, Nat.reduceSub, Array.replicate_succ, Array.replicate_zero, List.push_toArray, List.append_toArray, List.nil_append, List.cons_append]
  clear h hS hl ht hn hi hn0 hTK
  gi_wp2_with (refine ⟨trivial, ?_⟩; gi_at_call 38; refine (callsIn_wide.2 (HRC.out _)).mono ?_; rintro e w2 ⟨rfl, rfl⟩)
  have HE0 := hide (HENV.out _ HST.out.below)
  have HB2 := hide ((HST.out.belowW ((Below.refl _ _).alloc (Nat.le_refl _) (.cells #[.pointer (some ⟨g, 0, none⟩)] 32))).belowW ((Below.refl _ _).alloc (Nat.le_refl _) (.cells #[.int .u64 (t : Int)] 22)))
  have HSZ : Hid (((((w.alloc (.cells #[.int .i64 (n : Int)] 3)).alloc (.cells #[.slice none 0 0] 24)).alloc (.cells #[.pointer (some ⟨g, 0, none⟩)] 32)).alloc (.cells #[.int .u64 (t : Int)] 22)).heap.size = w.heap.size + 4) := hide (by simp)
  simp only [World.size_alloc, Nat.add_assoc, Nat.reduceAdd] at HE0 ⊢
  generalize (((w.alloc (.cells #[.int .i64 (n : Int)] 3)).alloc (.cells #[.slice none 0 0] 24)).alloc (.cells #[.pointer (some ⟨g, 0, none⟩)] 32)).alloc (.cells #[.int .u64 (t : Int)] 22) = W0 at *
  have HNM : Hid (∀ i, mine (fun i => i = w.heap.size + 2 ∨ i = w.heap.size + 3) (2 + 0) W0.heap.size i → w.heap.size + 2 ≤ i ∧ i < w.heap.size + 6) := hide (by
    rintro i ((rfl | rfl) | hi)
    · omega
    · omega
    · rw [HSZ.out] at hi; omega)
  refine wp_range_own (gf := 54) (lb := #[.pointer (some ⟨w.heap.size + 2, 0, none⟩), .pointer (some ⟨w.heap.size + 3, 0, none⟩)]) rfl (enters_of Tryz.func54 (by kernel_rfl) rfl) (HRS.out (w.heap.size + 2) (w.heap.size + 3) W0 HE0.out (by rw [HSZ.out]; omega) (by omega) (by omega)) (Below.refl _ _) (fun _ => rfl)
    (by rintro i (rfl | rfl) <;> (rw [HSZ.out]; omega)) (by rw [HSZ.out]; omega)
    (fun i => i = w.heap.size + 1 ∨ w.heap.size + 6 ≤ i) (by rintro i (rfl | hi) <;> rw [HSZ.out] <;> refine ⟨by omega, ?_, by omega⟩ <;> rintro (h | h) <;> omega)
    (fun pre W => pre.length < n ∧ TrB n w pre W) (fun c pre W => (∃ id, c = .exit id ∧ id = 0) ∧ pre.length = n ∧ TrB n w pre W)
    (fun s A B hs hb => ⟨hs.1, hs.2.but hb HNM.out⟩) (fun c s A B hs hb => ⟨hs.1, hs.2.1, hs.2.2.but hb HNM.out⟩) ⟨HN0.out, HB2.out⟩
    (fun x a' W => ∃ b, w.heap.size + 6 ≤ b ∧ Blk W b 38 (winC x) ∧ a' = { tmps := #[.pointer (some ⟨g, 0, none⟩), .int .u64 (t : Int), .int .i64 (n : Int), undef, undef, .pointer (some ⟨w.heap.size, 0, none⟩), .slice none 0 0, .pointer (some ⟨w.heap.size + 1, 0, none⟩), .pointer (some ⟨b, 0, none⟩), .pointer (some ⟨g, 0, none⟩), .bool false, .bool false, .int .i64 (n : Int), .bool false, .bool false, .pointer (some ⟨g, 0, none⟩), .int .u64 (t : Int), .func (.func 54) #[] #[.pointer (some ⟨w.heap.size + 2, 0, none⟩), .pointer (some ⟨w.heap.size + 3, 0, none⟩)], .agg (winC x), undef, undef, undef, undef, undef, undef, undef, undef, undef], defers := [] })
    (fun x a' A B ⟨b, h1, h2, h3⟩ hb => ⟨b, h1, hb.blk h2 (fun hm => by have := HNM.out _ hm; omega), h3⟩)
    ?assign ?body ?done ?stop
  case assign =>
    intro lp pre x W hi hsz K hK
    rw [HSZ.out] at hsz
    simp only [encsV, zip1, List.setIfInBounds_toArray, List.set_cons_succ, List.set_cons_zero]
    gi_wp2
    exact hK _ _ ⟨W.heap.size, by omega, Blk.new W _ _, rfl⟩ ((But.refl _ W).alloc _) ⟨hi.1, hi.2.belowW ((Below.refl _ W).alloc (Nat.le_refl _) _)⟩
  case body =>
    rintro lp pre x a' W ⟨hpl, hi⟩ ⟨b, hg, hblk, rfl⟩ hsz hlen
    obtain ⟨h4, h0, a, c, h1, h2, h3⟩ := hi
    have b0 : W.cell? ⟨w.heap.size + 1, 0, none⟩ = some (.slice a pre.length c) := h1.cell 0
    have b1 : W.frozen? ⟨w.heap.size + 1, 0, none⟩ = false := h1.frozen 0
    have x0 : W.cell? ⟨b, 0, none⟩ = some (.int .u64 (x.st : Int)) := hblk.cell 0
    have x1 : W.cell? ⟨b, 1, none⟩ = some (.int .u64 (x.len : Int)) := hblk.cell 1
    have x2 : W.cell? ⟨b, 2, none⟩ = some (.int .u16 (x.part : Int)) := hblk.cell 2
    have hz3 : w.heap.size + 1 < W.heap.size := h1.lt
    have hgz : b < W.heap.size := hblk.lt
    rw [HSZ.out] at hsz
    have HB0 := hide h0
    have HB1 := hide h1
    have HO := hide h2
    have HOB := hide h3
    have HBW := hide h4
    have HC := hide (fun W g hg => wn_cells_at W x 38 g hg)
    have H1 := hide (wn_one x)
    have hfl : (pre ++ [x]).flatMap winL = pre.flatMap winL ++ winL x := by rw [List.flatMap_append]; simp
    have HFL := hide hfl
    have hlL : (pre ++ [x]).length = pre.length + 1 := by simp
    have HLL := hide hlL
    have hnI2 : (pre.length : Int) ≤ 1000000 := by omega
    have HNL : Hid (pre.length ≤ 1000000) := hide (by omega)
    have hst1 : (pre.length : Int) + 1 = ((pre.length + 1 : Nat) : Int) := by omega
    have HPL := hide hpl
    unfold winC
    clear h0 h1 h2 h3 h4 hblk hfl hlL hlen hst1
    obtain ⟨m, hm⟩ : ∃ m, m = pre.length + 1 := ⟨_, rfl⟩
    have HM := hide hm
    by_cases hq : m = n
    · have e0 : ((m : Int) == (n : Int)) = true := by rw [beq_iff_eq]; omega
      have HQ := hide hq
      clear hm hq hpl
      gi_wp2_with (gi_at_builtin; refine wpListIn_append_own_at _ rfl (.tmp 19) (.tmp 21) 24 rfl w.heap.size 38 i0 _ 3 24 Tryz.underlying24 HII.out hz0 hz1 hz2 rfl (by decide) (.slice a pre.length c) pre.length (pre.flatMap winL) rfl (HO.out.alloc _) ⟨W.heap.size, 0, none⟩ 1 1 (winL x) rfl rfl (HC.out _ _ rfl) H1.out (by simp only [maxLen]; omega) (by omega) (by simp; omega) ?_; intro v' w4 hown' hgr hnl hat; rw [← HM.out] at hown'; obtain ⟨a4, k4, rfl⟩ := own_slice hown'; have HO4 := hide hown'; have HG4 := hide hgr; have HAT := hide hat; have HB4 := hide (Blk.grown (HB1.out.alloc _) hgr (fun e => by have := HOB.out _ e.symm; omega)); have HB5 := hide (Blk.grown (HB0.out.alloc _) hgr (fun e => by have := HOB.out _ e.symm; omega)); have y1 : w4.frozen? ⟨w.heap.size + 1, 0, none⟩ = false := HB4.out.frozen 0; have y0 : w4.cell? ⟨w.heap.size + 1, 0, none⟩ = some (.slice a pre.length c) := HB4.out.cell 0; have y2 : w4.cell? ⟨w.heap.size, 0, none⟩ = some (.int .i64 (n : Int)) := HB5.out.cell 0; have y3 : w.heap.size + 1 < w4.heap.size := HB4.out.lt; clear hown' hgr hnl hat)
      have hob : ∀ r, (Value.slice a4 m k4).ownBlock = some r → w.heap.size + 6 ≤ r := fun r hr => by
        rcases HAT.out with h | h
        · exact HOB.out r (by rw [← h]; exact hr)
        · rw [h] at hr; injection hr with hr; simp at hr; omega
      have hbut := ((But.refl (fun i => i = w.heap.size + 1 ∨ w.heap.size + 6 ≤ i) W).alloc (.cells #[.int .u64 (x.st : Int), .int .u64 (x.len : Int), .int .u16 (x.part : Int)] 38)).grown HG4.out (fun r hr => .inl (.inr (HOB.out r hr)))
      have hT : TrB n w (pre ++ [x]) (w4.setCell ⟨w.heap.size + 1, 0, none⟩ (.slice a4 m k4)) := by
        refine ⟨HBW.out.trans ((hbut.setCell (p := ⟨w.heap.size + 1, 0, none⟩) (.inl (.inl rfl)) _).below HBW.out.size (fun k hk hm => by omega)), HB5.out.far (p := ⟨w.heap.size + 1, 0, none⟩) (by simp) _, a4, k4, ?_, ?_, ?_⟩
        · have := HB4.out.set_ 0 (.slice a4 m k4)
          rw [HLL.out, ← HM.out]
          simpa using this
        · rw [HLL.out, HFL.out, ← HM.out]
          exact own_but HO4.out (((But.refl (fun k => k = w.heap.size + 1) w4).setCell (p := ⟨w.heap.size + 1, 0, none⟩) (.inl rfl) _)) (fun k hk e => by have := hob k hk; omega)
        · rw [HLL.out, ← HM.out]; exact hob
      exact ⟨hbut.setCell (p := ⟨w.heap.size + 1, 0, none⟩) (.inl (.inl rfl)) _, ⟨0, rfl, rfl⟩, by rw [HLL.out, ← HM.out]; exact HQ.out, hT⟩
    · have e0 : ((m : Int) == (n : Int)) = false := by rw [beq_eq_false_iff_ne]; omega
      have HQ : Hid (m < n) := hide (by omega)
      clear hm hq hpl
      gi_wp2_with (gi_at_builtin; refine wpListIn_append_own_at _ rfl (.tmp 19) (.tmp 21) 24 rfl w.heap.size 38 i0 _ 3 24 Tryz.underlying24 HII.out hz0 hz1 hz2 rfl (by decide) (.slice a pre.length c) pre.length (pre.flatMap winL) rfl (HO.out.alloc _) ⟨W.heap.size, 0, none⟩ 1 1 (winL x) rfl rfl (HC.out _ _ rfl) H1.out (by simp only [maxLen]; omega) (by omega) (by simp; omega) ?_; intro v' w4 hown' hgr hnl hat; rw [← HM.out] at hown'; obtain ⟨a4, k4, rfl⟩ := own_slice hown'; have HO4 := hide hown'; have HG4 := hide hgr; have HAT := hide hat; have HB4 := hide (Blk.grown (HB1.out.alloc _) hgr (fun e => by have := HOB.out _ e.symm; omega)); have HB5 := hide (Blk.grown (HB0.out.alloc _) hgr (fun e => by have := HOB.out _ e.symm; omega)); have y1 : w4.frozen? ⟨w.heap.size + 1, 0, none⟩ = false := HB4.out.frozen 0; have y0 : w4.cell? ⟨w.heap.size + 1, 0, none⟩ = some (.slice a pre.length c) := HB4.out.cell 0; have y2 : w4.cell? ⟨w.heap.size, 0, none⟩ = some (.int .i64 (n : Int)) := HB5.out.cell 0; have y3 : w.heap.size + 1 < w4.heap.size := HB4.out.lt; clear hown' hgr hnl hat)
      have hob : ∀ r, (Value.slice a4 m k4).ownBlock = some r → w.heap.size + 6 ≤ r := fun r hr => by
        rcases HAT.out with h | h
        · exact HOB.out r (by rw [← h]; exact hr)
        · rw [h] at hr; injection hr with hr; simp at hr; omega
      have hbut := ((But.refl (fun i => i = w.heap.size + 1 ∨ w.heap.size + 6 ≤ i) W).alloc (.cells #[.int .u64 (x.st : Int), .int .u64 (x.len : Int), .int .u16 (x.part : Int)] 38)).grown HG4.out (fun r hr => .inl (.inr (HOB.out r hr)))
      have hT : TrB n w (pre ++ [x]) (w4.setCell ⟨w.heap.size + 1, 0, none⟩ (.slice a4 m k4)) := by
        refine ⟨HBW.out.trans ((hbut.setCell (p := ⟨w.heap.size + 1, 0, none⟩) (.inl (.inl rfl)) _).below HBW.out.size (fun k hk hm => by omega)), HB5.out.far (p := ⟨w.heap.size + 1, 0, none⟩) (by simp) _, a4, k4, ?_, ?_, ?_⟩
        · have := HB4.out.set_ 0 (.slice a4 m k4)
          rw [HLL.out, ← HM.out]
          simpa using this
        · rw [HLL.out, HFL.out, ← HM.out]
          exact own_but HO4.out (((But.refl (fun k => k = w.heap.size + 1) w4).setCell (p := ⟨w.heap.size + 1, 0, none⟩) (.inl rfl) _)) (fun k hk e => by have := hob k hk; omega)
        · rw [HLL.out, ← HM.out]; exact hob
      exact ⟨hbut.setCell (p := ⟨w.heap.size + 1, 0, none⟩) (.inl (.inl rfl)) _, by rw [HLL.out, ← HM.out]; exact HQ.out, hT⟩
  case done =>
    rintro D xs W hD hD2 hall ⟨hlt, hi⟩ hK
    obtain rfl := HTF.out xs hall hlt
    obtain ⟨h4, h0, a, c, h1, h2, h3⟩ := hi
    have b0 : W.cell? ⟨w.heap.size + 1, 0, none⟩ = some (.slice a TK.length c) := h1.cell 0
    rw [HSZ.out] at hD hD2
    gi_wp2
    refine ⟨by simp, .inl ⟨_, _, rfl, run_takeDeferred hK, ?_⟩⟩
    refine ⟨_, results_tmp rfl _ _ _, a, c, rfl, ?_⟩
    exact ⟨own_but h2 ((But.refl (fun k => k = D) W).putObj _ (.inl rfl)) (fun k hk e => by have := h3 k hk; omega), h4.trans (((But.refl (fun k => k = D) W).putObj _ (.inl rfl)).below h4.size (fun k hk hm => by omega))⟩
  case stop =>
    rintro D c pre W hD hD2 hpre ⟨⟨id, rfl, rfl⟩, he, hi⟩ hK
    obtain rfl := HTP.out pre hpre he
    clear he
    obtain ⟨h4, h0, a, c, h1, h2, h3⟩ := hi
    have b0 : W.cell? ⟨w.heap.size + 1, 0, none⟩ = some (.slice a TK.length c) := h1.cell 0
    rw [HSZ.out] at hD hD2
    gi_wp2
    refine ⟨by simp, .inl ⟨_, _, rfl, run_takeDeferred hK, ?_⟩⟩
    refine ⟨_, results_tmp rfl _ _ _, a, c, rfl, ?_⟩
    exact ⟨own_but h2 ((But.refl (fun k => k = D) W).putObj _ (.inl rfl)) (fun k hk e => by have := h3 k hk; omega), h4.trans (((But.refl (fun k => k = D) W).putObj _ (.inl rfl)).below h4.size (fun k hk hm => by omega))⟩
/-- Trace of a tick that asks for nothing. -/
theorem Trace_none (s : Value) (hs : s = .pointer none ∨ ∃ g, s = .pointer (some ⟨g, 0, none⟩)) (t : Nat) (n : Int) (w : World) (h : s = .pointer none ∨ n ≤ 0) :
    Calls Tryz.prog 23 #[s, .int .u64 (t : Int), .int .i64 n] w fun e w' => e = .returned (.slice none 0 0) ∧ Below w.heap.size w w' := by
  rcases hs with rfl | ⟨g, rfl⟩
  · clear h
    refine callsIn_wide (n := 3) |>.1 (callsIn_of_wp_marks Tryz.func23 rfl trivial ?_ rfl)
    simp only [Tryz.ntmps23, List.size_toArray, List.length_cons, List.length_nil, Nat.reduceAdd, Nat.reduceSub, Array.replicate_succ, Array.replicate_zero, List.push_toArray, List.append_toArray, List.nil_append, List.cons_append]
    gi_wp2
    refine ⟨_, results_tmp rfl _ _ _, rfl, (Below.refl _ w).alloc (Nat.le_refl _) _⟩
  · have h0 : n ≤ 0 := by
      rcases h with h | h
      · cases h
      · exact h
    refine callsIn_wide (n := 3) |>.1 (callsIn_of_wp_marks Tryz.func23 rfl trivial ?_ rfl)
    simp only [Tryz.ntmps23, List.size_toArray, List.length_cons, List.length_nil, Nat.reduceAdd, Nat.reduceSub, Array.replicate_succ, Array.replicate_zero, List.push_toArray, List.append_toArray, List.nil_append, List.cons_append]
    gi_wp2
    refine ⟨_, results_tmp rfl _ _ _, rfl, (Below.refl _ w).alloc (Nat.le_refl _) _⟩
end Go.Proofs.YtmphookgaopdlaaGreat
namespace Go.Proofs.YtmphookgaopdlaaGreat
open Go.RowKit Go.Sort
set_option linter.unusedVariables false

set_option maxRecDepth 100000 in
set_option maxHeartbeats 4000000 in
theorem RTrace_calls (c : Cfg) (l : List WinR) (t n : Nat) (w : World) (h : CfgAt w.heap.size c w) (hsm : c.Small) (hS : SchC c l) (ht : t < 18446744073709551616) (hn : n ≤ 1000000) :
    Calls Tryz.prog 26 #[cfgV c, .int .u64 (t : Int), .int .i64 (n : Int)] w (TrV (traceK c.frame l n t) w) := by
  have hB0 := Boxed1.start w c
  have HLK := hide (fun T W (hW : Boxed1 w c W) (hT : T < 18446744073709551616) => RLookup_calls c l T W (hW.cfg h) hsm hS hT)
  have HUN := hide (fun T W (hW : Boxed1 w c W) (hT : T < 18446744073709551616) => RUntil_calls c l T W (hW.cfg h) hsm hS hT)
  have HUB := hide (fun T (hT : T < 18446744073709551616) => until_bd hS.sch hT)
  have HTP := hide (fun W => Top_calls W)
  have hnI : (n : Int) ≤ 1000000 := by omega
  have HBC := hide (fun W (hW : Boxed1 w c W) => hW.cells)
  obtain ⟨TK, hTK⟩ : ∃ T, T = traceK c.frame l n t := ⟨_, rfl⟩
  have HTK := hide hTK
  rw [← hTK]
  obtain ⟨i0, hi, hz0, hz1, hz2⟩ := info_parts win_info3
  have HII := hide hi
  have HT := hide ht
  unfold cfgV at HLK HUN ⊢
  unfold cfgC at hB0
  have HB0 := hide hB0
  clear h hsm hS ht hB0 hi hTK hn
  go_enter Tryz.func26, Tryz.ntmps26
  go_wp2
  generalize w.alloc (.cells #[.int .u64 (c.frame : Int), .slice c.parts.a c.parts.l.length c.parts.c, .slice c.wins.a c.wins.l.length c.wins.c, .slice c.regs.a c.regs.l.length c.regs.c, .slice c.ports.a c.ports.l.length c.ports.c, .slice c.chans.a c.chans.l.length c.chans.c] 29) = W0 at *
  go_loopw [1, 7, 8] (fun tv ov v wr => ∃ (k T m : Nat) (a : Option Addr) (cc : Nat) (out : List WinR), k ≤ n ∧ v = .int .i64 (k : Int) ∧ tv = .int .u64 (T : Int) ∧ ov = .slice a m cc ∧ m ≤ k ∧ Hid (Boxed1 w c wr ∧ m = out.length ∧ wr.ownsRow (w.heap.size + 1) 38 3 (.slice a m cc) m (out.flatMap winL) ∧ T < 18446744073709551616 ∧ TK = out ++ traceK c.frame l (n - k) T)) (fun _ _ v _ => n - (intOf v).toNat)
  case atStart => exact ⟨0, t, 0, none, 0, [], Nat.zero_le _, rfl, rfl, rfl, Nat.le_refl _, hide ⟨HB0.out, rfl, World.ownsRow_nil _ _ _ _, HT.out, HTK.out⟩⟩
  case round =>
    obtain ⟨k, T, m, a, cc, out, hk, rfl, rfl, rfl, hmk, hrel⟩ := hrel
    obtain ⟨b0, b1, b2, b3, b4, b5⟩ := HBC.out wr hrel.out.1
    have hz : w.heap.size < wr.heap.size := hrel.out.1.2.lt
    by_cases hlt : k < n
    · have hlt2 : (k : Int) < (n : Int) := by omega
      have hT := hrel.out.2.2.2.1
      have hub := HUB.out T hT
      have hlk := HLK.out T
      have hun := HUN.out T
      obtain ⟨j, hj⟩ : ∃ j, n - k = j + 1 := ⟨n - k - 1, by omega⟩
      have htk := hrel.out.2.2.2.2
      rw [hj] at htk
      unfold traceK rngW at htk
      obtain ⟨U, hU⟩ : ∃ U, U = untilS c.frame l T := ⟨_, rfl⟩
      rw [← hU] at hub hun htk
      generalize (winD l (T % c.frame)).part = PT at *
      generalize winB l (T % c.frame) = PB at *
      have HLK1 := hide hlk
      have HUN1 := hide hun
      have HO := hide hrel.out.2.2.1
      have HB1 := hide hrel.out.1
      obtain ⟨u1, hu1⟩ : ∃ u, u = U - 1 := ⟨_, rfl⟩
      obtain ⟨lf, hlf⟩ : ∃ u, u = 18446744073709551615 - T := ⟨_, rfl⟩
      have f1 : IntKind.u64.wrap ((U : Int) - 1) = (u1 : Int) := wrapU (by omega) (by omega)
      have f2 : IntKind.u64.wrap (18446744073709551615 - (T : Int)) = (lf : Int) := wrapU (by omega) (by omega)
      have HC := hide (fun W g hg => wn_cells_at W ⟨T, U, PT⟩ 38 g hg)
      have H1 := hide (wn_one ⟨T, U, PT⟩)
      have hmI : (m : Int) ≤ 1000000 := by omega
      have HNL : Hid (m ≤ 1000000) := hide (by omega)
      have HML : Hid ((out ++ [(⟨T, U, PT⟩ : WinR)]).length = m + 1 ∧ (out ++ [(⟨T, U, PT⟩ : WinR)]).flatMap winL = out.flatMap winL ++ winL ⟨T, U, PT⟩) := hide (by rw [List.flatMap_append, List.length_append, ← hrel.out.2.1]; simp)
      have HMO := hide hrel.out.2.1
      by_cases hend : T + U = 18446744073709551616
      · rw [if_pos hend] at htk
        have e3 : ((u1 : Int) == (lf : Int)) = true := by rw [beq_iff_eq]; omega
        have HV := hide htk
        clear hub hlk hun hj htk hU hu1 hlf hend hT hk hlt hmk
        go_wp2_with (first
          | (go_at_call 15; refine (HLK1.out wr HB1.out hrel.out.2.2.2.1).mono ?_; rintro e w1 ⟨rfl, hb⟩; have HB2 := hide (HB1.out.below hb); have HO2 := hide (own_below HO.out hb); clear hb b0 b1 b2 b3 b4 b5; obtain ⟨b0, b1, b2, b3, b4, b5⟩ := HBC.out w1 HB2.out)
          | (go_at_call 20; refine (HUN1.out w1 HB2.out hrel.out.2.2.2.1).mono ?_; rintro e w2 ⟨rfl, hb⟩; have HB3 := hide (HB2.out.below hb); have HO3 := hide (own_below HO2.out hb); clear hb b0 b1 b2 b3 b4 b5)
          | (at_builtin; go_must (refine wpList_append_own_at _ rfl (.tmp 26) (.tmp 31) 24 rfl (w.heap.size + 1) 38 i0 _ 3 24 Tryz.underlying24 HII.out hz0 hz1 hz2 rfl (by decide) (.slice a m cc) m (out.flatMap winL) rfl (HO3.out.alloc _) ⟨w2.heap.size, 0, none⟩ 1 1 (winL ⟨T, U, PT⟩) rfl rfl (HC.out _ _ rfl) H1.out (by simp only [maxLen]; omega) (by omega) (by have := HB3.out.2.lt; simp; omega) ?_); intro v' w4 hown' hgr hnl hat; obtain ⟨a4, k4, rfl⟩ := own_slice hown'; have HO4 := hide hown'; have HG4 := hide hgr; clear hown' hgr hnl hat)
          | (go_at_call 35; refine (HTP.out _).mono ?_; rintro e w3 ⟨rfl, rfl⟩))
        go_ret
        have hb4 : Boxed1 w c w4 := ⟨(HB3.out.alloc (.cells #[.int .u64 (T : Int), .int .u64 (U : Int), .int .u16 (PT : Int)] 38)).1.grown HG4.out (by have := HB3.out.1.size; simp; omega) (fun r hr => by have := (own_block (HO3.out.alloc (.cells #[.int .u64 (T : Int), .int .u64 (U : Int), .int .u16 (PT : Int)] 38)) r hr).1; omega), (HB3.out.alloc (.cells #[.int .u64 (T : Int), .int .u64 (U : Int), .int .u16 (PT : Int)] 38)).2.grown HG4.out (fun e => by have := (own_block (HO3.out.alloc (.cells #[.int .u64 (T : Int), .int .u64 (U : Int), .int .u16 (PT : Int)] 38)) _ e.symm).1; omega)⟩
        have e1 : TK.length = m + 1 := by rw [HV.out]; exact HML.out.1
        refine ⟨a4, k4, by rw [e1]; rfl, ?_, hb4.1⟩
        rw [e1, HV.out, HML.out.2]
        exact own_base HO4.out (by omega)
      · rw [if_neg hend] at htk
        obtain ⟨T2, hT2⟩ : ∃ u, u = T + U := ⟨_, rfl⟩
        have e3 : ((u1 : Int) == (lf : Int)) = false := by rw [beq_eq_false_iff_ne]; omega
        have f3 : IntKind.u64.wrap ((T : Int) + (U : Int)) = (T2 : Int) := wrapU (by omega) (by omega)
        have HV : Hid (T2 < 18446744073709551616 ∧ TK = (out ++ [(⟨T, U, PT⟩ : WinR)]) ++ traceK c.frame l (n - (k + 1)) T2) := hide ⟨by omega, by rw [htk, ← hT2, show n - (k + 1) = j by omega]; simp⟩
        clear hub hlk hun hj htk hU hu1 hlf hend hT hT2
        go_wp2_with (first
          | (go_at_call 15; refine (HLK1.out wr HB1.out hrel.out.2.2.2.1).mono ?_; rintro e w1 ⟨rfl, hb⟩; have HB2 := hide (HB1.out.below hb); have HO2 := hide (own_below HO.out hb); clear hb b0 b1 b2 b3 b4 b5; obtain ⟨b0, b1, b2, b3, b4, b5⟩ := HBC.out w1 HB2.out)
          | (go_at_call 20; refine (HUN1.out w1 HB2.out hrel.out.2.2.2.1).mono ?_; rintro e w2 ⟨rfl, hb⟩; have HB3 := hide (HB2.out.below hb); have HO3 := hide (own_below HO2.out hb); clear hb b0 b1 b2 b3 b4 b5)
          | (at_builtin; go_must (refine wpList_append_own_at _ rfl (.tmp 26) (.tmp 31) 24 rfl (w.heap.size + 1) 38 i0 _ 3 24 Tryz.underlying24 HII.out hz0 hz1 hz2 rfl (by decide) (.slice a m cc) m (out.flatMap winL) rfl (HO3.out.alloc _) ⟨w2.heap.size, 0, none⟩ 1 1 (winL ⟨T, U, PT⟩) rfl rfl (HC.out _ _ rfl) H1.out (by simp only [maxLen]; omega) (by omega) (by have := HB3.out.2.lt; simp; omega) ?_); intro v' w4 hown' hgr hnl hat; obtain ⟨a4, k4, rfl⟩ := own_slice hown'; have HO4 := hide hown'; have HG4 := hide hgr; clear hown' hgr hnl hat)
          | (go_at_call 35; refine (HTP.out _).mono ?_; rintro e w3 ⟨rfl, rfl⟩))
        have hb4 : Boxed1 w c w4 := ⟨(HB3.out.alloc (.cells #[.int .u64 (T : Int), .int .u64 (U : Int), .int .u16 (PT : Int)] 38)).1.grown HG4.out (by have := HB3.out.1.size; simp; omega) (fun r hr => by have := (own_block (HO3.out.alloc (.cells #[.int .u64 (T : Int), .int .u64 (U : Int), .int .u16 (PT : Int)] 38)) r hr).1; omega), (HB3.out.alloc (.cells #[.int .u64 (T : Int), .int .u64 (U : Int), .int .u16 (PT : Int)] 38)).2.grown HG4.out (fun e => by have := (own_block (HO3.out.alloc (.cells #[.int .u64 (T : Int), .int .u64 (U : Int), .int .u16 (PT : Int)] 38)) _ e.symm).1; omega)⟩
        have HB5 := hide hb4
        clear hb4
        go_roundw
        case rel =>
          have e2 : wr.heap.size = wr.heap.size := rfl
          have hfin : Hid (Boxed1 w c w4 ∧ m + 1 = (out ++ [(⟨T, U, PT⟩ : WinR)]).length ∧ w4.ownsRow (w.heap.size + 1) 38 3 (.slice a4 (m + 1) k4) (m + 1) ((out ++ [(⟨T, U, PT⟩ : WinR)]).flatMap winL) ∧ T2 < 18446744073709551616 ∧ TK = (out ++ [(⟨T, U, PT⟩ : WinR)]) ++ traceK c.frame l (n - (k + 1)) T2) := hide ⟨HB5.out, HML.out.1.symm, by rw [HML.out.2]; exact HO4.out, HV.out⟩
          first | exact ⟨k + 1, T2, m + 1, a4, k4, out ++ [⟨T, U, PT⟩], by omega, by go_num, rfl, rfl, by omega, hfin⟩ | ((repeat apply Exists.intro); exact ⟨⟨k + 1, T2, m + 1, a4, k4, out ++ [⟨T, U, PT⟩], by omega, by go_num, rfl, rfl, by omega, hfin⟩, rfl⟩)
        case measure => simp [intOf]; omega
    · have hkn : k = n := by omega
      subst hkn
      have HV : Hid (TK = out) := hide (by rw [hrel.out.2.2.2.2, Nat.sub_self]; show out ++ [] = out; rw [List.append_nil])
      clear hlt hk
      have HO := hide hrel.out.2.2.1
      have HMO := hide hrel.out.2.1
      have HB1 := hide hrel.out.1
      clear hrel
      go_wp2
      go_ret
      have e1 : TK.length = m := by rw [HV.out]; exact HMO.out.symm
      refine ⟨a, cc, by rw [e1]; rfl, ?_, HB1.out.1⟩
      rw [e1, HV.out]
      exact own_base HO.out (by omega)
set_option maxRecDepth 100000 in
set_option maxHeartbeats 2000000 in
theorem RTrace_none (c : Cfg) (t : Nat) (n : Int) (w : World) (hn : n ≤ 0) :
    Calls Tryz.prog 26 #[cfgV c, .int .u64 (t : Int), .int .i64 n] w fun e w' => e = .returned (.slice none 0 0) ∧ Below w.heap.size w w' := by
  have e0 : decide (0 < n) = false := by rw [decide_eq_false_iff_not]; omega
  unfold cfgV
  go_enter Tryz.func26, Tryz.ntmps26
  go_wp2
  go_rounds 2
  go_wp2
  go_ret
  exact ⟨rfl, (Below.refl _ w).alloc (Nat.le_refl _) _⟩
theorem trace_get {F : Nat} {l : List WinR} : ∀ n t k, t < 18446744073709551616 → k < (traceK F l n t).length → (traceK F l n t)[k]? = some (rngW F l (tsS F l k t)) ∧ tsS F l k t < 18446744073709551616
  | 0, _, _, _, h => by cases h
  | n + 1, t, 0, ht, _ => ⟨rfl, ht⟩
  | n + 1, t, k + 1, ht, h => by
    unfold traceK at h ⊢
    rw [List.length_cons] at h
    by_cases he : t + untilS F l t = 18446744073709551616
    · rw [if_pos he] at h; simp at h
    · rw [if_neg he] at h ⊢
      by_cases h2 : t + untilS F l t < 18446744073709551616
      · exact trace_get n _ k h2 (by omega)
      · exfalso
        have h3 : untilS F l t ≤ 18446744073709551616 - t := by unfold untilS cutT; split <;> omega
        omega
end Go.Proofs.YtmphookgaopdlaaGreat
