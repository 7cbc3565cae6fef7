/- The walk of sweep.Gaps (chapter 14). -/
import Derived.Test.YthccadabblkalaaGreatSwVis
import Derived.Test.YthccadabblkalaaGreatSwGaps
import Derived.Lib.MinMax
import Derived.Laws.EntriesVeiled
namespace Go.Proofs.YthccadabblkalaaGreat
open Go.RowKit Go.Sort
set_option linter.unusedVariables false

/-- The variables of Gaps, in five blocks and a row. -/
structure GapB (B total : Nat) (g : GSt) (R : Option Nat) (w : World) : Prop where
  tot : Blk w B 22 #[.int .u64 (total : Int)]
  out : ∃ a c, Blk w (B + 1) 49 #[.slice a g.out.length c] ∧ w.ownsRow (B + 5) 53 2 (.slice a g.out.length c) g.out.length (g.out.flatMap spL) ∧ (Value.slice a g.out.length c).ownBlock = R
  next : Blk w (B + 2) 22 #[.int .u64 (g.next : Int)]
  full : Blk w (B + 3) 4 #[.bool g.full]
  add : Blk w (B + 4) 78 #[.func (.func 32) #[] #[.pointer (some ⟨B + 3, 0, none⟩), .pointer (some ⟨B + 2, 0, none⟩), .pointer (some ⟨B + 1, 0, none⟩)]]
def gset (B : Nat) (R : Option Nat) (k : Nat) : Prop := (B ≤ k ∧ k < B + 5) ∨ R = some k
section
variable {B total : Nat} {g : GSt} {R : Option Nat} {w w' : World} {M : Nat → Prop}
theorem GapB.keep (h : GapB B total g R w) (hb : But M w w') (hM : ∀ k, gset B R k → ¬ M k) : GapB B total g R w' := by
  obtain ⟨a, c, h1, h2, h3⟩ := h.out
  have hm : ∀ k, B ≤ k → k < B + 5 → ¬ M k := fun k h1 h2 => hM k (.inl ⟨h1, h2⟩)
  refine ⟨hb.blk h.tot (hm _ (by omega) (by omega)), ⟨a, c, hb.blk h1 (hm _ (by omega) (by omega)), ⟨h2.1, ?_⟩, h3⟩, hb.blk h.next (hm _ (by omega) (by omega)), hb.blk h.full (hm _ (by omega) (by omega)), hb.blk h.add (hm _ (by omega) (by omega))⟩
  rcases h2.2 with h0 | ⟨r, cap, cur, hv, hbs, hg, h4, h5, h6, h7⟩
  · exact .inl h0
  · have hg' : Blk w r 53 cur := hg
    refine .inr ⟨r, cap, cur, hv, hbs, hb.blk hg' (hM r (.inr ?_)), h4, h5, h6, h7⟩
    rw [← h3, hv]; rfl
theorem GapB.row_lt (h : GapB B total g R w) : ∀ k, R = some k → B + 5 ≤ k ∧ k < w.heap.size := by
  intro k hk
  obtain ⟨a, c, h1, h2, h3⟩ := h.out
  rw [← h3] at hk
  rcases h2.2 with ⟨h0, _⟩ | ⟨r, cap, cur, hv, hbs, hg, _⟩
  · rw [h0] at hk; cases hk
  · have hg' : Blk w r 53 cur := hg
    rw [hv] at hk
    have : r = k := by simpa [Value.ownBlock] using hk
    subst this
    exact ⟨hbs, hg'.lt⟩
theorem GapB.lt (h : GapB B total g R w) : ∀ k, gset B R k → k < w.heap.size := by
  rintro k (⟨_, hk⟩ | hk)
  · have := h.add.lt; omega
  · exact (h.row_lt k hk).2
end
theorem span_info3 : (Tryz.prog.info? 53).map (fun i => (i.zero, i.size, i.bytes)) = some (some (.agg #[.int .u64 0, .int .u64 0]), 2, 16) := by kernel_rfl
theorem sp_one (s : Nat × Nat) : ∀ u ∈ spL s, u.oneCell' = true := by
  intro u hu
  simp only [spL, List.mem_cons, List.not_mem_nil, or_false] at hu
  rcases hu with rfl | rfl <;> rfl
theorem sp_cells (w : World) (s : Nat × Nat) (t : TypeId) : ∀ j u, (spL s)[j]? = some u → (w.alloc (.cells #[.int .u64 (s.1 : Int), .int .u64 (s.2 : Int)] t)).cell? ((⟨w.heap.size, 0, none⟩ : Addr).add j) = some u := by
  intro j u h
  have e : ((⟨w.heap.size, 0, none⟩ : Addr).add j) = ⟨w.heap.size, j, none⟩ := by unfold Addr.add; split <;> simp_all
  rw [e, (Blk.new w t _).cell j, ← Array.getElem?_toList]
  exact h
theorem gap_pushed {B total nx d k4 c : Nat} {g : GSt} {R : Option Nat} {w W4 : World} {a a4 : Option Addr} (h : GapB B total g R w)
    (ho4 : W4.ownsRow (B + 5) 53 2 (.slice a4 (g.out.length + 1) k4) (g.out.length + 1) (g.out.flatMap spL ++ spL (nx, d)))
    (hg4 : (w.alloc (.cells #[.int .u64 (nx : Int), .int .u64 (d : Int)] 53)).grownBy W4 (Value.slice a g.out.length c).ownBlock)
    (hat : (Value.slice a4 (g.out.length + 1) k4).ownBlock = (Value.slice a g.out.length c).ownBlock ∨ (Value.slice a4 (g.out.length + 1) k4).ownBlock = some (w.alloc (.cells #[.int .u64 (nx : Int), .int .u64 (d : Int)] 53)).heap.size)
    (hob : (Value.slice a g.out.length c).ownBlock = R) :
    ∃ R', GapB B total { g with out := g.out ++ [(nx, d)] } R' (W4.setCell ⟨B + 1, 0, none⟩ (.slice a4 (g.out.length + 1) k4)) ∧ But (gset B R) w (W4.setCell ⟨B + 1, 0, none⟩ (.slice a4 (g.out.length + 1) k4)) ∧ (R' = R ∨ ∃ r, R' = some r ∧ w.heap.size ≤ r) := by
  have hr := h.row_lt
  have hb : But (fun k => k = B + 1 ∨ R = some k) w (W4.setCell ⟨B + 1, 0, none⟩ (.slice a4 (g.out.length + 1) k4)) :=
    (((But.refl (fun k => k = B + 1 ∨ R = some k) w).alloc _).grown hg4 (fun r hr => .inl (.inr (by rw [← hob]; exact hr)))).setCell (.inl (.inl rfl)) _
  have nm : ∀ k, B ≤ k → k < B + 5 → k ≠ B + 1 → ¬ (k = B + 1 ∨ R = some k) := by
    intro k h1 h2 h3 h4
    rcases h4 with h4 | h4
    · exact h3 h4
    · have := hr k h4; omega
  obtain ⟨a0, c0, h1, h2, h3⟩ := h.out
  have hlen : (g.out ++ [(nx, d)]).length = g.out.length + 1 := by simp
  have hfl : (g.out ++ [(nx, d)]).flatMap spL = g.out.flatMap spL ++ spL (nx, d) := by simp
  have hne4 : (Value.slice a4 (g.out.length + 1) k4).ownBlock ≠ some (B + 1) := by
    intro e
    rcases ho4.2 with ⟨h0, _⟩ | ⟨r, cap, cur, hv, hbs, _⟩
    · rw [h0] at e; cases e
    · rw [hv] at e
      have : r = B + 1 := by simpa [Value.ownBlock] using e
      omega
  have hB4 : Blk W4 (B + 1) 49 #[.slice a0 g.out.length c0] := (h1.alloc _).grown hg4 (by rw [hob]; intro e; have := hr _ e.symm; omega)
  refine ⟨(Value.slice a4 (g.out.length + 1) k4).ownBlock, ⟨hb.blk h.tot (nm _ (by omega) (by omega) (by omega)), ⟨a4, k4, ?_, ?_, ?_⟩, hb.blk h.next (nm _ (by omega) (by omega) (by omega)), hb.blk h.full (nm _ (by omega) (by omega) (by omega)), hb.blk h.add (nm _ (by omega) (by omega) (by omega))⟩, hb.mono (fun k _ hk => ?_), ?_⟩
  · show Blk _ _ _ #[.slice a4 (g.out ++ [(nx, d)]).length k4]
    rw [hlen]; exact hB4.set_ 0 _
  · show World.ownsRow _ _ _ _ (.slice a4 (g.out ++ [(nx, d)]).length k4) (g.out ++ [(nx, d)]).length ((g.out ++ [(nx, d)]).flatMap spL)
    rw [hlen, hfl]
    exact ownsRow_setCell_other ho4 hne4 _
  · show (Value.slice a4 (g.out ++ [(nx, d)]).length k4).ownBlock = _
    rw [hlen]
  · rcases hk with hk | hk
    · exact .inl ⟨by omega, by omega⟩
    · exact .inr hk
  · rcases hat with hat | hat
    · exact .inl (hat.trans hob)
    · exact .inr ⟨_, hat, by simp⟩
/-- Behind a call of 'add'. -/
def AddV (B total : Nat) (g : GSt) (R : Option Nat) (w : World) (e : Ending) (w' : World) : Prop :=
  e = .returned (.tuple #[]) ∧ ∃ R', GapB B total g R' w' ∧ But (gset B R) w w' ∧ (R' = R ∨ ∃ r, R' = some r ∧ w.heap.size ≤ r)
set_option maxRecDepth 100000 in
set_option maxHeartbeats 4000000 in
theorem Add_calls (B total e : Nat) (g : GSt) (R : Option Nat) (w : World) (h : GapB B total g R w) (hl : g.out.length ≤ 1000000) (hn : g.next < 18446744073709551616) (he : e < 18446744073709551616) :
    Calls Tryz.prog 32 #[.int .u64 (e : Int), .pointer (some ⟨B + 3, 0, none⟩), .pointer (some ⟨B + 2, 0, none⟩), .pointer (some ⟨B + 1, 0, none⟩)] w (AddV B total (gadd e g) R w) := by
  have same : gadd e g = g → ∀ W, Below w.heap.size w W → AddV B total (gadd e g) R w (.returned (.tuple #[])) W := by
    intro hs W hb
    rw [hs]
    exact ⟨rfl, R, h.keep (But.of_below (M := fun _ => False) hb) (fun _ _ h => h), But.of_below hb, .inl rfl⟩
  have c3 : w.cell? ⟨B + 3, 0, none⟩ = some (.bool g.full) := h.full.cell 0
  have c2 : w.cell? ⟨B + 2, 0, none⟩ = some (.int .u64 (g.next : Int)) := h.next.cell 0
  have HS := hide same
  have HH := hide h
  clear same h
  cases hfu : g.full with
  | true =>
    have HG := hide (gadd_full e hfu)
    rw [hfu] at c3
    clear hfu hl hn he
    go_enter Tryz.func32, Tryz.ntmps32
    go_wp2
    go_end0
    exact HS.out HG.out _ (Below.refl _ _)
  | false =>
    rw [hfu] at c3
    by_cases hlt : g.next < e
    · have hgad : gadd e g = { g with out := g.out ++ [(g.next, e - g.next)] } := by unfold gadd; rw [if_pos ⟨hfu, hlt⟩]
      obtain ⟨d, hd⟩ : ∃ d, d = e - g.next := ⟨_, rfl⟩
      have hsub : IntKind.u64.wrap ((e : Int) - (g.next : Int)) = (d : Int) := by
        simp only [IntKind.wrap, IntKind.bits, IntKind.signed]; simp; omega
      rw [← hd] at hgad
      have hdl : decide ((g.next : Int) < (e : Int)) = true := by simpa using hlt
      have hli : (g.next : Int) < (e : Int) := by omega
      obtain ⟨a, c, b1, own, hob⟩ := HH.out.out
      have c1 : w.cell? ⟨B + 1, 0, none⟩ = some (.slice a g.out.length c) := b1.cell 0
      obtain ⟨i0, hi, hz0, hz1, hz2⟩ := info_parts span_info3
      obtain ⟨nx, hnx⟩ : ∃ nx, nx = g.next := ⟨_, rfl⟩
      rw [← hnx] at hsub hdl hli c2
      obtain ⟨n, hn'⟩ : ∃ n, n = g.out.length := ⟨_, rfl⟩
      have own2 := own
      rw [← hn'] at own2 c1 hl
      have HG := hide hgad
      have HN := hide (And.intro hn' hnx)
      have HB1 := hide b1
      have HO := hide own2
      have HOB := hide hob
      have HC := hide (sp_cells w (nx, d) 53)
      have H1 := hide (sp_one (nx, d))
      have HNR : Hid (some (B + 1) ≠ (Value.slice a n c).ownBlock) := hide (by intro e; have := HH.out.row_lt (B + 1) (by rw [← hob, ← hn']; exact e.symm); omega)
      have HBL := hide (show B + 5 ≤ w.heap.size from HH.out.add.lt)
      have hQ := b1.lt
      clear hfu hd hlt hgad own own2 b1 hob hn' hnx hn he HS
      go_enter Tryz.func32, Tryz.ntmps32
      go_wp2_with (at_builtin; go_must (refine wpList_append_own_at _ rfl (.tmp 12) (.tmp 18) 49 rfl (B + 5) 53 i0 _ 2 16 Tryz.underlying49 hi hz0 hz1 hz2 rfl (by decide) (.slice a n c) n (g.out.flatMap spL) rfl (HO.out.alloc _) _ 1 1 (spL (nx, d)) rfl rfl HC.out H1.out (by simp only [maxLen]; omega) (by omega) (by have := HBL.out; simp; omega) ?_); intro v' w4 hown' hg hnl hat; obtain ⟨a4, k4, rfl⟩ := own_slice hown'; have hB4 := (HB1.out.alloc (.cells #[.int .u64 (nx : Int), .int .u64 (d : Int)] 53)).grown hg (HNR.out); have q1 := hB4.cell 0; have qf := hB4.frozen 0; have HO4 := hide hown'; have HG4 := hide hg; have HAT := hide hat; clear hown' hg hnl hat hB4)
      go_end0
      have hgp := gap_pushed HH.out (by rw [HN.out.1] at HO4; exact HO4.out) (by have := HG4.out; rw [HN.out.1] at this; exact this) (by have := HAT.out; rw [HN.out.1] at this; exact this) HOB.out
      rw [HG.out]
      refine ⟨rfl, ?_⟩
      rw [HN.out.2] at hgp
      rw [HN.out.1]
      exact hgp
    · have hgad : gadd e g = g := by unfold gadd; rw [if_neg (by omega)]
      have hdl : decide ((g.next : Int) < (e : Int)) = false := by simp; omega
      have hdl2 : decide (g.next < e) = false := by simp; omega
      have HG := hide hgad
      clear hfu hl hn he hgad hlt
      go_enter Tryz.func32, Tryz.ntmps32
      go_wp2
      go_end0
      exact HS.out HG.out _ (Below.refl _ _)
theorem wrap_succ (L : Nat) (h : L < 18446744073709551615) : IntKind.u64.wrap ((L : Int) + 1) = ((L + 1 : Nat) : Int) := by
  simp only [IntKind.wrap, IntKind.bits, IntKind.signed]; simp; omega
theorem GapB.nextSet {B total : Nat} {g : GSt} {R : Option Nat} {w : World} (h : GapB B total g R w) (n : Nat) : GapB B total { g with next := n } R (w.setCell ⟨B + 2, 0, none⟩ (.int .u64 (n : Int))) := by
  obtain ⟨a, c, h1, h2, h3⟩ := h.out
  have hr := h.row_lt
  refine ⟨h.tot.far (by simp) _, ⟨a, c, h1.far (by simp) _, ownsRow_setCell_other h2 (by intro e; have := hr (B + 2) (by rw [← h3]; exact e); omega) _, h3⟩, h.next.set_ 0 _, h.full.far (by simp) _, h.add.far (by simp) _⟩
theorem GapB.fullSet {B total : Nat} {g : GSt} {R : Option Nat} {w : World} (h : GapB B total g R w) : GapB B total { g with full := true } R (w.setCell ⟨B + 3, 0, none⟩ (.bool true)) := by
  obtain ⟨a, c, h1, h2, h3⟩ := h.out
  have hr := h.row_lt
  refine ⟨h.tot.far (by simp) _, ⟨a, c, h1.far (by simp) _, ownsRow_setCell_other h2 (by intro e; have := hr (B + 3) (by rw [← h3]; exact e); omega) _, h3⟩, h.next.far (by simp) _, h.full.set_ 0 _, h.add.far (by simp) _⟩
set_option maxRecDepth 100000 in
set_option maxHeartbeats 4000000 in
theorem Step_calls (B total : Nat) (g : GSt) (R : Option Nat) (x : Itm) (n c : Nat) (a : Option Addr) (w : World) (h : GapB B total g R w) (hl : g.out.length ≤ 1000000) (hn : g.next < 18446744073709551616) (ht : total < 18446744073709551616) :
    Calls Tryz.prog 34 #[.agg (itA x), .slice a n c, .pointer (some ⟨B + 4, 0, none⟩), .pointer (some ⟨B, 0, none⟩), .pointer (some ⟨B + 3, 0, none⟩), .pointer (some ⟨B + 2, 0, none⟩)] w
      fun e w' => e = .returned (.tuple #[]) ∧ ∃ R', GapB B total (gstep total g x) R' w' ∧ But (gset B R) w w' ∧ (R' = R ∨ ∃ r, R' = some r ∧ w.heap.size ≤ r) := by
  obtain ⟨e0, he0⟩ : ∃ e0, e0 = min x.lo total := ⟨_, rfl⟩
  have hW : GapB B total g R (w.alloc (.cells (itA x) 81)) := h.keep (But.of_below (M := fun _ => False) ((Below.refl _ w).alloc (Nat.le_refl _) _)) (fun _ _ h => h)
  have hA := Add_calls B total e0 g R _ hW hl hn (by omega)
  have hxl : ∀ W, Calls Tryz.prog 35 #[.agg #[.int .u64 (x.lo : Int), .int .u64 (x.len : Int)]] W fun e w' => e = .returned (.int .u64 ((lastI x : Nat) : Int)) ∧ Below W.heap.size W w' := fun W => last_calls x.lo x.len W
  have hst : gstep total g x = if lastI x = 18446744073709551615 then { gadd e0 g with full := true } else { gadd e0 g with next := max g.next (lastI x + 1) } := by rw [he0]; rfl
  have hla := lastI_lt x
  have hbx := Blk.new w 81 (itA x)
  have x0 : (w.alloc (.cells (itA x) 81)).cell? ⟨w.heap.size, 0, none⟩ = some (.int .u64 (x.lo : Int)) := hbx.cell 0
  have x1 : (w.alloc (.cells (itA x) 81)).cell? ⟨w.heap.size, 1, none⟩ = some (.int .u64 (x.len : Int)) := hbx.cell 1
  have a0 : (w.alloc (.cells (itA x) 81)).cell? ⟨B + 4, 0, none⟩ = some (.func (.func 32) #[] #[.pointer (some ⟨B + 3, 0, none⟩), .pointer (some ⟨B + 2, 0, none⟩), .pointer (some ⟨B + 1, 0, none⟩)]) := hW.add.cell 0
  have t0 : (w.alloc (.cells (itA x) 81)).cell? ⟨B, 0, none⟩ = some (.int .u64 (total : Int)) := hW.tot.cell 0
  have HX := hide hbx
  have hgn := (gadd_next e0 g).1
  have hgn2 := hgn
  have hmin : min (x.lo : Int) (total : Int) = (e0 : Int) := by rw [he0]; omega
  obtain ⟨L, hL⟩ : ∃ L, L = lastI x := ⟨_, rfl⟩
  rw [← hL] at hxl hst hla
  generalize hG : gadd e0 g = g1 at *
  unfold AddV at hA

  obtain ⟨nx, hnx⟩ : ∃ nx, nx = g.next := ⟨_, rfl⟩
  rw [← hnx] at hgn hst
  have HA := hide hA
  have HXL := hide hxl
  have HST := hide hst
  have HGN := hide hgn
  have hblt := h.add.lt
  have hxa : itA x = #[.int .u64 (x.lo : Int), .int .u64 (x.len : Int), .int .i64 (x.idx : Int)] := rfl
  rw [hxa] at x0 x1 a0 t0 HA HX ⊢
  have HNX := hide hnx
  have HNB : Hid (¬ gset B R w.heap.size) := hide (fun hg => Nat.lt_irrefl _ (h.lt _ hg))
  clear hA hxl hst hgn hgn2 hG hnx h hW hbx hxa hl hn ht he0 hL
  by_cases hf : L = 18446744073709551615
  · have hdl : ((L : Int) == 18446744073709551615) = true := by rw [hf]; rfl
    have HF := hide hf
    clear hf hla
    go_enter Tryz.func34, Tryz.ntmps34
    go_wp2_with (first
      | (go_at_call 32; refine HA.out.mono ?_; rintro e w1 ⟨rfl, R1, hG1, hb1, hr1⟩; have hB1 := hb1.blk HX.out HNB.out; have y0 : w1.cell? ⟨w.heap.size, 0, none⟩ = some (.int .u64 (x.lo : Int)) := hB1.cell 0; have y1 : w1.cell? ⟨w.heap.size, 1, none⟩ = some (.int .u64 (x.len : Int)) := hB1.cell 1; have HG1 := hide hG1; have HB1 := hide hb1; have HR1 := hide hr1; clear hG1 hb1 hr1 hB1)
      | (go_at_call 35; refine (HXL.out _).mono ?_; rintro e w2 ⟨rfl, hb2⟩; have HG2 := hide (HG1.out.keep (But.of_below (M := fun _ => False) hb2) (fun _ _ h => h)); have HB2 := hide (HB1.out.trans (But.of_below hb2)); have f0 : w2.cell? ⟨B + 3, 0, none⟩ = some (.bool g1.full) := HG2.out.full.cell 0; have ff := HG2.out.full.frozen 0; clear hb2))
    go_end0
    refine ⟨rfl, R1, ?_, ((((But.refl (gset B R) w).alloc _).trans HB2.out).setCell (.inl (.inl ⟨by simp, by simp⟩)) _), ?_⟩
    · rw [HST.out, if_pos HF.out]
      exact HG2.out.fullSet
    · rcases HR1.out with h7 | ⟨r, h7, h8⟩
      · exact .inl h7
      · exact .inr ⟨r, h7, by simp at h8; omega⟩
  · have hdl : ((L : Int) == 18446744073709551615) = false := by simp; omega
    have HF := hide hf
    obtain ⟨S, hS⟩ : ∃ S, S = L + 1 := ⟨_, rfl⟩
    have hw := wrap_succ L (by omega)
    rw [← hS] at hw
    obtain ⟨M, hM⟩ : ∃ M, M = max nx S := ⟨_, rfl⟩
    have hmax : max (nx : Int) (S : Int) = (M : Int) := by rw [hM]; omega
    have HM : Hid (M = max nx (L + 1)) := hide (by rw [hM, hS])
    clear hf hla hS hM
    go_enter Tryz.func34, Tryz.ntmps34
    go_wp2_with (first
      | (go_at_call 32; refine HA.out.mono ?_; rintro e w1 ⟨rfl, R1, hG1, hb1, hr1⟩; have hB1 := hb1.blk HX.out HNB.out; have y0 : w1.cell? ⟨w.heap.size, 0, none⟩ = some (.int .u64 (x.lo : Int)) := hB1.cell 0; have y1 : w1.cell? ⟨w.heap.size, 1, none⟩ = some (.int .u64 (x.len : Int)) := hB1.cell 1; have HG1 := hide hG1; have HB1 := hide hb1; have HR1 := hide hr1; clear hG1 hb1 hr1 hB1)
      | (go_at_call 35; refine (HXL.out _).mono ?_; rintro e w2 ⟨rfl, hb2⟩; have HG2 := hide (HG1.out.keep (But.of_below (M := fun _ => False) hb2) (fun _ _ h => h)); have HB2 := hide (HB1.out.trans (But.of_below hb2)); have f0 : w2.cell? ⟨B + 2, 0, none⟩ = some (.int .u64 (nx : Int)) := by {have h7 := HG2.out.next.cell 0; rw [HGN.out] at h7; exact h7}; have ff := HG2.out.next.frozen 0; clear hb2))
    go_end0
    refine ⟨rfl, R1, ?_, ((((But.refl (gset B R) w).alloc _).trans HB2.out).setCell (.inl (.inl ⟨by simp, by simp⟩)) _), ?_⟩
    · rw [HST.out, if_neg HF.out, ← HM.out]
      exact HG2.out.nextSet M
    · rcases HR1.out with h7 | ⟨r, h7, h8⟩
      · exact .inl h7
      · exact .inr ⟨r, h7, by simp at h8; omega⟩
theorem gadd_len (e : Nat) (g : GSt) : (gadd e g).out.length ≤ g.out.length + 1 := by
  unfold gadd; split <;> simp
theorem gstep_small (total : Nat) (g : GSt) (x : Itm) (h : g.next < 18446744073709551616) : (gstep total g x).out.length ≤ g.out.length + 1 ∧ (gstep total g x).next < 18446744073709551616 := by
  have h1 := gadd_len (min x.lo total) g
  have h2 := (gadd_next (min x.lo total) g).1
  have h3 := lastI_lt x
  unfold gstep
  split
  · exact ⟨h1, by show (gadd (min x.lo total) g).next < _; rw [h2]; exact h⟩
  · exact ⟨h1, by show max g.next (lastI x + 1) < _; omega⟩
theorem gfold_small (total : Nat) : ∀ (V : List Itm) (g : GSt), g.next < 18446744073709551616 → (V.foldl (gstep total) g).out.length ≤ g.out.length + V.length ∧ (V.foldl (gstep total) g).next < 18446744073709551616 := by
  intro V
  induction V with
  | nil => intro g h; exact ⟨Nat.le_refl _, h⟩
  | cons x V ih =>
    intro g h
    obtain ⟨h1, h2⟩ := gstep_small total g x h
    obtain ⟨h3, h4⟩ := ih _ h2
    rw [List.foldl_cons, List.length_cons]
    exact ⟨by omega, h4⟩
theorem gaps0_small (total : Nat) (V : List Itm) : (gaps0 total V).out.length ≤ V.length ∧ (gaps0 total V).next < 18446744073709551616 := by
  have := gfold_small total V ⟨[], 0, false⟩ (by show 0 < _; omega)
  simpa [gaps0] using this
def gapI (B total : Nat) (pre : List (Itm × Array Itm)) (S : Nat → Prop) (w : World) : Prop := ∃ R, GapB B total (gaps0 total (pre.map Prod.fst)) R w ∧ ∀ k, S k ↔ gset B R k
theorem gap_CB (B total : Nat) (ht : total < 18446744073709551616) : CB 34 #[.pointer (some ⟨B + 4, 0, none⟩), .pointer (some ⟨B, 0, none⟩), .pointer (some ⟨B + 3, 0, none⟩), .pointer (some ⟨B + 2, 0, none⟩)] (gapI B total) where
  keep := fun {pre S M w w'} h hb hM => by
    obtain ⟨R, h1, h2⟩ := h
    exact ⟨R, h1.keep hb (fun k hk => hM k ((h2 k).2 hk)), h2⟩
  lt := fun {pre S w} h k hk => by
    obtain ⟨R, h1, h2⟩ := h
    exact h1.lt k ((h2 k).1 hk)
  call := fun {pre S w} x R cap O h ho hS hO hp => by
    obtain ⟨Rg, h1, h2⟩ := h
    obtain ⟨h3, h4⟩ := gaps0_small total (pre.map Prod.fst)
    have e := Step_calls B total (gaps0 total (pre.map Prod.fst)) Rg x O.size cap (R.map fun g => ⟨g, 0, none⟩) w h1 (by rw [List.length_map] at h3; omega) h4 ht
    refine e.mono ?_
    rintro e w' ⟨rfl, R', hg, hb, hr⟩
    refine ⟨rfl, gset B R', ⟨R', ?_, fun k => Iff.rfl⟩, hb.mono (fun k _ hk => (h2 k).2 hk), fun k hk => ?_⟩
    · rw [List.map_append, List.map_cons, List.map_nil, gaps0_snoc]; exact hg
    · rcases hk with hk | hk
      · exact .inl ((h2 k).2 (.inl hk))
      · rcases hr with hr | ⟨r, hr, hr2⟩
        · exact .inl ((h2 k).2 (.inr (by rw [← hr]; exact hk)))
        · rw [hr] at hk; injection hk with hk; subst hk; exact .inr hr2
theorem gap_start (w : World) (total : Nat) : GapB w.heap.size total ⟨[], 0, false⟩ none (((((w.alloc (.cells #[.int .u64 (total : Int)] 22)).alloc (.cells #[.slice none 0 0] 49)).alloc (.cells #[.int .u64 0] 22)).alloc (.cells #[.bool false] 4)).alloc
    (.cells #[.func (.func 32) #[] #[.pointer (some ⟨w.heap.size + 3, 0, none⟩), .pointer (some ⟨w.heap.size + 2, 0, none⟩), .pointer (some ⟨w.heap.size + 1, 0, none⟩)]] 78)) := by
  refine ⟨?_, ⟨none, 0, ?_, World.ownsRow_nil _ _ _ _, rfl⟩, ?_, ?_, ?_⟩
  · exact ((((Blk.new w _ _).alloc _).alloc _).alloc _).alloc _
  · have := Blk.new (w.alloc (.cells #[.int .u64 (total : Int)] 22)) 49 #[.slice none 0 0]
    rw [World.size_alloc] at this
    exact ((this.alloc _).alloc _).alloc _
  · have := Blk.new ((w.alloc (.cells #[.int .u64 (total : Int)] 22)).alloc (.cells #[.slice none 0 0] 49)) 22 #[.int .u64 0]
    rw [World.size_alloc, World.size_alloc] at this
    exact (this.alloc _).alloc _
  · have := Blk.new (((w.alloc (.cells #[.int .u64 (total : Int)] 22)).alloc (.cells #[.slice none 0 0] 49)).alloc (.cells #[.int .u64 0] 22)) 4 #[.bool false]
    rw [World.size_alloc, World.size_alloc, World.size_alloc] at this
    exact this.alloc _
  · have := Blk.new ((((w.alloc (.cells #[.int .u64 (total : Int)] 22)).alloc (.cells #[.slice none 0 0] 49)).alloc (.cells #[.int .u64 0] 22)).alloc (.cells #[.bool false] 4)) 78 #[.func (.func 32) #[] #[.pointer (some ⟨w.heap.size + 3, 0, none⟩), .pointer (some ⟨w.heap.size + 2, 0, none⟩), .pointer (some ⟨w.heap.size + 1, 0, none⟩)]]
    rw [World.size_alloc, World.size_alloc, World.size_alloc, World.size_alloc] at this
    exact this
def GapsV (out : List (Nat × Nat)) (w : World) (e : Ending) (w' : World) : Prop :=
  ∃ a c, e = .returned (.slice a out.length c) ∧ w'.ownsRow w.heap.size 53 2 (.slice a out.length c) out.length (out.flatMap spL) ∧ Below w.heap.size w w'
set_option maxRecDepth 100000 in
set_option maxHeartbeats 2000000 in
theorem Gaps_calls (total : Nat) (l : List (Nat × Nat)) (base c : Nat) (A : Option Addr) (w : World) (ht : total < 18446744073709551616) (hl : w.ownsRow base 53 2 (.slice A l.length c) l.length (l.flatMap spL)) (hn : l.length ≤ 1000) :
    Calls Tryz.prog 19 #[.int .u64 (total : Int), .slice A l.length c] w (GapsV (gapsV total ((visitL l).map Prod.fst)) w) := by
  have hS := gap_start w total
  have hle := (((((Below.refl _ w).alloc (Nat.le_refl _) (.cells #[.int .u64 (total : Int)] 22)).alloc (by simp) (.cells #[.slice none 0 0] 49)).alloc (by simp; omega) (.cells #[.int .u64 0] 22)).alloc (by simp; omega) (.cells #[.bool false] 4)).alloc (by simp; omega) (.cells #[.func (.func 32) #[] #[.pointer (some ⟨w.heap.size + 3, 0, none⟩), .pointer (some ⟨w.heap.size + 2, 0, none⟩), .pointer (some ⟨w.heap.size + 1, 0, none⟩)]] 78)
  have hl5 := own_below hl hle
  have hV := visit_calls (gap_CB w.heap.size total ht) (enters_of Tryz.func34 (by kernel_rfl) rfl) l base c A _ (gset w.heap.size none) ⟨none, hS, fun k => Iff.rfl⟩ hl5 hn
  have HV := hide hV
  have HLE := hide hle
  have hpl : (visitL l).length = l.length := visitL_length l
  generalize visitL l = V at *
  have HNL : Hid (V.length ≤ 1000) := hide (by omega)
  have HT := hide ht
  have hmf : ∀ (fn : Fn) (first cap : Array Value) (w : World), (Instr.makeFunc fn first cap).run Tryz.prog w = .ok (.func fn first cap) w := fun _ _ _ _ => rfl
  generalize l.length = n at *
  clear hV hl hl5 hn hpl hS hle ht
  go_enter Tryz.func19, Tryz.ntmps19
  go_wp2_with (first
    | (go_at_call 33; refine HV.out.mono ?_; rintro e w1 ⟨rfl, S, ⟨R1, hg1, h2⟩, hb1, h3⟩; have HG1 := hide hg1; have HB1 := hide hb1; have HA := hide (Add_calls w.heap.size total total (gaps0 total (V.map Prod.fst)) R1 w1 hg1 (by have := (gaps0_small total (V.map Prod.fst)).1; rw [List.length_map] at this; have := HNL.out; omega) (gaps0_small total (V.map Prod.fst)).2 HT.out); have HS1 := hide (fun k hk => h3 k ((h2 k).2 hk)); have a0 : w1.cell? ⟨w.heap.size + 1 + 1 + 1 + 1, 0, none⟩ = some (.func (.func 32) #[] #[.pointer (some ⟨w.heap.size + 1 + 1 + 1, 0, none⟩), .pointer (some ⟨w.heap.size + 1 + 1, 0, none⟩), .pointer (some ⟨w.heap.size + 1, 0, none⟩)]) := hg1.add.cell 0; have t0 : w1.cell? ⟨w.heap.size, 0, none⟩ = some (.int .u64 (total : Int)) := hg1.tot.cell 0; clear hg1 h2 hb1 h3)
    | (go_at_call 32; refine HA.out.mono ?_; rintro e w2 ⟨rfl, R2, hg2, hb2, hr2⟩; obtain ⟨a5, c5, h51, h52, h53⟩ := hg2.out; have o0 : w2.cell? ⟨w.heap.size + 1, 0, none⟩ = some (.slice a5 (gadd total (gaps0 total (V.map Prod.fst))).out.length c5) := h51.cell 0; have HO := hide h52; have HB2 := hide hb2; clear hg2 hb2 hr2 h51 h52 h53))
  go_ret
  refine ⟨a5, c5, rfl, own_base HO.out (by omega), ?_⟩
  have hu : ∀ k, gset w.heap.size none k → w.heap.size ≤ k := by
    rintro k (h | h)
    · exact h.1
    · cases h
  have b1 : Below w.heap.size w w1 := HLE.out.trans (HB1.out.below HLE.out.size (fun k hk h => by have := hu k h; omega))
  refine b1.trans (HB2.out.below b1.size (fun k hk h => ?_))
  rcases HS1.out k h with h5 | h5
  · have := hu k h5; omega
  · have := HLE.out.size; omega
end Go.Proofs.YthccadabblkalaaGreat
