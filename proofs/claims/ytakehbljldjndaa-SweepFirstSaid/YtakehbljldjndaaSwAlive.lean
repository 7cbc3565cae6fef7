/- The walk of fenestralaw14.alive. -/
import Derived.Test.YtakehbljldjndaaSwEq
import Derived.Test.YtakehbljldjndaaSwDep
namespace Go.Proofs.Ytakehbljldjndaa
open Go.RowKit Go.Sort
set_option linter.unusedVariables false

/-- A slice that was built whole. -/
theorem own_new (w : World) (base n k : Nat) (t : TypeId) (cs : Array Value) (xs : List Value) (hb : base ≤ w.heap.size) (hx : cs.toList = xs) (hs : cs.size = n * k) (hn : n ≤ 1000000) :
    (w.alloc (.cells cs t)).ownsRow base t k (.slice (some ⟨w.heap.size, 0, none⟩) n n) n xs := by
  have hg := Blk.new w t cs
  refine ⟨by rw [← hx, Array.length_toList, hs], .inr ⟨w.heap.size, n, cs, rfl, hb, hg, Nat.le_refl _, by unfold maxLen; omega, hs, ?_⟩⟩
  rw [List.take_of_length_le (by rw [Array.length_toList, hs]; exact Nat.le_refl _), hx]
def l0 : List (Nat × Nat) := [(0, 5), (4, 2), (5, 1)]
theorem l0_ok : ∀ s ∈ l0, okSpan s := by unfold l0 okSpan; simp
theorem l0_pairs : pairsR l0 = [(0, 1), (1, 2)] := by decide
theorem l0_depth : depthV (visitL l0) = 2 := by rw [depth_eq l0_ok]; decide
theorem l0_gaps : gapsV 10 ((visitL l0).map Prod.fst) = [(6, 4)] := by rw [gaps_eq 10 (by decide) l0_ok]; decide
set_option maxRecDepth 100000 in
set_option maxHeartbeats 4000000 in
theorem alive_calls (w : World) : Calls Try.prog 10 #[] w fun e w' => e = .returned (.bool true) ∧ Below w.heap.size w w' := by
  have hP : ∀ (W : World), W.ownsRow 0 38 2 (.slice (some ⟨w.heap.size, 0, none⟩) 3 3) 3 (l0.flatMap spL) → Calls Try.prog 12 #[.slice (some ⟨w.heap.size, 0, none⟩) 3 3] W (PairsV [(0, 1), (1, 2)] W) := fun W h => by
    have := Pairs_calls l0 0 3 (some ⟨w.heap.size, 0, none⟩) W l0_ok h (by decide)
    rwa [l0_pairs] at this
  have hD : ∀ (W : World), W.ownsRow 0 38 2 (.slice (some ⟨w.heap.size, 0, none⟩) 3 3) 3 (l0.flatMap spL) → Calls Try.prog 15 #[.slice (some ⟨w.heap.size, 0, none⟩) 3 3] W fun e w' => e = .returned (.int .i64 2) ∧ Below W.heap.size W w' := fun W h => by
    have := Depth_calls l0 0 3 (some ⟨w.heap.size, 0, none⟩) W h (by decide)
    rwa [l0_depth] at this
  have hG : ∀ (W : World), W.ownsRow 0 38 2 (.slice (some ⟨w.heap.size, 0, none⟩) 3 3) 3 (l0.flatMap spL) → Calls Try.prog 17 #[.int .u64 10, .slice (some ⟨w.heap.size, 0, none⟩) 3 3] W (GapsV [(6, 4)] W) := fun W h => by
    have := Gaps_calls 10 l0 0 3 (some ⟨w.heap.size, 0, none⟩) W (by decide) h (by decide)
    rwa [l0_gaps] at this
  have h0 := own_new w 0 3 2 38 #[.int .u64 0, .int .u64 5, .int .u64 4, .int .u64 2, .int .u64 5, .int .u64 1] (l0.flatMap spL) (Nat.zero_le _) rfl rfl (by omega)
  have hb0 := (Below.refl _ w).alloc (Nat.le_refl _) (.cells #[.int .u64 0, .int .u64 5, .int .u64 4, .int .u64 2, .int .u64 5, .int .u64 1] 38)
  have hEP : ∀ (W : World) (a : Option Addr) (c : Nat), W.ownsRow 0 27 2 (.slice a 2 c) 2 ([(0, 1), (1, 2)].flatMap prL) → Calls Try.prog 11 #[.slice a 2 c, .slice (some ⟨W.heap.size, 0, none⟩) 2 2] (W.alloc (.cells #[.int .i64 0, .int .i64 1, .int .i64 1, .int .i64 2] 27)) fun e w' => e = .returned (.bool true) ∧ Below (W.heap.size + 1) (W.alloc (.cells #[.int .i64 0, .int .i64 1, .int .i64 1, .int .i64 2] 27)) w' := fun W a c h => by
    have := EqPairs [(0, 1), (1, 2)] [(0, 1), (1, 2)] 0 0 c 2 a _ _ (h.alloc (.cells #[.int .i64 0, .int .i64 1, .int .i64 1, .int .i64 2] 27)) (own_new W 0 2 2 27 #[.int .i64 0, .int .i64 1, .int .i64 1, .int .i64 2] _ (Nat.zero_le _) rfl rfl (by omega)) (by simp)
    rw [World.size_alloc] at this
    simpa using this
  have hES : ∀ (W : World) (a : Option Addr) (c : Nat), W.ownsRow 0 38 2 (.slice a 1 c) 1 ([(6, 4)].flatMap spL) → Calls Try.prog 24 #[.slice a 1 c, .slice (some ⟨W.heap.size, 0, none⟩) 1 1] (W.alloc (.cells #[.int .u64 6, .int .u64 4] 38)) fun e w' => e = .returned (.bool true) ∧ Below (W.heap.size + 1) (W.alloc (.cells #[.int .u64 6, .int .u64 4] 38)) w' := fun W a c h => by
    have := EqSpans [(6, 4)] [(6, 4)] 0 0 c 1 a _ _ (h.alloc (.cells #[.int .u64 6, .int .u64 4] 38)) (own_new W 0 1 2 38 #[.int .u64 6, .int .u64 4] _ (Nat.zero_le _) rfl rfl (by omega)) (by simp)
    rw [World.size_alloc] at this
    simpa using this
  have HP := hide hP
  have HD := hide hD
  have HG := hide hG
  have HEP := hide hEP
  have HES := hide hES
  have H0 := hide h0
  have HB0 := hide hb0
  clear hP hD hG hEP hES h0 hb0
  go_enter Try.func10, Try.ntmps10
  go_wp2_with (first
    | (go_at_call 12; refine (HP.out _ H0.out).mono ?_; rintro e w1 ⟨a1, c1, rfl, ho1, hb1⟩; have H1 := hide (own_below H0.out hb1); have HB1 := hide (HB0.out.trans (hb1.mono HB0.out.size)); have HE1 := hide (HEP.out w1 a1 c1 (own_base ho1 (Nat.zero_le _))); clear ho1 hb1)
    | (go_at_call 11; refine HE1.out.mono ?_; rintro e w2 ⟨rfl, hb2⟩; have hb3 := ((Below.refl _ w1).alloc (Nat.le_refl _) (.cells #[.int .i64 0, .int .i64 1, .int .i64 1, .int .i64 2] 27)).trans (hb2.mono (by omega)); have H2 := hide (own_below H1.out hb3); have HB2 := hide (HB1.out.trans (hb3.mono HB1.out.size)); clear hb2 hb3)
    | (go_at_call 15; refine (HD.out _ H2.out).mono ?_; rintro e w3 ⟨rfl, hb3⟩; have H3 := hide (own_below H2.out hb3); have HB3 := hide (HB2.out.trans (hb3.mono HB2.out.size)); clear hb3)
    | (go_at_call 17; refine (HG.out _ H3.out).mono ?_; rintro e w4 ⟨a4, c4, rfl, ho4, hb4⟩; have HB4 := hide (HB3.out.trans (hb4.mono HB3.out.size)); have HE4 := hide (HES.out w4 a4 c4 (own_base ho4 (Nat.zero_le _))); clear ho4 hb4)
    | (go_at_call 24; refine HE4.out.mono ?_; rintro e w5 ⟨rfl, hb5⟩; have HB5 := hide (HB4.out.trans ((((Below.refl _ w4).alloc (Nat.le_refl _) (.cells #[.int .u64 6, .int .u64 4] 38)).trans (hb5.mono (by omega))).mono HB4.out.size)); clear hb5))
  go_ret
  exact ⟨rfl, HB5.out⟩
end Go.Proofs.Ytakehbljldjndaa
