/- The walk of the law SweepPairs (chapter 14). -/
import Derived.Test.YtakehbljldjndaaSwRef3
namespace Go.Proofs.Ytakehbljldjndaa
open Go.RowKit Go.Sort
set_option linter.unusedVariables false

theorem fits_ok {l : List (Nat × Nat)} (hb : ∀ s ∈ l, s.1 < 18446744073709551616 ∧ s.2 < 18446744073709551616) (h : FitsR l = true) : l.length ≤ 60 ∧ ∀ s ∈ l, okSpan s := by
  unfold FitsR AllR at h
  simp only [Bool.and_eq_true, decide_eq_true_eq, List.all_eq_true] at h
  exact ⟨h.1, fun s hs => (vld_ok (hb s hs).1 (hb s hs).2).1 (h.2 s hs)⟩
set_option maxRecDepth 100000 in
set_option maxHeartbeats 4000000 in
theorem SweepPairs_calls (l : List (Nat × Nat)) (c : Nat) (A : Option Addr) (w : World) (hb : ∀ s ∈ l, s.1 < 18446744073709551616 ∧ s.2 < 18446744073709551616) (h : SpArg w.heap.size A c l w) :
    Calls Try.prog 3 #[.slice A l.length c] w fun e w' => e = .returned (.bool true) ∧ Below w.heap.size w w' := by
  have HH := hide h
  have HF := hide (fits_calls l c A w h)
  have HAL := hide (fun W => alive_calls W)
  have hfo := fun hf => fits_ok hb hf
  generalize FitsR l = F at *
  cases F
  · clear hfo hb h
    generalize l.length = n at *
    go_enter Try.func3, Try.ntmps3
    go_wp2_with (first
      | (go_at_call 9; refine HF.out.mono ?_; rintro e w1 ⟨rfl, hb⟩; have HB1 := hide hb; clear hb)
      | (go_at_call 10; refine (HAL.out _).mono ?_; rintro e w2 ⟨rfl, hb⟩; have HB2 := hide (HB1.out.trans (hb.mono HB1.out.size)); clear hb))
    go_ret
    exact ⟨rfl, HB2.out⟩
  · obtain ⟨hl, hok⟩ := hfo rfl
    have HS := hide (fun W (hW : Below w.heap.size w W) => spans_calls l c A W (SpArg.more (h.below hW) hW.size) (by omega))
    have HP := hide (fun W a c' (hW : W.ownsRow 0 38 2 (.slice a l.length c') l.length (l.flatMap spL)) => Pairs_calls l 0 c' a W hok hW (by omega))
    have HR := hide (fun W (hW : Below w.heap.size w W) => RPairs_calls l c A W (SpArg.more (h.below hW) hW.size) hok (by omega))
    have hpl : (pairsR l).length ≤ 1000000 := by have := rowsTo_len l l.length; have h2 : l.length * l.length ≤ 60 * 60 := Nat.mul_le_mul hl hl; show (rowsTo l l.length).length ≤ _; omega
    have HE := hide (fun W a1 c1 a2 c2 (h1 : W.ownsRow 0 27 2 (.slice a1 (pairsR l).length c1) (pairsR l).length ((pairsR l).flatMap prL)) (h2 : W.ownsRow 0 27 2 (.slice a2 (pairsR l).length c2) (pairsR l).length ((pairsR l).flatMap prL)) => EqPairs (pairsR l) (pairsR l) 0 0 c1 c2 a1 a2 W h1 h2 (by omega))
    have hdec : decide (pairsR l = pairsR l) = true := by simp
    rw [hdec] at HE
    clear hfo hb h hl hok hpl hdec
    generalize pairsR l = PR at *
    go_enter Try.func3, Try.ntmps3
    go_wp2_with (first
      | (go_at_call 9; refine HF.out.mono ?_; rintro e w1 ⟨rfl, hb⟩; have HB1 := hide hb; clear hb)
      | (go_at_call 10; refine (HAL.out _).mono ?_; rintro e w2 ⟨rfl, hb⟩; have HB2 := hide (HB1.out.trans (hb.mono HB1.out.size)); clear hb)
      | (go_at_call 13; refine (HS.out _ HB2.out).mono ?_; rintro e w3 ⟨a3, c3, rfl, ho, hb⟩; have HO3 := hide (own_base ho (Nat.zero_le _)); have HB3 := hide (HB2.out.trans (hb.mono HB2.out.size)); clear ho hb)
      | (go_at_call 12; refine (HP.out _ _ _ HO3.out).mono ?_; rintro e w4 ⟨a4, c4, rfl, ho, hb⟩; have HO4 := hide (own_base ho (Nat.zero_le _)); have HB4 := hide (HB3.out.trans (hb.mono HB3.out.size)); clear ho hb)
      | (go_at_call 14; refine (HR.out _ HB4.out).mono ?_; rintro e w5 ⟨a5, c5, rfl, ho, hb⟩; have HO5 := hide (own_base ho (Nat.zero_le _)); have HO6 := hide (own_below HO4.out hb); have HB5 := hide (HB4.out.trans (hb.mono HB4.out.size)); clear ho hb)
      | (go_at_call 11; refine (HE.out _ _ _ _ _ HO6.out HO5.out).mono ?_; rintro e w6 ⟨rfl, hb⟩; have HB6 := hide (HB5.out.trans (hb.mono HB5.out.size)); clear hb))
    go_ret
    exact ⟨rfl, HB6.out⟩
end Go.Proofs.Ytakehbljldjndaa
