/- The walk of the law SweepDepths (chapter 14). -/
import Derived.Test.YtakehbljldjndaaSwRef4
import Derived.Test.YtakehbljldjndaaSwPairsLaw
namespace Go.Proofs.Ytakehbljldjndaa
open Go.RowKit Go.Sort
set_option linter.unusedVariables false

set_option maxRecDepth 100000 in
set_option maxHeartbeats 4000000 in
theorem SweepDepths_calls (l : List (Nat × Nat)) (c : Nat) (A : Option Addr) (w : World) (hb : ∀ s ∈ l, s.1 < 18446744073709551616 ∧ s.2 < 18446744073709551616) (h : SpArg w.heap.size A c l w) :
    Calls Try.prog 4 #[.slice A l.length c] w fun e w' => e = .returned (.bool true) ∧ Below w.heap.size w w' := by
  have HH := hide h
  have HF := hide (fits_calls l c A w h)
  have HAL := hide (fun W => alive_calls W)
  have hfo := fun hf => fits_ok hb hf
  generalize FitsR l = F at *
  cases F
  · clear hfo hb h
    generalize l.length = n at *
    go_enter Try.func4, Try.ntmps4
    go_wp2_with (first
      | (go_at_call 9; refine HF.out.mono ?_; rintro e w1 ⟨rfl, hb⟩; have HB1 := hide hb; clear hb)
      | (go_at_call 10; refine (HAL.out _).mono ?_; rintro e w2 ⟨rfl, hb⟩; have HB2 := hide (HB1.out.trans (hb.mono HB1.out.size)); clear hb))
    go_ret
    exact ⟨rfl, HB2.out⟩
  · obtain ⟨hl, hok⟩ := hfo rfl
    have HS := hide (fun W (hW : Below w.heap.size w W) => spans_calls l c A W (SpArg.more (h.below hW) hW.size) (by omega))
    have HP := hide (fun W a c' (hW : W.ownsRow 0 38 2 (.slice a l.length c') l.length (l.flatMap spL)) => Pairs_calls l 0 c' a W hok hW (by omega))
    have hD := (fun W a c' (hW : W.ownsRow 0 38 2 (.slice a l.length c') l.length (l.flatMap spL)) => Depth_calls l 0 c' a W hW (by omega))
    rw [depth_eq hok] at hD
    have HR := hide (fun W (hW : Below w.heap.size w W) => RDepth_calls l c A W (SpArg.more (h.below hW) hW.size) hok (by omega))
    have hdp := depth_pairs hok
    have HD := hide hD
    have hdl : depthR l ≤ 60 := by
      have : depthR l = depTo l l.length := by unfold depTo depthR; rw [List.take_of_length_le (Nat.le_refl _)]
      rw [this]
      exact Nat.le_trans (depTo_le l l.length) hl
    clear hfo hb h hl hok hD
    generalize depthR l = D at *
    generalize pairsR l = PR at *
    have hDI : (D : Int) ≤ 60 := by omega
    have heq : ((D : Int) == (D : Int)) = true := by simp
    have hbb : (decide ((D : Int) ≤ 1) == ((PR.length : Int) == 0)) = true := by
      by_cases h1 : D ≤ 1
      · have h2 : PR.length = 0 := hdp.1 h1
        have e1 : decide ((D : Int) ≤ 1) = true := by simp; omega
        rw [e1, h2]; rfl
      · have h2 : PR.length ≠ 0 := fun h => h1 (hdp.2 h)
        have e1 : decide ((D : Int) ≤ 1) = false := by simp; omega
        have e2 : ((PR.length : Int) == 0) = false := by rw [beq_eq_false_iff_ne]; omega
        rw [e1, e2]; rfl
    clear hdp hdl
    go_enter Try.func4, Try.ntmps4
    go_wp2_with (first
      | (go_at_call 9; refine HF.out.mono ?_; rintro e w1 ⟨rfl, hb⟩; have HB1 := hide hb; clear hb)
      | (go_at_call 13; ((with_reducible refine (HS.out _ HB1.out).mono ?_); rintro e w3 ⟨a3, c3, rfl, ho, hb⟩; have HO3 := hide (own_base ho (Nat.zero_le _)); have HB3 := hide (HB1.out.trans (hb.mono HB1.out.size)); clear ho hb))
      | (go_at_call 15; refine (HD.out _ _ _ HO3.out).mono ?_; rintro e w4 ⟨rfl, hb⟩; have HB4 := hide (HB3.out.trans (hb.mono HB3.out.size)); clear hb)
      | (go_at_call 10; refine (HAL.out _).mono ?_; rintro e w5 ⟨rfl, hb⟩; have HB5 := hide (HB4.out.trans (hb.mono HB4.out.size)); clear hb)
      | (go_at_call 16; refine (HR.out _ HB5.out).mono ?_; rintro e w6 ⟨rfl, hb⟩; have HB6 := hide (HB5.out.trans (hb.mono HB5.out.size)); clear hb)
      | (go_at_call 13; refine (HS.out _ HB6.out).mono ?_; rintro e w7 ⟨a7, c7, rfl, ho, hb⟩; have HO7 := hide (own_base ho (Nat.zero_le _)); have HB7 := hide (HB6.out.trans (hb.mono HB6.out.size)); clear ho hb)
      | (go_at_call 12; refine (HP.out _ _ _ HO7.out).mono ?_; rintro e w8 ⟨a8, c8, rfl, ho, hb⟩; have HB8 := hide (HB7.out.trans (hb.mono HB7.out.size)); clear ho hb))
    go_ret
    exact ⟨rfl, HB8.out⟩
end Go.Proofs.Ytakehbljldjndaa
