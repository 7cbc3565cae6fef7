/- The walk of the law SweepOrder (chapter 14). -/
import Derived.Test.YtakehbljldjndaaSwRev
import Derived.Test.YtakehbljldjndaaSwPairsLaw
import Derived.Test.YtakehbljldjndaaSwOpen
namespace Go.Proofs.Ytakehbljldjndaa
open Go.RowKit Go.Sort
set_option linter.unusedVariables false

theorem gapsR_len (total : Nat) (ht : total < 18446744073709551616) {l : List (Nat × Nat)} (hl : ∀ s ∈ l, okSpan s) : (gapsR total l).length ≤ l.length + 1 := by
  rw [← gaps_eq total ht hl]
  unfold gapsV
  have h1 := gadd_len total (gaps0 total ((visitL l).map Prod.fst))
  have h3 := (gaps0_small total ((visitL l).map Prod.fst)).1
  rw [List.length_map, visitL_length] at h3
  omega
set_option maxRecDepth 100000 in
set_option maxHeartbeats 2000000 in
theorem SweepOrder_calls (total : Nat) (l : List (Nat × Nat)) (c : Nat) (A : Option Addr) (w : World) (ht : total < 18446744073709551616) (hb : ∀ s ∈ l, s.1 < 18446744073709551616 ∧ s.2 < 18446744073709551616) (h : SpArg w.heap.size A c l w) :
    Calls Try.prog 7 #[.int .u64 (total : Int), .slice A l.length c] w fun e w' => e = .returned (.bool true) ∧ Below w.heap.size w w' := by
  have HH := hide h
  have HF := hide (fits_calls l c A w h)
  have HAL := hide (fun W => alive_calls W)
  have hfo := fun hf => fits_ok hb hf
  generalize FitsR l = F at *
  cases F
  · clear hfo hb h ht
    generalize l.length = n at *
    go_enter Try.func7, Try.ntmps7
    go_wp2_with (first
      | (go_at_call 9; refine HF.out.mono ?_; rintro e w1 ⟨rfl, hb⟩; have HB1 := hide hb; clear hb)
      | (go_at_call 10; refine (HAL.out _).mono ?_; rintro e w2 ⟨rfl, hb⟩; have HB2 := hide (HB1.out.trans (hb.mono HB1.out.size)); clear hb))
    go_ret
    exact ⟨rfl, HB2.out⟩
  · obtain ⟨hl, hok⟩ := hfo rfl
    have hokr : ∀ s ∈ l.reverse, okSpan s := fun s hs => hok s (List.mem_reverse.1 hs)
    have hlr : l.reverse.length = l.length := List.length_reverse
    have HS := hide (fun W (hW : Below w.heap.size w W) => spans_calls l c A W (SpArg.more (h.below hW) hW.size) (by omega))
    have hG := (fun W a c' (hW : W.ownsRow 0 38 2 (.slice a l.length c') l.length (l.flatMap spL)) => Gaps_calls total l 0 c' a W ht hW (by omega))
    have hG2 := (fun W a c' (hW : W.ownsRow 0 38 2 (.slice a l.length c') l.length (l.reverse.flatMap spL)) => Gaps_calls total l.reverse 0 c' a W ht (by rw [hlr]; exact hW) (by omega))
    have hD := (fun W a c' (hW : W.ownsRow 0 38 2 (.slice a l.length c') l.length (l.flatMap spL)) => Depth_calls l 0 c' a W hW (by omega))
    have hD2 := (fun W a c' (hW : W.ownsRow 0 38 2 (.slice a l.length c') l.length (l.reverse.flatMap spL)) => Depth_calls l.reverse 0 c' a W (by rw [hlr]; exact hW) (by omega))
    rw [gaps_eq total ht hok] at hG
    rw [gaps_eq total ht hokr, ← gapsR_perm total hok (List.reverse_perm l).symm, hlr] at hG2
    rw [depth_eq hok] at hD
    rw [depth_eq hokr, ← depthR_perm (List.reverse_perm l).symm, hlr] at hD2
    have HRV := hide (fun W b a c' (hW : W.ownsRow b 38 2 (.slice a l.length c') l.length (l.flatMap spL)) => Reverse_calls l b c' a W hW (by omega))
    have hgl := gapsR_len total ht hok
    have HEG := hide (fun W a1 c1 a2 c2 (h1 : W.ownsRow 0 38 2 (.slice a1 (gapsR total l).length c1) (gapsR total l).length ((gapsR total l).flatMap spL)) (h2 : W.ownsRow 0 38 2 (.slice a2 (gapsR total l).length c2) (gapsR total l).length ((gapsR total l).flatMap spL)) => EqSpans (gapsR total l) (gapsR total l) 0 0 c1 c2 a1 a2 W h1 h2 (by omega))
    have hdec : decide (gapsR total l = gapsR total l) = true := by simp
    rw [hdec] at HEG
    have HEL := hide (fun W a1 c1 a2 c2 (h1 : W.ownsRow 0 38 2 (.slice a1 l.length c1) l.length (l.flatMap spL)) (h2 : W.ownsRow 0 38 2 (.slice a2 l.length c2) l.length (l.flatMap spL)) => EqSpans l l 0 0 c1 c2 a1 a2 W h1 h2 (by omega))
    have hdec2 : decide (l = l) = true := by simp
    rw [hdec2] at HEL
    have hdl : depthR l ≤ 60 := Nat.le_trans (maxOf_le (n := l.length) _ fun s _ => List.countP_le_length) hl
    have HG := hide hG
    have HG2 := hide hG2
    have HD := hide hD
    have HD2 := hide hD2
    clear hfo hb h hok hG hG2 hD hD2 hdec hdec2 hokr hlr ht hgl
    generalize gapsR total l = G at *
    generalize depthR l = D at *
    have hDI : (D : Int) ≤ 60 := by omega
    have heq : ((D : Int) == (D : Int)) = true := by simp
    clear hdl hl
    go_enter Try.func7, Try.ntmps7
    go_wp2_with (first
      | (go_at_call 9; refine HF.out.mono ?_; rintro e w1 ⟨rfl, hb⟩; have HB1 := hide hb; clear hb)
      | (go_at_call 13; ((with_reducible refine (HS.out _ HB1.out).mono ?_); rintro e w2 ⟨a2, c2, rfl, ho, hb⟩; have HX2 := hide (own_base ho (Nat.zero_le _)); have HB2 := hide (HB1.out.trans (hb.mono HB1.out.size)); clear ho hb))
      | (go_at_call 13; ((with_reducible refine (HS.out _ HB2.out).mono ?_); rintro e w3 ⟨a3, c3, rfl, ho, hb⟩; have HX3 := hide (own_below HX2.out hb); have HXL := hide (fun k hk => (own_block HX2.out k hk).2); have HY3 := hide ho; have HB3 := hide (HB2.out.trans (hb.mono HB2.out.size)); clear ho hb))
      | (go_at_call 23; refine (HRV.out _ _ _ _ HY3.out).mono ?_; rintro e w4 ⟨rfl, ho, hb⟩; have HX4 := hide (own_but HX3.out hb (fun k hk hk2 => by have h5 := HXL.out k hk; have h6 := (own_block HY3.out k hk2).1; omega)); have HB4 := hide (HB3.out.trans (hb.below HB3.out.size (fun k hk hk2 => by have h5 := HB2.out.size; have h6 := (own_block HY3.out k hk2).1; omega))); have HY4 := hide (own_base ho (Nat.zero_le _)); clear ho hb)
      | (go_at_call 15; ((with_reducible refine (HD.out _ _ _ HX4.out).mono ?_); rintro e w5 ⟨rfl, hb⟩; have HX5 := hide (own_below HX4.out hb); have HY5 := hide (own_below HY4.out hb); have HB5 := hide (HB4.out.trans (hb.mono HB4.out.size)); clear hb))
      | (go_at_call 10; refine (HAL.out _).mono ?_; rintro e w6 ⟨rfl, hb⟩; have HX6 := hide (own_below HX5.out hb); have HY6 := hide (own_below HY5.out hb); have HB6 := hide (HB5.out.trans (hb.mono HB5.out.size)); clear hb)
      | (go_at_call 15; ((with_reducible refine (HD2.out _ _ _ HY6.out).mono ?_); rintro e w7 ⟨rfl, hb⟩; have HX7 := hide (own_below HX6.out hb); have HY7 := hide (own_below HY6.out hb); have HB7 := hide (HB6.out.trans (hb.mono HB6.out.size)); clear hb))
      | (go_at_call 17; ((with_reducible refine (HG.out _ _ _ HX7.out).mono ?_); rintro e w8 ⟨a8, c8, rfl, ho, hb⟩; have HX8 := hide (own_below HX7.out hb); have HY8 := hide (own_below HY7.out hb); have HP8 := hide (own_base ho (Nat.zero_le _)); have HB8 := hide (HB7.out.trans (hb.mono HB7.out.size)); clear ho hb))
      | (go_at_call 17; ((with_reducible refine (HG2.out _ _ _ HY8.out).mono ?_); rintro e w9 ⟨a9, c9, rfl, ho, hb⟩; have HX9 := hide (own_below HX8.out hb); have HP9 := hide (own_below HP8.out hb); have HQ9 := hide (own_base ho (Nat.zero_le _)); have HB9 := hide (HB8.out.trans (hb.mono HB8.out.size)); clear ho hb))
      | (go_at_call 24; ((with_reducible refine (HEG.out _ _ _ _ _ HP9.out HQ9.out).mono ?_); rintro e w10 ⟨rfl, hb⟩; have HX10 := hide (own_below HX9.out hb); have HB10 := hide (HB9.out.trans (hb.mono HB9.out.size)); clear hb))
      | (go_at_call 13; ((with_reducible refine (HS.out _ HB10.out).mono ?_); rintro e w11 ⟨a11, c11, rfl, ho, hb⟩; have HX11 := hide (own_below HX10.out hb); have HZ11 := hide (own_base ho (Nat.zero_le _)); have HB11 := hide (HB10.out.trans (hb.mono HB10.out.size)); clear ho hb))
      | (go_at_call 24; ((with_reducible refine (HEL.out _ _ _ _ _ HX11.out HZ11.out).mono ?_); rintro e w12 ⟨rfl, hb⟩; have HB12 := hide (HB11.out.trans (hb.mono HB11.out.size)); clear hb)))
    go_ret
    exact ⟨rfl, HB12.out⟩
theorem SweepOrder_at (a : Int) (ha : (Lit.int .u64 a).wf = true) (l : List (Nat × Nat)) (c : Nat) (A : Option Addr) (w : World) (hb : ∀ s ∈ l, s.1 < 18446744073709551616 ∧ s.2 < 18446744073709551616) (h : SpArg w.heap.size A c l w) :
    Calls Try.prog 7 #[.int .u64 a, .slice A l.length c] w fun e w' => e = .returned (.bool true) ∧ Below w.heap.size w w' := by
  obtain ⟨n, rfl, hn⟩ := nat_of_u64 ha
  exact SweepOrder_calls n l c A w hn hb h
end Go.Proofs.Ytakehbljldjndaa
