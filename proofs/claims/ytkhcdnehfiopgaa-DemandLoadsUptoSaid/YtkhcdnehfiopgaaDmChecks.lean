/- The walk of the laws DemandChecks and DemandLoads (chapter 16). -/
import Derived.Test.YtkhcdnehfiopgaaDmLawE
namespace Go.Proofs.Ytkhcdnehfiopgaa
open Go.RowKit Go.Sort
set_option linter.unusedVariables false

set_option maxRecDepth 100000 in
set_option maxHeartbeats 4000000 in
theorem DemandChecks_calls (c : Cfg) (w : World) (h : CfgAt w.heap.size c w) (hok : c.Ok) (hsm : c.Small) :
    Calls Try.prog 3 #[cfgV c] w fun e w' => e = .returned (.bool true) ∧ Below w.heap.size w w' := by
  have hB0 := Boxed1.start w c
  have HFI := hide (fun W (hW : Boxed1 w c W) => Fits_calls c W (hW.cfg h) hok hsm)
  have HAL := hide (fun W => alive_dm W)
  have HBC := hide (fun W (hW : Boxed1 w c W) => hW.cells)
  cases hf : fitsB c with
  | false =>
    rw [hf] at HFI
    unfold cfgV at HFI ⊢
    unfold cfgC at hB0
    have HB0 := hide hB0
    clear h hok hsm hB0 hf
    obtain ⟨b0, b1, b2, b3, b4, b5⟩ := HBC.out _ HB0.out
    go_enter Try.func3, Try.ntmps3
    go_wp2_with (first
      | (go_at_call 9; refine (HFI.out _ HB0.out).mono ?_; rintro e w1 ⟨rfl, hb⟩; have HB1 := hide (HB0.out.below hb); clear hb b0 b1 b2 b3 b4 b5)
      | (go_at_call 10; refine (HAL.out _).mono ?_; rintro e w2 ⟨rfl, hb⟩; have HB2 := hide (HB1.out.below hb); clear hb))
    go_ret
    exact ⟨rfl, HB2.out.1⟩
  | true =>
    obtain ⟨hr, _⟩ := fitsB_right hf
    rw [hf] at HFI
    have HDC := hide (fun W (hW : Boxed1 w c W) => DCheck_calls c W (hW.cfg h) hok hsm hr)
    have HRC := hide (fun W (hW : Boxed1 w c W) => RDCheck_calls c W (hW.cfg h) hok hsm)
    obtain ⟨⟨ce, cs, ci⟩, hce⟩ : ∃ r, r = dmCheck c := ⟨_, rfl⟩
    rw [← hce] at HDC HRC
    unfold fltC at HDC
    unfold tup3 at HRC
    simp only at HDC HRC
    have fe := fun W => fault_eql ce cs ci ce cs ci W
    have fg := fun o x y xs ys W => fault_guard o x y xs ys W
    have nb : ((ce : Int) == (ce : Int) && ((cs : Int) == (cs : Int) && (ci : Int) == (ci : Int))) = true := by simp
    rw [nb] at fe
    unfold cfgV at HFI HDC HRC ⊢
    unfold cfgC at hB0
    have HB0 := hide hB0
    clear h hok hsm hB0 hf hr hce nb
    obtain ⟨b0, b1, b2, b3, b4, b5⟩ := HBC.out _ HB0.out
    go_enter Try.func3, Try.ntmps3
    go_wp2_with (first
      | (go_at_call 9; refine (HFI.out _ HB0.out).mono ?_; rintro e w1 ⟨rfl, hb⟩; have HB1 := hide (HB0.out.below hb); clear hb b0 b1 b2 b3 b4 b5; obtain ⟨b0, b1, b2, b3, b4, b5⟩ := HBC.out w1 HB1.out)
      | (go_at_call 11; refine (HRC.out _ HB1.out).mono ?_; rintro e w2 ⟨rfl, hb⟩; have HB2 := hide (HB1.out.below hb); clear hb b0 b1 b2 b3 b4 b5; obtain ⟨b0, b1, b2, b3, b4, b5⟩ := HBC.out w2 HB2.out)
      | (go_at_call 10; refine (HAL.out _).mono ?_; rintro e w3 ⟨rfl, hb⟩; have HB3 := hide (HB2.out.below hb); clear hb b0 b1 b2 b3 b4 b5; obtain ⟨b0, b1, b2, b3, b4, b5⟩ := HBC.out w3 HB3.out)
      | (go_at_call 12; refine (HDC.out _ HB3.out).mono ?_; rintro e w4 ⟨rfl, hb⟩; have HB4 := hide (HB3.out.below hb); clear hb b0 b1 b2 b3 b4 b5))
    go_ret
    exact ⟨rfl, HB4.out.1⟩
set_option maxRecDepth 100000 in
set_option maxHeartbeats 4000000 in
theorem DemandLoads_calls (c : Cfg) (w : World) (h : CfgAt w.heap.size c w) (hok : c.Ok) (hsm : c.Small) :
    Calls Try.prog 8 #[cfgV c] w fun e w' => e = .returned (.bool true) ∧ Below w.heap.size w w' := by
  have hB0 := Boxed1.start w c
  have HFI := hide (fun W (hW : Boxed1 w c W) => Fits_calls c W (hW.cfg h) hok hsm)
  have HAL := hide (fun W => alive_dm W)
  have HBC := hide (fun W (hW : Boxed1 w c W) => hW.cells)
  cases hf : fitsB c with
  | false =>
    rw [hf] at HFI
    unfold cfgV at HFI ⊢
    unfold cfgC at hB0
    have HB0 := hide hB0
    clear h hok hsm hB0 hf
    obtain ⟨b0, b1, b2, b3, b4, b5⟩ := HBC.out _ HB0.out
    go_enter Try.func8, Try.ntmps8
    go_wp2_with (first
      | (go_at_call 9; refine (HFI.out _ HB0.out).mono ?_; rintro e w1 ⟨rfl, hb⟩; have HB1 := hide (HB0.out.below hb); clear hb b0 b1 b2 b3 b4 b5)
      | (go_at_call 10; refine (HAL.out _).mono ?_; rintro e w2 ⟨rfl, hb⟩; have HB2 := hide (HB1.out.below hb); clear hb))
    go_ret
    exact ⟨rfl, HB2.out.1⟩
  | true =>
    obtain ⟨hr, h16⟩ := fitsB_right hf
    rw [hf] at HFI
    have HRC := hide (fun W (hW : Boxed1 w c W) => RDCheck_calls c W (hW.cfg h) hok hsm)
    have HDL := hide (fun W (hW : Boxed1 w c W) => DLoad_calls c W (hW.cfg h) hok hsm)
    have HRL := hide (fun W (hW : Boxed1 w c W) => RLoad_calls c W (hW.cfg h) hok hsm)
    obtain ⟨⟨ce, cs, ci⟩, hce⟩ : ∃ r, r = dmCheck c := ⟨_, rfl⟩
    have hgood : ce = 0 → ∃ n, loadR c = some n ∧ n ≤ c.frame := fun h0 => load_good hr hok (few16_ids h16) (by rw [← hce]; exact h0)
    rw [← hce] at HRC
    unfold tup3 at HRC
    simp only at HRC
    unfold FoldV at HDL HRL
    obtain ⟨m, k, hv⟩ := optV_shape (loadR c)
    rw [hv] at HDL HRL
    have hgood2 : ce = 0 → k = true ∧ m ≤ c.frame := fun h0 => by
      obtain ⟨n, h1, h2⟩ := hgood h0
      rw [h1] at hv
      unfold optV at hv
      injection hv with hv
      injection hv with hv
      injection hv with e1 e2
      injection e1 with _ e1
      injection e2 with e2 _
      injection e2 with e2
      exact ⟨e2.symm, by omega⟩
    unfold cfgV at HFI HDL HRL HRC ⊢
    unfold cfgC at hB0
    have HB0 := hide hB0
    have hmm : ((m : Int) != (m : Int)) = false := by simp
    have hkk : (k != k) = false := by simp
    clear h hok hsm hB0 hf hr h16 hce hv hgood
    obtain ⟨b0, b1, b2, b3, b4, b5⟩ := HBC.out _ HB0.out
    by_cases h0 : ce = 0
    · obtain ⟨hk1, hm1⟩ := hgood2 h0
      have z0 : ((ce : Int) != 0) = false := by rw [h0]; rfl
      have e0 : decide ((m : Int) ≤ (c.frame : Int)) = true := by simpa using hm1
      have e1 : decide (m ≤ c.frame) = true := by simpa using hm1
      subst hk1
      clear h0 hm1 hgood2
      go_enter Try.func8, Try.ntmps8
      go_wp2_with (first
        | (go_at_call 9; refine (HFI.out _ HB0.out).mono ?_; rintro e w1 ⟨rfl, hb⟩; have HB1 := hide (HB0.out.below hb); clear hb b0 b1 b2 b3 b4 b5; obtain ⟨b0, b1, b2, b3, b4, b5⟩ := HBC.out w1 HB1.out)
        | (go_at_call 23; refine (HDL.out _ HB1.out).mono ?_; rintro e w2 ⟨rfl, hb⟩; have HB2 := hide (HB1.out.below hb); clear hb b0 b1 b2 b3 b4 b5; obtain ⟨b0, b1, b2, b3, b4, b5⟩ := HBC.out w2 HB2.out)
        | (go_at_call 24; refine (HRL.out _ HB2.out).mono ?_; rintro e w3 ⟨rfl, hb⟩; have HB3 := hide (HB2.out.below hb); clear hb b0 b1 b2 b3 b4 b5; obtain ⟨b0, b1, b2, b3, b4, b5⟩ := HBC.out w3 HB3.out)
        | (go_at_call 11; refine (HRC.out _ HB3.out).mono ?_; rintro e w4 ⟨rfl, hb⟩; have HB4 := hide (HB3.out.below hb); clear hb b0 b1 b2 b3 b4 b5; obtain ⟨b0, b1, b2, b3, b4, b5⟩ := HBC.out w4 HB4.out)
        | (go_at_call 10; refine (HAL.out _).mono ?_; rintro e w5 ⟨rfl, hb⟩; have HB5 := hide (HB4.out.below hb); clear hb b0 b1 b2 b3 b4 b5; obtain ⟨b0, b1, b2, b3, b4, b5⟩ := HBC.out w5 HB5.out))
      go_ret
      exact ⟨rfl, HB5.out.1⟩
    · have z0 : ((ce : Int) != 0) = true := by rw [bne_iff_ne]; omega
      clear h0 hgood2
      go_enter Try.func8, Try.ntmps8
      go_wp2_with (first
        | (go_at_call 9; refine (HFI.out _ HB0.out).mono ?_; rintro e w1 ⟨rfl, hb⟩; have HB1 := hide (HB0.out.below hb); clear hb b0 b1 b2 b3 b4 b5; obtain ⟨b0, b1, b2, b3, b4, b5⟩ := HBC.out w1 HB1.out)
        | (go_at_call 23; refine (HDL.out _ HB1.out).mono ?_; rintro e w2 ⟨rfl, hb⟩; have HB2 := hide (HB1.out.below hb); clear hb b0 b1 b2 b3 b4 b5; obtain ⟨b0, b1, b2, b3, b4, b5⟩ := HBC.out w2 HB2.out)
        | (go_at_call 24; refine (HRL.out _ HB2.out).mono ?_; rintro e w3 ⟨rfl, hb⟩; have HB3 := hide (HB2.out.below hb); clear hb b0 b1 b2 b3 b4 b5; obtain ⟨b0, b1, b2, b3, b4, b5⟩ := HBC.out w3 HB3.out)
        | (go_at_call 11; refine (HRC.out _ HB3.out).mono ?_; rintro e w4 ⟨rfl, hb⟩; have HB4 := hide (HB3.out.below hb); clear hb b0 b1 b2 b3 b4 b5; obtain ⟨b0, b1, b2, b3, b4, b5⟩ := HBC.out w4 HB4.out)
        | (go_at_call 10; refine (HAL.out _).mono ?_; rintro e w5 ⟨rfl, hb⟩; have HB5 := hide (HB4.out.below hb); clear hb b0 b1 b2 b3 b4 b5; obtain ⟨b0, b1, b2, b3, b4, b5⟩ := HBC.out w5 HB5.out))
      go_ret
      exact ⟨rfl, HB5.out.1⟩
end Go.Proofs.Ytkhcdnehfiopgaa
