/- The walk of the law FrameChecks (chapter 15). -/
import Derived.Test.YthccadabblkalaaFrAlive
namespace Go.Proofs.Ythccadabblkalaa
open Go.RowKit Go.Sort
set_option linter.unusedVariables false

theorem few_sum {c : Cfg} (h : fewB c = true) : sumN c ≤ 120 := by
  unfold fewB at h
  simp only [Bool.and_eq_true, decide_eq_true_eq] at h
  exact h.2
theorem few_wins {c : Cfg} (h : fewB c = true) : c.wins.l.length ≤ 120 := by
  have := few_sum h
  unfold sumN at this
  omega
set_option maxRecDepth 100000 in
set_option maxHeartbeats 4000000 in
theorem FrameChecks_calls (c : Cfg) (w : World) (h : CfgAt w.heap.size c w) (hok : c.Ok) (hsm : c.Small) :
    Calls Try.prog 3 #[cfgV c] w fun e w' => e = .returned (.bool true) ∧ Below w.heap.size w w' := by
  have HAL := hide (fun W => alive_calls W)
  have hB0 := Boxed1.start w c
  have HFE := hide (Few_calls c _ (hB0.cfg h) hok hsm)
  have HRC := hide (fun W (hW : Boxed1 w c W) => RCheck_calls c W (hW.cfg h) hok hsm)
  have HBC := hide (fun W (hW : Boxed1 w c W) => hW.cells)
  have HB0 := hide hB0
  have hfw := @few_wins c
  have hpc := fun hw W (hW : Boxed1 w c W) => FCheck_calls c W (hW.cfg h) hok hsm hw
  unfold cfgC at HFE HB0
  unfold cfgV at HFE HRC hpc ⊢
  generalize fewB c = F at *
  cases F
  · clear h hok hsm hB0 hpc hfw
    go_enter Try.func3, Try.ntmps3
    go_wp2_with (first
      | (go_at_call 7; refine HFE.out.mono ?_; rintro e w1 ⟨rfl, hb⟩; have HB1 := hide (HB0.out.below hb); clear hb)
      | (go_at_call 8; refine (HAL.out _).mono ?_; rintro e w2 ⟨rfl, hb⟩; have HB2 := hide (HB1.out.below hb); clear hb))
    go_ret
    exact ⟨rfl, HB2.out.1⟩
  · have HPC := hide (hpc (by have := hfw rfl; omega))
    clear h hok hsm hB0 hpc hfw
    generalize checkR c = R at *
    obtain ⟨e, s, i⟩ := R
    unfold code3 at HRC
    unfold fltC at HPC
    simp only at HRC HPC
    have fe := fun W => fault_eql (e : Int) (s : Int) (i : Int) (e : Int) (s : Int) (i : Int) W
    have fg := fun o x y xs ys W => fault_guard o x y xs ys W
    have nb : ((e : Int) == (e : Int) && ((s : Int) == (s : Int) && (i : Int) == (i : Int))) = true := by simp
    rw [nb] at fe
    clear nb
    go_enter Try.func3, Try.ntmps3
    go_wp2_with (first
      | (go_at_call 7; refine HFE.out.mono ?_; rintro e w1 ⟨rfl, hb⟩; have HB1 := hide (HB0.out.below hb); obtain ⟨b0, b1, b2, b3, b4, b5⟩ := HBC.out w1 HB1.out; clear hb)
      | (go_at_call 9; refine (HRC.out _ HB1.out).mono ?_; rintro e w2 ⟨rfl, hb⟩; have HB2 := hide (HB1.out.below hb); obtain ⟨b0, b1, b2, b3, b4, b5⟩ := HBC.out w2 HB2.out; clear hb)
      | (go_at_call 8; refine (HAL.out _).mono ?_; rintro e w3 ⟨rfl, hb⟩; have HB3 := hide (HB2.out.below hb); obtain ⟨b0, b1, b2, b3, b4, b5⟩ := HBC.out w3 HB3.out; clear hb)
      | (go_at_call 10; refine (HPC.out _ HB3.out).mono ?_; rintro e w4 ⟨rfl, hb⟩; have HB4 := hide (HB3.out.below hb); clear hb))
    go_ret
    exact ⟨rfl, HB4.out.1⟩
end Go.Proofs.Ythccadabblkalaa
