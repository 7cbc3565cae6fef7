/- The walks of the reference's Used, Busy, Right and of the law's right (chapter 15). -/
import Derived.Test.YthccadabblkalaaGreatFrWin
namespace Go.Proofs.YthccadabblkalaaGreat
open Go.RowKit Go.Sort
set_option linter.unusedVariables false

theorem ret_u64 {a b : Nat} (h : a = b) : Ending.returned (.int .u64 (a : Int)) = .returned (.int .u64 (b : Int)) := by rw [h]
set_option maxRecDepth 100000 in
set_option maxHeartbeats 2000000 in
theorem Right_calls (c : Cfg) (w : World) (h : CfgAt w.heap.size c w) (hok : c.Ok) (hsm : c.Small) :
    Calls Tryz.prog 17 #[cfgV c] w fun e w' => e = .returned (.bool (decide ((checkR c).1 = 0))) ∧ Below w.heap.size w w' := by
  have hB0 := Boxed1.start w c
  have HU := hide (RCheck_calls c _ (hB0.cfg h) hok hsm)
  have HB0 := hide hB0
  unfold cfgC at HU HB0
  unfold cfgV code3 at HU
  unfold cfgV
  clear h hok hsm hB0
  generalize checkR c = R at *
  obtain ⟨e, s, i⟩ := R
  simp only at HU ⊢
  go_enter Tryz.func17, Tryz.ntmps17
  go_wp2_with (go_at_call 30; refine HU.out.mono ?_; rintro e w1 ⟨rfl, hb⟩; have HB1 := hide (HB0.out.1.trans (hb.mono HB0.out.1.size)); clear hb)
  go_ret
  refine ⟨ret_b ?_, HB1.out⟩
  rw [Bool.eq_iff_iff]
  simp
def rightB (c : Cfg) : Bool := fewB c && decide ((checkR c).1 = 0)
set_option maxRecDepth 100000 in
set_option maxHeartbeats 2000000 in
theorem right_calls (c : Cfg) (w : World) (h : CfgAt w.heap.size c w) (hok : c.Ok) (hsm : c.Small) :
    Calls Tryz.prog 5 #[cfgV c] w fun e w' => e = .returned (.bool (rightB c)) ∧ Below w.heap.size w w' := by
  have hB0 := Boxed1.start w c
  have HU := hide (Few_calls c _ (hB0.cfg h) hok hsm)
  have HR := hide (fun W (hW : Boxed1 w c W) => Right_calls c W (hW.cfg h) hok hsm)
  have HBC := hide (fun W (hW : Boxed1 w c W) => hW.cells)
  have HB0 := hide hB0
  unfold cfgC at HU HB0
  unfold cfgV at HU HR ⊢
  unfold rightB
  clear h hok hsm hB0
  generalize fewB c = F at *
  generalize decide ((checkR c).1 = 0) = G at *
  cases F
  · go_enter Tryz.func5, Tryz.ntmps5
    go_wp2_with (go_at_call 14; refine HU.out.mono ?_; rintro e w1 ⟨rfl, hb⟩; have HB1 := hide (HB0.out.below hb); clear hb)
    go_ret
    exact ⟨rfl, HB1.out.1⟩
  · go_enter Tryz.func5, Tryz.ntmps5
    go_wp2_with (first
      | (go_at_call 14; refine HU.out.mono ?_; rintro e w1 ⟨rfl, hb⟩; have HB1 := hide (HB0.out.below hb); clear hb; obtain ⟨b0, b1, b2, b3, b4, b5⟩ := HBC.out w1 HB1.out)
      | (go_at_call 17; refine (HR.out _ HB1.out).mono ?_; rintro e w2 ⟨rfl, hb⟩; have HB2 := hide (HB1.out.below hb); clear hb))
    go_ret
    exact ⟨rfl, HB2.out.1⟩
end Go.Proofs.YthccadabblkalaaGreat
