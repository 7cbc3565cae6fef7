/- show.Line of a section or an index that is not there (chapter 08). -/
import Derived.Test.YtcnihmlmaigkdaaGreatDoorMShRef
namespace Go.Proofs.YtcnihmlmaigkdaaGreatDoor
open Go.RowKit Go.Lib Go.Sort
set_option linter.unusedVariables false

def OutL (c : Cfg) (s i : Int) : Prop := s < 1 ∨ 5 < s ∨ i < 0 ∨ ∃ k : Nat, s = (k : Int) ∧ k ≤ 6 ∧ (cntN c k : Int) ≤ i
set_option maxRecDepth 100000 in
set_option maxHeartbeats 4000000 in
theorem Line_out (c : Cfg) (s i : Int) (w : World) (h : CfgAt w.heap.size c w) (hsm : c.Small) (ho : OutL c s i) :
    Calls Tryz.prog 18 #[cfgV c, .int .i64 s, .int .i64 i] w fun e w' => e = .returned (.int .i64 0) ∧ Below w.heap.size w w' := by
  have hB0 := Boxed1.start w c
  have HCT := hide (PCounts_calls c _ (hB0.cfg h) hsm)
  have HB0 := hide hB0
  have HCL := hide (fun (W : World) k (hk : k ≤ 6) => (Blk.new W 37 #[.int .i64 0, .int .i64 (c.parts.l.length : Int), .int .i64 (c.wins.l.length : Int), .int .i64 (c.regs.l.length : Int), .int .i64 (c.ports.l.length : Int), .int .i64 (c.chans.l.length : Int), .int .i64 (linksN c.chans.l : Int)]).cell k |>.trans (cnt_at c k hk))
  unfold cfgC at HCT HB0
  unfold cfgV countsV at HCT
  unfold cfgV
  clear h hsm hB0
  by_cases h1 : s < 1
  · clear ho
    go_enter Tryz.func18, Tryz.ntmps18
    go_wp2_with (go_at_call 37; refine HCT.out.mono ?_; rintro e w1 ⟨rfl, hb⟩; have HB1 := hide (HB0.out.below hb); clear hb)
    go_ret
    exact ⟨rfl, HB1.out.1.alloc HB1.out.1.size _⟩
  · by_cases h2 : 5 < s
    · clear ho
      go_enter Tryz.func18, Tryz.ntmps18
      go_wp2_with (go_at_call 37; refine HCT.out.mono ?_; rintro e w1 ⟨rfl, hb⟩; have HB1 := hide (HB0.out.below hb); clear hb)
      go_ret
      exact ⟨rfl, HB1.out.1.alloc HB1.out.1.size _⟩
    · by_cases h3 : i < 0
      · clear ho
        go_enter Tryz.func18, Tryz.ntmps18
        go_wp2_with (go_at_call 37; refine HCT.out.mono ?_; rintro e w1 ⟨rfl, hb⟩; have HB1 := hide (HB0.out.below hb); clear hb)
        go_ret
        exact ⟨rfl, HB1.out.1.alloc HB1.out.1.size _⟩
      · obtain ⟨k, rfl, hk, hki⟩ : ∃ k : Nat, s = (k : Int) ∧ k ≤ 6 ∧ (cntN c k : Int) ≤ i := by
          rcases ho with ho | ho | ho | ho
          · exact absurd ho h1
          · exact absurd ho h2
          · exact absurd ho h3
          · exact ho
        have hk7 : (k : Int) < 7 := by omega
        have hk0 : (0 : Int) ≤ (k : Int) := by omega
        go_enter Tryz.func18, Tryz.ntmps18
        go_wp2_with (go_at_call 37; refine HCT.out.mono ?_; rintro e w1 ⟨rfl, hb⟩; have HB1 := hide (HB0.out.below hb); have a0 := HCL.out w1 k hk; clear hb)
        go_ret
        exact ⟨rfl, HB1.out.1.alloc HB1.out.1.size _⟩
end Go.Proofs.YtcnihmlmaigkdaaGreatDoor
