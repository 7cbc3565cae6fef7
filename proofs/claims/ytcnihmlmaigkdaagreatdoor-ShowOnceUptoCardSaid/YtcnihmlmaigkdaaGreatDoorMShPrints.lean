/- The walks of the laws ShowPrints and ShowOnce (chapter 08). The walk of the law ShowOnce (chapter 08). -/
import Derived.Test.YtcnihmlmaigkdaaGreatDoorShAlive
import Derived.Test.YtcnihmlmaigkdaaGreatDoorShRefT
import Derived.Test.YtcnihmlmaigkdaaGreatDoorMC5Less
namespace Go.Proofs.YtcnihmlmaigkdaaGreatDoor
open Go.RowKit Go.Lib Go.Sort
set_option linter.unusedVariables false

set_option maxRecDepth 100000 in
set_option maxHeartbeats 8000000 in
theorem ShowPrints_calls (c : Cfg) (w : World) (h : CfgAt w.heap.size c w) (hok : c.Ok) (hsm : c.Small) (hv : VarT w) :
    Calls Tryz.prog 3 #[cfgV c] w fun e w' => e = .returned (.bool true) ∧ Below w.heap.size w w' := by
  have HAL := hide (fun W (hW : Boxed1 w c W) => alive8_calls W (hv.below hW.1))
  have hB0 := Boxed1.start w c
  have HSM := hide (Small_calls c _ (hB0.cfg h) hok hsm)
  have HBC := hide (fun W (hW : Boxed1 w c W) => hW.cells)
  have HB0 := hide hB0
  have hsf := fun (hs : smallB c = true) => small_few hok (small_both hs).1 (small_both hs).2
  have hP1 := fun hf W (hW : Boxed1 w c W) => SPrint_calls c W (hW.cfg h) hok hf (hv.below hW.1)
  have hP2 := fun hf W (hW : Boxed1 w c W) => RPrint8_calls c W (hW.cfg h) hok hf
  have hR1 := fun hf W (hW : Boxed1 w c W) => SRecords_calls c W (hW.cfg h) hok hf (hv.below hW.1)
  have hR2 := fun hf W (hW : Boxed1 w c W) => RRecords8_calls c W (hW.cfg h) hok hf
  unfold cfgC at HSM HB0
  unfold cfgV at HSM hP1 hP2 hR1 hR2 ⊢
  generalize ofL (printL c) = P at *
  generalize ofL (recordsL c) = R at *
  generalize smallB c = F at *
  cases F
  · clear h hok hsm hv hB0 hsf hP1 hP2 hR1 hR2
    go_enter Tryz.func3, Tryz.ntmps3
    go_wp2_with (first
      | (go_at_call 8; refine HSM.out.mono ?_; rintro e w1 ⟨rfl, hb⟩; have HB1 := hide (HB0.out.below hb); clear hb)
      | (go_at_call 9; refine (HAL.out _ HB1.out).mono ?_; rintro e w2 ⟨rfl, hb⟩; have HB2 := hide (HB1.out.below hb); clear hb))
    go_ret
    exact ⟨rfl, HB2.out.1⟩
  · have HP1 := hide (hP1 (hsf rfl))
    have HP2 := hide (hP2 (hsf rfl))
    have HR1 := hide (hR1 (hsf rfl))
    have HR2 := hide (hR2 (hsf rfl))
    have HSX : Hid (∀ W, Boxed1 w c W → (W.cell? ⟨w.heap.size, 0, none⟩ = some (.int .u64 (c.frame : Int)) ∧ W.cell? ⟨w.heap.size, 1, none⟩ = some (.slice c.parts.a c.parts.l.length c.parts.c) ∧ W.cell? ⟨w.heap.size, 2, none⟩ = some (.slice c.wins.a c.wins.l.length c.wins.c) ∧ W.cell? ⟨w.heap.size, 3, none⟩ = some (.slice c.regs.a c.regs.l.length c.regs.c) ∧ W.cell? ⟨w.heap.size, 4, none⟩ = some (.slice c.ports.a c.ports.l.length c.ports.c) ∧ W.cell? ⟨w.heap.size, 5, none⟩ = some (.slice c.chans.a c.chans.l.length c.chans.c) ∧ Boxed1 w c W)) := hide (fun W hW => by
      obtain ⟨a0, a1, a2, a3, a4, a5⟩ := HBC.out W hW
      exact ⟨a0, a1, a2, a3, a4, a5, hW⟩)
    clear h hok hsm hv hB0 hsf hP1 hP2 hR1 hR2
    have mixed := mixed_prog
    go_enter Tryz.func3, Tryz.ntmps3
    go_wp2_with (go_at_call 8; refine HSM.out.mono ?_; rintro e w1 ⟨rfl, hb⟩; have HB1 := hide (HB0.out.below hb); clear hb)
    go_region_held3 (fun W => (W.cell? ⟨w.heap.size, 0, none⟩ = some (.int .u64 (c.frame : Int)) ∧ W.cell? ⟨w.heap.size, 1, none⟩ = some (.slice c.parts.a c.parts.l.length c.parts.c) ∧ W.cell? ⟨w.heap.size, 2, none⟩ = some (.slice c.wins.a c.wins.l.length c.wins.c) ∧ W.cell? ⟨w.heap.size, 3, none⟩ = some (.slice c.regs.a c.regs.l.length c.regs.c) ∧ W.cell? ⟨w.heap.size, 4, none⟩ = some (.slice c.ports.a c.ports.l.length c.ports.c) ∧ W.cell? ⟨w.heap.size, 5, none⟩ = some (.slice c.chans.a c.chans.l.length c.chans.c) ∧ Boxed1 w c W))
      (first | assumption | exact HSX.out _ ⟨Below.drew HB1.out.1, Blk.drew HB1.out.2⟩ | exact HSX.out _ (Boxed1.below (And.right (And.right (And.right (And.right (And.right (And.right (by assumption))))))) (by assumption)))
      (first
      | (go_at_call 9; refine (HAL.out _ (And.right (And.right (And.right (And.right (And.right (And.right (by assumption)))))))).mono ?_; rintro e wa ⟨rfl, hb⟩)
      | (go_at_call 10; refine (HP1.out _ (And.right (And.right (And.right (And.right (And.right (And.right (by assumption)))))))).mono ?_; rintro e wb ⟨rfl, hb⟩)
      | (go_at_call 11; refine (HP2.out _ (And.right (And.right (And.right (And.right (And.right (And.right (by assumption)))))))).mono ?_; rintro e wc ⟨rfl, hb⟩)
      | (go_at_call 12; refine (HR1.out _ (And.right (And.right (And.right (And.right (And.right (And.right (by assumption)))))))).mono ?_; rintro e wd ⟨rfl, hb⟩)
      | (go_at_call 13; refine (HR2.out _ (And.right (And.right (And.right (And.right (And.right (And.right (by assumption)))))))).mono ?_; rintro e we ⟨rfl, hb⟩))
    all_goals
      have HE : Hid (Boxed1 w c we) := hide ((And.right (And.right (And.right (And.right (And.right (And.right (by assumption : _ ∧ _ ∧ _ ∧ _ ∧ _ ∧ _ ∧ Boxed1 w c we))))))))
      go_wp2
      go_ret
      exact ⟨rfl, HE.out.1⟩
end Go.Proofs.YtcnihmlmaigkdaaGreatDoor
namespace Go.Proofs.YtcnihmlmaigkdaaGreatDoor
open Go.RowKit Go.Lib Go.Sort
set_option linter.unusedVariables false

theorem Box2.startC (w : World) (a b : Cfg) : Box2 w a b ((w.alloc (.cells (cfgC a) 29)).alloc (.cells (cfgC b) 29)) := by
  have h1 := (Blk.new w 29 (cfgC a)).alloc (.cells (cfgC b) 29)
  have h2 := Blk.new (w.alloc (.cells (cfgC a) 29)) 29 (cfgC b)
  rw [World.size_alloc] at h2
  exact ⟨((Below.refl _ w).alloc (Nat.le_refl _) _).alloc (by simp) _, h1, h2⟩
theorem string_eq_sides {P Q : ByteArray} {x : Bool} (h : decide (P = Q) = x) : (P.toList == Q.toList) = x := by
  rw [ByteArray.toList_eq, ByteArray.toList_eq, ← h]
  by_cases e : P = Q
  · subst e; simp
  · have hne : P.data.toList ≠ Q.data.toList := fun h5 => e (bytes_eq h5)
    rw [decide_eq_false e, beq_eq_false_iff_ne]
    exact hne
set_option maxRecDepth 100000 in
set_option maxHeartbeats 8000000 in
theorem ShowOnce_calls (a b : Cfg) (w : World) (ha : CfgAt w.heap.size a w) (hb : CfgAt w.heap.size b w) (oka : a.Ok) (okb : b.Ok) (sa : a.Small) (sb : b.Small) (hv : VarT w) :
    Calls Tryz.prog 4 #[cfgV a, cfgV b] w fun e w' => e = .returned (.bool true) ∧ Below w.heap.size w w' := by
  have hca := fun W (hW : Box2 w a b W) => CfgAt.more (ha.below hW.1) hW.1.size
  have hcb := fun W (hW : Box2 w a b W) => CfgAt.more (hb.below hW.1) hW.1.size
  have HAL := hide (fun W (hW : Box2 w a b W) => alive8_calls W (hv.below hW.1))
  have HSA := hide (fun W (hW : Box2 w a b W) => Small_calls a W (hca W hW) oka sa)
  have HSB := hide (fun W (hW : Box2 w a b W) => Small_calls b W (hcb W hW) okb sb)
  have HB0 := hide (Box2.startC w a b)
  have HCA := hide (fun W (hW : Box2 w a b W) => hW.ca)
  have HCB := hide (fun W (hW : Box2 w a b W) => hW.cb)
  have hfa := fun (hs : smallB a = true) => small_few oka (small_both hs).1 (small_both hs).2
  have hfb := fun (hs : smallB b = true) => small_few okb (small_both hs).1 (small_both hs).2
  have hPA := fun hs W (hW : Box2 w a b W) => SPrint_calls a W (hca W hW) oka (hfa hs) (hv.below hW.1)
  have hPB := fun hs W (hW : Box2 w a b W) => SPrint_calls b W (hcb W hW) okb (hfb hs) (hv.below hW.1)
  have hSS := fun (h1 : smallB a = true) (h2 : smallB b = true) W (hW : Box2 w a b W) => RSame_calls a b W (hca W hW) (hcb W hW) (few_fit oka (small_both h1).1) (few_fit okb (small_both h2).1)
  have hlaw : smallB a = true → smallB b = true → decide (ofL (printL a) = ofL (printL b)) = sameK a b := fun h1 h2 => by
    have h3 := once_law (within_good (small_both h1).2) (within_good (small_both h2).2)
    have h4 : sameK a b = sameB a b := rfl
    rw [h4, ← h3]
    by_cases e : printL a = printL b
    · rw [e]; simp
    · have e2 : ofL (printL a) ≠ ofL (printL b) := fun h5 => e (by rw [← ofL_list (printL a), h5, ofL_list])
      rw [decide_eq_false e, decide_eq_false e2]
  unfold cfgC at HB0
  unfold cfgV at HSA HSB hPA hPB hSS ⊢
  generalize ofL (printL a) = PA at *
  generalize ofL (printL b) = PB at *
  generalize sameK a b = K at *
  generalize smallB a = FA at *
  generalize smallB b = FB at *
  cases FA
  · clear ha hb oka okb sa sb hv hca hcb hfa hfb hPA hPB hSS hlaw
    go_enter Tryz.func4, Tryz.ntmps4
    obtain ⟨b0, b1, b2, b3, b4, b5⟩ := HCA.out _ HB0.out
    go_wp2_with (first
      | (go_at_call 8; refine (HSA.out _ HB0.out).mono ?_; rintro e w1 ⟨rfl, hb⟩; have HB1 := hide (HB0.out.below hb); clear hb)
      | (go_at_call 9; refine (HAL.out _ HB1.out).mono ?_; rintro e w2 ⟨rfl, hb⟩; have HB2 := hide (HB1.out.below hb); clear hb))
    go_ret
    exact ⟨rfl, HB2.out.1⟩
  · cases FB
    · clear ha hb oka okb sa sb hv hca hcb hfa hfb hPA hPB hSS hlaw
      go_enter Tryz.func4, Tryz.ntmps4
      obtain ⟨b0, b1, b2, b3, b4, b5⟩ := HCA.out _ HB0.out
      go_wp2_with (first
        | (go_at_call 8; refine (HSA.out _ HB0.out).mono ?_; rintro e w1 ⟨rfl, hb⟩; have HB1 := hide (HB0.out.below hb); obtain ⟨d0, d1, d2, d3, d4, d5⟩ := HCB.out _ HB1.out; clear hb)
        | (go_at_call 8; refine (HSB.out _ HB1.out).mono ?_; rintro e w2 ⟨rfl, hb⟩; have HB2 := hide (HB1.out.below hb); clear hb)
        | (go_at_call 9; refine (HAL.out _ HB2.out).mono ?_; rintro e w3 ⟨rfl, hb⟩; have HB3 := hide (HB2.out.below hb); clear hb))
      go_ret
      exact ⟨rfl, HB3.out.1⟩
    · have HPA := hide (hPA rfl)
      have HPB := hide (hPB rfl)
      have HSS := hide (hSS rfl rfl)
      have HLW := hide (hlaw rfl rfl)
      have HSX : Hid (∀ W, Box2 w a b W → (W.cell? ⟨w.heap.size, 0, none⟩ = some (.int .u64 (a.frame : Int)) ∧ W.cell? ⟨w.heap.size, 1, none⟩ = some (.slice a.parts.a a.parts.l.length a.parts.c) ∧ W.cell? ⟨w.heap.size, 2, none⟩ = some (.slice a.wins.a a.wins.l.length a.wins.c) ∧ W.cell? ⟨w.heap.size, 3, none⟩ = some (.slice a.regs.a a.regs.l.length a.regs.c) ∧ W.cell? ⟨w.heap.size, 4, none⟩ = some (.slice a.ports.a a.ports.l.length a.ports.c) ∧ W.cell? ⟨w.heap.size, 5, none⟩ = some (.slice a.chans.a a.chans.l.length a.chans.c) ∧ W.cell? ⟨w.heap.size + 1, 0, none⟩ = some (.int .u64 (b.frame : Int)) ∧ W.cell? ⟨w.heap.size + 1, 1, none⟩ = some (.slice b.parts.a b.parts.l.length b.parts.c) ∧ W.cell? ⟨w.heap.size + 1, 2, none⟩ = some (.slice b.wins.a b.wins.l.length b.wins.c) ∧ W.cell? ⟨w.heap.size + 1, 3, none⟩ = some (.slice b.regs.a b.regs.l.length b.regs.c) ∧ W.cell? ⟨w.heap.size + 1, 4, none⟩ = some (.slice b.ports.a b.ports.l.length b.ports.c) ∧ W.cell? ⟨w.heap.size + 1, 5, none⟩ = some (.slice b.chans.a b.chans.l.length b.chans.c) ∧ Box2 w a b W)) := hide (fun W hW => by
        obtain ⟨a0, a1, a2, a3, a4, a5⟩ := HCA.out W hW
        obtain ⟨b0, b1, b2, b3, b4, b5⟩ := HCB.out W hW
        exact ⟨a0, a1, a2, a3, a4, a5, b0, b1, b2, b3, b4, b5, hW⟩)
      clear ha hb oka okb sa sb hv hca hcb hfa hfb hPA hPB hSS hlaw
      have mixed := mixed_prog
      go_enter Tryz.func4, Tryz.ntmps4
      obtain ⟨b0, b1, b2, b3, b4, b5⟩ := HCA.out _ HB0.out
      go_wp2_with (first
        | (go_at_call 8; refine (HSA.out _ HB0.out).mono ?_; rintro e w1 ⟨rfl, hb⟩; have HB1 := hide (HB0.out.below hb); obtain ⟨d0, d1, d2, d3, d4, d5⟩ := HCB.out _ HB1.out; clear hb)
        | (go_at_call 8; refine (HSB.out _ HB1.out).mono ?_; rintro e w2 ⟨rfl, hb⟩; have HB2 := hide (HB1.out.below hb); clear hb))
      clear b0 b1 b2 b3 b4 b5 d0 d1 d2 d3 d4 d5
      go_region_held3 (fun W => (W.cell? ⟨w.heap.size, 0, none⟩ = some (.int .u64 (a.frame : Int)) ∧ W.cell? ⟨w.heap.size, 1, none⟩ = some (.slice a.parts.a a.parts.l.length a.parts.c) ∧ W.cell? ⟨w.heap.size, 2, none⟩ = some (.slice a.wins.a a.wins.l.length a.wins.c) ∧ W.cell? ⟨w.heap.size, 3, none⟩ = some (.slice a.regs.a a.regs.l.length a.regs.c) ∧ W.cell? ⟨w.heap.size, 4, none⟩ = some (.slice a.ports.a a.ports.l.length a.ports.c) ∧ W.cell? ⟨w.heap.size, 5, none⟩ = some (.slice a.chans.a a.chans.l.length a.chans.c) ∧ W.cell? ⟨w.heap.size + 1, 0, none⟩ = some (.int .u64 (b.frame : Int)) ∧ W.cell? ⟨w.heap.size + 1, 1, none⟩ = some (.slice b.parts.a b.parts.l.length b.parts.c) ∧ W.cell? ⟨w.heap.size + 1, 2, none⟩ = some (.slice b.wins.a b.wins.l.length b.wins.c) ∧ W.cell? ⟨w.heap.size + 1, 3, none⟩ = some (.slice b.regs.a b.regs.l.length b.regs.c) ∧ W.cell? ⟨w.heap.size + 1, 4, none⟩ = some (.slice b.ports.a b.ports.l.length b.ports.c) ∧ W.cell? ⟨w.heap.size + 1, 5, none⟩ = some (.slice b.chans.a b.chans.l.length b.chans.c) ∧ Box2 w a b W))
        (first | assumption | exact HSX.out _ ⟨Below.drew HB2.out.1, Blk.drew HB2.out.2.1, Blk.drew HB2.out.2.2⟩ | exact HSX.out _ (Box2.below (And.right (And.right (And.right (And.right (And.right (And.right (And.right (And.right (And.right (And.right (And.right (And.right (by assumption))))))))))))) (by assumption)))
        (first
        | (go_at_call 9; refine (HAL.out _ (And.right (And.right (And.right (And.right (And.right (And.right (And.right (And.right (And.right (And.right (And.right (And.right (by assumption)))))))))))))).mono ?_; rintro e wa ⟨rfl, hb⟩)
        | (go_at_call 10; (with_reducible first | refine (HPA.out _ (And.right (And.right (And.right (And.right (And.right (And.right (And.right (And.right (And.right (And.right (And.right (And.right (by assumption)))))))))))))).mono ?_ | refine (HPB.out _ (And.right (And.right (And.right (And.right (And.right (And.right (And.right (And.right (And.right (And.right (And.right (And.right (by assumption)))))))))))))).mono ?_); rintro e wb ⟨rfl, hb⟩)
        | (go_at_call 14; refine (HSS.out _ (And.right (And.right (And.right (And.right (And.right (And.right (And.right (And.right (And.right (And.right (And.right (And.right (by assumption)))))))))))))).mono ?_; rintro e we ⟨rfl, hb⟩))
      all_goals
        have HE : Hid (Box2 w a b we) := hide ((And.right (And.right (And.right (And.right (And.right (And.right (And.right (And.right (And.right (And.right (And.right (And.right (by assumption : _ ∧ _ ∧ _ ∧ _ ∧ _ ∧ _ ∧ _ ∧ _ ∧ _ ∧ _ ∧ _ ∧ _ ∧ Box2 w a b we))))))))))))))
        have hq := string_eq_sides HLW.out
        go_wp2
        go_ret
        exact ⟨by simp; exact hq, HE.out.1⟩
end Go.Proofs.YtcnihmlmaigkdaaGreatDoor
