/- The law SchedRepeats (chapter 21). -/
import Derived.Test.YtmphookgaopdlaaGreatSdUntils
namespace Go.Proofs.YtmphookgaopdlaaGreat
open Go.RowKit Go.Sort
set_option linter.unusedVariables false

set_option maxRecDepth 100000 in
set_option maxHeartbeats 8000000 in
theorem SchedRepeats_calls (c : Cfg) (t : Nat) (w : World) (h : CfgAt w.heap.size c w) (hok : c.Ok) (hsm : c.Small) (ht : t < 18446744073709551616) :
    Calls Tryz.prog 6 #[cfgV c, .int .u64 (t : Int)] w fun e w' => e = .returned (.bool true) ∧ Below w.heap.size w w' := by
  have HAL := hide (fun W => alive_sd W)
  have hB0 := Boxed1.start w c
  have HRI := hide (fun W (hW : Boxed1 w c W) => right_calls c W (hW.cfg h) hok hsm)
  have HBC := hide (fun W (hW : Boxed1 w c W) => hW.cells)
  unfold cfgC at hB0
  have HB0 := hide hB0
  cases hr : rightB c with
  | false =>
    rw [hr] at HRI
    unfold cfgV at HRI ⊢
    clear h hok hsm hB0 hr ht
    go_enter Tryz.func6, Tryz.ntmps6
    obtain ⟨b0, b1, b2, b3, b4, b5⟩ := HBC.out _ HB0.out
    go_wp2_with (first
      | (go_at_call 18; refine (HRI.out _ HB0.out).mono ?_; rintro e w1 ⟨rfl, hb⟩; have HB1 := hide (HB0.out.below hb); clear hb b0 b1 b2 b3 b4 b5; obtain ⟨b0, b1, b2, b3, b4, b5⟩ := HBC.out _ HB1.out)
      | (go_at_call 10; refine (HAL.out _).mono ?_; rintro e w2 ⟨rfl, hb⟩; have HB2 := hide (HB1.out.below hb); clear hb))
    go_ret
    exact ⟨rfl, HB2.out.1⟩
  | true =>
    rw [hr] at HRI
    have hf := hok.frame
    have HNW := hide (fun W (hW : Boxed1 w c W) => New_yes c W (hW.cfg h) hok hsm (by have := fill_few hr; omega) (right_all hr).2.2.2)
    have HSC := hide (fun l hp ha => sch_of hr hf (l := l) hp ha)
    have HF0 := hide hf
    have hf0 : 0 < c.frame := by have := (right_all hr).1; omega
    by_cases hov : 18446744073709551616 ≤ t + c.frame
    · obtain ⟨s, hs⟩ : ∃ s, s = t + c.frame - 18446744073709551616 := ⟨_, rfl⟩
      have ha : IntKind.u64.wrap ((t : Int) + (c.frame : Int)) = (s : Int) := by
        have e : (t : Int) + (c.frame : Int) = (s : Int) + 18446744073709551616 := by omega
        rw [e]
        simp only [IntKind.wrap, IntKind.bits, IntKind.signed]
        simp
        omega
      have e0 : decide ((s : Int) < (t : Int)) = true := by rw [decide_eq_true_eq]; omega
      have e1 : decide (s < t) = true := by rw [decide_eq_true_eq]; omega
      unfold cfgV at HRI ⊢
      clear h hok hsm hB0 hr ht hf hov hs hf0 HNW HF0
      go_enter Tryz.func6, Tryz.ntmps6
      obtain ⟨b0, b1, b2, b3, b4, b5⟩ := HBC.out _ HB0.out
      go_wp2_with (first
        | (go_at_call 18; refine (HRI.out _ HB0.out).mono ?_; rintro e w1 ⟨rfl, hb⟩; have HB1 := hide (HB0.out.below hb); clear hb b0 b1 b2 b3 b4 b5; obtain ⟨b0, b1, b2, b3, b4, b5⟩ := HBC.out _ HB1.out)
        | (go_at_call 10; refine (HAL.out _).mono ?_; rintro e w2 ⟨rfl, hb⟩; have HB2 := hide (HB1.out.below hb); clear hb))
      go_ret
      exact ⟨rfl, HB2.out.1⟩
    · obtain ⟨s, hs⟩ : ∃ s, s = t + c.frame := ⟨_, rfl⟩
      have ha : IntKind.u64.wrap ((t : Int) + (c.frame : Int)) = (s : Int) := wrapU (by omega) (by omega)
      have e0 : decide ((s : Int) < (t : Int)) = false := by rw [decide_eq_false_iff_not]; omega
      have e1 : decide (s < t) = false := by rw [decide_eq_false_iff_not]; omega
      have hm1 : (t : Int).tmod (c.frame : Int) = ((t % c.frame : Nat) : Int) := by rw [Int.ofNat_tmod]
      have hm2 : (t : Int) % (c.frame : Int) = ((t % c.frame : Nat) : Int) := by omega
      have hfz : ((c.frame : Int) == 0) = false := by rw [beq_eq_false_iff_ne]; omega
      have hfp : (0 : Int) < (c.frame : Int) := by omega
      have hsm2 : s % c.frame = t % c.frame := by rw [hs, Nat.add_mod_right]
      have hmm : t % c.frame % c.frame = t % c.frame := Nat.mod_mod _ _
      have HWI := hide (fun l (hS : SchC c l ∧ l.length ≤ 1048576) a cap g T W (hW : LwB c l a cap g w W) => Window_any c.frame l a cap g T W hW.sd hS.1.sch hS.2)
      unfold cfgV at HRI HNW ⊢
      have HSM2 := hide hsm2
      have HMM := hide hmm
      obtain ⟨x, hx⟩ : ∃ x, x = t % c.frame := ⟨_, rfl⟩
      rw [← hx] at hm1 hm2 HSM2 HMM
      have HX := hide hx
      clear h hok hsm hB0 hr ht hf hov hs hf0 HF0 hsm2 hmm hx
      go_enter Tryz.func6, Tryz.ntmps6
      obtain ⟨b0, b1, b2, b3, b4, b5⟩ := HBC.out _ HB0.out
      go_wp2_with (first
        | (go_at_call 18; refine (HRI.out _ HB0.out).mono ?_; rintro e w1 ⟨rfl, hb⟩; have HB1 := hide (HB0.out.below hb); clear hb b0 b1 b2 b3 b4 b5; obtain ⟨b0, b1, b2, b3, b4, b5⟩ := HBC.out _ HB1.out)
        | (go_at_call 11; refine (HNW.out _ HB1.out).mono ?_; rintro e w2 ⟨l, a, cap, g, rfl, hg, hsd, hp, ha, hb⟩; have HL2 := hide (show LwB c l a cap g w w2 from ⟨HB1.out.below hb, hsd⟩); have HS := hide (HSC.out l hp ha); clear hb hg hsd hp ha b0 b1 b2 b3 b4 b5; obtain ⟨b0, b1, b2, b3, b4, b5⟩ := HBC.out _ HL2.out.box))
      have hwi := HWI.out l HS.out a cap g
      have hw1 := hwi t
      have hw2 := hwi s
      have hw3 := hwi x
      rw [HSM2.out] at hw2
      rw [← HX.out] at hw1
      rw [HMM.out] at hw3
      generalize winD l x = y at *
      generalize winB l x = pb at *
      obtain ⟨lo, len, pt⟩ := y
      unfold winC at hw1 hw2 hw3
      simp only at hw1 hw2 hw3
      have HW1 := hide hw1
      have HW2 := hide hw2
      have HW3 := hide hw3
      have fe := fun W => win_same lo len pt W
      have fg := fun o x y xs ys W => win_guard o x y xs ys W
      have hpp : (pb == pb) = true := by simp
      clear hwi hw1 hw2 hw3
      go_wp2_with (first
        | (go_at_call 14; (with_reducible refine (HW1.out _ HL2.out).mono ?_); rintro e w5 ⟨rfl, hb⟩; have HL5 := hide ((HL2.out.below hb).alloc (.cells #[.int .u64 (lo : Int), .int .u64 (len : Int), .int .u16 (pt : Int)] 38)); have HA5 := hide (Blk.new w5 38 #[.int .u64 (lo : Int), .int .u64 (len : Int), .int .u16 (pt : Int)]); clear hb b0 b1 b2 b3 b4 b5; obtain ⟨b0, b1, b2, b3, b4, b5⟩ := HBC.out _ HL5.out.box)
        | (go_at_call 14; (with_reducible refine (HW2.out _ HL5.out).mono ?_); rintro e w6 ⟨rfl, hb⟩; have HL6 := hide ((HL5.out.below hb).alloc (.cells #[.int .u64 (lo : Int), .int .u64 (len : Int), .int .u16 (pt : Int)] 38)); have HA6 := hide ((HA5.out.below hb HA5.out.lt).alloc (.cells #[.int .u64 (lo : Int), .int .u64 (len : Int), .int .u16 (pt : Int)] 38)); have HC6 := hide (Blk.new w6 38 #[.int .u64 (lo : Int), .int .u64 (len : Int), .int .u16 (pt : Int)]); clear hb b0 b1 b2 b3 b4 b5; obtain ⟨b0, b1, b2, b3, b4, b5⟩ := HBC.out _ HL6.out.box)
        | (go_at_call 14; (with_reducible refine (HW3.out _ HL6.out).mono ?_); rintro e w7 ⟨rfl, hb⟩; have HL7 := hide ((HL6.out.below hb).alloc (.cells #[.int .u64 (lo : Int), .int .u64 (len : Int), .int .u16 (pt : Int)] 38)); have HA7 := hide ((HA6.out.below hb HA6.out.lt).alloc (.cells #[.int .u64 (lo : Int), .int .u64 (len : Int), .int .u16 (pt : Int)] 38)); have HC7 := hide ((HC6.out.below hb HC6.out.lt).alloc (.cells #[.int .u64 (lo : Int), .int .u64 (len : Int), .int .u16 (pt : Int)] 38)); have HD7 := hide (Blk.new w7 38 #[.int .u64 (lo : Int), .int .u64 (len : Int), .int .u16 (pt : Int)]); clear hb b0 b1 b2 b3 b4 b5)
        | (go_at_call 10; refine (HAL.out _).mono ?_; rintro e w8 ⟨rfl, hb⟩; have HL8 := hide (HL7.out.below hb); have HA8 := hide (HA7.out.below hb HA7.out.lt); have HC8 := hide (HC7.out.below hb HC7.out.lt); have HD8 := hide (HD7.out.below hb HD7.out.lt); clear hb; have a0 := HA8.out.cell 0; have a1 := HA8.out.cell 1; have a2 := HA8.out.cell 2; have c0 := HC8.out.cell 0; have c1 := HC8.out.cell 1; have c2 := HC8.out.cell 2; have d0 := HD8.out.cell 0; have d1 := HD8.out.cell 1; have d2 := HD8.out.cell 2; simp only [List.getElem?_toArray, List.getElem?_cons_zero, List.getElem?_cons_succ] at a0 a1 a2 c0 c1 c2 d0 d1 d2))
      go_ret
      exact ⟨rfl, HL8.out.box.1⟩
end Go.Proofs.YtmphookgaopdlaaGreat
