/- The law SchedLookups (chapter 21). -/
import Derived.Test.YtmphookgaopdlaaGreatSdUntils
import Derived.BigQuiet
namespace Go.Proofs.YtmphookgaopdlaaGreat
open Go.RowKit Go.Sort
set_option linter.unusedVariables false

set_option maxRecDepth 100000 in
set_option maxHeartbeats 8000000 in
theorem SchedLookups_calls (c : Cfg) (t : Nat) (w : World) (h : CfgAt w.heap.size c w) (hok : c.Ok) (hsm : c.Small) (ht : t < 18446744073709551616) :
    Calls Tryz.prog 3 #[cfgV c, .int .u64 (t : Int)] w fun e w' => e = .returned (.bool true) ∧ Below w.heap.size w w' := by
  have HAL := hide (fun W => alive_sd W)
  have hB0 := Boxed1.start w c
  have HFW := hide (fun W (hW : Boxed1 w c W) => Few_calls c W (hW.cfg h) hok hsm)
  have HRT := hide (fun W (hW : Boxed1 w c W) => Right_calls c W (hW.cfg h) hok hsm)
  have HBC := hide (fun W (hW : Boxed1 w c W) => hW.cells)
  unfold cfgC at hB0
  have HB0 := hide hB0
  cases hfw : fewB c with
  | false =>
    rw [hfw] at HFW
    unfold cfgV at HFW ⊢
    clear h hok hsm hB0 hfw HRT ht
    go_enter Tryz.func3, Tryz.ntmps3
    obtain ⟨b0, b1, b2, b3, b4, b5⟩ := HBC.out _ HB0.out
    go_wp2_with (first
      | (go_at_call 9; refine (HFW.out _ HB0.out).mono ?_; rintro e w1 ⟨rfl, hb⟩; have HB1 := hide (HB0.out.below hb); clear hb)
      | (go_at_call 10; refine (HAL.out _).mono ?_; rintro e w2 ⟨rfl, hb⟩; have HB2 := hide (HB1.out.below hb); clear hb))
    go_ret
    exact ⟨rfl, HB2.out.1⟩
  | true =>
    rw [hfw] at HFW
    have hw1000 : c.wins.l.length ≤ 1000 := by
      unfold fewB at hfw
      simp only [Bool.and_eq_true, decide_eq_true_eq] at hfw
      have := hfw.2
      unfold sumN at this
      omega
    by_cases hck : (checkR c).1 = 0
    · have hr : rightB c = true := by unfold rightB; rw [hfw, hck]; rfl
      have hf := hok.frame
      have hrt : decide ((checkR c).1 = 0) = true := by rw [hck]; rfl
      rw [hrt] at HRT
      have HNW := hide (fun W (hW : Boxed1 w c W) => New_yes c W (hW.cfg h) hok hsm (by omega) (right_all hr).2.2.2)
      have HSC := hide (fun l hp ha => sch_of hr hf (l := l) hp ha)
      have HWI := hide (fun l (hS : SchC c l ∧ l.length ≤ 1048576) a cap g W (hW : LwB c l a cap g w W) => Window_any c.frame l a cap g t W hW.sd hS.1.sch hS.2)
      have HLK := hide (fun l (hS : SchC c l ∧ l.length ≤ 1048576) a cap g W (hW : LwB c l a cap g w W) => Lookup_any c.frame l a cap g t W hW.sd hS.1.sch hS.2)
      have HLE := hide (fun l (hS : SchC c l ∧ l.length ≤ 1048576) a cap g W (hW : LwB c l a cap g w W) => SLen_calls c.frame l a cap g W hW.sd)
      have HRL := hide (fun l (hS : SchC c l ∧ l.length ≤ 1048576) a cap g W (hW : LwB c l a cap g w W) => RLookup_calls c l t W (hW.box.cfg h) hsm hS.1 ht)
      have HRW := hide (fun l (hS : SchC c l ∧ l.length ≤ 1048576) a cap g W (hW : LwB c l a cap g w W) => (show Calls Tryz.prog 16 #[cfgV c, .int .u64 (t : Int)] W fun e w' => e = .returned (.tuple #[.agg (winC (winD l (t % c.frame))), .bool (winB l (t % c.frame))]) ∧ Below W.heap.size W w' from by
        have := RWindow_calls c t W (hW.box.cfg h) hsm hS.1.sch.pos hS.1.sch.lt ht
        rw [(hS.1.winR _).1, (hS.1.winR _).2] at this
        exact this))
      obtain ⟨n, hn⟩ : ∃ n, n = c.wins.l.length := ⟨_, rfl⟩
      have HLN := hide (fun l (hS : SchC c l ∧ l.length ≤ 1048576) => (show l.length = n from by rw [hn]; exact hS.1.perm.length_eq))
      unfold cfgV at HFW HRT HNW HRL HRW ⊢
      rw [← hn] at HFW HRT HNW HRL HRW HBC HB0 ⊢
      clear h hok hsm hB0 hfw hr ht hf hck hrt hw1000 hn
      go_enter Tryz.func3, Tryz.ntmps3
      obtain ⟨b0, b1, b2, b3, b4, b5⟩ := HBC.out _ HB0.out
      go_wp2_with (first
        | (go_at_call 9; refine (HFW.out _ HB0.out).mono ?_; rintro e w1 ⟨rfl, hb⟩; have HB1 := hide (HB0.out.below hb); clear hb b0 b1 b2 b3 b4 b5; obtain ⟨b0, b1, b2, b3, b4, b5⟩ := HBC.out _ HB1.out)
        | (go_at_call 11; refine (HNW.out _ HB1.out).mono ?_; rintro e w2 ⟨l, a, cap, g, rfl, hg, hsd, hp, ha, hb⟩; have HL2 := hide (show LwB c l a cap g w w2 from ⟨HB1.out.below hb, hsd⟩); have HS := hide (HSC.out l hp ha); clear hb hg hsd hp ha b0 b1 b2 b3 b4 b5; obtain ⟨b0, b1, b2, b3, b4, b5⟩ := HBC.out _ HL2.out.box)
        | (go_at_call 12; refine (HRT.out _ HL2.out.box).mono ?_; rintro e w3 ⟨rfl, hb⟩; have HL3 := hide (HL2.out.below hb); clear hb b0 b1 b2 b3 b4 b5; obtain ⟨b0, b1, b2, b3, b4, b5⟩ := HBC.out _ HL3.out.box))
      have hwi := HWI.out l HS.out a cap g
      have hlk := HLK.out l HS.out a cap g
      have hrl := HRL.out l HS.out a cap g
      have hrw := HRW.out l HS.out a cap g
      have hle := HLE.out l HS.out a cap g
      rw [HLN.out l HS.out] at hle
      generalize winD l (t % c.frame) = y at *
      generalize winB l (t % c.frame) = pb at *
      obtain ⟨lo, len, pt⟩ := y
      unfold winC at hwi hrw
      simp only at hwi hrw hlk hrl
      have HWI1 := hide hwi
      have HLK1 := hide hlk
      have HRL1 := hide hrl
      have HRW1 := hide hrw
      have HLE1 := hide hle
      have fe := fun W => win_same lo len pt W
      have fg := fun o x y xs ys W => win_guard o x y xs ys W
      have hpp : (pb == pb) = true := by simp
      clear hwi hlk hrl hrw hle
      go_wp2_with (first
        | (go_at_call 13; refine (HLK1.out _ HL3.out).mono ?_; rintro e w4 ⟨rfl, hb⟩; have HL4 := hide (HL3.out.below hb); clear hb b0 b1 b2 b3 b4 b5)
        | (go_at_call 14; refine (HWI1.out _ HL4.out).mono ?_; rintro e w5 ⟨rfl, hb⟩; have HL5 := hide ((HL4.out.below hb).alloc (.cells #[.int .u64 (lo : Int), .int .u64 (len : Int), .int .u16 (pt : Int)] 38)); have HA5 := hide (Blk.new w5 38 #[.int .u64 (lo : Int), .int .u64 (len : Int), .int .u16 (pt : Int)]); clear hb; obtain ⟨b0, b1, b2, b3, b4, b5⟩ := HBC.out _ HL5.out.box)
        | (go_at_call 15; refine (HRL1.out _ HL5.out).mono ?_; rintro e w6 ⟨rfl, hb⟩; have HL6 := hide (HL5.out.below hb); have HA6 := hide (HA5.out.below hb HA5.out.lt); clear hb b0 b1 b2 b3 b4 b5; obtain ⟨b0, b1, b2, b3, b4, b5⟩ := HBC.out _ HL6.out.box)
        | (go_at_call 16; refine (HRW1.out _ HL6.out).mono ?_; rintro e w7 ⟨rfl, hb⟩; have HL7 := hide ((HL6.out.below hb).alloc (.cells #[.int .u64 (lo : Int), .int .u64 (len : Int), .int .u16 (pt : Int)] 38)); have HA7 := hide ((HA6.out.below hb HA6.out.lt).alloc (.cells #[.int .u64 (lo : Int), .int .u64 (len : Int), .int .u16 (pt : Int)] 38)); have HC7 := hide (Blk.new w7 38 #[.int .u64 (lo : Int), .int .u64 (len : Int), .int .u16 (pt : Int)]); clear hb b0 b1 b2 b3 b4 b5))
      have HSX : Hid (∀ W, LwB c l a cap g w W ∧ Blk W w5.heap.size 38 #[.int .u64 (lo : Int), .int .u64 (len : Int), .int .u16 (pt : Int)] ∧ Blk W w7.heap.size 38 #[.int .u64 (lo : Int), .int .u64 (len : Int), .int .u16 (pt : Int)] →
          (W.cell? ⟨w.heap.size, 2, none⟩ = some (.slice c.wins.a n c.wins.c) ∧ W.cell? ⟨w5.heap.size, 0, none⟩ = some (.int .u64 (lo : Int)) ∧ W.cell? ⟨w5.heap.size, 1, none⟩ = some (.int .u64 (len : Int)) ∧ W.cell? ⟨w5.heap.size, 2, none⟩ = some (.int .u16 (pt : Int)) ∧ W.cell? ⟨w7.heap.size, 0, none⟩ = some (.int .u64 (lo : Int)) ∧ W.cell? ⟨w7.heap.size, 1, none⟩ = some (.int .u64 (len : Int)) ∧ W.cell? ⟨w7.heap.size, 2, none⟩ = some (.int .u16 (pt : Int)) ∧
            (LwB c l a cap g w W ∧ Blk W w5.heap.size 38 #[.int .u64 (lo : Int), .int .u64 (len : Int), .int .u16 (pt : Int)] ∧ Blk W w7.heap.size 38 #[.int .u64 (lo : Int), .int .u64 (len : Int), .int .u16 (pt : Int)]))) := hide (fun W hW =>
        ⟨(HBC.out _ hW.1.box).2.2.1, hW.2.1.cell 0, hW.2.1.cell 1, hW.2.1.cell 2, hW.2.2.cell 0, hW.2.2.cell 1, hW.2.2.cell 2, hW⟩)
      have HBL : Hid (∀ W W', (LwB c l a cap g w W ∧ Blk W w5.heap.size 38 #[.int .u64 (lo : Int), .int .u64 (len : Int), .int .u16 (pt : Int)] ∧ Blk W w7.heap.size 38 #[.int .u64 (lo : Int), .int .u64 (len : Int), .int .u16 (pt : Int)]) → Below W.heap.size W W' → (LwB c l a cap g w W' ∧ Blk W' w5.heap.size 38 #[.int .u64 (lo : Int), .int .u64 (len : Int), .int .u16 (pt : Int)] ∧ Blk W' w7.heap.size 38 #[.int .u64 (lo : Int), .int .u64 (len : Int), .int .u16 (pt : Int)])) := hide (fun W W' hW hb => ⟨hW.1.below hb, hW.2.1.below hb hW.2.1.lt, hW.2.2.below hb hW.2.2.lt⟩)
      have HX7 := hide (HSX.out _ (HBL.out _ _ ⟨HL7.out, HA7.out, HC7.out⟩ (Below.refl _ _).drew))
      go_region_held3 (fun W => (W.cell? ⟨w.heap.size, 2, none⟩ = some (.slice c.wins.a n c.wins.c) ∧ W.cell? ⟨w5.heap.size, 0, none⟩ = some (.int .u64 (lo : Int)) ∧ W.cell? ⟨w5.heap.size, 1, none⟩ = some (.int .u64 (len : Int)) ∧ W.cell? ⟨w5.heap.size, 2, none⟩ = some (.int .u16 (pt : Int)) ∧ W.cell? ⟨w7.heap.size, 0, none⟩ = some (.int .u64 (lo : Int)) ∧ W.cell? ⟨w7.heap.size, 1, none⟩ = some (.int .u64 (len : Int)) ∧ W.cell? ⟨w7.heap.size, 2, none⟩ = some (.int .u16 (pt : Int)) ∧
            (LwB c l a cap g w W ∧ Blk W w5.heap.size 38 #[.int .u64 (lo : Int), .int .u64 (len : Int), .int .u16 (pt : Int)] ∧ Blk W w7.heap.size 38 #[.int .u64 (lo : Int), .int .u64 (len : Int), .int .u16 (pt : Int)])))
        (first | exact HX7.out | assumption | exact HSX.out _ (HBL.out _ _ (And.right (And.right (And.right (And.right (And.right (And.right (And.right (by assumption)))))))) (by assumption)))
        (first
          | (go_at_call 10; refine (HAL.out _).mono ?_; rintro e wa ⟨rfl, hb⟩)
          | (go_at_call 17; refine (HLE1.out _ (And.left (And.right (And.right (And.right (And.right (And.right (And.right (And.right (by assumption)))))))))).mono ?_; rintro e wb ⟨rfl, rfl⟩))
      have HE : Hid (LwB c l a cap g w wa) := hide (And.left (And.right (And.right (And.right (And.right (And.right (And.right (And.right (by assumption)))))))))
      go_wp2
      go_ret
      exact ⟨rfl, HE.out.box.1⟩
    · have hrt : decide ((checkR c).1 = 0) = false := by rw [decide_eq_false_iff_not]; exact hck
      rw [hrt] at HRT
      have HNW := hide (fun W (hW : Boxed1 w c W) => New_no c W (hW.cfg h) hok hsm (by omega) hck)
      unfold cfgV at HFW HRT HNW ⊢
      clear h hok hsm hB0 hfw ht hck hrt hw1000
      go_enter Tryz.func3, Tryz.ntmps3
      obtain ⟨b0, b1, b2, b3, b4, b5⟩ := HBC.out _ HB0.out
      go_wp2_with (first
        | (go_at_call 9; refine (HFW.out _ HB0.out).mono ?_; rintro e w1 ⟨rfl, hb⟩; have HB1 := hide (HB0.out.below hb); clear hb b0 b1 b2 b3 b4 b5; obtain ⟨b0, b1, b2, b3, b4, b5⟩ := HBC.out _ HB1.out)
        | (go_at_call 11; refine (HNW.out _ HB1.out).mono ?_; rintro e w2 ⟨rfl, hb⟩; have HB2 := hide (HB1.out.below hb); clear hb b0 b1 b2 b3 b4 b5; obtain ⟨b0, b1, b2, b3, b4, b5⟩ := HBC.out _ HB2.out)
        | (go_at_call 12; refine (HRT.out _ HB2.out).mono ?_; rintro e w3 ⟨rfl, hb⟩; have HB3 := hide (HB2.out.below hb); clear hb b0 b1 b2 b3 b4 b5)
        | (go_at_call 10; refine (HAL.out _).mono ?_; rintro e w4 ⟨rfl, hb⟩; have HB4 := hide (HB3.out.below hb); clear hb))
      go_ret
      exact ⟨rfl, HB4.out.1⟩
end Go.Proofs.YtmphookgaopdlaaGreat
