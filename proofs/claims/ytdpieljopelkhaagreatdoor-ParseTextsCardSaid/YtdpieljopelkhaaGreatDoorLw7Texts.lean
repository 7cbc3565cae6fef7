/- ParseTexts, the walk (chapter 07). -/
import Derived.Test.YtdpieljopelkhaaGreatDoorLw7Same
namespace Go.Proofs.YtdpieljopelkhaaGreatDoor
open Go.RowKit Go.Lib
set_option linter.unusedVariables false

set_option maxRecDepth 100000 in
set_option maxHeartbeats 2000000 in
theorem ParseTexts_calls (x : ByteArray) (w : World) (hv : Vars w) :
    Calls Tryz.prog 3 #[.string x] w fun e w' => e = .returned (.bool true) ∧ Below w.heap.size w w' := by
  have HAL := hide (fun W (hW : Vars W) => alive7_calls W hW)
  have HV := hide hv
  by_cases hx : x.size ≤ 5000
  · have HP := hide (fun W (hW : Vars W) => (PParse_calls x W hW).mono fun e w' h => h.uni)
    have HQ := hide (fun W => (RParse_calls x (by omega) W).mono fun e w' h => h.uni)
    obtain ⟨P, hP⟩ : ∃ P, P = pcD (parseO x) := ⟨_, rfl⟩
    obtain ⟨F, hF⟩ : ∃ F, F = fD (parseO x) := ⟨_, rfl⟩
    have HS := hide (fun a b W => same_calls7 (okD_parse x) a b W)
    rw [← hP, ← hF] at HP HQ
    rw [← hP] at HS
    obtain ⟨f1, f2, f3⟩ := F
    unfold ParV at HP
    unfold RefV at HQ
    simp only at HP HQ
    have fe := fun W => flt_eql (f1 : Int) (f2 : Int) (f3 : Int) (f1 : Int) (f2 : Int) (f3 : Int) W
    have ft : ((f1 : Int) == (f1 : Int) && ((f2 : Int) == (f2 : Int) && (f3 : Int) == (f3 : Int))) = true := by simp
    simp only [ft] at fe
    have fg := fun o x y xs ys W => flt_guard o x y xs ys W
    have hxI : ¬ (5000 : Int) < (x.size : Int) := by omega
    clear hv hx hP hF ft
    go_enter Tryz.func3, Tryz.ntmps3
    go_wp2_with fail
    refine (HP.out _ HV.out).mono ?_
    rintro e w2 ⟨c, rfl, hcc, hpc, hb2⟩
    have HB2 := hide hb2
    have HCC := hide hcc
    have HPC := hide hpc
    clear hb2 hcc hpc
    unfold cfgV
    go_wp2_with fail
    refine (HQ.out _).mono ?_
    rintro e w4 ⟨d, rfl, hdc, hpd, hb4⟩
    have HBc := hide (show Blk w4 w2.heap.size 30 (cfgCs c) from ((Blk.new w2 _ _).alloc _).below hb4 (by simp; omega))
    have HBf := hide (show Blk w4 (w2.heap.size + 1) 33 #[.int .i64 (f1 : Int), .int .i64 (f2 : Int), .int .i64 (f3 : Int)] from (Blk.newAt (by simp)).below hb4 (by simp))
    have HW4 := hide (show Below w.heap.size w w4 from ((HB2.out.alloc HB2.out.size _).alloc (by have := HB2.out.size; simp; omega) _).trans (hb4.mono (by have := HB2.out.size; simp; omega)))
    have HCC4 := hide (show CfgAt w2.heap.size c w4 from HCC.out.below ((((Below.refl _ w2).alloc (Nat.le_refl _) _).alloc (by simp) _).trans (hb4.mono (by simp; omega))))
    have hz4 : w2.heap.size + 1 < w4.heap.size := HBf.out.lt
    have HDC := hide hdc
    have HPD := hide hpd
    clear hb4 hdc hpd HCC
    unfold cfgV
    go_wp2_with fail
    refine (HAL.out _ (HV.out.below (HW4.out.alloc HW4.out.size _))).mono ?_
    rintro e w6 ⟨rfl, hb6⟩
    have hBc6 := HBc.out.below ((Below.alloc (Below.refl w4.heap.size w4) (Nat.le_refl _) _).trans (hb6.mono (by simp))) HBc.out.lt
    have hBf6 := HBf.out.below ((Below.alloc (Below.refl w4.heap.size w4) (Nat.le_refl _) _).trans (hb6.mono (by simp))) HBf.out.lt
    have hBd6 := (show Blk w6 w4.heap.size 30 (cfgCs d) from (Blk.new w4 _ _).below hb6 (by simp))
    have HW6 := hide (show Below w.heap.size w w6 from (HW4.out.alloc HW4.out.size _).trans (hb6.mono (by have := HW4.out.size; simp; omega)))
    have HC6 := hide (show CfgAt w6.heap.size c w6 from CfgAt.more (HCC4.out.below (((Below.alloc (Below.refl w4.heap.size w4) (Nat.le_refl _) _).trans (hb6.mono (by simp))).mono (by omega))) (by have := hBc6.lt; omega))
    have HD6 := hide (show CfgAt w6.heap.size d w6 from CfgAt.more (HDC.out.below ((Below.alloc (Below.refl w4.heap.size w4) (Nat.le_refl _) _).trans (hb6.mono (by simp)))) (by have := hBd6.lt; omega))
    obtain ⟨p0, p1, p2, p3, p4, p5⟩ := cfg6 hBc6
    obtain ⟨q0, q1, q2, q3, q4, q5⟩ := cfg6 hBd6
    have HBf6 := hide hBf6
    clear hb6 hBc6 hBf6 hBd6
    go_wp2_with fail
    refine (HS.out c d w6 HC6.out HD6.out HPC.out HPD.out).mono ?_
    rintro e w7 ⟨rfl, hb7⟩
    obtain ⟨r0, r1, r2⟩ := flt3 (HBf6.out.below hb7 HBf6.out.lt)
    have HW7 := hide (HW6.out.trans (hb7.mono HW6.out.size))
    clear hb7 p0 p1 p2 p3 p4 p5 q0 q1 q2 q3 q4 q5
    go_wp2
    go_ret
    exact ⟨rfl, HW7.out⟩
  · have hxI : (5000 : Int) < (x.size : Int) := by omega
    clear hv
    go_enter Tryz.func3, Tryz.ntmps3
    go_wp2_with fail
    refine (HAL.out _ HV.out).mono ?_
    rintro e w2 ⟨rfl, hb2⟩
    go_wp2
    go_ret
    exact ⟨rfl, hb2⟩
end Go.Proofs.YtdpieljopelkhaaGreatDoor
