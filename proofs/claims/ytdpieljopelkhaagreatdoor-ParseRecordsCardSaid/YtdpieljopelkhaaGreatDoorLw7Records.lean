/- ParseRecords, the walk (chapter 07). -/
import Derived.Test.YtdpieljopelkhaaGreatDoorLw7Same
import Derived.Test.YtdpieljopelkhaaGreatDoorPaPos
namespace Go.Proofs.YtdpieljopelkhaaGreatDoor
open Go.RowKit Go.Lib
set_option linter.unusedVariables false

theorem parseO_within {x T : ByteArray} {pc : PC} (hT : T.data.toList = preL ++ (x.data.toList ++ [10, 125])) (hx : x.size ≤ 4000) (h : parseRO x = .ok pc) : parseO T = .ok (setF 7 pc) := by
  unfold parseRO at h
  cases ho : outOf x with
  | bad c i j => rw [ho] at h; cases h
  | ok L =>
    rw [ho] at h
    obtain ⟨L', h1, h2⟩ := records_law (out_toks ho).2 hT h
    have hsz : T.size ≤ 1048576 := by
      rw [Lib.size_eq, hT, List.length_append, List.length_append]
      have hp : preL.length = 18 := rfl
      have hq : ([10, 125] : List UInt8).length = 2 := rfl
      rw [Lib.size_eq] at hx
      omega
    unfold parseO outOf
    rw [if_pos hsz, h1]
    exact h2
theorem CfgAt.frame_ {B : Nat} {c : Cfg} {w : World} (h : CfgAt B c w) (n : Nat) : CfgAt B { c with frame := n } w := ⟨h.parts, h.wins, h.regs, h.ports, h.chans, h.dests⟩
theorem okC_frame {P : PC} (h : OkC P) : OkC (setF 7 P) := ⟨h.parts, h.wins, h.regs, h.ports, h.chans, h.links, h.okP, h.okW, h.okR, h.okQ, h.okC, by show 7 < 18446744073709551616; omega, h.shortP, h.shortQ, h.rights⟩
set_option maxRecDepth 100000 in
set_option maxHeartbeats 4000000 in
theorem ParseRecords_calls (x : ByteArray) (w : World) (hv : Vars w) :
    Calls Tryz.prog 6 #[.string x] w fun e w' => e = .returned (.bool true) ∧ Below w.heap.size w w' := by
  have HAL := hide (fun W (hW : Vars W) => alive7_calls W hW)
  have HV := hide hv
  by_cases hx : x.size ≤ 4000
  · obtain ⟨T, hT⟩ : ∃ T : ByteArray, T = ((⟨#[109, 111, 100, 117, 108, 101, 32, 123, 32, 102, 114, 97, 109, 101, 32, 55, 59, 10]⟩ : ByteArray) ++ x) ++ ⟨#[10, 125]⟩ := ⟨_, rfl⟩
    have hTL : T.data.toList = preL ++ (x.data.toList ++ [10, 125]) := by rw [hT]; simp [preL]
    have HP := hide (fun W (hW : Vars W) => (PRecords_calls x W hW).mono fun e w' h => h.uni)
    have HQ := hide (fun W => (RRecordsT_calls x (by omega) W).mono fun e w' h => h.uni)
    have HPT := hide (fun W (hW : Vars W) => (PParse_calls T W hW).mono fun e w' h => h.uni)
    have hz : (fD (parseRO x)).1 = 0 → fD (parseO T) = (0, 0, 0) ∧ pcD (parseO T) = setF 7 (pcD (parseRO x)) := fun h0 => by
      cases ho : parseRO x with
      | error f => rw [ho] at h0; have := parseRO_pos ho; simp only [fD] at h0; omega
      | ok pc => rw [parseO_within hTL hx ho]; exact ⟨rfl, rfl⟩
    have HS := hide (fun a b W => same_calls7 (okD_rec x) a b W)
    have HS7 := hide (fun a b W => same_calls7 (okC_frame (okD_rec x)) a b W)
    obtain ⟨P, hP⟩ : ∃ P, P = pcD (parseRO x) := ⟨_, rfl⟩
    obtain ⟨F, hF⟩ : ∃ F, F = fD (parseRO x) := ⟨_, rfl⟩
    obtain ⟨Q, hQ⟩ : ∃ Q, Q = pcD (parseO T) := ⟨_, rfl⟩
    obtain ⟨G, hG⟩ : ∃ G, G = fD (parseO T) := ⟨_, rfl⟩
    rw [← hP, ← hF] at HP HQ
    rw [← hP] at HS HS7
    rw [← hQ, ← hG] at HPT
    rw [← hP, ← hF, ← hQ, ← hG] at hz
    obtain ⟨f1, f2, f3⟩ := F
    obtain ⟨g1, g2, g3⟩ := G
    unfold ParV at HP HPT
    unfold RefV at HQ
    simp only at HP HQ HPT hz
    have HZ := hide hz
    have fe := fun W => flt_neq (f1 : Int) (f2 : Int) (f3 : Int) (f1 : Int) (f2 : Int) (f3 : Int) W
    have ft : (!((f1 : Int) == (f1 : Int) && ((f2 : Int) == (f2 : Int) && (f3 : Int) == (f3 : Int)))) = false := by simp
    simp only [ft] at fe
    have fg := fun o x y xs ys W => flt_guard o x y xs ys W
    have hxI : ¬ (4000 : Int) < (x.size : Int) := by omega
    have s1 : (9223372036854775807 < 18 + x.size) = False := by simp; omega
    have s2 : (9223372036854775807 < 18 + x.size + 2) = False := by simp; omega
    rw [hT] at HPT
    clear hv hx hP hF hQ hG ft hz hTL hT
    go_enter Tryz.func6, Tryz.ntmps6
    go_wp2_with fail
    refine (HP.out _ HV.out).mono ?_
    rintro e w2 ⟨c, rfl, hoc, hpc, hb2⟩
    have hcc := hoc.at_
    have HB2 := hide hb2
    have HCC := hide hcc
    have HPC := hide hpc
    clear hb2 hcc hpc hoc
    unfold cfgV
    go_wp2_with fail
    refine (HQ.out _).mono ?_
    rintro e w4 ⟨d, rfl, hdc, hpd, hb4⟩
    have HBc := hide (show Blk w4 w2.heap.size 30 (cfgCs c) from ((Blk.new w2 _ _).alloc _).below hb4 (by simp; omega))
    have HBf := hide (show Blk w4 (w2.heap.size + 1) 33 #[.int .i64 (f1 : Int), .int .i64 (f2 : Int), .int .i64 (f3 : Int)] from (Blk.newAt (by simp)).below hb4 (by simp))
    have HW4 := hide (show Below w.heap.size w w4 from ((HB2.out.alloc HB2.out.size _).alloc (by have := HB2.out.size; simp; omega) _).trans (hb4.mono (by have := HB2.out.size; simp; omega)))
    have HCC4 := hide (show CfgAt w2.heap.size c w4 from HCC.out.below ((((Below.refl _ w2).alloc (Nat.le_refl _) _).alloc (by simp) _).trans (hb4.mono (by simp; omega))))
    have hz4 : w2.heap.size + 1 < w4.heap.size := HBf.out.lt
    have hw4 := HW4.out.size
    have HDC := hide hdc
    have HPD := hide hpd
    clear hb4 hdc hpd HCC
    unfold cfgV
    have HA5 := hide (Below.alloc (Below.refl w4.heap.size w4) (Nat.le_refl _) (.cells (cfgCs d) 30))
    have HBc5 := hide (HBc.out.below HA5.out HBc.out.lt)
    have HBf5 := hide (HBf.out.below HA5.out HBf.out.lt)
    have HBd5 := hide (Blk.new w4 30 (cfgCs d))
    have HCC5 := hide (show CfgAt w4.heap.size c (w4.alloc (.cells (cfgCs d) 30)) from CfgAt.more (HCC4.out.below (HA5.out.mono (by omega))) (by omega))
    have HDC5 := hide (HDC.out.below HA5.out)
    have HW5 := hide (show Below w.heap.size w (w4.alloc (.cells (cfgCs d) 30)) from HW4.out.alloc HW4.out.size _)
    have hz5 : (w4.alloc (.cells (cfgCs d) 30)).heap.size = w4.heap.size + 1 := by simp
    have hG5 : ∃ W5, W5 = w4.alloc (.cells (cfgCs d) 30) := ⟨_, rfl⟩
    obtain ⟨W5, hW5⟩ := hG5
    rw [← hW5] at HBc5 HBf5 HBd5 HCC5 HDC5 HW5 hz5
    obtain ⟨p0, p1, p2, p3, p4, p5⟩ := cfg6 HBc5.out
    obtain ⟨q0, q1, q2, q3, q4, q5⟩ := cfg6 HBd5.out
    unfold cfgCs at hW5
    go_upto_region 5 with (fail)
    rw [← hW5]
    clear hW5 HBc HBf HCC4 HDC HA5 HW4
    go_wp2_with fail
    refine (HS.out c d W5 (CfgAt.more HCC5.out (by omega)) (CfgAt.more HDC5.out (by omega)) HPC.out HPD.out).mono ?_
    rintro e w6 ⟨rfl, hb6⟩
    obtain ⟨r0, r1, r2⟩ := flt3 (HBf5.out.below hb6 HBf5.out.lt)
    have HB6 := hide (HW5.out.trans (hb6.mono HW5.out.size))
    have HBd6 := hide (HBd5.out.below hb6 HBd5.out.lt)
    have HDC6 := hide (HDC5.out.below (hb6.mono (by omega)))
    have hz6 : w4.heap.size < w6.heap.size := HBd6.out.lt
    clear hb6 p0 p1 p2 p3 p4 p5 q0 q1 q2 q3 q4 q5 HBc5 HBf5 HBd5 HCC5 HDC5 HW5 hz5
    go_wp2_with fail
    refine (HPT.out _ (HV.out.below HB6.out)).mono ?_
    rintro e w8 ⟨c9, rfl, hc9, hp9, hb8⟩
    have HBd8 := hide (HBd6.out.below hb8 HBd6.out.lt)
    have HDC8 := hide (HDC6.out.below (hb8.mono (by omega)))
    have HB8 := hide (HB6.out.trans (hb8.mono HB6.out.size))
    have hz8 : w4.heap.size < w8.heap.size := HBd8.out.lt
    have HP9 := hide hp9
    obtain ⟨q0, _, _, _, _, _⟩ := cfg6 HBd8.out
    have qf := HBd8.out.frozen 0
    clear hb8 hp9 r0 r1 r2 HBd6 HDC6 HB6
    unfold cfgV
    have HBd9 := hide (show Blk (((w8.setCell ⟨w4.heap.size, 0, none⟩ (.int .u64 7)).alloc (.cells (cfgCs c9) 30)).alloc (.cells #[.int .i64 (g1 : Int), .int .i64 (g2 : Int), .int .i64 (g3 : Int)] 33)) w4.heap.size 30 (cfgCs { d with frame := 7 }) from ((HBd8.out.set_ 0 (.int .u64 7)).alloc _).alloc _)
    have HBc9 := hide (show Blk (((w8.setCell ⟨w4.heap.size, 0, none⟩ (.int .u64 7)).alloc (.cells (cfgCs c9) 30)).alloc (.cells #[.int .i64 (g1 : Int), .int .i64 (g2 : Int), .int .i64 (g3 : Int)] 33)) w8.heap.size 30 (cfgCs c9) from (Blk.newAt (by simp [World.setCell])).alloc _)
    have HBg9 := hide (show Blk (((w8.setCell ⟨w4.heap.size, 0, none⟩ (.int .u64 7)).alloc (.cells (cfgCs c9) 30)).alloc (.cells #[.int .i64 (g1 : Int), .int .i64 (g2 : Int), .int .i64 (g3 : Int)] 33)) (w8.heap.size + 1) 33 #[.int .i64 (g1 : Int), .int .i64 (g2 : Int), .int .i64 (g3 : Int)] from Blk.newAt (by simp [World.setCell]))
    have HA9 : Hid (∀ B, B ≤ w4.heap.size → Below B w8 (((w8.setCell ⟨w4.heap.size, 0, none⟩ (.int .u64 7)).alloc (.cells (cfgCs c9) 30)).alloc (.cells #[.int .i64 (g1 : Int), .int .i64 (g2 : Int), .int .i64 (g3 : Int)] 33))) := hide (fun B hB => Below.alloc (Below.alloc (Below.setCell (Below.refl B w8) (p := ⟨w4.heap.size, 0, none⟩) hB _) (by simp [World.setCell]; omega) _) (by simp [World.setCell]; omega) _)
    have HW9 := hide (HB8.out.trans (HA9.out w.heap.size hw4))
    have HDC9 := hide (HDC8.out.below (HA9.out _ (Nat.le_refl _)))
    have HCC9 : Hid (OwnC w6.heap.size c9 (((w8.setCell ⟨w4.heap.size, 0, none⟩ (.int .u64 7)).alloc (.cells (cfgCs c9) 30)).alloc (.cells #[.int .i64 (g1 : Int), .int .i64 (g2 : Int), .int .i64 (g3 : Int)] 33))) := hide (((hc9.setLow (p := ⟨w4.heap.size, 0, none⟩) hz6 _).alloc _).alloc _)
    obtain ⟨W9, hW9⟩ : ∃ W9, W9 = (((w8.setCell ⟨w4.heap.size, 0, none⟩ (.int .u64 7)).alloc (.cells (cfgCs c9) 30)).alloc (.cells #[.int .i64 (g1 : Int), .int .i64 (g2 : Int), .int .i64 (g3 : Int)] 33)) := ⟨_, rfl⟩
    rw [← hW9] at HBd9 HBc9 HBg9 HW9 HDC9 HCC9
    unfold cfgCs at hW9
    clear hc9 hz6
    go_upto_region 9 with (fail)
    rw [← hW9]
    clear hW9 HA9 HBd8 HDC8 HB8 q0 qf
    go_wp2_with fail
    refine (HAL.out _ (HV.out.below HW9.out)).mono ?_
    rintro e w10 ⟨rfl, hb10⟩
    have HBd10 := HBd9.out.below hb10 HBd9.out.lt
    have HBc10 := HBc9.out.below hb10 HBc9.out.lt
    have HBg10 := HBg9.out.below hb10 HBg9.out.lt
    have HW10 := hide (HW9.out.trans (hb10.mono HW9.out.size))
    have HCC10 := hide (HCC9.out.below hb10).at_
    have HDC10 := hide (show CfgAt w10.heap.size { d with frame := 7 } w10 from CfgAt.more ((HDC9.out.below (hb10.mono (by have := HBd9.out.lt; omega))).frame_ 7) (by have := HBd10.lt; omega))
    clear hb10 HBd9 HBc9 HBg9 HW9 HCC9 HDC9
    by_cases hf : f1 = 0
    · obtain ⟨hg, hQ⟩ := HZ.out hf
      simp only [Prod.mk.injEq] at hg
      obtain ⟨rfl, rfl, rfl⟩ := hg
      subst hf
      have HQ9 := hide hQ
      obtain ⟨p0, p1, p2, p3, p4, p5⟩ := cfg6 HBc10
      obtain ⟨q0, q1, q2, q3, q4, q5⟩ := cfg6 HBd10
      obtain ⟨r0, r1, r2⟩ := flt3 HBg10
      clear HZ fe HBd10 HBc10 HBg10 hQ
      go_wp2_with fail
      refine (HS7.out c9 { d with frame := 7 } w10 HCC10.out HDC10.out (HP9.out.trans HQ9.out) (by show setF 7 (pcOf d) = _; rw [HPD.out])).mono ?_
      rintro e w11 ⟨rfl, hb11⟩
      go_wp2
      go_ret
      exact ⟨rfl, HW10.out.trans (hb11.mono HW10.out.size)⟩
    · have d0 : ((f1 : Int) != 0) = true := by rw [bne_iff_ne]; omega
      clear hf HZ
      go_wp2
      go_ret
      exact ⟨rfl, HW10.out⟩
  · have hxI : (4000 : Int) < (x.size : Int) := by omega
    clear hv
    go_enter Tryz.func6, Tryz.ntmps6
    go_wp2_with fail
    refine (HAL.out _ HV.out).mono ?_
    rintro e w2 ⟨rfl, hb2⟩
    go_wp2
    go_ret
    exact ⟨rfl, hb2⟩
end Go.Proofs.YtdpieljopelkhaaGreatDoor
