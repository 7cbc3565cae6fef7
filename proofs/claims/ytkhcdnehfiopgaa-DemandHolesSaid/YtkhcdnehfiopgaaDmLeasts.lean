/- The walk of the laws DemandLeasts and DemandSlacks (chapter 16). -/
import Derived.Test.YtkhcdnehfiopgaaDmLawE
namespace Go.Proofs.Ytkhcdnehfiopgaa
open Go.RowKit Go.Sort
set_option linter.unusedVariables false

theorem least_short2 {P cnt d : Nat} {f : Nat → Nat} (hc : 0 < cnt) (hf : ∀ k, k < cnt → f k ≤ P) : (shortN d cnt f).isSome = decide (leastN P cnt f < d) := by
  by_cases hd : d ≤ P
  · exact least_short hd
  · have h1 := leastN_le P cnt f
    have h2 : decide (leastN P cnt f < d) = true := by simp; omega
    rw [h2]
    unfold shortN
    rw [List.find?_isSome]
    exact ⟨0, List.mem_range.2 hc, by have := hf 0 hc; simp; omega⟩
theorem short_least {c : Cfg} (hr : rightB c = true) (hf : c.frame < 18446744073709551616) {x : PartR} (hx : x.Ok) (hd : divB x.per c.frame = true) : (shortR c x).isSome = decide (leastR c x < x.dur) := by
  obtain ⟨l, hl⟩ := ofl_ex c x.id
  have hsp := dm_spec hr hf hx hd hl
  have hu : ∀ k, inN x.per l k = inR c x k := fun k => (used_in hr hf hx.2.2.1 hl.perm hsp.sch).symm
  unfold shortR leastR
  refine least_short2 ?_ (fun k _ => by rw [← hu k]; exact in_le_P hsp.sch)
  have h1 := hsp.frame
  have h2 := hsp.sch.pos
  rcases Nat.eq_zero_or_pos (c.frame / x.per) with h0 | h0
  · rw [h0, Nat.zero_mul] at h1; omega
  · exact h0
set_option maxRecDepth 100000 in
set_option maxHeartbeats 8000000 in
theorem DemandLeasts_calls (c : Cfg) (w : World) (h : CfgAt w.heap.size c w) (hok : c.Ok) (hsm : c.Small) :
    Calls Try.prog 4 #[cfgV c] w fun e w' => e = .returned (.bool true) ∧ Below w.heap.size w w' := by
  have hB0 := Boxed1.start w c
  have HFI := hide (fun W (hW : Boxed1 w c W) => Fits_calls c W (hW.cfg h) hok hsm)
  have HAL := hide (fun W => alive_dm W)
  have HBC := hide (fun W (hW : Boxed1 w c W) => hW.cells)
  cases hf : fitsB c with
  | false =>
    rw [hf] at HFI
    unfold cfgV at HFI ⊢
    unfold cfgC at hB0
    have HB0 := hide hB0
    clear h hok hsm hB0 hf
    obtain ⟨b0, b1, b2, b3, b4, b5⟩ := HBC.out _ HB0.out
    go_enter Try.func4, Try.ntmps4
    go_wp2_with (first
      | (go_at_call 9; refine (HFI.out _ HB0.out).mono ?_; rintro e w1 ⟨rfl, hb⟩; have HB1 := hide (HB0.out.below hb); clear hb b0 b1 b2 b3 b4 b5)
      | (go_at_call 10; refine (HAL.out _).mono ?_; rintro e w2 ⟨rfl, hb⟩; have HB2 := hide (HB1.out.below hb); clear hb))
    go_ret
    exact ⟨rfl, HB2.out.1⟩
  | true =>
    obtain ⟨hr, h16⟩ := fitsB_right hf
    rw [hf] at HFI
    have hcap := h.parts.2
    have HCF := hide (fun W (hW : Boxed1 w c W) => hW.cfg h)
    have HDV := hide (fun i (hi : i < c.parts.l.length) W (hW : Boxed1 w c W) => LDivides_calls c i W (hW.cfg h) hi)
    have HDS := hide (fun i (hi : i < c.parts.l.length) (hd : divB c.parts.l[i].per c.frame = true) W (hW : Boxed1 w c W) => DShort_calls c i W (hW.cfg h) hok hsm hr hi hd)
    have HRS := hide (fun i (hi : i < c.parts.l.length) (hd : divB c.parts.l[i].per c.frame = true) W (hW : Boxed1 w c W) => RShort_calls c i W (hW.cfg h) hok hsm hi hd)
    have HDL := hide (fun i (hi : i < c.parts.l.length) (hd : divB c.parts.l[i].per c.frame = true) W (hW : Boxed1 w c W) => DLeast_calls c i W (hW.cfg h) hok hsm hr hi hd)
    have HRL := hide (fun i (hi : i < c.parts.l.length) (hd : divB c.parts.l[i].per c.frame = true) W (hW : Boxed1 w c W) => RLeast_calls c i W (hW.cfg h) hok hsm hi hd)
    have HSL := hide (fun i (hi : i < c.parts.l.length) (hd : divB c.parts.l[i].per c.frame = true) => short_least hr hok.frame (hok.parts _ (List.getElem_mem hi)) hd)
    obtain ⟨n, hn⟩ : ∃ n, n = c.parts.l.length := ⟨_, rfl⟩
    obtain ⟨pa, hpa⟩ : ∃ a, a = c.parts.a := ⟨_, rfl⟩
    have hnI : (n : Int) ≤ 1048576 := by unfold Cfg.Small at hsm; omega
    have hcI : (n : Int) ≤ (c.parts.c : Int) := by omega
    have HN := hide hn
    have HPA := hide hpa
    obtain ⟨cv, hcv⟩ : ∃ v, v = cfgV c := ⟨_, rfl⟩
    have hcv2 : cv = .agg #[.int .u64 (c.frame : Int), .slice pa n c.parts.c, .slice c.wins.a c.wins.l.length c.wins.c, .slice c.regs.a c.regs.l.length c.regs.c, .slice c.ports.a c.ports.l.length c.ports.c, .slice c.chans.a c.chans.l.length c.chans.c] := by rw [hcv, hn, hpa]; rfl
    rw [← hcv] at HFI HDV HDS HRS HDL HRL ⊢
    unfold cfgC at hB0
    rw [← hn, ← hpa] at HBC hB0
    have HB0 := hide hB0
    have HCV := hide hcv2
    clear h hok hsm hB0 hf hr h16 hcap hn hpa hcv
    rw [hcv2] at HFI ⊢
    clear hcv2
    obtain ⟨b0, b1, b2, b3, b4, b5⟩ := HBC.out _ HB0.out
    go_enter Try.func4, Try.ntmps4
    go_wp2_with (go_at_call 9; refine (HFI.out _ HB0.out).mono ?_; rintro e w1 ⟨rfl, hb⟩; have HB1 := hide (HB0.out.below hb); clear hb b0 b1 b2 b3 b4 b5; obtain ⟨b0, b1, b2, b3, b4, b5⟩ := HBC.out w1 HB1.out)
    clear b0 b1 b2 b3 b4 b5
    go_loopw [17] (fun v wr => ∃ k : Nat, k ≤ n ∧ v = .int .i64 (k : Int) ∧ Hid (Boxed1 w c wr)) (fun v _ => n - (intOf v).toNat)
    case atStart => exact ⟨0, Nat.zero_le _, rfl, HB1⟩
    case round =>
      obtain ⟨k, hk, rfl, hrel⟩ := hrel
      obtain ⟨b0, b1, b2, b3, b4, b5⟩ := HBC.out wr hrel.out
      by_cases hlt : k < n
      · have hlt2 : (k : Int) < (n : Int) := by omega
        have hkl : k < c.parts.l.length := by have := HN.out; omega
        obtain ⟨b, o, ha, hab, x0, x1, x2, x3⟩ := part_at (HCF.out wr hrel.out).parts k hkl
        obtain rfl : pa = some ⟨b, o, none⟩ := HPA.out.trans ha
        have hbz : b < wr.heap.size := cell_lt x0
        have HHA := hide ha
        have hz0 : w.heap.size < wr.heap.size := hrel.out.2.lt
        have HDVX := hide (HDV.out k hkl)
        have HDSX := hide (HDS.out k hkl)
        have HRSX := hide (HRS.out k hkl)
        have HDLX := hide (HDL.out k hkl)
        have HRLX := hide (HRL.out k hkl)
        have HSLX := hide (HSL.out k hkl)
        obtain ⟨x, hx⟩ : ∃ x, x = c.parts.l[k] := ⟨_, rfl⟩
        rw [← hx] at x0 x1 x2 x3 HDVX HDSX HRSX HDLX HRLX HSLX
        have HX1 : Hid (Boxed1 w c (wr.alloc (.cells (partC x) 40))) := hide (hrel.out.alloc _)
        have HQ1 := hide (Blk.new wr 40 (partC x))
        obtain ⟨dv, hdv⟩ : ∃ d, d = divB x.per c.frame := ⟨_, rfl⟩
        rw [← hdv] at HDVX HDSX HRSX HDLX HRLX HSLX
        obtain ⟨sv, hsv⟩ : ∃ s, s = shortR c x := ⟨_, rfl⟩
        obtain ⟨lv, hlv⟩ : ∃ s, s = leastR c x := ⟨_, rfl⟩
        rw [← hsv] at HDSX HRSX HSLX
        rw [← hlv] at HDLX HRLX HSLX
        rw [HCV.out] at HDVX HDSX HRSX HDLX HRLX
        obtain ⟨id, nm, per, dur⟩ := x
        unfold partC at HX1 HQ1
        simp only at HX1 HQ1 HSLX x0 x1 x2 x3
        clear ha hab hrel hx hdv hsv hlv
        cases dv with
        | false =>
          go_wp2_with (go_at_call 13; refine (HDVX.out _ HX1.out).mono ?_; rintro e w2 ⟨rfl, hb⟩; have HX2 := hide (HX1.out.below hb); clear hb b0 b1 b2 b3 b4 b5 x0 x1 x2 x3)
          go_roundw
          case rel => exact ⟨k + 1, by omega, by go_num, HX2⟩
          case measure => simp [intOf]; omega
        | true =>
          have HDS2 := hide (HDSX.out rfl)
          have HRS2 := hide (HRSX.out rfl)
          have HDL2 := hide (HDLX.out rfl)
          have HRL2 := hide (HRLX.out rfl)
          have hsl := HSLX.out rfl
          unfold shortV at HDS2 HRS2
          generalize sv.isSome = q at *
          generalize sv.getD 0 = s1 at *
          clear HDSX HRSX HDLX HRLX HSLX
          have n1 : ((lv : Int) != (lv : Int)) = false := by simp
          have n2 : ((s1 : Int) != (s1 : Int)) = false := by simp
          have n3 : (q != q) = false := by simp
          have e0 : decide ((lv : Int) < (dur : Int)) = q := by rw [hsl]; simp
          have e1 : decide (lv < dur) = q := hsl.symm
          clear hsl
          cases q
          all_goals
            go_wp2_with (first
              | (go_at_call 13; refine (HDVX.out _ HX1.out).mono ?_; rintro e w2 ⟨rfl, hb⟩; have HX2 := hide (HX1.out.below hb); have HQ2 := hide (HQ1.out.below hb HQ1.out.lt); clear hb b0 b1 b2 b3 b4 b5 x0 x1 x2 x3; obtain ⟨b0, b1, b2, b3, b4, b5⟩ := HBC.out w2 HX2.out)
              | (go_at_call 14; refine (HDS2.out w2 HX2.out).mono ?_; rintro e w3 ⟨rfl, hb⟩; have HX3 := hide (HX2.out.below hb); have HQ3 := hide (HQ2.out.below hb HQ2.out.lt); clear hb b0 b1 b2 b3 b4 b5; obtain ⟨b0, b1, b2, b3, b4, b5⟩ := HBC.out w3 HX3.out)
              | (go_at_call 15; refine (HRS2.out w3 HX3.out).mono ?_; rintro e w4 ⟨rfl, hb⟩; have HX4 := hide (HX3.out.below hb); have HQ4 := hide (HQ3.out.below hb HQ3.out.lt); clear hb b0 b1 b2 b3 b4 b5; obtain ⟨b0, b1, b2, b3, b4, b5⟩ := HBC.out w4 HX4.out)
              | (go_at_call 16; refine (HDL2.out w4 HX4.out).mono ?_; rintro e w5 ⟨rfl, hb⟩; have HX5 := hide (HX4.out.below hb); have HQ5 := hide (HQ4.out.below hb HQ4.out.lt); clear hb b0 b1 b2 b3 b4 b5; obtain ⟨b0, b1, b2, b3, b4, b5⟩ := HBC.out w5 HX5.out)
              | (go_at_call 17; refine (HRL2.out w5 HX5.out).mono ?_; rintro e w6 ⟨rfl, hb⟩; have HX6 := hide (HX5.out.below hb); have HQ6 := hide (HQ5.out.below hb HQ5.out.lt); clear hb b0 b1 b2 b3 b4 b5; have q3 : w6.cell? ⟨wr.heap.size, 3, none⟩ = some (.int .u64 (dur : Int)) := HQ6.out.cell 3))
            go_roundw
            case rel => exact ⟨k + 1, by omega, by go_num, HX6⟩
            case measure => simp [intOf]; omega
      · have hkn : k = n := by omega
        subst hkn
        clear hlt hk b0 b1 b2 b3 b4 b5
        go_wp2_with (go_at_call 10; refine (HAL.out _).mono ?_; rintro e w2 ⟨rfl, hb⟩; have HB2 := hide (hrel.out.below hb); clear hb)
        go_ret
        exact ⟨rfl, HB2.out.1⟩
end Go.Proofs.Ytkhcdnehfiopgaa
