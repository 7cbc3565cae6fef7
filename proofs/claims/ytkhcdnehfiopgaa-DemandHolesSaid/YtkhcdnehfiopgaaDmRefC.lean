/- The reference's Check and Load (chapter 16). -/
import Derived.Test.YtkhcdnehfiopgaaDmRefS
namespace Go.Proofs.Ytkhcdnehfiopgaa
open Go.RowKit Go.Sort
set_option linter.unusedVariables false

def tup3 (r : Nat × Nat × Nat) : Value := .tuple #[.int .i64 (r.1 : Int), .int .i64 (r.2.1 : Int), .int .i64 (r.2.2 : Int)]
set_option maxRecDepth 100000 in
set_option maxHeartbeats 8000000 in
theorem RDCheck_calls (c : Cfg) (w : World) (h : CfgAt w.heap.size c w) (hok : c.Ok) (hsm : c.Small) :
    Calls Try.prog 11 #[cfgV c] w fun e w' => e = .returned (tup3 (dmCheck c)) ∧ Below w.heap.size w w' := by
  have hB0 := Boxed1.start w c
  have hcap := h.parts.2
  have HCF := hide (fun W (hW : Boxed1 w c W) => hW.cfg h)
  have HFI := hide (fun x W => RFits_calls c x W)
  have HSH := hide (fun i (hi : i < c.parts.l.length) (hd : divB c.parts.l[i].per c.frame = true) W (hW : Boxed1 w c W) => RShort_calls c i W (hW.cfg h) hok hsm hi hd)
  obtain ⟨R, hR⟩ : ∃ R, R = dmCheck c := ⟨_, rfl⟩
  rw [← hR]
  have HR := hide hR
  obtain ⟨n, hn⟩ : ∃ n, n = c.parts.l.length := ⟨_, rfl⟩
  obtain ⟨pa, hpa⟩ : ∃ a, a = c.parts.a := ⟨_, rfl⟩
  have hnI : (n : Int) ≤ 1048576 := by unfold Cfg.Small at hsm; omega
  have hcI : (n : Int) ≤ (c.parts.c : Int) := by omega
  have HN := hide hn
  have HPA := hide hpa
  have HBC := hide (fun W (hW : Boxed1 w c W) => hW.cells)
  unfold cfgV at HFI HSH ⊢
  unfold cfgC at hB0
  rw [← hn, ← hpa] at HBC hB0 HFI ⊢
  have HSH2 : Hid (∀ i (hi : i < c.parts.l.length) (hd : divB c.parts.l[i].per c.frame = true) W (hW : Boxed1 w c W), Calls Try.prog 15 #[.agg #[.int .u64 (c.frame : Int), .slice pa n c.parts.c, .slice c.wins.a c.wins.l.length c.wins.c, .slice c.regs.a c.regs.l.length c.regs.c, .slice c.ports.a c.ports.l.length c.ports.c, .slice c.chans.a c.chans.l.length c.chans.c], .int .i64 (i : Int)] W fun e w' => e = .returned (shortV (shortR c c.parts.l[i])) ∧ Below W.heap.size W w') := hide (fun i hi hd W hW => by have := HSH.out i hi hd W hW; rw [hn, hpa]; exact this)
  have HB0 := hide hB0
  clear h hok hsm hcap hR hn hB0 hpa HSH
  go_enter Try.func11, Try.ntmps11
  go_wp2
  generalize w.alloc (.cells #[.int .u64 (c.frame : Int), .slice pa n c.parts.c, .slice c.wins.a c.wins.l.length c.wins.c, .slice c.regs.a c.regs.l.length c.regs.c, .slice c.ports.a c.ports.l.length c.ports.c, .slice c.chans.a c.chans.l.length c.chans.c] 29) = W0 at *
  go_loopw [5] (fun v wr => ∃ k : Nat, k ≤ n ∧ v = .int .i64 (k : Int) ∧ Hid (Boxed1 w c wr ∧ ∀ y ∈ c.parts.l.take k, dmCode c y = 0)) (fun v _ => n - (intOf v).toNat)
  case atStart => exact ⟨0, Nat.zero_le _, rfl, hide ⟨HB0.out, by simp⟩⟩
  case round =>
    obtain ⟨k, hk, rfl, hrel⟩ := hrel
    obtain ⟨b0, b1, b2, b3, b4, b5⟩ := HBC.out wr hrel.out.1
    by_cases hlt : k < n
    · have hlt2 : (k : Int) < (n : Int) := by omega
      have hkl : k < c.parts.l.length := by have := HN.out; omega
      obtain ⟨b, o, ha, hab, x0, x1, x2, x3⟩ := part_at (HCF.out wr hrel.out.1).parts k hkl
      obtain rfl : pa = some ⟨b, o, none⟩ := HPA.out.trans ha
      have HBAD := hide (fun h => (HR.out.trans (dmCheck_bad hkl hrel.out.2 h)))
      have HTK := hide (fun h => takeP hkl hrel.out.2 h)
      have hbz : b < wr.heap.size := cell_lt x0
      have HHA := hide ha
      have hz0 : w.heap.size < wr.heap.size := hrel.out.1.2.lt
      have HSHX := hide (HSH2.out k hkl)
      obtain ⟨x, hx⟩ : ∃ x, x = c.parts.l[k] := ⟨_, rfl⟩
      rw [← hx] at x0 x1 x2 x3 HBAD HTK HSHX
      have HDC : Hid (dmCode c x = if wpB c.frame x then 22 else if (shortR c x).isSome then 23 else 0) := hide rfl
      obtain ⟨dc, hdc⟩ : ∃ d, d = dmCode c x := ⟨_, rfl⟩
      rw [← hdc] at HBAD HTK HDC
      have HFIX := hide (fun W => HFI.out x W)
      have HX1 : Hid (Boxed1 w c (wr.alloc (.cells (partC x) 40))) := hide (hrel.out.1.alloc _)
      have HQ1 := hide (Blk.new wr 40 (partC x))
      have HWP : Hid (wpB c.frame x = (!divB x.per c.frame || decide (x.per < x.dur))) := hide rfl
      obtain ⟨dv, hdv⟩ : ∃ d, d = divB x.per c.frame := ⟨_, rfl⟩
      rw [← hdv] at HFIX HWP HSHX
      obtain ⟨id, nm, per, dur⟩ := x
      unfold partC at HFIX HX1 HQ1
      simp only at HFIX HX1 HQ1 HWP x0 x1 x2 x3
      obtain ⟨sv, hsv⟩ : ∃ s, s = shortR c ⟨id, nm, per, dur⟩ := ⟨_, rfl⟩
      rw [← hsv] at HSHX HDC
      clear ha hab hrel hx hdc hdv hsv hk
      cases dv with
      | false =>
        have HE : Hid (R = (22, 1, k)) := hide (by have h22 : dc = 22 := (by rw [HDC.out, HWP.out]; rfl); rw [HBAD.out (by omega), h22])
        go_wp2_with (go_at_call 28; refine (HFIX.out _).mono ?_; rintro e w2 ⟨rfl, hb⟩; have HX2 := hide (HX1.out.below hb); clear hb b0 b1 b2 b3 b4 b5 x0 x1 x2 x3)
        go_ret3
        exact ⟨by rw [HE.out]; rfl, HX2.out.1⟩
      | true =>
        by_cases hpd : per < dur
        · have e0 : decide ((per : Int) < (dur : Int)) = true := by simpa using hpd
          have e1 : decide (per < dur) = true := by simpa using hpd
          have HE : Hid (R = (22, 1, k)) := hide (by have h22 : dc = 22 := (by rw [HDC.out, HWP.out, e1]; rfl); rw [HBAD.out (by omega), h22])
          clear hpd
          go_wp2_with (go_at_call 28; refine (HFIX.out _).mono ?_; rintro e w2 ⟨rfl, hb⟩; have HX2 := hide (HX1.out.below hb); have HQ2 := hide (HQ1.out.below hb HQ1.out.lt); clear hb b0 b1 b2 b3 b4 b5 x0 x1 x2 x3; have q2 : w2.cell? ⟨wr.heap.size, 2, none⟩ = some (.int .u64 (per : Int)) := HQ2.out.cell 2; have q3 : w2.cell? ⟨wr.heap.size, 3, none⟩ = some (.int .u64 (dur : Int)) := HQ2.out.cell 3)
          go_ret3
          exact ⟨by rw [HE.out]; rfl, HX2.out.1⟩
        · have e0 : decide ((per : Int) < (dur : Int)) = false := by simpa using hpd
          have e1 : decide (per < dur) = false := by simpa using hpd
          have HDC2 : Hid (dc = if sv.isSome then 23 else 0) := hide (by rw [HDC.out, HWP.out, e1]; rfl)
          have HSH3 := hide (HSHX.out rfl)
          unfold shortV at HSH3
          generalize sv.getD 0 = s1 at *
          clear hpd HSHX
          cases hss : sv.isSome with
          | true =>
            rw [hss] at HSH3
            have HE : Hid (R = (23, 1, k)) := hide (by have h23 : dc = 23 := (by rw [HDC2.out, hss]; rfl); rw [HBAD.out (by omega), h23])
            clear hss
            go_wp2_with (first
              | (go_at_call 28; refine (HFIX.out _).mono ?_; rintro e w2 ⟨rfl, hb⟩; have HX2 := hide (HX1.out.below hb); have HQ2 := hide (HQ1.out.below hb HQ1.out.lt); clear hb b0 b1 b2 b3 b4 b5 x0 x1 x2 x3; have q2 : w2.cell? ⟨wr.heap.size, 2, none⟩ = some (.int .u64 (per : Int)) := HQ2.out.cell 2; have q3 : w2.cell? ⟨wr.heap.size, 3, none⟩ = some (.int .u64 (dur : Int)) := HQ2.out.cell 3; obtain ⟨b0, b1, b2, b3, b4, b5⟩ := HBC.out w2 HX2.out)
              | (go_at_call 15; refine (HSH3.out w2 HX2.out).mono ?_; rintro e w3 ⟨rfl, hb⟩; have HX3 := hide (HX2.out.below hb); clear hb b0 b1 b2 b3 b4 b5 q2 q3))
            go_ret3
            exact ⟨by rw [HE.out]; rfl, HX3.out.1⟩
          | false =>
            rw [hss] at HSH3
            have HQ := hide (HTK.out (by rw [HDC2.out, hss]; rfl))
            clear hss
            go_wp2_with (first
              | (go_at_call 28; refine (HFIX.out _).mono ?_; rintro e w2 ⟨rfl, hb⟩; have HX2 := hide (HX1.out.below hb); have HQ2 := hide (HQ1.out.below hb HQ1.out.lt); clear hb b0 b1 b2 b3 b4 b5 x0 x1 x2 x3; have q2 : w2.cell? ⟨wr.heap.size, 2, none⟩ = some (.int .u64 (per : Int)) := HQ2.out.cell 2; have q3 : w2.cell? ⟨wr.heap.size, 3, none⟩ = some (.int .u64 (dur : Int)) := HQ2.out.cell 3; obtain ⟨b0, b1, b2, b3, b4, b5⟩ := HBC.out w2 HX2.out)
              | (go_at_call 15; refine (HSH3.out w2 HX2.out).mono ?_; rintro e w3 ⟨rfl, hb⟩; have HX3 := hide (HX2.out.below hb); clear hb b0 b1 b2 b3 b4 b5 q2 q3))
            go_roundw
            case rel => exact ⟨k + 1, by omega, by go_num, hide ⟨HX3.out, HQ.out⟩⟩
            case measure => simp [intOf]; omega
    · have hkn : k = n := by omega
      subst hkn
      have HE : Hid (R = (0, 0, 0)) := hide (by
        rw [HR.out]
        refine dmCheck_ok ?_
        have := hrel.out.2
        rwa [List.take_of_length_le (by rw [HN.out]; exact Nat.le_refl _)] at this)
      have HX7 := hide hrel.out.1
      clear hlt hk hrel
      go_wp2
      go_ret3
      exact ⟨by rw [HE.out]; rfl, HX7.out.1⟩
end Go.Proofs.Ytkhcdnehfiopgaa
