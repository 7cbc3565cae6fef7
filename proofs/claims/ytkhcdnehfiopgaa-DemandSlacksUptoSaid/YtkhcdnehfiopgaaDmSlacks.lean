/- The walk of the law DemandSlacks (chapter 16). -/
import Derived.Test.YtkhcdnehfiopgaaDmLeasts
namespace Go.Proofs.Ytkhcdnehfiopgaa
open Go.RowKit Go.Sort
set_option linter.unusedVariables false

set_option maxRecDepth 100000 in
set_option maxHeartbeats 8000000 in
theorem DemandSlacks_calls (c : Cfg) (w : World) (h : CfgAt w.heap.size c w) (hok : c.Ok) (hsm : c.Small) :
    Calls Try.prog 7 #[cfgV c] w fun e w' => e = .returned (.bool true) ∧ Below w.heap.size w w' := by
  have hB0 := Boxed1.start w c
  have HFI := hide (fun W (hW : Boxed1 w c W) => Fits_calls c W (hW.cfg h) hok hsm)
  have HAL := hide (fun W => alive_dm W)
  have HBC := hide (fun W (hW : Boxed1 w c W) => hW.cells)
  cases hf : fitsB c with
  | false =>
    rw [hf] at HFI
    unfold cfgV at HFI ⊢
    unfold cfgC at hB0
    have HB0 := hide hB0
    clear h hok hsm hB0 hf
    obtain ⟨b0, b1, b2, b3, b4, b5⟩ := HBC.out _ HB0.out
    go_enter Try.func7, Try.ntmps7
    go_wp2_with (first
      | (go_at_call 9; refine (HFI.out _ HB0.out).mono ?_; rintro e w1 ⟨rfl, hb⟩; have HB1 := hide (HB0.out.below hb); clear hb b0 b1 b2 b3 b4 b5)
      | (go_at_call 10; refine (HAL.out _).mono ?_; rintro e w2 ⟨rfl, hb⟩; have HB2 := hide (HB1.out.below hb); clear hb))
    go_ret
    exact ⟨rfl, HB2.out.1⟩
  | true =>
    obtain ⟨hr, h16⟩ := fitsB_right hf
    rw [hf] at HFI
    have hcap := h.parts.2
    have HCF := hide (fun W (hW : Boxed1 w c W) => hW.cfg h)
    have HRC := hide (fun W (hW : Boxed1 w c W) => RDCheck_calls c W (hW.cfg h) hok hsm)
    have HSK := hide (fun i (hi : i < c.parts.l.length) W (hW : Boxed1 w c W) => DSlack_calls c i W (hW.cfg h) hok hsm hi)
    have HFB := hide (fun p W (hW : Boxed1 w c W) => Busy_calls c p W (hW.cfg h) hsm)
    have HRB := hide (fun p W (hW : Boxed1 w c W) => RBusy_calls c p W (hW.cfg h) hok hsm)
    obtain ⟨⟨ce, cs, ci⟩, hce⟩ : ∃ r, r = dmCheck c := ⟨_, rfl⟩
    have HGD := hide (fun (h0 : ce = 0) i (hi : i < c.parts.l.length) => (have hx := dm_all (by rw [← hce]; exact h0) _ (List.getElem_mem hi); And.intro (dm_good hr hok.frame (hok.parts _ (List.getElem_mem hi)) hx) (slack_sum hr hok.frame (hok.parts _ (List.getElem_mem hi)) hx)))
    have HFR := hide hok.frame
    rw [← hce] at HRC
    unfold tup3 at HRC
    simp only at HRC
    obtain ⟨n, hn⟩ : ∃ n, n = c.parts.l.length := ⟨_, rfl⟩
    obtain ⟨pa, hpa⟩ : ∃ a, a = c.parts.a := ⟨_, rfl⟩
    have hnI : (n : Int) ≤ 1048576 := by unfold Cfg.Small at hsm; omega
    have hcI : (n : Int) ≤ (c.parts.c : Int) := by omega
    have HN := hide hn
    have HPA := hide hpa
    obtain ⟨cv, hcv⟩ : ∃ v, v = cfgV c := ⟨_, rfl⟩
    have hcv2 : cv = .agg #[.int .u64 (c.frame : Int), .slice pa n c.parts.c, .slice c.wins.a c.wins.l.length c.wins.c, .slice c.regs.a c.regs.l.length c.regs.c, .slice c.ports.a c.ports.l.length c.ports.c, .slice c.chans.a c.chans.l.length c.chans.c] := by rw [hcv, hn, hpa]; rfl
    rw [← hcv] at HFI HRC HSK HFB HRB ⊢
    unfold cfgC at hB0
    rw [← hn, ← hpa] at HBC hB0
    have HB0 := hide hB0
    have HCV := hide hcv2
    clear h hok hsm hB0 hf hr h16 hcap hn hpa hcv hce
    rw [hcv2] at HFI HRC ⊢
    clear hcv2
    obtain ⟨b0, b1, b2, b3, b4, b5⟩ := HBC.out _ HB0.out
    by_cases h0 : ce = 0
    · have z0 : ((ce : Int) != 0) = false := by rw [h0]; rfl
      have HGE := hide (HGD.out h0)
      clear h0 HGD
      go_enter Try.func7, Try.ntmps7
      go_wp2_with (first
        | (go_at_call 9; refine (HFI.out _ HB0.out).mono ?_; rintro e w1 ⟨rfl, hb⟩; have HB1 := hide (HB0.out.below hb); clear hb b0 b1 b2 b3 b4 b5; obtain ⟨b0, b1, b2, b3, b4, b5⟩ := HBC.out w1 HB1.out)
        | (go_at_call 11; refine (HRC.out _ HB1.out).mono ?_; rintro e w2 ⟨rfl, hb⟩; have HB2 := hide (HB1.out.below hb); clear hb b0 b1 b2 b3 b4 b5; obtain ⟨b0, b1, b2, b3, b4, b5⟩ := HBC.out w2 HB2.out))
      clear b0 b1 b2 b3 b4 b5
      go_loopw [24] (fun v wr => ∃ k : Nat, k ≤ n ∧ v = .int .i64 (k : Int) ∧ Hid (Boxed1 w c wr)) (fun v _ => n - (intOf v).toNat)
      case atStart => exact ⟨0, Nat.zero_le _, rfl, HB2⟩
      case round =>
        obtain ⟨k, hk, rfl, hrel⟩ := hrel
        obtain ⟨b0, b1, b2, b3, b4, b5⟩ := HBC.out wr hrel.out
        by_cases hlt : k < n
        · have hlt2 : (k : Int) < (n : Int) := by omega
          have hkl : k < c.parts.l.length := by have := HN.out; omega
          obtain ⟨b, o, ha, hab, x0, x1, x2, x3⟩ := part_at (HCF.out wr hrel.out).parts k hkl
          obtain rfl : pa = some ⟨b, o, none⟩ := HPA.out.trans ha
          have hbz : b < wr.heap.size := cell_lt x0
          have HHA := hide ha
          have hz0 : w.heap.size < wr.heap.size := hrel.out.2.lt
          have HSKX := hide (HSK.out k hkl)
          obtain ⟨hg, hs1, hs2, hs3⟩ := HGE.out k hkl
          obtain ⟨x, hx⟩ : ∃ x, x = c.parts.l[k] := ⟨_, rfl⟩
          rw [← hx] at x0 x1 x2 x3 HSKX hg hs1 hs2 hs3
          have HFBX := hide (fun W hW => HFB.out x.id W hW)
          have HRBX := hide (fun W hW => HRB.out x.id W hW)
          obtain ⟨bv, hbv⟩ : ∃ v, v = busyL (wo c.wins.l x.id) := ⟨_, rfl⟩
          obtain ⟨sl, hsl⟩ : ∃ v, v = subW (busyL (wo c.wins.l x.id)) ((totO c.frame x).getD 0) := ⟨_, rfl⟩
          obtain ⟨tv, htv⟩ : ∃ v, v = totR c.frame x := ⟨_, rfl⟩
          rw [← hsl] at HSKX hs1
          rw [hs2] at HRBX
          rw [← hbv] at HFBX HRBX hs1 hs3
          rw [← htv] at hs1
          rw [HCV.out] at HSKX HFBX HRBX
          have hgl := hg.lt
          rw [← htv] at hgl
          have hp := (div_spec hg.div).1
          have hfr := HFR.out
          have hle := Nat.div_le_self c.frame x.per
          obtain ⟨q, hq⟩ : ∃ q, q = c.frame / x.per := ⟨_, rfl⟩
          rw [← hq] at hle
          have hwq : IntKind.u64.wrap ((c.frame : Int).tdiv (x.per : Int)) = (q : Int) := by rw [← Int.ofNat_tdiv, ← hq]; exact wrapN q (by omega)
          have hwq2 : IntKind.u64.wrap ((c.frame : Int) / (x.per : Int)) = (q : Int) := by
            have : (c.frame : Int) / (x.per : Int) = (q : Int) := by rw [hq]; exact (Int.natCast_ediv _ _).symm
            rw [this]; exact wrapN q (by omega)
          have hpz : ((x.per : Int) == 0) = false := by rw [beq_eq_false_iff_ne]; omega
          have hpp : (0 : Int) < (x.per : Int) := by omega
          have hpn : ¬ x.per = 0 := by omega
          have hmul : IntKind.u64.wrap ((x.dur : Int) * (q : Int)) = (tv : Int) := by
            have e : x.dur * q = tv := by rw [htv, hq]; rfl
            rw [← Int.natCast_mul, e]; exact wrapN tv hgl
          have hadd : IntKind.u64.wrap ((sl : Int) + (tv : Int)) = (bv : Int) := by rw [wrap_add, hs1, Nat.mod_eq_of_lt hs3]
          have n1 : ((bv : Int) != (bv : Int)) = false := by simp
          have HX1 : Hid (Boxed1 w c (wr.alloc (.cells (partC x) 40))) := hide (hrel.out.alloc _)
          have HQ1 := hide (Blk.new wr 40 (partC x))
          obtain ⟨id, nm, per, dur⟩ := x
          unfold partC at HX1 HQ1
          simp only at HX1 HQ1 HFBX HRBX hwq hwq2 hpz hpp hpn hmul x0 x1 x2 x3
          clear ha hab hrel hx hg hs1 hs2 hs3 hbv hsl htv hgl hp hfr hle hq
          obtain ⟨g, hgw⟩ : ∃ g, g = wr.heap.size := ⟨_, rfl⟩
          have HGW := hide hgw
          clear hgw
          go_wp2
          rw [← HGW.out] at HQ1 ⊢
          have HSX : Hid (∀ W, Boxed1 w c W → Blk W g 40 #[.int .u16 (id : Int), .string nm, .int .u64 (per : Int), .int .u64 (dur : Int)] → (W.cell? ⟨w.heap.size, 0, none⟩ = some (.int .u64 (c.frame : Int)) ∧ W.cell? ⟨w.heap.size, 1, none⟩ = some (.slice (some ⟨b, o, none⟩) n c.parts.c) ∧ W.cell? ⟨w.heap.size, 2, none⟩ = some (.slice c.wins.a c.wins.l.length c.wins.c) ∧ W.cell? ⟨w.heap.size, 3, none⟩ = some (.slice c.regs.a c.regs.l.length c.regs.c) ∧ W.cell? ⟨w.heap.size, 4, none⟩ = some (.slice c.ports.a c.ports.l.length c.ports.c) ∧ W.cell? ⟨w.heap.size, 5, none⟩ = some (.slice c.chans.a c.chans.l.length c.chans.c) ∧ W.cell? ⟨g, 0, none⟩ = some (.int .u16 (id : Int)) ∧ W.cell? ⟨g, 2, none⟩ = some (.int .u64 (per : Int)) ∧ W.cell? ⟨g, 3, none⟩ = some (.int .u64 (dur : Int)) ∧ Boxed1 w c W ∧ Blk W g 40 #[.int .u16 (id : Int), .string nm, .int .u64 (per : Int), .int .u64 (dur : Int)])) := hide (fun W hW hQ => by
            obtain ⟨a0, a1, a2, a3, a4, a5⟩ := HBC.out W hW
            exact ⟨a0, a1, a2, a3, a4, a5, hQ.cell 0, hQ.cell 2, hQ.cell 3, hW, hQ⟩)
          clear b0 b1 b2 b3 b4 b5 x0 x1 x2 x3
          go_region_held3 (fun W => (W.cell? ⟨w.heap.size, 0, none⟩ = some (.int .u64 (c.frame : Int)) ∧ W.cell? ⟨w.heap.size, 1, none⟩ = some (.slice (some ⟨b, o, none⟩) n c.parts.c) ∧ W.cell? ⟨w.heap.size, 2, none⟩ = some (.slice c.wins.a c.wins.l.length c.wins.c) ∧ W.cell? ⟨w.heap.size, 3, none⟩ = some (.slice c.regs.a c.regs.l.length c.regs.c) ∧ W.cell? ⟨w.heap.size, 4, none⟩ = some (.slice c.ports.a c.ports.l.length c.ports.c) ∧ W.cell? ⟨w.heap.size, 5, none⟩ = some (.slice c.chans.a c.chans.l.length c.chans.c) ∧ W.cell? ⟨g, 0, none⟩ = some (.int .u16 (id : Int)) ∧ W.cell? ⟨g, 2, none⟩ = some (.int .u64 (per : Int)) ∧ W.cell? ⟨g, 3, none⟩ = some (.int .u64 (dur : Int)) ∧ Boxed1 w c W ∧ Blk W g 40 #[.int .u16 (id : Int), .string nm, .int .u64 (per : Int), .int .u64 (dur : Int)]))
            (first | assumption | exact HSX.out _ HX1.out.drewB HQ1.out.drew | exact HSX.out _ (Boxed1.below (And.left (And.right (And.right (And.right (And.right (And.right (And.right (And.right (And.right (And.right (by assumption))))))))))) (by assumption)) (Blk.below (And.right (And.right (And.right (And.right (And.right (And.right (And.right (And.right (And.right (And.right (by assumption))))))))))) (by assumption) (Blk.lt (And.right (And.right (And.right (And.right (And.right (And.right (And.right (And.right (And.right (And.right (by assumption))))))))))))))
            (first
              | (go_at_call 20; refine (HSKX.out _ (And.left (And.right (And.right (And.right (And.right (And.right (And.right (And.right (And.right (And.right (by assumption)))))))))))).mono ?_; rintro e wa ⟨rfl, hb⟩)
              | (go_at_call 22; refine (HFBX.out _ (And.left (And.right (And.right (And.right (And.right (And.right (And.right (And.right (And.right (And.right (by assumption)))))))))))).mono ?_; rintro e wb ⟨rfl, hb⟩)
              | (go_at_call 21; refine (HRBX.out _ (And.left (And.right (And.right (And.right (And.right (And.right (And.right (And.right (And.right (And.right (by assumption)))))))))))).mono ?_; rintro e wc ⟨rfl, hb⟩))
          go_wp2
          go_roundw
          case rel => exact ⟨k + 1, by omega, by go_num, hide (And.left (And.right (And.right (And.right (And.right (And.right (And.right (And.right (And.right (And.right (by assumption)))))))))))⟩
          case measure => simp [intOf]; omega
        · have hkn : k = n := by omega
          subst hkn
          clear hlt hk b0 b1 b2 b3 b4 b5
          go_wp2_with (go_at_call 10; refine (HAL.out _).mono ?_; rintro e w3 ⟨rfl, hb⟩; have HB3 := hide (hrel.out.below hb); clear hb)
          go_ret
          exact ⟨rfl, HB3.out.1⟩
    · have z0 : ((ce : Int) != 0) = true := by rw [bne_iff_ne]; omega
      clear h0 HGD
      go_enter Try.func7, Try.ntmps7
      go_wp2_with (first
        | (go_at_call 9; refine (HFI.out _ HB0.out).mono ?_; rintro e w1 ⟨rfl, hb⟩; have HB1 := hide (HB0.out.below hb); clear hb b0 b1 b2 b3 b4 b5; obtain ⟨b0, b1, b2, b3, b4, b5⟩ := HBC.out w1 HB1.out)
        | (go_at_call 11; refine (HRC.out _ HB1.out).mono ?_; rintro e w2 ⟨rfl, hb⟩; have HB2 := hide (HB1.out.below hb); clear hb b0 b1 b2 b3 b4 b5)
        | (go_at_call 10; refine (HAL.out _).mono ?_; rintro e w3 ⟨rfl, hb⟩; have HB3 := hide (HB2.out.below hb); clear hb))
      go_ret
      exact ⟨rfl, HB3.out.1⟩
end Go.Proofs.Ytkhcdnehfiopgaa
