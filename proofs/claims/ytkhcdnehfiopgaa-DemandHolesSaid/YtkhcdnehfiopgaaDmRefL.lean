/- The reference's Load and Few (chapter 16). -/
import Derived.Test.YtkhcdnehfiopgaaDmRefC
namespace Go.Proofs.Ytkhcdnehfiopgaa
open Go.RowKit Go.Sort
set_option linter.unusedVariables false

theorem RMul_blk (a b : Nat) (ha : a < top64) (hb : b < top64) (g : Nat) (t : TypeId) (w : World) (hB : Blk w g t #[.int .u64 (a : Int), .int .u64 (b : Int)]) :
    Calls Try.prog 18 #[.slice (some ⟨g, 0, none⟩) 2 2] w fun e w' => e = .returned (optV (mulL [a, b])) ∧ Below w.heap.size w w' :=
  RefMul_calls _ 2 2 [a, b] rfl (by omega) (by intro x hx; simp at hx; rcases hx with rfl | rfl <;> assumption) _
    ⟨rfl, fun _ => ⟨_, rfl, hB.lt, fun j u hu => by
      have e : (⟨g, 0, none⟩ : Addr).add j = ⟨g, j, none⟩ := by unfold Addr.add; split <;> simp_all
      rw [e, hB.cell, ← Array.getElem?_toList]
      exact hu⟩⟩
set_option maxRecDepth 100000 in
set_option maxHeartbeats 8000000 in
theorem RLoad_calls (c : Cfg) (w : World) (h : CfgAt w.heap.size c w) (hok : c.Ok) (hsm : c.Small) :
    Calls Try.prog 24 #[cfgV c] w (FoldV (loadR c) w) := by
  have hB0 := Boxed1.start w c
  have hcap := h.parts.2
  have HCF := hide (fun W (hW : Boxed1 w c W) => hW.cfg h)
  have HFI := hide (fun x W => RFits_calls c x W)
  have HFR := hide hok.frame
  obtain ⟨R, hR⟩ : ∃ R, R = loadR c := ⟨_, rfl⟩
  rw [← hR]
  have HR := hide hR
  have HOP := hide hok.parts
  obtain ⟨n, hn⟩ : ∃ n, n = c.parts.l.length := ⟨_, rfl⟩
  obtain ⟨pa, hpa⟩ : ∃ a, a = c.parts.a := ⟨_, rfl⟩
  have hnI : (n : Int) ≤ 1048576 := by unfold Cfg.Small at hsm; omega
  have hcI : (n : Int) ≤ (c.parts.c : Int) := by omega
  have HN := hide hn
  have HPA := hide hpa
  have HBC := hide (fun W (hW : Boxed1 w c W) => hW.cells)
  obtain ⟨i0, hi, hz0, hz1, hz2⟩ := info_parts u64_info3
  have HII := hide hi
  unfold cfgV at HFI ⊢
  unfold cfgC at hB0
  rw [← hn, ← hpa] at HBC hB0 HFI ⊢
  have HB0 := hide hB0
  clear h hok hsm hcap hR hn hB0 hpa hi
  go_enter Try.func24, Try.ntmps24
  go_wp2
  generalize w.alloc (.cells #[.int .u64 (c.frame : Int), .slice pa n c.parts.c, .slice c.wins.a c.wins.l.length c.wins.c, .slice c.regs.a c.regs.l.length c.regs.c, .slice c.ports.a c.ports.l.length c.ports.c, .slice c.chans.a c.chans.l.length c.chans.c] 29) = W0 at *
  go_loopw [4, 5] (fun o v wr => ∃ (k : Nat) (a : Option Addr) (cc : Nat) (L : List Nat), k ≤ n ∧ v = .int .i64 (k : Int) ∧ o = .slice a k cc ∧ Hid (Boxed1 w c wr ∧ wr.ownsRow (w.heap.size + 1) 22 1 (.slice a k cc) k (L.map U64) ∧ allT c.frame (c.parts.l.take k) = some L)) (fun _ v _ => n - (intOf v).toNat)
  case atStart => exact ⟨0, none, 0, [], Nat.zero_le _, rfl, rfl, hide ⟨HB0.out, World.ownsRow_nil _ _ _ _, rfl⟩⟩
  case round =>
    obtain ⟨k, a, cc, L, hk, rfl, rfl, hrel⟩ := hrel
    obtain ⟨b0, b1, b2, b3, b4, b5⟩ := HBC.out wr hrel.out.1
    by_cases hlt : k < n
    · have hlt2 : (k : Int) < (n : Int) := by omega
      have hkl : k < c.parts.l.length := by have := HN.out; omega
      obtain ⟨b, o, ha, hab, x0, x1, x2, x3⟩ := part_at (HCF.out wr hrel.out.1).parts k hkl
      obtain rfl : pa = some ⟨b, o, none⟩ := HPA.out.trans ha
      have hxo := HOP.out c.parts.l[k] (List.getElem_mem _)
      have htk : c.parts.l.take (k + 1) = c.parts.l.take k ++ [c.parts.l[k]] := List.take_succ_eq_append_getElem hkl
      have HBAD := hide (fun h => (HR.out.trans (loadR_bad hkl h)))
      have hbz : b < wr.heap.size := cell_lt x0
      have HHA := hide ha
      have hz0' : w.heap.size < wr.heap.size := hrel.out.1.2.lt
      obtain ⟨x, hx⟩ : ∃ x, x = c.parts.l[k] := ⟨_, rfl⟩
      rw [← hx] at x0 x1 x2 x3 hxo HBAD htk
      have HSN := hide (fun m (hm : totO c.frame x = some m) => (by rw [htk]; exact allT_snoc hm hrel.out.2.2 : allT c.frame (c.parts.l.take (k + 1)) = some (L ++ [m])))
      have HFIX := hide (fun W => HFI.out x W)
      have HX1 : Hid (Boxed1 w c (wr.alloc (.cells (partC x) 40))) := hide (hrel.out.1.alloc _)
      have HO1 := hide (hrel.out.2.1.alloc (.cells (partC x) 40))
      have HQ1 := hide (Blk.new wr 40 (partC x))
      obtain ⟨dv, hdv⟩ : ∃ d, d = divB x.per c.frame := ⟨_, rfl⟩
      rw [← hdv] at HFIX
      cases dv with
      | false =>
        have HE := hide (HBAD.out (by unfold totO; rw [← hdv]; rfl))
        obtain ⟨id, nm, per, dur⟩ := x
        unfold partC at HFIX HX1 HO1 HQ1
        simp only at HFIX HX1 HO1 HQ1 x0 x1 x2 x3
        clear ha hab hrel hxo hx htk hdv HSN HBAD
        go_wp2_with (go_at_call 28; refine (HFIX.out _).mono ?_; rintro e w2 ⟨rfl, hb⟩; have HX2 := hide (HX1.out.below hb); clear hb b0 b1 b2 b3 b4 b5 x0 x1 x2 x3)
        go_ret2
        exact ⟨by rw [HE.out]; rfl, HX2.out.1⟩
      | true =>
        have hp := (div_spec hdv.symm).1
        have hFl := Nat.div_le_self c.frame x.per
        have htot : totO c.frame x = mulL [x.dur, c.frame / x.per] := by unfold totO; rw [← hdv]; rfl
        obtain ⟨q, hq⟩ : ∃ q, q = c.frame / x.per := ⟨_, rfl⟩
        rw [← hq] at hFl htot
        have hfr := HFR.out
        have HM := hide (fun g t W hB => RMul_blk x.dur q hxo.2.2.2 (by unfold top64; omega) g t W hB)
        rw [htot] at HBAD HSN
        have hwq : IntKind.u64.wrap ((c.frame : Int).tdiv (x.per : Int)) = (q : Int) := by rw [← Int.ofNat_tdiv, ← hq]; exact wrapN q (by omega)
        have hwq2 : IntKind.u64.wrap ((c.frame : Int) / (x.per : Int)) = (q : Int) := by
          have : (c.frame : Int) / (x.per : Int) = (q : Int) := by rw [hq]; exact (Int.natCast_ediv _ _).symm
          rw [this]; exact wrapN q (by omega)
        have hpz : ((x.per : Int) == 0) = false := by rw [beq_eq_false_iff_ne]; omega
        have hpp : (0 : Int) < (x.per : Int) := by omega
        have hpn : ¬ x.per = 0 := by omega
        generalize mulL [x.dur, q] = M at *
        obtain ⟨id, nm, per, dur⟩ := x
        unfold partC at HFIX HX1 HO1 HQ1
        simp only at HFIX HX1 HO1 HQ1 HM hwq hwq2 hpz hpp hpn x0 x1 x2 x3
        clear ha hab hrel hxo hx htk hdv hp hFl htot hq hfr
        cases M with
        | none =>
          have HE := hide (HBAD.out rfl)
          clear HBAD HSN
          go_wp2_with (go_at_call 28; refine (HFIX.out _).mono ?_; rintro e w2 ⟨rfl, hb⟩; have HX2 := hide (HX1.out.below hb); have HQ2 := hide (HQ1.out.below hb HQ1.out.lt); clear hb b0 b1 b2 b3 b4 b5 x0 x1 x2 x3)
          have HSX : Hid (∀ W, Below w2.heap.size w2 W → (W.cell? ⟨w.heap.size, 0, none⟩ = some (.int .u64 (c.frame : Int)) ∧ W.cell? ⟨wr.heap.size, 2, none⟩ = some (.int .u64 (per : Int)) ∧ W.cell? ⟨wr.heap.size, 3, none⟩ = some (.int .u64 (dur : Int)) ∧ Below w2.heap.size w2 W)) := hide (fun W hW => ⟨(HX2.out.below hW).2.cell 0, (HQ2.out.below hW HQ2.out.lt).cell 2, (HQ2.out.below hW HQ2.out.lt).cell 3, hW⟩)
          go_region_held3 (fun W => (W.cell? ⟨w.heap.size, 0, none⟩ = some (.int .u64 (c.frame : Int)) ∧ W.cell? ⟨wr.heap.size, 2, none⟩ = some (.int .u64 (per : Int)) ∧ W.cell? ⟨wr.heap.size, 3, none⟩ = some (.int .u64 (dur : Int)) ∧ Below w2.heap.size w2 W))
            (first | assumption | exact HSX.out _ (Below.drew (Below.refl _ _)) | exact HSX.out _ ((Below.refl _ _).alloc (Nat.le_refl _) _) | exact HSX.out _ ((Below.refl _ _).alloc (Nat.le_refl _) _).drew | exact HSX.out _ (new_belowD (by assumption)))
            ((go_at_call 18; refine (HM.out _ _ _ (Blk.drew (Blk.new _ _ _))).mono ?_; rintro e w3 ⟨rfl, hbx⟩; rw [optV]))
          have HB3 := hide (And.right (And.right (And.right (by assumption : _ ∧ _ ∧ _ ∧ Below w2.heap.size w2 w3))))
          go_wp2
          go_ret2
          exact ⟨by rw [HE.out]; rfl, (HX2.out.below HB3.out).1⟩
        | some m =>
          have HS := hide (HSN.out m rfl)
          clear HBAD HSN
          go_wp2_with (go_at_call 28; refine (HFIX.out _).mono ?_; rintro e w2 ⟨rfl, hb⟩; have HX2 := hide (HX1.out.below hb); have HQ2 := hide (HQ1.out.below hb HQ1.out.lt); have HO2 := hide (own_below HO1.out hb); clear hb b0 b1 b2 b3 b4 b5 x0 x1 x2 x3)
          have HSX : Hid (∀ W, Below w2.heap.size w2 W → (W.cell? ⟨w.heap.size, 0, none⟩ = some (.int .u64 (c.frame : Int)) ∧ W.cell? ⟨wr.heap.size, 2, none⟩ = some (.int .u64 (per : Int)) ∧ W.cell? ⟨wr.heap.size, 3, none⟩ = some (.int .u64 (dur : Int)) ∧ Below w2.heap.size w2 W)) := hide (fun W hW => ⟨(HX2.out.below hW).2.cell 0, (HQ2.out.below hW HQ2.out.lt).cell 2, (HQ2.out.below hW HQ2.out.lt).cell 3, hW⟩)
          go_region_held3 (fun W => (W.cell? ⟨w.heap.size, 0, none⟩ = some (.int .u64 (c.frame : Int)) ∧ W.cell? ⟨wr.heap.size, 2, none⟩ = some (.int .u64 (per : Int)) ∧ W.cell? ⟨wr.heap.size, 3, none⟩ = some (.int .u64 (dur : Int)) ∧ Below w2.heap.size w2 W))
            (first | assumption | exact HSX.out _ (Below.drew (Below.refl _ _)) | exact HSX.out _ ((Below.refl _ _).alloc (Nat.le_refl _) _) | exact HSX.out _ ((Below.refl _ _).alloc (Nat.le_refl _) _).drew | exact HSX.out _ (new_belowD (by assumption)))
            ((go_at_call 18; refine (HM.out _ _ _ (Blk.drew (Blk.new _ _ _))).mono ?_; rintro e w3 ⟨rfl, hbx⟩; rw [optV]))
          have HB3 := hide (And.right (And.right (And.right (by assumption : _ ∧ _ ∧ _ ∧ Below w2.heap.size w2 w3))))
          have HX3 := hide (HX2.out.below HB3.out)
          have HO3 := hide (own_below HO2.out HB3.out)
          go_wp2_with (at_builtin; go_must (refine wpList_append_any _ rfl (.tmp 39) (.tmp 41) 47 rfl (w.heap.size + 1) 22 i0 _ 1 8 Try.underlying47 HII.out hz0 hz1 hz2 rfl (by decide) (.slice a k cc) k (L.map U64) rfl (HO3.out.alloc _) (w3.heap.size + 1) (some ⟨w3.heap.size, 0, none⟩) 1 1 [U64 m] rfl (reads_one w3 m _) (one_u64 m) (by simp only [maxLen]; omega) (by omega) (by have := HX3.out.2.lt; simp; omega) ?_); intro v' w4 hown' hg hat; obtain ⟨a4, c4, rfl⟩ := own_slice hown'; have HO4 := hide hown'; have HX4 : Hid (Boxed1 w c w4) := hide (boxed1_grown (HX3.out.alloc _) (HO3.out.alloc _) hg); clear hown' hg hat)
          go_roundw
          case rel => exact ⟨k + 1, a4, c4, L ++ [m], by omega, by go_num, rfl, hide ⟨HX4.out, by rw [List.map_append]; exact HO4.out, HS.out⟩⟩
          case measure => simp [intOf]; omega
    · have hkn : k = n := by omega
      subst hkn
      have hall : allT c.frame c.parts.l = some L := by
        have := hrel.out.2.2
        rwa [List.take_of_length_le (by rw [HN.out]; exact Nat.le_refl _)] at this
      have hre : R = foldO plusO 0 L := by rw [HR.out]; unfold loadR; rw [hall]
      have hLl : L.length = k := by rw [allT_len hall, ← HN.out]
      have hA := RefAdd_calls a k cc L hLl (by omega) (allT_lt hall) wr (Reads.of_own hrel.out.2.1)
      rw [← hre] at hA
      unfold FoldV at hA
      obtain ⟨m, bb, hv⟩ := optV_shape R
      rw [hv] at hA
      have HA := hide hA
      have HV := hide hv
      have HX := hide hrel.out.1
      clear hlt hk hrel hall hre hLl hA hv
      go_wp2_with (go_at_call 41; refine HA.out.mono ?_; rintro e w2 ⟨rfl, hb⟩; have HX2 := hide (HX.out.below hb); clear hb)
      go_ret2
      exact ⟨by rw [HV.out]; rfl, HX2.out.1⟩
end Go.Proofs.Ytkhcdnehfiopgaa
