/- The walk of the law FrameAdds (chapter 15). -/
import Derived.Test.YthccadabblkalaaFrSort
import Derived.Test.YthccadabblkalaaFrRIdle
import Derived.Test.YthccadabblkalaaFrAddC
import Derived.StillTailTactics
namespace Go.Proofs.Ythccadabblkalaa
open Go.RowKit Go.Sort
set_option linter.unusedVariables false

theorem rem_cast (k m : Nat) (hm : 0 < m) : ((k : Int).tmod (m : Int)) = ((k % m : Nat) : Int) := by
  rw [Int.tmod_eq_emod_of_nonneg (by omega)]
  omega
theorem Sorted_at (c : Cfg) (w : World) (h : CfgAt w.heap.size c w) (hr : rightB c = true) : ∀ W, Boxed1 w c W → Calls Try.prog 31 #[cfgV c] W (SortedV c W) := fun W hW => Sorted_calls c W (hW.cfg h) (by have := fill_few hr; omega)
set_option maxRecDepth 100000 in
set_option maxHeartbeats 8000000 in
theorem FrameAdds_calls (c : Cfg) (k : Nat) (hk : k < 256) (w : World) (h : CfgAt w.heap.size c w) (hok : c.Ok) (hsm : c.Small) :
    Calls Try.prog 5 #[cfgV c, .int .u8 (k : Int)] w fun e w' => e = .returned (.bool true) ∧ Below w.heap.size w w' := by
  have HAL := hide (fun W => alive_calls W)
  have HR := hide (fun W (hW : Boxed1 w c W) => right_calls c W (hW.cfg h) hok hsm)
  have hB0 := Boxed1.start w c
  have HBC := hide (fun W (hW : Boxed1 w c W) => hW.cells)
  have HCF := hide (fun W (hW : Boxed1 w c W) => hW.cfg h)
  have HF := hide hok.frame
  have HRI := hide (fun hr W (hW : Boxed1 w c W) => RIdle_calls c W (Sorted_at c W (hW.cfg h) hr) HF.out hr)
  unfold cfgC at hB0
  have HB0 := hide hB0
  unfold cfgV at HR HRI ⊢
  by_cases hr : rightB c = true
  · have HRI2 := hide (HRI.out hr)
    rw [hr] at HR
    by_cases hp0 : c.parts.l.length = 0
    · have e0 : ((c.parts.l.length : Int) == 0) = true := by rw [hp0]; rfl
      generalize c.parts.l.length = np at *
      clear h hok hsm hB0 HRI HRI2 hr hp0
      go_enter Try.func5, Try.ntmps5
      obtain ⟨b0, b1, b2, b3, b4, b5⟩ := HBC.out _ HB0.out
      go_wp2_with (first
        | (go_at_call 11; refine (HR.out _ HB0.out).mono ?_; rintro e w1 ⟨rfl, hb⟩; have HB1 := hide (HB0.out.below hb); clear hb b0 b1 b2 b3 b4 b5; obtain ⟨b0, b1, b2, b3, b4, b5⟩ := HBC.out w1 HB1.out)
        | (go_at_call 8; refine (HAL.out _).mono ?_; rintro e w2 ⟨rfl, hb⟩; have HB2 := hide (HB1.out.below hb); clear hb))
      go_ret
      exact ⟨rfl, HB2.out.1⟩
    · have e0 : ((c.parts.l.length : Int) == 0) = false := by rw [beq_eq_false_iff_ne]; omega
      obtain ⟨gs, hgs⟩ : ∃ g, g = gapsR c.frame (c.wins.l.map wsp) := ⟨_, rfl⟩
      unfold WinsV at HRI2
      rw [← hgs, List.length_map] at HRI2
      have HGS := hide hgs
      have HRR := hide hr
      obtain ⟨np, hnp⟩ : ∃ n, n = c.parts.l.length := ⟨_, rfl⟩
      obtain ⟨pa, hpa⟩ : ∃ a, a = c.parts.a := ⟨_, rfl⟩
      obtain ⟨m, hm⟩ : ∃ n, n = gs.length := ⟨_, rfl⟩
      have HSM := hide hsm
      have HC0 := hide h
      have HOK := hide hok
      have hpI : (np : Int) ≤ 1048576 := by unfold Cfg.Small at hsm; omega
      have hqI : (np : Int) ≤ (c.parts.c : Int) := by have := h.parts.2; omega
      have HNP := hide hnp
      have HPA := hide hpa
      have HM := hide hm
      rw [← hnp, ← hpa] at HBC hB0 HB0 HR HRI2 ⊢
      rw [← hnp] at e0 hp0
      rw [← hm] at HRI2
      clear h hok hsm hB0 HRI hr hgs hnp hpa hm
      by_cases hm0 : m = 0
      · have e1 : ((m : Int) == 0) = true := by rw [hm0]; rfl
        clear hm0
        go_enter Try.func5, Try.ntmps5
        obtain ⟨b0, b1, b2, b3, b4, b5⟩ := HBC.out _ HB0.out
        go_wp2_with (first
          | (go_at_call 11; refine (HR.out _ HB0.out).mono ?_; rintro e w1 ⟨rfl, hb⟩; have HB1 := hide (HB0.out.below hb); clear hb b0 b1 b2 b3 b4 b5; obtain ⟨b0, b1, b2, b3, b4, b5⟩ := HBC.out w1 HB1.out)
          | (go_at_call 16; refine (HRI2.out _ HB1.out).mono ?_; rintro e w2 ⟨ga, gcap, rfl, hown, hb⟩; have HB2 := hide (HB1.out.below hb); clear hb hown b0 b1 b2 b3 b4 b5)
          | (go_at_call 8; refine (HAL.out _).mono ?_; rintro e w3 ⟨rfl, hb⟩; have HB3 := hide (HB2.out.below hb); clear hb))
        go_ret
        exact ⟨rfl, HB3.out.1⟩
      · have e1 : ((m : Int) == 0) = false := by rw [beq_eq_false_iff_ne]; omega
        have hmI : (m : Int) ≤ 121 := by
          have h1 := gaps_len c.frame HF.out (wins_ok HRR.out HF.out)
          have h2 := fill_few HRR.out
          rw [List.length_map, ← HGS.out, ← HM.out] at h1
          omega
        obtain ⟨e, he⟩ : ∃ e, e = k % m := ⟨_, rfl⟩
        obtain ⟨f, hf⟩ : ∃ f, f = k % np := ⟨_, rfl⟩
        have tw : IntKind.i64.wrap (k : Int) = (k : Int) := IntWalk.i64_in _ (by omega)
        have te : (k : Int).tmod (m : Int) = (e : Int) := by rw [he]; exact rem_cast k m (by omega)
        have tf : (k : Int).tmod (np : Int) = (f : Int) := by rw [hf]; exact rem_cast k np (by omega)
        have hel : e < m := by rw [he]; exact Nat.mod_lt _ (by omega)
        have hfl : f < np := by rw [hf]; exact Nat.mod_lt _ (by omega)
        have heI : (e : Int) < (m : Int) := by omega
        have hfI : (f : Int) < (np : Int) := by omega
        clear he hf
        go_enter Try.func5, Try.ntmps5
        obtain ⟨b0, b1, b2, b3, b4, b5⟩ := HBC.out _ HB0.out
        go_wp2_with (first
          | (go_at_call 11; refine (HR.out _ HB0.out).mono ?_; rintro e w1 ⟨rfl, hb⟩; have HB1 := hide (HB0.out.below hb); clear hb b0 b1 b2 b3 b4 b5; obtain ⟨b0, b1, b2, b3, b4, b5⟩ := HBC.out w1 HB1.out)
          | (go_at_call 16; refine (HRI2.out _ HB1.out).mono ?_; rintro e9 w2 ⟨ga, gcap, rfl, hown, hb⟩; have HB2 := hide (HB1.out.below hb); obtain ⟨g, rfl, _, hgc, hgl, hcell⟩ := own_cells (enc := winL) winL_len hown (by rw [List.length_map]; exact HM.out.symm) e (by rw [List.length_map, ← HM.out]; exact hel); have hcI2 : (m : Int) ≤ (gcap : Int) := by omega
             have hgk : (gs.map idW)[e]'(by rw [List.length_map, ← HM.out]; exact hel) = ⟨(gs[e]'(by rw [← HM.out]; exact hel)).1, (gs[e]'(by rw [← HM.out]; exact hel)).2, 0⟩ := by rw [List.getElem_map]; rfl
             rw [hgk] at hcell
             have y0 : w2.cell? ⟨g, e * 3, none⟩ = some (.int .u64 ((gs[e]'(by rw [← HM.out]; exact hel)).1 : Int)) := hcell 0 (by omega)
             have y1 : w2.cell? ⟨g, e * 3 + 1, none⟩ = some (.int .u64 ((gs[e]'(by rw [← HM.out]; exact hel)).2 : Int)) := hcell 1 (by omega)
             have y2 : w2.cell? ⟨g, e * 3 + 2, none⟩ = some (.int .u16 0) := hcell 2 (by omega)
             have HGM : Hid (gs[e]'(by rw [← HM.out]; exact hel) ∈ gs) := hide (List.getElem_mem _)
             generalize gs[e]'(by rw [← HM.out]; exact hel) = gp at *
             obtain ⟨glo, glen⟩ := gp
             simp only at y0 y1
             clear hb hown hcell hgk b0 b1 b2 b3 b4 b5; obtain ⟨b0, b1, b2, b3, b4, b5⟩ := HBC.out w2 HB2.out))
        clear y0 y1 y2 b0 b1 b2 b3 b4 b5
        have HB5 : Hid (Boxed1 w c (w2.alloc (.cells #[.int .u64 (glo : Int), .int .u64 (glen : Int), .int .u16 0] 45))) := hide (HB2.out.alloc _)
        have HW5 : Hid (Blk (w2.alloc (.cells #[.int .u64 (glo : Int), .int .u64 (glen : Int), .int .u16 0] 45)) w2.heap.size 45 #[.int .u64 (glo : Int), .int .u64 (glen : Int), .int .u16 0]) := hide (Blk.new _ _ _)
        have hne : w.heap.size < w2.heap.size := HB2.out.2.lt
        generalize w2.alloc (.cells #[.int .u64 (glo : Int), .int .u64 (glen : Int), .int .u16 0] 45) = w5 at *
        generalize w2.heap.size = n6 at *
        obtain ⟨b0, b1, b2, b3, b4, b5⟩ := HBC.out w5 HB5.out
        obtain ⟨pb, po, hpe, hpb, p0, p1, p2, p3⟩ := part_at (HCF.out w5 HB5.out).parts f (by have := HNP.out; omega)
        obtain rfl : pa = some ⟨pb, po, none⟩ := HPA.out.trans hpe
        have HID2 : Hid (c.parts.l[f]'(by have := HNP.out; omega) ∈ c.parts.l) := hide (List.getElem_mem _)
        generalize c.parts.l[f]'(by have := HNP.out; omega) = pr at *
        obtain ⟨pid, pnm, pper, pdur⟩ := pr
        simp only at p0 p1 p2 p3
        have q2 : w5.cell? ⟨n6, 2, none⟩ = some (.int .u16 0) := HW5.out.cell 2
        have q3 : w5.frozen? ⟨n6, 2, none⟩ = false := HW5.out.frozen 2
        clear hpe
        go_still_tail 12, (by kernel_rfl)
        change wpList _ _ _ _ _ w5.drew
        go_wp2
        have HB6 : Hid (Boxed1 w c (w5.setCell ⟨n6, 2, none⟩ (.int .u16 (pid : Int)))) := hide ⟨HB5.out.1.setCell (p := ⟨n6, 2, none⟩) (by simp; omega) _, HB5.out.2.far (p := ⟨n6, 2, none⟩) (by simp; omega) _⟩
        have HW6 : Hid (Blk (w5.setCell ⟨n6, 2, none⟩ (.int .u16 (pid : Int))) n6 45 #[.int .u64 (glo : Int), .int .u64 (glen : Int), .int .u16 (pid : Int)]) := hide (by have := HW5.out.set_ 2 (.int .u16 (pid : Int)); simpa using this)
        have hs6 : (w5.setCell ⟨n6, 2, none⟩ (.int .u16 (pid : Int))).heap.size = w5.heap.size := by simp [World.setCell]
        generalize (w5.setCell ⟨n6, 2, none⟩ (.int .u16 (pid : Int))) = w6 at *
        generalize w5.heap.size = n7 at *
        have HX7 : Hid (Blk (w6.alloc (.cells #[.int .u64 (c.frame : Int), .slice (some ⟨pb, po, none⟩) np c.parts.c, .slice c.wins.a c.wins.l.length c.wins.c, .slice c.regs.a c.regs.l.length c.regs.c, .slice c.ports.a c.ports.l.length c.ports.c, .slice c.chans.a c.chans.l.length c.chans.c] 29)).drew n7 29 #[.int .u64 (c.frame : Int), .slice (some ⟨pb, po, none⟩) np c.parts.c, .slice c.wins.a c.wins.l.length c.wins.c, .slice c.regs.a c.regs.l.length c.regs.c, .slice c.ports.a c.ports.l.length c.ports.c, .slice c.chans.a c.chans.l.length c.chans.c]) := hide (by have := Blk.new w6 29 #[.int .u64 (c.frame : Int), .slice (some ⟨pb, po, none⟩) np c.parts.c, .slice c.wins.a c.wins.l.length c.wins.c, .slice c.regs.a c.regs.l.length c.regs.c, .slice c.ports.a c.ports.l.length c.ports.c, .slice c.chans.a c.chans.l.length c.chans.c]; rw [hs6] at this; exact this)
        have HK7 : Hid (Below w6.heap.size w6 (w6.alloc (.cells #[.int .u64 (c.frame : Int), .slice (some ⟨pb, po, none⟩) np c.parts.c, .slice c.wins.a c.wins.l.length c.wins.c, .slice c.regs.a c.regs.l.length c.regs.c, .slice c.ports.a c.ports.l.length c.ports.c, .slice c.chans.a c.chans.l.length c.chans.c] 29)).drew) := hide ((Below.refl _ _).alloc (Nat.le_refl _) _).drew
        have hs7 : (w6.alloc (.cells #[.int .u64 (c.frame : Int), .slice (some ⟨pb, po, none⟩) np c.parts.c, .slice c.wins.a c.wins.l.length c.wins.c, .slice c.regs.a c.regs.l.length c.regs.c, .slice c.ports.a c.ports.l.length c.ports.c, .slice c.chans.a c.chans.l.length c.chans.c] 29)).drew.heap.size = n7 + 1 := by simp; omega
        generalize (w6.alloc (.cells #[.int .u64 (c.frame : Int), .slice (some ⟨pb, po, none⟩) np c.parts.c, .slice c.wins.a c.wins.l.length c.wins.c, .slice c.regs.a c.regs.l.length c.regs.c, .slice c.ports.a c.ports.l.length c.ports.c, .slice c.chans.a c.chans.l.length c.chans.c] 29)).drew = w7 at *
        have HSX : Hid (∀ W, Below w6.heap.size w6 W → (W.cell? ⟨w.heap.size, 2, none⟩ = some (.slice c.wins.a c.wins.l.length c.wins.c) ∧ W.cell? ⟨n6, 0, none⟩ = some (.int .u64 (glo : Int)) ∧ W.cell? ⟨n6, 1, none⟩ = some (.int .u64 (glen : Int)) ∧ W.cell? ⟨n6, 2, none⟩ = some (.int .u16 (pid : Int)) ∧ Below w6.heap.size w6 W)) := hide (fun W hW => ⟨(HBC.out W (HB6.out.below hW)).2.2.1, (HW6.out.below hW HW6.out.lt).cell 0, (HW6.out.below hW HW6.out.lt).cell 1, (HW6.out.below hW HW6.out.lt).cell 2, hW⟩)
        have HZ : Hid ((w7.alloc (.cells #[] 45)).ownsRow w7.heap.size 45 3 (.slice (some ⟨w7.heap.size, 0, none⟩) 0 0) 0 []) := hide (own_zero _ _ _ _ (Nat.le_refl _))
        have HZ3 : Hid (((w7.alloc (.cells #[.int .u64 (glo : Int), .int .u64 (glen : Int), .int .u16 (pid : Int)] 45)).alloc (.cells #[] 45)).ownsRow w7.heap.size 45 3 (.slice (some ⟨w7.heap.size + 1, 0, none⟩) 0 0) 0 []) := hide (by have := own_zero (w7.alloc (.cells #[.int .u64 (glo : Int), .int .u64 (glen : Int), .int .u16 (pid : Int)] 45)) w7.heap.size 45 3 (by simp); rw [World.size_alloc] at this; exact this)
        have HRD : Hid (∀ W, Below w6.heap.size w6 W → Reads W w6.heap.size 3 c.wins.a c.wins.l.length (c.wins.l.flatMap winL)) := hide (fun W hW => (HCF.out w6 HB6.out).wins.1.below hW)
        have hnw : c.wins.l.length ≤ 120 := fill_few HRR.out
        obtain ⟨i0, hi, hz0, hz1, hz2⟩ := info_parts win_info3
        have HII := hide hi
        clear hi q2 q3 b0 b1 b2 b3 b4 b5 p0 p1 p2 p3
        go_region_held3 (fun W => (W.cell? ⟨w.heap.size, 2, none⟩ = some (.slice c.wins.a c.wins.l.length c.wins.c) ∧ W.cell? ⟨n6, 0, none⟩ = some (.int .u64 (glo : Int)) ∧ W.cell? ⟨n6, 1, none⟩ = some (.int .u64 (glen : Int)) ∧ W.cell? ⟨n6, 2, none⟩ = some (.int .u16 (pid : Int)) ∧ Below w6.heap.size w6 W))
          (first | assumption | exact HSX.out _ (HK3.out.setCell (by simp; omega) _) | exact HSX.out _ (HK2.out.alloc HK2.out.size _) | exact HSX.out _ HK3.out | exact HSX.out _ HK2.out | exact HSX.out _ HK7.out.drew | exact HSX.out _ ((HK7.out.alloc HK7.out.size _).alloc (by simp; omega) _).drew | exact HSX.out _ (HK7.out.alloc HK7.out.size _).drew | exact HSX.out _ (HK7.out.alloc HK7.out.size _))
          (first
            | (refine step_append_any _ rfl (.tmp 45) (.tmp 47) 24 rfl w7.heap.size 45 i0 _ 3 24 Try.underlying24 HII.out hz0 hz1 hz2 rfl (by decide) (.slice (some ⟨w7.heap.size, 0, none⟩) 0 0) 0 [] (by simp [Act.eval]) (own_below HZ.out (Below.drew (Below.refl _ _))) w6.heap.size c.wins.a c.wins.l.length c.wins.c (c.wins.l.flatMap winL) (by simp [Act.eval]) (HRD.out _ (And.right (And.right (And.right (And.right (by assumption)))))) (winL_one _) (by simp only [maxLen]; omega) (by omega) (by first | (simp; done) | (simp; omega)) ?_; intro v2 w8 hown2 hg2 hat2; obtain ⟨a2, c2, rfl⟩ := own_slice hown2; have HO2 := hide hown2; have HK2 : Hid (Below w6.heap.size w6 w8) := hide (Below.grown (And.right (And.right (And.right (And.right (by assumption))))) hg2 (by simp; omega) (fun r hr => by injection hr with hr; simp at hr; omega)); have HX2 : Hid (Blk w8 n7 29 #[.int .u64 (c.frame : Int), .slice (some ⟨pb, po, none⟩) np c.parts.c, .slice c.wins.a c.wins.l.length c.wins.c, .slice c.regs.a c.regs.l.length c.regs.c, .slice c.ports.a c.ports.l.length c.ports.c, .slice c.chans.a c.chans.l.length c.chans.c]) := hide (Blk.grown (HX7.out.alloc _).drew hg2 (fun e => by injection e with e; simp at e; omega)); have HA2 : Hid (∀ r, (Value.slice a2 (0 + c.wins.l.length) c2).ownBlock = some r → w7.heap.size ≤ r) := hide (fun r hr => by rcases hat2 with h | h <;> (rw [h] at hr; injection hr with hr; simp at hr; omega)); have hz2' : w7.heap.size ≤ w8.heap.size := (by have h := hg2.size; simp at h; omega); clear hown2 hg2 hat2)
            | (refine step_append_any _ rfl (.tmp 45) (.tmp 47) 24 rfl w7.heap.size 45 i0 _ 3 24 Try.underlying24 HII.out hz0 hz1 hz2 rfl (by decide) (.slice (some ⟨w7.heap.size, 0, none⟩) 0 0) 0 [] (by simp [Act.eval]) (own_below HZ.out (Below.drew (Below.alloc (Below.refl _ _) (Nat.le_refl _) _))) w6.heap.size c.wins.a c.wins.l.length c.wins.c (c.wins.l.flatMap winL) (by simp [Act.eval]) (HRD.out _ (And.right (And.right (And.right (And.right (by assumption)))))) (winL_one _) (by simp only [maxLen]; omega) (by omega) (by first | (simp; done) | (simp; omega)) ?_; intro v2 w8 hown2 hg2 hat2; obtain ⟨a2, c2, rfl⟩ := own_slice hown2; have HO2 := hide hown2; have HK2 : Hid (Below w6.heap.size w6 w8) := hide (Below.grown (And.right (And.right (And.right (And.right (by assumption))))) hg2 (by simp; omega) (fun r hr => by injection hr with hr; simp at hr; omega)); have HX2 : Hid (Blk w8 n7 29 #[.int .u64 (c.frame : Int), .slice (some ⟨pb, po, none⟩) np c.parts.c, .slice c.wins.a c.wins.l.length c.wins.c, .slice c.regs.a c.regs.l.length c.regs.c, .slice c.ports.a c.ports.l.length c.ports.c, .slice c.chans.a c.chans.l.length c.chans.c]) := hide (Blk.grown ((HX7.out.alloc _).alloc _).drew hg2 (fun e => by injection e with e; simp at e; omega)); have HA2 : Hid (∀ r, (Value.slice a2 (0 + c.wins.l.length) c2).ownBlock = some r → w7.heap.size ≤ r) := hide (fun r hr => by rcases hat2 with h | h <;> (rw [h] at hr; injection hr with hr; simp at hr; omega)); have hz2' : w7.heap.size ≤ w8.heap.size := (by have h := hg2.size; simp at h; omega); have HWN : Hid (Blk w8 (w7.heap.size + 1) 45 #[.int .u64 (glo : Int), .int .u64 (glen : Int), .int .u16 (pid : Int)]) := hide (Blk.grown (w := ((w7.alloc (.cells #[] 45)).alloc (.cells #[.int .u64 (glo : Int), .int .u64 (glen : Int), .int .u16 (pid : Int)] 45)).drew) (by have := Blk.new (w7.alloc (.cells #[] 45)) 45 #[.int .u64 (glo : Int), .int .u64 (glen : Int), .int .u16 (pid : Int)]; rw [World.size_alloc] at this; exact this) hg2 (fun e => by injection e with e; simp at e)); clear hown2 hg2 hat2)
            | (refine step_append_any _ rfl (.tmp 45) (.tmp 47) 24 rfl w7.heap.size 45 i0 _ 3 24 Try.underlying24 HII.out hz0 hz1 hz2 rfl (by decide) (.slice (some ⟨w7.heap.size + 1, 0, none⟩) 0 0) 0 [] (by simp [Act.eval]) (own_below HZ3.out (Below.drew (Below.refl _ _))) w6.heap.size c.wins.a c.wins.l.length c.wins.c (c.wins.l.flatMap winL) (by simp [Act.eval]) (HRD.out _ (And.right (And.right (And.right (And.right (by assumption)))))) (winL_one _) (by simp only [maxLen]; omega) (by omega) (by first | (simp; done) | (simp; omega)) ?_; intro v2 w8 hown2 hg2 hat2; obtain ⟨a2, c2, rfl⟩ := own_slice hown2; have HO2 := hide hown2; have HK2 : Hid (Below w6.heap.size w6 w8) := hide (Below.grown (And.right (And.right (And.right (And.right (by assumption))))) hg2 (by simp; omega) (fun r hr => by injection hr with hr; simp at hr; omega)); have HX2 : Hid (Blk w8 n7 29 #[.int .u64 (c.frame : Int), .slice (some ⟨pb, po, none⟩) np c.parts.c, .slice c.wins.a c.wins.l.length c.wins.c, .slice c.regs.a c.regs.l.length c.regs.c, .slice c.ports.a c.ports.l.length c.ports.c, .slice c.chans.a c.chans.l.length c.chans.c]) := hide (Blk.grown ((HX7.out.alloc _).alloc _).drew hg2 (fun e => by injection e with e; simp at e; omega)); have HA2 : Hid (∀ r, (Value.slice a2 (0 + c.wins.l.length) c2).ownBlock = some r → w7.heap.size ≤ r) := hide (fun r hr => by rcases hat2 with h | h <;> (rw [h] at hr; injection hr with hr; simp at hr; omega)); have hz2' : w7.heap.size ≤ w8.heap.size := (by have h := hg2.size; simp at h; omega); have HWM : Hid (Blk w8 w7.heap.size 45 #[.int .u64 (glo : Int), .int .u64 (glen : Int), .int .u16 (pid : Int)]) := hide (Blk.grown (w := ((w7.alloc (.cells #[.int .u64 (glo : Int), .int .u64 (glen : Int), .int .u16 (pid : Int)] 45)).alloc (.cells #[] 45)).drew) ((Blk.new w7 45 #[.int .u64 (glo : Int), .int .u64 (glen : Int), .int .u16 (pid : Int)]).alloc _) hg2 (fun e => by injection e with e; simp at e)); clear hown2 hg2 hat2)
            | (refine step_append_any _ rfl (.tmp 48) (.tmp 50) 24 rfl w7.heap.size 45 i0 _ 3 24 Try.underlying24 HII.out hz0 hz1 hz2 rfl (by decide) (.slice a2 (0 + c.wins.l.length) c2) (0 + c.wins.l.length) ([] ++ c.wins.l.flatMap winL) (by simp [Act.eval]) HO2.out w8.heap.size (some ⟨w7.heap.size + 1, 0, none⟩) 1 1 (winL ⟨glo, glen, pid⟩) (by simp [Act.eval]) (reads_blk HWN.out HWN.out.lt rfl rfl) (wn_one _) (by simp only [maxLen]; omega) (by omega) (by omega) ?_; intro v3 w9 hown3 hg3 hat3; obtain ⟨a3, c3, rfl⟩ := own_slice hown3; have HO3 := hide hown3; have HK3 : Hid (Below w6.heap.size w6 w9) := hide (Below.grown HK2.out hg3 (by first | omega | (simp; omega)) (fun r hr => by have := HA2.out r hr; omega)); have HX3 : Hid (Blk w9 n7 29 #[.int .u64 (c.frame : Int), .slice (some ⟨pb, po, none⟩) np c.parts.c, .slice c.wins.a c.wins.l.length c.wins.c, .slice c.regs.a c.regs.l.length c.regs.c, .slice c.ports.a c.ports.l.length c.ports.c, .slice c.chans.a c.chans.l.length c.chans.c]) := hide (Blk.grown (HX2.out) hg3 (fun e => by have := HA2.out n7 e.symm; omega)); have HA3 : Hid (∀ r, (Value.slice a3 (0 + c.wins.l.length + 1) c3).ownBlock = some r → w7.heap.size ≤ r) := hide (fun r hr => by rcases hat3 with h | h; exact HA2.out r (by rw [← h]; exact hr); (rw [h] at hr; injection hr with hr; first | (simp at hr; omega) | omega)); have hz3' : w7.heap.size ≤ w9.heap.size := (by have h := hg3.size; first | (simp at h; omega) | omega); have s3 := HX3.out.cell 2; have f3 := HX3.out.frozen 2; clear hown3 hg3 hat3)
            | (refine step_append_any _ rfl (.tmp 48) (.tmp 50) 24 rfl w7.heap.size 45 i0 _ 3 24 Try.underlying24 HII.out hz0 hz1 hz2 rfl (by decide) (.slice a2 (0 + c.wins.l.length) c2) (0 + c.wins.l.length) ([] ++ c.wins.l.flatMap winL) (by simp [Act.eval]) HO2.out w8.heap.size (some ⟨w7.heap.size, 0, none⟩) 1 1 (winL ⟨glo, glen, pid⟩) (by simp [Act.eval]) (reads_blk HWM.out HWM.out.lt rfl rfl) (wn_one _) (by simp only [maxLen]; omega) (by omega) (by omega) ?_; intro v3 w9 hown3 hg3 hat3; obtain ⟨a3, c3, rfl⟩ := own_slice hown3; have HO3 := hide hown3; have HK3 : Hid (Below w6.heap.size w6 w9) := hide (Below.grown HK2.out hg3 (by first | omega | (simp; omega)) (fun r hr => by have := HA2.out r hr; omega)); have HX3 : Hid (Blk w9 n7 29 #[.int .u64 (c.frame : Int), .slice (some ⟨pb, po, none⟩) np c.parts.c, .slice c.wins.a c.wins.l.length c.wins.c, .slice c.regs.a c.regs.l.length c.regs.c, .slice c.ports.a c.ports.l.length c.ports.c, .slice c.chans.a c.chans.l.length c.chans.c]) := hide (Blk.grown (HX2.out) hg3 (fun e => by have := HA2.out n7 e.symm; omega)); have HA3 : Hid (∀ r, (Value.slice a3 (0 + c.wins.l.length + 1) c3).ownBlock = some r → w7.heap.size ≤ r) := hide (fun r hr => by rcases hat3 with h | h; exact HA2.out r (by rw [← h]; exact hr); (rw [h] at hr; injection hr with hr; first | (simp at hr; omega) | omega)); have hz3' : w7.heap.size ≤ w9.heap.size := (by have h := hg3.size; first | (simp at h; omega) | omega); have s3 := HX3.out.cell 2; have f3 := HX3.out.frozen 2; clear hown3 hg3 hat3)
            | (refine step_append_any _ rfl (.tmp 48) (.tmp 50) 24 rfl w7.heap.size 45 i0 _ 3 24 Try.underlying24 HII.out hz0 hz1 hz2 rfl (by decide) (.slice a2 (0 + c.wins.l.length) c2) (0 + c.wins.l.length) ([] ++ c.wins.l.flatMap winL) (by simp [Act.eval]) (HO2.out.alloc _) (w8.heap.size + 1) (some ⟨w8.heap.size, 0, none⟩) 1 1 (winL ⟨glo, glen, pid⟩) (by simp [Act.eval]) (win_reads w8 ⟨glo, glen, pid⟩ 45) (wn_one _) (by simp only [maxLen]; omega) (by omega) (by simp; omega) ?_; intro v3 w9 hown3 hg3 hat3; obtain ⟨a3, c3, rfl⟩ := own_slice hown3; have HO3 := hide hown3; have HK3 : Hid (Below w6.heap.size w6 w9) := hide (Below.grown (HK2.out.alloc HK2.out.size _) hg3 (by first | omega | (simp; omega)) (fun r hr => by have := HA2.out r hr; omega)); have HX3 : Hid (Blk w9 n7 29 #[.int .u64 (c.frame : Int), .slice (some ⟨pb, po, none⟩) np c.parts.c, .slice c.wins.a c.wins.l.length c.wins.c, .slice c.regs.a c.regs.l.length c.regs.c, .slice c.ports.a c.ports.l.length c.ports.c, .slice c.chans.a c.chans.l.length c.chans.c]) := hide (Blk.grown (HX2.out.alloc _) hg3 (fun e => by have := HA2.out n7 e.symm; omega)); have HA3 : Hid (∀ r, (Value.slice a3 (0 + c.wins.l.length + 1) c3).ownBlock = some r → w7.heap.size ≤ r) := hide (fun r hr => by rcases hat3 with h | h; exact HA2.out r (by rw [← h]; exact hr); (rw [h] at hr; injection hr with hr; first | (simp at hr; omega) | omega)); have hz3' : w7.heap.size ≤ w9.heap.size := (by have h := hg3.size; first | (simp at h; omega) | omega); have s3 := HX3.out.cell 2; have f3 := HX3.out.frozen 2; clear hown3 hg3 hat3))
        all_goals
          have HXX : Hid (BoxX w c ⟨glo, glen, pid⟩ a3 c3 n6 n7 (w9.setCell ⟨n7, 2, none⟩ (.slice a3 (c.wins.l.length + 1) c3))) := hide (boxx_start (b7 := w7.heap.size) HC0.out HB6.out HW6.out HK3.out (by have := HX3.out; unfold cfgC; rw [← HPA.out, ← HNP.out]; exact this) (by omega) (by omega) (by have := HO3.out; rw [Nat.zero_add] at this; simpa [List.flatMap_append] using this))
          generalize w9.setCell ⟨n7, 2, none⟩ (.slice a3 (c.wins.l.length + 1) c3) = v9 at *
          have hpid : pid ∈ ids c.parts.l := List.mem_map_of_mem (f := fun x : PartR => x.id) HID2.out
          obtain ⟨HM1, ⟨bn, HM2, HM3⟩, HM4⟩ := more_calls (a := a3) (cap := c3) HOK.out HSM.out HRR.out (g := (glo, glen)) (by rw [← HGS.out]; exact HGM.out) hpid (HOK.out.parts _ HID2.out).1 w HC0.out n6 n7
          rw [← HGS.out, ← HM.out] at HM4
          unfold cfgV at HM1 HM2 HM3 HM4
          unfold addC at HM1 HM3 HM4
          simp only [List.length_append, List.length_singleton] at HM1 HM2 HM3 HM4
          rw [← HPA.out, ← HNP.out] at HM1 HM2 HM3 HM4
          have HM1 := hide HM1
          have HM2 := hide HM2
          have HM3 := hide HM3
          have HM4 := hide HM4
          have hbs := wrap_add bn glen
          generalize (bn + glen) % 18446744073709551616 = bm at *
          have HSX : Hid (∀ W, BoxX w c ⟨glo, glen, pid⟩ a3 c3 n6 n7 W → (W.cell? ⟨w.heap.size, 0, none⟩ = some (.int .u64 (c.frame : Int)) ∧ W.cell? ⟨w.heap.size, 1, none⟩ = some (.slice (some ⟨pb, po, none⟩) np c.parts.c) ∧ W.cell? ⟨w.heap.size, 2, none⟩ = some (.slice c.wins.a c.wins.l.length c.wins.c) ∧ W.cell? ⟨w.heap.size, 3, none⟩ = some (.slice c.regs.a c.regs.l.length c.regs.c) ∧ W.cell? ⟨w.heap.size, 4, none⟩ = some (.slice c.ports.a c.ports.l.length c.ports.c) ∧ W.cell? ⟨w.heap.size, 5, none⟩ = some (.slice c.chans.a c.chans.l.length c.chans.c) ∧ W.cell? ⟨n7, 0, none⟩ = some (.int .u64 (c.frame : Int)) ∧ W.cell? ⟨n7, 1, none⟩ = some (.slice (some ⟨pb, po, none⟩) np c.parts.c) ∧ W.cell? ⟨n7, 2, none⟩ = some (.slice a3 (c.wins.l.length + 1) c3) ∧ W.cell? ⟨n7, 3, none⟩ = some (.slice c.regs.a c.regs.l.length c.regs.c) ∧ W.cell? ⟨n7, 4, none⟩ = some (.slice c.ports.a c.ports.l.length c.ports.c) ∧ W.cell? ⟨n7, 5, none⟩ = some (.slice c.chans.a c.chans.l.length c.chans.c) ∧ W.cell? ⟨n6, 1, none⟩ = some (.int .u64 (glen : Int)) ∧ W.cell? ⟨n6, 2, none⟩ = some (.int .u16 (pid : Int)) ∧ BoxX w c ⟨glo, glen, pid⟩ a3 c3 n6 n7 W)) := hide (fun W hW => by
            obtain ⟨k0, k1, k2, k3, k4, k5⟩ := HBC.out W hW.1
            have h1 := hW.2.1
            unfold addC cfgC at h1
            simp only [List.length_append, List.length_singleton] at h1
            rw [← HPA.out, ← HNP.out] at h1
            exact ⟨k0, k1, k2, k3, k4, k5, h1.cell 0, h1.cell 1, h1.cell 2, h1.cell 3, h1.cell 4, h1.cell 5, hW.2.2.1.cell 1, hW.2.2.1.cell 2, hW⟩)
          have HN1 := hide (fun W hW => show Calls Try.prog 10 _ W (fun e w' => e = .returned (.agg #[.int .i64 0, .int .i64 0, .int .i64 0]) ∧ Below W.heap.size W w') from HM1.out W hW)
          have HN4 := hide (fun W hW => show Calls Try.prog 17 _ W (fun e w' => (∃ ga gc, e = .returned (.slice ga (m - 1) gc)) ∧ Below W.heap.size W w') from by
            obtain ⟨L, hL, hC⟩ := HM4.out W hW
            refine hC.mono ?_
            rintro e w' ⟨ga, gc, rfl, _, hb⟩
            have hl : L.length = m - 1 := by omega
            exact ⟨⟨ga, gc, by rw [hl]⟩, hb⟩)
          have hm1 : IntKind.i64.wrap ((m : Int) - 1) = ((m - 1 : Nat) : Int) := by
            have e : (m : Int) - 1 = ((m - 1 : Nat) : Int) := by omega
            rw [e]
            exact IntWalk.i64_in _ (by omega)
          have hmn : IntKind.u64.wrap ((bn : Int) + (glen : Int)) = (bm : Int) := hbs
          generalize m - 1 = m1 at *
          have fe := fun W => fault_eql 0 0 0 0 0 0 W
          have fg := fun o x y xs ys W => fault_guard o x y xs ys W
          have nb : ((0 : Int) == 0 && ((0 : Int) == 0 && (0 : Int) == 0)) = true := rfl
          rw [nb] at fe
          have e5 : ((bm : Int) == (bm : Int)) = true := beq_self_eq_true _
          have e6 : ((m1 : Int) == (m1 : Int)) = true := beq_self_eq_true _
          clear nb
          go_wp2
          go_region_held3 (fun W => (W.cell? ⟨w.heap.size, 0, none⟩ = some (.int .u64 (c.frame : Int)) ∧ W.cell? ⟨w.heap.size, 1, none⟩ = some (.slice (some ⟨pb, po, none⟩) np c.parts.c) ∧ W.cell? ⟨w.heap.size, 2, none⟩ = some (.slice c.wins.a c.wins.l.length c.wins.c) ∧ W.cell? ⟨w.heap.size, 3, none⟩ = some (.slice c.regs.a c.regs.l.length c.regs.c) ∧ W.cell? ⟨w.heap.size, 4, none⟩ = some (.slice c.ports.a c.ports.l.length c.ports.c) ∧ W.cell? ⟨w.heap.size, 5, none⟩ = some (.slice c.chans.a c.chans.l.length c.chans.c) ∧ W.cell? ⟨n7, 0, none⟩ = some (.int .u64 (c.frame : Int)) ∧ W.cell? ⟨n7, 1, none⟩ = some (.slice (some ⟨pb, po, none⟩) np c.parts.c) ∧ W.cell? ⟨n7, 2, none⟩ = some (.slice a3 (c.wins.l.length + 1) c3) ∧ W.cell? ⟨n7, 3, none⟩ = some (.slice c.regs.a c.regs.l.length c.regs.c) ∧ W.cell? ⟨n7, 4, none⟩ = some (.slice c.ports.a c.ports.l.length c.ports.c) ∧ W.cell? ⟨n7, 5, none⟩ = some (.slice c.chans.a c.chans.l.length c.chans.c) ∧ W.cell? ⟨n6, 1, none⟩ = some (.int .u64 (glen : Int)) ∧ W.cell? ⟨n6, 2, none⟩ = some (.int .u16 (pid : Int)) ∧ BoxX w c ⟨glo, glen, pid⟩ a3 c3 n6 n7 W))
            (first | assumption | exact HSX.out _ HXX.out.drew | exact HSX.out _ HXX.out | exact HSX.out _ (BoxX.below (And.right (And.right (And.right (And.right (And.right (And.right (And.right (And.right (And.right (And.right (And.right (And.right (And.right (And.right (by assumption))))))))))))))) (by assumption)))
            (first
              | (go_at_call 8; refine (HAL.out _).mono ?_; rintro e wn ⟨rfl, hb⟩)
              | (go_at_call 10; refine (HN1.out _ (And.right (And.right (And.right (And.right (And.right (And.right (And.right (And.right (And.right (And.right (And.right (And.right (And.right (And.right (by assumption)))))))))))))))).mono ?_; rintro e wn ⟨rfl, hb⟩)
              | (go_at_call 15; refine (HM2.out _ (And.right (And.right (And.right (And.right (And.right (And.right (And.right (And.right (And.right (And.right (And.right (And.right (And.right (And.right (by assumption)))))))))))))))).mono ?_; rintro e wn ⟨rfl, hb⟩)
              | (go_at_call 14; refine (HM3.out _ (And.right (And.right (And.right (And.right (And.right (And.right (And.right (And.right (And.right (And.right (And.right (And.right (And.right (And.right (by assumption)))))))))))))))).mono ?_; rintro e wn ⟨rfl, hb⟩)
              | (go_at_call 17; refine (HN4.out _ (And.right (And.right (And.right (And.right (And.right (And.right (And.right (And.right (And.right (And.right (And.right (And.right (And.right (And.right (by assumption)))))))))))))))).mono ?_; rintro e wn ⟨⟨ga2, gc2, rfl⟩, hb⟩))
          have HE : Hid (BoxX w c ⟨glo, glen, pid⟩ a3 c3 n6 n7 wn) := hide (And.right (And.right (And.right (And.right (And.right (And.right (And.right (And.right (And.right (And.right (And.right (And.right (And.right (And.right (by assumption)))))))))))))))
          go_wp2
          go_ret
          exact ⟨rfl, HE.out.1.1⟩
  · have hrf : rightB c = false := by simpa using hr
    rw [hrf] at HR
    clear h hok hsm hB0 HRI hr hrf
    go_enter Try.func5, Try.ntmps5
    go_wp2_with (first
      | (go_at_call 11; refine (HR.out _ HB0.out).mono ?_; rintro e w1 ⟨rfl, hb⟩; have HB1 := hide (HB0.out.below hb); clear hb)
      | (go_at_call 8; refine (HAL.out _).mono ?_; rintro e w2 ⟨rfl, hb⟩; have HB2 := hide (HB1.out.below hb); clear hb))
    go_ret
    exact ⟨rfl, HB2.out.1⟩
end Go.Proofs.Ythccadabblkalaa
