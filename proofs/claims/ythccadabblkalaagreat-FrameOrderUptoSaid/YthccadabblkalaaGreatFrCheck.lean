/- frame.Check (chapter 15). -/
import Derived.Test.YthccadabblkalaaGreatFrOver
import Derived.Test.YthccadabblkalaaGreatFrChk0
import Derived.Laws.ResultCell
import Derived.Laws.Rows
import Derived.Laws.Tables
namespace Go.Proofs.YthccadabblkalaaGreat
open Go.RowKit Go.Sort
set_option linter.unusedVariables false

def fltC (r : Nat × Nat × Nat) : Array Value := #[.int .i64 (r.1 : Int), .int .i64 (r.2.1 : Int), .int .i64 (r.2.2 : Int)]
theorem flt_size (r : Nat × Nat × Nat) (T : TypeId) (hT : T = 46) : (Tryz.prog.info? T).map (·.size) = some (fltC r).size := by subst hT; kernel_rfl
theorem flt_one (r : Nat × Nat × Nat) : (fltC r).all (·.oneCell') = true := by rw [← Array.all_toList]; rfl
theorem row_put3 {w : World} {B : Nat} {t : TypeId} {cs cs' : Array Value} (h : Blk w B t cs) : Blk (w.setRow B cs') B t cs' := setRow_heap w B cs cs' t (0, 0) h
theorem below_row {a w : World} {B g : Nat} (h : Below B a w) (hg : B ≤ g) (cs : Array Value) : Below B a (w.setRow g cs) :=
  ⟨h.os, h.tape, h.output, Nat.le_trans h.size (by simp [World.setRow]), fun i hi => (setRow_other w g i cs (by omega)).trans (h.block i hi)⟩
theorem load_flt {w : World} {g : Nat} {cs : Array Value} (hg : Blk w g 46 cs) (hc : cs.size = 3) : (loadVar 46 ⟨g, 0, none⟩).run Tryz.prog w = .ok (.agg cs) w :=
  run_loadVar_row (P := Tryz.prog) w g 46 46 cs (0, 0) _ hg Tryz.underlying46 rfl (by rw [hc]; kernel_rfl)
theorem res_cell1 {fn : Func} {p : Tmp} {ty : TypeId} (h : fn.results = #[.cell p ty]) (tmps : Array Value) (w : World) (g : Nat) (cs : Array Value)
    (hp : tmps.getD p undef = .pointer (some ⟨g, 0, none⟩)) (hl : (loadVar ty ⟨g, 0, none⟩).run Tryz.prog w = .ok (.agg cs) w) :
    (results fn tmps).run Tryz.prog w = .ok (.agg cs) w := by
  have hp' : tmps[p]?.getD undef = .pointer (some ⟨g, 0, none⟩) := by simpa using hp
  simp [results, h, hp', asAddr, hl]
/-- The configuration's box, and the result's. -/
def Boxed3 (w : World) (c : Cfg) (W : World) : Prop := Boxed1 w c W ∧ Blk W (w.heap.size + 1) 46 (fltC (0, 0, 0))
theorem Boxed3.below {w W W' : World} {c : Cfg} (h : Boxed3 w c W) (hb : Below W.heap.size W W') : Boxed3 w c W' := ⟨h.1.below hb, h.2.below hb h.2.lt⟩
theorem Boxed3.alloc {w W : World} {c : Cfg} (h : Boxed3 w c W) (o : Obj) : Boxed3 w c (W.alloc o) := ⟨h.1.alloc o, h.2.alloc o⟩
theorem Boxed3.drew {w W : World} {c : Cfg} (h : Boxed3 w c W) : Boxed3 w c W.drew := ⟨⟨h.1.1.drew, h.1.2⟩, h.2⟩
theorem Boxed3.start (w : World) (c : Cfg) : Boxed3 w c ((w.alloc (.cells (cfgC c) 29)).alloc (.cells (fltC (0, 0, 0)) 46)) := by
  refine ⟨(Boxed1.start w c).alloc _, ?_⟩
  have := Blk.new (w.alloc (.cells (cfgC c) 29)) 46 (fltC (0, 0, 0))
  rwa [World.size_alloc] at this
/-- The end: the fault stored in the result's box. -/
theorem Boxed3.stored {w W : World} {c : Cfg} (h : Boxed3 w c W) (r : Nat × Nat × Nat) : (loadVar 46 ⟨w.heap.size + 1, 0, none⟩).run Tryz.prog (W.setRow (w.heap.size + 1) (fltC r)) = .ok (.agg (fltC r)) (W.setRow (w.heap.size + 1) (fltC r)) ∧ Below w.heap.size w (W.setRow (w.heap.size + 1) (fltC r)) :=
  ⟨load_flt (row_put3 h.2) rfl, below_row h.1.1 (by omega) _⟩
theorem ok_of_code {c : Cfg} {x : WinR} (h : winCode c x = 0) (hf : c.frame < 18446744073709551616) : okSpan (wsp x) := by
  unfold winCode at h
  split at h
  · cases h
  · split at h
    · cases h
    · unfold okSpan wsp
      simp only
      omega
theorem ret_f {a b : Nat × Nat × Nat} (h : a = b) : Ending.returned (.agg (fltC a)) = .returned (.agg (fltC b)) := by rw [h]
set_option maxRecDepth 100000 in
set_option maxHeartbeats 8000000 in
theorem FCheck_calls (c : Cfg) (w : World) (h : CfgAt w.heap.size c w) (hok : c.Ok) (hsm : c.Small) (hw : c.wins.l.length ≤ 1000) :
    Calls Tryz.prog 16 #[cfgV c] w fun e w' => e = .returned (.agg (fltC (checkR c))) ∧ Below w.heap.size w w' := by
  have HNEW := hide (fun W (hW : Boxed3 w c W) => New_calls c W (hW.1.cfg h) hok hsm)
  have HCF := hide (fun W (hW : Boxed3 w c W) => hW.1.cfg h)
  have HSP := hide (fun W (hW : Boxed3 w c W) => spans_calls c.wins W (RowAt.more (h.wins.below hW.1.1) hW.1.1.size) (by omega))
  have hB0 := Boxed3.start w c
  have hcap := h.wins.2
  obtain ⟨R, hR⟩ : ∃ R, R = checkR c := ⟨_, rfl⟩
  rw [← hR]
  have HR := hide hR
  have HOW := hide hok.wins
  have HFR := hide hok.frame
  have HW := hide hw
  obtain ⟨n, hn⟩ : ∃ n, n = c.wins.l.length := ⟨_, rfl⟩
  obtain ⟨wa, hwa⟩ : ∃ a, a = c.wins.a := ⟨_, rfl⟩
  have hnI : (n : Int) ≤ 1048576 := by omega
  have hcI : (n : Int) ≤ (c.wins.c : Int) := by omega
  have HN := hide hn
  have HWA := hide hwa
  have HBC := hide (fun W (hW : Boxed3 w c W) => hW.1.cells)
  unfold cfgV
  unfold cfgC fltC at hB0
  rw [← hn, ← hwa] at HBC hB0 HSP ⊢
  unfold cfgV at HNEW
  rw [← hn, ← hwa] at HNEW
  have HB0 := hide hB0
  have eF : ∀ args w, (callFunc 28 args).run Tryz.prog w = .ok (.enter 28 args) w := enters_of Tryz.func28 (by kernel_rfl) rfl
  clear h hok hsm hw hcap hR hn hB0 hwa
  by_cases hf0 : c.frame = 0
  · have f0 : ((c.frame : Int) == 0) = true := by rw [hf0]; rfl
    have HE : Hid (R = (17, 0, 0)) := hide (by rw [HR.out]; unfold checkR; rw [if_pos hf0])
    generalize c.frame = fr at *
    clear hf0
    go_enter Tryz.func16, Tryz.ntmps16
    go_wp2
    refine bodyPost_ret (v := .agg #[.int .i64 17, .int .i64 0, .int .i64 0]) (by simp [results, Tryz.results16, go_sem]) rfl ⟨?_, ?_⟩
    · rw [HE.out]; rfl
    · exact ((Below.refl _ w).alloc (Nat.le_refl _) _).alloc (by simp) _
  · have f0 : ((c.frame : Int) == 0) = false := by rw [beq_eq_false_iff_ne]; omega
    have HF0 := hide hf0
    clear hf0
    go_enter Tryz.func16, Tryz.ntmps16
    go_wp2
    generalize (w.alloc (.cells #[.int .u64 (c.frame : Int), .slice c.parts.a c.parts.l.length c.parts.c, .slice wa n c.wins.c, .slice c.regs.a c.regs.l.length c.regs.c, .slice c.ports.a c.ports.l.length c.ports.c, .slice c.chans.a c.chans.l.length c.chans.c] 29)).alloc (.cells #[.int .i64 0, .int .i64 0, .int .i64 0] 46) = W0 at *
    have HSX : Hid (∀ w', Boxed3 w c w' → (w'.cell? ⟨w.heap.size, 0, none⟩ = some (.int .u64 (c.frame : Int)) ∧ w'.cell? ⟨w.heap.size, 1, none⟩ = some (.slice c.parts.a c.parts.l.length c.parts.c) ∧ w'.cell? ⟨w.heap.size, 2, none⟩ = some (.slice wa n c.wins.c) ∧ w'.cell? ⟨w.heap.size, 3, none⟩ = some (.slice c.regs.a c.regs.l.length c.regs.c) ∧ w'.cell? ⟨w.heap.size, 4, none⟩ = some (.slice c.ports.a c.ports.l.length c.ports.c) ∧ w'.cell? ⟨w.heap.size, 5, none⟩ = some (.slice c.chans.a c.chans.l.length c.chans.c) ∧ Boxed3 w c w')) := hide (fun w' hw => by obtain ⟨a0, a1, a2, a3, a4, a5⟩ := HBC.out w' hw; exact ⟨a0, a1, a2, a3, a4, a5, hw⟩)
    have mixed := mixed_prog
    go_region_held3 (fun w' => (w'.cell? ⟨w.heap.size, 0, none⟩ = some (.int .u64 (c.frame : Int)) ∧ w'.cell? ⟨w.heap.size, 1, none⟩ = some (.slice c.parts.a c.parts.l.length c.parts.c) ∧ w'.cell? ⟨w.heap.size, 2, none⟩ = some (.slice wa n c.wins.c) ∧ w'.cell? ⟨w.heap.size, 3, none⟩ = some (.slice c.regs.a c.regs.l.length c.regs.c) ∧ w'.cell? ⟨w.heap.size, 4, none⟩ = some (.slice c.ports.a c.ports.l.length c.ports.c) ∧ w'.cell? ⟨w.heap.size, 5, none⟩ = some (.slice c.chans.a c.chans.l.length c.chans.c) ∧ Boxed3 w c w'))
      (first | assumption | exact HSX.out _ HB0.out.drew | exact HSX.out _ (Boxed3.below (And.right (And.right (And.right (And.right (And.right (And.right (by assumption))))))) (by assumption)))
      (first | (go_at_call 27; refine (HNEW.out _ (And.right (And.right (And.right (And.right (And.right (And.right (by assumption)))))))).mono ?_; rintro e w2 ⟨g, rfl, hidx, hb⟩))
    have HB2 : Hid (Boxed3 w c w2) := hide (And.right (And.right (And.right (And.right (And.right (And.right (by assumption : _ ∧ _ ∧ _ ∧ _ ∧ _ ∧ _ ∧ Boxed3 w c w2)))))))
    have HIX := hide hidx
    clear hidx hb HSX HB0
    obtain ⟨_, _, b2, _, _, _⟩ := HBC.out w2 HB2.out
    go_wp2
    obtain ⟨wo, rfl⟩ : ∃ wo : World, wo = w2 := ⟨_, rfl⟩
    clear b2
    go_loopw [22] (fun v wr => ∃ k : Nat, k ≤ n ∧ v = .int .i64 (k : Int) ∧ Hid (Boxed3 w c wr ∧ IdxAt (ids c.parts.l) g wr ∧ ∀ y ∈ c.wins.l.take k, winCode c y = 0)) (fun v _ => n - (intOf v).toNat)
    case atStart => exact ⟨0, Nat.zero_le _, rfl, hide ⟨HB2.out, HIX.out, by simp⟩⟩
    case round =>
      obtain ⟨k, hk, rfl, hrel⟩ := hrel
      by_cases hlt : k < n
      · have hlt2 : (k : Int) < (n : Int) := by omega
        have hkl : k < c.wins.l.length := by have := HN.out; omega
        obtain ⟨b, o, ha, hab, x0, x1, x2⟩ := win_at (HCF.out wr hrel.out.1).wins k hkl
        obtain rfl : wa = some ⟨b, o, none⟩ := HWA.out.trans ha
        have hxo := HOW.out c.wins.l[k] (List.getElem_mem _)
        have HBAD := hide (fun h => (HR.out.trans (checkR_bad HF0.out hkl hrel.out.2.2 h)))
        have HTK := hide (fun h => take_all hkl hrel.out.2.2 h)
        have hbz : b < wr.heap.size := cell_lt x0
        have HHA := hide ha
        clear ha hab
        generalize c.wins.l[k] = x at *
        have HWC : Hid (∀ W, IdxAt (ids c.parts.l) g W → Calls Tryz.prog 28 #[.agg #[.int .u64 (c.frame : Int), .pointer (some ⟨g, 0, none⟩)], .agg #[.int .u64 (x.st : Int), .int .u64 (x.len : Int), .int .u16 (x.part : Int)]] W fun e w' => e = .returned (.int .i64 ((winCode c x : Nat) : Int)) ∧ Below W.heap.size W w') := hide (fun W hW => by
          have := window_calls c.frame g (ids c.parts.l) x W hW hxo
          rwa [winP_eq c x HFR.out] at this)
        have HB4 := hide (hrel.out.1.alloc (.cells #[.int .u64 (x.st : Int), .int .u64 (x.len : Int), .int .u16 (x.part : Int)] 36))
        have HI4 := hide (hrel.out.2.1.below ((Below.refl _ wr).alloc (Nat.le_refl _) (.cells #[.int .u64 (x.st : Int), .int .u64 (x.len : Int), .int .u16 (x.part : Int)] 36)))
        obtain ⟨cd, hcd⟩ : ∃ d, d = winCode c x := ⟨_, rfl⟩
        rw [← hcd] at HWC HBAD HTK
        clear hrel hxo hcd
        by_cases h0 : cd = 0
        · have e0 : ((cd : Int) != 0) = false := by rw [h0]; rfl
          have e1 : ((cd : Int) == 0) = true := by rw [h0]; rfl
          have HG := hide (HTK.out h0)
          clear h0
          go_wp2_with (go_at_call 28; refine (HWC.out _ HI4.out).mono ?_; rintro e w5 ⟨rfl, hb⟩; have HB5 := hide (HB4.out.below hb); have HI5 := hide (HI4.out.below hb); clear hb)
          go_roundw
          case rel => exact ⟨k + 1, by omega, by go_num, hide ⟨HB5.out, HI5.out, HG.out⟩⟩
          case measure => simp [intOf]; omega
        · have e0 : ((cd : Int) != 0) = true := by rw [bne_iff_ne]; omega
          have e1 : ((cd : Int) == 0) = false := by rw [beq_eq_false_iff_ne]; omega
          have HE := hide (HBAD.out h0)
          clear h0
          go_wp2_with (first
            | (go_at_call 28; refine (HWC.out _ HI4.out).mono ?_; rintro e w5 ⟨rfl, hb⟩; have HB5 := hide (HB4.out.below hb); clear hb)
            | (refine wpList_store_row rfl 46 (.tmp 2) (.tmp 34) rfl (w.heap.size + 1) (fltC (cd, 2, k)) rfl rfl 46 (fltC (0, 0, 0)) HB5.out.2 (flt_size _ _ rfl) rfl (flt_one _) ?_))
          refine bodyPost_ret (res_cell1 (p := 2) rfl _ _ (w.heap.size + 1) _ rfl (HB5.out.stored _).1) rfl ⟨?_, (HB5.out.stored _).2⟩
          rw [HE.out]
      · have hkn : k = n := by omega
        subst hkn
        have HALL : Hid (∀ y ∈ c.wins.l, winCode c y = 0) := hide (by have := hrel.out.2.2; rwa [List.take_of_length_le (by rw [HN.out]; exact Nat.le_refl _)] at this)
        have HB1 := hide hrel.out.1
        have hokS : ∀ s ∈ c.wins.l.map wsp, okSpan s := fun s hs => by
          obtain ⟨x, hx, rfl⟩ := List.mem_map.1 hs
          exact ok_of_code (HALL.out x hx) HFR.out
        have HFI := hide (fun W a c' (hW : W.ownsRow 0 53 2 (.slice a (c.wins.l.map wsp).length c') (c.wins.l.map wsp).length ((c.wins.l.map wsp).flatMap spL)) => First_nil (c.wins.l.map wsp) 0 c' a W hokS hW (by rw [List.length_map]; exact HW.out))
        have hov := over_eq c.wins.l hokS
        obtain ⟨f1, hf1⟩ : ∃ f, f = (firstOf (fun _ => false) (pairsR (c.wins.l.map wsp))).1 := ⟨_, rfl⟩
        obtain ⟨f2, hf2⟩ : ∃ f, f = (firstOf (fun _ => false) (pairsR (c.wins.l.map wsp))).2 := ⟨_, rfl⟩
        rw [← hf1, ← hf2] at HFI
        rw [← hf2] at hov
        have HSP1 := hide (HSP.out wr HB1.out)
        have hRe : R = match firstOver c.wins.l with | some j => (21, 2, j) | none => (0, 0, 0) := by
          rw [HR.out]
          unfold checkR
          rw [if_neg HF0.out, badAt_none HALL.out]
          cases firstOver c.wins.l <;> rfl
        obtain ⟨_, _, b2, _, _, _⟩ := HBC.out wr HB1.out
        clear hlt hk hrel hokS hf1 hf2 HB2 HIX HSP
        obtain ⟨m, hm⟩ : ∃ m, m = (c.wins.l.map wsp).length := ⟨_, rfl⟩
        unfold GapsV at HSP1
        rw [← hm] at HSP1 HFI
        cases hfo : firstOver c.wins.l with
        | none =>
          rw [hfo] at hov hRe
          simp only at hov hRe
          have HE := hide hRe
          have e2 : decide (0 ≤ f2) = false := by rw [hov]; rfl
          have e3 : decide ((0 : Int) ≤ f2) = false := e2
          clear hov hRe hfo hm
          go_wp2_with (first
            | (go_at_call 20; refine HSP1.out.mono ?_; rintro e w5 ⟨a5, c5, rfl, ho, hb⟩; have HO5 := hide (own_base ho (Nat.zero_le _)); have HB5 := hide (HB1.out.below hb); clear ho hb)
            | (go_at_call 29; refine (HFI.out _ _ _ HO5.out).mono ?_; rintro e w6 ⟨rfl, hb⟩; have HB6 := hide (HB5.out.below hb); clear hb)
            | (refine wpList_store_row rfl 46 (.tmp 2) (.tmp 47) rfl (w.heap.size + 1) (fltC (0, 0, 0)) rfl rfl 46 (fltC (0, 0, 0)) HB6.out.2 (flt_size _ _ rfl) rfl (flt_one _) ?_))
          refine bodyPost_ret (res_cell1 (p := 2) rfl _ _ (w.heap.size + 1) _ rfl (HB6.out.stored _).1) rfl ⟨?_, (HB6.out.stored _).2⟩
          rw [HE.out]
        | some j =>
          rw [hfo] at hov hRe
          simp only at hov hRe
          have HE := hide hRe
          subst hov
          clear hRe hfo hm
          go_wp2_with (first
            | (go_at_call 20; refine HSP1.out.mono ?_; rintro e w5 ⟨a5, c5, rfl, ho, hb⟩; have HO5 := hide (own_base ho (Nat.zero_le _)); have HB5 := hide (HB1.out.below hb); clear ho hb)
            | (go_at_call 29; refine (HFI.out _ _ _ HO5.out).mono ?_; rintro e w6 ⟨rfl, hb⟩; have HB6 := hide (HB5.out.below hb); clear hb)
            | (refine wpList_store_row rfl 46 (.tmp 2) (.tmp 46) rfl (w.heap.size + 1) (fltC (21, 2, j)) rfl rfl 46 (fltC (0, 0, 0)) HB6.out.2 (flt_size _ _ rfl) rfl (flt_one _) ?_))
          refine bodyPost_ret (res_cell1 (p := 2) rfl _ _ (w.heap.size + 1) _ rfl (HB6.out.stored _).1) rfl ⟨?_, (HB6.out.stored _).2⟩
          rw [HE.out]
end Go.Proofs.YthccadabblkalaaGreat
