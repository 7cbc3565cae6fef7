/- The walk of the law FrameOrder (chapter 15). -/
import Derived.Test.YthccadabblkalaaGreatFrRevL
import Derived.Deep.RegionHeld3
import Derived.BigQuiet
namespace Go.Proofs.YthccadabblkalaaGreat
open Go.RowKit Go.Sort
set_option linter.unusedVariables false
set_option linter.unusedSimpArgs false

set_option maxRecDepth 100000 in
set_option maxHeartbeats 8000000 in
theorem FrameOrder_few (c : Cfg) (w : World) (h : CfgAt w.heap.size c w) (hok : c.Ok) (hsm : c.Small) (hfw : fewB c = false) :
    Calls Tryz.prog 4 #[cfgV c] w fun e w' => e = .returned (.bool true) ∧ Below w.heap.size w w' := by
  have HAL := hide (fun W => alive_calls W)
  have hB0 := Boxed1.start w c
  have HFW := hide (fun W (hW : Boxed1 w c W) => Few_calls c W (hW.cfg h) hok hsm)
  have HRT := hide (fun W (hW : Boxed1 w c W) => Right_calls c W (hW.cfg h) hok hsm)
  have HBC := hide (fun W (hW : Boxed1 w c W) => hW.cells)
  have hrp : c.wins.l.reverse.Perm c.wins.l := List.reverse_perm _
  have HST := hide (fun w1 w4 w6 a cap hb1 hg ho hbut => boxd_start (w1 := w1) (w4 := w4) (w6 := w6) (l := c.wins.l.reverse) (a := a) (cap := cap) h hb1 hg (List.length_reverse) rfl ho hbut)
  have HRD := hide (fun W (hW : Boxed1 w c W) => (h.wins.1.below hW.1))
  have hcap := h.wins.2
  unfold cfgC at hB0
  have HB0 := hide hB0
  rw [hfw] at HFW
  unfold cfgV at HFW ⊢
  clear h hok hsm hB0 hfw HRT HST HRD hcap hrp
  go_enter Tryz.func4, Tryz.ntmps4
  obtain ⟨b0, b1, b2, b3, b4, b5⟩ := HBC.out _ HB0.out
  go_wp2_with (first
    | (go_at_call 14; refine (HFW.out _ HB0.out).mono ?_; rintro e w1 ⟨rfl, hb⟩; have HB1 := hide (HB0.out.below hb); clear hb)
    | (go_at_call 6; refine (HAL.out _).mono ?_; rintro e w2 ⟨rfl, hb⟩; have HB2 := hide (HB1.out.below hb); clear hb))
  go_ret
  exact ⟨rfl, HB2.out.1⟩
set_option maxRecDepth 100000 in
set_option maxHeartbeats 8000000 in
theorem FrameOrder_yes (c : Cfg) (w : World) (h : CfgAt w.heap.size c w) (hok : c.Ok) (hsm : c.Small) (hfw : fewB c = true) (hr : rightB c = true) :
    Calls Tryz.prog 4 #[cfgV c] w fun e w' => e = .returned (.bool true) ∧ Below w.heap.size w w' := by
  have HAL := hide (fun W => alive_calls W)
  have hB0 := Boxed1.start w c
  have HFW := hide (fun W (hW : Boxed1 w c W) => Few_calls c W (hW.cfg h) hok hsm)
  have HRT := hide (fun W (hW : Boxed1 w c W) => Right_calls c W (hW.cfg h) hok hsm)
  have HBC := hide (fun W (hW : Boxed1 w c W) => hW.cells)
  have hrp : c.wins.l.reverse.Perm c.wins.l := List.reverse_perm _
  have HST := hide (fun w1 w4 w6 a cap hb1 hg ho hbut => boxd_start (w1 := w1) (w4 := w4) (w6 := w6) (l := c.wins.l.reverse) (a := a) (cap := cap) h hb1 hg (List.length_reverse) rfl ho hbut)
  have HRD := hide (fun W (hW : Boxed1 w c W) => (h.wins.1.below hW.1))
  have hcap := h.wins.2
  unfold cfgC at hB0
  have HB0 := hide hB0
  rw [hfw] at HFW
  have hlen := few_len hfw
  have HCK := hide (fun a cap W n (hW : BoxD w c (withW c c.wins.l.reverse a cap) n W) => FCheck_calls (withW c c.wins.l.reverse a cap) W hW.2.2 (withW_ok hok hrp) (withW_small hsm hrp) (by show c.wins.l.reverse.length ≤ 1000; rw [List.length_reverse]; omega))
  obtain ⟨i0, hi, hz0, hz1, hz2⟩ := info_parts win_info3
  have HII := hide hi
  have HREV := hide (fun B a cap W own => RevW_calls c.wins.l B cap a W own (by omega))
  obtain ⟨n, hn⟩ : ∃ n, n = c.wins.l.length := ⟨_, rfl⟩
  have hnI : (n : Int) ≤ 120 := by omega
  have HNI : Hid (n ≤ 120) := hide (by omega)
  have HN := hide hn
  unfold cfgC at HST
  rw [← hn] at HST HREV HRD hB0 HB0 HBC
  have HZ := hide (fun w1 : World => by
    have := own_zero (w1.alloc (.cells #[.int .u64 (c.frame : Int), .slice c.parts.a c.parts.l.length c.parts.c, .slice c.wins.a n c.wins.c, .slice c.regs.a c.regs.l.length c.regs.c, .slice c.ports.a c.ports.l.length c.ports.c, .slice c.chans.a c.chans.l.length c.chans.c] 29)) (w1.heap.size + 1) 36 3 (by simp)
    rw [World.size_alloc] at this
    exact this)
  have hrl : c.wins.l.reverse.length = n := by rw [List.length_reverse]; exact hn.symm
  have HDC := hide (fun a cap m W (hW : BoxD w c (withW c c.wins.l.reverse a cap) m W) => hW.cells)
  simp only [withW, hrl] at HDC
  rw [← hn] at HDC
  have hck : ∀ a cap, checkR (withW c c.wins.l.reverse a cap) = (0, 0, 0) := fun a cap => (withW_right hr hrp a cap).2
  have HCK1 : Hid (∀ (a : Option Addr) (cap : Nat) (W : World) (m : Nat), BoxD w c (withW c c.wins.l.reverse a cap) m W → Calls Tryz.prog 16 #[.agg #[.int .u64 (c.frame : Int), .slice c.parts.a c.parts.l.length c.parts.c, .slice a n cap, .slice c.regs.a c.regs.l.length c.regs.c, .slice c.ports.a c.ports.l.length c.ports.c, .slice c.chans.a c.chans.l.length c.chans.c]] W fun e w' => e = .returned (.agg #[.int .i64 0, .int .i64 0, .int .i64 0]) ∧ Below W.heap.size W w') := hide (fun a cap W m hW => by
    have := HCK.out a cap W m hW
    rw [hck] at this
    unfold cfgV at this
    simp only [withW, hrl] at this
    exact this)
  have hrt : decide ((checkR c).1 = 0) = true := by rw [(right_all hr).2.2.2]; rfl
  rw [hrt] at HRT
  have hf := hok.frame
  obtain ⟨gw, hgw⟩ : ∃ g, g = (gapsR c.frame (c.wins.l.map wsp)).map idW := ⟨_, rfl⟩
  have hgl := gaps_len c.frame hf (wins_ok hr hf)
  rw [List.length_map] at hgl
  have hgp := gaps_perm hr hrp
  obtain ⟨ng, hng⟩ : ∃ n, n = gw.length := ⟨_, rfl⟩
  have HNG := hide hng
  have hngn : ng ≤ 121 := by rw [hng, hgw, List.length_map]; omega
  have HID : Hid (∀ (a : Option Addr) (cap : Nat) (W : World) (m : Nat), BoxD w c (withW c c.wins.l.reverse a cap) m W → Calls Tryz.prog 7 #[.agg #[.int .u64 (c.frame : Int), .slice c.parts.a c.parts.l.length c.parts.c, .slice a n cap, .slice c.regs.a c.regs.l.length c.regs.c, .slice c.ports.a c.ports.l.length c.ports.c, .slice c.chans.a c.chans.l.length c.chans.c]] W (WinsV gw W)) := hide (fun a cap W m hW => by
    have := Idle_calls (withW c c.wins.l.reverse a cap) W hW.2.2 (withW_ok hok hrp) (by show c.wins.l.reverse.length ≤ 1000; omega) (wins_ok (withW_right hr hrp a cap).1 hf) (by show (gapsR c.frame (c.wins.l.reverse.map wsp)).length ≤ 1000000; rw [hgp]; omega)
    unfold cfgV at this
    simp only [withW, hrl, hgp] at this
    rw [hgw]
    exact this)
  have HRI : Hid (∀ W, Boxed1 w c W → Calls Tryz.prog 10 #[cfgV c] W (WinsV gw W)) := hide (fun W hW => by
    rw [hgw]
    exact RIdle_calls c W (fun W2 hW2 => Sorted_calls c W2 (CfgAt.more ((hW.cfg h).below hW2.1) hW2.1.size) (by omega)) hf hr)
  have HOD : Hid (∀ (a : Option Addr) (cap : Nat) (W : World) (m : Nat), BoxD w c (withW c c.wins.l.reverse a cap) m W → Calls Tryz.prog 12 #[.agg #[.int .u64 (c.frame : Int), .slice c.parts.a c.parts.l.length c.parts.c, .slice a n cap, .slice c.regs.a c.regs.l.length c.regs.c, .slice c.ports.a c.ports.l.length c.ports.c, .slice c.chans.a c.chans.l.length c.chans.c]] W (OrderV c W)) := hide (fun a cap W m hW => by
    have := Order_calls (withW c c.wins.l.reverse a cap) W hW.2.2 (by show c.wins.l.reverse.length ≤ 1000; omega)
    unfold cfgV at this
    simp only [withW, hrl] at this
    refine this.mono ?_
    rintro e w' ⟨out, hp, ha, hv⟩
    exact ⟨out, hp.trans hrp, ha, hv⟩)
  have HOC := hide (fun W (hW : Boxed1 w c W) => Order_calls c W (hW.cfg h) (by omega))
  have HONE := hide (fun (l m : List WinR) (h1 : l.Perm c.wins.l) (h2 : AscW l) (h3 : m.Perm c.wins.l) (h4 : AscW m) => asc_one (right_sch hr hf h1 h2) (right_sch hr hf h3 h4) (h1.trans h3.symm))
  have HEQU := hide (fun (o : List Nat) (ho : o.length = n) W c1 c2 A1 A2 B1 B2 (h1 : W.ownsRow B1 34 1 (.slice A1 n c1) n (o.map destL)) (h2 : W.ownsRow B2 34 1 (.slice A2 n c2) n (o.map destL)) => (show Calls Tryz.prog 11 #[.slice A1 n c1, .slice A2 n c2] W (fun e w' => e = .returned (.bool true) ∧ Below W.heap.size W w') from by subst ho; exact EqU_calls o B1 B2 c1 c2 A1 A2 W h1 h2 (by omega)))
  have HEQW := hide (fun W c1 c2 A1 A2 B1 B2 (h1 : W.ownsRow B1 36 3 (.slice A1 gw.length c1) gw.length (gw.flatMap winL)) (h2 : W.ownsRow B2 36 3 (.slice A2 gw.length c2) gw.length (gw.flatMap winL)) => EqW_calls gw B1 B2 c1 c2 A1 A2 W h1 h2 (by omega))
  unfold WinsV at HID HRI
  rw [← hng] at HID HRI HEQW
  have HLP : Hid (∀ out : List WinR, out.Perm c.wins.l → (partsOf out).length = n) := hide (fun out hp => by unfold partsOf; rw [List.length_map, hp.length_eq, hn])
  unfold OrderV U16V at HOD HOC
  unfold cfgV at HFW HRT HRI HOC ⊢
  rw [← hn] at HFW HRT HRI HOC ⊢
  have fe := fun W => fault_eql 0 0 0 0 0 0 W
  have fg := fun o x y xs ys W => fault_guard o x y xs ys W
  have nb : ((0 : Int) == 0 && ((0 : Int) == 0 && (0 : Int) == 0)) = true := by rfl
  rw [nb] at fe
  clear h hok hsm hB0 hcap hfw hlen hi hn hck hrt hf hgw hgl hgp hng hr hrp nb hrl HCK
  go_enter Tryz.func4, Tryz.ntmps4
  obtain ⟨b0, b1, b2, b3, b4, b5⟩ := HBC.out _ HB0.out
  go_wp2_with (first
  | (go_at_call 14; refine (HFW.out _ HB0.out).mono ?_; rintro e w1 ⟨rfl, hb⟩; have HB1 := hide (HB0.out.below hb); have hzw : w.heap.size < w1.heap.size := HB1.out.2.lt; clear hb b0 b1 b2 b3 b4 b5; obtain ⟨b0, b1, b2, b3, b4, b5⟩ := HBC.out w1 HB1.out)
  | (at_builtin; go_must (refine wpList_append_any _ rfl (.tmp 10) (.tmp 12) 24 rfl (w1.heap.size + 1) 36 i0 _ 3 24 Tryz.underlying24 HII.out hz0 hz1 hz2 rfl (by decide) (.slice (some ⟨w1.heap.size + 1, 0, none⟩) 0 0) 0 [] rfl (HZ.out w1) w.heap.size c.wins.a n c.wins.c (c.wins.l.flatMap winL) rfl (HRD.out _ ((HB1.out.alloc _).alloc _)) (winL_one _) (by simp only [maxLen]; omega) (by omega) (by simp) ?_); intro v' w4 hown' hg hat; rw [Nat.zero_add, List.nil_append] at hown'; obtain ⟨a4, c4, rfl⟩ := own_slice hown'; have HO4 := hide hown'; have HG4 := hide hg; have HN3 : Hid (w1.heap.size < w4.heap.size) := hide (by have := hg.size; simp at this; omega); have HK4 := hide (Blk.grown ((Blk.new w1 29 #[.int .u64 (c.frame : Int), .slice c.parts.a c.parts.l.length c.parts.c, .slice c.wins.a n c.wins.c, .slice c.regs.a c.regs.l.length c.regs.c, .slice c.ports.a c.ports.l.length c.ports.c, .slice c.chans.a c.chans.l.length c.chans.c]).alloc _) hg (fun e => by injection e with e; simp at e)); have y2 : w4.frozen? ⟨w1.heap.size, 2, none⟩ = false := HK4.out.frozen 2; have y3 : w4.cell? ⟨w1.heap.size, 2, none⟩ = some (.slice c.wins.a n c.wins.c) := HK4.out.cell 2; have HO5 := hide (own_far (HO4.out) (p := ⟨w1.heap.size, 2, none⟩) (by show w1.heap.size < w1.heap.size + 1; omega) (.slice a4 n c4)); have hz4 := HN3.out; clear hown' hg hat b0 b1 b2 b3 b4 b5)
  | (go_at_call 15; refine (HREV.out _ _ _ _ HO5.out).mono ?_; rintro e w6 ⟨rfl, hown, hbut⟩; have HX6 := hide (HST.out w1 w4 w6 a4 c4 HB1.out HG4.out hown hbut); clear hown hbut y2 y3; obtain ⟨b0, b1, b2, b3, b4, b5, d0, d1, d2, d3, d4, d5, _⟩ := HDC.out a4 c4 _ _ HX6.out)
  | (go_at_call 16; refine (HCK1.out a4 c4 _ _ HX6.out).mono ?_; rintro e w7 ⟨rfl, hb⟩; have HX7 := hide (HX6.out.below hb); clear hb b0 b1 b2 b3 b4 b5 d0 d1 d2 d3 d4 d5; obtain ⟨b0, b1, b2, b3, b4, b5, d0, d1, d2, d3, d4, d5, _⟩ := HDC.out a4 c4 _ _ HX7.out)
  | (go_at_call 17; refine (HRT.out _ HX7.out.1).mono ?_; rintro e w8 ⟨rfl, hb⟩; have HX8 := hide (HX7.out.below hb); clear hb b0 b1 b2 b3 b4 b5 d0 d1 d2 d3 d4 d5; obtain ⟨b0, b1, b2, b3, b4, b5, d0, d1, d2, d3, d4, d5, _⟩ := HDC.out a4 c4 _ _ HX8.out))
  have HSX : Hid (∀ W, BoxD w c (withW c c.wins.l.reverse a4 c4) w1.heap.size W → (W.cell? ⟨w.heap.size, 0, none⟩ = some (.int .u64 (c.frame : Int)) ∧ W.cell? ⟨w.heap.size, 1, none⟩ = some (.slice c.parts.a c.parts.l.length c.parts.c) ∧ W.cell? ⟨w.heap.size, 2, none⟩ = some (.slice c.wins.a n c.wins.c) ∧ W.cell? ⟨w.heap.size, 3, none⟩ = some (.slice c.regs.a c.regs.l.length c.regs.c) ∧ W.cell? ⟨w.heap.size, 4, none⟩ = some (.slice c.ports.a c.ports.l.length c.ports.c) ∧ W.cell? ⟨w.heap.size, 5, none⟩ = some (.slice c.chans.a c.chans.l.length c.chans.c) ∧ W.cell? ⟨w1.heap.size, 0, none⟩ = some (.int .u64 (c.frame : Int)) ∧ W.cell? ⟨w1.heap.size, 1, none⟩ = some (.slice c.parts.a c.parts.l.length c.parts.c) ∧ W.cell? ⟨w1.heap.size, 2, none⟩ = some (.slice a4 n c4) ∧ W.cell? ⟨w1.heap.size, 3, none⟩ = some (.slice c.regs.a c.regs.l.length c.regs.c) ∧ W.cell? ⟨w1.heap.size, 4, none⟩ = some (.slice c.ports.a c.ports.l.length c.ports.c) ∧ W.cell? ⟨w1.heap.size, 5, none⟩ = some (.slice c.chans.a c.chans.l.length c.chans.c) ∧ BoxD w c (withW c c.wins.l.reverse a4 c4) w1.heap.size W)) := hide (fun W hW => by
    obtain ⟨k0, k1, k2, k3, k4, k5, e0, e1, e2, e3, e4, e5, _⟩ := HDC.out a4 c4 _ W hW
    exact ⟨k0, k1, k2, k3, k4, k5, e0, e1, e2, e3, e4, e5, hW⟩)
  clear b0 b1 b2 b3 b4 b5 d0 d1 d2 d3 d4 d5
  go_region_held3 (fun W => (W.cell? ⟨w.heap.size, 0, none⟩ = some (.int .u64 (c.frame : Int)) ∧ W.cell? ⟨w.heap.size, 1, none⟩ = some (.slice c.parts.a c.parts.l.length c.parts.c) ∧ W.cell? ⟨w.heap.size, 2, none⟩ = some (.slice c.wins.a n c.wins.c) ∧ W.cell? ⟨w.heap.size, 3, none⟩ = some (.slice c.regs.a c.regs.l.length c.regs.c) ∧ W.cell? ⟨w.heap.size, 4, none⟩ = some (.slice c.ports.a c.ports.l.length c.ports.c) ∧ W.cell? ⟨w.heap.size, 5, none⟩ = some (.slice c.chans.a c.chans.l.length c.chans.c) ∧ W.cell? ⟨w1.heap.size, 0, none⟩ = some (.int .u64 (c.frame : Int)) ∧ W.cell? ⟨w1.heap.size, 1, none⟩ = some (.slice c.parts.a c.parts.l.length c.parts.c) ∧ W.cell? ⟨w1.heap.size, 2, none⟩ = some (.slice a4 n c4) ∧ W.cell? ⟨w1.heap.size, 3, none⟩ = some (.slice c.regs.a c.regs.l.length c.regs.c) ∧ W.cell? ⟨w1.heap.size, 4, none⟩ = some (.slice c.ports.a c.ports.l.length c.ports.c) ∧ W.cell? ⟨w1.heap.size, 5, none⟩ = some (.slice c.chans.a c.chans.l.length c.chans.c) ∧ BoxD w c (withW c c.wins.l.reverse a4 c4) w1.heap.size W))
    (first | exact HSX.out _ HX8.out.drew | exact HSX.out _ (BoxD.below (And.right (And.right (And.right (And.right (And.right (And.right (And.right (And.right (And.right (And.right (And.right (And.right (by assumption))))))))))))) (by assumption)))
    (first
    | (go_at_call 6; refine (HAL.out _).mono ?_; rintro e wa ⟨rfl, hb⟩)
    | (go_at_call 7; refine (HID.out a4 c4 _ _ (And.right (And.right (And.right (And.right (And.right (And.right (And.right (And.right (And.right (And.right (And.right (And.right (by assumption)))))))))))))).mono ?_; rintro e wb ⟨ga, gcap, rfl, hown1, hb⟩)
    | (go_at_call 10; refine (HRI.out _ (BoxD.box1 (d := withW c c.wins.l.reverse a4 c4) (n := w1.heap.size) (And.right (And.right (And.right (And.right (And.right (And.right (And.right (And.right (And.right (And.right (And.right (And.right (by assumption))))))))))))))).mono ?_; rintro e wc ⟨ra, rcap, rfl, hown2, hb⟩; have hown1c := own_below hown1 hb)
    | (go_at_call 9; refine (HEQW.out _ _ _ _ _ _ _ hown1c hown2).mono ?_; rintro e wd ⟨rfl, hb⟩)
    | (go_at_call 12; (with_reducible refine (HOD.out a4 c4 _ _ (And.right (And.right (And.right (And.right (And.right (And.right (And.right (And.right (And.right (And.right (And.right (And.right (by assumption)))))))))))))).mono ?_); rintro e we ⟨o1, hp1, ha1, oa, ocap, rfl, hown3, hb⟩; have hl1 := HLP.out o1 hp1; rw [hl1] at hown3; try rw [hl1])
    | (go_at_call 12; (with_reducible refine (HOC.out _ (BoxD.box1 (d := withW c c.wins.l.reverse a4 c4) (n := w1.heap.size) (And.right (And.right (And.right (And.right (And.right (And.right (And.right (And.right (And.right (And.right (And.right (And.right (by assumption))))))))))))))).mono ?_); rintro e wf ⟨o2, hp2, ha2, oa2, ocap2, rfl, hown4, hb⟩; have hl2 := HLP.out o2 hp2; rw [hl2] at hown4; try rw [hl2]; obtain rfl : o1 = o2 := HONE.out o1 o2 hp1 ha1 hp2 ha2; have hown3f := own_below hown3 hb)
    | (go_at_call 11; refine (HEQU.out (partsOf o1) hl1 _ _ _ _ _ _ _ hown3f hown4).mono ?_; rintro e wg ⟨rfl, hb⟩))
  have HE : Hid (BoxD w c (withW c c.wins.l.reverse a4 c4) w1.heap.size wg) := hide (And.right (And.right (And.right (And.right (And.right (And.right (And.right (And.right (And.right (And.right (And.right (And.right (by assumption)))))))))))))
  go_wp2
  go_ret
  exact ⟨rfl, HE.out.1.1⟩
set_option maxRecDepth 100000 in
set_option maxHeartbeats 8000000 in
theorem FrameOrder_no (c : Cfg) (w : World) (h : CfgAt w.heap.size c w) (hok : c.Ok) (hsm : c.Small) (hfw : fewB c = true) (hr : ¬ rightB c = true) :
    Calls Tryz.prog 4 #[cfgV c] w fun e w' => e = .returned (.bool true) ∧ Below w.heap.size w w' := by
  have HAL := hide (fun W => alive_calls W)
  have hB0 := Boxed1.start w c
  have HFW := hide (fun W (hW : Boxed1 w c W) => Few_calls c W (hW.cfg h) hok hsm)
  have HRT := hide (fun W (hW : Boxed1 w c W) => Right_calls c W (hW.cfg h) hok hsm)
  have HBC := hide (fun W (hW : Boxed1 w c W) => hW.cells)
  have hrp : c.wins.l.reverse.Perm c.wins.l := List.reverse_perm _
  have HST := hide (fun w1 w4 w6 a cap hb1 hg ho hbut => boxd_start (w1 := w1) (w4 := w4) (w6 := w6) (l := c.wins.l.reverse) (a := a) (cap := cap) h hb1 hg (List.length_reverse) rfl ho hbut)
  have HRD := hide (fun W (hW : Boxed1 w c W) => (h.wins.1.below hW.1))
  have hcap := h.wins.2
  unfold cfgC at hB0
  have HB0 := hide hB0
  rw [hfw] at HFW
  have hlen := few_len hfw
  have HCK := hide (fun a cap W n (hW : BoxD w c (withW c c.wins.l.reverse a cap) n W) => FCheck_calls (withW c c.wins.l.reverse a cap) W hW.2.2 (withW_ok hok hrp) (withW_small hsm hrp) (by show c.wins.l.reverse.length ≤ 1000; rw [List.length_reverse]; omega))
  obtain ⟨i0, hi, hz0, hz1, hz2⟩ := info_parts win_info3
  have HII := hide hi
  have HREV := hide (fun B a cap W own => RevW_calls c.wins.l B cap a W own (by omega))
  obtain ⟨n, hn⟩ : ∃ n, n = c.wins.l.length := ⟨_, rfl⟩
  have hnI : (n : Int) ≤ 120 := by omega
  have HNI : Hid (n ≤ 120) := hide (by omega)
  have HN := hide hn
  unfold cfgC at HST
  rw [← hn] at HST HREV HRD hB0 HB0 HBC
  have HZ := hide (fun w1 : World => by
    have := own_zero (w1.alloc (.cells #[.int .u64 (c.frame : Int), .slice c.parts.a c.parts.l.length c.parts.c, .slice c.wins.a n c.wins.c, .slice c.regs.a c.regs.l.length c.regs.c, .slice c.ports.a c.ports.l.length c.ports.c, .slice c.chans.a c.chans.l.length c.chans.c] 29)) (w1.heap.size + 1) 36 3 (by simp)
    rw [World.size_alloc] at this
    exact this)
  have hrl : c.wins.l.reverse.length = n := by rw [List.length_reverse]; exact hn.symm
  have HDC := hide (fun a cap m W (hW : BoxD w c (withW c c.wins.l.reverse a cap) m W) => hW.cells)
  simp only [withW, hrl] at HDC
  rw [← hn] at HDC
  have hck : ∀ a cap, (checkR (withW c c.wins.l.reverse a cap)).1 ≠ 0 := fun a cap h0 => hr (withW_back hrp a cap (by unfold rightB; rw [withW_few hrp, hfw, h0]; rfl))
  have HCK2 : Hid (∀ (a : Option Addr) (cap : Nat) (W : World) (m : Nat), BoxD w c (withW c c.wins.l.reverse a cap) m W → ∃ ce cs ci : Int, ce ≠ 0 ∧ Calls Tryz.prog 16 #[.agg #[.int .u64 (c.frame : Int), .slice c.parts.a c.parts.l.length c.parts.c, .slice a n cap, .slice c.regs.a c.regs.l.length c.regs.c, .slice c.ports.a c.ports.l.length c.ports.c, .slice c.chans.a c.chans.l.length c.chans.c]] W fun e w' => e = .returned (.agg #[.int .i64 ce, .int .i64 cs, .int .i64 ci]) ∧ Below W.heap.size W w') := hide (fun a cap W m hW => by
    have h2 := HCK.out a cap W m hW
    have h3 := hck a cap
    obtain ⟨R, hR⟩ : ∃ R, R = checkR (withW c c.wins.l.reverse a cap) := ⟨_, rfl⟩
    rw [← hR] at h2 h3
    unfold cfgV fltC at h2
    simp only [withW, hrl] at h2
    exact ⟨(R.1 : Int), (R.2.1 : Int), (R.2.2 : Int), by omega, h2⟩)
  have hrt : decide ((checkR c).1 = 0) = false := by
    rw [decide_eq_false_iff_not]
    intro h0
    exact hr (by unfold rightB; rw [hfw, h0]; rfl)
  rw [hrt] at HRT
  unfold cfgV at HFW HRT ⊢
  rw [← hn] at HFW HRT ⊢
  have fg := fun o x y xs ys W => fault_guard o x y xs ys W
  clear h hok hsm hB0 hcap hfw hlen hi hn hck hrt hr hrp hrl HCK
  go_enter Tryz.func4, Tryz.ntmps4
  obtain ⟨b0, b1, b2, b3, b4, b5⟩ := HBC.out _ HB0.out
  go_wp2_with (first
  | (go_at_call 14; refine (HFW.out _ HB0.out).mono ?_; rintro e w1 ⟨rfl, hb⟩; have HB1 := hide (HB0.out.below hb); have hzw : w.heap.size < w1.heap.size := HB1.out.2.lt; clear hb b0 b1 b2 b3 b4 b5; obtain ⟨b0, b1, b2, b3, b4, b5⟩ := HBC.out w1 HB1.out)
  | (at_builtin; go_must (refine wpList_append_any _ rfl (.tmp 10) (.tmp 12) 24 rfl (w1.heap.size + 1) 36 i0 _ 3 24 Tryz.underlying24 HII.out hz0 hz1 hz2 rfl (by decide) (.slice (some ⟨w1.heap.size + 1, 0, none⟩) 0 0) 0 [] rfl (HZ.out w1) w.heap.size c.wins.a n c.wins.c (c.wins.l.flatMap winL) rfl (HRD.out _ ((HB1.out.alloc _).alloc _)) (winL_one _) (by simp only [maxLen]; omega) (by omega) (by simp) ?_); intro v' w4 hown' hg hat; rw [Nat.zero_add, List.nil_append] at hown'; obtain ⟨a4, c4, rfl⟩ := own_slice hown'; have HO4 := hide hown'; have HG4 := hide hg; have HN3 : Hid (w1.heap.size < w4.heap.size) := hide (by have := hg.size; simp at this; omega); have HK4 := hide (Blk.grown ((Blk.new w1 29 #[.int .u64 (c.frame : Int), .slice c.parts.a c.parts.l.length c.parts.c, .slice c.wins.a n c.wins.c, .slice c.regs.a c.regs.l.length c.regs.c, .slice c.ports.a c.ports.l.length c.ports.c, .slice c.chans.a c.chans.l.length c.chans.c]).alloc _) hg (fun e => by injection e with e; simp at e)); have y2 : w4.frozen? ⟨w1.heap.size, 2, none⟩ = false := HK4.out.frozen 2; have y3 : w4.cell? ⟨w1.heap.size, 2, none⟩ = some (.slice c.wins.a n c.wins.c) := HK4.out.cell 2; have HO5 := hide (own_far (HO4.out) (p := ⟨w1.heap.size, 2, none⟩) (by show w1.heap.size < w1.heap.size + 1; omega) (.slice a4 n c4)); have hz4 := HN3.out; clear hown' hg hat b0 b1 b2 b3 b4 b5)
  | (go_at_call 15; refine (HREV.out _ _ _ _ HO5.out).mono ?_; rintro e w6 ⟨rfl, hown, hbut⟩; have HX6 := hide (HST.out w1 w4 w6 a4 c4 HB1.out HG4.out hown hbut); clear hown hbut y2 y3; obtain ⟨b0, b1, b2, b3, b4, b5, d0, d1, d2, d3, d4, d5, _⟩ := HDC.out a4 c4 _ _ HX6.out)
  | (go_at_call 16; obtain ⟨ce, cs, ci, hne, hcc⟩ := HCK2.out a4 c4 _ _ HX6.out; refine hcc.mono ?_; clear hcc; rintro e w7 ⟨rfl, hb⟩; have fe := (fun W => fault_eql ce cs ci 0 0 0 W); have nb : ((ce : Int) == 0 && ((cs : Int) == 0 && (ci : Int) == 0)) = false := (by have : ((ce : Int) == 0) = false := (beq_eq_false_iff_ne.2 hne); rw [this]; rfl); rw [nb] at fe; clear nb hne; have HX7 := hide (HX6.out.below hb); clear hb b0 b1 b2 b3 b4 b5 d0 d1 d2 d3 d4 d5; obtain ⟨b0, b1, b2, b3, b4, b5, d0, d1, d2, d3, d4, d5, _⟩ := HDC.out a4 c4 _ _ HX7.out)
  | (go_at_call 17; refine (HRT.out _ HX7.out.1).mono ?_; rintro e w8 ⟨rfl, hb⟩; have HX8 := hide (HX7.out.below hb); clear hb b0 b1 b2 b3 b4 b5 d0 d1 d2 d3 d4 d5; obtain ⟨b0, b1, b2, b3, b4, b5, d0, d1, d2, d3, d4, d5, _⟩ := HDC.out a4 c4 _ _ HX8.out))
  clear b0 b1 b2 b3 b4 b5 d0 d1 d2 d3 d4 d5
  have HX9 : Hid (Below w.heap.size w w8) := hide HX8.out.1.1
  refine wp_region_noPanic ?_
  refine wp_region_held_drew (S := fun w' => Below w.heap.size w w') (by kernel_rfl) HX9.out.drew (fun hHeld => ?_)
  refine wpAnyH_ready (rs := [0]) (by kernel_rfl) (by simp) ?_
  refine AllReadyH.cons (o := { dst := some 26, op := Op.call { callee := Callee.value (Operand.func 6), args := #[], argTypes := #[] }, type := 4, pos := "law.go:98", after := #[], guard := none }) rfl (fun K hK => ?_) AllReadyH.nil
  go_simp
  go_at_call 6; refine (HAL.out _).mono ?_; rintro e wa ⟨rfl, hb⟩
  refine hK.out _ _ (Below.trans (by assumption) (hb.mono (Below.size (by assumption)))) (fun hHeld => ?_)
  clear hK K
  try simp only [Act.put]
  try simp only [List.setIfInBounds_toArray, List.set_cons_succ, List.set_cons_zero]
  refine wpAnyH_take (i := 1) (oi := { dst := some 27, op := Op.move (Operand.tmp 26), type := 4, pos := "law.go:98", after := #[{ on := 0, ground := Ground.data }, { on := 0, ground := Ground.chain }], guard := none }) (v := ?_) rfl (by kernel_rfl) (by kernel_rfl) (by kernel_rfl) (fun _ _ _ h => h) (Or.inl ⟨by kernel_rfl, ?_⟩) (by assumption) ?_
  rotate_left
  · intro w hSw; go_simp; with_reducible rfl
  try simp only [Act.put]
  try simp only [List.setIfInBounds_toArray, List.set_cons_succ, List.set_cons_zero]
  refine wpAnyH_take (i := 2) (oi := { dst := some 28, op := Op.move (Operand.tmp 4), type := 4, pos := "law.go:98", after := #[{ on := 1, ground := Ground.guard }], guard := some (1, true) }) (v := ?_) rfl (by kernel_rfl) (by kernel_rfl) (by kernel_rfl) (fun _ _ _ h => h) (Or.inl ⟨by kernel_rfl, ?_⟩) (by assumption) ?_
  rotate_left
  · intro w hSw; go_simp; with_reducible rfl
  try simp only [Act.put]
  try simp only [List.setIfInBounds_toArray, List.set_cons_succ, List.set_cons_zero]
  refine wpAnyH_take (i := 3) (oi := { dst := some 29, op := Op.unOp UnOp.not 4 (Operand.tmp 28), type := 4, pos := "law.go:98", after := #[{ on := 2, ground := Ground.data }, { on := 1, ground := Ground.guard }], guard := some (1, true) }) (v := ?_) rfl (by kernel_rfl) (by kernel_rfl) (by kernel_rfl) (fun _ _ _ h => h) (Or.inl ⟨by kernel_rfl, ?_⟩) (by assumption) ?_
  rotate_left
  · intro w hSw; go_simp; with_reducible rfl
  try simp only [Act.put]
  try simp only [List.setIfInBounds_toArray, List.set_cons_succ, List.set_cons_zero]
  refine wpAnyH_take (i := 4) (oi := { dst := some 30, op := Op.move (Operand.tmp 29), type := 4, pos := "law.go:98", after := #[{ on := 3, ground := Ground.data }, { on := 1, ground := Ground.chain }, { on := 1, ground := Ground.guard }], guard := some (1, true) }) (v := ?_) rfl (by kernel_rfl) (by kernel_rfl) (by kernel_rfl) (fun _ _ _ h => h) (Or.inl ⟨by kernel_rfl, ?_⟩) (by assumption) ?_
  rotate_left
  · intro w hSw; go_simp; with_reducible rfl
  try simp only [Act.put]
  try simp only [List.setIfInBounds_toArray, List.set_cons_succ, List.set_cons_zero]
  refine wpAnyH_take (i := 5) (oi := { dst := some 31, op := Op.load 29 (Operand.tmp 3), type := 29, pos := "law.go:98", after := #[{ on := 4, ground := Ground.guard }], guard := some (4, false) }) rfl (by kernel_rfl) (by kernel_rfl) (by kernel_rfl) (fun _ _ _ h => h) (Or.inr ⟨by kernel_rfl, rfl⟩) (by assumption) ?_
  try simp only [Act.put]
  try simp only [List.setIfInBounds_toArray, List.set_cons_succ, List.set_cons_zero]
  refine wpAnyH_take (i := 6) (oi := { dst := some 32, op := Op.call { callee := Callee.value (Operand.func 7), args := #[Operand.tmp 31], argTypes := #[29] }, type := 24, pos := "law.go:98", after := #[{ on := 5, ground := Ground.data }, { on := 4, ground := Ground.chain }, { on := 4, ground := Ground.guard }], guard := some (4, false) }) rfl (by kernel_rfl) (by kernel_rfl) (by kernel_rfl) (fun _ _ _ h => h) (Or.inr ⟨by kernel_rfl, rfl⟩) (by assumption) ?_
  try simp only [Act.put]
  try simp only [List.setIfInBounds_toArray, List.set_cons_succ, List.set_cons_zero]
  refine wpAnyH_take (i := 7) (oi := { dst := some 33, op := Op.load 29 (Operand.tmp 1), type := 29, pos := "law.go:98", after := #[{ on := 4, ground := Ground.guard }], guard := some (4, false) }) rfl (by kernel_rfl) (by kernel_rfl) (by kernel_rfl) (fun _ _ _ h => h) (Or.inr ⟨by kernel_rfl, rfl⟩) (by assumption) ?_
  try simp only [Act.put]
  try simp only [List.setIfInBounds_toArray, List.set_cons_succ, List.set_cons_zero]
  refine wpAnyH_take (i := 8) (oi := { dst := some 34, op := Op.call { callee := Callee.value (Operand.func 10), args := #[Operand.tmp 33], argTypes := #[29] }, type := 24, pos := "law.go:98", after := #[{ on := 7, ground := Ground.data }, { on := 6, ground := Ground.chain }, { on := 4, ground := Ground.guard }], guard := some (4, false) }) rfl (by kernel_rfl) (by kernel_rfl) (by kernel_rfl) (fun _ _ _ h => h) (Or.inr ⟨by kernel_rfl, rfl⟩) (by assumption) ?_
  try simp only [Act.put]
  try simp only [List.setIfInBounds_toArray, List.set_cons_succ, List.set_cons_zero]
  refine wpAnyH_take (i := 9) (oi := { dst := some 35, op := Op.call { callee := Callee.value (Operand.func 9), args := #[Operand.tmp 32, Operand.tmp 34], argTypes := #[24, 24] }, type := 4, pos := "law.go:98", after := #[{ on := 6, ground := Ground.data }, { on := 8, ground := Ground.data }, { on := 8, ground := Ground.chain }, { on := 4, ground := Ground.guard }], guard := some (4, false) }) rfl (by kernel_rfl) (by kernel_rfl) (by kernel_rfl) (fun _ _ _ h => h) (Or.inr ⟨by kernel_rfl, rfl⟩) (by assumption) ?_
  try simp only [Act.put]
  try simp only [List.setIfInBounds_toArray, List.set_cons_succ, List.set_cons_zero]
  refine wpAnyH_take (i := 10) (oi := { dst := some 36, op := Op.move (Operand.tmp 35), type := 4, pos := "law.go:98", after := #[{ on := 9, ground := Ground.data }, { on := 9, ground := Ground.chain }, { on := 4, ground := Ground.guard }], guard := some (4, false) }) rfl (by kernel_rfl) (by kernel_rfl) (by kernel_rfl) (fun _ _ _ h => h) (Or.inr ⟨by kernel_rfl, rfl⟩) (by assumption) ?_
  try simp only [Act.put]
  try simp only [List.setIfInBounds_toArray, List.set_cons_succ, List.set_cons_zero]
  refine wpAnyH_take (i := 11) (oi := { dst := some 37, op := Op.load 29 (Operand.tmp 3), type := 29, pos := "law.go:98", after := #[{ on := 10, ground := Ground.guard }], guard := some (10, true) }) rfl (by kernel_rfl) (by kernel_rfl) (by kernel_rfl) (fun _ _ _ h => h) (Or.inr ⟨by kernel_rfl, rfl⟩) (by assumption) ?_
  try simp only [Act.put]
  try simp only [List.setIfInBounds_toArray, List.set_cons_succ, List.set_cons_zero]
  refine wpAnyH_take (i := 12) (oi := { dst := some 38, op := Op.call { callee := Callee.value (Operand.func 12), args := #[Operand.tmp 37], argTypes := #[29] }, type := 33, pos := "law.go:98", after := #[{ on := 11, ground := Ground.data }, { on := 10, ground := Ground.chain }, { on := 10, ground := Ground.guard }], guard := some (10, true) }) rfl (by kernel_rfl) (by kernel_rfl) (by kernel_rfl) (fun _ _ _ h => h) (Or.inr ⟨by kernel_rfl, rfl⟩) (by assumption) ?_
  try simp only [Act.put]
  try simp only [List.setIfInBounds_toArray, List.set_cons_succ, List.set_cons_zero]
  refine wpAnyH_take (i := 13) (oi := { dst := some 39, op := Op.load 29 (Operand.tmp 1), type := 29, pos := "law.go:98", after := #[{ on := 10, ground := Ground.guard }], guard := some (10, true) }) rfl (by kernel_rfl) (by kernel_rfl) (by kernel_rfl) (fun _ _ _ h => h) (Or.inr ⟨by kernel_rfl, rfl⟩) (by assumption) ?_
  try simp only [Act.put]
  try simp only [List.setIfInBounds_toArray, List.set_cons_succ, List.set_cons_zero]
  refine wpAnyH_take (i := 14) (oi := { dst := some 40, op := Op.call { callee := Callee.value (Operand.func 12), args := #[Operand.tmp 39], argTypes := #[29] }, type := 33, pos := "law.go:98", after := #[{ on := 13, ground := Ground.data }, { on := 12, ground := Ground.chain }, { on := 10, ground := Ground.guard }], guard := some (10, true) }) rfl (by kernel_rfl) (by kernel_rfl) (by kernel_rfl) (fun _ _ _ h => h) (Or.inr ⟨by kernel_rfl, rfl⟩) (by assumption) ?_
  try simp only [Act.put]
  try simp only [List.setIfInBounds_toArray, List.set_cons_succ, List.set_cons_zero]
  refine wpAnyH_take (i := 15) (oi := { dst := some 41, op := Op.call { callee := Callee.value (Operand.func 11), args := #[Operand.tmp 38, Operand.tmp 40], argTypes := #[33, 33] }, type := 4, pos := "law.go:98", after := #[{ on := 12, ground := Ground.data }, { on := 14, ground := Ground.data }, { on := 14, ground := Ground.chain }, { on := 10, ground := Ground.guard }], guard := some (10, true) }) rfl (by kernel_rfl) (by kernel_rfl) (by kernel_rfl) (fun _ _ _ h => h) (Or.inr ⟨by kernel_rfl, rfl⟩) (by assumption) ?_
  try simp only [Act.put]
  try simp only [List.setIfInBounds_toArray, List.set_cons_succ, List.set_cons_zero]
  refine wpAnyH_take (i := 16) (oi := { dst := some 42, op := Op.pick (Operand.tmp 36) (Operand.tmp 41) (Operand.const (Value.bool false)), type := 4, pos := "law.go:98", after := #[{ on := 10, ground := Ground.data }, { on := 15, ground := Ground.data }, { on := 4, ground := Ground.guard }], guard := some (4, false) }) rfl (by kernel_rfl) (by kernel_rfl) (by kernel_rfl) (fun _ _ _ h => h) (Or.inr ⟨by kernel_rfl, rfl⟩) (by assumption) ?_
  try simp only [Act.put]
  try simp only [List.setIfInBounds_toArray, List.set_cons_succ, List.set_cons_zero]
  refine wpAnyH_take (i := 17) (oi := { dst := some 43, op := Op.pick (Operand.tmp 30) (Operand.const (Value.bool true)) (Operand.tmp 42), type := 4, pos := "law.go:98", after := #[{ on := 4, ground := Ground.data }, { on := 16, ground := Ground.data }, { on := 1, ground := Ground.guard }], guard := some (1, true) }) (v := ?_) rfl (by kernel_rfl) (by kernel_rfl) (by kernel_rfl) (fun _ _ _ h => h) (Or.inl ⟨by kernel_rfl, ?_⟩) (by assumption) ?_
  rotate_left
  · intro w hSw; go_simp; with_reducible rfl
  try simp only [Act.put]
  try simp only [List.setIfInBounds_toArray, List.set_cons_succ, List.set_cons_zero]
  refine wpAnyH_take (i := 18) (oi := { dst := some 44, op := Op.pick (Operand.tmp 27) (Operand.tmp 43) (Operand.const (Value.bool false)), type := 4, pos := "law.go:98", after := #[{ on := 1, ground := Ground.data }, { on := 17, ground := Ground.data }], guard := none }) (v := ?_) rfl (by kernel_rfl) (by kernel_rfl) (by kernel_rfl) (fun _ _ _ h => h) (Or.inl ⟨by rfl, ?_⟩) (by assumption) ?_
  rotate_left
  · intro w hSw; go_simp; with_reducible rfl
  try simp only [Act.put]
  try simp only [List.setIfInBounds_toArray, List.set_cons_succ, List.set_cons_zero]
  refine wpAnyH_take (i := 19) (oi := { dst := some 2, op := Op.assign (Operand.tmp 44), type := 4, pos := "law.go:98", after := #[{ on := 18, ground := Ground.data }, { on := 15, ground := Ground.chain }, { on := 0, ground := Ground.phase }, { on := 1, ground := Ground.phase }, { on := 2, ground := Ground.phase }, { on := 3, ground := Ground.phase }, { on := 4, ground := Ground.phase }, { on := 5, ground := Ground.phase }, { on := 6, ground := Ground.phase }, { on := 7, ground := Ground.phase }, { on := 8, ground := Ground.phase }, { on := 9, ground := Ground.phase }, { on := 10, ground := Ground.phase }, { on := 11, ground := Ground.phase }, { on := 12, ground := Ground.phase }, { on := 13, ground := Ground.phase }, { on := 14, ground := Ground.phase }, { on := 15, ground := Ground.phase }, { on := 16, ground := Ground.phase }, { on := 17, ground := Ground.phase }, { on := 18, ground := Ground.phase }], guard := none }) (v := ?_) rfl (by kernel_rfl) (by kernel_rfl) (by kernel_rfl) (fun _ _ _ h => h) (Or.inl ⟨by rfl, ?_⟩) (by assumption) ?_
  rotate_left
  · intro w hSw; go_simp; with_reducible rfl
  try simp only [Act.put]
  try simp only [List.setIfInBounds_toArray, List.set_cons_succ, List.set_cons_zero]
  refine wpAnyH_done (by kernel_rfl) ?_ _
  refine NoPanic.normal ?_
  go_wp2
  go_ret
  exact ⟨rfl, by assumption⟩
set_option maxRecDepth 100000 in
set_option maxHeartbeats 8000000 in
theorem FrameOrder_calls (c : Cfg) (w : World) (h : CfgAt w.heap.size c w) (hok : c.Ok) (hsm : c.Small)  :
    Calls Tryz.prog 4 #[cfgV c] w fun e w' => e = .returned (.bool true) ∧ Below w.heap.size w w' := by
  by_cases hfw : fewB c = true
  · by_cases hr : rightB c = true
    · exact FrameOrder_yes c w h hok hsm hfw hr
    · exact FrameOrder_no c w h hok hsm hfw hr
  · exact FrameOrder_few c w h hok hsm (by simpa using hfw)
end Go.Proofs.YthccadabblkalaaGreat
