/- The law SchedTraces (chapter 21). -/
import Derived.Test.YtmphookgaopdlaaGreatSdTraces
import Derived.BigQuiet
namespace Go.Proofs.YtmphookgaopdlaaGreat
open Go.RowKit Go.Sort
set_option linter.unusedVariables false

set_option maxRecDepth 100000 in
set_option maxHeartbeats 8000000 in
theorem SchedTraces_pos (c : Cfg) (t n : Nat) (w : World) (h : CfgAt w.heap.size c w) (hok : c.Ok) (hsm : c.Small) (ht : t < 18446744073709551616) (hn0 : 0 < n) (hn : n ≤ 127) (hr : rightB c = true) :
    Calls Tryz.prog 8 #[cfgV c, .int .u64 (t : Int), .int .i8 (n : Int)] w fun e w' => e = .returned (.bool true) ∧ Below w.heap.size w w' := by
  have HAL := hide (fun W => alive_sd W)
  have hB0 := Boxed1.start w c
  have HRI := hide (fun W (hW : Boxed1 w c W) => right_calls c W (hW.cfg h) hok hsm)
  have HBC := hide (fun W (hW : Boxed1 w c W) => hW.cells)
  unfold cfgC at hB0
  have HB0 := hide hB0
  rw [hr] at HRI
  have hf := hok.frame
  have HNW := hide (fun W (hW : Boxed1 w c W) => New_yes c W (hW.cfg h) hok hsm (by have := fill_few hr; omega) (right_all hr).2.2.2)
  have HSC := hide (fun l hp ha => sch_of hr hf (l := l) hp ha)
  have HTR := hide (fun l (hS : SchC c l ∧ l.length ≤ 1048576) a cap g W (hW : LwB c l a cap g w W) => Trace_calls c.frame l a cap g t n W hW.sd hS.1.sch hS.2 ht hn0 (by omega))
  have HRT := hide (fun l (hS : SchC c l ∧ l.length ≤ 1048576) a cap g W (hW : LwB c l a cap g w W) => RTrace_calls c l t n W (hW.box.cfg h) hsm hS.1 ht (by omega))
  have HUN := hide (fun l (hS : SchC c l ∧ l.length ≤ 1048576) a cap g W (hW : LwB c l a cap g w W) T (hT : T < 18446744073709551616) => Until_calls c.frame l a cap g T W hW.sd hS.1.sch hS.2 hT)
  have HUB := hide (fun l (hS : SchC c l ∧ l.length ≤ 1048576) T (hT : T < 18446744073709551616) => until_bd hS.1.sch hT)
  have HTG := hide (fun l k => trace_get (F := c.frame) (l := l) n t k ht)
  have HTL := hide (fun l => traceK_len (F := c.frame) (l := l) n t)
  have HEQ := hide (fun (L : List WinR) (hL : L.length ≤ 1000) W c1 c2 A1 A2 B1 B2 (h1 : W.ownsRow B1 38 3 (.slice A1 L.length c1) L.length (L.flatMap winL)) (h2 : W.ownsRow B2 38 3 (.slice A2 L.length c2) L.length (L.flatMap winL)) => EqW_calls L B1 B2 c1 c2 A1 A2 W h1 h2 (by omega))
  have hnI : (n : Int) ≤ 127 := by omega
  have HNN := hide (show n ≤ 127 from hn)
  have HT := hide ht
  unfold cfgV at HRI HNW HRT ⊢
  clear h hok hsm hB0 hr hf ht hn0 hn
  go_enter Tryz.func8, Tryz.ntmps8
  obtain ⟨b0, b1, b2, b3, b4, b5⟩ := HBC.out _ HB0.out
  go_wp2_with (first
    | (go_at_call 18; refine (HRI.out _ HB0.out).mono ?_; rintro e w1 ⟨rfl, hb⟩; have HB1 := hide (HB0.out.below hb); clear hb b0 b1 b2 b3 b4 b5; obtain ⟨b0, b1, b2, b3, b4, b5⟩ := HBC.out _ HB1.out)
    | (go_at_call 11; refine (HNW.out _ HB1.out).mono ?_; rintro e w2 ⟨l, a, cap, g, rfl, hg, hsd, hp, ha, hb⟩; have HL2 := hide (show LwB c l a cap g w w2 from ⟨HB1.out.below hb, hsd⟩); have HS := hide (HSC.out l hp ha); clear hb hg hsd hp ha b0 b1 b2 b3 b4 b5))
  have htr := HTR.out l HS.out a cap g
  have hrt := HRT.out l HS.out a cap g
  have htg := HTG.out l
  have htl := HTL.out l
  have hun := HUN.out l HS.out a cap g
  obtain ⟨TK, hTK⟩ : ∃ T, T = traceK c.frame l n t := ⟨_, rfl⟩
  rw [← hTK] at htr hrt htg htl
  obtain ⟨m, hm⟩ : ∃ m, m = TK.length := ⟨_, rfl⟩
  have hmI : (m : Int) ≤ 127 := by have := HNN.out; omega
  have HEQ1 := hide (HEQ.out TK (by have := HNN.out; omega))
  unfold TrV at htr hrt
  rw [← hm] at htr hrt HEQ1
  have HTR1 := hide htr
  have HRT1 := hide hrt
  have HTG1 := hide htg
  have HUN1 := hide hun
  have HM := hide hm
  clear htr hrt htg htl hun hTK hm
  go_wp2_with (go_at_call 23; refine (HTR1.out _ HL2.out).mono ?_; rintro e w3 ⟨ta, tc, rfl, ho, hb⟩; have HL3 := hide (HL2.out.below hb); have HO3 := hide ho; clear ho hb)
  obtain ⟨wo, rfl⟩ : ∃ wo : World, wo = w3 := ⟨_, rfl⟩
  go_loopw [9, 28] (fun av v wr => ∃ k T : Nat, k ≤ m ∧ v = .int .i64 (k : Int) ∧ av = .int .u64 (T : Int) ∧ Hid (LwB c l a cap g w wr ∧ wr.ownsRow w2.heap.size 38 3 (.slice ta m tc) m (TK.flatMap winL) ∧ T = tsS c.frame l k t % 18446744073709551616)) (fun _ v _ => m - (intOf v).toNat)
  case atStart => exact ⟨0, t, Nat.zero_le _, rfl, rfl, hide ⟨HL3.out, HO3.out, (Nat.mod_eq_of_lt HT.out).symm⟩⟩
  case round =>
    obtain ⟨k, T, hk, rfl, rfl, hrel⟩ := hrel
    by_cases hlt : k < m
    · have hlt2 : (k : Int) < (m : Int) := by omega
      have hkl : k < TK.length := by have := HM.out; omega
      obtain ⟨hget, hTs⟩ := HTG1.out k hkl
      rw [List.getElem?_eq_getElem hkl] at hget
      injection hget with hget
      have hTe := hrel.out.2.2
      rw [Nat.mod_eq_of_lt hTs] at hTe
      obtain ⟨gg, rfl, _, hgc, hgl, hcell⟩ := own_cells winL_len hrel.out.2.1 HM.out.symm k hkl
      have x0 : wr.cell? ⟨gg, k * 3, none⟩ = some (.int .u64 (TK[k].st : Int)) := hcell 0 (by omega)
      have x1 : wr.cell? ⟨gg, k * 3 + 1, none⟩ = some (.int .u64 (TK[k].len : Int)) := hcell 1 (by omega)
      have x2 : wr.cell? ⟨gg, k * 3 + 2, none⟩ = some (.int .u16 (TK[k].part : Int)) := hcell 2 (by omega)
      rw [hget] at x0 x1 x2
      unfold rngW at x0 x1 x2
      simp only at x0 x1 x2
      rw [← hTe] at x0 x1 x2 hTs
      have hun := HUN1.out
      have hub := HUB.out l HS.out T hTs
      have hsu := ts_succ (F := c.frame) (l := l) k t
      rw [← hTe] at hsu
      have hun1 := fun W hW => hun W hW T hTs
      obtain ⟨U, hU⟩ : ∃ U, U = untilS c.frame l T := ⟨_, rfl⟩
      rw [← hU] at hun1 x1 hub hsu
      generalize (winD l (T % c.frame)).part = PT at *
      have HUN2 := hide hun1
      have HSU := hide hsu
      obtain ⟨T2, hT2⟩ : ∃ T2, T2 = (T + U) % 18446744073709551616 := ⟨_, rfl⟩
      have hadd : IntKind.u64.wrap ((T : Int) + (U : Int)) = (T2 : Int) := by
        rw [hT2]
        simp only [IntKind.wrap, IntKind.bits, IntKind.signed]
        simp
      have HT2 := hide hT2
      have hcI : (m : Int) ≤ (tc : Int) := by omega
      have hz0 : gg < wr.heap.size := hgl
      have et : ((T : Int) != (T : Int)) = false := by simp
      have eu : ((U : Int) != (U : Int)) = false := by simp
      have HX := hide (Blk.new wr 38 #[.int .u64 (T : Int), .int .u64 (U : Int), .int .u16 (PT : Int)])
      have HL4 := hide (hrel.out.1.alloc (.cells #[.int .u64 (T : Int), .int .u64 (U : Int), .int .u16 (PT : Int)] 38))
      have HO4 := hide (hrel.out.2.1.alloc (.cells #[.int .u64 (T : Int), .int .u64 (U : Int), .int .u16 (PT : Int)] 38))
      clear hget hTe hTs hun hub hsu hun1 hU hT2 hcell hgc hgl
      have HSX : Hid (∀ W, (LwB c l a cap g w W ∧ Blk W wr.heap.size 38 #[.int .u64 (T : Int), .int .u64 (U : Int), .int .u16 (PT : Int)] ∧ W.ownsRow w2.heap.size 38 3 (.slice (some ⟨gg, 0, none⟩) m tc) m (TK.flatMap winL)) → (W.cell? ⟨wr.heap.size, 0, none⟩ = some (.int .u64 (T : Int)) ∧ W.cell? ⟨wr.heap.size, 1, none⟩ = some (.int .u64 (U : Int)) ∧ (LwB c l a cap g w W ∧ Blk W wr.heap.size 38 #[.int .u64 (T : Int), .int .u64 (U : Int), .int .u16 (PT : Int)] ∧ W.ownsRow w2.heap.size 38 3 (.slice (some ⟨gg, 0, none⟩) m tc) m (TK.flatMap winL)))) := hide (fun W hW => ⟨hW.2.1.cell 0, hW.2.1.cell 1, hW⟩)
      have HBL : Hid (∀ W W', (LwB c l a cap g w W ∧ Blk W wr.heap.size 38 #[.int .u64 (T : Int), .int .u64 (U : Int), .int .u16 (PT : Int)] ∧ W.ownsRow w2.heap.size 38 3 (.slice (some ⟨gg, 0, none⟩) m tc) m (TK.flatMap winL)) → Below W.heap.size W W' → (LwB c l a cap g w W' ∧ Blk W' wr.heap.size 38 #[.int .u64 (T : Int), .int .u64 (U : Int), .int .u16 (PT : Int)] ∧ W'.ownsRow w2.heap.size 38 3 (.slice (some ⟨gg, 0, none⟩) m tc) m (TK.flatMap winL))) := hide (fun W W' hW hb => ⟨hW.1.below hb, hW.2.1.below hb hW.2.1.lt, own_below hW.2.2 hb⟩)
      have HX3 := hide (HSX.out _ (HBL.out _ _ ⟨HL4.out, HX.out, HO4.out⟩ (Below.refl _ _).drew))
      have HR := hide hrel.out.1
      clear hrel
      go_wp2
      go_region_held3 (fun W => (W.cell? ⟨wr.heap.size, 0, none⟩ = some (.int .u64 (T : Int)) ∧ W.cell? ⟨wr.heap.size, 1, none⟩ = some (.int .u64 (U : Int)) ∧ (LwB c l a cap g w W ∧ Blk W wr.heap.size 38 #[.int .u64 (T : Int), .int .u64 (U : Int), .int .u16 (PT : Int)] ∧ W.ownsRow w2.heap.size 38 3 (.slice (some ⟨gg, 0, none⟩) m tc) m (TK.flatMap winL))))
        (first | exact HX3.out | assumption | exact HSX.out _ (HBL.out _ _ (And.right (And.right (by assumption))) (by assumption)))
        ((go_at_call 19; refine (HUN2.out _ (And.left (And.right (And.right (by assumption))))).mono ?_; rintro e wa ⟨rfl, hb⟩))
      have HE : Hid (LwB c l a cap g w wa ∧ Blk wa wr.heap.size 38 #[.int .u64 (T : Int), .int .u64 (U : Int), .int .u16 (PT : Int)] ∧ wa.ownsRow w2.heap.size 38 3 (.slice (some ⟨gg, 0, none⟩) m tc) m (TK.flatMap winL)) := hide (And.right (And.right (by assumption)))
      have y1 : wa.cell? ⟨wr.heap.size, 1, none⟩ = some (.int .u64 (U : Int)) := HE.out.2.1.cell 1
      have yz : wr.heap.size < wa.heap.size := HE.out.2.1.lt
      go_wp2
      go_roundw
      case rel =>
        have hfin : Hid (LwB c l a cap g w wa ∧ wa.ownsRow w2.heap.size 38 3 (.slice (some ⟨gg, 0, none⟩) m tc) m (TK.flatMap winL) ∧ T2 = tsS c.frame l (k + 1) t % 18446744073709551616) := hide ⟨HE.out.1, HE.out.2.2, by rw [HSU.out]; exact HT2.out⟩
        first | exact ⟨k + 1, T2, by omega, by go_num, rfl, hfin⟩ | ((repeat apply Exists.intro); exact ⟨⟨k + 1, T2, by omega, by go_num, rfl, hfin⟩, rfl⟩)
      case measure => simp [intOf]; omega
    · have hkn : k = m := by omega
      subst hkn
      have HO4 := hide hrel.out.2.1
      have HL4 := hide hrel.out.1
      obtain ⟨b0, b1, b2, b3, b4, b5⟩ := HBC.out _ HL4.out.box
      clear hlt hk hrel
      go_wp2_with (first
        | (go_at_call 10; refine (HAL.out _).mono ?_; rintro e w5 ⟨rfl, hb⟩; have HL5 := hide (HL4.out.below hb); have HO5 := hide (own_below HO4.out hb); clear hb b0 b1 b2 b3 b4 b5; obtain ⟨b0, b1, b2, b3, b4, b5⟩ := HBC.out _ HL5.out.box)
        | (go_at_call 26; refine (HRT1.out _ HL5.out).mono ?_; rintro e w6 ⟨ra, rc, rfl, ho, hb⟩; have HL6 := hide (HL5.out.below hb); have HO6 := hide (own_below HO5.out hb); have HP6 := hide ho; clear ho hb)
        | (go_at_call 25; refine (HEQ1.out _ _ _ _ _ _ _ HO6.out HP6.out).mono ?_; rintro e w7 ⟨rfl, hb⟩; have HL7 := hide (HL6.out.below hb); clear hb))
      go_ret
      exact ⟨rfl, HL7.out.box.1⟩
set_option maxRecDepth 100000 in
set_option maxHeartbeats 8000000 in
theorem SchedTraces_neg (c : Cfg) (t : Nat) (z : Int) (w : World) (h : CfgAt w.heap.size c w) (hok : c.Ok) (hsm : c.Small) (hz : z ≤ 0) (hz2 : -128 ≤ z) (hr : rightB c = true) :
    Calls Tryz.prog 8 #[cfgV c, .int .u64 (t : Int), .int .i8 z] w fun e w' => e = .returned (.bool true) ∧ Below w.heap.size w w' := by
  have HAL := hide (fun W => alive_sd W)
  have hB0 := Boxed1.start w c
  have HRI := hide (fun W (hW : Boxed1 w c W) => right_calls c W (hW.cfg h) hok hsm)
  have HBC := hide (fun W (hW : Boxed1 w c W) => hW.cells)
  unfold cfgC at hB0
  have HB0 := hide hB0
  rw [hr] at HRI
  have HNW := hide (fun W (hW : Boxed1 w c W) => New_yes c W (hW.cfg h) hok hsm (by have := fill_few hr; omega) (right_all hr).2.2.2)
  have HTR := hide (fun g W => Trace_none (.pointer (some ⟨g, 0, none⟩)) (.inr ⟨g, rfl⟩) t z W (.inr hz))
  have HRT := hide (fun W => RTrace_none c t z W hz)
  have HEQ := hide (fun W => EqW_none none none 0 0 W)
  unfold cfgV at HRI HNW HRT ⊢
  clear h hok hsm hB0 hr
  go_enter Tryz.func8, Tryz.ntmps8
  obtain ⟨b0, b1, b2, b3, b4, b5⟩ := HBC.out _ HB0.out
  go_wp2_with (first
    | (go_at_call 18; refine (HRI.out _ HB0.out).mono ?_; rintro e w1 ⟨rfl, hb⟩; have HB1 := hide (HB0.out.below hb); clear hb b0 b1 b2 b3 b4 b5; obtain ⟨b0, b1, b2, b3, b4, b5⟩ := HBC.out _ HB1.out)
    | (go_at_call 11; refine (HNW.out _ HB1.out).mono ?_; rintro e w2 ⟨l, a, cap, g, rfl, hg, hsd, hp, ha, hb⟩; have HB2 := hide (HB1.out.below hb); clear hb hg hsd hp ha b0 b1 b2 b3 b4 b5)
    | (go_at_call 23; refine (HTR.out _ _).mono ?_; rintro e w3 ⟨rfl, hb⟩; have HB3 := hide (HB2.out.below hb); clear hb; obtain ⟨b0, b1, b2, b3, b4, b5⟩ := HBC.out _ HB3.out))
  go_loopw [9, 28] (fun av v wr => v = .int .i64 0 ∧ av = .int .u64 (t : Int) ∧ Hid (Boxed1 w c wr)) (fun _ _ _ => 0)
  case atStart => exact ⟨rfl, rfl, HB3⟩
  case round =>
    obtain ⟨rfl, rfl, hrel⟩ := hrel
    clear b0 b1 b2 b3 b4 b5
    obtain ⟨b0, b1, b2, b3, b4, b5⟩ := HBC.out _ hrel.out
    go_wp2_with (first
      | (go_at_call 10; refine (HAL.out _).mono ?_; rintro e w5 ⟨rfl, hb⟩; have HB5 := hide (hrel.out.below hb); clear hb b0 b1 b2 b3 b4 b5; obtain ⟨b0, b1, b2, b3, b4, b5⟩ := HBC.out _ HB5.out)
      | (go_at_call 26; refine (HRT.out _).mono ?_; rintro e w6 ⟨rfl, hb⟩; have HB6 := hide (HB5.out.below hb); clear hb)
      | (go_at_call 25; refine (HEQ.out _).mono ?_; rintro e w7 ⟨rfl, hb⟩; have HB7 := hide (HB6.out.below hb); clear hb))
    go_ret
    exact ⟨rfl, HB7.out.1⟩
set_option maxRecDepth 100000 in
set_option maxHeartbeats 8000000 in
theorem SchedTraces_no (c : Cfg) (t : Nat) (z : Int) (w : World) (h : CfgAt w.heap.size c w) (hok : c.Ok) (hsm : c.Small) (hr : rightB c = false) :
    Calls Tryz.prog 8 #[cfgV c, .int .u64 (t : Int), .int .i8 z] w fun e w' => e = .returned (.bool true) ∧ Below w.heap.size w w' := by
  have HAL := hide (fun W => alive_sd W)
  have hB0 := Boxed1.start w c
  have HRI := hide (fun W (hW : Boxed1 w c W) => right_calls c W (hW.cfg h) hok hsm)
  have HBC := hide (fun W (hW : Boxed1 w c W) => hW.cells)
  unfold cfgC at hB0
  have HB0 := hide hB0
  rw [hr] at HRI
  unfold cfgV at HRI ⊢
  clear h hok hsm hB0 hr
  go_enter Tryz.func8, Tryz.ntmps8
  obtain ⟨b0, b1, b2, b3, b4, b5⟩ := HBC.out _ HB0.out
  go_wp2_with (first
    | (go_at_call 18; refine (HRI.out _ HB0.out).mono ?_; rintro e w1 ⟨rfl, hb⟩; have HB1 := hide (HB0.out.below hb); clear hb)
    | (go_at_call 10; refine (HAL.out _).mono ?_; rintro e w2 ⟨rfl, hb⟩; have HB2 := hide (HB1.out.below hb); clear hb))
  go_ret
  exact ⟨rfl, HB2.out.1⟩
theorem SchedTraces_calls (c : Cfg) (t : Nat) (z : Int) (w : World) (h : CfgAt w.heap.size c w) (hok : c.Ok) (hsm : c.Small) (ht : t < 18446744073709551616) (hz1 : -128 ≤ z) (hz2 : z ≤ 127) :
    Calls Tryz.prog 8 #[cfgV c, .int .u64 (t : Int), .int .i8 z] w fun e w' => e = .returned (.bool true) ∧ Below w.heap.size w w' := by
  cases hr : rightB c with
  | false => exact SchedTraces_no c t z w h hok hsm hr
  | true =>
    by_cases hz : z ≤ 0
    · exact SchedTraces_neg c t z w h hok hsm hz hz1 hr
    · obtain ⟨n, rfl⟩ : ∃ n : Nat, z = (n : Int) := ⟨z.toNat, by omega⟩
      exact SchedTraces_pos c t n w h hok hsm ht (by omega) (by omega) hr
theorem int_i8 {z : Int} (h : (Lit.int .i8 z).wf = true) : -128 ≤ z ∧ z ≤ 127 := by
  simp [Lit.wf, IntKind.min, IntKind.max, IntKind.signed, IntKind.bits] at h; omega
end Go.Proofs.YtmphookgaopdlaaGreat
