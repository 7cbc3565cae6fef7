/- The law SchedCounts (chapter 21). -/
import Derived.Test.YtmphookgaopdlaaGreatSdTraces
namespace Go.Proofs.YtmphookgaopdlaaGreat
open Go.RowKit Go.Sort Go.Shelf
set_option linter.unusedVariables false

/-! ### A nil schedule -/
section
attribute [local go_sem] Oper.semAt_some
set_option maxRecDepth 100000 in
set_option maxHeartbeats 2000000 in
theorem Window_nil (t : Nat) (w : World) : Calls Tryz.prog 14 #[.pointer none, .int .u64 (t : Int)] w fun e w' => e = .returned (.tuple #[.agg #[.int .u64 0, .int .u64 0, .int .u16 0], .bool false]) ∧ Below w.heap.size w w' := by
  have HBL := hide (((Blk.new w 38 #[.int .u64 0, .int .u64 0, .int .u16 0])))
  go_enter Tryz.func14, Tryz.ntmps14
  go_wp2
  refine bodyPost_ret (res_cell_tmp rfl _ _ w.heap.size #[.int .u64 0, .int .u64 0, .int .u16 0] rfl (load_win HBL.out rfl)) rfl ⟨rfl, ?_⟩
  exact (Below.refl _ w).alloc (Nat.le_refl _) _
set_option maxHeartbeats 1000000 in
theorem Lookup_nil (t : Nat) (w : World) : Calls Tryz.prog 13 #[.pointer none, .int .u64 (t : Int)] w fun e w' => e = .returned (.tuple #[.int .u16 0, .bool false]) ∧ Below w.heap.size w w' := by
  have HW := hide (Window_nil t w)
  go_enter Tryz.func13, Tryz.ntmps13
  go_wp2_with (go_at_call 14; refine HW.out.mono ?_; rintro e w1 ⟨rfl, hb⟩; have HB := hide hb; clear hb)
  go_ret2
  exact ⟨rfl, HB.out.alloc HB.out.size _⟩
set_option maxHeartbeats 1000000 in
theorem Until_nil (t : Nat) (w : World) : Calls Tryz.prog 19 #[.pointer none, .int .u64 (t : Int)] w fun e w' => e = .returned (.int .u64 0) ∧ w = w' := by
  go_enter Tryz.func19, Tryz.ntmps19
  go_wp2
  go_ret
  exact ⟨rfl, rfl⟩
set_option maxHeartbeats 1000000 in
theorem Len_nil (w : World) : Calls Tryz.prog 17 #[.pointer none] w fun e w' => e = .returned (.int .i64 0) ∧ w = w' := by
  go_enter Tryz.func17, Tryz.ntmps17
  go_wp2
  go_ret
  exact ⟨rfl, rfl⟩
set_option maxRecDepth 100000 in
set_option maxHeartbeats 2000000 in
theorem Next_nil (p t : Nat) (w : World) : Calls Tryz.prog 21 #[.pointer none, .int .u16 (p : Int), .int .u64 (t : Int)] w fun e w' => e = .returned (.tuple #[.int .u64 0, .bool false]) ∧ Below w.heap.size w w' := by
  have h2 := Blk.new ((w.alloc (.cells #[.pointer none] 32)).alloc (.cells #[.int .u16 (p : Int)] 34)) 22 #[.int .u64 0]
  have h3 := Blk.new (((w.alloc (.cells #[.pointer none] 32)).alloc (.cells #[.int .u16 (p : Int)] 34)).alloc (.cells #[.int .u64 0] 22)) 4 #[.bool false]
  rw [World.size_alloc, World.size_alloc] at h2
  rw [World.size_alloc, World.size_alloc, World.size_alloc] at h3
  have H2 := hide (h2.alloc (.cells #[.bool false] 4))
  have H3 := hide h3
  clear h2 h3
  refine callsIn_wide (n := 3) |>.1 (callsIn_of_wp_marks Tryz.func21 rfl trivial ?_ rfl)
  simp only [Tryz.ntmps21, List.size_toArray, List.length_cons, List.length_nil, Nat.reduceAdd, Nat.reduceSub, Array.replicate_succ, Array.replicate_zero, List.push_toArray, List.append_toArray, List.nil_append, List.cons_append]
  gi_wp2
  refine ⟨trivial, ?_⟩
  gi_wp2
  refine ⟨_, res_cells rfl _ _ (w.heap.size + 2) (w.heap.size + 3) (.int .u64 0) (.bool false) rfl (load_u64 (H2.out.cell 0)) rfl (load_bool (H3.out.cell 0)), rfl, ?_⟩
  exact ((((Below.refl _ w).alloc (Nat.le_refl _) _).alloc (by simp) _).alloc (by simp; omega) _).alloc (by simp; omega) _
end
/-! ### The ticks of a partition -/
theorem sum_permS {a b : List Nat} (h : a.Perm b) : a.sum = b.sum := by
  induction h with
  | nil => rfl
  | cons x _ ih => simp [ih]
  | swap x y l => simp only [List.sum_cons]; omega
  | trans _ _ h1 h2 => exact h1.trans h2
theorem busy_all {c : Cfg} (hr : rightB c = true) (hf : c.frame < 18446744073709551616) {l : List WinR} (hS : SchC c l) (p : Nat) : usedL 0 c.frame (wo c.wins.l p) = busyTo l p c.frame := by
  rw [used_frame hf (wo_ok hr hf p), (busy_len hr hf p).1, busyTo_all hS.sch]
  unfold lenO lenW
  refine sum_permS (((hS.perm.symm.filter _).map _).trans (List.Perm.of_eq ?_))
  first | rfl | (congr 1; first | rfl | exact List.filter_congr fun x _ => by first | rfl | (rw [Bool.eq_iff_iff, decide_eq_true_eq, beq_iff_eq]))
set_option maxRecDepth 100000 in
set_option maxHeartbeats 2000000 in
theorem RBusy21_calls (c : Cfg) (p : Nat) (w : World) (h : CfgAt w.heap.size c w) (hok : c.Ok) (hsm : c.Small) :
    Calls Tryz.prog 24 #[cfgV c, .int .u16 (p : Int)] w fun e w' => e = .returned (.int .u64 ((usedL 0 c.frame (wo c.wins.l p) : Nat) : Int)) ∧ Below w.heap.size w w' := by
  have hB0 := Boxed1.start w c
  have HU := hide (RBusy_calls c p _ (hB0.cfg h) hok hsm)
  have HBC := hide (fun W (hW : Boxed1 w c W) => hW.cells)
  have HB0 := hide hB0
  unfold cfgC at HU HB0
  unfold cfgV at HU ⊢
  clear h hok hsm hB0
  go_enter Tryz.func24, Tryz.ntmps24
  obtain ⟨b0, b1, b2, b3, b4, b5⟩ := HBC.out _ HB0.out
  go_wp2_with (go_at_call 39; refine HU.out.mono ?_; rintro e w1 ⟨rfl, hb⟩; have HB1 := hide (HB0.out.1.trans (hb.mono HB0.out.1.size)); clear hb)
  go_ret
  exact ⟨rfl, HB1.out⟩
theorem acc_lt {F : Nat} {l : List WinR} (h : Sch F l) {p t : Nat} {n k : Nat} (hl : liveS F l (n + 1) t) (hk : k ≤ n) : accS F l p t k < 18446744073709551616 := by
  have h1 := acc_le (F := F) (l := l) (p := p) (at_ := t) k
  have h2 := hl k (by omega)
  omega
theorem acc_on {F : Nat} {l : List WinR} {p t k : Nat} (h : hitS F l p (tsS F l k t) = true ∧ tsS F l k t < t + F) : accS F l p t (k + 1) = accS F l p t k + untilS F l (tsS F l k t) := by
  show accS F l p t k + _ = _
  rw [if_pos h]
theorem acc_off {F : Nat} {l : List WinR} {p t k : Nat} (h : ¬ (hitS F l p (tsS F l k t) = true ∧ tsS F l k t < t + F)) : accS F l p t (k + 1) = accS F l p t k := by
  show accS F l p t k + _ = _
  rw [if_neg h, Nat.add_zero]
set_option maxRecDepth 100000 in
set_option maxHeartbeats 8000000 in
theorem SchedCounts_yes (c : Cfg) (kk : Nat) (w : World) (h : CfgAt w.heap.size c w) (hok : c.Ok) (hsm : c.Small) (hk : kk < 256) (hr : rightB c = true) (hfr : c.frame ≤ 1125899906842624) :
    Calls Tryz.prog 7 #[cfgV c, .int .u8 (kk : Int)] w fun e w' => e = .returned (.bool true) ∧ Below w.heap.size w w' := by
  have HAL := hide (fun W => alive_sd W)
  have hB0 := Boxed1.start w c
  have HRI := hide (fun W (hW : Boxed1 w c W) => right_calls c W (hW.cfg h) hok hsm)
  have HBC := hide (fun W (hW : Boxed1 w c W) => hW.cells)
  have HCF := hide (fun W (hW : Boxed1 w c W) => hW.cfg h)
  unfold cfgC at hB0
  rw [hr] at HRI
  have hf := hok.frame
  obtain ⟨At, hAt⟩ : ∃ A, A = c.frame * kk := ⟨_, rfl⟩
  have hAb : At ≤ 1125899906842624 * 255 := by rw [hAt]; exact Nat.mul_le_mul hfr (by omega)
  obtain ⟨nw, hnw⟩ : ∃ n, n = c.wins.l.length := ⟨_, rfl⟩
  have hnw120 : nw ≤ 120 := by rw [hnw]; exact fill_few hr
  have HNW := hide (fun W (hW : Boxed1 w c W) => New_yes c W (hW.cfg h) hok hsm (by omega) (right_all hr).2.2.2)
  have HSC := hide (fun l hp ha => sch_of hr hf (l := l) hp ha)
  have HTR := hide (fun l (hS : SchC c l ∧ l.length ≤ 1048576) a cap g W (hW : LwB c l a cap g w W) => Trace_calls c.frame l a cap g At (2 * nw + 1) W hW.sd hS.1.sch hS.2 (by omega) (by omega) (by omega))
  have HLV : Hid (∀ l (hS : SchC c l ∧ l.length ≤ 1048576), l.length = nw ∧ liveS c.frame l (2 * nw + 1 + 1) At) := hide (fun l hS => ⟨by rw [hS.1.perm.length_eq, hnw], live_small hS.1.sch (by
    have h1 : (2 * nw + 1 + 1) * c.frame ≤ 242 * 1125899906842624 := Nat.mul_le_mul (by omega) hfr
    omega)⟩)
  have HTK : Hid (∀ l (hS : SchC c l ∧ l.length ≤ 1048576), traceK c.frame l (2 * nw + 1) At = rngs c.frame l (2 * nw + 1) At) := hide (fun l hS => trace_full _ _ (fun j hj => (HLV.out l hS).2 j (by omega)))
  have HLK := hide (fun l (hS : SchC c l ∧ l.length ≤ 1048576) a cap g W (hW : LwB c l a cap g w W) T => Lookup_any c.frame l a cap g T W hW.sd hS.1.sch hS.2)
  have HBU := hide (fun l (hS : SchC c l ∧ l.length ≤ 1048576) (p : Nat) W (hW : Boxed1 w c W) => (show Calls Tryz.prog 24 #[cfgV c, .int .u16 (p : Int)] W fun e w' => e = .returned (.int .u64 ((busyTo l p c.frame : Nat) : Int)) ∧ Below W.heap.size W w' from by
    have := RBusy21_calls c p W (hW.cfg h) hok hsm
    rw [busy_all hr hf hS.1 p] at this
    exact this))
  have HFA : Hid (∀ l (hS : SchC c l ∧ l.length ≤ 1048576) (p : Nat), accS c.frame l p At (2 * nw + 1) = busyTo l p c.frame) := hide (fun l hS p => by
    have h1 := HLV.out l hS
    have := frame_all hS.1.sch (p := p) (k := kk) (by rw [← hAt]; omega) (by rw [h1.1, ← hAt]; exact h1.2)
    rw [h1.1, ← hAt] at this
    exact this)
  have HTG := hide (fun l k => trace_get (F := c.frame) (l := l) (2 * nw + 1) At k (by omega))
  have HAC := hide (fun l (hS : SchC c l ∧ l.length ≤ 1048576) p k (hk : k ≤ 2 * nw + 1) => acc_lt hS.1.sch (p := p) (HLV.out l hS).2 hk)
  have hmul : IntKind.u64.wrap ((c.frame : Int) * (kk : Int)) = (At : Int) := wrapU (by rw [hAt]; simp) (by omega)
  obtain ⟨AF, hAF⟩ : ∃ A, A = At + c.frame := ⟨_, rfl⟩
  have haf : IntKind.u64.wrap ((At : Int) + (c.frame : Int)) = (AF : Int) := wrapU (by omega) (by omega)
  have HAF := hide hAF
  obtain ⟨n2, hn2⟩ : ∃ n, n = 2 * nw := ⟨_, rfl⟩
  obtain ⟨n3, hn3⟩ : ∃ n, n = 2 * nw + 1 := ⟨_, rfl⟩
  have m1 : (2 : Int) * (nw : Int) = (n2 : Int) := by omega
  have m2 : (n2 : Int) + 1 = (n3 : Int) := by omega
  have hn2I : (n2 : Int) ≤ 240 := by omega
  have hn3I : (n3 : Int) ≤ 241 := by omega
  rw [← hn3] at HTR HTK HFA HTG HAC
  have HN3 : Hid (n3 ≤ 241) := hide (by omega)
  have ef : decide (1125899906842624 < (c.frame : Int)) = false := by rw [decide_eq_false_iff_not]; omega
  have ef2 : decide (1125899906842624 < c.frame) = false := by rw [decide_eq_false_iff_not]; omega
  obtain ⟨np, hnp⟩ : ∃ n, n = c.parts.l.length := ⟨_, rfl⟩
  obtain ⟨pa, hpa⟩ : ∃ a, a = c.parts.a := ⟨_, rfl⟩
  have hnpI : (np : Int) ≤ 1048576 := by unfold Cfg.Small at hsm; omega
  have hpcap := h.parts.2
  have hpcI : (np : Int) ≤ (c.parts.c : Int) := by omega
  have hkI : (kk : Int) ≤ 255 := by omega
  have HNP := hide hnp
  have HPA := hide hpa
  unfold cfgV at HRI HNW HBU ⊢
  rw [← hnw, ← hnp, ← hpa] at HBC hB0 HRI HNW HBU ⊢
  have HB0 := hide hB0
  clear h hok hsm hB0 hr hf hfr hk hAt hAb hnw hnw120 HLV hAF hn2 hn3 hnp hpa hpcap
  go_enter Tryz.func7, Tryz.ntmps7
  obtain ⟨b0, b1, b2, b3, b4, b5⟩ := HBC.out _ HB0.out
  go_wp2_with (first
    | (go_at_call 18; refine (HRI.out _ HB0.out).mono ?_; rintro e w1 ⟨rfl, hb⟩; have HB1 := hide (HB0.out.below hb); clear hb b0 b1 b2 b3 b4 b5; obtain ⟨b0, b1, b2, b3, b4, b5⟩ := HBC.out _ HB1.out)
    | (go_at_call 11; refine (HNW.out _ HB1.out).mono ?_; rintro e w2 ⟨l, a, cap, g, rfl, hg, hsd, hp, ha, hb⟩; have HL2 := hide (show LwB c l a cap g w w2 from ⟨HB1.out.below hb, hsd⟩); have HS := hide (HSC.out l hp ha); clear hb hg hsd hp ha b0 b1 b2 b3 b4 b5; obtain ⟨b0, b1, b2, b3, b4, b5⟩ := HBC.out _ HL2.out.box))
  clear b0 b1 b2 b3 b4 b5 hmul
  have HTR1 := hide (HTR.out l HS.out a cap g)
  have HTK1 := hide (HTK.out l HS.out)
  have HLK1 := hide (HLK.out l HS.out a cap g)
  have HBU1 := hide (HBU.out l HS.out)
  have HFA1 := hide (HFA.out l HS.out)
  have HTG1 := hide (HTG.out l)
  have HAC1 := hide (HAC.out l HS.out)
  clear HTR HTK HLK HBU HFA HTG HAC HSC HRI HNW
  obtain ⟨TK, hTK⟩ : ∃ T, T = traceK c.frame l n3 At := ⟨_, rfl⟩
  have HTL : Hid (TK.length = n3) := hide (by rw [hTK, HTK1.out, rngs_len])
  have htr := HTR1.out
  have htg := HTG1.out
  rw [← hTK] at htr htg
  unfold TrV at htr
  rw [HTL.out] at htr htg
  have HTR2 := hide htr
  have HTG2 := hide htg
  clear htr htg hTK
  obtain ⟨wo, rfl⟩ : ∃ wo : World, wo = w2 := ⟨_, rfl⟩
  go_loopw [42] (fun v wr => ∃ k : Nat, k ≤ np ∧ v = .int .i64 (k : Int) ∧ Hid (LwB c l a cap g w wr)) (fun v _ => np - (intOf v).toNat)
  case atStart => exact ⟨0, Nat.zero_le _, rfl, HL2⟩
  case round =>
    obtain ⟨k, hk, rfl, hrel⟩ := hrel
    by_cases hlt : k < np
    · have hlt2 : (k : Int) < (np : Int) := by omega
      have hkl : k < c.parts.l.length := by have := HNP.out; omega
      obtain ⟨b, o, ha, hab, y0, y1, y2, y3⟩ := part_at (HCF.out wr hrel.out.box).parts k hkl
      obtain rfl : pa = some ⟨b, o, none⟩ := HPA.out.trans ha
      have hbz : b < wr.heap.size := cell_lt y0
      generalize c.parts.l[k] = y at *
      obtain ⟨pid, nm, per, dur⟩ := y
      simp only at y0 y1 y2 y3
      have HPA2 := hide ha
      have HL3 := hide (hrel.out.alloc (.cells #[.int .u16 (pid : Int), .string nm, .int .u64 (per : Int), .int .u64 (dur : Int)] 53))
      have HP3 := hide (Blk.new wr 53 #[.int .u16 (pid : Int), .string nm, .int .u64 (per : Int), .int .u64 (dur : Int)])
      obtain ⟨_, _, b2, _, _, _⟩ := HBC.out _ hrel.out.box
      have hwz : w.heap.size < wr.heap.size := hrel.out.box.2.lt
      clear ha hab
      go_wp2_with (go_at_call 23; refine (HTR2.out _ HL3.out).mono ?_; rintro e w3 ⟨ta, tc, rfl, ho, hb⟩; have HL4 := hide (HL3.out.below hb); have HP4 := hide (HP3.out.below hb HP3.out.lt); have HO4 := hide (own_base ho (B' := 0) (Nat.zero_le _)); clear ho hb b2 y0 y1 y2 y3)
      obtain ⟨wo2, rfl⟩ : ∃ wo : World, wo = w3 := ⟨_, rfl⟩
      obtain ⟨wp, rfl⟩ : ∃ wp : World, wp = wr := ⟨_, rfl⟩
      have HRO := hide hrel.out
      have hpx : wp.heap.size < wo2.heap.size := HP4.out.lt
      go_loopw [9, 55] (fun nv v wr => ∃ j A : Nat, j ≤ n3 ∧ v = .int .i64 (j : Int) ∧ nv = .int .u64 (A : Int) ∧ Hid (LwB c l a cap g w wr ∧ Blk wr wp.heap.size 53 #[.int .u16 (pid : Int), .string nm, .int .u64 (per : Int), .int .u64 (dur : Int)] ∧ wr.ownsRow 0 38 3 (.slice ta n3 tc) n3 (TK.flatMap winL) ∧ A = accS c.frame l pid At j)) (fun _ v _ => n3 - (intOf v).toNat)
      case atStart => exact ⟨0, 0, Nat.zero_le _, rfl, rfl, hide ⟨HL4.out, HP4.out, HO4.out, rfl⟩⟩
      case round =>
        obtain ⟨j, A, hj, rfl, rfl, hq⟩ := hrel
        obtain ⟨b0, b1, b2, b3, b4, b5⟩ := HBC.out _ hq.out.1.box
        have hwr : w.heap.size < wr.heap.size := hq.out.1.box.2.lt
        have hpq : wp.heap.size < wr.heap.size := hq.out.2.1.lt
        have p0 : wr.cell? ⟨wp.heap.size, 0, none⟩ = some (.int .u16 (pid : Int)) := hq.out.2.1.cell 0
        by_cases hjt : j < n3
        · have hjt2 : (j : Int) < (n3 : Int) := by omega
          obtain ⟨hget, hTs⟩ := HTG2.out j hjt
          have hjl : j < TK.length := by rw [HTL.out]; exact hjt
          rw [List.getElem?_eq_getElem hjl] at hget
          injection hget with hget
          obtain ⟨gg, rfl, _, hgc, hgl, hcell⟩ := own_cells winL_len hq.out.2.2.1 HTL.out j hjl
          have x0 : wr.cell? ⟨gg, j * 3, none⟩ = some (.int .u64 (TK[j].st : Int)) := hcell 0 (by omega)
          have x1 : wr.cell? ⟨gg, j * 3 + 1, none⟩ = some (.int .u64 (TK[j].len : Int)) := hcell 1 (by omega)
          have x2 : wr.cell? ⟨gg, j * 3 + 2, none⟩ = some (.int .u16 (TK[j].part : Int)) := hcell 2 (by omega)
          rw [hget] at x0 x1 x2
          unfold rngW at x0 x1 x2
          simp only at x0 x1 x2
          have hon := fun h => acc_on (F := c.frame) (l := l) (p := pid) (t := At) (k := j) h
          have hoff := fun h => acc_off (F := c.frame) (l := l) (p := pid) (t := At) (k := j) h
          have hacc := HAC1.out pid (j + 1) (by omega)
          obtain ⟨T, hT⟩ : ∃ T, T = tsS c.frame l j At := ⟨_, rfl⟩
          rw [← hT] at x0 x1 x2 hon hoff
          have hhs := hitS_eq c.frame l pid T
          have hlk := HLK1.out
          obtain ⟨U, hU⟩ : ∃ U, U = untilS c.frame l T := ⟨_, rfl⟩
          rw [← hU] at x1 hon
          have hlk1 := fun W hW => hlk W hW T
          generalize (winD l (T % c.frame)).part = PT at *
          generalize winB l (T % c.frame) = PB at *
          have HLK2 := hide hlk1
          have hA := hq.out.2.2.2
          rw [← hA] at hon hoff
          have hcI : (n3 : Int) ≤ (tc : Int) := by omega
          have HX := hide (Blk.new wr 38 #[.int .u64 (T : Int), .int .u64 (U : Int), .int .u16 (PT : Int)])
          have HL5 := hide (hq.out.1.alloc (.cells #[.int .u64 (T : Int), .int .u64 (U : Int), .int .u16 (PT : Int)] 38))
          have HP5 := hide (hq.out.2.1.alloc (.cells #[.int .u64 (T : Int), .int .u64 (U : Int), .int .u16 (PT : Int)] 38))
          have HO5 := hide (hq.out.2.2.1.alloc (.cells #[.int .u64 (T : Int), .int .u64 (U : Int), .int .u16 (PT : Int)] 38))
          have HAA := HAF.out
          by_cases hh : hitS c.frame l pid T = true ∧ T < At + c.frame
          · have hA2 := hon hh
            rw [hA2] at hacc
            have hh2 := hh.1
            rw [hhs, Bool.and_eq_true] at hh2
            obtain ⟨hpb, hpt⟩ := hh2
            have e0 : ((PT : Int) == (pid : Int)) = true := by rw [beq_iff_eq] at hpt ⊢; omega
            have e1 : decide ((T : Int) < (AF : Int)) = true := by rw [decide_eq_true_eq]; omega
            have e2 : decide (T < AF) = true := by rw [decide_eq_true_eq]; omega
            obtain ⟨A2, hA3⟩ : ∃ a, a = A + U := ⟨_, rfl⟩
            have hadd : IntKind.u64.wrap ((A : Int) + (U : Int)) = (A2 : Int) := wrapU (by omega) (by omega)
            have HF : Hid (A2 = accS c.frame l pid At (j + 1)) := hide (by rw [hA2, hA3])
            subst hpb
            clear hget hTs hcell hgl hgc hon hoff hacc hT hhs hlk hU hlk1 hA HAA hh hA2 hpt hA3 hq
            go_wp2_with (go_at_call 13; refine (HLK2.out _ HL5.out).mono ?_; rintro e w4 ⟨rfl, hb⟩; have HL6 := hide (HL5.out.below hb); have HP6 := hide (HP5.out.below hb HP5.out.lt); have HO6 := hide (own_below HO5.out hb); have HX6 := hide (HX.out.below hb HX.out.lt); clear hb b0 b1 b2 b3 b4 b5 p0 x0 x1 x2; obtain ⟨b0, b1, b2, b3, b4, b5⟩ := HBC.out _ HL6.out.box; have p0 : w4.cell? ⟨wp.heap.size, 0, none⟩ = some (.int .u16 (pid : Int)) := HP6.out.cell 0; have x0 : w4.cell? ⟨wr.heap.size, 0, none⟩ = some (.int .u64 (T : Int)) := HX6.out.cell 0; have x1 : w4.cell? ⟨wr.heap.size, 1, none⟩ = some (.int .u64 (U : Int)) := HX6.out.cell 1)
            go_roundw
            case rel =>
              have hfin : Hid (LwB c l a cap g w w4 ∧ Blk w4 wp.heap.size 53 #[.int .u16 (pid : Int), .string nm, .int .u64 (per : Int), .int .u64 (dur : Int)] ∧ w4.ownsRow 0 38 3 (.slice (some ⟨gg, 0, none⟩) n3 tc) n3 (TK.flatMap winL) ∧ A2 = accS c.frame l pid At (j + 1)) := hide ⟨HL6.out, HP6.out, HO6.out, HF.out⟩
              first | exact ⟨j + 1, A2, by omega, by go_num, rfl, hfin⟩ | ((repeat apply Exists.intro); exact ⟨⟨j + 1, A2, by omega, by go_num, rfl, hfin⟩, rfl⟩)
            case measure => simp [intOf]; omega
          · have hA2 := hoff hh
            have HF : Hid (A = accS c.frame l pid At (j + 1)) := hide hA2.symm
            have hcond : PB = false ∨ (PB = true ∧ ((PT : Int) == (pid : Int)) = false) ∨ (PB = true ∧ ((PT : Int) == (pid : Int)) = true ∧ decide ((T : Int) < (AF : Int)) = false ∧ decide (T < AF) = false) := by
              cases PB with
              | false => exact .inl rfl
              | true =>
                right
                by_cases hpt : PT = pid
                · right
                  have hhit : hitS c.frame l pid T = true := by rw [hhs, hpt]; simp
                  have hnl : ¬ T < AF := fun hl => hh ⟨hhit, by omega⟩
                  refine ⟨rfl, by rw [hpt]; simp, ?_, ?_⟩ <;> (rw [decide_eq_false_iff_not]; omega)
                · left
                  refine ⟨rfl, ?_⟩
                  rw [beq_eq_false_iff_ne]; omega
            clear hget hTs hcell hgl hgc hon hoff hacc hT hhs hlk hU hlk1 hA HAA hh hA2 hq
            rcases hcond with rfl | ⟨rfl, e0⟩ | ⟨rfl, e0, e1, e2⟩
            all_goals
              go_wp2_with (go_at_call 13; refine (HLK2.out _ HL5.out).mono ?_; rintro e w4 ⟨rfl, hb⟩; have HL6 := hide (HL5.out.below hb); have HP6 := hide (HP5.out.below hb HP5.out.lt); have HO6 := hide (own_below HO5.out hb); have HX6 := hide (HX.out.below hb HX.out.lt); clear hb b0 b1 b2 b3 b4 b5 p0 x0 x1 x2; obtain ⟨b0, b1, b2, b3, b4, b5⟩ := HBC.out _ HL6.out.box; have p0 : w4.cell? ⟨wp.heap.size, 0, none⟩ = some (.int .u16 (pid : Int)) := HP6.out.cell 0; have x0 : w4.cell? ⟨wr.heap.size, 0, none⟩ = some (.int .u64 (T : Int)) := HX6.out.cell 0; have x1 : w4.cell? ⟨wr.heap.size, 1, none⟩ = some (.int .u64 (U : Int)) := HX6.out.cell 1)
              go_roundw
              case rel =>
                have hfin : Hid (LwB c l a cap g w w4 ∧ Blk w4 wp.heap.size 53 #[.int .u16 (pid : Int), .string nm, .int .u64 (per : Int), .int .u64 (dur : Int)] ∧ w4.ownsRow 0 38 3 (.slice (some ⟨gg, 0, none⟩) n3 tc) n3 (TK.flatMap winL) ∧ A = accS c.frame l pid At (j + 1)) := hide ⟨HL6.out, HP6.out, HO6.out, HF.out⟩
                first | exact ⟨j + 1, A, by omega, by go_num, rfl, hfin⟩ | ((repeat apply Exists.intro); exact ⟨⟨j + 1, A, by omega, by go_num, rfl, hfin⟩, rfl⟩)
              case measure => simp [intOf]; omega
        · have hjn : j = n3 := by omega
          have hAe : A = busyTo l pid c.frame := by rw [hq.out.2.2.2, hjn, HFA1.out]
          have hbu := HBU1.out pid
          rw [← hAe] at hbu
          have HBU2 := hide hbu
          have HL5 := hide hq.out.1
          have ebu : ((A : Int) != (A : Int)) = false := by simp
          subst hjn
          clear hjt hj hAe hbu hq
          go_wp2_with (go_at_call 24; refine (HBU2.out _ HL5.out.box).mono ?_; rintro e w5 ⟨rfl, hb⟩; have HL6 := hide (HL5.out.below hb); clear hb b0 b1 b2 b3 b4 b5)
          go_roundw
          case rel => first | exact ⟨k + 1, by omega, by go_num, HL6⟩ | ((repeat apply Exists.intro); exact ⟨⟨k + 1, by omega, by go_num, HL6⟩, rfl⟩)
          case measure => simp [intOf]; omega
    · have hkn : k = np := by omega
      subst hkn
      have HN1 := hide (fun W => (show Calls Tryz.prog 13 #[.pointer none, .int .u64 0] W fun e w' => e = .returned (.tuple #[.int .u16 0, .bool false]) ∧ Below W.heap.size W w' from Lookup_nil 0 W))
      have HN2 := hide (fun W => (show Calls Tryz.prog 14 #[.pointer none, .int .u64 0] W fun e w' => e = .returned (.tuple #[.agg #[.int .u64 0, .int .u64 0, .int .u16 0], .bool false]) ∧ Below W.heap.size W w' from Window_nil 0 W))
      have HN3 := hide (fun W => (show Calls Tryz.prog 21 #[.pointer none, .int .u16 0, .int .u64 0] W fun e w' => e = .returned (.tuple #[.int .u64 0, .bool false]) ∧ Below W.heap.size W w' from Next_nil 0 0 W))
      have HN4 := hide (fun W => Len_nil W)
      have HN5 := hide (fun W => (show Calls Tryz.prog 19 #[.pointer none, .int .u64 5] W fun e w' => e = .returned (.int .u64 0) ∧ W = w' from Until_nil 5 W))
      have HN6 := hide (fun W => (show Calls Tryz.prog 23 #[.pointer none, .int .u64 0, .int .i64 3] W fun e w' => e = .returned (.slice none 0 0) ∧ Below W.heap.size W w' from Trace_none (.pointer none) (.inl rfl) 0 3 W (.inl rfl)))
      have HB3 := hide hrel.out.box
      clear hlt hk hrel haf m1 m2 ef ef2
      go_wp2_with (first
        | (go_at_call 13; refine (HN1.out _).mono ?_; rintro e w4 ⟨rfl, hb⟩; have HB4 := hide (HB3.out.below hb); clear hb)
        | (go_at_call 14; refine (HN2.out _).mono ?_; rintro e w5 ⟨rfl, hb⟩; have HB5 := hide ((HB4.out.below hb).alloc (.cells #[.int .u64 0, .int .u64 0, .int .u16 0] 38)); clear hb)
        | (go_at_call 21; refine (HN3.out _).mono ?_; rintro e w6 ⟨rfl, hb⟩; have HB6 := hide (HB5.out.below hb); clear hb)
        | (go_at_call 10; refine (HAL.out _).mono ?_; rintro e w7 ⟨rfl, hb⟩; have HB7 := hide (HB6.out.below hb); clear hb)
        | (go_at_call 17; refine (HN4.out _).mono ?_; rintro e w8 ⟨rfl, rfl⟩)
        | (go_at_call 19; refine (HN5.out _).mono ?_; rintro e w8 ⟨rfl, rfl⟩)
        | (go_at_call 23; refine (HN6.out _).mono ?_; rintro e w8 ⟨rfl, hb⟩; have HB8 := hide (HB7.out.below hb); clear hb))
      go_ret
      exact ⟨rfl, HB8.out.1⟩
set_option maxRecDepth 100000 in
set_option maxHeartbeats 8000000 in
theorem SchedCounts_no (c : Cfg) (kk : Nat) (w : World) (h : CfgAt w.heap.size c w) (hok : c.Ok) (hsm : c.Small) (hr : rightB c = false ∨ (rightB c = true ∧ 1125899906842624 < c.frame)) :
    Calls Tryz.prog 7 #[cfgV c, .int .u8 (kk : Int)] w fun e w' => e = .returned (.bool true) ∧ Below w.heap.size w w' := by
  have HAL := hide (fun W => alive_sd W)
  have hB0 := Boxed1.start w c
  have HRI := hide (fun W (hW : Boxed1 w c W) => right_calls c W (hW.cfg h) hok hsm)
  have HBC := hide (fun W (hW : Boxed1 w c W) => hW.cells)
  unfold cfgC at hB0
  have HB0 := hide hB0
  rcases hr with hr | ⟨hr, hfr⟩
  · rw [hr] at HRI
    unfold cfgV at HRI ⊢
    clear h hok hsm hB0 hr
    go_enter Tryz.func7, Tryz.ntmps7
    obtain ⟨b0, b1, b2, b3, b4, b5⟩ := HBC.out _ HB0.out
    go_wp2_with (first
      | (go_at_call 18; refine (HRI.out _ HB0.out).mono ?_; rintro e w1 ⟨rfl, hb⟩; have HB1 := hide (HB0.out.below hb); clear hb b0 b1 b2 b3 b4 b5; obtain ⟨b0, b1, b2, b3, b4, b5⟩ := HBC.out _ HB1.out)
      | (go_at_call 10; refine (HAL.out _).mono ?_; rintro e w2 ⟨rfl, hb⟩; have HB2 := hide (HB1.out.below hb); clear hb))
    go_ret
    exact ⟨rfl, HB2.out.1⟩
  · rw [hr] at HRI
    have ef : decide (1125899906842624 < (c.frame : Int)) = true := by rw [decide_eq_true_eq]; omega
    have ef2 : decide (1125899906842624 < c.frame) = true := by rw [decide_eq_true_eq]; omega
    unfold cfgV at HRI ⊢
    clear h hok hsm hB0 hr hfr
    go_enter Tryz.func7, Tryz.ntmps7
    obtain ⟨b0, b1, b2, b3, b4, b5⟩ := HBC.out _ HB0.out
    go_wp2_with (first
      | (go_at_call 18; refine (HRI.out _ HB0.out).mono ?_; rintro e w1 ⟨rfl, hb⟩; have HB1 := hide (HB0.out.below hb); clear hb b0 b1 b2 b3 b4 b5; obtain ⟨b0, b1, b2, b3, b4, b5⟩ := HBC.out _ HB1.out)
      | (go_at_call 10; refine (HAL.out _).mono ?_; rintro e w2 ⟨rfl, hb⟩; have HB2 := hide (HB1.out.below hb); clear hb))
    go_ret
    exact ⟨rfl, HB2.out.1⟩
theorem SchedCounts_calls (c : Cfg) (kk : Nat) (w : World) (h : CfgAt w.heap.size c w) (hok : c.Ok) (hsm : c.Small) (hk : kk < 256) :
    Calls Tryz.prog 7 #[cfgV c, .int .u8 (kk : Int)] w fun e w' => e = .returned (.bool true) ∧ Below w.heap.size w w' := by
  cases hr : rightB c with
  | false => exact SchedCounts_no c kk w h hok hsm (.inl hr)
  | true =>
    by_cases hfr : c.frame ≤ 1125899906842624
    · exact SchedCounts_yes c kk w h hok hsm hk hr hfr
    · exact SchedCounts_no c kk w h hok hsm (.inr ⟨hr, by omega⟩)
end Go.Proofs.YtmphookgaopdlaaGreat
