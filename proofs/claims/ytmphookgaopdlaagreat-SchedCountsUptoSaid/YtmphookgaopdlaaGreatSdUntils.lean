/- The laws SchedUntils and SchedRepeats (chapter 21). -/
import Derived.Test.YtmphookgaopdlaaGreatSdAlive
namespace Go.Proofs.YtmphookgaopdlaaGreat
open Go.RowKit Go.Sort
set_option linter.unusedVariables false

theorem win_same (lo len pt : Nat) (w : World) : (binOp .eql 38 (.agg #[.int .u64 (lo : Int), .int .u64 (len : Int), .int .u16 (pt : Int)]) (.agg #[.int .u64 (lo : Int), .int .u64 (len : Int), .int .u16 (pt : Int)])).run Tryz.prog w = .ok (.bool true) w := by
  have hf : Tryz.prog.underlying 38 = some (.struct (Tryz.prog.fieldsOf 38)) := by kernel_rfl
  have hp : Tryz.prog.stoodInHeld 38 = false := by kernel_rfl
  rw [run_eql_struct, run_equalIn_agg w 9999 _ _ _ hf hp]
  unfold Program.fieldsOf
  rw [Tryz.underlying38]
  simp [Op.eqFields, part, run_equalIn_int]
theorem win_guard (o : BinOp) (x y : Operand) (xs ys : Array Value) (w : World) : (eqGuard o 38 x y (.agg xs) (.agg ys)).run Tryz.prog w = .ok () w :=
  run_eqGuard_agg w _ _ _ _ _ _ (by kernel_rfl)
/-- A configuration in its box, its schedule. -/
structure LwB (c : Cfg) (l : List WinR) (a : Option Addr) (cap g : Nat) (w W : World) : Prop where
  box : Boxed1 w c W
  sd : SdAt c.frame l a cap g W
theorem LwB.below {c : Cfg} {l : List WinR} {a : Option Addr} {cap g : Nat} {w W W' : World} (h : LwB c l a cap g w W) (hb : Below W.heap.size W W') : LwB c l a cap g w W' := ⟨h.box.below hb, h.sd.below hb⟩
theorem LwB.alloc {c : Cfg} {l : List WinR} {a : Option Addr} {cap g : Nat} {w W : World} (h : LwB c l a cap g w W) (o : Obj) : LwB c l a cap g w (W.alloc o) := ⟨h.box.alloc o, h.sd.alloc o⟩
theorem few_right {c : Cfg} (h : rightB c = true) : c.wins.l.length ≤ 120 := fill_few h
theorem sch_of {c : Cfg} (hr : rightB c = true) (hf : c.frame < 18446744073709551616) {l : List WinR} (hp : l.Perm c.wins.l) (ha : AscW l) : SchC c l ∧ l.length ≤ 1048576 :=
  ⟨⟨right_sch hr hf hp ha, hp⟩, by rw [hp.length_eq]; have := fill_few hr; omega⟩
set_option maxRecDepth 100000 in
set_option maxHeartbeats 8000000 in
theorem SchedUntils_calls (c : Cfg) (t k : Nat) (w : World) (h : CfgAt w.heap.size c w) (hok : c.Ok) (hsm : c.Small) (ht : t < 18446744073709551616) (hk : k < 18446744073709551616) :
    Calls Tryz.prog 4 #[cfgV c, .int .u64 (t : Int), .int .u64 (k : Int)] w fun e w' => e = .returned (.bool true) ∧ Below w.heap.size w w' := by
  have HAL := hide (fun W => alive_sd W)
  have hB0 := Boxed1.start w c
  have HRI := hide (fun W (hW : Boxed1 w c W) => right_calls c W (hW.cfg h) hok hsm)
  have HBC := hide (fun W (hW : Boxed1 w c W) => hW.cells)
  unfold cfgC at hB0
  have HB0 := hide hB0
  cases hr : rightB c with
  | false =>
    rw [hr] at HRI
    unfold cfgV at HRI ⊢
    clear h hok hsm hB0 hr ht hk
    go_enter Tryz.func4, Tryz.ntmps4
    obtain ⟨b0, b1, b2, b3, b4, b5⟩ := HBC.out _ HB0.out
    go_wp2_with (first
      | (go_at_call 18; refine (HRI.out _ HB0.out).mono ?_; rintro e w1 ⟨rfl, hb⟩; have HB1 := hide (HB0.out.below hb); clear hb)
      | (go_at_call 10; refine (HAL.out _).mono ?_; rintro e w2 ⟨rfl, hb⟩; have HB2 := hide (HB1.out.below hb); clear hb))
    go_ret
    exact ⟨rfl, HB2.out.1⟩
  | true =>
    rw [hr] at HRI
    have hf := hok.frame
    have HNW := hide (fun W (hW : Boxed1 w c W) => New_yes c W (hW.cfg h) hok hsm (by have := fill_few hr; omega) (right_all hr).2.2.2)
    have HSC := hide (fun l hp ha => sch_of hr hf (l := l) hp ha)
    have HUN := hide (fun l (hS : SchC c l ∧ l.length ≤ 1048576) a cap g W (hW : LwB c l a cap g w W) => Until_calls c.frame l a cap g t W hW.sd hS.1.sch hS.2 ht)
    have HRU := hide (fun l (hS : SchC c l ∧ l.length ≤ 1048576) a cap g W (hW : LwB c l a cap g w W) => RUntil_calls c l t W (hW.box.cfg h) hsm hS.1 ht)
    have HWI := hide (fun l (hS : SchC c l ∧ l.length ≤ 1048576) a cap g T W (hW : LwB c l a cap g w W) => Window_any c.frame l a cap g T W hW.sd hS.1.sch hS.2)
    have HUB := hide (fun l (hS : SchC c l ∧ l.length ≤ 1048576) => until_bd hS.1.sch ht)
    have HCO := hide (fun l (hS : SchC c l ∧ l.length ≤ 1048576) j (hj : j < untilS c.frame l t) => win_const hS.1.sch ht hj)
    have HK := hide hk
    unfold cfgV at HRI HNW HRU ⊢
    clear h hok hsm hB0 hr ht hk hf
    go_enter Tryz.func4, Tryz.ntmps4
    obtain ⟨b0, b1, b2, b3, b4, b5⟩ := HBC.out _ HB0.out
    go_wp2_with (first
      | (go_at_call 18; refine (HRI.out _ HB0.out).mono ?_; rintro e w1 ⟨rfl, hb⟩; have HB1 := hide (HB0.out.below hb); clear hb b0 b1 b2 b3 b4 b5; obtain ⟨b0, b1, b2, b3, b4, b5⟩ := HBC.out _ HB1.out)
      | (go_at_call 11; refine (HNW.out _ HB1.out).mono ?_; rintro e w2 ⟨l, a, cap, g, rfl, hg, hsd, hp, ha, hb⟩; have HL2 := hide (show LwB c l a cap g w w2 from ⟨HB1.out.below hb, hsd⟩); have HS := hide (HSC.out l hp ha); clear hb hg hsd hp ha b0 b1 b2 b3 b4 b5))
    have hub := HUB.out l HS.out
    have hun := HUN.out l HS.out a cap g
    have hru := HRU.out l HS.out a cap g
    have hwi := HWI.out l HS.out a cap g
    have hco := HCO.out l HS.out
    obtain ⟨U, hU⟩ : ∃ U, U = untilS c.frame l t := ⟨_, rfl⟩
    rw [← hU] at hub hun hru hco
    have hkm : k % U < U := Nat.mod_lt _ (by omega)
    have hw1 := hwi t
    obtain ⟨r, hr⟩ : ∃ r, r = k % U := ⟨_, rfl⟩
    rw [← hr] at hkm
    obtain ⟨T2, hT2⟩ : ∃ T2, T2 = t + r := ⟨_, rfl⟩
    have hw2 := hwi T2
    have hc2 := hco r hkm
    rw [← hT2] at hc2
    have hD : winD l (T2 % c.frame) = winD l (t % c.frame) := by unfold winD; rw [hc2]
    have hBb : winB l (T2 % c.frame) = winB l (t % c.frame) := by unfold winB; rw [hc2]
    rw [hD, hBb] at hw2
    have m1 : (k : Int).tmod (U : Int) = (r : Int) := by rw [hr, Int.ofNat_tmod]
    have m2 : (k : Int) % (U : Int) = (r : Int) := by rw [hr]; omega
    have hu0 : ((U : Int) == 0) = false := by rw [beq_eq_false_iff_ne]; omega
    have hu1 : (0 : Int) < (U : Int) := by omega
    have hu2 : decide ((U : Int) < 1) = false := by rw [decide_eq_false_iff_not]; omega
    have hu3 : decide (U < 1) = false := by rw [decide_eq_false_iff_not]; omega
    have ha : IntKind.u64.wrap ((t : Int) + (r : Int)) = (T2 : Int) := wrapU (by omega) (by omega)
    generalize winD l (t % c.frame) = y at *
    generalize winB l (t % c.frame) = pb at *
    obtain ⟨lo, len, pt⟩ := y
    unfold winC at hw1 hw2
    simp only at hw1 hw2
    have HUN1 := hide hun
    have HRU1 := hide hru
    have HW1 := hide hw1
    have HW2 := hide hw2
    have fe := fun W => win_same lo len pt W
    have fg := fun o x y xs ys W => win_guard o x y xs ys W
    clear hub hun hru hwi hco hU hkm hw1 hw2 hr hT2 hc2 hD hBb
    have hpp : (pb == pb) = true := by simp
    go_wp2_with (first
      | (go_at_call 19; refine (HUN1.out _ HL2.out).mono ?_; rintro e w3 ⟨rfl, hb⟩; have HL3 := hide (HL2.out.below hb); clear hb; obtain ⟨b0, b1, b2, b3, b4, b5⟩ := HBC.out _ HL3.out.box)
      | (go_at_call 20; refine (HRU1.out _ HL3.out).mono ?_; rintro e w4 ⟨rfl, hb⟩; have HL4 := hide (HL3.out.below hb); clear hb b0 b1 b2 b3 b4 b5)
      | (go_at_call 14; (with_reducible refine (HW1.out _ HL4.out).mono ?_); rintro e w5 ⟨rfl, hb⟩; have HL5 := hide ((HL4.out.below hb).alloc (.cells #[.int .u64 (lo : Int), .int .u64 (len : Int), .int .u16 (pt : Int)] 38)); have HA5 := hide (Blk.new w5 38 #[.int .u64 (lo : Int), .int .u64 (len : Int), .int .u16 (pt : Int)]); clear hb)
      | (go_at_call 14; (with_reducible refine (HW2.out _ HL5.out).mono ?_); rintro e w6 ⟨rfl, hb⟩; have HL6 := hide ((HL5.out.below hb).alloc (.cells #[.int .u64 (lo : Int), .int .u64 (len : Int), .int .u16 (pt : Int)] 38)); have HA6 := hide ((HA5.out.below hb HA5.out.lt).alloc (.cells #[.int .u64 (lo : Int), .int .u64 (len : Int), .int .u16 (pt : Int)] 38)); have HC6 := hide (Blk.new w6 38 #[.int .u64 (lo : Int), .int .u64 (len : Int), .int .u16 (pt : Int)]); clear hb)
      | (go_at_call 10; refine (HAL.out _).mono ?_; rintro e w7 ⟨rfl, hb⟩; have HL7 := hide (HL6.out.below hb); have HA7 := hide (HA6.out.below hb HA6.out.lt); have HC7 := hide (HC6.out.below hb HC6.out.lt); clear hb; have a0 := HA7.out.cell 0; have a1 := HA7.out.cell 1; have a2 := HA7.out.cell 2; have c0 := HC7.out.cell 0; have c1 := HC7.out.cell 1; have c2 := HC7.out.cell 2; simp only [List.getElem?_toArray, List.getElem?_cons_zero, List.getElem?_cons_succ] at a0 a1 a2 c0 c1 c2))
    go_ret
    exact ⟨rfl, HL7.out.box.1⟩
end Go.Proofs.YtmphookgaopdlaaGreat
