/- The walk of the law ShowInverse (chapter 08). -/
import Derived.Test.YtcnihmlmaigkdaaGreatDoorShAlive
import Derived.Test.YtcnihmlmaigkdaaGreatDoorShInvL
import Derived.Test.YtcnihmlmaigkdaaGreatDoorMPrRun
import Derived.Test.YtcnihmlmaigkdaaGreatDoorMC5Less
import Derived.Stop.BytesEq
namespace Go.Proofs.YtcnihmlmaigkdaaGreatDoor
open Go.RowKit Go.Lib Go.Sort
set_option linter.unusedVariables false

theorem inv_eql (c i j c2 i2 j2 : Int) (w : World) : (binOp .eql 43 (.agg #[.int .i64 c, .int .i64 i, .int .i64 j]) (.agg #[.int .i64 c2, .int .i64 i2, .int .i64 j2])).run Tryz.prog w = .ok (.bool (c == c2 && (i == i2 && j == j2))) w := by
  have hf : Tryz.prog.underlying 43 = some (.struct (Tryz.prog.fieldsOf 43)) := by kernel_rfl
  have hp : Tryz.prog.stoodInHeld 43 = false := by kernel_rfl
  rw [run_eql_struct, run_equalIn_agg w 9999 _ _ _ hf hp]
  unfold Program.fieldsOf
  rw [Tryz.underlying43]
  simp [Op.eqFields, part, run_equalIn_int]
  by_cases h1 : c = c2 <;> by_cases h2 : i = i2 <;> by_cases h3 : j = j2 <;> simp [h1, h2, h3]
theorem inv_guard (o : BinOp) (x y : Operand) (xs ys : Array Value) (w : World) : (eqGuard o 43 x y (.agg xs) (.agg ys)).run Tryz.prog w = .ok () w :=
  run_eqGuard_agg w _ _ _ _ _ _ (by kernel_rfl)
section
variable {w W W' : World} {c d e : Cfg} {n m : Nat}
/-- The configuration that was read, and its fault, in blocks of their own. -/
def Inv1 (w : World) (c d : Cfg) (n : Nat) (W : World) : Prop := Boxed1 w c W ∧ CfgAt W.heap.size d W ∧ Blk W n 29 (cfgC d) ∧ Blk W (n + 1) 43 #[.int .i64 0, .int .i64 0, .int .i64 0]
theorem Inv1.below (h : Inv1 w c d n W) (hb : Below W.heap.size W W') : Inv1 w c d n W' := ⟨h.1.below hb, CfgAt.more (h.2.1.below hb) hb.size, h.2.2.1.below hb h.2.2.1.lt, h.2.2.2.below hb h.2.2.2.lt⟩
theorem Inv1.start (h1 : Boxed1 w c W) (h2 : CfgAt W.heap.size d W) : Inv1 w c d W.heap.size ((W.alloc (.cells (cfgC d) 29)).alloc (.cells #[.int .i64 0, .int .i64 0, .int .i64 0] 43)) := by
  have hb : Below W.heap.size W ((W.alloc (.cells (cfgC d) 29)).alloc (.cells #[.int .i64 0, .int .i64 0, .int .i64 0] 43)) := ((Below.refl _ W).alloc (Nat.le_refl _) _).alloc (by simp) _
  have k1 := (Blk.new W 29 (cfgC d)).alloc (.cells #[.int .i64 0, .int .i64 0, .int .i64 0] 43)
  have k2 := Blk.new (W.alloc (.cells (cfgC d) 29)) 43 #[.int .i64 0, .int .i64 0, .int .i64 0]
  rw [World.size_alloc] at k2
  exact ⟨h1.below hb, CfgAt.more (h2.below hb) hb.size, k1, k2⟩
/-- .. and that of the records, with the frame put in. -/
def InvS (w : World) (c d e : Cfg) (n m : Nat) (W : World) : Prop := Inv1 w c d n W ∧ CfgAt W.heap.size e W ∧ Blk W m 29 (cfgC { e with frame := c.frame }) ∧ Blk W (m + 1) 43 #[.int .i64 0, .int .i64 0, .int .i64 0]
theorem InvS.below (h : InvS w c d e n m W) (hb : Below W.heap.size W W') : InvS w c d e n m W' := ⟨h.1.below hb, CfgAt.more (h.2.1.below hb) hb.size, h.2.2.1.below hb h.2.2.1.lt, h.2.2.2.below hb h.2.2.2.lt⟩
theorem InvS.start (h1 : Inv1 w c d n W) (h2 : CfgAt W.heap.size e W) : InvS w c d e n W.heap.size ((W.alloc (.cells (cfgC { e with frame := c.frame }) 29)).alloc (.cells #[.int .i64 0, .int .i64 0, .int .i64 0] 43)) := by
  have hb : Below W.heap.size W ((W.alloc (.cells (cfgC { e with frame := c.frame }) 29)).alloc (.cells #[.int .i64 0, .int .i64 0, .int .i64 0] 43)) := ((Below.refl _ W).alloc (Nat.le_refl _) _).alloc (by simp) _
  have k1 := (Blk.new W 29 (cfgC { e with frame := c.frame })).alloc (.cells #[.int .i64 0, .int .i64 0, .int .i64 0] 43)
  have k2 := Blk.new (W.alloc (.cells (cfgC { e with frame := c.frame }) 29)) 43 #[.int .i64 0, .int .i64 0, .int .i64 0]
  rw [World.size_alloc] at k2
  exact ⟨h1.below hb, CfgAt.more (h2.below hb) hb.size, k1, k2⟩
theorem InvS.cells (h : InvS w c d e n m W) : (W.cell? ⟨w.heap.size, 0, none⟩ = some (.int .u64 (c.frame : Int)) ∧ W.cell? ⟨w.heap.size, 1, none⟩ = some (.slice c.parts.a c.parts.l.length c.parts.c) ∧ W.cell? ⟨w.heap.size, 2, none⟩ = some (.slice c.wins.a c.wins.l.length c.wins.c) ∧ W.cell? ⟨w.heap.size, 3, none⟩ = some (.slice c.regs.a c.regs.l.length c.regs.c) ∧ W.cell? ⟨w.heap.size, 4, none⟩ = some (.slice c.ports.a c.ports.l.length c.ports.c) ∧ W.cell? ⟨w.heap.size, 5, none⟩ = some (.slice c.chans.a c.chans.l.length c.chans.c)) ∧ (W.cell? ⟨n, 0, none⟩ = some (.int .u64 (d.frame : Int)) ∧ W.cell? ⟨n, 1, none⟩ = some (.slice d.parts.a d.parts.l.length d.parts.c) ∧ W.cell? ⟨n, 2, none⟩ = some (.slice d.wins.a d.wins.l.length d.wins.c) ∧ W.cell? ⟨n, 3, none⟩ = some (.slice d.regs.a d.regs.l.length d.regs.c) ∧ W.cell? ⟨n, 4, none⟩ = some (.slice d.ports.a d.ports.l.length d.ports.c) ∧ W.cell? ⟨n, 5, none⟩ = some (.slice d.chans.a d.chans.l.length d.chans.c)) ∧ (W.cell? ⟨n + 1, 0, none⟩ = some (.int .i64 0) ∧ W.cell? ⟨n + 1, 1, none⟩ = some (.int .i64 0) ∧ W.cell? ⟨n + 1, 2, none⟩ = some (.int .i64 0)) ∧ (W.cell? ⟨m, 0, none⟩ = some (.int .u64 (c.frame : Int)) ∧ W.cell? ⟨m, 1, none⟩ = some (.slice e.parts.a e.parts.l.length e.parts.c) ∧ W.cell? ⟨m, 2, none⟩ = some (.slice e.wins.a e.wins.l.length e.wins.c) ∧ W.cell? ⟨m, 3, none⟩ = some (.slice e.regs.a e.regs.l.length e.regs.c) ∧ W.cell? ⟨m, 4, none⟩ = some (.slice e.ports.a e.ports.l.length e.ports.c) ∧ W.cell? ⟨m, 5, none⟩ = some (.slice e.chans.a e.chans.l.length e.chans.c)) ∧ (W.cell? ⟨m + 1, 0, none⟩ = some (.int .i64 0) ∧ W.cell? ⟨m + 1, 1, none⟩ = some (.int .i64 0) ∧ W.cell? ⟨m + 1, 2, none⟩ = some (.int .i64 0)) :=
  ⟨h.1.1.cells, cfg_cells h.1.2.2.1, ⟨h.1.2.2.2.cell 0, h.1.2.2.2.cell 1, h.1.2.2.2.cell 2⟩, cfg_cells h.2.2.1, ⟨h.2.2.2.cell 0, h.2.2.2.cell 1, h.2.2.2.cell 2⟩⟩
end
set_option maxRecDepth 100000 in
set_option maxHeartbeats 8000000 in
theorem ShowInverse_calls (c : Cfg) (w : World) (h : CfgAt w.heap.size c w) (hok : c.Ok) (hsm : c.Small) (hv : Vars w) :
    Calls Tryz.prog 6 #[cfgV c] w fun e w' => e = .returned (.bool true) ∧ Below w.heap.size w w' := by
  have hvt := hv.tab
  have HAL := hide (fun W (hW : Boxed1 w c W) => alive8_calls W (hvt.below hW.1))
  have hB0 := Boxed1.start w c
  have HSM := hide (Small_calls c _ (hB0.cfg h) hok hsm)
  have HBC := hide (fun W (hW : Boxed1 w c W) => hW.cells)
  have HXC := hide (fun W d e n m (hW : InvS w c d e n m W) => hW.cells)
  have HB0 := hide hB0
  have hsf := fun (hs : smallB c = true) => small_few hok (small_both hs).1 (small_both hs).2
  have hPR := fun hs W (hW : Boxed1 w c W) => SPrint_calls c W (hW.cfg h) hok (hsf hs) (hvt.below hW.1)
  have hRC := fun hs W (hW : Boxed1 w c W) => SRecords_calls c W (hW.cfg h) hok (hsf hs) (hvt.below hW.1)
  have hPA : smallB c = true → ∀ W, Boxed1 w c W → Calls Tryz.prog 19 #[.string (ofL (printL c))] W (fun e w' => ∃ d, e = .returned (.tuple #[cfgV d, .agg #[.int .i64 0, .int .i64 0, .int .i64 0]]) ∧ CfgAt w'.heap.size d w' ∧ pcOf d = pcOf c ∧ Below W.heap.size W w') := fun hs W hW => by
    have h1 := PParse_calls (ofL (printL c)) W (hv.below hW.1)
    rw [parse_back hok (small_both hs).1 (small_both hs).2] at h1
    refine h1.mono fun e w' h2 => ?_
    obtain ⟨hb, d, he, ho, hp⟩ := h2
    exact ⟨d, he, ho.at_, hp, hb⟩
  have hPB : smallB c = true → ∀ W, Boxed1 w c W → Calls Tryz.prog 20 #[.string (ofL (recordsL c))] W (fun e w' => ∃ d, e = .returned (.tuple #[cfgV d, .agg #[.int .i64 0, .int .i64 0, .int .i64 0]]) ∧ CfgAt w'.heap.size d w' ∧ pcOf d = pcOf { c with frame := 0 } ∧ Below W.heap.size W w') := fun hs W hW => by
    have h1 := PRecords_calls (ofL (recordsL c)) W (hv.below hW.1)
    rw [recs_back hok (small_both hs).1 (small_both hs).2] at h1
    refine h1.mono fun e w' h2 => ?_
    obtain ⟨hb, d, he, ho, hp⟩ := h2
    exact ⟨d, he, ho.at_, hp, hb⟩
  have hSS : smallB c = true → ∀ W d, Boxed1 w c W → CfgAt W.heap.size d W → pcOf d = pcOf c → Calls Tryz.prog 14 #[cfgV d, cfgV c] W (fun e w' => e = .returned (.bool true) ∧ Below W.heap.size W w') := fun hs W d hW hd hp => by
    have hf := few_fit hok (small_both hs).1
    have h1 := RSame_calls d c W hd (hW.cfg h) (fit_alike hp hf) hf
    have h2 : sameK d c = true := (same_iff d c).2 (eqC_of hp)
    rw [h2] at h1
    exact h1
  unfold cfgC at HSM HB0
  unfold cfgV at HSM hPR hRC hPA hPB hSS ⊢
  generalize ofL (printL c) = PS at *
  generalize ofL (recordsL c) = RS at *
  generalize smallB c = F at *
  cases F
  · clear h hok hsm hv hvt hB0 hsf hPR hRC hPA hPB hSS
    go_enter Tryz.func6, Tryz.ntmps6
    go_wp2_with (first
      | (go_at_call 8; refine HSM.out.mono ?_; rintro e w1 ⟨rfl, hb⟩; have HB1 := hide (HB0.out.below hb); clear hb)
      | (go_at_call 9; refine (HAL.out _ HB1.out).mono ?_; rintro e w2 ⟨rfl, hb⟩; have HB2 := hide (HB1.out.below hb); clear hb))
    go_ret
    exact ⟨rfl, HB2.out.1⟩
  · have HPR := hide (hPR rfl)
    have HRC := hide (hRC rfl)
    have HPA := hide (hPA rfl)
    have HPB := hide (hPB rfl)
    have HSS := hide (hSS rfl)
    have fe := fun W => inv_eql 0 0 0 0 0 0 W
    have fg := fun o x y xs ys W => inv_guard o x y xs ys W
    have nb : ((0 : Int) == 0 && ((0 : Int) == 0 && (0 : Int) == 0)) = true := by rfl
    rw [nb] at fe
    have HST1 := hide (fun W d (h1 : Boxed1 w c W) (h2 : CfgAt W.heap.size d W) => Inv1.start h1 h2)
    have HST2 := hide (fun W d e n (h1 : Inv1 w c d n W) (h2 : CfgAt W.heap.size e W) => InvS.start h1 h2)
    have HBE := hide (fun W (e : Cfg) (hW : Boxed1 w c W) => (((hW.alloc (.cells (cfgC e) 29)).alloc (.cells #[.int .i64 0, .int .i64 0, .int .i64 0] 43)).cells))
    unfold cfgC at HST1 HST2 HBE
    clear h hok hsm hv hvt hB0 hsf hPR hRC hPA hPB hSS nb
    go_enter Tryz.func6, Tryz.ntmps6
    go_wp2_with (first
      | (go_at_call 8; refine HSM.out.mono ?_; rintro e w1 ⟨rfl, hb⟩; have HB1 := hide (HB0.out.below hb); obtain ⟨b0, b1, b2, b3, b4, b5⟩ := HBC.out w1 HB1.out; clear hb)
      | (go_at_call 10; refine (HPR.out _ HB1.out).mono ?_; rintro e w2 ⟨rfl, hb⟩; have HB2 := hide (HB1.out.below hb); clear hb b0 b1 b2 b3 b4 b5)
      | (go_at_call 19; refine (HPA.out _ HB2.out).mono ?_; rintro e w3 ⟨d, rfl, hd, hp, hb⟩; have HI3 := hide (HST1.out w3 d (HB2.out.below hb) hd); have HPD := hide hp; obtain ⟨b0, b1, b2, b3, b4, b5⟩ := HBE.out w3 d (HB2.out.below hb); clear hb hd hp)
      | (go_at_call 12; refine (HRC.out _ HI3.out.1).mono ?_; rintro e w4 ⟨rfl, hb⟩; have HI4 := hide (HI3.out.below hb); clear hb b0 b1 b2 b3 b4 b5)
      | (go_at_call 20; refine (HPB.out _ HI4.out.1).mono ?_; rintro e w5 ⟨e1, rfl, he, hp, hb⟩; have HI5 := hide (HST2.out w5 d e1 _ (HI4.out.below hb) he); have HPE := hide hp; obtain ⟨b0, b1, b2, b3, b4, b5⟩ := HBE.out w5 e1 (HI4.out.1.below hb); clear hb he hp)
      | (go_at_call 9; refine (HAL.out _ HI5.out.1.1).mono ?_; rintro e w6 ⟨rfl, hb⟩; have HI6 := hide (HI5.out.below hb); have HS1 := hide (HSS.out w6 d HI6.out.1.1 HI6.out.1.2.1 HPD.out); clear hb b0 b1 b2 b3 b4 b5; obtain ⟨⟨b0, b1, b2, b3, b4, b5⟩, ⟨d0, d1, d2, d3, d4, d5⟩, ⟨f0, f1, f2⟩, ⟨k0, k1, k2, k3, k4, k5⟩, g0, g1, g2⟩ := HXC.out _ _ _ _ _ HI6.out)
      | (go_at_call 14; (with_reducible refine HS1.out.mono ?_); rintro e w7 ⟨rfl, hb⟩; have HI7 := hide (HI6.out.below hb); have HS2 := hide (HSS.out w7 { e1 with frame := c.frame } HI7.out.1.1 ⟨HI7.out.2.1.parts, HI7.out.2.1.wins, HI7.out.2.1.regs, HI7.out.2.1.ports, HI7.out.2.1.chans, HI7.out.2.1.dests⟩ (by have := HPE.out; unfold pcOf at this ⊢; injection this with _ p1 p2 p3 p4 p5; simp only at p1 p2 p3 p4 p5 ⊢; rw [p1, p2, p3, p4, p5])); clear hb b0 b1 b2 b3 b4 b5 d0 d1 d2 d3 d4 d5 f0 f1 f2 k0 k1 k2 k3 k4 k5 g0 g1 g2; obtain ⟨⟨b0, b1, b2, b3, b4, b5⟩, ⟨d0, d1, d2, d3, d4, d5⟩, ⟨f0, f1, f2⟩, ⟨k0, k1, k2, k3, k4, k5⟩, g0, g1, g2⟩ := HXC.out _ _ _ _ _ HI7.out)
      | (go_at_call 14; refine HS2.out.mono ?_; rintro e w8 ⟨rfl, hb⟩; have HI8 := hide (HI7.out.below hb); clear hb))
    go_ret
    exact ⟨rfl, HI8.out.1.1.1⟩
end Go.Proofs.YtcnihmlmaigkdaaGreatDoor
