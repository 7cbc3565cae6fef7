/- The walk of the law FrameCounts (chapter 15). -/
import Derived.Test.YthccadabblkalaaFrCtLaw
import Derived.Deep.RegionHeld3
import Derived.BigQuiet
namespace Go.Proofs.Ythccadabblkalaa
open Go.RowKit Go.Sort
set_option linter.unusedVariables false

def arrC (x0 x1 x2 : Nat) : Array Value := #[.int .u64 (x0 : Int), .int .u64 (x1 : Int), .int .u64 (x2 : Int)]
def BoxedA (w : World) (c : Cfg) (x0 x1 x2 : Nat) (W : World) : Prop := Boxed1 w c W ∧ Blk W (w.heap.size + 1) 39 (arrC x0 x1 x2)
section
variable {w W W' : World} {c : Cfg} {x0 x1 x2 : Nat}
theorem BoxedA.start (w : World) (c : Cfg) (x0 x1 x2 : Nat) : BoxedA w c x0 x1 x2 ((w.alloc (.cells (cfgC c) 29)).alloc (.cells (arrC x0 x1 x2) 39)) := by
  refine ⟨(Boxed1.start w c).alloc _, ?_⟩
  have := Blk.new (w.alloc (.cells (cfgC c) 29)) 39 (arrC x0 x1 x2)
  rwa [World.size_alloc] at this
theorem BoxedA.below (h : BoxedA w c x0 x1 x2 W) (hb : Below W.heap.size W W') : BoxedA w c x0 x1 x2 W' := ⟨h.1.below hb, h.2.below hb h.2.lt⟩
theorem BoxedA.drew (h : BoxedA w c x0 x1 x2 W) : BoxedA w c x0 x1 x2 W.drew := ⟨h.1.drewB, h.2⟩
theorem BoxedA.drewN (h : BoxedA w c x0 x1 x2 W) (k : Nat) : BoxedA w c x0 x1 x2 (W.drewN k) := ⟨⟨below_drewN h.1.1 k, h.1.2⟩, h.2⟩
theorem BoxedA.cells (h : BoxedA w c x0 x1 x2 W) : W.cell? ⟨w.heap.size, 0, none⟩ = some (.int .u64 (c.frame : Int)) ∧ W.cell? ⟨w.heap.size, 1, none⟩ = some (.slice c.parts.a c.parts.l.length c.parts.c) ∧ W.cell? ⟨w.heap.size, 2, none⟩ = some (.slice c.wins.a c.wins.l.length c.wins.c) ∧ W.cell? ⟨w.heap.size, 3, none⟩ = some (.slice c.regs.a c.regs.l.length c.regs.c) ∧ W.cell? ⟨w.heap.size, 4, none⟩ = some (.slice c.ports.a c.ports.l.length c.ports.c) ∧ W.cell? ⟨w.heap.size, 5, none⟩ = some (.slice c.chans.a c.chans.l.length c.chans.c) ∧ W.cell? ⟨w.heap.size + 1, 0, none⟩ = some (.int .u64 (x0 : Int)) ∧ W.cell? ⟨w.heap.size + 1, 1, none⟩ = some (.int .u64 (x1 : Int)) ∧ W.cell? ⟨w.heap.size + 1, 2, none⟩ = some (.int .u64 (x2 : Int)) ∧ BoxedA w c x0 x1 x2 W := by
  obtain ⟨a0, a1, a2, a3, a4, a5⟩ := h.1.cells
  exact ⟨a0, a1, a2, a3, a4, a5, h.2.cell 0, h.2.cell 1, h.2.cell 2, h⟩
end
set_option maxRecDepth 100000 in
set_option maxHeartbeats 8000000 in
theorem FrameCounts_calls (c : Cfg) (p x0 x1 x2 : Nat) (hx0 : x0 < 18446744073709551616) (hx1 : x1 < 18446744073709551616) (hx2 : x2 < 18446744073709551616) (w : World) (h : CfgAt w.heap.size c w) (hok : c.Ok) (hsm : c.Small) :
    Calls Try.prog 4 #[cfgV c, .int .u16 (p : Int), .agg (arrC x0 x1 x2)] w fun e w' => e = .returned (.bool true) ∧ Below w.heap.size w w' := by
  have HAL := hide (fun W => alive_calls W)
  have HR := hide (fun W (hW : BoxedA w c x0 x1 x2 W) => right_calls c W (hW.1.cfg h) hok hsm)
  have hB0 := BoxedA.start w c x0 x1 x2
  have hrt : rightB c = true → _ := fun hr => wo_ok hr hok.frame p
  have hmin : min (x0 : Int) (x1 : Int) = ((min x0 x1 : Nat) : Int) := by omega
  have hmax : max (x0 : Int) (x1 : Int) = ((max x0 x1 : Nat) : Int) := by omega
  have hab : min x0 x1 ≤ max x0 x1 := by omega
  have ha : min x0 x1 < 18446744073709551616 := by omega
  have hb' : max x0 x1 < 18446744073709551616 := by omega
  generalize min x0 x1 = a at *
  generalize max x0 x1 = b at *
  have HU := hide (fun f t (ht : t < 18446744073709551616) W (hW : BoxedA w c x0 x1 x2 W) => Used_calls c p f t W (hW.1.cfg h) hsm ht)
  have HU1 := hide (HU.out x0 x1 hx1)
  have HU2 : Hid (∀ W, BoxedA w c x0 x1 x2 W → Calls Try.prog 12 #[cfgV c, .int .u16 (p : Int), .int .u64 0, .int .u64 (a : Int)] W fun e w' => e = .returned (.int .u64 ((usedL 0 a (wo c.wins.l p) : Nat) : Int)) ∧ Below W.heap.size W w') := hide (HU.out 0 a ha)
  have HU3 := hide (HU.out a b hb')
  have HU4 : Hid (∀ W, BoxedA w c x0 x1 x2 W → Calls Try.prog 12 #[cfgV c, .int .u16 (p : Int), .int .u64 (b : Int), .int .u64 18446744073709551615] W fun e w' => e = .returned (.int .u64 ((usedL b 18446744073709551615 (wo c.wins.l p) : Nat) : Int)) ∧ Below W.heap.size W w') := hide (HU.out b 18446744073709551615 (by decide))
  have HU5 := hide (HU.out x2 x2 hx2)
  have HRU := hide (fun W (hW : BoxedA w c x0 x1 x2 W) => RUsed_calls c p x0 x1 W (hW.1.cfg h) hsm hx1)
  have HBU := hide (fun W (hW : BoxedA w c x0 x1 x2 W) => Busy_calls c p W (hW.1.cfg h) hsm)
  have HRB := hide (fun W (hW : BoxedA w c x0 x1 x2 W) => RBusy_calls c p W (hW.1.cfg h) hok hsm)
  rw [used_none] at HU5
  have hfr := hok.frame
  have HBC := hide (fun W (hW : BoxedA w c x0 x1 x2 W) => hW.cells)
  unfold cfgC arrC at hB0
  have HB0 := hide hB0
  unfold arrC
  unfold cfgV at HU1 HU2 HU3 HU4 HU5 HRU HBU HRB HR ⊢
  generalize rightB c = F at *
  cases F
  · clear h hok hsm hB0 hrt HU HU1 HU2 HU3 HU4 HU5 HRU HBU HRB hmin hmax hab ha hb' hx0 hx1 hx2 hfr
    go_enter Try.func4, Try.ntmps4
    obtain ⟨b0, b1, b2, b3, b4, b5, d0, d1, d2, _⟩ := HBC.out _ HB0.out
    go_wp2_with (first
      | (go_at_call 11; refine (HR.out _ HB0.out).mono ?_; rintro e w1 ⟨rfl, hb⟩; have HB1 := hide (HB0.out.below hb); clear hb)
      | (go_at_call 8; refine (HAL.out _).mono ?_; rintro e w2 ⟨rfl, hb⟩; have HB2 := hide (HB1.out.below hb); clear hb))
    go_ret
    exact ⟨rfl, HB2.out.1.1⟩
  · have hL := hrt rfl
    have h3 := used_three hfr hab hL
    rw [used_frame hfr hL] at HRB
    have s1 : ∀ u v : Nat, IntKind.u64.wrap ((u : Int) + (v : Int)) = (((u + v) % 18446744073709551616 : Nat) : Int) := wrap_add
    have S1 := s1 (usedL 0 a (wo c.wins.l p)) (usedL a b (wo c.wins.l p))
    have S2 := s1 ((usedL 0 a (wo c.wins.l p) + usedL a b (wo c.wins.l p)) % 18446744073709551616) (usedL b 18446744073709551615 (wo c.wins.l p))
    rw [h3] at S2
    clear h3 s1 hL hfr hrt hab ha hb' hx0 hx1 hx2 h hok hsm hB0 HU
    generalize (usedL 0 a (wo c.wins.l p) + usedL a b (wo c.wins.l p)) % 18446744073709551616 = q at *
    generalize usedL 0 a (wo c.wins.l p) = u2 at *
    generalize usedL a b (wo c.wins.l p) = u3 at *
    generalize usedL b 18446744073709551615 (wo c.wins.l p) = u4 at *
    generalize busyL (wo c.wins.l p) = m at *
    generalize usedL x0 x1 (wo c.wins.l p) = u1 at *
    have e1 : ((u1 : Int) == (u1 : Int)) = true := beq_self_eq_true _
    have e2 : ((m : Int) == (m : Int)) = true := beq_self_eq_true _
    go_enter Try.func4, Try.ntmps4
    obtain ⟨b0, b1, b2, b3, b4, b5, d0, d1, d2, _⟩ := HBC.out _ HB0.out
    go_wp2_with (go_at_call 11; refine (HR.out _ HB0.out).mono ?_; rintro e w1 ⟨rfl, hb⟩; have HB1 := hide (HB0.out.below hb); clear hb; clear b0 b1 b2 b3 b4 b5 d0 d1 d2; obtain ⟨b0, b1, b2, b3, b4, b5, d0, d1, d2, _⟩ := HBC.out _ HB1.out)
    go_quiet (fail)
    have HB2 := hide (HB1.out.drewN nq)
    generalize w1.drewN nq = w2 at *
    clear b0 b1 b2 b3 b4 b5 d0 d1 d2 hmin hmax
    obtain ⟨b0, b1, b2, b3, b4, b5, d0, d1, d2, _⟩ := HBC.out _ HB2.out
    go_wp2_with (go_at_call 12; refine (HU1.out _ HB2.out).mono ?_; rintro e w3 ⟨rfl, hb⟩; have HB3 := hide (HB2.out.below hb); clear hb b0 b1 b2 b3 b4 b5 d0 d1 d2; obtain ⟨b0, b1, b2, b3, b4, b5, d0, d1, d2, _⟩ := HBC.out _ HB3.out)
    go_region_held3 (fun w' => (w'.cell? ⟨w.heap.size, 0, none⟩ = some (.int .u64 (c.frame : Int)) ∧ w'.cell? ⟨w.heap.size, 1, none⟩ = some (.slice c.parts.a c.parts.l.length c.parts.c) ∧ w'.cell? ⟨w.heap.size, 2, none⟩ = some (.slice c.wins.a c.wins.l.length c.wins.c) ∧ w'.cell? ⟨w.heap.size, 3, none⟩ = some (.slice c.regs.a c.regs.l.length c.regs.c) ∧ w'.cell? ⟨w.heap.size, 4, none⟩ = some (.slice c.ports.a c.ports.l.length c.ports.c) ∧ w'.cell? ⟨w.heap.size, 5, none⟩ = some (.slice c.chans.a c.chans.l.length c.chans.c) ∧ w'.cell? ⟨w.heap.size + 1, 0, none⟩ = some (.int .u64 (x0 : Int)) ∧ w'.cell? ⟨w.heap.size + 1, 1, none⟩ = some (.int .u64 (x1 : Int)) ∧ w'.cell? ⟨w.heap.size + 1, 2, none⟩ = some (.int .u64 (x2 : Int)) ∧ BoxedA w c x0 x1 x2 w'))
      (first | assumption | exact HBC.out _ HB3.out.drew | exact HBC.out _ (BoxedA.below (And.right (And.right (And.right (And.right (And.right (And.right (And.right (And.right (And.right (by assumption)))))))))) (by assumption)))
      (first
      | (go_at_call 13; refine (HRU.out _ (And.right (And.right (And.right (And.right (And.right (And.right (And.right (And.right (And.right (by assumption))))))))))).mono ?_; rintro e wn ⟨rfl, hb⟩)
      | (go_at_call 14; refine (HBU.out _ (And.right (And.right (And.right (And.right (And.right (And.right (And.right (And.right (And.right (by assumption))))))))))).mono ?_; rintro e wn ⟨rfl, hb⟩)
      | (go_at_call 15; refine (HRB.out _ (And.right (And.right (And.right (And.right (And.right (And.right (And.right (And.right (And.right (by assumption))))))))))).mono ?_; rintro e wn ⟨rfl, hb⟩)
      | (go_at_call 8; refine (HAL.out _).mono ?_; rintro e wn ⟨rfl, hb⟩)
      | (go_at_call 12; (with_reducible first | refine (HU2.out _ (And.right (And.right (And.right (And.right (And.right (And.right (And.right (And.right (And.right (by assumption))))))))))).mono ?_ | refine (HU3.out _ (And.right (And.right (And.right (And.right (And.right (And.right (And.right (And.right (And.right (by assumption))))))))))).mono ?_ | refine (HU4.out _ (And.right (And.right (And.right (And.right (And.right (And.right (And.right (And.right (And.right (by assumption))))))))))).mono ?_ | refine (HU5.out _ (And.right (And.right (And.right (And.right (And.right (And.right (And.right (And.right (And.right (by assumption))))))))))).mono ?_); rintro e wn ⟨rfl, hb⟩))
    have HE : Hid (BoxedA w c x0 x1 x2 wn) := hide (And.right (And.right (And.right (And.right (And.right (And.right (And.right (And.right (And.right (by assumption : _ ∧ _ ∧ _ ∧ _ ∧ _ ∧ _ ∧ _ ∧ _ ∧ _ ∧ BoxedA w c x0 x1 x2 wn))))))))))
    go_wp2
    go_ret
    exact ⟨rfl, HE.out.1.1⟩
end Go.Proofs.Ythccadabblkalaa
