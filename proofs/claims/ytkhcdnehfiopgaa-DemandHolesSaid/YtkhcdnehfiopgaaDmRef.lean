/- The reference's demands (chapter 16): in, fits, Least, Short. -/
import Derived.Test.YtkhcdnehfiopgaaDmLoad
import Derived.Test.YtkhcdnehfiopgaaFrRef4
import Derived.Lib.MinMax
namespace Go.Proofs.Ytkhcdnehfiopgaa
open Go.RowKit Go.Sort
set_option linter.unusedVariables false

set_option maxHeartbeats 2000000 in
theorem RIn_calls (c : Cfg) (x : PartR) (k : Nat) (w : World) (h : CfgAt w.heap.size c w) (hsm : c.Small) (hk : (k + 1) * x.per < 18446744073709551616) (hk2 : k + 1 < 18446744073709551616) :
    Calls Try.prog 34 #[cfgV c, .agg (partC x), .int .u64 (k : Int)] w fun e w' => e = .returned (.int .u64 ((inR c x k : Nat) : Int)) ∧ Below w.heap.size w w' := by
  have hB0 := (Boxed1.start w c).alloc (.cells (partC x) 40)
  have HBC := hide (fun W (hW : Boxed1 w c W) => hW.cells)
  obtain ⟨f, hf⟩ : ∃ f, f = k * x.per := ⟨_, rfl⟩
  obtain ⟨t, ht⟩ : ∃ t, t = (k + 1) * x.per := ⟨_, rfl⟩
  obtain ⟨k1, hk1⟩ : ∃ k1, k1 = k + 1 := ⟨_, rfl⟩
  have hft : f ≤ t := by rw [hf, ht]; exact Nat.mul_le_mul_right _ (Nat.le_succ _)
  rw [← ht] at hk
  have hu := RUsed_calls c x.id f t _ (hB0.cfg h) hsm hk
  have hin : inR c x k = usedL f t (wo c.wins.l x.id) := by unfold inR; rw [hf, ht]
  rw [hin]
  have hm1 : IntKind.u64.wrap ((k : Int) * (x.per : Int)) = (f : Int) := by rw [← Int.natCast_mul, ← hf]; exact wrapN f (by omega)
  have hm2 : IntKind.u64.wrap ((k : Int) + 1) = (k1 : Int) := wrapUP (by omega) (by omega)
  have hm3 : IntKind.u64.wrap ((k1 : Int) * (x.per : Int)) = (t : Int) := by rw [← Int.natCast_mul, hk1, ← ht]; exact wrapN t (by omega)
  generalize usedL f t (wo c.wins.l x.id) = v at *
  obtain ⟨id, nm, per, dur⟩ := x
  unfold partC at hB0 hu ⊢
  unfold cfgC at hB0 hu
  unfold cfgV at hu ⊢
  simp only at hB0 hu hm1 hm3 ⊢
  have HU := hide hu
  have HB0 := hide hB0
  clear h hsm hk hk2 hf ht hk1 hft hu hin hB0
  obtain ⟨b0, b1, b2, b3, b4, b5⟩ := HBC.out _ HB0.out
  go_enter Try.func34, Try.ntmps34
  go_wp2_with (go_at_call 19; refine HU.out.mono ?_; rintro e w1 ⟨rfl, hb⟩; have HB1 := hide (HB0.out.below hb); clear hb)
  go_ret
  exact ⟨rfl, HB1.out.1⟩
set_option maxHeartbeats 1000000 in
theorem RFits_calls (c : Cfg) (x : PartR) (w : World) :
    Calls Try.prog 28 #[cfgV c, .agg (partC x)] w fun e w' => e = .returned (.bool (divB x.per c.frame)) ∧ Below w.heap.size w w' := by
  have HD := hide (fun W => RefDivides_calls x.per c.frame W)
  unfold cfgV partC
  generalize divB x.per c.frame = b at *
  go_enter Try.func28, Try.ntmps28
  go_wp2_with (go_at_call 32; refine (HD.out _).mono ?_; rintro e w1 ⟨rfl, rfl⟩)
  go_ret
  exact ⟨rfl, ((Below.refl _ _).alloc (Nat.le_refl _) _).alloc (by simp) _⟩
/-- The configuration's box and a partition's. -/
def BoxP (w : World) (c : Cfg) (x : PartR) (W : World) : Prop := Boxed1 w c W ∧ Blk W (w.heap.size + 1) 40 (partC x)
section
variable {w W W' : World} {c : Cfg} {x : PartR}
theorem BoxP.start (w : World) (c : Cfg) (x : PartR) : BoxP w c x ((w.alloc (.cells (cfgC c) 29)).alloc (.cells (partC x) 40)) := by
  refine ⟨(Boxed1.start w c).alloc _, ?_⟩
  have := Blk.new (w.alloc (.cells (cfgC c) 29)) 40 (partC x)
  rwa [World.size_alloc] at this
theorem BoxP.below (h : BoxP w c x W) (hb : Below W.heap.size W W') : BoxP w c x W' := ⟨h.1.below hb, h.2.below hb h.2.lt⟩
theorem BoxP.drew (h : BoxP w c x W) : BoxP w c x W.drew := ⟨h.1.drewB, h.2⟩
theorem BoxP.cells (h : BoxP w c x W) : W.cell? ⟨w.heap.size + 1, 0, none⟩ = some (.int .u16 (x.id : Int)) ∧ W.cell? ⟨w.heap.size + 1, 1, none⟩ = some (.string x.name) ∧ W.cell? ⟨w.heap.size + 1, 2, none⟩ = some (.int .u64 (x.per : Int)) ∧ W.cell? ⟨w.heap.size + 1, 3, none⟩ = some (.int .u64 (x.dur : Int)) :=
  ⟨h.2.cell 0, h.2.cell 1, h.2.cell 2, h.2.cell 3⟩
end
theorem leastN_succ (P n : Nat) (f : Nat → Nat) : leastN P (n + 1) f = min (leastN P n f) (f n) := by unfold leastN; rw [List.range_succ, List.foldl_append]; rfl
theorem shortN_hit {d n cnt : Nat} {f : Nat → Nat} (hn : n < cnt) (h : shortN d n f = none) (hf : f n < d) : shortN d cnt f = some n := by
  unfold shortN at h ⊢
  rw [find_first]
  rw [List.find?_eq_none] at h
  exact ⟨hn, by simpa using hf, fun i hi => by simpa using h i (List.mem_range.2 hi)⟩
theorem shortN_on {d n : Nat} {f : Nat → Nat} (h : shortN d n f = none) (hf : ¬ f n < d) : shortN d (n + 1) f = none := by
  unfold shortN at h ⊢
  rw [List.range_succ, List.find?_append, h]
  simp [hf]
/-- What both loops need. -/
structure LoopC (c : Cfg) (x : PartR) (cnt : Nat) : Prop where
  pos : 0 < x.per
  eq : c.frame = cnt * x.per
  quo : c.frame / x.per = cnt
  lt : ∀ k, k < cnt → (k + 1) * x.per < 18446744073709551616
  cnt : cnt < 18446744073709551616
theorem loopC {c : Cfg} {x : PartR} (hf : c.frame < 18446744073709551616) (hd : divB x.per c.frame = true) : LoopC c x (c.frame / x.per) := by
  obtain ⟨h1, h2⟩ := div_spec hd
  have hle := Nat.div_le_self c.frame x.per
  refine ⟨h1, h2, rfl, fun k hk => ?_, by omega⟩
  have : (k + 1) * x.per ≤ c.frame / x.per * x.per := Nat.mul_le_mul_right _ hk
  omega
set_option maxRecDepth 100000 in
set_option maxHeartbeats 4000000 in
theorem RLeast_calls (c : Cfg) (i : Nat) (w : World) (h : CfgAt w.heap.size c w) (hok : c.Ok) (hsm : c.Small) (hi : i < c.parts.l.length) (hd : divB c.parts.l[i].per c.frame = true) :
    Calls Try.prog 17 #[cfgV c, .int .i64 (i : Int)] w fun e w' => e = .returned (.int .u64 ((leastR c c.parts.l[i] : Nat) : Int)) ∧ Below w.heap.size w w' := by
  have hcap := h.parts.2
  have hLC := loopC hok.frame hd
  obtain ⟨b, o, ha, hab, x0, x1, x2, x3⟩ := part_at h.parts i hi
  have hbz : b < w.heap.size := hab
  obtain ⟨x, hx⟩ : ∃ x, x = c.parts.l[i] := ⟨_, rfl⟩
  rw [← hx] at hLC x0 x1 x2 x3 ⊢
  obtain ⟨cnt, hcnt⟩ : ∃ n, n = c.frame / x.per := ⟨_, rfl⟩
  have hlr : leastR c x = leastN x.per cnt (inR c x) := by unfold leastR; rw [hcnt]
  rw [← hcnt] at hLC
  have hB0 := BoxP.start w c x
  have HCF := hide (fun W (hW : BoxP w c x W) => hW.1.cfg h)
  have HIN := hide (fun k (hk : k < cnt) W (hW : BoxP w c x W) => RIn_calls c x k W (hW.1.cfg h) hsm (hLC.lt k hk) (by have := hLC.cnt; omega))
  obtain ⟨R, hR⟩ : ∃ R, R = leastR c x := ⟨_, rfl⟩
  rw [← hR]
  have HR : Hid (R = leastN x.per cnt (inR c x)) := hide (hR.trans hlr)
  obtain ⟨f, hf⟩ : ∃ f, f = inR c x := ⟨_, rfl⟩
  have HIN2 : Hid (∀ k, k < cnt → ∀ W, BoxP w c x W → Calls Try.prog 34 #[cfgV c, .agg (partC x), .int .u64 (k : Int)] W fun e w' => e = .returned (.int .u64 ((f k : Nat) : Int)) ∧ Below W.heap.size W w') := hide (fun k hk W hW => by rw [hf]; exact HIN.out k hk W hW)
  rw [← hf] at HR
  have HLC := hide hLC
  have HBC := hide (fun W (hW : BoxP w c x W) => And.intro hW.1.cells hW.cells)
  have hq1 : (c.frame : Int).tdiv (x.per : Int) = (cnt : Int) := by rw [← Int.ofNat_tdiv, hcnt]
  have hq2 : (c.frame : Int) / (x.per : Int) = (cnt : Int) := by rw [hcnt]; exact (Int.natCast_ediv _ _).symm
  have hwq : IntKind.u64.wrap ((c.frame : Int).tdiv (x.per : Int)) = (cnt : Int) := by rw [hq1]; exact wrapN cnt hLC.cnt
  have hwq2 : IntKind.u64.wrap ((c.frame : Int) / (x.per : Int)) = (cnt : Int) := by rw [hq2]; exact wrapN cnt hLC.cnt
  have hwq3 : IntKind.u64.wrap (cnt : Int) = (cnt : Int) := wrapN cnt hLC.cnt
  have hpz : ((x.per : Int) == 0) = false := by rw [beq_eq_false_iff_ne]; have := hLC.pos; omega
  have hpp : (0 : Int) < (x.per : Int) := by have := hLC.pos; omega
  obtain ⟨n, hn⟩ : ∃ n, n = c.parts.l.length := ⟨_, rfl⟩
  have hiI : (i : Int) < (n : Int) := by omega
  have hi0 : (0 : Int) ≤ (i : Int) := by omega
  have hnI : (n : Int) ≤ 9223372036854775807 := by omega
  have hcI : (n : Int) ≤ (c.parts.c : Int) := by omega
  unfold cfgV at HIN2 ⊢
  unfold cfgC at hB0
  rw [ha, ← hn] at HBC HIN2 hB0 ⊢
  obtain ⟨id, nm, per, dur⟩ := x
  unfold partC at HIN2 hB0
  simp only at HIN2 hB0 x0 x1 x2 x3 hwq hwq2 hpz hpp HBC HR hq1 hq2
  have HB0 := hide hB0
  clear h hok hsm hd hcap hLC ha hab hx hcnt hlr hB0 HIN hR hf hn
  go_enter Try.func17, Try.ntmps17
  go_wp2
  generalize (w.alloc (.cells #[.int .u64 (c.frame : Int), .slice (some ⟨b, o, none⟩) n c.parts.c, .slice c.wins.a c.wins.l.length c.wins.c, .slice c.regs.a c.regs.l.length c.regs.c, .slice c.ports.a c.ports.l.length c.ports.c, .slice c.chans.a c.chans.l.length c.chans.c] 29)).alloc (.cells #[.int .u16 (id : Int), .string nm, .int .u64 (per : Int), .int .u64 (dur : Int)] 40) = W0 at *
  go_loopw [6, 7] (fun l v wr => ∃ k m : Nat, k ≤ cnt ∧ v = .int .u64 (k : Int) ∧ l = .int .u64 (m : Int) ∧ Hid (BoxP w c ⟨id, nm, per, dur⟩ wr ∧ m = leastN per k f)) (fun _ v _ => cnt - (intOf v).toNat)
  case atStart => exact ⟨0, per, Nat.zero_le _, rfl, rfl, hide ⟨HB0.out, rfl⟩⟩
  case round =>
    obtain ⟨k, m, hk, rfl, rfl, hrel⟩ := hrel
    obtain ⟨⟨b0, b1, b2, b3, b4, b5⟩, q0, q1, q2, q3⟩ := HBC.out wr hrel.out.1
    by_cases hlt : k < cnt
    · have e0 : decide ((k : Int) < (cnt : Int)) = true := by simpa using hlt
      have e1 : decide (k < cnt) = true := by simpa using hlt
      obtain ⟨k1, hk1⟩ : ∃ k1, k1 = k + 1 := ⟨_, rfl⟩
      have hm2 : IntKind.u64.wrap ((k : Int) + 1) = (k1 : Int) := wrapUP (by omega) (by have := HLC.out.cnt; omega)
      obtain ⟨m2, hm2'⟩ : ∃ m2, m2 = min m (f k) := ⟨_, rfl⟩
      have hmin : min (m : Int) ((f k : Nat) : Int) = (m2 : Int) := by omega
      have HK := hide hk1
      have HM : Hid (m2 = leastN per k1 f) := hide (by rw [hk1, leastN_succ, hm2', hrel.out.2])
      have HX := hide hrel.out.1
      have HI := hide (HIN2.out k hlt wr hrel.out.1)
      have HLT := hide hlt
      generalize f k = fk at *
      clear hrel hk1 hm2' hlt hk
      go_wp2_with (go_at_call 34; refine HI.out.mono ?_; rintro e w2 ⟨rfl, hb⟩; have HX2 := hide (HX.out.below hb); clear hb b0 b1 b2 b3 b4 b5 q0 q1 q2 q3)
      go_roundw
      case rel => exact ⟨k1, m2, by have := HK.out; have := HLT.out; omega, rfl, rfl, hide ⟨HX2.out, HM.out⟩⟩
      case measure => simp [intOf]; have := HK.out; have := HLT.out; omega
    · have hkn : k = cnt := by omega
      subst hkn
      have e0 : decide ((k : Int) < (k : Int)) = false := by simp
      have e1 : decide (k < k) = false := by simp
      have HE : Hid (R = m) := hide (by rw [HR.out, hrel.out.2])
      have HX := hide hrel.out.1
      clear hrel hlt hk
      go_wp2
      go_ret
      exact ⟨by rw [HE.out]; rfl, HX.out.1.1⟩
end Go.Proofs.Ytkhcdnehfiopgaa
