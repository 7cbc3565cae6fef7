/- The reference's Short (chapter 16). -/
import Derived.Test.YtkhcdnehfiopgaaDmRef
import Derived.Deep.RegionHeld3
namespace Go.Proofs.Ytkhcdnehfiopgaa
open Go.RowKit Go.Sort
set_option linter.unusedVariables false

set_option maxRecDepth 100000 in
set_option maxHeartbeats 4000000 in
theorem RShort_calls (c : Cfg) (i : Nat) (w : World) (h : CfgAt w.heap.size c w) (hok : c.Ok) (hsm : c.Small) (hi : i < c.parts.l.length) (hd : divB c.parts.l[i].per c.frame = true) :
    Calls Try.prog 15 #[cfgV c, .int .i64 (i : Int)] w fun e w' => e = .returned (shortV (shortR c c.parts.l[i])) ∧ Below w.heap.size w w' := by
  have hcap := h.parts.2
  have hLC := loopC hok.frame hd
  obtain ⟨b, o, ha, hab, x0, x1, x2, x3⟩ := part_at h.parts i hi
  have hbz : b < w.heap.size := hab
  obtain ⟨x, hx⟩ : ∃ x, x = c.parts.l[i] := ⟨_, rfl⟩
  rw [← hx] at hLC x0 x1 x2 x3 ⊢
  obtain ⟨cnt, hcnt⟩ : ∃ n, n = c.frame / x.per := ⟨_, rfl⟩
  have hlr : shortR c x = shortN x.dur cnt (inR c x) := by unfold shortR; rw [hcnt]
  rw [← hcnt] at hLC
  have hB0 := BoxP.start w c x
  have HCF := hide (fun W (hW : BoxP w c x W) => hW.1.cfg h)
  have HIN := hide (fun k (hk : k < cnt) W (hW : BoxP w c x W) => RIn_calls c x k W (hW.1.cfg h) hsm (hLC.lt k hk) (by have := hLC.cnt; omega))
  obtain ⟨R, hR⟩ : ∃ R, R = shortR c x := ⟨_, rfl⟩
  rw [← hR]
  have HR : Hid (R = shortN x.dur cnt (inR c x)) := hide (hR.trans hlr)
  obtain ⟨f, hf⟩ : ∃ f, f = inR c x := ⟨_, rfl⟩
  have HIN2 : Hid (∀ k, k < cnt → ∀ W, BoxP w c x W → Calls Try.prog 34 #[cfgV c, .agg (partC x), .int .u64 (k : Int)] W fun e w' => e = .returned (.int .u64 ((f k : Nat) : Int)) ∧ Below W.heap.size W w') := hide (fun k hk W hW => by rw [hf]; exact HIN.out k hk W hW)
  rw [← hf] at HR
  have HLC := hide hLC
  have HBC := hide (fun W (hW : BoxP w c x W) => And.intro hW.1.cells hW.cells)
  have hq1 : (c.frame : Int).tdiv (x.per : Int) = (cnt : Int) := by rw [← Int.ofNat_tdiv, hcnt]
  have hq2 : (c.frame : Int) / (x.per : Int) = (cnt : Int) := by rw [hcnt]; exact (Int.natCast_ediv _ _).symm
  have hwq : IntKind.u64.wrap ((c.frame : Int).tdiv (x.per : Int)) = (cnt : Int) := by rw [hq1]; exact wrapN cnt hLC.cnt
  have hwq2 : IntKind.u64.wrap ((c.frame : Int) / (x.per : Int)) = (cnt : Int) := by rw [hq2]; exact wrapN cnt hLC.cnt
  have hwq3 : IntKind.u64.wrap (cnt : Int) = (cnt : Int) := wrapN cnt hLC.cnt
  have hpz : ((x.per : Int) == 0) = false := by rw [beq_eq_false_iff_ne]; have := hLC.pos; omega
  have hpp : (0 : Int) < (x.per : Int) := by have := hLC.pos; omega
  obtain ⟨n, hn⟩ : ∃ n, n = c.parts.l.length := ⟨_, rfl⟩
  have hiI : (i : Int) < (n : Int) := by omega
  have hi0 : (0 : Int) ≤ (i : Int) := by omega
  have hnI : (n : Int) ≤ 9223372036854775807 := by omega
  have hcI : (n : Int) ≤ (c.parts.c : Int) := by omega
  unfold cfgV at HIN2 ⊢
  unfold cfgC at hB0
  rw [ha, ← hn] at HBC HIN2 hB0 ⊢
  obtain ⟨id, nm, per, dur⟩ := x
  unfold partC at HIN2 hB0
  simp only at HIN2 hB0 x0 x1 x2 x3 hwq hwq2 hpz hpp HBC HR hq1 hq2
  have HB0 := hide hB0
  clear h hok hsm hd hcap hLC ha hab hx hcnt hlr hB0 HIN hR hf hn
  go_enter Try.func15, Try.ntmps15
  go_wp2
  generalize (w.alloc (.cells #[.int .u64 (c.frame : Int), .slice (some ⟨b, o, none⟩) n c.parts.c, .slice c.wins.a c.wins.l.length c.wins.c, .slice c.regs.a c.regs.l.length c.regs.c, .slice c.ports.a c.ports.l.length c.ports.c, .slice c.chans.a c.chans.l.length c.chans.c] 29)).alloc (.cells #[.int .u16 (id : Int), .string nm, .int .u64 (per : Int), .int .u64 (dur : Int)] 40) = W0 at *
  have HS2 : Hid (∀ W, BoxP w c ⟨id, nm, per, dur⟩ W → (W.cell? ⟨w.heap.size, 0, none⟩ = some (.int .u64 (c.frame : Int)) ∧ W.cell? ⟨w.heap.size, 1, none⟩ = some (.slice (some ⟨b, o, none⟩) n c.parts.c) ∧ W.cell? ⟨w.heap.size, 2, none⟩ = some (.slice c.wins.a c.wins.l.length c.wins.c) ∧ W.cell? ⟨w.heap.size, 3, none⟩ = some (.slice c.regs.a c.regs.l.length c.regs.c) ∧ W.cell? ⟨w.heap.size, 4, none⟩ = some (.slice c.ports.a c.ports.l.length c.ports.c) ∧ W.cell? ⟨w.heap.size, 5, none⟩ = some (.slice c.chans.a c.chans.l.length c.chans.c) ∧ W.cell? ⟨w.heap.size + 1, 0, none⟩ = some (.int .u16 (id : Int)) ∧ W.cell? ⟨w.heap.size + 1, 1, none⟩ = some (.string nm) ∧ W.cell? ⟨w.heap.size + 1, 2, none⟩ = some (.int .u64 (per : Int)) ∧ W.cell? ⟨w.heap.size + 1, 3, none⟩ = some (.int .u64 (dur : Int)) ∧ BoxP w c ⟨id, nm, per, dur⟩ W)) := hide (fun W hW => by
    obtain ⟨⟨a0, a1, a2, a3, a4, a5⟩, b0, b1, b2, b3⟩ := HBC.out W hW
    exact ⟨a0, a1, a2, a3, a4, a5, b0, b1, b2, b3, hW⟩)
  go_loopw [7] (fun v wr => ∃ k : Nat, k ≤ cnt ∧ v = .int .u64 (k : Int) ∧ Hid (BoxP w c ⟨id, nm, per, dur⟩ wr ∧ shortN dur k f = none)) (fun v _ => cnt - (intOf v).toNat)
  case atStart => exact ⟨0, Nat.zero_le _, rfl, hide ⟨HB0.out, rfl⟩⟩
  case round =>
    obtain ⟨k, hk, rfl, hrel⟩ := hrel
    obtain ⟨⟨b0, b1, b2, b3, b4, b5⟩, q0, q1, q2, q3⟩ := HBC.out wr hrel.out.1
    by_cases hlt : k < cnt
    · have e0 : decide ((k : Int) < (cnt : Int)) = true := by simpa using hlt
      have e1 : decide (k < cnt) = true := by simpa using hlt
      obtain ⟨k1, hk1⟩ : ∃ k1, k1 = k + 1 := ⟨_, rfl⟩
      have hm2 : IntKind.u64.wrap ((k : Int) + 1) = (k1 : Int) := wrapUP (by omega) (by have := HLC.out.cnt; omega)
      have HK := hide hk1
      have HX := hide hrel.out.1
      have HI := hide (fun W hW => HIN2.out k hlt W hW)
      have HLT := hide hlt
      by_cases hfd : f k < dur
      · have HE : Hid (R = some k) := hide (by rw [HR.out]; exact shortN_hit hlt hrel.out.2 hfd)
        have e2 : decide (((f k : Nat) : Int) < (dur : Int)) = true := by simpa using hfd
        have e3 : decide (f k < dur) = true := by simpa using hfd
        generalize f k = fk at *
        clear hrel hk1 hlt hk hfd
        go_wp2
        go_region_held3 (fun W => (W.cell? ⟨w.heap.size, 0, none⟩ = some (.int .u64 (c.frame : Int)) ∧ W.cell? ⟨w.heap.size, 1, none⟩ = some (.slice (some ⟨b, o, none⟩) n c.parts.c) ∧ W.cell? ⟨w.heap.size, 2, none⟩ = some (.slice c.wins.a c.wins.l.length c.wins.c) ∧ W.cell? ⟨w.heap.size, 3, none⟩ = some (.slice c.regs.a c.regs.l.length c.regs.c) ∧ W.cell? ⟨w.heap.size, 4, none⟩ = some (.slice c.ports.a c.ports.l.length c.ports.c) ∧ W.cell? ⟨w.heap.size, 5, none⟩ = some (.slice c.chans.a c.chans.l.length c.chans.c) ∧ W.cell? ⟨w.heap.size + 1, 0, none⟩ = some (.int .u16 (id : Int)) ∧ W.cell? ⟨w.heap.size + 1, 1, none⟩ = some (.string nm) ∧ W.cell? ⟨w.heap.size + 1, 2, none⟩ = some (.int .u64 (per : Int)) ∧ W.cell? ⟨w.heap.size + 1, 3, none⟩ = some (.int .u64 (dur : Int)) ∧ BoxP w c ⟨id, nm, per, dur⟩ W))
          (first | assumption | exact HS2.out _ HX.out.drew | exact HS2.out _ (BoxP.below (And.right (And.right (And.right (And.right (And.right (And.right (And.right (And.right (And.right (And.right (by assumption))))))))))) (by assumption)))
          ((go_at_call 34; refine (HI.out _ (And.right (And.right (And.right (And.right (And.right (And.right (And.right (And.right (And.right (And.right (by assumption)))))))))))).mono ?_; rintro e w2 ⟨rfl, hb⟩))
        have HX2 := hide (And.right (And.right (And.right (And.right (And.right (And.right (And.right (And.right (And.right (And.right (by assumption : _ ∧ _ ∧ _ ∧ _ ∧ _ ∧ _ ∧ _ ∧ _ ∧ _ ∧ _ ∧ BoxP w c ⟨id, nm, per, dur⟩ w2)))))))))))
        clear b0 b1 b2 b3 b4 b5 q0 q1 q2 q3
        go_wp2
        go_ret2
        exact ⟨by rw [HE.out]; rfl, HX2.out.1.1⟩
      · have HE : Hid (shortN dur k1 f = none) := hide (by rw [hk1]; exact shortN_on hrel.out.2 hfd)
        have e2 : decide (((f k : Nat) : Int) < (dur : Int)) = false := by simpa using hfd
        have e3 : decide (f k < dur) = false := by simpa using hfd
        generalize f k = fk at *
        clear hrel hk1 hlt hk hfd
        go_wp2
        go_region_held3 (fun W => (W.cell? ⟨w.heap.size, 0, none⟩ = some (.int .u64 (c.frame : Int)) ∧ W.cell? ⟨w.heap.size, 1, none⟩ = some (.slice (some ⟨b, o, none⟩) n c.parts.c) ∧ W.cell? ⟨w.heap.size, 2, none⟩ = some (.slice c.wins.a c.wins.l.length c.wins.c) ∧ W.cell? ⟨w.heap.size, 3, none⟩ = some (.slice c.regs.a c.regs.l.length c.regs.c) ∧ W.cell? ⟨w.heap.size, 4, none⟩ = some (.slice c.ports.a c.ports.l.length c.ports.c) ∧ W.cell? ⟨w.heap.size, 5, none⟩ = some (.slice c.chans.a c.chans.l.length c.chans.c) ∧ W.cell? ⟨w.heap.size + 1, 0, none⟩ = some (.int .u16 (id : Int)) ∧ W.cell? ⟨w.heap.size + 1, 1, none⟩ = some (.string nm) ∧ W.cell? ⟨w.heap.size + 1, 2, none⟩ = some (.int .u64 (per : Int)) ∧ W.cell? ⟨w.heap.size + 1, 3, none⟩ = some (.int .u64 (dur : Int)) ∧ BoxP w c ⟨id, nm, per, dur⟩ W))
          (first | assumption | exact HS2.out _ HX.out.drew | exact HS2.out _ (BoxP.below (And.right (And.right (And.right (And.right (And.right (And.right (And.right (And.right (And.right (And.right (by assumption))))))))))) (by assumption)))
          ((go_at_call 34; refine (HI.out _ (And.right (And.right (And.right (And.right (And.right (And.right (And.right (And.right (And.right (And.right (by assumption)))))))))))).mono ?_; rintro e w2 ⟨rfl, hb⟩))
        have HX2 := hide (And.right (And.right (And.right (And.right (And.right (And.right (And.right (And.right (And.right (And.right (by assumption : _ ∧ _ ∧ _ ∧ _ ∧ _ ∧ _ ∧ _ ∧ _ ∧ _ ∧ _ ∧ BoxP w c ⟨id, nm, per, dur⟩ w2)))))))))))
        clear b0 b1 b2 b3 b4 b5 q0 q1 q2 q3
        go_wp2
        go_roundw
        case rel => exact ⟨k1, by have := HK.out; have := HLT.out; omega, rfl, hide ⟨HX2.out, HE.out⟩⟩
        case measure => simp [intOf]; have := HK.out; have := HLT.out; omega
    · have hkn : k = cnt := by omega
      subst hkn
      have e0 : decide ((k : Int) < (k : Int)) = false := by simp
      have e1 : decide (k < k) = false := by simp
      have HE : Hid (R = none) := hide (by rw [HR.out, hrel.out.2])
      have HX := hide hrel.out.1
      clear hrel hlt hk
      go_wp2
      go_ret2
      exact ⟨by rw [HE.out]; rfl, HX.out.1.1⟩
end Go.Proofs.Ytkhcdnehfiopgaa
