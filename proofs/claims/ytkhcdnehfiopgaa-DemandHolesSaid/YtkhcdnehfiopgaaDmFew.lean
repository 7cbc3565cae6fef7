/- The reference's Few (chapter 16), the law's fits and divides. -/
import Derived.Test.YtkhcdnehfiopgaaDmRefL
namespace Go.Proofs.Ytkhcdnehfiopgaa
open Go.RowKit Go.Sort
set_option linter.unusedVariables false

def okI (c : Cfg) (i : Nat) : Bool := match c.parts.l[i]? with
  | none => true
  | some x => !(decide (0 < x.per) && decide (2000 < c.frame / x.per)) && (List.range i).all fun k => match c.parts.l[k]? with
    | none => true
    | some y => !decide (y.id = x.id)
def few16B (c : Cfg) : Bool := (List.range c.parts.l.length).all (okI c)
theorem okI_at {c : Cfg} {i : Nat} (hi : i < c.parts.l.length) : okI c i = (!(decide (0 < c.parts.l[i].per) && decide (2000 < c.frame / c.parts.l[i].per)) && (List.range i).all fun k => match c.parts.l[k]? with
    | none => true
    | some y => !decide (y.id = c.parts.l[i].id)) := by unfold okI; rw [List.getElem?_eq_getElem hi]
theorem few16_no {c : Cfg} {i : Nat} (hi : i < c.parts.l.length) (h : okI c i = false) : few16B c = false := by
  unfold few16B
  rw [Bool.eq_false_iff]
  intro hh
  rw [List.all_eq_true] at hh
  rw [hh i (List.mem_range.2 hi)] at h
  cases h
theorem few16_yes {c : Cfg} (h : ∀ i, i < c.parts.l.length → okI c i = true) : few16B c = true := by
  unfold few16B
  rw [List.all_eq_true]
  exact fun i hi => h i (List.mem_range.1 hi)
theorem few16_ids {c : Cfg} (h : few16B c = true) : (ids c.parts.l).Nodup := by
  unfold few16B at h
  rw [List.all_eq_true] at h
  unfold ids
  rw [List.nodup_iff_pairwise_ne, List.pairwise_map, List.pairwise_iff_getElem]
  intro k i hk hi hki
  have h1 := h i (List.mem_range.2 hi)
  rw [okI_at hi, Bool.and_eq_true, List.all_eq_true] at h1
  have h2 := h1.2 k (List.mem_range.2 hki)
  rw [List.getElem?_eq_getElem hk] at h2
  simpa using h2
set_option maxRecDepth 100000 in
set_option maxHeartbeats 8000000 in
theorem RFew_calls (c : Cfg) (w : World) (h : CfgAt w.heap.size c w) (hok : c.Ok) (hsm : c.Small) :
    Calls Try.prog 26 #[cfgV c] w fun e w' => e = .returned (.bool (few16B c)) ∧ Below w.heap.size w w' := by
  have hB0 := Boxed1.start w c
  have hcap := h.parts.2
  have HCF := hide (fun W (hW : Boxed1 w c W) => hW.cfg h)
  have HPC := hide (fun W (hW : Boxed1 w c W) i (hi : i < c.parts.l.length) b o ha => part_cells h hW hi (b := b) (o := o) ha)
  have HFR := hide hok.frame
  obtain ⟨R, hR⟩ : ∃ R, R = few16B c := ⟨_, rfl⟩
  rw [← hR]
  have HR := hide hR
  obtain ⟨n, hn⟩ : ∃ n, n = c.parts.l.length := ⟨_, rfl⟩
  obtain ⟨pa, hpa⟩ : ∃ a, a = c.parts.a := ⟨_, rfl⟩
  have hnI : (n : Int) ≤ 1048576 := by unfold Cfg.Small at hsm; omega
  have hcI : (n : Int) ≤ (c.parts.c : Int) := by omega
  have HN := hide hn
  have HPA := hide hpa
  have HBC := hide (fun W (hW : Boxed1 w c W) => hW.cells)
  unfold cfgV
  unfold cfgC at hB0
  rw [← hn, ← hpa] at HBC hB0 ⊢
  have HB0 := hide hB0
  clear h hok hsm hcap hR hn hB0 hpa
  go_enter Try.func26, Try.ntmps26
  go_wp2
  generalize w.alloc (.cells #[.int .u64 (c.frame : Int), .slice pa n c.parts.c, .slice c.wins.a c.wins.l.length c.wins.c, .slice c.regs.a c.regs.l.length c.regs.c, .slice c.ports.a c.ports.l.length c.ports.c, .slice c.chans.a c.chans.l.length c.chans.c] 29) = W0 at *
  go_loopw [3] (fun v wr => ∃ i : Nat, i ≤ n ∧ v = .int .i64 (i : Int) ∧ Hid (Boxed1 w c wr ∧ ∀ j, j < i → okI c j = true)) (fun v _ => n - (intOf v).toNat)
  case atStart => exact ⟨0, Nat.zero_le _, rfl, hide ⟨HB0.out, fun j hj => absurd hj (by omega)⟩⟩
  case round =>
    obtain ⟨i, hi, rfl, hrel⟩ := hrel
    obtain ⟨b0, b1, b2, b3, b4, b5⟩ := HBC.out wr hrel.out.1
    by_cases hlt : i < n
    · have hlt2 : (i : Int) < (n : Int) := by omega
      have hkl : i < c.parts.l.length := by have := HN.out; omega
      obtain ⟨b, o, ha, hab, x0, x1, x2, x3⟩ := part_at (HCF.out wr hrel.out.1).parts i hkl
      obtain rfl : pa = some ⟨b, o, none⟩ := HPA.out.trans ha
      have hbz : b < wr.heap.size := cell_lt x0
      have hz0 : w.heap.size < wr.heap.size := hrel.out.1.2.lt
      have HNO := hide (fun h => HR.out.trans (few16_no hkl h))
      have HPX := hide (fun W (hW : Boxed1 w c W) k (hk : k < c.parts.l.length) => (HPC.out W hW k hk b o ha).1)
      have HOK := hide (okI_at hkl)
      obtain ⟨x, hx⟩ : ∃ x, x = c.parts.l[i] := ⟨_, rfl⟩
      rw [← hx] at x0 x1 x2 x3 HOK
      have HX1 : Hid (Boxed1 w c (wr.alloc (.cells (partC x) 40))) := hide (hrel.out.1.alloc _)
      have HQ1 := hide (Blk.new wr 40 (partC x))
      have HI := hide hrel.out.2
      obtain ⟨id, nm, per, dur⟩ := x
      unfold partC at HX1 HQ1
      simp only at HX1 HQ1 HOK x0 x1 x2 x3
      have HHA := hide ha
      have HLTN := hide hlt
      clear ha hab hrel hx
      by_cases hbig : 0 < per ∧ 2000 < c.frame / per
      · obtain ⟨hp, hq⟩ := hbig
        obtain ⟨q, hqq⟩ : ∃ q, q = c.frame / per := ⟨_, rfl⟩
        have hle := Nat.div_le_self c.frame per
        have hfr := HFR.out
        have HE : Hid (R = false) := hide (HNO.out (by rw [HOK.out]; simp [hp, hq]))
        rw [← hqq] at hq hle
        have hwq : IntKind.u64.wrap ((c.frame : Int).tdiv (per : Int)) = (q : Int) := by rw [← Int.ofNat_tdiv, ← hqq]; exact wrapN q (by omega)
        have hwq2 : IntKind.u64.wrap ((c.frame : Int) / (per : Int)) = (q : Int) := by
          have : (c.frame : Int) / (per : Int) = (q : Int) := by rw [hqq]; exact (Int.natCast_ediv _ _).symm
          rw [this]; exact wrapN q (by omega)
        have hpz : ((per : Int) == 0) = false := by rw [beq_eq_false_iff_ne]; omega
        have hpn : ¬ per = 0 := by omega
        have e0 : decide ((0 : Int) < (per : Int)) = true := by simpa using hp
        have e1 : decide (0 < per) = true := by simpa using hp
        have e2 : decide ((2000 : Int) < (q : Int)) = true := by simp; omega
        have e3 : decide (2000 < q) = true := by simpa using hq
        clear hp hq hqq hle hfr
        go_wp2
        go_ret
        exact ⟨by rw [HE.out]; rfl, HX1.out.1⟩
      · have hcase : per = 0 ∨ (0 < per ∧ ¬ 2000 < c.frame / per) := by
          rcases Nat.eq_zero_or_pos per with h0 | h0
          · exact .inl h0
          · exact .inr ⟨h0, fun h => hbig ⟨h0, h⟩⟩
        have HOK2 : Hid (okI c i = (List.range i).all fun k => match c.parts.l[k]? with
            | none => true
            | some y => !decide (y.id = id)) := hide (by
          rw [HOK.out]
          have : (!(decide (0 < per) && decide (2000 < c.frame / per))) = true := by
            rw [Bool.not_eq_true', Bool.and_eq_false_iff]
            rcases hcase with h0 | ⟨_, h1⟩
            · left; simp; omega
            · right; simpa using h1
          rw [this, Bool.true_and])
        clear hbig HOK
        rcases hcase with h0 | ⟨hp, hq⟩
        case' inl =>
          have e0 : decide ((0 : Int) < (per : Int)) = false := by simp; omega
          have e1 : decide (0 < per) = false := by simp; omega
          have e4 : (per = 0) = True := by simp; omega
          clear h0
          go_wp2
          clear e0 e1 e4
        case' inr =>
          obtain ⟨q, hqq⟩ : ∃ q, q = c.frame / per := ⟨_, rfl⟩
          have hle := Nat.div_le_self c.frame per
          have hfr := HFR.out
          rw [← hqq] at hq hle
          have hwq : IntKind.u64.wrap ((c.frame : Int).tdiv (per : Int)) = (q : Int) := by rw [← Int.ofNat_tdiv, ← hqq]; exact wrapN q (by omega)
          have hwq2 : IntKind.u64.wrap ((c.frame : Int) / (per : Int)) = (q : Int) := by
            have : (c.frame : Int) / (per : Int) = (q : Int) := by rw [hqq]; exact (Int.natCast_ediv _ _).symm
            rw [this]; exact wrapN q (by omega)
          have hpz : ((per : Int) == 0) = false := by rw [beq_eq_false_iff_ne]; omega
          have hpn : ¬ per = 0 := by omega
          have e0 : decide ((0 : Int) < (per : Int)) = true := by simpa using hp
          have e1 : decide (0 < per) = true := by simpa using hp
          have e2 : decide ((2000 : Int) < (q : Int)) = false := by simp; omega
          have e3 : decide (2000 < q) = false := by simpa using hq
          clear hp hq hqq hle hfr
          go_wp2
          clear hwq hwq2 hpz hpn e0 e1 e2 e3
        all_goals
          obtain ⟨wo, hwo⟩ : ∃ W, W = wr.alloc (.cells #[.int .u16 (id : Int), .string nm, .int .u64 (per : Int), .int .u64 (dur : Int)] 40) := ⟨_, rfl⟩
          obtain ⟨g, hg⟩ : ∃ g, g = wr.heap.size := ⟨_, rfl⟩
          have HX2 : Hid (Boxed1 w c wo) := hide (by rw [hwo]; exact HX1.out)
          have HQ2 : Hid (Blk wo g 40 #[.int .u16 (id : Int), .string nm, .int .u64 (per : Int), .int .u64 (dur : Int)]) := hide (by rw [hwo, hg]; exact HQ1.out)
          rw [← hwo, ← hg]
          clear hwo hg b0 b1 b2 b3 b4 b5 x0 x1 x2 x3 hbz hz0
          go_loopw [5] (fun v wr2 => ∃ k : Nat, k ≤ i ∧ v = .int .i64 (k : Int) ∧ Hid (Below wo.heap.size wo wr2 ∧ ∀ j, j < k → (match c.parts.l[j]? with | none => true | some y => !decide (y.id = id)) = true)) (fun v _ => i - (intOf v).toNat)
          case atStart => exact ⟨0, Nat.zero_le _, rfl, hide ⟨Below.refl _ _, fun j hj => absurd hj (by omega)⟩⟩
          case round =>
            obtain ⟨k, hk, rfl, hrel⟩ := hrel
            by_cases hlk : k < i
            · have hlkI : (k : Int) < (i : Int) := by omega
              have hkn : (k : Int) < (n : Int) := by omega
              have hkl2 : k < c.parts.l.length := by omega
              have HX3 := hide (HX2.out.below hrel.out.1)
              have y0 := HPX.out _ HX3.out k hkl2
              have q0 : wr.cell? ⟨g, 0, none⟩ = some (.int .u16 (id : Int)) := (HQ2.out.below hrel.out.1 HQ2.out.lt).cell 0
              obtain ⟨b0, b1, b2, b3, b4, b5⟩ := HBC.out _ HX3.out
              have mixed := mixed_prog
              have HJ := hide hrel.out
              have HAT : Hid (c.parts.l[k]? = some c.parts.l[k]) := hide (List.getElem?_eq_getElem hkl2)
              obtain ⟨y, hy⟩ : ∃ y, y = c.parts.l[k] := ⟨_, rfl⟩
              rw [← hy] at y0 HAT
              clear hrel hy
              by_cases hid : y.id = id
              · have e0 : ((y.id : Int) == (id : Int)) = true := by rw [hid]; exact beq_self_eq_true _
                have HE : Hid (R = false) := hide (HNO.out (by
                  rw [HOK2.out, Bool.eq_false_iff]
                  intro hh
                  rw [List.all_eq_true] at hh
                  have := hh k (List.mem_range.2 hlk)
                  rw [HAT.out] at this
                  simp [hid] at this))
                generalize y.id = yi at *
                clear hid
                go_wp2
                go_quiet (fail)
                go_wp2
                go_ret
                exact ⟨by rw [HE.out]; rfl, below_drewN HX3.out.1 nq⟩
              · have e0 : ((y.id : Int) == (id : Int)) = false := by rw [beq_eq_false_iff_ne]; omega
                have HE : Hid (∀ j, j < k + 1 → (match c.parts.l[j]? with | none => true | some y => !decide (y.id = id)) = true) := hide (fun j hj => by
                  by_cases ej : j = k
                  · subst ej; rw [HAT.out]; simpa using hid
                  · exact HJ.out.2 j (by omega))
                generalize y.id = yi at *
                clear hid
                go_wp2
                go_quiet (fail)
                go_wp2
                go_roundw
                case rel => exact ⟨k + 1, by omega, by go_num, hide ⟨below_drewN HJ.out.1 nq, HE.out⟩⟩
                case measure => simp [intOf]; omega
            · have hki : k = i := by omega
              subst hki
              have HE : Hid (∀ j, j < k + 1 → okI c j = true) := hide (fun j hj => by
                by_cases ej : j = k
                · subst ej
                  rw [HOK2.out, List.all_eq_true]
                  exact fun q hq => hrel.out.2 q (List.mem_range.1 hq)
                · exact HI.out j (by omega))
              have HX3 := hide (HX2.out.below hrel.out.1)
              clear hrel hlk
              go_wp2
              go_roundw
              case rel => exact ⟨k + 1, by omega, by go_num, hide ⟨HX3.out, HE.out⟩⟩
              case measure => simp [intOf]; omega
    · have hkn : i = n := by omega
      subst hkn
      have HE : Hid (R = true) := hide (by rw [HR.out]; exact few16_yes (fun j hj => hrel.out.2 j (by rw [HN.out]; exact hj)))
      have HX := hide hrel.out.1
      clear hrel hlt hi
      go_wp2
      go_ret
      exact ⟨by rw [HE.out]; rfl, HX.out.1⟩
end Go.Proofs.Ytkhcdnehfiopgaa
