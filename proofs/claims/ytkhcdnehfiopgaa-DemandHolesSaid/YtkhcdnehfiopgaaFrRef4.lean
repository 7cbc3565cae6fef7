/- The walks of the reference's Used, Busy, Right and of the law's right (chapter 15). -/
import Derived.Test.YtkhcdnehfiopgaaFrWin
namespace Go.Proofs.Ytkhcdnehfiopgaa
open Go.RowKit Go.Sort
set_option linter.unusedVariables false

theorem ret_u64 {a b : Nat} (h : a = b) : Ending.returned (.int .u64 (a : Int)) = .returned (.int .u64 (b : Int)) := by rw [h]
set_option maxRecDepth 100000 in
set_option maxHeartbeats 4000000 in
theorem RUsed_calls (c : Cfg) (p f t : Nat) (w : World) (h : CfgAt w.heap.size c w) (hsm : c.Small) (ht : t < 18446744073709551616) :
    Calls Try.prog 19 #[cfgV c, .int .u16 (p : Int), .int .u64 (f : Int), .int .u64 (t : Int)] w fun e w' => e = .returned (.int .u64 ((usedL f t (wo c.wins.l p) : Nat) : Int)) ∧ Below w.heap.size w w' := by
  have HCF := hide (fun W (hW : Boxed1 w c W) => hW.cfg h)
  have hB0 := Boxed1.start w c
  have hcap := h.wins.2
  obtain ⟨n, hn⟩ : ∃ n, n = c.wins.l.length := ⟨_, rfl⟩
  obtain ⟨wa, hwa⟩ : ∃ a, a = c.wins.a := ⟨_, rfl⟩
  have hnI : (n : Int) ≤ 1048576 := by unfold Cfg.Small at hsm; omega
  have hcI : (n : Int) ≤ (c.wins.c : Int) := by omega
  have HN := hide hn
  have HWA := hide hwa
  have HT := hide ht
  have HBC := hide (fun W (hW : Boxed1 w c W) => hW.cells.2.2.1)
  unfold cfgV
  unfold cfgC at hB0
  rw [← hn, ← hwa] at HBC hB0 ⊢
  have HB0 := hide hB0
  clear h hsm hcap hn hB0 hwa ht
  go_enter Try.func19, Try.ntmps19
  go_wp2
  generalize w.alloc (.cells #[.int .u64 (c.frame : Int), .slice c.parts.a c.parts.l.length c.parts.c, .slice wa n c.wins.c, .slice c.regs.a c.regs.l.length c.regs.c, .slice c.ports.a c.ports.l.length c.ports.c, .slice c.chans.a c.chans.l.length c.chans.c] 29) = W0 at *
  go_loopw [9, 10] (fun s v wr => ∃ k m : Nat, k ≤ n ∧ v = .int .i64 (k : Int) ∧ s = .int .u64 (m : Int) ∧ Hid (Boxed1 w c wr ∧ m = usedL f t (wo (c.wins.l.take k) p))) (fun _ v _ => n - (intOf v).toNat)
  case atStart => exact ⟨0, 0, Nat.zero_le _, rfl, rfl, hide ⟨HB0.out, rfl⟩⟩
  case round =>
    obtain ⟨k, m, hk, rfl, rfl, hrel⟩ := hrel
    have b2 := HBC.out wr hrel.out.1
    by_cases hlt : k < n
    · have hlt2 : (k : Int) < (n : Int) := by omega
      have hkl : k < c.wins.l.length := by have := HN.out; omega
      obtain ⟨b, o, ha, hab, x0, x1, x2⟩ := win_at (HCF.out wr hrel.out.1).wins k hkl
      obtain rfl : wa = some ⟨b, o, none⟩ := HWA.out.trans ha
      have hyes := fun he => wo_yes (p := p) hkl he
      have hno := fun he => wo_no (p := p) hkl he
      have HM := hide hrel.out.2
      have HB1 := hide hrel.out.1
      have hz : w.heap.size < wr.heap.size := hrel.out.1.2.lt
      have HHA := hide ha
      have hw : IntKind.u64.wrap ((c.wins.l[k].st : Int) + (c.wins.l[k].len : Int)) = ((hiW c.wins.l[k] : Nat) : Int) := wrap_add _ _
      generalize hiW c.wins.l[k] = hi2 at *
      generalize c.wins.l[k] = x at *
      clear ha hab hrel
      obtain ⟨lo, len, part⟩ := x
      simp only at x0 x1 x2 hyes hno hw
      have hmax : max (lo : Int) (f : Int) = ((max lo f : Nat) : Int) := by omega
      have hmin : min (hi2 : Int) (t : Int) = ((min hi2 t : Nat) : Int) := by omega
      have hmt : min hi2 t < 18446744073709551616 := by have := HT.out; omega
      have hsn := usedL_snoc f t (wo (c.wins.l.take k) p) (lo, hi2)
      unfold usedF at hsn
      simp only at hsn
      rw [← HM.out] at hsn
      generalize max lo f = M at *
      generalize min hi2 t = mm at *
      by_cases hp : part = p
      · have p0 : ((part : Int) == (p : Int)) = true := by rw [hp]; exact beq_self_eq_true _
        have HY := hide (hyes hp)
        clear hyes hno
        by_cases hlt3 : M < mm
        · rw [if_pos hlt3] at hsn
          have hsub := wrap_sub mm M (by omega) hmt
          have hadd := wrap_add m (mm - M)
          have e0 : decide ((M : Int) < (mm : Int)) = true := by simpa using hlt3
          have e1 : decide (M < mm) = true := by simpa using hlt3
          rw [← hsn] at hadd
          generalize mm - M = d at *
          obtain ⟨n2, hn2⟩ : ∃ n, n = usedL f t (wo (c.wins.l.take k) p ++ [(lo, hi2)]) := ⟨_, rfl⟩
          rw [← hn2] at hadd
          have HN2 : Hid (n2 = usedL f t (wo (c.wins.l.take (k + 1)) p)) := hide (by rw [hn2, HY.out])
          clear hn2 hsn hmt hlt3 hp
          go_wp2
          go_roundw
          case rel => exact ⟨k + 1, n2, by omega, by go_num, rfl, hide ⟨HB1.out.alloc _, HN2.out⟩⟩
          case measure => simp [intOf]; omega
        · rw [if_neg hlt3] at hsn
          have e0 : decide ((M : Int) < (mm : Int)) = false := by simpa using hlt3
          have e1 : decide (M < mm) = false := by simpa using hlt3
          have HN2 : Hid (m = usedL f t (wo (c.wins.l.take (k + 1)) p)) := hide (by rw [HY.out, hsn])
          clear hsn hmt hlt3 hp
          go_wp2
          go_roundw
          case rel => exact ⟨k + 1, m, by omega, by go_num, rfl, hide ⟨HB1.out.alloc _, HN2.out⟩⟩
          case measure => simp [intOf]; omega
      · have p0 : ((part : Int) == (p : Int)) = false := by rw [beq_eq_false_iff_ne]; exact fun h => hp (by exact_mod_cast h)
        have HN2 : Hid (m = usedL f t (wo (c.wins.l.take (k + 1)) p)) := hide (by rw [hno hp]; exact HM.out)
        clear hyes hno hsn hmt hp
        go_wp2
        go_roundw
        case rel => exact ⟨k + 1, m, by omega, by go_num, rfl, hide ⟨HB1.out.alloc _, HN2.out⟩⟩
        case measure => simp [intOf]; omega
    · have hkn : k = n := by omega
      subst hkn
      have HE : Hid (m = usedL f t (wo c.wins.l p)) := hide (by have := hrel.out.2; rwa [List.take_of_length_le (by rw [HN.out]; exact Nat.le_refl _)] at this)
      have HB1 := hide hrel.out.1
      clear hlt hk hrel
      go_wp2
      go_ret
      exact ⟨ret_u64 HE.out, HB1.out.1⟩
set_option maxRecDepth 100000 in
set_option maxHeartbeats 2000000 in
theorem RBusy_calls (c : Cfg) (p : Nat) (w : World) (h : CfgAt w.heap.size c w) (hok : c.Ok) (hsm : c.Small) :
    Calls Try.prog 21 #[cfgV c, .int .u16 (p : Int)] w fun e w' => e = .returned (.int .u64 ((usedL 0 c.frame (wo c.wins.l p) : Nat) : Int)) ∧ Below w.heap.size w w' := by
  have hB0 := Boxed1.start w c
  have HU := hide (RUsed_calls c p 0 c.frame _ (hB0.cfg h) hsm hok.frame)
  have HB0 := hide hB0
  unfold cfgC at HU HB0
  unfold cfgV at HU ⊢
  clear h hok hsm hB0
  go_enter Try.func21, Try.ntmps21
  go_wp2_with (go_at_call 19; refine HU.out.mono ?_; rintro e w1 ⟨rfl, hb⟩; have HB1 := hide (HB0.out.1.trans (hb.mono HB0.out.1.size)); clear hb)
  go_ret
  exact ⟨rfl, HB1.out⟩
set_option maxRecDepth 100000 in
set_option maxHeartbeats 2000000 in
theorem Right_calls (c : Cfg) (w : World) (h : CfgAt w.heap.size c w) (hok : c.Ok) (hsm : c.Small) :
    Calls Try.prog 27 #[cfgV c] w fun e w' => e = .returned (.bool (decide ((checkR c).1 = 0))) ∧ Below w.heap.size w w' := by
  have hB0 := Boxed1.start w c
  have HU := hide (RCheck_calls c _ (hB0.cfg h) hok hsm)
  have HB0 := hide hB0
  unfold cfgC at HU HB0
  unfold cfgV code3 at HU
  unfold cfgV
  clear h hok hsm hB0
  generalize checkR c = R at *
  obtain ⟨e, s, i⟩ := R
  simp only at HU ⊢
  go_enter Try.func27, Try.ntmps27
  go_wp2_with (go_at_call 43; refine HU.out.mono ?_; rintro e w1 ⟨rfl, hb⟩; have HB1 := hide (HB0.out.1.trans (hb.mono HB0.out.1.size)); clear hb)
  go_ret
  refine ⟨ret_b ?_, HB1.out⟩
  rw [Bool.eq_iff_iff]
  simp
def rightB (c : Cfg) : Bool := fewB c && decide ((checkR c).1 = 0)
end Go.Proofs.Ytkhcdnehfiopgaa
