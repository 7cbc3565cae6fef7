/- The walks of the reference lexer's small functions (chapter 06). -/
import Derived.Test.YtjkglbgenbnjoaaGreatDoorLxPlace
namespace Go.Proofs.YtjkglbgenbnjoaaGreatDoor
open Go.RowKit Go.Lib

theorem skip_end (s : ByteArray) (k : Nat) (h : s.size ≤ k) : skipAt s k = k := by
  unfold skipAt
  rw [List.drop_of_length_le (by rw [← Lib.size_eq]; exact h)]; rfl
theorem skip_hash (s : ByteArray) (m : Nat) (hm : m < s.size) (h : s[m] = 35) : skipAt s m = skipAt s (m + runLen notFeed (s.data.toList.drop m)) ∧ 0 < runLen notFeed (s.data.toList.drop m) := by
  have hd := at_data s m hm
  constructor
  · unfold skipAt
    have e1 : spc false (s.data.toList.drop m) = spc true (s.data.toList.drop m) := by rw [hd, h]; rfl
    rw [e1, spc_comment, List.drop_drop]; omega
  · rw [hd, runLen_cons_yes _ _ _ (by rw [h]; rfl)]; omega
theorem skip_space (s : ByteArray) (m : Nat) (hm : m < s.size) (h : s[m] ≠ 35) (hs : isSp s[m] = true) : skipAt s m = skipAt s (m + 1) := by
  unfold skipAt
  rw [at_data s m hm]
  simp only [spc]
  rw [if_neg h, if_pos hs]; omega
theorem skip_stop (s : ByteArray) (m : Nat) (hm : m < s.size) (h : s[m] ≠ 35) (hs : isSp s[m] = false) : skipAt s m = m := by
  unfold skipAt
  rw [at_data s m hm, spc_stop _ _ h hs]; rfl

set_option maxHeartbeats 2000000 in
theorem RefSkip_calls (s : ByteArray) (k : Nat) (hk : k ≤ s.size) (hs : s.size ≤ 100000000000000) (w : World) :
    Calls Tryz.prog 15 #[.string s, .int .i64 (k : Int)] w fun e w' => e = .returned (.int .i64 ((skipAt s k : Nat) : Int)) ∧ w' = w := by
  obtain ⟨J, hJ⟩ : ∃ J, J = skipAt s k := ⟨_, rfl⟩
  rw [← hJ]
  have HJ := hide hJ
  clear hJ
  go_enter Tryz.func15, Tryz.ntmps15
  go_wp2
  go_loop [1] (fun a => ∃ m : Nat, m ≤ s.size ∧ a = .int .i64 (m : Int) ∧ Hid (skipAt s m = J)) (fun a => s.size - (RowKit.intOf a).toNat)
  case atStart => exact ⟨k, hk, rfl, HJ.out.symm⟩
  case round =>
    obtain ⟨m, hm, rfl, hH⟩ := hrel
    by_cases hlt : m < s.size
    · have hdl : decide ((m : Int) < (s.size : Int)) = true := by simpa using hlt
      have hix : (m : Int) < (s.size : Int) := by omega
      by_cases hh : s[m] = 35
      · have hb : ((s[m].toNat : Int) == 35) = true := by rw [hh]; rfl
        have hsk := hide (skip_hash s m hlt hh)
        obtain ⟨M, hM⟩ : ∃ M, M = m + runLen notFeed (s.data.toList.drop m) := ⟨_, rfl⟩
        have hMs : M ≤ s.size := by rw [hM]; exact run_le notFeed s m hm
        have hmM : m < M := by have := hsk.out.2; omega
        have hfin := hide (show skipAt s M = J by rw [hM, ← hsk.out.1]; exact hH.out)
        have HM := hide hM
        clear hM hsk hh
        go_wp2
        go_loop [1] (fun a => ∃ q : Nat, m ≤ q ∧ q ≤ s.size ∧ a = .int .i64 (q : Int) ∧ Hid (q + runLen notFeed (s.data.toList.drop q) = M)) (fun a => s.size - (RowKit.intOf a).toNat)
        case atStart => exact ⟨m, Nat.le_refl _, hm, rfl, HM.out.symm⟩
        case round =>
          obtain ⟨q, hmq, hq, rfl, hQ⟩ := hrel
          by_cases hql : q < s.size
          · have hdq : decide ((q : Int) < (s.size : Int)) = true := by simpa using hql
            have hiq : (q : Int) < (s.size : Int) := by omega
            have hdd := at_data s q hql
            by_cases hc : s[q] = 10
            · have hcb : ((s[q].toNat : Int) == 10) = true := by rw [hc]; rfl
              have hcn : ((s[q].toNat : Int) != 10) = false := by rw [bne, hcb]; rfl
              have e1 : q = M := by
                have h2 := hQ.out
                rw [hdd, runLen_cons_no _ _ _ (by rw [hc]; rfl)] at h2
                omega
              subst e1
              clear hdd hc
              go_wp2
              go_round
              case rel => first | exact ⟨q, by omega, rfl, hfin.out⟩ | ((repeat apply Exists.intro); exact ⟨⟨q, by omega, rfl, hfin.out⟩, rfl⟩)
              case measure => simp [RowKit.intOf]; omega
            · have hcb : ((s[q].toNat : Int) == 10) = false := by
                have : s[q].toNat ≠ 10 := fun e => hc (UInt8.toNat_inj.1 (by rw [e]; rfl))
                simp; omega
              have hcn : ((s[q].toNat : Int) != 10) = true := by rw [bne, hcb]; rfl
              have hQ2 := hide (show (q + 1) + runLen notFeed (s.data.toList.drop (q + 1)) = M by
                have h2 := hQ.out
                rw [hdd, runLen_cons_yes _ _ _ (by unfold notFeed; simpa using hc)] at h2
                omega)
              clear hdd hc
              go_wp2
              go_round
              case rel => first | exact ⟨q + 1, by omega, by omega, by go_num, hQ2.out⟩ | ((repeat apply Exists.intro); exact ⟨⟨q + 1, by omega, by omega, by go_num, hQ2.out⟩, rfl⟩)
              case measure => simp [RowKit.intOf]; omega
          · have hdq : decide ((q : Int) < (s.size : Int)) = false := by simp; omega
            have e1 : q = M := by
              have h2 := hQ.out
              rw [List.drop_of_length_le (by rw [← Lib.size_eq]; omega)] at h2
              exact h2
            subst e1
            go_wp2
            go_round
            case rel => first | exact ⟨q, by omega, rfl, hfin.out⟩ | ((repeat apply Exists.intro); exact ⟨⟨q, by omega, rfl, hfin.out⟩, rfl⟩)
            case measure => simp [RowKit.intOf]; omega
      · have hb : ((s[m].toNat : Int) == 35) = false := by
          have : s[m].toNat ≠ 35 := fun e => hh (UInt8.toNat_inj.1 (by rw [e]; rfl))
          simp; omega
        cases hsp : isSp s[m]
        · have e1 : m = J := by rw [← hH.out]; exact (skip_stop s m hlt hh hsp).symm
          subst e1
          have h32 : ((s[m].toNat : Int) != 32) = true := by
            have : s[m] ≠ 32 := by intro e; rw [e] at hsp; revert hsp; decide
            have : s[m].toNat ≠ 32 := fun e => this (UInt8.toNat_inj.1 (by rw [e]; rfl))
            simp; omega
          have h9 : ((s[m].toNat : Int) != 9) = true := by
            have : s[m] ≠ 9 := by intro e; rw [e] at hsp; revert hsp; decide
            have : s[m].toNat ≠ 9 := fun e => this (UInt8.toNat_inj.1 (by rw [e]; rfl))
            simp; omega
          have h10 : ((s[m].toNat : Int) != 10) = true := by
            have : s[m] ≠ 10 := by intro e; rw [e] at hsp; revert hsp; decide
            have : s[m].toNat ≠ 10 := fun e => this (UInt8.toNat_inj.1 (by rw [e]; rfl))
            simp; omega
          have h13 : ((s[m].toNat : Int) != 13) = true := by
            have : s[m] ≠ 13 := by intro e; rw [e] at hsp; revert hsp; decide
            have : s[m].toNat ≠ 13 := fun e => this (UInt8.toNat_inj.1 (by rw [e]; rfl))
            simp; omega
          clear hsp hh
          go_wp2
          go_ret
          exact ⟨rfl, rfl⟩
        · have hnx := hide (show skipAt s (m + 1) = J by rw [← skip_space s m hlt hh hsp]; exact hH.out)
          have hd4 : s[m] = 32 ∨ s[m] = 9 ∨ s[m] = 10 ∨ s[m] = 13 := by
            unfold isSp at hsp
            simp only [Bool.or_eq_true, beq_iff_eq] at hsp
            rcases hsp with ((h | h) | h) | h
            · exact .inl h
            · exact .inr (.inl h)
            · exact .inr (.inr (.inl h))
            · exact .inr (.inr (.inr h))
          clear hsp hh
          rcases hd4 with hc | hc | hc | hc
          all_goals
            have hv : (s[m].toNat : Int) = _ := congrArg (fun c : UInt8 => (c.toNat : Int)) hc
            go_wp2
            go_round
            case rel => first | exact ⟨m + 1, by omega, by go_num, hnx.out⟩ | ((repeat apply Exists.intro); exact ⟨⟨m + 1, by omega, by go_num, hnx.out⟩, rfl⟩)
            case measure => simp [RowKit.intOf]; omega
    · have hdl : decide ((m : Int) < (s.size : Int)) = false := by simp; omega
      have e1 : m = J := by rw [← hH.out]; exact (skip_end s m (by omega)).symm
      subst e1
      go_wp2
      go_ret
      exact ⟨rfl, rfl⟩
end Go.Proofs.YtjkglbgenbnjoaaGreatDoor
