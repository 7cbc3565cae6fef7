/- The walks of the reference lexer's letter, digit, run (chapter 06). -/
import Derived.Test.YtjkglbgenbnjoaaGreatDoorLxRefSkip
namespace Go.Proofs.YtjkglbgenbnjoaaGreatDoor
open Go.RowKit Go.Lib

theorem letter_calls (c : UInt8) (w : World) : Calls Tryz.prog 17 #[.int .u8 (c.toNat : Int)] w fun e w' => e = .returned (.bool (isLet c)) ∧ w' = w := by
  have h256 := UInt8.toNat_lt c
  by_cases h1 : 97 ≤ c.toNat <;> by_cases h2 : c.toNat ≤ 122
  all_goals
    have hv : Hid (isLet c = (decide (97 ≤ c.toNat) && decide (c.toNat ≤ 122))) := rfl
    go_enter Tryz.func17, Tryz.ntmps17
    go_wp2
    all_goals first | (exfalso; omega) | (go_ret; exact ⟨by rw [hv.out]; simp [h1, h2]; try omega, rfl⟩)
theorem digit06_calls (c : UInt8) (w : World) : Calls Tryz.prog 19 #[.int .u8 (c.toNat : Int)] w fun e w' => e = .returned (.bool (isDig c)) ∧ w' = w := by
  have h256 := UInt8.toNat_lt c
  by_cases h1 : 48 ≤ c.toNat <;> by_cases h2 : c.toNat ≤ 57
  all_goals
    have hv : Hid (isDig c = (decide (48 ≤ c.toNat) && decide (c.toNat ≤ 57))) := rfl
    go_enter Tryz.func19, Tryz.ntmps19
    go_wp2
    all_goals first | (exfalso; omega) | (go_ret; exact ⟨by rw [hv.out]; simp [h1, h2]; try omega, rfl⟩)

set_option maxHeartbeats 2000000 in
theorem run_let (s : ByteArray) (k : Nat) (hk : k ≤ s.size) (hs : s.size ≤ 100000000000000) (w : World) :
    Calls Tryz.prog 18 #[.string s, .int .i64 (k : Int), .bool false] w fun e w' => e = .returned (.int .i64 ((k + runLen isLet (s.data.toList.drop k) : Nat) : Int)) ∧ w' = w := by
  obtain ⟨J, hJ⟩ : ∃ J, J = k + runLen isLet (s.data.toList.drop k) := ⟨_, rfl⟩
  rw [← hJ]
  have HJ := hide hJ
  clear hJ
  go_enter Tryz.func18, Tryz.ntmps18
  go_wp2
  go_loop [1] (fun a => ∃ m : Nat, m ≤ s.size ∧ a = .int .i64 (m : Int) ∧ Hid (m + runLen isLet (s.data.toList.drop m) = J)) (fun a => s.size - (RowKit.intOf a).toNat)
  case atStart => exact ⟨k, hk, rfl, HJ.out.symm⟩
  case round =>
    obtain ⟨m, hm, rfl, hH⟩ := hrel
    by_cases hlt : m < s.size
    · have hdl : decide ((m : Int) < (s.size : Int)) = true := by simpa using hlt
      have hix : (m : Int) < (s.size : Int) := by omega
      have hdd := at_data s m hlt
      have hL := fun W => letter_calls s[m] W
      have hD := fun W => digit06_calls s[m] W
      cases h1 : isLet s[m]
      · have e1 : m = J := by
          have hq := hH.out
          rw [hdd, runLen_cons_no _ _ _ (h1)] at hq
          omega
        subst e1
        rw [h1] at hL
        have HL := hide hL
        have HD := hide hD
        clear hL hD hdd h1
        go_wp2_with (first | (go_at_call 17; refine (HL.out _).mono ?_; rintro e w' ⟨rfl, rfl⟩) | (go_at_call 19; refine (HD.out _).mono ?_; rintro e w' ⟨rfl, rfl⟩))
        go_ret
        exact ⟨rfl, rfl⟩
      · have hnx := hide (show (m + 1) + runLen isLet (s.data.toList.drop (m + 1)) = J by
          have hq := hH.out
          rw [hdd, runLen_cons_yes _ _ _ (h1)] at hq
          omega)
        rw [h1] at hL
        have HL := hide hL
        have HD := hide hD
        clear hL hD hdd h1
        go_wp2_with (first | (go_at_call 17; refine (HL.out _).mono ?_; rintro e w' ⟨rfl, rfl⟩) | (go_at_call 19; refine (HD.out _).mono ?_; rintro e w' ⟨rfl, rfl⟩))
        go_round
        case rel => first | exact ⟨m + 1, by omega, by go_num, hnx.out⟩ | ((repeat apply Exists.intro); exact ⟨⟨m + 1, by omega, by go_num, hnx.out⟩, rfl⟩)
        case measure => simp [RowKit.intOf]; omega
    · have hdl : decide ((m : Int) < (s.size : Int)) = false := by simp; omega
      have e1 : m = J := by
        have hq := hH.out
        rw [List.drop_of_length_le (by rw [← Lib.size_eq]; omega)] at hq
        exact hq
      subst e1
      go_wp2
      go_ret
      exact ⟨rfl, rfl⟩

set_option maxHeartbeats 2000000 in
theorem run_al (s : ByteArray) (k : Nat) (hk : k ≤ s.size) (hs : s.size ≤ 100000000000000) (w : World) :
    Calls Tryz.prog 18 #[.string s, .int .i64 (k : Int), .bool true] w fun e w' => e = .returned (.int .i64 ((k + runLen isAl (s.data.toList.drop k) : Nat) : Int)) ∧ w' = w := by
  obtain ⟨J, hJ⟩ : ∃ J, J = k + runLen isAl (s.data.toList.drop k) := ⟨_, rfl⟩
  rw [← hJ]
  have HJ := hide hJ
  clear hJ
  go_enter Tryz.func18, Tryz.ntmps18
  go_wp2
  go_loop [1] (fun a => ∃ m : Nat, m ≤ s.size ∧ a = .int .i64 (m : Int) ∧ Hid (m + runLen isAl (s.data.toList.drop m) = J)) (fun a => s.size - (RowKit.intOf a).toNat)
  case atStart => exact ⟨k, hk, rfl, HJ.out.symm⟩
  case round =>
    obtain ⟨m, hm, rfl, hH⟩ := hrel
    by_cases hlt : m < s.size
    · have hdl : decide ((m : Int) < (s.size : Int)) = true := by simpa using hlt
      have hix : (m : Int) < (s.size : Int) := by omega
      have hdd := at_data s m hlt
      have hL := fun W => letter_calls s[m] W
      have hD := fun W => digit06_calls s[m] W
      cases h1 : isLet s[m]
      · cases h2 : isDig s[m]
        · have e1 : m = J := by
            have hq := hH.out
            rw [hdd, runLen_cons_no _ _ _ (by unfold isAl; rw [h1, h2]; rfl)] at hq
            omega
          subst e1
          rw [h1] at hL
          rw [h2] at hD
          have HL := hide hL
          have HD := hide hD
          clear hL hD hdd h1 h2
          go_wp2_with (first | (go_at_call 17; refine (HL.out _).mono ?_; rintro e w' ⟨rfl, rfl⟩) | (go_at_call 19; refine (HD.out _).mono ?_; rintro e w' ⟨rfl, rfl⟩))
          go_ret
          exact ⟨rfl, rfl⟩
        · have hnx := hide (show (m + 1) + runLen isAl (s.data.toList.drop (m + 1)) = J by
            have hq := hH.out
            rw [hdd, runLen_cons_yes _ _ _ (by unfold isAl; rw [h1, h2]; rfl)] at hq
            omega)
          rw [h1] at hL
          rw [h2] at hD
          have HL := hide hL
          have HD := hide hD
          clear hL hD hdd h1 h2
          go_wp2_with (first | (go_at_call 17; refine (HL.out _).mono ?_; rintro e w' ⟨rfl, rfl⟩) | (go_at_call 19; refine (HD.out _).mono ?_; rintro e w' ⟨rfl, rfl⟩))
          go_round
          case rel => first | exact ⟨m + 1, by omega, by go_num, hnx.out⟩ | ((repeat apply Exists.intro); exact ⟨⟨m + 1, by omega, by go_num, hnx.out⟩, rfl⟩)
          case measure => simp [RowKit.intOf]; omega
      · have hnx := hide (show (m + 1) + runLen isAl (s.data.toList.drop (m + 1)) = J by
          have hq := hH.out
          rw [hdd, runLen_cons_yes _ _ _ (by unfold isAl; rw [h1]; rfl)] at hq
          omega)
        rw [h1] at hL
        have HL := hide hL
        have HD := hide hD
        clear hL hD hdd h1
        go_wp2_with (first | (go_at_call 17; refine (HL.out _).mono ?_; rintro e w' ⟨rfl, rfl⟩) | (go_at_call 19; refine (HD.out _).mono ?_; rintro e w' ⟨rfl, rfl⟩))
        go_round
        case rel => first | exact ⟨m + 1, by omega, by go_num, hnx.out⟩ | ((repeat apply Exists.intro); exact ⟨⟨m + 1, by omega, by go_num, hnx.out⟩, rfl⟩)
        case measure => simp [RowKit.intOf]; omega
    · have hdl : decide ((m : Int) < (s.size : Int)) = false := by simp; omega
      have e1 : m = J := by
        have hq := hH.out
        rw [List.drop_of_length_le (by rw [← Lib.size_eq]; omega)] at hq
        exact hq
      subst e1
      go_wp2
      go_ret
      exact ⟨rfl, rfl⟩
end Go.Proofs.YtjkglbgenbnjoaaGreatDoor
