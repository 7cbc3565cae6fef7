/- The walks of the reference's Valid. The walk of the reference's Quote. -/
import Derived.Test.YtcnihmlmaigkdaaGreatDoorMNmSpec
import Derived.Test.YtcnihmlmaigkdaaGreatDoorChecked
import Derived.WalkKit
import Derived.BigGuardPart
import Derived.WalkSpells
import Derived.WalkLawsBesides
namespace Go.Proofs.YtcnihmlmaigkdaaGreatDoor
open Go.RowKit Go.Lib

theorem RefValid_calls (s : ByteArray) (w : World) (hs : s.size ≤ 9223372036854775807) :
    Calls Tryz.prog 73 #[.string s] w fun e w' => e = .returned (.bool (validS s)) ∧ w = w' := by
  go_enter Tryz.func73, Tryz.ntmps73
  go_wp2
  go_loop [3] (fun i => ∃ k : Nat, k ≤ s.size ∧ i = .int .i64 k ∧ goodTo s k) (fun i => s.size - (intOf i).toNat)
  case atStart => exact ⟨0, by omega, rfl, goodTo_zero s⟩
  case round =>
    obtain ⟨k, hk, rfl, hg⟩ := hrel
    have Hg := hide hg
    clear hg
    by_cases hlt : k < s.size
    · go_wp2
      · have h1 : ((s[k].toNat : Nat) : Int) < 32 := by assumption
        go_ret
        exact ⟨by rw [valid_bad s k hlt (.inl (by omega))]; rfl, rfl⟩
      · have h1 : (126 : Int) < ((s[k].toNat : Nat) : Int) := by assumption
        go_ret
        exact ⟨by rw [valid_bad s k hlt (.inr (by omega))]; rfl, rfl⟩
      · go_round
        case rel => exact ⟨k + 1, by omega, by go_num, goodTo_succ s k hlt Hg.out (by omega) (by omega)⟩
        case measure => simp [intOf]; omega
    · obtain rfl : k = s.size := by omega
      have hv := hide (valid_all s Hg.out)
      go_wp2
      · go_ret
        refine ⟨?_, rfl⟩
        rw [hv.out]
        have h2 : 1 ≤ s.size := by omega
        simp [h2]; omega
      · go_ret
        refine ⟨?_, rfl⟩
        rw [hv.out]
        have h2 : ¬ 1 ≤ s.size := by omega
        simp [h2]
end Go.Proofs.YtcnihmlmaigkdaaGreatDoor
namespace Go.Proofs.YtcnihmlmaigkdaaGreatDoor
open Go.RowKit Go.Lib


set_option maxRecDepth 100000 in
theorem RefQuote_calls (s : ByteArray) (w : World) (hs : s.size ≤ 1000) :
    Calls Tryz.prog 33 #[.string s] w fun e w' => e = .returned (.string (quoteS s)) ∧ w = w' := by
  cases hv : validS s
  · have Hv := hide hv
    have Hq := hide (quoteS_not s hv)
    clear hv
    go_enter Tryz.func33, Tryz.ntmps33
    go_wp2_with (go_at_call 73; refine (RefValid_calls _ _ (by omega)).mono ?_; rintro e w' ⟨rfl, rfl⟩; rw [Hv.out])
    go_ret
    exact ⟨by rw [Hq.out]; rfl, rfl⟩
  · have Hv := hide hv
    have Hq := hide (quoteS_yes s hv)
    clear hv
    go_enter Tryz.func33, Tryz.ntmps33
    go_wp2_with (go_at_call 73; refine (RefValid_calls _ _ (by omega)).mono ?_; rintro e w' ⟨rfl, rfl⟩; rw [Hv.out])
    go_loop [3, 4] (fun out i => ∃ k : Nat, k ≤ s.size ∧ i = .int .i64 k ∧ out = .string (quoteTo s k)) (fun _ i => s.size - (intOf i).toNat)
    case atStart => exact ⟨0, by omega, rfl, by rw [quoteTo_zero]⟩
    case round =>
      obtain ⟨k, hk, rfl, rfl⟩ := hrel
      by_cases hlt : k < s.size
      · have hn1 := quoteTo_size s k
        have He := hide (fun h => quoteTo_esc s k hlt h)
        have Hp := hide (fun h => quoteTo_plain s k hlt h)
        generalize quoteTo s k = q at *
        go_wp2
        · have h1 : ((s[k].toNat : Nat) : Int) = 34 := by assumption
          go_round
          case rel => exact ⟨k + 1, by omega, by go_num, by rw [He.out (.inl (by omega))]⟩
          case measure => simp [intOf]; omega
        · have h1 : (((s[k].toNat : Nat) : Int) == 92) = true := by assumption
          go_round
          case rel => exact ⟨k + 1, by omega, by go_num, by rw [He.out (.inr (by have := of_beq_t h1; omega))]⟩
          case measure => simp [intOf]; omega
        · have h1 : ¬ ((s[k].toNat : Nat) : Int) = 34 := by assumption
          have h2 : (((s[k].toNat : Nat) : Int) == 92) = false := by assumption
          go_round
          case rel => exact ⟨k + 1, by omega, by go_num, by rw [Hp.out (not_or.2 ⟨by omega, by have := of_beq_f h2; omega⟩)]⟩
          case measure => simp [intOf]; omega
      · obtain rfl : k = s.size := by omega
        have hn1 := quoteTo_size s s.size
        go_wp2
        go_ret
        exact ⟨by rw [Hq.out]; exact congrArg (fun x => Ending.returned (.string x)) (quoteTo_end s), rfl⟩
end Go.Proofs.YtcnihmlmaigkdaaGreatDoor
