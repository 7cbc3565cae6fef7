/- The walks of the reference's Valid. -/
import Derived.Test.YtdpieljopelkhaaGreatDoorMNmSpec
import Derived.Test.YtdpieljopelkhaaGreatDoorChecked
import Derived.WalkKit
import Derived.BigGuardPart
import Derived.WalkSpells
import Derived.WalkLawsBesides
namespace Go.Proofs.YtdpieljopelkhaaGreatDoor
open Go.RowKit Go.Lib

theorem RefValid_calls (s : ByteArray) (w : World) (hs : s.size ≤ 9223372036854775807) :
    Calls Tryz.prog 108 #[.string s] w fun e w' => e = .returned (.bool (validS s)) ∧ w = w' := by
  go_enter Tryz.func108, Tryz.ntmps108
  go_wp2
  go_loop [3] (fun i => ∃ k : Nat, k ≤ s.size ∧ i = .int .i64 k ∧ goodTo s k) (fun i => s.size - (intOf i).toNat)
  case atStart => exact ⟨0, by omega, rfl, goodTo_zero s⟩
  case round =>
    obtain ⟨k, hk, rfl, hg⟩ := hrel
    have Hg := hide hg
    clear hg
    by_cases hlt : k < s.size
    · go_wp2
      · have h1 : ((s[k].toNat : Nat) : Int) < 32 := by assumption
        go_ret
        exact ⟨by rw [valid_bad s k hlt (.inl (by omega))]; rfl, rfl⟩
      · have h1 : (126 : Int) < ((s[k].toNat : Nat) : Int) := by assumption
        go_ret
        exact ⟨by rw [valid_bad s k hlt (.inr (by omega))]; rfl, rfl⟩
      · go_round
        case rel => exact ⟨k + 1, by omega, by go_num, goodTo_succ s k hlt Hg.out (by omega) (by omega)⟩
        case measure => simp [intOf]; omega
    · obtain rfl : k = s.size := by omega
      have hv := hide (valid_all s Hg.out)
      go_wp2
      · go_ret
        refine ⟨?_, rfl⟩
        rw [hv.out]
        have h2 : 1 ≤ s.size := by omega
        simp [h2]; omega
      · go_ret
        refine ⟨?_, rfl⟩
        rw [hv.out]
        have h2 : ¬ 1 ≤ s.size := by omega
        simp [h2]
end Go.Proofs.YtdpieljopelkhaaGreatDoor
