/- The walks of name.Valid and of the reference's Valid: both return whether a string has 1 to 30 printable bytes. -/
import Derived.Test.YtcnihmlmaigkdaaGreatDoorMNmSpec
import Derived.Test.YtcnihmlmaigkdaaGreatDoorChecked
import Derived.Test.YtcnihmlmaigkdaaGreatDoorShelf
import Derived.WalkKit
namespace Go.Proofs.YtcnihmlmaigkdaaGreatDoor
open Go.RowKit Go.Lib Go.Shelf

theorem badRune_pays (w : World) : PredAt Tryz.prog 234 #[] encR badRune w := fun W r _ => by
  unfold FnGives
  by_cases h1 : r < 32 <;> by_cases h2 : 126 < r
  all_goals
    have z1 : (r : Int) < 32 ↔ r < 32 := by omega
    have z2 : (126 : Int) < (r : Int) ↔ 126 < r := by omega
    go_enter Tryz.func234, Tryz.ntmps234
    go_wp2
    all_goals first | (exfalso; omega) | (go_ret; exact ⟨by simp [badRune, h1, h2], 0, rfl⟩)

theorem containsBad (s : ByteArray) (w : World) :
    Calls Tryz.prog 233 #[.string s, .func (.func 234) #[] #[]] w fun e w' => e = .returned (.bool (!okAll s)) ∧ Below w.heap.size w w' := by
  have h := Tryz.strings_ContainsFunc 234 #[] (enters_of Tryz.func234 (by kernel_rfl) rfl) badRune s w (badRune_pays w)
  rw [idx_bad] at h
  exact h

theorem Valid_calls (s : ByteArray) (w : World) :
    Calls Tryz.prog 181 #[.string s] w fun e w' => e = .returned (.bool (validS s)) ∧ Below w.heap.size w w' := by
  by_cases h0 : s.toList = []
  · have hv := hide (validS_empty s h0)
    go_enter Tryz.func181, Tryz.ntmps181
    go_wp2_with fail
    go_ret
    exact ⟨by rw [hv.out]; simp, Below.refl _ _⟩
  · by_cases h1 : (s.size : Int) ≤ 30
    · have hv := hide (validS_mid s h0 h1)
      go_enter Tryz.func181, Tryz.ntmps181
      go_wp2_with (go_at_call 233; refine (containsBad _ _).mono ?_; rintro e w' ⟨rfl, hb⟩)
      go_ret
      exact ⟨by rw [hv.out]; simp [h0], hb⟩
    · have hv := hide (validS_long s (by omega))
      go_enter Tryz.func181, Tryz.ntmps181
      go_wp2_with fail
      go_ret
      exact ⟨by rw [hv.out]; simp, Below.refl _ _⟩
end Go.Proofs.YtcnihmlmaigkdaaGreatDoor
