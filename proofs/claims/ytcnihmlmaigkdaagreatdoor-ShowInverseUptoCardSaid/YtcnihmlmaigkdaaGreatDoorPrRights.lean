/- parse.Rights (chapter 07). -/
import Derived.Test.YtcnihmlmaigkdaaGreatDoorMShWr
import Derived.Test.YtcnihmlmaigkdaaGreatDoorMPaSpec
import Derived.WalkLawsBesides
import Derived.WalkSpells
namespace Go.Proofs.YtcnihmlmaigkdaaGreatDoor
open Go.RowKit Go.Lib
set_option linter.unusedVariables false

theorem rights_of (x : ByteArray) (k : Nat) (hk : k < 8) : ((ofL (rightsW k)).toList == x.toList) = decide (rightsN x.data.toList = some k) := by
  have e1 : (ofL (rightsW k)).toList = rightsW k := by rw [ByteArray.toList_eq]; rfl
  rw [e1, ByteArray.toList_eq]
  generalize x.data.toList = l
  by_cases h : rightsN l = some k
  · rw [decide_eq_true h, (word_rights h).2]
    simp
  · rw [decide_eq_false h, beq_eq_false_iff_ne]
    intro h2
    rw [← h2, rights_word (by omega)] at h
    exact h rfl
set_option maxRecDepth 100000 in
set_option maxHeartbeats 2000000 in
theorem Rights_calls (x : ByteArray) (w : World) :
    Calls Tryz.prog 136 #[.string x] w fun e w' => e = .returned (.tuple #[.int .u8 (((rightsN x.data.toList).getD 0 : Nat) : Int), .bool (rightsN x.data.toList).isSome]) ∧ Below w.heap.size w w' := by
  have hmax : ∀ r, rightsN x.data.toList = some r → r < 8 := fun r h => by have := (word_rights h).1; omega
  have HRO := hide (fun k hk => rights_of x k hk)
  obtain ⟨o, ho⟩ : ∃ o, o = rightsN x.data.toList := ⟨_, rfl⟩
  rw [← ho] at hmax HRO ⊢
  have HM := hide hmax
  clear ho hmax
  go_enter Tryz.func136, Tryz.ntmps136
  go_wp2
  go_loopw [5] (fun i wr => ∃ k : Nat, k ≤ 8 ∧ i = .int .u8 (k : Int) ∧ Hid ((∀ j, j < k → o ≠ some j) ∧ Below w.heap.size w wr)) (fun i _ => 8 - (intOf i).toNat)
  case atStart => exact ⟨0, by omega, rfl, hide ⟨fun j hj => by omega, by repeat (first | exact Below.refl _ _ | apply Below.drew | refine Below.alloc ?_ (by omega) _)⟩⟩
  case round =>
    obtain ⟨k, hk, rfl, hrel⟩ := hrel
    by_cases hlt : k < 8
    · have hltI : (k : Int) < 8 := by omega
      have hw : IntKind.u8.wrap ((k : Int) + 1) = ((k + 1 : Nat) : Int) := by rw [IntKind.wrap_u8]; omega
      have HW := hide (Word_calls k (by omega) wr)
      have hro := HRO.out k hlt
      generalize ofL (rightsW k) = s at *
      by_cases hq : o = some k
      · rw [decide_eq_true hq] at hro
        have HQ := hide hq
        clear hq
        go_wp2_with (go_at_call 122; refine HW.out.mono ?_; rintro e w2 ⟨rfl, hb2⟩; have HB2 := hide (hrel.out.2.trans (hb2.mono hrel.out.2.size)); clear hb2)
        go_ret2
        exact ⟨by rw [HQ.out]; rfl, HB2.out⟩
      · rw [decide_eq_false hq] at hro
        have HQ := hide hq
        clear hq
        go_wp2_with (go_at_call 122; refine HW.out.mono ?_; rintro e w2 ⟨rfl, hb2⟩; have HB2 := hide (hrel.out.2.trans (hb2.mono hrel.out.2.size)); clear hb2)
        go_roundw
        case rel =>
          refine ⟨k + 1, by omega, by first | rfl | go_num, hide ⟨fun j hj => ?_, HB2.out⟩⟩
          by_cases hjk : j < k
          · exact hrel.out.1 j hjk
          · rw [show j = k by omega]; exact HQ.out
        case measure => simp [intOf]; omega
    · have hltI : ¬ (k : Int) < 8 := by omega
      have HN : Hid (o = none) := hide (by
        cases ho : o with
        | none => rfl
        | some r => exact absurd ho (hrel.out.1 r (by have := HM.out r ho; omega)))
      go_wp2
      go_ret2
      exact ⟨by rw [HN.out]; rfl, hrel.out.2⟩
end Go.Proofs.YtcnihmlmaigkdaaGreatDoor
