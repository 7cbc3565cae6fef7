/- The walks of Place and of the reference's Place (chapter 06). -/
import Derived.Test.YtjkglbgenbnjoaaGreatDoorLxSpacing
import Derived.BigGuardPart
namespace Go.Proofs.YtjkglbgenbnjoaaGreatDoor
open Go.RowKit Go.Lib

/-- What Place answers. -/
def placeV (s : ByteArray) (a : Int) : Nat × Nat := if 0 ≤ a ∧ a ≤ s.size then placeAt s a.toNat else (0, 0)
def PlaceV (s : ByteArray) (a : Int) (w : World) (e : Ending) (w' : World) : Prop := e = .returned (.tuple #[.int .i64 ((placeV s a).1 : Int), .int .i64 ((placeV s a).2 : Int)]) ∧ w' = w

set_option maxHeartbeats 1000000 in
theorem RefPlace_calls (s : ByteArray) (a : Int) (ha : (Lit.int .i64 a).wf = true) (hs : s.size ≤ 100000000000000) (w : World) :
    Calls Tryz.prog 16 #[.string s, .int .i64 a] w (PlaceV s a w) := by
  unfold PlaceV
  by_cases h0 : a < 0
  · have e1 : placeV s a = (0, 0) := by unfold placeV; rw [if_neg (by omega)]
    rw [e1]
    have hd : decide (a < 0) = true := by simpa using h0
    go_enter Tryz.func16, Tryz.ntmps16
    go_wp2
    go_ret2
    exact ⟨rfl, rfl⟩
  · have hd : decide (a < 0) = false := by simpa using h0
    by_cases h1 : (s.size : Int) < a
    · have e1 : placeV s a = (0, 0) := by unfold placeV; rw [if_neg (by omega)]
      rw [e1]
      have hd1 : decide ((s.size : Int) < a) = true := by simpa using h1
      go_enter Tryz.func16, Tryz.ntmps16
      go_wp2
      go_ret2
      exact ⟨rfl, rfl⟩
    · have hd1 : decide ((s.size : Int) < a) = false := by simpa using h1
      obtain ⟨k, rfl⟩ : ∃ k : Nat, a = (k : Int) := ⟨a.toNat, by omega⟩
      have hk : k ≤ s.size := by omega
      have e1 : placeV s (k : Int) = placeFrom (1, 1) (piece s 0 k) := by unfold placeV placeAt piece; rw [if_pos (by omega)]; simp
      rw [e1]
      have hpn := fun j (hj : j < s.size) => place_next s (1, 1) 0 j (Nat.zero_le _) hj
      have hle := fun j (hj : j ≤ s.size) => placeFrom_le (piece s 0 j) (1, 1)
      have hpl := fun j (hj : j ≤ s.size) => (show (piece s 0 j).length ≤ j from by unfold piece; simp; omega)
      have HPN := hide hpn
      have HLE := hide hle
      have HPL := hide hpl
      clear e1 hpn hle hpl
      go_enter Tryz.func16, Tryz.ntmps16
      go_wp2
      go_loop [6, 7, 8] (fun a b i => ∃ j : Nat, j ≤ k ∧ i = .int .i64 (j : Int) ∧ Hid (a = .int .i64 ((placeFrom (1, 1) (piece s 0 j)).1 : Int) ∧ b = .int .i64 ((placeFrom (1, 1) (piece s 0 j)).2 : Int))) (fun _ _ i => k - (RowKit.intOf i).toNat)
      case atStart => exact ⟨0, Nat.zero_le _, rfl, by rw [piece_self]; exact ⟨rfl, rfl⟩⟩
      case round =>
        obtain ⟨j, hj, rfl, hab⟩ := hrel
        obtain ⟨rfl, rfl⟩ := hab.out
        have hl1 := HLE.out j (by omega)
        have hl2 := HPL.out j (by omega)
        obtain ⟨hl3, hl4⟩ := hl1
        obtain ⟨q1, hq1⟩ : ∃ q, q = (placeFrom (1, 1) (piece s 0 j)).1 := ⟨_, rfl⟩
        obtain ⟨q2, hq2⟩ : ∃ q, q = (placeFrom (1, 1) (piece s 0 j)).2 := ⟨_, rfl⟩
        rw [← hq1] at hl3
        rw [← hq2] at hl4
        rw [← hq1, ← hq2]
        by_cases hlt : j < k
        · have hdl : decide ((j : Int) < (k : Int)) = true := by simpa using hlt
          have hix : (j : Int) < (s.size : Int) := by omega
          have hnx := hide (HPN.out j (by omega))
          by_cases hc : s[j] = 10
          · have hb : ((s[j].toNat : Int) == 10) = true := by rw [hc]; rfl
            have hp := hide (show placeFrom (1, 1) (piece s 0 (j + 1)) = (q1 + 1, 1) by rw [← hnx.out, hq1]; unfold pass; rw [if_pos hc])
            clear hq1 hq2 hab hc hnx
            go_wp2
            go_round
            case rel => first | exact ⟨j + 1, by omega, by go_num, by rw [hp.out]; exact ⟨rfl, rfl⟩⟩ | ((repeat apply Exists.intro); exact ⟨⟨j + 1, by omega, by go_num, by rw [hp.out]; exact ⟨rfl, rfl⟩⟩, rfl⟩)
            case measure => simp [RowKit.intOf]; omega
          · have hb : ((s[j].toNat : Int) == 10) = false := by
              have : s[j].toNat ≠ 10 := fun e => hc (UInt8.toNat_inj.1 (by rw [e]; rfl))
              simp; omega
            have hp := hide (show placeFrom (1, 1) (piece s 0 (j + 1)) = (q1, q2 + 1) by rw [← hnx.out, hq1, hq2]; unfold pass; rw [if_neg hc])
            clear hq1 hq2 hab hc hnx
            go_wp2
            go_round
            case rel => first | exact ⟨j + 1, by omega, by go_num, by rw [hp.out]; exact ⟨rfl, rfl⟩⟩ | ((repeat apply Exists.intro); exact ⟨⟨j + 1, by omega, by go_num, by rw [hp.out]; exact ⟨rfl, rfl⟩⟩, rfl⟩)
            case measure => simp [RowKit.intOf]; omega
        · obtain rfl : j = k := by omega
          have HQ1 := hide hq1
          have HQ2 := hide hq2
          clear hq1 hq2 hab
          go_wp2
          go_ret2
          exact ⟨by rw [← HQ1.out, ← HQ2.out]; rfl, rfl⟩
end Go.Proofs.YtjkglbgenbnjoaaGreatDoor
