/- The walk of the reference's Scan. -/
import Derived.Test.YtdpieljopelkhaaGreatDoorMNmSpec
import Derived.WalkKit
import Derived.BigGuardPart
import Derived.WalkSpells
import Derived.WalkLawsBesides
import Derived.Test.YtdpieljopelkhaaGreatDoorNmRefs
namespace Go.Proofs.YtdpieljopelkhaaGreatDoor
open Go.RowKit Go.Lib

def scanV (r : List UInt8 × Nat × Nat) : Value := .tuple #[.string ⟨r.1.toArray⟩, .int .i64 (r.2.1 : Int), .int .i64 (r.2.2 : Int)]

theorem str_append (a : List UInt8) (b : ByteArray) : (⟨a.toArray⟩ : ByteArray) ++ b = ⟨(a ++ b.data.toList).toArray⟩ := by
  apply ByteArray.ext
  apply Array.ext'
  simp
theorem str_one (s : ByteArray) (k : Nat) (hk : k < s.size) (a : List UInt8) : (⟨a.toArray⟩ : ByteArray) ++ s.extract k (k + 1) = ⟨(a ++ [s[k]]).toArray⟩ := by
  rw [extract_one s k hk, str_append]

theorem str_size (a : List UInt8) (h : a.length ≤ 100000000000000) : (⟨a.toArray⟩ : ByteArray).size ≤ 9223372036854775807 := by
  show a.toArray.size ≤ _
  simp
  omega

set_option maxRecDepth 100000 in
set_option maxHeartbeats 1000000 in
theorem RefScan_calls (s : ByteArray) (i : Int) (w : World) (hs : s.size ≤ 100000000000000) :
    Calls Tryz.prog 75 #[.string s, .int .i64 i] w fun e w' => e = .returned (scanV (scanR s i)) ∧ w = w' := by
  by_cases h0 : i < 0
  · have hr := hide (scanR_neg s i h0)
    go_enter Tryz.func75, Tryz.ntmps75
    go_wp2
    go_ret3
    exact ⟨by rw [hr.out]; rfl, rfl⟩
  by_cases h1 : (s.size : Int) ≤ i
  · have hr := hide (scanR_far s i h1)
    go_enter Tryz.func75, Tryz.ntmps75
    go_wp2
    go_ret3
    exact ⟨by rw [hr.out]; rfl, rfl⟩
  obtain ⟨p, rfl⟩ := Int.eq_ofNat_of_zero_le (by omega : 0 ≤ i)
  have hp : p < s.size := by omega
  have h256 := UInt8.toNat_lt s[p]
  by_cases h2 : s[p] = 34
  · have hr := hide (scanR_in s p hp h2)
    have hc : ((((s[p].toNat : Nat) : Int)) != 34) = false := by rw [h2]; rfl
    clear h2 h0 h1
    generalize hR : scanR s (p : Int) = R at hr
    have HR := hide hR
    clear hR
    go_enter Tryz.func75, Tryz.ntmps75
    go_wp2
    go_loop [7, 8] (fun out i => ∃ (k : Nat) (acc : List UInt8), p + 1 ≤ k ∧ k ≤ s.size ∧ acc.length ≤ k ∧ i = .int .i64 k ∧ out = .string ⟨acc.toArray⟩ ∧ Hid (final (goL false true acc (s.data.toList.drop k)) k = R)) (fun _ i => s.size - (intOf i).toNat)
    case atStart => exact ⟨p + 1, [], by omega, by omega, by simp, by go_num, rfl, hide hr.out.symm⟩
    case round =>
      obtain ⟨k, acc, hk1, hk2, hal, rfl, rfl, hF⟩ := hrel
      clear hr
      by_cases hlt : k < s.size
      · have h256k := UInt8.toNat_lt s[k]
        by_cases hq : s[k] = 34
        · have hcq : ((((s[k].toNat : Nat) : Int)) != 34) = false := by rw [hq]; rfl
          have hszA := hide (str_size acc (by omega))
          have hge : decide (s.size ≤ k) = false := by simp; omega
          have hE := hide ((goL_quote s k hlt hq true acc).symm.trans hF.out)
          clear hq hF
          cases hv : validL acc
          · have hVr : Hid (validS ⟨acc.toArray⟩ = false) := hv
            have hV2 := hide hv
            clear hv
            go_wp2_with (go_at_call 108; refine (RefValid_calls _ _ hszA.out).mono ?_; rintro e w' ⟨rfl, rfl⟩; rw [hVr.out])
            go_ret3
            have h3 := hE.out
            rw [okR, hV2.out] at h3
            exact ⟨by rw [← h3]; rfl, rfl⟩
          · have hVr : Hid (validS ⟨acc.toArray⟩ = true) := hv
            have hV2 := hide hv
            clear hv
            go_wp2_with (go_at_call 108; refine (RefValid_calls _ _ hszA.out).mono ?_; rintro e w' ⟨rfl, rfl⟩; rw [hVr.out])
            go_ret3
            have h3 := hE.out
            rw [okR, hV2.out] at h3
            exact ⟨by rw [← h3]; rfl, rfl⟩
        · have hcq : ((((s[k].toNat : Nat) : Int)) != 34) = true := by
            have := mt (byte_of s[k] 34 (by omega)).1 hq
            simp; omega
          by_cases hb : s[k] = 92
          · have hE1 := (goL_back s k hlt hb true acc).symm.trans hF.out
            have hcb : ((((s[k].toNat : Nat) : Int)) == 92) = true := by rw [hb]; rfl
            clear hq hb hF
            by_cases hl2 : k + 1 < s.size
            · have hge2 : decide ((s.size : Int) ≤ (k : Int) + 1) = false := by simp; omega
              have hE2 := (goL_esc s (k + 1) hl2 true acc).symm.trans hE1
              have h256l := UInt8.toNat_lt s[k + 1]
              clear hE1
              cases hx : isEsc s[k + 1]
              · rw [hx] at hE2
                have hE3 := hide ((goL_false _ _ _ _).symm.trans hE2)
                have hx34 : ((((s[k + 1].toNat : Nat) : Int)) != 34) = true := by
                  have := mt (byte_of s[k + 1] 34 (by omega)).1 (fun h => by rw [h] at hx; exact absurd hx (by decide))
                  simp; omega
                have hx92 : ((((s[k + 1].toNat : Nat) : Int)) != 92) = true := by
                  have := mt (byte_of s[k + 1] 92 (by omega)).1 (fun h => by rw [h] at hx; exact absurd hx (by decide))
                  simp; omega
                clear hE2 hx
                go_wp2
                go_ret3
                exact ⟨by rw [← hE3.out]; rfl, rfl⟩
              · rw [hx] at hE2
                have hE3 := hide hE2
                have hst := hide (str_one s (k + 1) hl2 acc)
                simp only [isEsc, Bool.or_eq_true, beq_iff_eq] at hx
                clear hE2
                rcases hx with hx | hx
                · have hx34 : ((((s[k + 1].toNat : Nat) : Int)) != 34) = false := by rw [hx]; rfl
                  clear hx
                  go_wp2
                  go_round
                  case rel => exact ⟨k + 2, acc ++ [s[k + 1]], by omega, by omega, by simp; omega, by go_num, by rw [hst.out], hE3⟩
                  case measure => simp [intOf]; omega
                · have hx34 : ((((s[k + 1].toNat : Nat) : Int)) != 34) = true := by rw [hx]; rfl
                  have hx92 : ((((s[k + 1].toNat : Nat) : Int)) != 92) = false := by rw [hx]; rfl
                  clear hx
                  go_wp2
                  go_round
                  case rel => exact ⟨k + 2, acc ++ [s[k + 1]], by omega, by omega, by simp; omega, by go_num, by rw [hst.out], hE3⟩
                  case measure => simp [intOf]; omega
            · have hE2 := hide ((goL_end s (k + 1) (by omega) true true acc).symm.trans hE1)
              clear hE1
              go_wp2
              go_ret3
              exact ⟨by rw [← hE2.out]; rfl, rfl⟩
          · have hE := hide ((goL_plain s k hlt hq hb true acc).symm.trans hF.out)
            have hcb : ((((s[k].toNat : Nat) : Int)) == 92) = false := by
              have := mt (byte_of s[k] 92 (by omega)).1 hb
              simp; omega
            have hst := hide (str_one s k hlt acc)
            clear hq hb hF
            go_wp2
            go_round
            case rel => exact ⟨k + 1, acc ++ [s[k]], by omega, by omega, by simp; omega, by go_num, by rw [hst.out], hE⟩
            case measure => simp [intOf]; omega
      · obtain rfl : k = s.size := by omega
        have hE := hide ((goL_end s s.size (Nat.le_refl _) false true acc).symm.trans hF.out)
        clear hF
        go_wp2
        go_ret3
        exact ⟨by rw [← hE.out]; rfl, rfl⟩
  · have hr := hide (scanR_other s p hp h2)
    have hc : ((((s[p].toNat : Nat) : Int)) != 34) = true := by
      have := mt (byte_of s[p] 34 (by omega)).1 h2
      simp; omega
    clear h2
    go_enter Tryz.func75, Tryz.ntmps75
    go_wp2
    go_ret3
    exact ⟨by rw [hr.out]; rfl, rfl⟩
end Go.Proofs.YtdpieljopelkhaaGreatDoor
