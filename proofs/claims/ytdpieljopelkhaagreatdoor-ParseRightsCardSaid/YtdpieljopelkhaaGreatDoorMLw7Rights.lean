/- ParseRights, the walk (chapter 07). ParseRights at the frame's integers (chapter 07). -/
import Derived.Test.YtdpieljopelkhaaGreatDoorMPrRun
import Derived.Test.YtdpieljopelkhaaGreatDoorMPrMem
namespace Go.Proofs.YtdpieljopelkhaaGreatDoor
open Go.RowKit Go.Lib
set_option linter.unusedVariables false

theorem ofL_data (l : List UInt8) : (ofL l).data.toList = l := rfl
set_option maxRecDepth 100000 in
set_option maxHeartbeats 2000000 in
theorem ParseRights_calls (x : ByteArray) (r : Nat) (hr : r < 256) (w : World) (hv : Vars w) :
    Calls Tryz.prog 5 #[.string x, .int .u8 (r : Int)] w fun e w' => e = .returned (.bool true) ∧ Below w.heap.size w w' := by
  have HR := hide (fun W => Rights_calls x W)
  have HQ := hide (fun W => RRightsN_calls x W)
  have HAL := hide (fun W (hW : Vars W) => alive7_calls W hW)
  have HV := hide hv
  have hx : ∀ k, rightsN x.data.toList = some k → k ≤ 7 ∧ ((ofL (rightsW k)).toList == x.toList) = true := fun k hk => by
    obtain ⟨h1, h2⟩ := word_rights hk
    refine ⟨h1, ?_⟩
    rw [rights_of x k (by omega), hk]
    simp
  have HXX := hide hx
  clear hv hx
  obtain ⟨tx, HT1, HT2, HT3⟩ : ∃ tx : ByteArray, Hid (∀ W, Calls Tryz.prog 16 #[.int .u8 (r : Int)] W fun e w' => e = .returned (.string tx) ∧ Below W.heap.size W w') ∧ Hid (7 < r → tx = ⟨#[]⟩) ∧ Hid (r ≤ 7 → ∀ W, Calls Tryz.prog 15 #[.string tx] W fun e w' => e = .returned (.int .i64 (r : Int)) ∧ w' = W) := by
    by_cases h : r ≤ 7
    · refine ⟨ofL (rightsW r), hide (fun W => Word_calls r h W), hide (fun h7 => by omega), hide (fun _ W => ?_)⟩
      have := RRightsN_calls (ofL (rightsW r)) W
      rw [ofL_data, rights_word h] at this
      exact this
    · exact ⟨ofL [], hide (fun W => Word_high r (by omega) hr W), hide (fun _ => rfl), hide (fun h7 => absurd h7 h)⟩
  have hwr : IntKind.i64.wrap (r : Int) = (r : Int) := by rw [IntKind.wrap_i64]; omega
  obtain ⟨o, ho⟩ : ∃ o, o = rightsN x.data.toList := ⟨_, rfl⟩
  rw [← ho] at HR HQ HXX
  clear ho
  cases o with
  | none =>
    have HR1 : Hid (∀ W, Calls Tryz.prog 14 #[.string x] W fun e w' => e = .returned (.tuple #[.int .u8 0, .bool false]) ∧ Below W.heap.size W w') := hide (fun W => HR.out W)
    have HQ1 : Hid (∀ W, Calls Tryz.prog 15 #[.string x] W fun e w' => e = .returned (.int .i64 99) ∧ w' = W) := hide (fun W => HQ.out W)
    clear HR HQ
    by_cases h7 : 7 < r
    · have h7I : (7 : Int) < (r : Int) := by omega
      have htx := HT2.out h7
      subst htx
      clear h7 HT3 HT2
      go_enter Tryz.func5, Tryz.ntmps5
      go_wp2_with fail
      refine (HR1.out _).mono ?_
      rintro e w2 ⟨rfl, hb2⟩
      have HB2 := hide hb2
      clear hb2
      go_wp2_with fail
      refine (HQ1.out _).mono ?_
      rintro e w3 ⟨rfl, rfl⟩
      go_wp2_with fail
      refine (HT1.out _).mono ?_
      rintro e w4 ⟨rfl, hb4⟩
      have HB4 := hide (HB2.out.trans (hb4.mono HB2.out.size))
      clear hb4
      go_wp2_with fail
      refine (HAL.out _ (HV.out.below HB4.out)).mono ?_
      rintro e w5 ⟨rfl, hb5⟩
      have HB5 := hide (HB4.out.trans (hb5.mono HB4.out.size))
      clear hb5
      go_wp2_with fail
      go_ret
      exact ⟨rfl, HB5.out⟩
    · have h7I : ¬ (7 : Int) < (r : Int) := by omega
      have HT4 := hide (HT3.out (by omega))
      clear h7 HT2 HT3
      go_enter Tryz.func5, Tryz.ntmps5
      go_wp2_with fail
      refine (HR1.out _).mono ?_
      rintro e w2 ⟨rfl, hb2⟩
      have HB2 := hide hb2
      clear hb2
      go_wp2_with fail
      refine (HQ1.out _).mono ?_
      rintro e w3 ⟨rfl, rfl⟩
      go_wp2_with fail
      refine (HT1.out _).mono ?_
      rintro e w4 ⟨rfl, hb4⟩
      have HB4 := hide (HB2.out.trans (hb4.mono HB2.out.size))
      clear hb4
      go_wp2_with fail
      refine (HAL.out _ (HV.out.below HB4.out)).mono ?_
      rintro e w5 ⟨rfl, hb5⟩
      have HB5 := hide (HB4.out.trans (hb5.mono HB4.out.size))
      clear hb5
      go_wp2_with fail
      refine (HT4.out _).mono ?_
      rintro e w6 ⟨rfl, rfl⟩
      go_wp2_with fail
      go_ret
      exact ⟨by first | rfl | simp, HB5.out⟩
  | some k =>
    have HR1 : Hid (∀ W, Calls Tryz.prog 14 #[.string x] W fun e w' => e = .returned (.tuple #[.int .u8 (k : Int), .bool true]) ∧ Below W.heap.size W w') := hide (fun W => HR.out W)
    have HQ1 : Hid (∀ W, Calls Tryz.prog 15 #[.string x] W fun e w' => e = .returned (.int .i64 (k : Int)) ∧ w' = W) := hide (fun W => HQ.out W)
    obtain ⟨hk7, hkx⟩ := HXX.out k rfl
    have hk7I : (k : Int) ≤ 7 := by omega
    have hwk : IntKind.i64.wrap (k : Int) = (k : Int) := by rw [IntKind.wrap_i64]; omega
    have HWK := hide (fun W => Word_calls k hk7 W)
    generalize ofL (rightsW k) = sk at *
    clear HR HQ HXX hk7
    by_cases h7 : 7 < r
    · have h7I : (7 : Int) < (r : Int) := by omega
      have htx := HT2.out h7
      subst htx
      clear h7 HT3 HT2
      go_enter Tryz.func5, Tryz.ntmps5
      go_wp2_with fail
      refine (HR1.out _).mono ?_
      rintro e w2 ⟨rfl, hb2⟩
      have HB2 := hide hb2
      clear hb2
      go_wp2_with fail
      refine (HQ1.out _).mono ?_
      rintro e w3 ⟨rfl, rfl⟩
      go_wp2_with fail
      refine (HWK.out _).mono ?_
      rintro e w3 ⟨rfl, hb3⟩
      have HB3 := hide (HB2.out.trans (hb3.mono HB2.out.size))
      clear hb3
      go_wp2_with fail
      refine (HT1.out _).mono ?_
      rintro e w4 ⟨rfl, hb4⟩
      have HB4 := hide (HB3.out.trans (hb4.mono HB3.out.size))
      clear hb4
      go_wp2_with fail
      refine (HAL.out _ (HV.out.below HB4.out)).mono ?_
      rintro e w5 ⟨rfl, hb5⟩
      have HB5 := hide (HB4.out.trans (hb5.mono HB4.out.size))
      clear hb5
      go_wp2_with fail
      go_ret
      exact ⟨rfl, HB5.out⟩
    · have h7I : ¬ (7 : Int) < (r : Int) := by omega
      have HT4 := hide (HT3.out (by omega))
      clear h7 HT2 HT3
      go_enter Tryz.func5, Tryz.ntmps5
      go_wp2_with fail
      refine (HR1.out _).mono ?_
      rintro e w2 ⟨rfl, hb2⟩
      have HB2 := hide hb2
      clear hb2
      go_wp2_with fail
      refine (HQ1.out _).mono ?_
      rintro e w3 ⟨rfl, rfl⟩
      go_wp2_with fail
      refine (HWK.out _).mono ?_
      rintro e w3 ⟨rfl, hb3⟩
      have HB3 := hide (HB2.out.trans (hb3.mono HB2.out.size))
      clear hb3
      go_wp2_with fail
      refine (HT1.out _).mono ?_
      rintro e w4 ⟨rfl, hb4⟩
      have HB4 := hide (HB3.out.trans (hb4.mono HB3.out.size))
      clear hb4
      go_wp2_with fail
      refine (HAL.out _ (HV.out.below HB4.out)).mono ?_
      rintro e w5 ⟨rfl, hb5⟩
      have HB5 := hide (HB4.out.trans (hb5.mono HB4.out.size))
      clear hb5
      go_wp2_with fail
      refine (HT4.out _).mono ?_
      rintro e w6 ⟨rfl, rfl⟩
      go_wp2_with fail
      go_ret
      exact ⟨by first | rfl | simp, HB5.out⟩
end Go.Proofs.YtdpieljopelkhaaGreatDoor
namespace Go.Proofs.YtdpieljopelkhaaGreatDoor
open Go.RowKit Go.Lib
set_option linter.unusedVariables false

theorem ParseRights_at (x : ByteArray) (a : Int) (ha : (Lit.int .u8 a).wf = true) (w : World) (hv : Vars w) :
    Calls Tryz.prog 5 #[.string x, .int .u8 a] w fun e w' => e = .returned (.bool true) ∧ Below w.heap.size w w' := by
  have h : 0 ≤ a ∧ a < 256 := by
    simp [Lit.wf] at ha
    have h1 : IntKind.u8.min = 0 := by decide
    have h2 : IntKind.u8.max = 255 := by decide
    omega
  obtain ⟨n, rfl⟩ : ∃ n : Nat, a = (n : Int) := ⟨a.toNat, by omega⟩
  exact ParseRights_calls x n (by omega) w hv
end Go.Proofs.YtdpieljopelkhaaGreatDoor
