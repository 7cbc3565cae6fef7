/- The walks of Place and of the reference's Place (chapter 06). -/
import Derived.Test.YtglkpncjmmeihaaDoorLxSpacing
import Derived.BigGuardPart
namespace Go.Proofs.YtglkpncjmmeihaaDoor
open Go.RowKit Go.Lib

theorem place_law (s : ByteArray) : ∀ k : Nat, k ≤ s.size →
    ((placeFrom (1, 1) (s.data.toList.take k)).1 : Int) = 1 + ((s.data.toList.take k).count 10 : Nat) ∧ ((placeFrom (1, 1) (s.data.toList.take k)).2 : Int) = k - Lib.lastIdx s 10 k := by
  intro k
  induction k with
  | zero => intro _; exact ⟨rfl, rfl⟩
  | succ k ih =>
    intro h
    obtain ⟨h1, h2⟩ := ih (by omega)
    have hk : k < s.data.toList.length := by rw [← Lib.size_eq]; omega
    have e1 : s.data.toList.take (k + 1) = s.data.toList.take k ++ [s.data.toList[k]] := List.take_succ_eq_append_getElem hk
    have e2 : s.data[k]! = s.data.toList[k] := by
      have hk2 : k < s.data.size := by simpa using hk
      rw [getElem!_pos s.data k hk2]
      simp
    rw [e1, placeFrom_append, List.count_append]
    have e3 : Lib.lastIdx s 10 (k + 1) = if ((s.data[k]!).toNat : Int) = 10 then (k : Int) else Lib.lastIdx s 10 k := rfl
    rw [e3, e2]
    obtain ⟨c, hc⟩ : ∃ c, c = s.data.toList[k] := ⟨_, rfl⟩
    rw [← hc]
    by_cases h10 : c = 10
    · rw [if_pos (by rw [h10]; rfl), h10]
      have e4 : placeFrom (placeFrom (1, 1) (s.data.toList.take k)) [10] = ((placeFrom (1, 1) (s.data.toList.take k)).1 + 1, 1) := rfl
      rw [e4]
      simp
      omega
    · rw [if_neg (by
        intro e
        apply h10
        apply UInt8.toNat_inj.1
        have : c.toNat = 10 := by omega
        rw [this]; rfl)]
      have e4 : placeFrom (placeFrom (1, 1) (s.data.toList.take k)) [c] = ((placeFrom (1, 1) (s.data.toList.take k)).1, (placeFrom (1, 1) (s.data.toList.take k)).2 + 1) := by
        show pass _ c = _
        unfold pass; rw [if_neg h10]
      rw [e4]
      have e5 : [c].count 10 = 0 := by simp [h10]
      rw [e5]
      simp
      omega
/-- What Place answers. -/
def placeV (s : ByteArray) (a : Int) : Nat × Nat := if 0 ≤ a ∧ a ≤ s.size then placeAt s a.toNat else (0, 0)
def PlaceV (s : ByteArray) (a : Int) (w : World) (e : Ending) (w' : World) : Prop := e = .returned (.tuple #[.int .i64 ((placeV s a).1 : Int), .int .i64 ((placeV s a).2 : Int)]) ∧ w' = w

set_option maxHeartbeats 1000000 in
theorem Place_calls (s : ByteArray) (a : Int) (ha : (Lit.int .i64 a).wf = true) (hs : s.size ≤ 100000000000000) (w : World) :
    Calls Tryd.prog 12 #[.string s, .int .i64 a] w (PlaceV s a w) := by
  unfold PlaceV
  by_cases h0 : a < 0
  · have e1 : placeV s a = (0, 0) := by unfold placeV; rw [if_neg (by omega)]
    rw [e1]
    have hd : decide (a < 0) = true := by simpa using h0
    go_enter Tryd.func12, Tryd.ntmps12
    go_wp2
    go_ret2
    exact ⟨rfl, rfl⟩
  · have hd : decide (a < 0) = false := by simpa using h0
    by_cases h1 : (s.size : Int) < a
    · have e1 : placeV s a = (0, 0) := by unfold placeV; rw [if_neg (by omega)]
      rw [e1]
      have hd1 : decide ((s.size : Int) < a) = true := by simpa using h1
      go_enter Tryd.func12, Tryd.ntmps12
      go_wp2
      go_ret2
      exact ⟨rfl, rfl⟩
    · have hd1 : decide ((s.size : Int) < a) = false := by simpa using h1
      obtain ⟨k, rfl⟩ : ∃ k : Nat, a = (k : Int) := ⟨a.toNat, by omega⟩
      have hk : k ≤ s.size := by omega
      obtain ⟨t, ht⟩ : ∃ t, t = s.extract 0 k := ⟨_, rfl⟩
      have htl : t.data.toList = s.data.toList.take k := by
        rw [ht]
        have h2 := extract_piece s 0 k
        rw [h2]; unfold piece; simp
      have hts : t.size = k := by rw [Lib.size_eq, htl, List.length_take, ← Lib.size_eq]; omega
      have hpl := place_law t t.size (Nat.le_refl _)
      rw [List.take_of_length_le (by rw [← Lib.size_eq]; exact Nat.le_refl _)] at hpl
      rw [htl] at hpl
      have e1 : placeV s (k : Int) = placeFrom (1, 1) (s.data.toList.take k) := by unfold placeV; rw [if_pos (by omega)]; rfl
      rw [e1]
      have hc := fun W => Tryd.strings_Count_one t 10 W
      have hl := fun W => Tryd.strings_LastIndexByte t 10 (by rw [hts]; omega) W
      rw [htl] at hc
      have hlx : Lib.lastIndexByte t 10 = Lib.lastIdx t 10 t.size := rfl
      rw [hlx] at hl
      have hle := (placeFrom_le (s.data.toList.take k) (1, 1))
      have hcn : (s.data.toList.take k).length = k := by rw [List.length_take, ← Lib.size_eq]; omega
      obtain ⟨q1, hq1⟩ : ∃ q, q = (placeFrom (1, 1) (s.data.toList.take k)).1 := ⟨_, rfl⟩
      obtain ⟨q2, hq2⟩ : ∃ q, q = (placeFrom (1, 1) (s.data.toList.take k)).2 := ⟨_, rfl⟩
      rw [← hq1, ← hq2] at hpl hle
      rw [← hq1, ← hq2]
      rw [hcn] at hle
      have hcc : ((Lib.countByte (s.data.toList.take k) 10 : Nat) : Int) = (q1 : Int) - 1 := by unfold Lib.countByte; omega
      have hll : Lib.lastIdx t 10 t.size = (k : Int) - (q2 : Int) := by rw [hts] at hpl ⊢; omega
      rw [hll] at hl
      obtain ⟨cn, hcn2⟩ : ∃ n : Int, n = ((Lib.countByte (s.data.toList.take k) 10 : Nat) : Int) := ⟨_, rfl⟩
      rw [← hcn2] at hc hcc
      have hcr : Hid ((1 + cn : Int) = (q1 : Int)) := hide (by omega)
      have hcb : 0 ≤ cn ∧ cn ≤ 100000000000000 := by omega
      obtain ⟨hcb1, hcb2⟩ := hcb
      clear hcc
      have HC := hide hc
      have HL := hide hl
      have hle1 := hle.1
      have hle2 := hle.2
      clear hc hl hpl hlx e1 hq1 hq2 hcn hcn2 hll htl hts hle
      have hsl : s.extract 0 k = t := ht.symm
      clear ht
      go_enter Tryd.func12, Tryd.ntmps12
      go_wp2_with (first
        | (go_at_call 11; refine (HC.out _).mono ?_; rintro e w' ⟨rfl, rfl⟩)
        | (go_at_call 20; refine (HL.out _).mono ?_; rintro e w' ⟨rfl, rfl⟩))
      go_ret2
      exact ⟨by rw [hcr.out, show (k : Int) - ((k : Int) - (q2 : Int)) = (q2 : Int) from by omega]; rfl, rfl⟩

set_option maxHeartbeats 1000000 in
theorem RefPlace_calls (s : ByteArray) (a : Int) (ha : (Lit.int .i64 a).wf = true) (hs : s.size ≤ 100000000000000) (w : World) :
    Calls Tryd.prog 13 #[.string s, .int .i64 a] w (PlaceV s a w) := by
  unfold PlaceV
  by_cases h0 : a < 0
  · have e1 : placeV s a = (0, 0) := by unfold placeV; rw [if_neg (by omega)]
    rw [e1]
    have hd : decide (a < 0) = true := by simpa using h0
    go_enter Tryd.func13, Tryd.ntmps13
    go_wp2
    go_ret2
    exact ⟨rfl, rfl⟩
  · have hd : decide (a < 0) = false := by simpa using h0
    by_cases h1 : (s.size : Int) < a
    · have e1 : placeV s a = (0, 0) := by unfold placeV; rw [if_neg (by omega)]
      rw [e1]
      have hd1 : decide ((s.size : Int) < a) = true := by simpa using h1
      go_enter Tryd.func13, Tryd.ntmps13
      go_wp2
      go_ret2
      exact ⟨rfl, rfl⟩
    · have hd1 : decide ((s.size : Int) < a) = false := by simpa using h1
      obtain ⟨k, rfl⟩ : ∃ k : Nat, a = (k : Int) := ⟨a.toNat, by omega⟩
      have hk : k ≤ s.size := by omega
      have e1 : placeV s (k : Int) = placeFrom (1, 1) (piece s 0 k) := by unfold placeV placeAt piece; rw [if_pos (by omega)]; simp
      rw [e1]
      have hpn := fun j (hj : j < s.size) => place_next s (1, 1) 0 j (Nat.zero_le _) hj
      have hle := fun j (hj : j ≤ s.size) => placeFrom_le (piece s 0 j) (1, 1)
      have hpl := fun j (hj : j ≤ s.size) => (show (piece s 0 j).length ≤ j from by unfold piece; simp; omega)
      have HPN := hide hpn
      have HLE := hide hle
      have HPL := hide hpl
      clear e1 hpn hle hpl
      go_enter Tryd.func13, Tryd.ntmps13
      go_wp2
      go_loop [6, 7, 8] (fun a b i => ∃ j : Nat, j ≤ k ∧ i = .int .i64 (j : Int) ∧ Hid (a = .int .i64 ((placeFrom (1, 1) (piece s 0 j)).1 : Int) ∧ b = .int .i64 ((placeFrom (1, 1) (piece s 0 j)).2 : Int))) (fun _ _ i => k - (RowKit.intOf i).toNat)
      case atStart => exact ⟨0, Nat.zero_le _, rfl, by rw [piece_self]; exact ⟨rfl, rfl⟩⟩
      case round =>
        obtain ⟨j, hj, rfl, hab⟩ := hrel
        obtain ⟨rfl, rfl⟩ := hab.out
        have hl1 := HLE.out j (by omega)
        have hl2 := HPL.out j (by omega)
        obtain ⟨hl3, hl4⟩ := hl1
        obtain ⟨q1, hq1⟩ : ∃ q, q = (placeFrom (1, 1) (piece s 0 j)).1 := ⟨_, rfl⟩
        obtain ⟨q2, hq2⟩ : ∃ q, q = (placeFrom (1, 1) (piece s 0 j)).2 := ⟨_, rfl⟩
        rw [← hq1] at hl3
        rw [← hq2] at hl4
        rw [← hq1, ← hq2]
        by_cases hlt : j < k
        · have hdl : decide ((j : Int) < (k : Int)) = true := by simpa using hlt
          have hix : (j : Int) < (s.size : Int) := by omega
          have hnx := hide (HPN.out j (by omega))
          by_cases hc : s[j] = 10
          · have hb : ((s[j].toNat : Int) == 10) = true := by rw [hc]; rfl
            have hp := hide (show placeFrom (1, 1) (piece s 0 (j + 1)) = (q1 + 1, 1) by rw [← hnx.out, hq1]; unfold pass; rw [if_pos hc])
            clear hq1 hq2 hab hc hnx
            go_wp2
            go_round
            case rel => first | exact ⟨j + 1, by omega, by go_num, by rw [hp.out]; exact ⟨rfl, rfl⟩⟩ | ((repeat apply Exists.intro); exact ⟨⟨j + 1, by omega, by go_num, by rw [hp.out]; exact ⟨rfl, rfl⟩⟩, rfl⟩)
            case measure => simp [RowKit.intOf]; omega
          · have hb : ((s[j].toNat : Int) == 10) = false := by
              have : s[j].toNat ≠ 10 := fun e => hc (UInt8.toNat_inj.1 (by rw [e]; rfl))
              simp; omega
            have hp := hide (show placeFrom (1, 1) (piece s 0 (j + 1)) = (q1, q2 + 1) by rw [← hnx.out, hq1, hq2]; unfold pass; rw [if_neg hc])
            clear hq1 hq2 hab hc hnx
            go_wp2
            go_round
            case rel => first | exact ⟨j + 1, by omega, by go_num, by rw [hp.out]; exact ⟨rfl, rfl⟩⟩ | ((repeat apply Exists.intro); exact ⟨⟨j + 1, by omega, by go_num, by rw [hp.out]; exact ⟨rfl, rfl⟩⟩, rfl⟩)
            case measure => simp [RowKit.intOf]; omega
        · obtain rfl : j = k := by omega
          have HQ1 := hide hq1
          have HQ2 := hide hq2
          clear hq1 hq2 hab
          go_wp2
          go_ret2
          exact ⟨by rw [← HQ1.out, ← HQ2.out]; rfl, rfl⟩
end Go.Proofs.YtglkpncjmmeihaaDoor
