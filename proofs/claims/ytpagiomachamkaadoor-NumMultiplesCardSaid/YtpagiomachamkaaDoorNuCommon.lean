/- The walks of num's word.times and word.common: the product, and the least common multiple, of two numbers (chapter 01). -/
import Derived.Test.YtpagiomachamkaaDoorNuWord
import Derived.Test.YtpagiomachamkaaDoorShelf
namespace Go.Proofs.YtpagiomachamkaaDoor
open Go.RowKit Go.Lib

theorem times_calls (a b : Nat) (ha : a < top64) (hb : b < top64) (w : World) :
    Calls Tryd.prog 37 #[.int .u64 (a : Int), .int .u64 (b : Int)] w (OpV (timesO a b) w) := by
  have hm := fun W => Tryd.bits_Mul64 a b ha hb W
  by_cases h : a * b < top64
  · have e1 : a * b % 18446744073709551616 = a * b := Nat.mod_eq_of_lt h
    have e2 : a * b / 18446744073709551616 = 0 := Nat.div_eq_of_lt h
    rw [e1, e2] at hm
    have hp : timesO a b = some (a * b) := by unfold timesO fitO; rw [if_pos h]
    obtain ⟨m, hmm⟩ : ∃ m, m = a * b := ⟨_, rfl⟩
    rw [← hmm] at hm hp
    have Hp := hide hp
    have Hm := hide hm
    clear hp hm hmm e1 e2 h ha hb
    go_enter Tryd.func37, Tryd.ntmps37
    go_wp2_with (go_at_call 44; refine (Hm.out _).mono ?_; rintro e w' ⟨rfl, rfl⟩)
    go_ret2
    exact OpV.mk_yes Hp.out (Below.refl _ _)
  · have e2 : 0 < a * b / 18446744073709551616 := Nat.div_pos (by unfold top64 at h; omega) (by decide)
    have hp : timesO a b = none := by unfold timesO fitO; rw [if_neg h]
    obtain ⟨m, hmm⟩ : ∃ m, m = a * b % 18446744073709551616 := ⟨_, rfl⟩
    obtain ⟨k, hk⟩ : ∃ k, k = a * b / 18446744073709551616 := ⟨_, rfl⟩
    rw [← hmm, ← hk] at hm
    rw [← hk] at e2
    have hk0 : ((k : Int) == 0) = false := by simp; omega
    have Hp := hide hp
    have Hm := hide hm
    clear hp hm hmm hk e2 h ha hb
    go_enter Tryd.func37, Tryd.ntmps37
    go_wp2_with (go_at_call 44; refine (Hm.out _).mono ?_; rintro e w' ⟨rfl, rfl⟩)
    go_ret2
    exact OpV.mk_no Hp.out (Below.refl _ _)

set_option maxHeartbeats 400000 in
theorem common_calls (a b : Nat) (ha : a < top64) (hb : b < top64) (w : World) :
    Calls Tryd.prog 34 #[.int .u64 (a : Int), .int .u64 (b : Int)] w (OpV (commonO a b) w) := by
  by_cases ha0 : a = 0
  · subst ha0
    have hp : Hid (commonO 0 b = none) := by show _ = _; unfold commonO; rw [if_pos (.inl rfl)]
    go_enter Tryd.func34, Tryd.ntmps34
    go_wp2
    go_ret2
    exact OpV.mk_no (m := 0) hp.out (Below.refl _ _)
  · by_cases hb0 : b = 0
    · subst hb0
      have z1 : ((a : Int) == 0) = false := by simp; omega
      have hp : Hid (commonO a 0 = none) := by show _ = _; unfold commonO; rw [if_pos (.inr rfl)]
      clear ha0
      go_enter Tryd.func34, Tryd.ntmps34
      go_wp2
      go_ret2
      exact OpV.mk_no (m := 0) hp.out (Below.refl _ _)
    · have z1 : ((a : Int) == 0) = false := by simp; omega
      have z2 : ((b : Int) == 0) = false := by simp; omega
      have p1 : 0 < a := by omega
      have hp : commonO a b = timesO a (b / Nat.gcd a b) := by unfold commonO; rw [if_neg (by omega)]
      have hT := fun W => times_calls a (b / Nat.gcd a b) ha (Nat.lt_of_le_of_lt (Nat.div_le_self _ _) hb) W
      rw [← hp] at hT
      obtain ⟨q, hq⟩ : ∃ q, q = b / Nat.gcd a b := ⟨_, rfl⟩
      rw [← hq] at hT
      have Hq := hide hq
      have hqw : IntKind.u64.wrap (q : Int) = (q : Int) := by
        have hq2 : q < 18446744073709551616 := by rw [hq]; exact Nat.lt_of_le_of_lt (Nat.div_le_self _ _) hb
        rw [IntKind.wrap_u64]; omega
      have HT := hide hT
      clear ha0 hb0 hT hp hq
      go_enter Tryd.func34, Tryd.ntmps34
      go_wp2
      go_loopw [6, 7] (fun x y wr => ∃ c d : Nat, 0 < c ∧ Hid (Nat.gcd c d = Nat.gcd a b ∧ c < top64 ∧ d < top64) ∧ x = .int .u64 (c : Int) ∧ y = .int .u64 (d : Int) ∧ Below w.heap.size w wr) (fun _ y _ => (RowKit.intOf y).toNat)
      case atStart => exact ⟨a, b, p1, ⟨rfl, ha, hb⟩, rfl, rfl, Below.refl _ _⟩
      case round =>
        obtain ⟨c, d, hc0, hH, rfl, rfl, hbl⟩ := hrel
        by_cases hd : 0 < d
        · have hg : Hid (Nat.gcd d (c % d) = Nat.gcd a b ∧ d < top64 ∧ c % d < top64) :=
            ⟨by rw [← hH.out.1, Nat.gcd_comm d, ← Nat.gcd_rec, Nat.gcd_comm], hH.out.2.2, Nat.lt_trans (Nat.mod_lt _ hd) hH.out.2.2⟩
          have hml := Nat.mod_lt c hd
          go_wp2
          go_quiet (fail)
          go_roundw
          case rel => (repeat apply Exists.intro); exact ⟨⟨d, c % d, hd, hg, rfl, rfl, below_drewN hbl _⟩, rfl⟩
          case measure => simp [RowKit.intOf]; omega
        · obtain rfl : d = 0 := by omega
          have hg : c = Nat.gcd a b := by have := hH.out.1; rwa [Nat.gcd_zero_right] at this
          have hz : (b : Int) / (c : Int) = (q : Int) := by rw [Hq.out, ← hg]; exact (Int.natCast_ediv _ _).symm
          clear hg hH
          go_wp2_with (go_at_call 37; refine (HT.out _).mono ?_; rintro e w' hO; obtain ⟨m, k, rfl, hP⟩ := hO.any; clear hO)
          go_ret2
          exact hP.from_ hbl
end Go.Proofs.YtpagiomachamkaaDoor
