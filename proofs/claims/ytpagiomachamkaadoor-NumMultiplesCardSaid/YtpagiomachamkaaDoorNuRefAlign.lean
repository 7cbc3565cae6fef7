/- The walk of the reference's Align (chapter 01). -/
import Derived.Test.YtpagiomachamkaaDoorNuRefLcm
namespace Go.Proofs.YtpagiomachamkaaDoor
open Go.RowKit Go.Lib

theorem mul_exact (x y : Nat) (hx : x < top64) (h0 : x % y = 0) (hy : 0 < y) : mulL [x / y, y] = some x := by
  have e : x / y * y = x := by have := Nat.div_add_mod x y; rw [Nat.mul_comm]; omega
  by_cases h : x / y = 0
  · rw [h, mulL_two_zero]; rw [h, Nat.zero_mul] at e; rw [← e]
  · rw [mulL_two _ _ (Nat.lt_of_le_of_lt (Nat.div_le_self _ _) hx) (Nat.pos_of_ne_zero h) hy]
    unfold timesO fitO; rw [e, if_pos hx]
theorem not_top (x y : Nat) (hx : x < top64) (h0 : x % y ≠ 0) (hy : 0 < y) : x / y + 1 < top64 := by
  have h1 : y ≠ 1 := fun e => h0 (by rw [e, Nat.mod_one])
  have h2 : x / y ≤ x / 2 := Nat.div_le_div_left (by omega) (by omega)
  unfold top64 at *; omega
theorem mul_next (x y : Nat) (hx : x < top64) (h0 : x % y ≠ 0) (hy : 0 < y) : mulL [x / y + 1, y] = alignO x y := by
  rw [mulL_two _ _ (not_top x y hx h0 hy) (Nat.succ_pos _) hy]
  unfold alignO timesO
  rw [if_neg (by omega), if_neg h0, align_ref x y hy]
theorem eq_top (n : Nat) (T : Int) (hT : T = topI) (h : n + 1 < top64) : ((n : Int) == T) = false := by
  rw [hT]; unfold topI; unfold top64 at h; simp; omega
theorem RefAlign_calls (x y : Nat) (hx : x < top64) (hy : y < top64) (w : World) :
    Calls Tryd.prog 22 #[.int .u64 (x : Int), .int .u64 (y : Int)] w fun e w' => e = .returned (optV (alignO x y)) ∧ Below w.heap.size w w' := by
  by_cases h : y = 0
  · subst h
    have hv : Hid (alignO x 0 = none) := by show _ = _; unfold alignO; rw [if_pos rfl]
    clear hx hy
    go_enter Tryd.func22, Tryd.ntmps22
    go_wp2
    go_ret2
    exact ⟨by rw [hv.out]; rfl, Below.refl _ _⟩
  · have z1 : ((y : Int) == 0) = false := by simp; omega
    have z3 : 0 < y := by omega
    obtain ⟨r, hr⟩ : ∃ r, r = x % y := ⟨_, rfl⟩
    obtain ⟨n, hn⟩ : ∃ n, n = x / y := ⟨_, rfl⟩
    have hm : (x : Int) % (y : Int) = (r : Int) := by rw [hr]; exact (Int.natCast_emod _ _).symm
    have hd : (x : Int) / (y : Int) = (n : Int) := by rw [hn]; exact (Int.natCast_ediv _ _).symm
    have hdw : IntKind.u64.wrap (n : Int) = (n : Int) := by
      have := Nat.div_le_self x y
      unfold top64 at hx; rw [IntKind.wrap_u64]; omega
    have hnl : n < top64 := by rw [hn]; exact Nat.lt_of_le_of_lt (Nat.div_le_self _ _) hx
    by_cases h0 : r = 0
    · have hM := fun W => RefMul_two n y hnl hy W 24
      have hv : alignO x y = some x := by unfold alignO; rw [if_neg h, if_pos (by omega)]
      have hml : mulL [n, y] = some x := by rw [hn]; exact mul_exact x y hx (by omega) z3
      rw [hml] at hM
      have H := hide hM
      have HV := hide hv
      clear h hx hy hr hn hnl hM hml hv
      subst h0
      go_enter Tryd.func22, Tryd.ntmps22
      go_wp2_with (go_at_call 24; refine (H.out _).mono ?_; rintro e w' ⟨rfl, hb⟩; rw [optV])
      go_ret2
      exact ⟨by rw [HV.out]; rfl, hb⟩
    · have hn1 : n + 1 < top64 := by rw [hn]; exact not_top x y hx (by omega) z3
      obtain ⟨T, hT⟩ : ∃ T : Int, T = topI := ⟨_, rfl⟩
      have HTop := hide (top_as T hT)
      have hnt := eq_top n T hT hn1
      have hM := fun W => RefMul_two (n + 1) y hn1 hy W 24
      have hml : mulL [n + 1, y] = alignO x y := by rw [hn]; exact mul_next x y hx (by omega) z3
      obtain ⟨p, hp⟩ : ∃ p, p = n + 1 := ⟨_, rfl⟩
      have hpw : IntKind.u64.wrap ((n : Int) + 1) = (p : Int) := by
        unfold top64 at hn1; rw [IntKind.wrap_u64]; omega
      rw [hml] at hM
      obtain ⟨m, k, hs⟩ := optV_shape (alignO x y)
      rw [hs] at hM
      rw [← hp] at hM
      have H := hide hM
      have HS := hide hs
      have hr0 : 0 < r := by omega
      clear h hx hy hr hn hnl hM hml hs h0 hT hp hn1
      go_enter Tryd.func22, Tryd.ntmps22
      go_wp2_with (first
        | (go_at_call 28; refine (HTop.out _).mono ?_; rintro e w' ⟨rfl, rfl⟩)
        | (go_at_call 24; refine (H.out _).mono ?_; rintro e w' ⟨rfl, hb⟩))
      go_ret2
      exact ⟨by rw [HS.out]; rfl, hb⟩
end Go.Proofs.YtpagiomachamkaaDoor
