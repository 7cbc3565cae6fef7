/- The laws NumAligns, NumDivides and NumForms walked. -/
import Derived.Test.YtpagiomachamkaaDoorNuAlive
namespace Go.Proofs.YtpagiomachamkaaDoor
open Go.RowKit Go.Lib

set_option maxHeartbeats 1000000 in
theorem NumAligns_calls (x y : Nat) (hx : x < top64) (hy : y < top64) (w : World) (hv : Vars w) :
    Calls Tryd.prog 6 #[.int .u64 (x : Int), .int .u64 (y : Int)] w fun e w' => e = .returned (.bool true) ∧ Below w.heap.size w w' := by
  have HV := hide hv
  have h1 := Align_calls x y hx hy
  have h2 := RefAlign_calls x y hx hy
  cases hr : alignO x y with
  | none =>
    rw [hr, optV] at h1 h2
    have H1 := hide h1
    have H2 := hide h2
    clear h1 h2 hr hv hx hy
    go_enter Tryd.func6, Tryd.ntmps6
    go_wp2_with (first
      | (go_at_call 21; refine (H1.out _).mono ?_; rintro e w1 ⟨rfl, hb1⟩)
      | (go_at_call 22; refine (H2.out _).mono ?_; rintro e w2 ⟨rfl, hb2⟩; have hb12 := hb1.trans (hb2.mono hb1.size))
      | (go_at_call 9; refine (alive_calls _ (HV.out.below hb12)).mono ?_; rintro e w3 ⟨rfl, hb3⟩))
    go_ret
    exact ⟨rfl, hb12.trans (hb3.mono hb12.size)⟩
  | some n =>
    obtain ⟨hy0, hm, hle, hlt, hn⟩ := align_right x y n hr hx
    have hdv : divB y n = true := by unfold divB; exact decide_eq_true ⟨hy0, hm⟩
    have h3 := fun W => Divides_calls y n W
    rw [hdv] at h3
    have hw : IntKind.u64.wrap ((n : Int) - (x : Int)) = ((n - x : Nat) : Int) := by unfold top64 at hn; rw [IntKind.wrap_u64]; omega
    obtain ⟨d, hd⟩ : ∃ d, d = n - x := ⟨_, rfl⟩
    rw [← hd] at hw hlt
    rw [hr, optV] at h1 h2
    have H1 := hide h1
    have H2 := hide h2
    have H3 := hide h3
    clear h1 h2 h3 hr hv hx hy hd hm hdv hn
    go_enter Tryd.func6, Tryd.ntmps6
    go_wp2_with (first
      | (go_at_call 21; refine (H1.out _).mono ?_; rintro e w1 ⟨rfl, hb1⟩)
      | (go_at_call 22; refine (H2.out _).mono ?_; rintro e w2 ⟨rfl, hb2⟩; have hb12 := hb1.trans (hb2.mono hb1.size))
      | (go_at_call 20; refine (H3.out _).mono ?_; rintro e w4 ⟨rfl, rfl⟩)
      | (go_at_call 9; refine (alive_calls _ (HV.out.below hb12)).mono ?_; rintro e w3 ⟨rfl, hb3⟩))
    go_ret
    exact ⟨rfl, hb12.trans (hb3.mono hb12.size)⟩

theorem mulO_div (a b m : Nat) (h : mulL [a, b] = some m) (ha : 0 < a) : divB a m = true := by
  unfold divB
  refine decide_eq_true ⟨ha, ?_⟩
  by_cases hb : b = 0
  · unfold mulL at h; rw [if_pos (by simp [hb])] at h; injection h with h; rw [← h, Nat.zero_mod]
  · unfold mulL at h
    rw [if_neg (by simp; omega)] at h
    have h2 : 0 ∉ [a, b] := by simp; omega
    rw [fold_times [a, b] 1 (by decide) h2] at h
    obtain ⟨rfl, _⟩ := fitO_some h
    simp [prodL]
theorem Divides_zero (b : Nat) (w : World) : Calls Tryd.prog 20 #[.int .u64 0, .int .u64 (b : Int)] w fun e w' => e = .returned (.bool false) ∧ w = w' := Divides_calls 0 b w
set_option maxHeartbeats 1000000 in
theorem NumDivides_calls (a b : Nat) (ha : a < top64) (hb : b < top64) (w : World) (hv : Vars w) :
    Calls Tryd.prog 8 #[.int .u64 (a : Int), .int .u64 (b : Int)] w fun e w' => e = .returned (.bool true) ∧ Below w.heap.size w w' := by
  have HV := hide hv
  have h1 := fun W => Mul_two a b ha hb W 24
  obtain ⟨m, k, hs⟩ := optV_shape (mulL [a, b])
  have hk : k = true → 0 < a → divB a m = true := fun e h0 => by
    cases hr : mulL [a, b] with
    | none => rw [hr, e] at hs; injection hs with hs; simp at hs
    | some n =>
      rw [hr] at hs
      have hnm : n = m := by unfold optV at hs; injection hs with hs; simp at hs; omega
      rw [← hnm]; exact mulO_div a b n hr h0
  rw [hs] at h1
  have H1 := hide h1
  have hcase : k = false ∨ a = 0 ∨ (k = true ∧ 0 < a ∧ divB a m = true) := by
    cases k with
    | false => exact .inl rfl
    | true =>
      by_cases h0 : a = 0
      · exact .inr (.inl h0)
      · exact .inr (.inr ⟨rfl, by omega, hk rfl (by omega)⟩)
  clear h1 hv ha hb hs hk
  rcases hcase with rfl | h0 | ⟨rfl, h0, hd⟩
  · go_enter Tryd.func8, Tryd.ntmps8
    go_wp2_with (first
      | (go_at_call 23; refine (H1.out _).mono ?_; rintro e w1 ⟨rfl, hb1⟩)
      | (go_at_call 25; refine (RefDivides_calls a b _).mono ?_; rintro e w2 ⟨rfl, rfl⟩)
      | (go_at_call 20; first | ((with_reducible refine (Divides_calls _ _ _).mono ?_); rintro e w2 ⟨rfl, rfl⟩) | ((with_reducible refine (Divides_zero _ _).mono ?_); rintro e w2 ⟨rfl, rfl⟩))
      | (go_at_call 9; refine (alive_calls _ (HV.out.below hb1)).mono ?_; rintro e w3 ⟨rfl, hb3⟩))
    go_ret
    exact ⟨rfl, hb1.trans (hb3.mono hb1.size)⟩
  · subst h0
    cases k
    all_goals
      go_enter Tryd.func8, Tryd.ntmps8
      go_wp2_with (first
        | (go_at_call 23; refine (H1.out _).mono ?_; rintro e w1 ⟨rfl, hb1⟩)
        | (go_at_call 25; refine (RefDivides_calls 0 b _).mono ?_; rintro e w2 ⟨rfl, rfl⟩; rw [divB_zero])
        | (go_at_call 20; first | ((with_reducible refine (Divides_calls _ _ _).mono ?_); rintro e w2 ⟨rfl, rfl⟩; rw [divB_zero]) | ((with_reducible refine (Divides_zero _ _).mono ?_); rintro e w2 ⟨rfl, rfl⟩))
        | (go_at_call 9; refine (alive_calls _ (HV.out.below hb1)).mono ?_; rintro e w3 ⟨rfl, hb3⟩))
      go_ret
      exact ⟨rfl, hb1.trans (hb3.mono hb1.size)⟩
  · have ha0 : ((a : Int) == 0) = false := by simp; omega
    go_enter Tryd.func8, Tryd.ntmps8
    go_wp2_with (first
      | (go_at_call 23; refine (H1.out _).mono ?_; rintro e w1 ⟨rfl, hb1⟩)
      | (go_at_call 25; refine (RefDivides_calls a b _).mono ?_; rintro e w2 ⟨rfl, rfl⟩)
      | (go_at_call 20; first | ((with_reducible refine (Divides_calls _ _ _).mono ?_); rintro e w2 ⟨rfl, rfl⟩) | ((with_reducible refine (Divides_zero _ _).mono ?_); rintro e w2 ⟨rfl, rfl⟩))
      | (go_at_call 9; refine (alive_calls _ (HV.out.below hb1)).mono ?_; rintro e w3 ⟨rfl, hb3⟩))
    go_ret
    exact ⟨rfl, hb1.trans (hb3.mono hb1.size)⟩

set_option maxHeartbeats 1000000 in
theorem NumForms_calls (x : Nat) (s : ByteArray) (hx : x < top64) (w : World) (hv : Vars w) :
    Calls Tryd.prog 4 #[.int .u64 (x : Int), .string s] w fun e w' => e = .returned (.bool true) ∧ Below w.heap.size w w' := by
  have HV := hide hv
  by_cases hs : (s.size : Int) ≤ 300
  · have hdl : (digL 10 x).length ≤ 20 := digL_length 10 19 (by omega) x (by unfold top64 at hx; omega)
    have hhl : (digL 16 x).length ≤ 16 := digL_length 16 15 (by omega) x (by unfold top64 at hx; omega)
    have hD := fun W hV => Decimal_calls x hx W hV
    have hH := fun W hV => Hex_calls x hx W hV
    have hRD := fun W => RefDecimal_calls x hx W
    have hRH := fun W => RefHex_calls x hx W
    have hP1 := fun W hV => Parse_calls ⟨(digL 10 x).toArray⟩ (by show (digL 10 x).toArray.size ≤ 100000; rw [List.size_toArray]; omega) W hV
    have hP2 := fun W hV => Parse_calls ⟨(hexL x).toArray⟩ (by show (hexL x).toArray.size ≤ 100000; rw [List.size_toArray]; unfold hexL; simp; omega) W hV
    have hP3 := fun W hV => Parse_calls s (by omega) W hV
    have hRP := fun W => RefParse_calls s W
    have e1 : (⟨(digL 10 x).toArray⟩ : ByteArray).data.toList = digL 10 x := rfl
    have e2 : (⟨(hexL x).toArray⟩ : ByteArray).data.toList = hexL x := rfl
    rw [e1, parseN_dec x hx] at hP1
    rw [e2, parseN_hex x hx] at hP2
    rw [← parse_same] at hRP
    obtain ⟨m, k, hsv⟩ := optV_shape (parseN s.data.toList)
    unfold FoldV at hP1 hP2 hP3 hRP
    rw [hsv] at hP3 hRP
    rw [optV] at hP1 hP2
    obtain ⟨D, hDD⟩ : ∃ D, D = (digL 10 x).toArray := ⟨_, rfl⟩
    obtain ⟨X, hXX⟩ : ∃ X, X = (hexL x).toArray := ⟨_, rfl⟩
    rw [← hDD] at hD hRD hP1
    rw [← hXX] at hH hRH hP2
    have H1 := hide hD
    have H2 := hide hH
    have H3 := hide hRD
    have H4 := hide hRH
    have H5 := hide hP1
    have H6 := hide hP2
    have H7 := hide hP3
    have H8 := hide hRP
    clear hD hH hRD hRH hP1 hP2 hP3 hRP e1 e2 hsv hDD hXX hdl hhl hx hv
    go_enter Tryd.func4, Tryd.ntmps4
    go_wp2_with (first
      | (go_at_call 12; refine (H1.out _ HV.out.1).mono ?_; rintro e w1 ⟨rfl, hb1⟩)
      | (go_at_call 13; refine (H2.out _ (HV.out.below hb1).2.1).mono ?_; rintro e w2 ⟨rfl, hb2⟩; have hb12 := hb1.trans (hb2.mono hb1.size))
      | (go_at_call 14; first | ((with_reducible refine (H5.out _ (HV.out.below hb12)).mono ?_); rintro e w3 ⟨rfl, hb3⟩; have hb13 := hb12.trans (hb3.mono hb12.size)) | ((with_reducible refine (H6.out _ (HV.out.below hb13)).mono ?_); rintro e w4 ⟨rfl, hb4⟩; have hb14 := hb13.trans (hb4.mono hb13.size)) | ((with_reducible refine (H7.out _ (HV.out.below hb14)).mono ?_); rintro e w5 ⟨rfl, hb5⟩; have hb15 := hb14.trans (hb5.mono hb14.size)))
      | (go_at_call 15; refine (H8.out _).mono ?_; rintro e w6 ⟨rfl, hb6⟩; have hb16 := hb15.trans (hb6.mono hb15.size))
      | (go_at_call 9; refine (alive_calls _ (HV.out.below hb16)).mono ?_; rintro e w7 ⟨rfl, hb7⟩; have hb17 := hb16.trans (hb7.mono hb16.size))
      | (go_at_call 16; refine (H3.out _).mono ?_; rintro e w8 ⟨rfl, hb8⟩; have hb18 := hb17.trans (hb8.mono hb17.size))
      | (go_at_call 17; refine (H4.out _).mono ?_; rintro e w9 ⟨rfl, hb9⟩; have hb19 := hb18.trans (hb9.mono hb18.size)))
    go_ret
    exact ⟨rfl, hb19⟩
  · have hsi : (300 : Int) < (s.size : Int) := by omega
    go_enter Tryd.func4, Tryd.ntmps4
    go_wp2_with (go_at_call 9; refine (alive_calls _ HV.out).mono ?_; rintro e w7 ⟨rfl, hb7⟩)
    go_ret
    exact ⟨rfl, hb7⟩
end Go.Proofs.YtpagiomachamkaaDoor
