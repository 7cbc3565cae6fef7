/- The example of chapter 01 holds. -/
import Derived.Test.YtpagiomachamkaaDoorNuRefParse
import Derived.Test.YtpagiomachamkaaDoorNuRefAlign
namespace Go.Proofs.YtpagiomachamkaaDoor
open Go.RowKit Go.Lib

theorem Lcm_two (a b : Nat) (ha : a < top64) (hb : b < top64) (w : World) (t : TypeId) :
    Calls Tryd.prog 18 #[.slice (some ⟨w.heap.size, 0, none⟩) 2 2] (w.alloc (.cells #[.int .u64 (a : Int), .int .u64 (b : Int)] t)) fun e w' => e = .returned (optV (foldO commonO 1 [a, b])) ∧ Below w.heap.size w w' :=
  (Lcm_calls _ 2 2 [a, b] rfl (by omega) (by intro x hx; simp at hx; rcases hx with rfl | rfl <;> assumption) _ (reads_two w a b t)).mono fun e w' ⟨he, hb⟩ =>
    ⟨he, ((Below.refl _ w).alloc (Nat.le_refl _) _).trans (hb.mono (by simp))⟩
theorem ex_hex : parseN [48, 120, 49, 102] = some 31 := by
  have h : hexL 31 = [48, 120, 49, 102] := by
    unfold hexL
    rw [digL_big (by omega) (by omega), digL_small (by omega)]; rfl
  exact (parseN_iff _ 31).2 ⟨by decide, .inr h⟩
theorem ex_dec : digL 10 120 = [49, 50, 48] := by
  rw [digL_big (by omega) (by omega), digL_big (by omega) (by omega), digL_small (by omega)]; rfl
set_option maxHeartbeats 1000000 in
theorem alive_calls (w : World) (hv : Vars w) : Calls Tryd.prog 9 #[] w fun e w' => e = .returned (.bool true) ∧ Below w.heap.size w w' := by
  have HV := hide hv
  have h1 := fun W => Lcm_two 4 6 (by decide) (by decide) W 24
  have e1 : foldO commonO 1 [4, 6] = some 12 := by decide
  rw [e1, optV] at h1
  have H1 := hide h1
  have h2 := Align_calls 13 8 (by decide) (by decide)
  have e2 : alignO 13 8 = some 16 := by decide
  rw [e2, optV] at h2
  have H2 := hide h2
  have h3 := fun W hV => Parse_calls ⟨#[48, 120, 49, 102]⟩ (by decide) W hV
  have e3 : (⟨#[48, 120, 49, 102]⟩ : ByteArray).data.toList = [48, 120, 49, 102] := rfl
  rw [e3, ex_hex] at h3
  have H3 := hide h3
  have h4 := fun W hV => Decimal_calls 120 (by decide) W hV
  rw [ex_dec] at h4
  have H4 := hide h4
  clear h1 h2 h3 h4 e1 e2 e3 hv
  go_enter Tryd.func9, Tryd.ntmps9
  go_wp2_with (first
    | (go_at_call 18; refine (H1.out _).mono ?_; rintro e w1 ⟨rfl, hb1⟩)
    | (go_at_call 21; refine (H2.out _).mono ?_; rintro e w2 ⟨rfl, hb2⟩; have hb12 := hb1.trans (hb2.mono hb1.size))
    | (go_at_call 14; refine (H3.out _ (HV.out.below hb12)).mono ?_; rintro e w3 ⟨rfl, hb3⟩; have hb13 := hb12.trans (hb3.mono hb12.size); rw [optV])
    | (go_at_call 12; refine (H4.out _ (HV.out.below hb13).1).mono ?_; rintro e w4 ⟨rfl, hb4⟩))
  go_ret
  exact ⟨rfl, hb13.trans (hb4.mono hb13.size)⟩
end Go.Proofs.YtpagiomachamkaaDoor
