/- The walks of the reference's Top and Add (chapter 01). -/
import Derived.Test.YtkhcdnehfiopgaaNuA
namespace Go.Proofs.Ytkhcdnehfiopgaa
open Go.RowKit Go.Lib

def topI : Int := 18446744073709551615
theorem Top_calls (w : World) : Calls Try.prog 36 #[] w fun e w' => e = .returned (.int .u64 topI) ∧ w' = w := by
  go_enter Try.func36, Try.ntmps36
  go_wp2
  go_ret
  exact ⟨rfl, rfl⟩
theorem top_as (T : Int) (hT : T = topI) (w : World) : Calls Try.prog 36 #[] w fun e w' => e = .returned (.int .u64 T) ∧ w' = w := by
  rw [hT]; exact Top_calls w

theorem ra_room (acc : Nat) (T d : Int) (hT : T = topI) (ha : acc < top64) (hd : IntKind.u64.wrap (T - (acc : Int)) = d) : d = 18446744073709551615 - (acc : Int) := by
  unfold topI at hT; unfold top64 at ha
  rw [← hd, hT, IntKind.wrap_u64]; omega
theorem ra_no (acc x : Nat) (T d : Int) (hT : T = topI) (ha : acc < top64) (hd : IntKind.u64.wrap (T - (acc : Int)) = d) (hc : d < (x : Int)) : plusO acc x = none := by
  have := ra_room acc T d hT ha hd
  unfold plusO fitO top64; rw [if_neg (by omega)]
theorem ra_yes (acc x : Nat) (T d : Int) (hT : T = topI) (ha : acc < top64) (hd : IntKind.u64.wrap (T - (acc : Int)) = d) (hc : ¬ d < (x : Int)) :
    plusO acc x = some (acc + x) ∧ acc + x < top64 ∧ IntKind.u64.wrap ((acc : Int) + (x : Int)) = ((acc + x : Nat) : Int) := by
  have := ra_room acc T d hT ha hd
  refine ⟨?_, ?_, ?_⟩
  · unfold plusO fitO top64; rw [if_pos (by omega)]
  · unfold top64; omega
  · rw [IntKind.wrap_u64]; omega
theorem fold_step {g : Nat → Nat → Option Nat} {n0 acc x : Nat} {l r : List Nat} (h : foldO g n0 l = foldO g acc (x :: r)) : foldO g n0 l = (match g acc x with | none => none | some m => foldO g m r) := h

set_option maxHeartbeats 400000 in
theorem RefAdd_calls (A : Option Addr) (len cap : Nat) (l : List Nat) (hl : l.length = len) (hlen : len ≤ 9223372036854775807) (hx : ∀ x ∈ l, x < top64) (w : World)
    (hr : Reads w w.heap.size 1 A len (l.map U64)) :
    Calls Try.prog 41 #[.slice A len cap] w (FoldV (foldO plusO 0 l) w) := by
  have HL := hide hl
  have HX := hide hx
  have HR := hide hr
  obtain ⟨T, hT⟩ : ∃ T : Int, T = topI := ⟨_, rfl⟩
  have HTop := hide (top_as T hT)
  have HT := hide hT
  clear hl hx hr hT
  go_enter Try.func41, Try.ntmps41
  go_wp2
  go_loopw [4, 5] (fun n i wr => ∃ (k : Nat) (z : Int), k ≤ len ∧ n = .int .u64 z ∧ i = .int .i64 (k : Int) ∧ Hid (∃ acc : Nat, z = (acc : Int) ∧ acc < top64 ∧ foldO plusO 0 l = foldO plusO acc (l.drop k)) ∧ Below w.heap.size w wr) (fun _ i _ => len - (RowKit.intOf i).toNat)
  case atStart => exact ⟨0, 0, Nat.zero_le _, rfl, rfl, ⟨0, rfl, by decide, rfl⟩, Below.refl _ _⟩
  case round =>
    obtain ⟨k, z, hk, rfl, rfl, hH, hbl⟩ := hrel
    by_cases hlt : k < len
    · obtain ⟨ad, x, hA, hbk, hcell, hxl, hdrop⟩ := reads_at HR.out HL.out HX.out hlt hbl
      subst hA
      obtain ⟨xi, hxi⟩ : ∃ xi : Int, xi = (x : Int) := ⟨_, rfl⟩
      rw [← hxi] at hcell
      obtain ⟨d, hd⟩ : ∃ d : Int, IntKind.u64.wrap (T - z) = d := ⟨_, rfl⟩
      obtain ⟨s, hs⟩ : ∃ s : Int, IntKind.u64.wrap (z + xi) = s := ⟨_, rfl⟩
      have HXI := hide hxi
      have HD := hide hd
      have HS := hide hs
      have HDR := hide hdrop
      clear hxi hdrop
      by_cases hc : d < xi
      · have e2 : foldO plusO 0 l = none := by
          obtain ⟨acc, hz, ha, hf⟩ := hH.out
          rw [hf, HDR.out]
          show (match plusO acc x with | none => none | some m => foldO plusO m (l.drop (k + 1))) = none
          rw [ra_no acc x T d HT.out ha (by rw [← hz]; exact HD.out) (by rw [← HXI.out]; exact hc)]
        have E2 := hide e2
        clear e2
        go_wp2
        go_quiet ((go_at_call 36; exact Calls.quiet_of_same (HTop.out _)))
        go_wp2
        go_ret2
        exact ⟨by rw [E2.out]; rfl, below_drewN hbl _⟩
      · have e2 : ∃ acc : Nat, s = (acc : Int) ∧ acc < top64 ∧ foldO plusO 0 l = foldO plusO acc (l.drop (k + 1)) := by
          obtain ⟨acc, hz, ha, hf⟩ := hH.out
          obtain ⟨h1, h2, h3⟩ := ra_yes acc x T d HT.out ha (by rw [← hz]; exact HD.out) (by rw [← HXI.out]; exact hc)
          refine ⟨acc + x, by rw [← HS.out, hz, HXI.out]; exact h3, h2, ?_⟩
          rw [hf, HDR.out]
          show (match plusO acc x with | none => none | some m => foldO plusO m (l.drop (k + 1))) = _
          rw [h1]
        have E2 := hide e2
        clear e2
        go_wp2
        go_quiet ((go_at_call 36; exact Calls.quiet_of_same (HTop.out _)))
        go_wp2
        go_roundw
        case rel => first | exact ⟨k + 1, s, by omega, rfl, by go_num, E2.out, below_drewN hbl _⟩ | ((repeat apply Exists.intro); exact ⟨⟨k + 1, s, by omega, rfl, by go_num, E2.out, below_drewN hbl _⟩, rfl⟩)
        case measure => simp [RowKit.intOf]; omega
    · obtain rfl : k = len := by omega
      have e2 : ∃ acc : Nat, z = (acc : Int) ∧ foldO plusO 0 l = some acc := by
        obtain ⟨acc, hz, ha, hf⟩ := hH.out
        exact ⟨acc, hz, by rw [hf, List.drop_of_length_le (by rw [HL.out]; omega)]; rfl⟩
      obtain ⟨acc, rfl, e2⟩ := e2
      have E2 := hide e2
      clear e2
      go_wp2
      go_ret2
      exact ⟨by rw [E2.out]; rfl, hbl⟩
end Go.Proofs.Ytkhcdnehfiopgaa
