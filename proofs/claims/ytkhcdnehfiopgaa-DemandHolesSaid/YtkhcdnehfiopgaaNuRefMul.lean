/- The walks of the reference's Mul, gcd, Lcm and Align (chapter 01). -/
import Derived.Test.YtkhcdnehfiopgaaNuRefAdd
import Derived.Test.YtkhcdnehfiopgaaNuA
import Derived.Deep.RegionHeld3
import Derived.Deep.RegionWith
namespace Go.Proofs.Ytkhcdnehfiopgaa
open Go.RowKit Go.Lib

theorem rm_room (x : Nat) (T q : Int) (hT : T = topI) (hq : T / (x : Int) = q) : q = ((18446744073709551615 / x : Nat) : Int) := by
  rw [← hq, hT]; exact (Int.natCast_ediv 18446744073709551615 x).symm
theorem rm_no (acc x : Nat) (T q : Int) (hT : T = topI) (hx : 0 < x) (hq : T / (x : Int) = q) (hc : q < (acc : Int)) : timesO acc x = none := by
  have h := rm_room x T q hT hq
  have h1 : 18446744073709551615 / x < acc := by omega
  have h2 := (Nat.div_lt_iff_lt_mul hx).1 h1
  unfold timesO fitO top64; rw [if_neg (by omega)]
theorem rm_yes (acc x : Nat) (T q : Int) (hT : T = topI) (hx : 0 < x) (hq : T / (x : Int) = q) (hc : ¬ q < (acc : Int)) :
    timesO acc x = some (acc * x) ∧ acc * x < top64 ∧ IntKind.u64.wrap ((acc : Int) * (x : Int)) = ((acc * x : Nat) : Int) := by
  have h := rm_room x T q hT hq
  have h1 : ¬ 18446744073709551615 / x < acc := by omega
  have h2 : ¬ 18446744073709551615 < acc * x := fun h => h1 ((Nat.div_lt_iff_lt_mul hx).2 h)
  refine ⟨?_, by unfold top64; omega, ?_⟩
  · unfold timesO fitO top64; rw [if_pos (by omega)]
  · rw [← Int.natCast_mul, IntKind.wrap_u64]; omega

set_option maxHeartbeats 1000000 in
theorem RefMul_calls (A : Option Addr) (len cap : Nat) (l : List Nat) (hl : l.length = len) (hlen : len ≤ 9223372036854775807) (hx : ∀ x ∈ l, x < top64) (w : World)
    (hr : Reads w w.heap.size 1 A len (l.map U64)) :
    Calls Try.prog 18 #[.slice A len cap] w (FoldV (mulL l) w) := by
  have HL := hide hl
  have HX := hide hx
  have HR := hide hr
  obtain ⟨T, hT⟩ : ∃ T : Int, T = topI := ⟨_, rfl⟩
  have HTop := hide (top_as T hT)
  have HT := hide hT
  clear hl hx hr hT
  go_enter Try.func18, Try.ntmps18
  go_wp2
  go_loop [4] (fun i => ∃ (k : Nat), k ≤ len ∧ i = .int .i64 (k : Int) ∧ Hid (0 ∈ l ↔ 0 ∈ l.drop k)) (fun i => len - (RowKit.intOf i).toNat)
  case atStart => exact ⟨0, Nat.zero_le _, rfl, Iff.rfl⟩
  case round =>
    obtain ⟨k, hk, rfl, hH⟩ := hrel
    by_cases hlt : k < len
    · obtain ⟨ad, x, hA, hcell, hdrop⟩ := reads_here HR.out HL.out hlt
      subst hA
      have HDR := hide hdrop
      clear hdrop
      by_cases hx : x = 0
      · subst hx
        have h0 : Hid (mulL l = some 0) := by
          show _ = _
          unfold mulL; rw [if_pos (hH.out.2 (by rw [HDR.out]; simp))]
        go_wp2
        go_ret2
        exact ⟨by rw [h0.out]; rfl, Below.refl _ _⟩
      · have h1 : Hid (0 ∈ l ↔ 0 ∈ l.drop (k + 1)) := by
          show _ ↔ _
          rw [hH.out, HDR.out, List.mem_cons]
          exact ⟨fun h => h.elim (fun e => absurd e.symm hx) id, .inr⟩
        have h2 : ((x : Int) == 0) = false := by simp; omega
        clear hx
        go_wp2
        go_round
        case rel => first | exact ⟨k + 1, by omega, by go_num, h1⟩ | ((repeat apply Exists.intro); exact ⟨⟨k + 1, by omega, by go_num, h1⟩, rfl⟩)
        case measure => simp [RowKit.intOf]; omega
    · obtain rfl : k = len := by omega
      have h0 : 0 ∉ l := fun h => by
        have := hH.out.1 h
        rw [List.drop_of_length_le (by rw [HL.out]; omega)] at this
        cases this
      have hv : Hid (mulL l = foldO timesO 1 l) := by show _ = _; unfold mulL; rw [if_neg h0]
      have hpos : Hid (∀ x ∈ l, 0 < x) := fun x hx => Nat.pos_of_ne_zero fun e => h0 (e ▸ hx)
      clear h0 hH
      go_wp2
      go_loopw [5, 6] (fun n i wr => ∃ (j : Nat) (z : Int), j ≤ k ∧ n = .int .u64 z ∧ i = .int .i64 (j : Int) ∧ Hid (∃ acc : Nat, z = (acc : Int) ∧ acc < top64 ∧ foldO timesO 1 l = foldO timesO acc (l.drop j)) ∧ Below w.heap.size w wr) (fun _ i _ => k - (RowKit.intOf i).toNat)
      case atStart => exact ⟨0, 1, Nat.zero_le _, rfl, rfl, ⟨1, rfl, by decide, rfl⟩, Below.refl _ _⟩
      case round =>
        obtain ⟨j, z, hk, rfl, rfl, hH, hbl⟩ := hrel
        by_cases hlt : j < k
        · obtain ⟨ad, x, hA, hbk, hcell, hxl, hdrop⟩ := reads_at HR.out HL.out HX.out hlt hbl
          subst hA
          have hxp : 0 < x := hpos.out x (List.mem_of_mem_drop (i := j) (by rw [hdrop]; simp))
          obtain ⟨xi, hxi⟩ : ∃ xi : Int, xi = (x : Int) := ⟨_, rfl⟩
          rw [← hxi] at hcell
          have hxi0 : 0 < xi := by omega
          have hxz : (xi == 0) = false := by simp; omega
          have hT0 : 0 ≤ T := by rw [HT.out]; decide
          obtain ⟨q, hq⟩ : ∃ q : Int, T / xi = q := ⟨_, rfl⟩
          obtain ⟨s, hs⟩ : ∃ s : Int, IntKind.u64.wrap (z * xi) = s := ⟨_, rfl⟩
          have hqw : IntKind.u64.wrap (T.tdiv xi) = q := by
            have h := rm_room x T q HT.out (by rw [← hxi]; exact hq)
            have h2 := Nat.div_le_self 18446744073709551615 x
            obtain ⟨n, hn⟩ : ∃ n, n = 18446744073709551615 / x := ⟨_, rfl⟩
            rw [← hn] at h h2
            rw [Int.tdiv_eq_ediv_of_nonneg hT0, hq, IntKind.wrap_u64]; omega
          have HXI := hide hxi
          have HQ := hide hq
          have HS := hide hs
          have HDR := hide hdrop
          have HXP := hide hxp
          clear hxi hdrop hxl hxp hq
          by_cases hc : q < z
          · have e2 : foldO timesO 1 l = none := by
              obtain ⟨acc, hz, ha, hf⟩ := hH.out
              rw [hf, HDR.out]
              show (match timesO acc x with | none => none | some m => foldO timesO m (l.drop (j + 1))) = none
              rw [rm_no acc x T q HT.out HXP.out (by rw [← HXI.out]; exact HQ.out) (by rw [← hz]; exact hc)]
            have E2 := hide e2
            clear e2
            go_wp2
            go_quiet ((go_at_call 36; exact Calls.quiet_of_same (HTop.out _)))
            go_wp2
            go_ret2
            exact ⟨by rw [hv.out, E2.out]; rfl, below_drewN hbl _⟩
          · have e2 : ∃ acc : Nat, s = (acc : Int) ∧ acc < top64 ∧ foldO timesO 1 l = foldO timesO acc (l.drop (j + 1)) := by
              obtain ⟨acc, hz, ha, hf⟩ := hH.out
              obtain ⟨h1, h2, h3⟩ := rm_yes acc x T q HT.out HXP.out (by rw [← HXI.out]; exact HQ.out) (by rw [← hz]; exact hc)
              refine ⟨acc * x, by rw [← HS.out, hz, HXI.out]; exact h3, h2, ?_⟩
              rw [hf, HDR.out]
              show (match timesO acc x with | none => none | some m => foldO timesO m (l.drop (j + 1))) = _
              rw [h1]
            have E2 := hide e2
            clear e2
            go_wp2
            go_quiet ((go_at_call 36; exact Calls.quiet_of_same (HTop.out _)))
            go_wp2
            go_roundw
            case rel => first | exact ⟨j + 1, s, by omega, rfl, by go_num, E2.out, below_drewN hbl _⟩ | ((repeat apply Exists.intro); exact ⟨⟨j + 1, s, by omega, rfl, by go_num, E2.out, below_drewN hbl _⟩, rfl⟩)
            case measure => simp [RowKit.intOf]; omega
        · obtain rfl : j = k := by omega
          have e2 : ∃ acc : Nat, z = (acc : Int) ∧ foldO timesO 1 l = some acc := by
            obtain ⟨acc, hz, ha, hf⟩ := hH.out
            exact ⟨acc, hz, by rw [hf, List.drop_of_length_le (by rw [HL.out]; omega)]; rfl⟩
          obtain ⟨acc, rfl, e2⟩ := e2
          have E2 := hide e2
          clear e2
          go_wp2
          go_ret2
          exact ⟨by rw [hv.out, E2.out]; rfl, hbl⟩

end Go.Proofs.Ytkhcdnehfiopgaa
