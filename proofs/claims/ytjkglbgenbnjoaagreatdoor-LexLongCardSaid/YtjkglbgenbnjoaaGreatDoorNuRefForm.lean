/- The walks of the reference's form, Decimal, Hex and digit (chapter 01). -/
import Derived.Test.YtjkglbgenbnjoaaGreatDoorNuParseTop
namespace Go.Proofs.YtjkglbgenbnjoaaGreatDoor
open Go.RowKit Go.Lib

set_option maxRecDepth 100000 in
theorem piece_run (r q : Nat) (h : r < 16) (hq : q = r + 1) (w : World) : (Instr.slice 9 (.string ⟨#[48, 49, 50, 51, 52, 53, 54, 55, 56, 57, 97, 98, 99, 100, 101, 102]⟩) (some (.int .u64 (r : Int))) (some (.int .u64 (q : Int))) none).run Tryz.prog w = .ok (.string ⟨#[dg r]⟩) w := by
  subst hq
  have : r = 0 ∨ r = 1 ∨ r = 2 ∨ r = 3 ∨ r = 4 ∨ r = 5 ∨ r = 6 ∨ r = 7 ∨ r = 8 ∨ r = 9 ∨ r = 10 ∨ r = 11 ∨ r = 12 ∨ r = 13 ∨ r = 14 ∨ r = 15 := by omega
  rcases this with rfl | rfl | rfl | rfl | rfl | rfl | rfl | rfl | rfl | rfl | rfl | rfl | rfl | rfl | rfl | rfl <;> rfl
theorem put_front (c : UInt8) (s : ByteArray) : ((⟨#[c]⟩ : ByteArray) ++ s).data.toList = c :: s.data.toList := by
  rw [ByteArray.data_append]; simp

set_option maxHeartbeats 800000 in
theorem form_calls (b : Nat) (hb : 10 ≤ b) (hb2 : b ≤ 16) (x : Nat) (hx : x < top64) (w : World) :
    Calls Tryz.prog 46 #[.int .u64 (x : Int), .int .u64 (b : Int)] w fun e w' => e = .returned (.string ⟨(digL b x).toArray⟩) ∧ Below w.heap.size w w' := by
  have hlen : (digL b x).length ≤ 20 := digL_length b 19 (by omega) x (Nat.lt_of_lt_of_le hx (Nat.le_trans (by decide : top64 ≤ 10 ^ 20) (Nat.pow_le_pow_left hb 20)))
  have HL := hide hlen
  have HX := hide hx
  clear hlen hx
  go_enter Tryz.func46, Tryz.ntmps46
  go_wp2
  go_loopw [0, 5] (fun u s wr => ∃ (m : Nat) (st : ByteArray), u = .int .u64 (m : Int) ∧ s = .string st ∧ Hid (m < top64 ∧ digL b x = digL b m ++ st.data.toList) ∧ Below w.heap.size w wr) (fun u _ _ => (RowKit.intOf u).toNat)
  case atStart => exact ⟨x, ⟨#[]⟩, rfl, rfl, ⟨HX.out, by simp⟩, Below.refl _ _⟩
  case round =>
    obtain ⟨m, st, rfl, rfl, hH, hbl⟩ := hrel
    have hsz : st.size ≤ 20 := by
      have h1 := HL.out
      have h2 := Lib.size_eq st
      rw [hH.out.2, List.length_append] at h1
      omega
    by_cases hm : b ≤ m
    · obtain ⟨r, hr⟩ : ∃ r, r = m % b := ⟨_, rfl⟩
      obtain ⟨q, hq⟩ : ∃ q, q = r + 1 := ⟨_, rfl⟩
      have hrl : r < b := by rw [hr]; exact Nat.mod_lt _ (by omega)
      have hmod : (m : Int) % (b : Int) = (r : Int) := by rw [hr]; exact (Int.natCast_emod _ _).symm
      have hqw : IntKind.u64.wrap ((r : Int) + 1) = (q : Int) := by rw [IntKind.wrap_u64]; omega
      have hsl := piece_run r q (by omega) hq
      obtain ⟨d, hd⟩ : ∃ d, d = m / b := ⟨_, rfl⟩
      have hdiv : (m : Int) / (b : Int) = (d : Int) := by rw [hd]; exact (Int.natCast_ediv _ _).symm
      have hdm : d < m := by rw [hd]; exact Nat.div_lt_self (by omega) (by omega)
      have hN := hide (show d < top64 ∧ digL b x = digL b d ++ ((⟨#[dg r]⟩ : ByteArray) ++ st).data.toList from ⟨Nat.lt_trans hdm hH.out.1, by rw [hH.out.2, digL_big (by omega) hm, put_front, hd, hr]; simp⟩)
      have hdw : IntKind.u64.wrap (d : Int) = (d : Int) := by
        have := Nat.lt_trans hdm hH.out.1
        unfold top64 at this; rw [IntKind.wrap_u64]; omega
      clear hr hq hd
      go_wp2
      go_quiet (fail)
      go_wp2
      exact ⟨⟨d, _, rfl, rfl, hN.out, below_drewN hbl _⟩, by simp [RowKit.intOf]; omega⟩
    · obtain ⟨q, hq⟩ : ∃ q, q = m + 1 := ⟨_, rfl⟩
      have hqw : IntKind.u64.wrap ((m : Int) + 1) = (q : Int) := by rw [IntKind.wrap_u64]; omega
      have hsl := piece_run m q (by omega) hq
      have hN := hide (show (⟨#[dg m]⟩ : ByteArray) ++ st = ⟨(digL b x).toArray⟩ from by
        apply ByteArray.ext
        rw [ByteArray.data_append, hH.out.2, digL_small (by omega)]
        simp)
      clear hq
      go_wp2
      go_ret
      exact ⟨by rw [← hN.out]; rfl, hbl⟩
theorem RefDecimal_calls (u : Nat) (hu : u < top64) (w : World) :
    Calls Tryz.prog 31 #[.int .u64 (u : Int)] w fun e w' => e = .returned (.string ⟨(digL 10 u).toArray⟩) ∧ Below w.heap.size w w' := by
  have H := hide (form_calls 10 (by omega) (by omega) u hu w)
  clear hu
  go_enter Tryz.func31, Tryz.ntmps31
  go_wp2_with (go_at_call 46; refine H.out.mono ?_; rintro e w' ⟨rfl, hb⟩)
  go_ret
  exact ⟨rfl, hb⟩
theorem RefHex_calls (u : Nat) (hu : u < top64) (w : World) :
    Calls Tryz.prog 30 #[.int .u64 (u : Int)] w fun e w' => e = .returned (.string ⟨(hexL u).toArray⟩) ∧ Below w.heap.size w w' := by
  have H := hide (form_calls 16 (by omega) (by omega) u hu w)
  have hl : (digL 16 u).length ≤ 16 := digL_length 16 15 (by omega) u (by unfold top64 at hu; omega)
  clear hu
  go_enter Tryz.func30, Tryz.ntmps30
  go_wp2_with (go_at_call 46; refine H.out.mono ?_; rintro e w' ⟨rfl, hb⟩)
  go_ret
  exact ⟨by rw [hex_cat]; rfl, hb⟩
theorem digit_calls (c : UInt8) (w : World) :
    Calls Tryz.prog 29 #[.int .u8 (c.toNat : Int)] w fun e w' => e = .returned (.int .u64 (rdig c : Int)) ∧ w' = w := by
  have h256 := UInt8.toNat_lt c
  by_cases h1 : 48 ≤ c.toNat ∧ c.toNat ≤ 57
  · have hv : Hid ((rdig c : Int) = (c.toNat : Int) - 48) := by show _ = _; unfold rdig; rw [if_pos h1]; omega
    obtain ⟨h2, h3⟩ := h1
    go_enter Tryz.func29, Tryz.ntmps29
    go_wp2
    go_ret
    exact ⟨by rw [hv.out]; rfl, rfl⟩
  · by_cases h2 : 97 ≤ c.toNat ∧ c.toNat ≤ 102
    · have hv : Hid ((rdig c : Int) = (c.toNat : Int) - 97 + 10) := by show _ = _; unfold rdig; rw [if_neg h1, if_pos h2]; omega
      obtain ⟨h3, h4⟩ := h2
      have h5 : 57 < c.toNat := by omega
      clear h1
      go_enter Tryz.func29, Tryz.ntmps29
      go_wp2
      all_goals first | (exfalso; omega) | (go_ret; exact ⟨by rw [hv.out]; rfl, rfl⟩)
    · have hv : Hid ((rdig c : Int) = 99) := by show _ = _; unfold rdig; rw [if_neg h1, if_neg h2]; rfl
      by_cases a1 : 48 ≤ c.toNat <;> by_cases a2 : 97 ≤ c.toNat
      all_goals
        have a3 : c.toNat < 48 ∨ 57 < c.toNat := by omega
        have a4 : c.toNat < 97 ∨ 102 < c.toNat := by omega
        clear h1 h2
        go_enter Tryz.func29, Tryz.ntmps29
        go_wp2
        all_goals first | (exfalso; omega) | (go_ret; exact ⟨by rw [hv.out]; rfl, rfl⟩)
end Go.Proofs.YtjkglbgenbnjoaaGreatDoor
