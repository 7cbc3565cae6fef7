/- The walk of the reference's Unpad. -/
import Derived.Test.YtjmbpnakifefeaaNmUnpad0
import Derived.StillTactics
namespace Go.Proofs.Ytjmbpnakifefeaa
open Go.RowKit Go.Lib

theorem zeros_of (b : List UInt8) (k : Nat) (hb : b.length = 30) (hk : k ≤ 30) (h : ∀ j, k ≤ j → j < 30 → b[j]? = some 0) : (b.drop k == zeros (30 - k)) = true := by
  rw [beq_iff_eq]
  apply List.ext_getElem?
  intro i
  rw [List.getElem?_drop, zeros, List.getElem?_replicate]
  split
  · exact h (k + i) (by omega) (by omega)
  · rw [List.getElem?_eq_none (by omega)]
theorem zeros_not (b : List UInt8) (k i : Nat) (c : UInt8) (hi : k ≤ i) (hi2 : i < 30) (hc : b[i]? = some c) (h : c ≠ 0) : (b.drop k == zeros (30 - k)) = false := by
  rw [Bool.eq_false_iff]
  intro he
  rw [beq_iff_eq] at he
  have h2 := congrArg (fun l => l[i - k]?) he
  simp only [List.getElem?_drop, zeros, List.getElem?_replicate] at h2
  rw [if_pos (by omega), show k + (i - k) = i from by omega, hc] at h2
  exact h (Option.some.inj h2)

set_option maxRecDepth 100000 in
set_option maxHeartbeats 1000000 in
theorem RefUnpad_calls (b : List UInt8) (hb : b.length = 30) (n : Int) (w : World) :
    Calls Try.prog 17 #[arrV b, .int .i64 n] w fun e w' => e = .returned (unpadV b n) ∧ Below w.heap.size w w' := by
  obtain ⟨br, hbr⟩ : ∃ br, br = (b.map byteV).toArray := ⟨_, rfl⟩
  have hsz : br.size = 30 := by rw [hbr]; simp [hb]
  have hcell : ∀ i, i < 30 → ∃ c : UInt8, b[i]? = some c ∧ br[i]? = some (.int .u8 (c.toNat : Int)) := by
    intro i h
    refine ⟨b[i], by simp, ?_⟩
    rw [hbr]; simp [byteV, hb, h]
  rw [arrV, ← hbr]
  have Hbr := hide hbr
  have Hcell := hide hcell
  clear hcell
  by_cases hr : n < 0 ∨ 30 < n
  · have hV := hide (unpadV_out b n hr)
    clear hbr hb hsz
    rcases hr with hr | hr
    all_goals
      go_enter Try.func17, Try.ntmps17
      go_wp2_with fail
      go_ret2
      exact ⟨by rw [hV.out]; rfl, (Below.refl _ _).alloc (Nat.le_refl _) _⟩
  obtain ⟨k, rfl⟩ := Int.eq_ofNat_of_zero_le (by omega : 0 ≤ n)
  have hk : k ≤ 30 := by omega
  have hkI : (k : Int) ≤ 30 := by omega
  have hk0 : (0 : Int) ≤ (k : Int) := by omega
  have hd1 : decide ((30 : Int) < (k : Int)) = false := by simp; omega
  have hd2 : decide ((k : Int) < 0) = false := by simp
  have hB : Blk (w.alloc (.cells br 32)) w.heap.size 32 br := Blk.new w _ _
  have hstr := str_take (w.alloc (.cells br 32)) w.heap.size b k hk hb (by rw [← hbr]; exact hB)
  have Hb0 := hide hb
  have HB := hide hB
  have Hsz := hide hsz
  obtain ⟨st, hst⟩ : ∃ st, st = (⟨(b.take k).toArray⟩ : ByteArray) := ⟨_, rfl⟩
  have hss : st.size ≤ 9223372036854775807 := by
    rw [hst]; show ((b.take k).toArray).size ≤ _; rw [List.size_toArray, List.length_take]; omega
  rw [← hst] at hstr
  have Hstr := hide hstr
  have Hst := hide hst
  have hvst : validS st = validL (b.take k) := by rw [hst]; rfl
  have Hss := hide hss
  clear hst hbr hsz hB hb hss
  cases hv : validS st
  · have hV := hide (unpadV_no b k (by unfold unpadOk; rw [← hvst, hv]; rfl))
    have Hv := hide hv
    clear hv hvst
    go_enter Try.func17, Try.ntmps17
    go_wp2_with (go_at_call 10; refine (RefValid_calls _ _ Hss.out).mono ?_; rintro e w' ⟨rfl, rfl⟩; rw [Hv.out])
    go_ret2
    exact ⟨by rw [hV.out]; rfl, (Below.refl _ _).alloc (Nat.le_refl _) _⟩
  · have HvL := hide (hvst.symm.trans hv)
    have Hv := hide hv
    clear hv hvst
    go_enter Try.func17, Try.ntmps17
    go_wp2_with (go_at_call 10; refine (RefValid_calls _ _ Hss.out).mono ?_; rintro e w' ⟨rfl, rfl⟩; rw [Hv.out])
    clear hstr
    go_loop [6] (fun i => ∃ j : Nat, k ≤ j ∧ j ≤ 30 ∧ i = .int .i64 j ∧ Hid (∀ x, k ≤ x → x < j → b[x]? = some 0)) (fun i => 30 - (intOf i).toNat)
    case atStart => exact ⟨k, by omega, by omega, rfl, fun x h1 h2 => by omega⟩
    case round =>
      obtain ⟨j, hj, hj2, rfl, hz⟩ := hrel
      by_cases hlt : j < 30
      · obtain ⟨c, hc, hcb⟩ := Hcell.out j hlt
        have hcell := (HB.out.cell j).trans hcb
        by_cases h0 : c = 0
        · have Hc := hide hc
          subst h0
          clear hc hcb
          go_wp2
          go_round
          case rel =>
            refine ⟨j + 1, by omega, by omega, by go_num, fun x h1 h2 => ?_⟩
            by_cases hx : x = j
            · rw [hx]; exact Hc.out
            · exact hz.out x h1 (by omega)
          case measure => simp [intOf]; omega
        · have hV := hide (unpadV_no b k (by unfold unpadOk; rw [HvL.out, zeros_not b k j c hj hlt hc h0]; rfl))
          have hc0 : (((c.toNat : Nat) : Int) != 0) = true := by
            have : c.toNat ≠ 0 := fun h => h0 (by rw [← UInt8.toNat_inj, h]; rfl)
            simp; omega
          clear hc hcb h0
          go_wp2
          go_ret2
          exact ⟨by rw [hV.out]; rfl, (Below.refl _ _).alloc (Nat.le_refl _) _⟩
      · obtain rfl : j = 30 := by omega
        have hV := hide (unpadV_yes b k hk (by unfold unpadOk; rw [HvL.out, zeros_of b k Hb0.out hk (fun x h1 h2 => hz.out x h1 h2)]; rfl))
        have hstr := Hstr.out
        go_wp2
        go_ret2
        exact ⟨by rw [hV.out, ← Hst.out]; rfl, (Below.refl _ _).alloc (Nat.le_refl _) _⟩
end Go.Proofs.Ytjmbpnakifefeaa
