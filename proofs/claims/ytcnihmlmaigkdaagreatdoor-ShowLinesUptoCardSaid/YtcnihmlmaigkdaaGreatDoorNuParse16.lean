/- The walk of the library's ParseUint at base 16 (chapter 01), after the shelf's walk at base 10. -/
import Derived.Test.YtcnihmlmaigkdaaGreatDoorMNuSpec
import Derived.Test.YtcnihmlmaigkdaaGreatDoorMMem
import Derived.Test.YtcnihmlmaigkdaaGreatDoorChecked
import Derived.Test.YtcnihmlmaigkdaaGreatDoorShelf
import Derived.Lib.Walk
import Derived.Lib.ConvBytes
import Derived.Lib.AtoiAllMem
import Derived.Lib.Hide
import Derived.Laws.Strings3
import Derived.Laws.Closers25
import Derived.Laws.Closers25b
import Derived.WalkKit
import Derived.BigCall
import Derived.BigGuard
namespace Go.Proofs.YtcnihmlmaigkdaaGreatDoor
open Go.RowKit Go.Lib

def pU16 (acc : Nat) : List UInt8 → NumEnd Nat
  | [] => .ok acc
  | c :: r => if hexd c < 16 then (if 1152921504606846976 ≤ acc then .range else pU16 (acc * 16 + hexd c) r) else .syntax
theorem pU16_scan : ∀ (l : List UInt8) (acc : Nat), scan16 acc l = (match pU16 acc l with | .ok n => some n | _ => none) := by
  intro l
  induction l with
  | nil => intro acc; rfl
  | cons c r ih =>
    intro acc
    simp only [scan16, pU16]
    split
    · split
      · rfl
      · exact ih _
    · rfl
theorem low_bits : ∀ c : UInt8, bits .or .u8 (c.toNat : Int) 32 = (low c : Int) := by
  have h : ∀ k : Fin 256, bits .or .u8 (((UInt8.ofNat k.val).toNat : Nat) : Int) 32 = (low (UInt8.ofNat k.val) : Int) := by decide +kernel
  intro c
  have h2 := h ⟨c.toNat, UInt8.toNat_lt c⟩
  rwa [show UInt8.ofNat (⟨c.toNat, UInt8.toNat_lt c⟩ : Fin 256).val = c from UInt8.ofNat_toNat] at h2

set_option maxHeartbeats 32000000 in
set_option maxRecDepth 100000 in
theorem parse16 (t : ByteArray) (hne : t.size ≠ 0) (hmax : t.size ≤ 9223372036854775806) (w : World) :
    Calls Tryz.prog 355 #[.string t, .int .i64 16, .int .i64 64] w fun e w' => e = .returned (Lib.uintTuple 447 (pU16 0 t.data.toList)) ∧ w' = Lib.bytesWorld w 5 t := by
  have hemp : t.toList.isEmpty = false := by
    rw [← decide_eq_emptyBytes]
    exact decide_eq_false (fun h => hne (by rw [h]; rfl))
  have hcv := Lib.run_convert_string_bytes (P := Tryz.prog) w 9 97 5 t (u := .string) Tryz.underlying9 Tryz.underlying97 Tryz.underlying5
  have hB : ∀ j, j < t.size → (Lib.bytesWorld w 5 t).cell? ⟨w.heap.size, j, none⟩ = some (.int .u8 (t.data.toList.getD j 0).toNat) := fun j hj => Lib.bytesWorld_cell w 5 t j hj
  obtain ⟨W1, hW1⟩ : ∃ W1, W1 = Lib.bytesWorld w 5 t := ⟨_, rfl⟩
  rw [← hW1] at hcv hB ⊢
  clear hW1
  obtain ⟨bs, hL⟩ : ∃ bs, bs = t.data.toList := ⟨_, rfl⟩
  have hLn : bs.length = t.size := by rw [hL, Lib.size_eq]
  rw [← hL] at hB ⊢
  clear hL
  have hmv : IntKind.u64.wrap (IntKind.u64.wrap 18446744073709551616 - 1) = 18446744073709551615 := by
    rw [IntKind.wrap_u64, IntKind.wrap_u64]
    decide
  go_enter Tryz.func355, Tryz.ntmps355
  go_wp2
  go_loop [12, 13, 101] (fun vu vn vi => ∃ (k acc : Nat) (a : Int), vu = .bool false ∧ vn = .int .u64 a ∧ vi = .int .i64 k ∧ k ≤ t.size ∧ Hid (a = (acc : Int) ∧ acc < 18446744073709551616 ∧ pU16 0 bs = pU16 acc (bs.drop k)))
    (fun _ _ vi => t.size - (RowKit.intOf vi).toNat)
  case atStart => exact ⟨0, 0, 0, rfl, rfl, rfl, by omega, rfl, by omega, rfl⟩
  case round =>
    obtain ⟨k, acc, a, rfl, rfl, rfl, hk, hh⟩ := hrel
    obtain ⟨ha, hacc, hdec⟩ := hh.out
    clear hh
    have a0 : 0 ≤ a := by omega
    have a1 : a < 18446744073709551616 := by omega
    by_cases hkn : k < t.size
    · have hc := hB k hkn
      have hdrop : bs.drop k = bs[k]'(by omega) :: bs.drop (k + 1) := List.drop_eq_getElem_cons (by omega)
      have hget : bs.getD k 0 = bs[k]'(by omega) := by simp [List.getD, List.getElem?_eq_getElem (show k < bs.length by omega)]
      rw [hdrop] at hdec
      rw [hget] at hc
      generalize bs[k]'(by omega) = c at hc hdec
      have hc256 : c.toNat < 256 := c.toNat_lt
      have hlow := low_bits c
      have hlow2 : low c < 256 := UInt8.toNat_lt _
      obtain ⟨v, hv⟩ : ∃ v : Int, v = bits .or .u8 (c.toNat : Int) 32 := ⟨_, rfl⟩
      have hlw := fun W => Tryz.internal_strconv_lower (c.toNat : Int) W
      rw [← hv] at hlw
      have hvl : v = (low c : Int) := by rw [hv]; exact hlow
      have hv0 : 0 ≤ v := by omega
      have hv1 : v < 256 := by omega
      have HLW := Lib.hid hlw
      clear hB hdrop hget hlow hv hlw
      by_cases hdig : 48 ≤ c.toNat ∧ c.toNat ≤ 57
      · have hx : hexd c = c.toNat - 48 := by unfold hexd; rw [if_pos hdig]
        have hx16 : hexd c < 16 := by omega
        obtain ⟨hd0, hd1⟩ := hdig
        by_cases hcut : 1152921504606846976 ≤ acc
        · have hF : pU16 acc (c :: bs.drop (k + 1)) = .range := by simp only [pU16]; rw [if_pos hx16, if_pos hcut]
          rw [hF] at hdec
          have icut : 1152921504606846976 ≤ a := by omega
          clear hcut hacc hF ha hx hx16 hvl hlow2
          go_wp2
          go_ret2
          exact ⟨rfl, rfl⟩
        · have hF : pU16 acc (c :: bs.drop (k + 1)) = pU16 (acc * 16 + hexd c) (bs.drop (k + 1)) := by simp only [pU16]; rw [if_pos hx16, if_neg hcut]
          have HN : Hid (a * 16 + ((c.toNat : Int) - 48) = ((acc * 16 + hexd c : Nat) : Int) ∧ acc * 16 + hexd c < 18446744073709551616 ∧ pU16 0 bs = pU16 (acc * 16 + hexd c) (bs.drop (k + 1))) := Lib.hid ⟨by omega, by omega, hdec.trans hF⟩
          have icut : a < 1152921504606846976 := by omega
          clear hcut hacc hF hdec ha hvl hlow2 hx hx16
          go_wp2
          refine ⟨⟨k + 1, acc * 16 + hexd c, a * 16 + ((c.toNat : Int) - 48), rfl, (by first | rfl | (congr 1; omega)), (by first | rfl | (congr 1; omega)), by omega, HN⟩, by simp [RowKit.intOf]; omega⟩
      · by_cases hlet : 97 ≤ low c ∧ low c ≤ 102
        · have hx : hexd c = low c - 87 := by unfold hexd; rw [if_neg hdig, if_pos (by omega)]
          have hx16 : hexd c < 16 := by omega
          obtain ⟨hd0, hd1⟩ := hlet
          have w0 : 97 ≤ v := by omega
          have w1 : v ≤ 102 := by omega
          have h95 : ((c.toNat : Int) == 95) = false := by
            have : c.toNat ≠ 95 := fun e => by
              have e2 : c = 95 := by apply UInt8.toNat_inj.1; rw [e]; rfl
              rw [e2] at hd1; exact absurd hd1 (by decide)
            simp; omega
          by_cases hcut : 1152921504606846976 ≤ acc
          · have hF : pU16 acc (c :: bs.drop (k + 1)) = .range := by simp only [pU16]; rw [if_pos hx16, if_pos hcut]
            rw [hF] at hdec
            have icut : 1152921504606846976 ≤ a := by omega
            clear hcut hacc hF ha hx hx16 hvl hlow2 hd0 hd1
            go_wp2_with (go_at_call 374; refine (HLW.out _).mono ?_; rintro e w' ⟨rfl, rfl⟩)
            all_goals (go_ret2; first | exact ⟨rfl, rfl⟩ | exact ⟨by rw [hdec]; rfl, rfl⟩)
          · have hF : pU16 acc (c :: bs.drop (k + 1)) = pU16 (acc * 16 + hexd c) (bs.drop (k + 1)) := by simp only [pU16]; rw [if_pos hx16, if_neg hcut]
            have HN : Hid (a * 16 + (v - 97 + 10) = ((acc * 16 + hexd c : Nat) : Int) ∧ acc * 16 + hexd c < 18446744073709551616 ∧ pU16 0 bs = pU16 (acc * 16 + hexd c) (bs.drop (k + 1))) := Lib.hid ⟨by omega, by omega, hdec.trans hF⟩
            have icut : a < 1152921504606846976 := by omega
            clear hcut hacc hF hdec ha hvl hlow2 hx hx16 hd0 hd1
            go_wp2_with (go_at_call 374; refine (HLW.out _).mono ?_; rintro e w' ⟨rfl, rfl⟩)
            all_goals (refine ⟨⟨k + 1, acc * 16 + hexd c, a * 16 + (v - 97 + 10), rfl, (by first | rfl | (congr 1; omega)), (by first | rfl | (congr 1; omega)), by omega, HN⟩, by simp [RowKit.intOf]; omega⟩)
        · have hx : ¬ hexd c < 16 := by
            unfold hexd; rw [if_neg hdig]
            split <;> omega
          have hF : pU16 acc (c :: bs.drop (k + 1)) = .syntax := by simp only [pU16]; rw [if_neg hx]
          rw [hF] at hdec
          have hvn : ¬ (97 ≤ v ∧ v ≤ 102) := by omega
          clear hacc hF ha hx hvl hlow2 hlet
          by_cases hc95 : c.toNat = 95
          · have hl95 : ∀ W, Calls Tryz.prog 374 #[.int .u8 95] W fun e w' => e = .returned (.int .u8 127) ∧ w' = W := fun W => by
              have h := Tryz.internal_strconv_lower 95 W
              have e : bits .or .u8 95 32 = 127 := by decide +kernel
              rwa [e] at h
            have H95 := Lib.hid hl95
            have hcc : (c.toNat : Int) = 95 := by omega
            rw [hcc] at hc
            clear hl95 HLW hc95 hcc hdig hc256
            go_wp2_with (go_at_call 374; refine (H95.out _).mono ?_; rintro e w' ⟨rfl, rfl⟩)
            all_goals (go_ret2; first | exact ⟨rfl, rfl⟩ | exact ⟨by rw [hdec]; rfl, rfl⟩)
          have h95 : ((c.toNat : Int) == 95) = false := by simp; omega
          clear hc95
          by_cases hv3 : 97 ≤ v
          · have hv4 : 102 < v := by omega
            clear hvn
            by_cases hv5 : v ≤ 122
            all_goals
              go_wp2_with (go_at_call 374; refine (HLW.out _).mono ?_; rintro e w' ⟨rfl, rfl⟩)
              all_goals (go_ret2; first | exact ⟨rfl, rfl⟩ | exact ⟨by rw [hdec]; rfl, rfl⟩)
          · clear hvn
            go_wp2_with (go_at_call 374; refine (HLW.out _).mono ?_; rintro e w' ⟨rfl, rfl⟩)
            all_goals (go_ret2; first | exact ⟨rfl, rfl⟩ | exact ⟨by rw [hdec]; rfl, rfl⟩)
    · have hkk : k = t.size := by omega
      subst hkk
      have hF : pU16 acc (bs.drop t.size) = .ok acc := by rw [List.drop_eq_nil_of_le (by omega)]; rfl
      rw [hF] at hdec
      subst ha
      clear hacc hF a0 a1
      go_wp2
      go_ret2
      exact ⟨rfl, rfl⟩
end Go.Proofs.YtcnihmlmaigkdaaGreatDoor
