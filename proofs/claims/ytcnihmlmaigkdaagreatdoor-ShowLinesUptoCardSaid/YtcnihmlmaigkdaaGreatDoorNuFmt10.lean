/- The walk of FormatUint at base 10, and of num.Decimal (chapter 01), after the shelf's walk of FormatInt. -/
import Derived.Test.YtcnihmlmaigkdaaGreatDoorMNuSpec
import Derived.Test.YtcnihmlmaigkdaaGreatDoorMMem
import Derived.Test.YtcnihmlmaigkdaaGreatDoorChecked
import Derived.Test.YtcnihmlmaigkdaaGreatDoorShelf
import Derived.Lib.Walk
import Derived.Lib.ItoaWalk
import Derived.Lib.ItoaMem
import Derived.Lib.AppendIntMem
import Derived.Lib.Hide
import Derived.WalkKit
import Derived.BigCall
import Derived.BigGuard
import Derived.CellFam
namespace Go.Proofs.YtcnihmlmaigkdaaGreatDoor
open Go.RowKit Go.Lib Go.Sort

def Tab10 (w : World) : Prop := Lib.TabIs Tryz.prog w "internal/strconv.uint64pow10" .u64 Lib.pow10Tab

set_option maxHeartbeats 6400000 in
set_option maxRecDepth 100000 in
theorem ifmt10 (u : Nat) (hu64 : u < 18446744073709551616) (w : World) (htab : Tab10 w) :
    Calls Tryz.prog 117 #[.int .u64 (u : Int), .int .i64 10] w fun e w' => e = .returned (.string ⟨(digL 10 u).toArray⟩) ∧ Below w.heap.size w w' := by
  rw [← dec_digL]
  by_cases hs : u < 100
  · have hsm := fun W => Tryz.internal_strconv_small u hs W
    have H := Lib.hid hsm
    clear hsm
    go_enter Tryz.func117, Tryz.ntmps117
    go_wp2_with (go_at_call 177; refine (H.out _).mono ?_; rintro e w' ⟨rfl, rfl⟩)
    go_ret
    exact ⟨rfl, Below.refl _ _⟩
  · have hu1 : 1 ≤ u := by omega
    have hnd20 : Lib.nDigits u ≤ 20 := by have := Lib.numDigits_eq u hu1 hu64; split at this <;> omega
    have hal : Tryz.prog.arrayLen 259 = 24 := by simp [Program.arrayLen, Tryz.underlying259]
    have hsl : ∀ W, (Instr.sliceAt 259 (.pointer (some ⟨w.heap.size, 0, none⟩)) none (some (.int .i64 (Lib.nDigits u : Int))) none).run Tryz.prog W = .ok (.slice (some ⟨w.heap.size, 0, none⟩) (Lib.nDigits u) 24) W := fun W => by
      rw [run_sliceAt_array_h W 259 ⟨w.heap.size, 0, none⟩ (by simp [Program.arrayLen, Program.elem, Tryz.underlying259]) .i64 (Lib.nDigits u : Int) (by omega) (by rw [hal]; omega)]
      go_simp
    have hH0 := Lib.holds_zero0 w 259 (Lib.nDigits u) (by omega)
    have hfmt := Tryz.internal_strconv_formatBase10 w.heap.size 0 24 u (Array.replicate (Lib.nDigits u) 0) (w.alloc (.cells Lib.zeros24 259)) hH0 (by rw [Array.size_replicate]; exact Lib.lt_pow_nDigits u) hu64 (by rw [Array.size_replicate]; omega)
    rw [Array.size_replicate] at hfmt
    have HH0 := Lib.hid hH0
    have iu : (100 : Int) ≤ (u : Int) := by omega
    have htab2 : Lib.TabIs Tryz.prog w "internal/strconv.uint64pow10" .u64 Lib.pow10Tab := htab
    clear hH0 hal htab
    go_enter Tryz.func117, Tryz.ntmps117
    go_wp2_with (first
      | (go_at_call 178; refine (Tryz.internal_strconv_numDigits u hu1 hu64 _ (Lib.tabIs_alloc htab2 _)).mono ?_; rintro e w' ⟨rfl, rfl⟩))
    go_at_call 179
    refine hfmt.mono ?_
    rintro e w' ⟨rfl, k, v', dk, rfl, hF⟩
    have hcv : (convert 97 9 (.slice (some ⟨w.heap.size, 0, none⟩) (Lib.nDigits u) 24)).run Tryz.prog ((putRow (fun (b : UInt8) => Value.int .u8 (b.toNat : Int)) (w.alloc (.cells Lib.zeros24 259)) w.heap.size 0 dk).drewN k) = .ok (.string ⟨(Lib.decDigits u).toArray⟩) ((putRow (fun (b : UInt8) => Value.int .u8 (b.toNat : Int)) (w.alloc (.cells Lib.zeros24 259)) w.heap.size 0 dk).drewN k) := by
      have h := run_convert_bytes_back (P := Tryz.prog) ((putRow (fun (b : UInt8) => Value.int .u8 (b.toNat : Int)) (w.alloc (.cells Lib.zeros24 259)) w.heap.size 0 dk).drewN k) 97 9 5 ⟨w.heap.size, 0, none⟩ 24 (Lib.decDigits u) Tryz.underlying97 Tryz.underlying5 Tryz.underlying9 (fun j hj => by
        rw [Lib.row_is_numeral hF j hj, Lib.add_plain, World.cell?_drewN]
        exact cell?_putRow (fun (b : UInt8) => Value.int .u8 (b.toNat : Int)) _ w.heap.size 0 _ dk HH0.out (by rw [hF.size, Array.size_replicate]) j (by rw [hF.size]; rw [Lib.decDigits_length] at hj; exact hj))
      rw [Lib.decDigits_length] at h
      exact h
    obtain ⟨os, eo⟩ := Lib.fin_at w (.cells Lib.zeros24 259) dk k 0
    have EO := Lib.hid eo
    clear eo
    go_wp2
    go_ret
    refine ⟨rfl, ?_⟩
    rw [EO.out]
    exact Lib.below_grow w.heap.size w (Nat.le_refl _) k os
theorem fmt10 (u : Nat) (hu : u < top64) (w : World) (htab : Tab10 w) :
    Calls Tryz.prog 53 #[.int .u64 (u : Int), .int .i64 10] w fun e w' => e = .returned (.string ⟨(digL 10 u).toArray⟩) ∧ Below w.heap.size w w' := by
  have H := Lib.hid (ifmt10 u hu w htab)
  clear hu htab
  go_enter Tryz.func53, Tryz.ntmps53
  go_wp2_with (go_at_call 117; refine H.out.mono ?_; rintro e w' ⟨rfl, hb⟩)
  go_ret
  exact ⟨rfl, hb⟩
theorem Decimal_calls (u : Nat) (hu : u < top64) (w : World) (htab : Tab10 w) :
    Calls Tryz.prog 27 #[.int .u64 (u : Int)] w fun e w' => e = .returned (.string ⟨(digL 10 u).toArray⟩) ∧ Below w.heap.size w w' := by
  have H := Lib.hid (fmt10 u hu w htab)
  clear hu htab
  go_enter Tryz.func27, Tryz.ntmps27
  go_wp2_with (go_at_call 53; refine H.out.mono ?_; rintro e w' ⟨rfl, hb⟩)
  go_ret
  exact ⟨rfl, hb⟩
end Go.Proofs.YtcnihmlmaigkdaaGreatDoor
