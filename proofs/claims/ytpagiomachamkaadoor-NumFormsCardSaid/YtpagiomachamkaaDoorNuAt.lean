/- The laws of chapter 01 at the numbers as an argument holds them. -/
import Derived.Test.YtpagiomachamkaaDoorNuLaws1
import Derived.OpenShut
namespace Go.Proofs.YtpagiomachamkaaDoor
open Go.RowKit Go.Lib

theorem of_wf64 {a : Int} (h : (Lit.int .u64 a).wf = true) : ∃ x : Nat, a = (x : Int) ∧ x < top64 := by
  have hr := bounds_u64 h
  exact ⟨a.toNat, by omega, by unfold top64; omega⟩
theorem NumAligns_at (a b : Int) (ha : (Lit.int .u64 a).wf = true) (hb : (Lit.int .u64 b).wf = true) (w : World) (hv : Vars w) :
    Calls Tryd.prog 6 #[.int .u64 a, .int .u64 b] w fun e w' => e = .returned (.bool true) ∧ Below w.heap.size w w' := by
  obtain ⟨x, rfl, hx⟩ := of_wf64 ha
  obtain ⟨y, rfl, hy⟩ := of_wf64 hb
  exact NumAligns_calls x y hx hy w hv
theorem NumDivides_at (a b : Int) (ha : (Lit.int .u64 a).wf = true) (hb : (Lit.int .u64 b).wf = true) (w : World) (hv : Vars w) :
    Calls Tryd.prog 8 #[.int .u64 a, .int .u64 b] w fun e w' => e = .returned (.bool true) ∧ Below w.heap.size w w' := by
  obtain ⟨x, rfl, hx⟩ := of_wf64 ha
  obtain ⟨y, rfl, hy⟩ := of_wf64 hb
  exact NumDivides_calls x y hx hy w hv
theorem NumForms_at (a : Int) (s : ByteArray) (ha : (Lit.int .u64 a).wf = true) (w : World) (hv : Vars w) :
    Calls Tryd.prog 4 #[.int .u64 a, .string s] w fun e w' => e = .returned (.bool true) ∧ Below w.heap.size w w' := by
  obtain ⟨x, rfl, hx⟩ := of_wf64 ha
  exact NumForms_calls x s hx w hv
end Go.Proofs.YtpagiomachamkaaDoor
