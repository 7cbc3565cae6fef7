/- The laws of chapter 01 at the numbers as an argument holds them. -/
import Derived.Test.YtpagiomachamkaaDoorNuLaws1
import Derived.Test.YtpagiomachamkaaDoorNuLaws2
import Derived.Test.YtpagiomachamkaaDoorNuLaws3
import Derived.OpenShut
namespace Go.Proofs.YtpagiomachamkaaDoor
open Go.RowKit Go.Lib

theorem of_wf64 {a : Int} (h : (Lit.int .u64 a).wf = true) : ∃ x : Nat, a = (x : Int) ∧ x < top64 := by
  have hr := bounds_u64 h
  exact ⟨a.toNat, by omega, by unfold top64; omega⟩
theorem NumAligns_at (a b : Int) (ha : (Lit.int .u64 a).wf = true) (hb : (Lit.int .u64 b).wf = true) (w : World) (hv : Vars w) :
    Calls Tryd.prog 6 #[.int .u64 a, .int .u64 b] w fun e w' => e = .returned (.bool true) ∧ Below w.heap.size w w' := by
  obtain ⟨x, rfl, hx⟩ := of_wf64 ha
  obtain ⟨y, rfl, hy⟩ := of_wf64 hb
  exact NumAligns_calls x y hx hy w hv
theorem NumDivides_at (a b : Int) (ha : (Lit.int .u64 a).wf = true) (hb : (Lit.int .u64 b).wf = true) (w : World) (hv : Vars w) :
    Calls Tryd.prog 8 #[.int .u64 a, .int .u64 b] w fun e w' => e = .returned (.bool true) ∧ Below w.heap.size w w' := by
  obtain ⟨x, rfl, hx⟩ := of_wf64 ha
  obtain ⟨y, rfl, hy⟩ := of_wf64 hb
  exact NumDivides_calls x y hx hy w hv
theorem NumForms_at (a : Int) (s : ByteArray) (ha : (Lit.int .u64 a).wf = true) (w : World) (hv : Vars w) :
    Calls Tryd.prog 4 #[.int .u64 a, .string s] w fun e w' => e = .returned (.bool true) ∧ Below w.heap.size w w' := by
  obtain ⟨x, rfl, hx⟩ := of_wf64 ha
  exact NumForms_calls x s hx w hv
theorem of_list64 : ∀ (zs : List Int), (∀ z ∈ zs, (Lit.int .u64 z).wf = true) → ∃ l : List Nat, (zs.map fun z => Value.int .u64 z) = l.map U64 ∧ l.length = zs.length ∧ ∀ x ∈ l, x < top64 := by
  intro zs
  induction zs with
  | nil => intro _; exact ⟨[], rfl, rfl, by simp⟩
  | cons z zs ih =>
    intro h
    obtain ⟨l, h1, h2, h3⟩ := ih (fun y hy => h y (by simp [hy]))
    obtain ⟨x, rfl, hx⟩ := of_wf64 (h z (by simp))
    refine ⟨x :: l, by simp [h1, U64], by simp [h2], fun y hy => ?_⟩
    rcases List.mem_cons.1 hy with rfl | hy
    · exact hx
    · exact h3 y hy
theorem NumAdds_at (A : Option Addr) (len cap : Nat) (zs : List Int) (k : Int) (hl : zs.length = len) (hlc : len ≤ cap) (hc : cap ≤ 9223372036854775807) (hz : ∀ z ∈ zs, (Lit.int .u64 z).wf = true) (w : World) (hr : Reads w w.heap.size 1 A len (zs.map fun z => .int .u64 z)) (hk : (Lit.int .u8 k).wf = true) (hv : Vars w) :
    Calls Tryd.prog 3 #[.slice A len cap, .int .u8 k] w fun e w' => e = .returned (.bool true) ∧ Below w.heap.size w w' := by
  obtain ⟨l, h1, h2, h3⟩ := of_list64 zs hz
  rw [h1] at hr
  have hb := bounds_u8 hk
  obtain ⟨n, rfl⟩ : ∃ n : Nat, k = n := ⟨k.toNat, by omega⟩
  exact NumAdds_calls A len cap l n (by omega) (by omega) hlc hc h3 w hr hv
theorem NumMultiplies_at (A : Option Addr) (len cap : Nat) (zs : List Int) (hl : zs.length = len) (hlc : len ≤ cap) (hc : cap ≤ 9223372036854775807) (hz : ∀ z ∈ zs, (Lit.int .u64 z).wf = true) (w : World) (hr : Reads w w.heap.size 1 A len (zs.map fun z => .int .u64 z)) (hv : Vars w) :
    Calls Tryd.prog 7 #[.slice A len cap] w fun e w' => e = .returned (.bool true) ∧ Below w.heap.size w w' := by
  obtain ⟨l, h1, h2, h3⟩ := of_list64 zs hz
  rw [h1] at hr
  exact NumMultiplies_calls A len cap l (by omega) (by omega) h3 w hr hv
theorem NumMultiples_at (A : Option Addr) (len cap : Nat) (zs : List Int) (hl : zs.length = len) (hlc : len ≤ cap) (hc : cap ≤ 9223372036854775807) (hz : ∀ z ∈ zs, (Lit.int .u64 z).wf = true) (w : World) (hr : Reads w w.heap.size 1 A len (zs.map fun z => .int .u64 z)) (hv : Vars w) :
    Calls Tryd.prog 5 #[.slice A len cap] w fun e w' => e = .returned (.bool true) ∧ Below w.heap.size w w' := by
  obtain ⟨l, h1, h2, h3⟩ := of_list64 zs hz
  rw [h1] at hr
  exact NumMultiples_calls A len cap l (by omega) (by omega) h3 w hr hv
end Go.Proofs.YtpagiomachamkaaDoor
