/- slices.Equal at windows and at numbers of 16 bits, of one list; slices.Reverse at windows. -/
import Derived.Test.YtmphookgaopdlaaGreatWvSort
import Derived.Laws.StructEq
namespace Go.Proofs.YtmphookgaopdlaaGreat
open Go.RowKit Go.Sort Go.Shelf
set_option linter.unusedVariables false

theorem win_neq : NeqAt Tryz.prog 38 (fun x : WinR => .agg (winL x).toArray) (fun x y => decide (x = y)) := by
  refine ⟨fun x y w => ?_, GuardAt.agg _ (by kernel_rfl)⟩
  have hf : Tryz.prog.underlying 38 = some (.struct (Tryz.prog.fieldsOf 38)) := by kernel_rfl
  have hp : Tryz.prog.stoodInHeld 38 = false := by kernel_rfl
  obtain ⟨a1, a2, a3⟩ := x
  obtain ⟨b1, b2, b3⟩ := y
  simp only [winL]
  rw [run_neq_struct, run_equalIn_agg w 9999 _ _ _ hf hp]
  unfold Program.fieldsOf
  rw [Tryz.underlying38]
  simp [Op.eqFields, part, run_equalIn_int]
  by_cases h1 : a1 = b1 <;> by_cases h2 : a2 = b2 <;> by_cases h3 : a3 = b3 <;> simp [h1, h2, h3] <;> omega
theorem allEq_self {α : Type} [DecidableEq α] : ∀ (l : List α), Lib.allEq (fun x y => decide (x = y)) l l = true
  | [] => rfl
  | x :: l => by simp only [Lib.allEq]; rw [allEq_self l]; simp
set_option maxHeartbeats 1000000 in
theorem EqW_none (A1 A2 : Option Addr) (c1 c2 : Nat) (w : World) : Calls Tryz.prog 25 #[.slice A1 0 c1, .slice A2 0 c2] w fun e w' => e = .returned (.bool true) ∧ Below w.heap.size w w' := by
  go_enter Tryz.func25, Tryz.ntmps25
  go_wp2_with fail
  go_rounds 2
  go_wp2
  go_ret
  exact ⟨rfl, Below.refl _ _⟩
theorem EqW_calls (l : List WinR) (B1 B2 c1 c2 : Nat) (A1 A2 : Option Addr) (w : World) (h1 : w.ownsRow B1 38 3 (.slice A1 l.length c1) l.length (l.flatMap winL)) (h2 : w.ownsRow B2 38 3 (.slice A2 l.length c2) l.length (l.flatMap winL)) (hl : l.length ≤ 1000000000) :
    Calls Tryz.prog 25 #[.slice A1 l.length c1, .slice A2 l.length c2] w fun e w' => e = .returned (.bool true) ∧ Below w.heap.size w w' := by
  by_cases h0 : l.length = 0
  · rw [h0]; exact EqW_none A1 A2 c1 c2 w
  · obtain ⟨g, rfl, _, _, _, _⟩ := own_cells winL_len h1 rfl 0 (by omega)
    obtain ⟨g2, rfl, _, _, _, _⟩ := own_cells winL_len h2 rfl 0 (by omega)
    have hc : ∀ {B c g : Nat}, w.ownsRow B 38 3 (.slice (some ⟨g, 0, none⟩) l.length c) l.length (l.flatMap winL) → ∀ j, j < l.length → ∀ i v, (winL l[j]!)[i]? = some v → w.cell? ⟨g, 0 + j * 3 + i, none⟩ = some v := by
      intro B c g h j hj i v hv
      obtain ⟨g', e, _, _, _, hcell⟩ := own_cells winL_len h rfl j hj
      injection e with e
      injection e with e
      subst e
      rw [getElem!_pos l j hj] at hv
      have hi : i < 3 := by have := (List.getElem?_eq_some_iff.1 hv).1; rwa [winL_len] at this
      rw [Nat.zero_add, hcell i hi, hv]
    have hS := AnyQ.slices_Equal Tryz.eqW 3 Tryz.isAgg38 Tryz.sizeOf38 winL winL_len (fun x y => decide (x = y)) win_neq g 0 l.length c1 g2 0 l.length c2 l l w (Nat.le_refl _) (Nat.le_refl _) (by omega) (by omega) (hc h1) (hc h2)
    change Calls Tryz.prog 25 _ _ _ at hS
    refine hS.mono ?_
    rintro e w' ⟨rfl, q, rfl⟩
    rw [allEq_self]
    exact ⟨rfl, below_drewN (Below.refl _ _) q⟩
end Go.Proofs.YtmphookgaopdlaaGreat
