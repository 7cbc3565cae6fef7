/- slices.Equal at windows and at numbers of 16 bits, of one list; slices.Reverse at windows. -/
import Derived.Test.YthccadabblkalaaGreatWvSort
import Derived.Laws.StructEq
namespace Go.Proofs.YthccadabblkalaaGreat
open Go.RowKit Go.Sort Go.Shelf
set_option linter.unusedVariables false

theorem win_neq : NeqAt Tryz.prog 36 (fun x : WinR => .agg (winL x).toArray) (fun x y => decide (x = y)) := by
  refine ⟨fun x y w => ?_, GuardAt.agg _ (by kernel_rfl)⟩
  have hf : Tryz.prog.underlying 36 = some (.struct (Tryz.prog.fieldsOf 36)) := by kernel_rfl
  have hp : Tryz.prog.stoodInHeld 36 = false := by kernel_rfl
  obtain ⟨a1, a2, a3⟩ := x
  obtain ⟨b1, b2, b3⟩ := y
  simp only [winL]
  rw [run_neq_struct, run_equalIn_agg w 9999 _ _ _ hf hp]
  unfold Program.fieldsOf
  rw [Tryz.underlying36]
  simp [Op.eqFields, part, run_equalIn_int]
  by_cases h1 : a1 = b1 <;> by_cases h2 : a2 = b2 <;> by_cases h3 : a3 = b3 <;> simp [h1, h2, h3] <;> omega
theorem allEq_self {α : Type} [DecidableEq α] : ∀ (l : List α), Lib.allEq (fun x y => decide (x = y)) l l = true
  | [] => rfl
  | x :: l => by simp only [Lib.allEq]; rw [allEq_self l]; simp
set_option maxHeartbeats 1000000 in
theorem EqW_none (A1 A2 : Option Addr) (c1 c2 : Nat) (w : World) : Calls Tryz.prog 9 #[.slice A1 0 c1, .slice A2 0 c2] w fun e w' => e = .returned (.bool true) ∧ Below w.heap.size w w' := by
  go_enter Tryz.func9, Tryz.ntmps9
  go_wp2_with fail
  go_rounds 2
  go_wp2
  go_ret
  exact ⟨rfl, Below.refl _ _⟩
theorem EqW_calls (l : List WinR) (B1 B2 c1 c2 : Nat) (A1 A2 : Option Addr) (w : World) (h1 : w.ownsRow B1 36 3 (.slice A1 l.length c1) l.length (l.flatMap winL)) (h2 : w.ownsRow B2 36 3 (.slice A2 l.length c2) l.length (l.flatMap winL)) (hl : l.length ≤ 1000000000) :
    Calls Tryz.prog 9 #[.slice A1 l.length c1, .slice A2 l.length c2] w fun e w' => e = .returned (.bool true) ∧ Below w.heap.size w w' := by
  by_cases h0 : l.length = 0
  · rw [h0]; exact EqW_none A1 A2 c1 c2 w
  · obtain ⟨g, rfl, _, _, _, _⟩ := own_cells winL_len h1 rfl 0 (by omega)
    obtain ⟨g2, rfl, _, _, _, _⟩ := own_cells winL_len h2 rfl 0 (by omega)
    have hc : ∀ {B c g : Nat}, w.ownsRow B 36 3 (.slice (some ⟨g, 0, none⟩) l.length c) l.length (l.flatMap winL) → ∀ j, j < l.length → ∀ i v, (winL l[j]!)[i]? = some v → w.cell? ⟨g, 0 + j * 3 + i, none⟩ = some v := by
      intro B c g h j hj i v hv
      obtain ⟨g', e, _, _, _, hcell⟩ := own_cells winL_len h rfl j hj
      injection e with e
      injection e with e
      subst e
      rw [getElem!_pos l j hj] at hv
      have hi : i < 3 := by have := (List.getElem?_eq_some_iff.1 hv).1; rwa [winL_len] at this
      rw [Nat.zero_add, hcell i hi, hv]
    have hS := AnyQ.slices_Equal Tryz.eqW 3 Tryz.isAgg36 Tryz.sizeOf36 winL winL_len (fun x y => decide (x = y)) win_neq g 0 l.length c1 g2 0 l.length c2 l l w (Nat.le_refl _) (Nat.le_refl _) (by omega) (by omega) (hc h1) (hc h2)
    change Calls Tryz.prog 9 _ _ _ at hS
    refine hS.mono ?_
    rintro e w' ⟨rfl, q, rfl⟩
    rw [allEq_self]
    exact ⟨rfl, below_drewN (Below.refl _ _) q⟩
set_option maxHeartbeats 1000000 in
theorem EqU_none (A1 A2 : Option Addr) (c1 c2 : Nat) (w : World) : Calls Tryz.prog 11 #[.slice A1 0 c1, .slice A2 0 c2] w fun e w' => e = .returned (.bool true) ∧ Below w.heap.size w w' := by
  go_enter Tryz.func11, Tryz.ntmps11
  go_wp2_with fail
  go_rounds 2
  go_wp2
  go_ret
  exact ⟨rfl, Below.refl _ _⟩
theorem EqU_calls (l : List Nat) (B1 B2 c1 c2 : Nat) (A1 A2 : Option Addr) (w : World) (h1 : w.ownsRow B1 34 1 (.slice A1 l.length c1) l.length (l.map destL)) (h2 : w.ownsRow B2 34 1 (.slice A2 l.length c2) l.length (l.map destL)) (hl : l.length ≤ 1000000000) :
    Calls Tryz.prog 11 #[.slice A1 l.length c1, .slice A2 l.length c2] w fun e w' => e = .returned (.bool true) ∧ Below w.heap.size w w' := by
  by_cases h0 : l.length = 0
  · rw [h0]; exact EqU_none A1 A2 c1 c2 w
  · rw [← flat_one] at h1 h2
    have hd : ∀ x : Nat, ((fun n => [destL n]) x).length = 1 := fun _ => rfl
    obtain ⟨g, rfl, _, _, _, _⟩ := own_cells hd h1 rfl 0 (by omega)
    obtain ⟨g2, rfl, _, _, _, _⟩ := own_cells hd h2 rfl 0 (by omega)
    have hc : ∀ {B c g : Nat}, w.ownsRow B 34 1 (.slice (some ⟨g, 0, none⟩) l.length c) l.length (l.flatMap fun n => [destL n]) → ∀ j, j < (l.map fun n : Nat => (n : Int)).length → w.cell? ⟨g, 0 + j, none⟩ = some (.int .u16 (l.map fun n : Nat => (n : Int))[j]!) := by
      intro B c g h j hj
      rw [List.length_map] at hj
      obtain ⟨g', e, _, _, _, hcell⟩ := own_cells hd h rfl j hj
      injection e with e
      injection e with e
      subst e
      have := hcell 0 (by omega)
      rw [Nat.mul_one, Nat.add_zero] at this
      rw [Nat.zero_add, this, getElem!_pos _ j (by simpa using hj), List.getElem_map]
      rfl
    have hll : (l.map fun n : Nat => (n : Int)).length = l.length := List.length_map _
    have hS := AnyE.slices_Equal Tryz.eqU (Value.int .u16) _ (NeqAt.int _ _ _) g 0 l.length c1 g2 0 l.length c2 (l.map fun n : Nat => (n : Int)) (l.map fun n : Nat => (n : Int)) w (Nat.le_of_eq hll.symm) (Nat.le_of_eq hll.symm) (by omega) (by omega) (hc h1) (hc h2)
    change Calls Tryz.prog 11 _ _ _ at hS
    refine hS.mono ?_
    rintro e w' ⟨rfl, q, rfl⟩
    rw [Lib.allEq_all _ _ _ rfl (fun j hj => by simp)]
    exact ⟨rfl, below_drewN (Below.refl _ _) q⟩
theorem RevW_calls (l : List WinR) (B c : Nat) (a : Option Addr) (w : World) (own : w.ownsRow B 36 3 (.slice a l.length c) l.length (l.flatMap winL)) (hl : l.length ≤ 1000000000) :
    Calls Tryz.prog 15 #[.slice a l.length c] w fun e w' => e = .returned (.tuple #[]) ∧ w'.ownsRow B 36 3 (.slice a l.length c) l.length (l.reverse.flatMap winL) ∧ But (fun k => (Value.slice a l.length c).ownBlock = some k) w w' := by
  by_cases h0 : l.length = 0
  · have hl0 : l = [] := List.eq_nil_of_length_eq_zero h0
    subst hl0
    have hS := AnyQ.slices_Reverse_empty Tryz.revW a c w
    change Calls Tryz.prog 15 _ _ _ at hS
    refine hS.mono ?_
    rintro e w' ⟨rfl, rfl⟩
    exact ⟨rfl, own, But.refl _ _⟩
  · obtain ⟨g, rfl, _, _, _, _⟩ := own_cells winL_len own rfl 0 (by omega)
    have hS := AnyQ.slices_Reverse Tryz.revW 3 Tryz.isAgg36 Tryz.sizeOf36 winL winL_len wn_one g 0 c l.toArray w (holdsK_of_own winL_len own rfl) (by rw [List.size_toArray]; omega)
    change Calls Tryz.prog 15 _ _ _ at hS
    rw [List.size_toArray] at hS
    refine hS.mono ?_
    rintro e w' ⟨rfl, m, rfl⟩
    obtain ⟨q1, q2⟩ := own_sorted winL_len own rfl l.reverse (List.length_reverse) m #[]
    have e1 : sortWorldK winL 3 w g 0 m l.reverse.toArray #[] = putRowK winL 3 (Sort.ahead w m) g 0 l.toArray.reverse := by
      unfold sortWorldK
      rw [grow_empty, List.reverse_toArray]
    rw [e1] at q1 q2
    exact ⟨rfl, q1, q2.mono (fun k _ hk => by rw [hk]; rfl)⟩
end Go.Proofs.YthccadabblkalaaGreat
