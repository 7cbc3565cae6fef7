/- The walk of alive (chapter 06). -/
import Derived.Test.YtjkglbgenbnjoaaGreatDoorLxToks
import Derived.BigGuardPart
namespace Go.Proofs.YtjkglbgenbnjoaaGreatDoor
open Go.RowKit Go.Lib

theorem fault_eql (c i j c2 i2 j2 : Int) (w : World) : (binOp .eql 27 (.agg #[.int .i64 c, .int .i64 i, .int .i64 j]) (.agg #[.int .i64 c2, .int .i64 i2, .int .i64 j2])).run Tryz.prog w = .ok (.bool (c == c2 && (i == i2 && j == j2))) w := by
  have hf : Tryz.prog.underlying 27 = some (.struct (Tryz.prog.fieldsOf 27)) := by kernel_rfl
  have hp : Tryz.prog.stoodInHeld 27 = false := by kernel_rfl
  rw [run_eql_struct, run_equalIn_agg w 9999 _ _ _ hf hp]
  unfold Program.fieldsOf
  rw [Tryz.underlying27]
  simp [Op.eqFields, part, run_equalIn_int]
  by_cases h1 : c = c2 <;> by_cases h2 : i = i2 <;> by_cases h3 : j = j2 <;> simp [h1, h2, h3]
theorem fault_guard2 (x y : Operand) (xs ys : Array Value) (w : World) : (eqGuard .eql 27 x y (.agg xs) (.agg ys)).run Tryz.prog w = .ok () w :=
  run_eqGuard_agg w _ _ _ _ _ _ (by kernel_rfl)
theorem tok_eql (k k2 v v2 i i2 j j2 : Int) (x x2 : ByteArray) (w : World) : (binOp .eql 56 (.agg #[.int .i64 k, .string x, .int .u64 v, .int .i64 i, .int .i64 j]) (.agg #[.int .i64 k2, .string x2, .int .u64 v2, .int .i64 i2, .int .i64 j2])).run Tryz.prog w = .ok (.bool (k == k2 && (x.toList == x2.toList && (v == v2 && (i == i2 && j == j2))))) w := by
  have hf : Tryz.prog.underlying 56 = some (.struct (Tryz.prog.fieldsOf 56)) := by kernel_rfl
  have hp : Tryz.prog.stoodInHeld 56 = false := by kernel_rfl
  rw [run_eql_struct, run_equalIn_agg w 9999 _ _ _ hf hp]
  unfold Program.fieldsOf
  rw [Tryz.underlying56]
  simp [Op.eqFields, part, run_equalIn_int, run_equalIn_string]
  by_cases h1 : k = k2 <;> by_cases h2 : x.toList = x2.toList <;> by_cases h3 : v = v2 <;> by_cases h4 : i = i2 <;> by_cases h5 : j = j2 <;> simp [h1, h2, h3, h4, h5]
theorem tok_guard (x y : Operand) (xs ys : Array Value) (w : World) : (eqGuard .eql 56 x y (.agg xs) (.agg ys)).run Tryz.prog w = .ok () w :=
  run_eqGuard_agg w _ _ _ _ _ _ (by kernel_rfl)
/-- What a row of the call's own is, where it is not empty: its block, its capacity, its cells. -/
theorem own_form5 {w : World} {base size : Nat} {e : TypeId} {v : Value} {n : Nat} {xs : List Value} (h : w.ownsRow base e size v n xs) (hn : 0 < n) :
    ∃ g cap, v = .slice (some ⟨g, 0, none⟩) n cap ∧ base ≤ g ∧ g < w.heap.size ∧ n ≤ cap ∧ cap ≤ maxLen ∧ ∀ j u, xs[j]? = some u → w.cell? ⟨g, j, none⟩ = some u := by
  rcases h.2 with ⟨_, h0⟩ | ⟨g, cap, cur, rfl, hb, hg, h1, h2, h3, h4⟩
  · omega
  · have hb' : Blk w g e cur := hg
    refine ⟨g, cap, rfl, hb, hb'.lt, h1, h2, fun j u hu => ?_⟩
    rw [hb'.cell, ← Array.getElem?_toList]
    rw [← h4, List.getElem?_take] at hu
    split at hu
    · exact hu
    · cases hu
theorem alive_out : outOf ⟨#[102, 114, 97, 109, 101, 32, 48, 120, 49, 48, 59]⟩ =
    .ok [⟨1, [102, 114, 97, 109, 101], 0, 1, 1⟩, ⟨2, [48, 120, 49, 48], 16, 1, 7⟩, ⟨4, [59], 0, 1, 11⟩, ⟨0, [], 0, 1, 12⟩] := by kernel_rfl

set_option maxHeartbeats 2000000 in
theorem alive_calls (w : World) (hv : Vars w) : Calls Tryz.prog 6 #[] w fun e w' => e = .returned (.bool true) ∧ Below w.heap.size w w' := by
  have hT := Tokens_calls ⟨#[102, 114, 97, 109, 101, 32, 48, 120, 49, 48, 59]⟩ w hv
  rw [alive_out] at hT
  have HT : Hid (Calls Tryz.prog 5 #[.string ⟨#[102, 114, 97, 109, 101, 32, 48, 120, 49, 48, 59]⟩] w fun e w' => Below w.heap.size w w' ∧ ∃ v, e = .returned (.tuple #[v, .agg #[.int .i64 0, .int .i64 0, .int .i64 0]]) ∧
      w'.ownsRow w.heap.size 56 5 v 4 (tokCells [⟨1, [102, 114, 97, 109, 101], 0, 1, 1⟩, ⟨2, [48, 120, 49, 48], 16, 1, 7⟩, ⟨4, [59], 0, 1, 11⟩, ⟨0, [], 0, 1, 12⟩])) := hide hT
  have fe := fun W => fault_eql 0 0 0 0 0 0 W
  have fg := fun x y xs ys W => fault_guard2 x y xs ys W
  have te := fun W => tok_eql 2 2 16 16 1 1 7 7 ⟨#[48, 120, 49, 48]⟩ ⟨#[48, 120, 49, 48]⟩ W
  have tg := fun x y xs ys W => tok_guard x y xs ys W
  have nb : ((0 : Int) == 0 && ((0 : Int) == 0 && (0 : Int) == 0)) = true := by rfl
  have nc : ((2 : Int) == 2 && (ByteArray.toList ⟨#[48, 120, 49, 48]⟩ == ByteArray.toList ⟨#[48, 120, 49, 48]⟩ && ((16 : Int) == 16 && ((1 : Int) == 1 && (7 : Int) == 7)))) = true := by simp
  rw [nb] at fe
  rw [nc] at te
  clear hT nb nc
  go_enter Tryz.func6, Tryz.ntmps6
  go_wp2_with (first
    | (go_at_call 5; refine HT.out.mono ?_; rintro e w2 ⟨hb2, v, rfl, hown⟩; obtain ⟨g, cap, rfl, hgb, hgl, hgc, hcm, hcell⟩ := own_form5 hown (by decide); have c5 : w2.cell? ⟨g, 5, none⟩ = some (.int .i64 2) := hcell 5 _ rfl; have c6 : w2.cell? ⟨g, 6, none⟩ = some (.string ⟨#[48, 120, 49, 48]⟩) := hcell 6 _ rfl; have c7 : w2.cell? ⟨g, 7, none⟩ = some (.int .u64 16) := hcell 7 _ rfl; have c8 : w2.cell? ⟨g, 8, none⟩ = some (.int .i64 1) := hcell 8 _ rfl; have c9 : w2.cell? ⟨g, 9, none⟩ = some (.int .i64 7) := hcell 9 _ rfl; have c15 : w2.cell? ⟨g, 15, none⟩ = some (.int .i64 0) := hcell 15 _ rfl; have HB2 := hide hb2; clear hb2 hcell hown))
  go_ret
  exact ⟨rfl, HB2.out.alloc (by omega) _⟩
end Go.Proofs.YtjkglbgenbnjoaaGreatDoor
