/- The walk of same, and of the law LexTokens (chapter 06). -/
import Derived.Test.YtpkchblnbhpiaaaGreatDoorLxAlive
import Derived.Test.YtpkchblnbhpiaaaGreatDoorLxRefToks
namespace Go.Proofs.YtpkchblnbhpiaaaGreatDoor
open Go.RowKit Go.Lib

theorem tokCells_get : ∀ (l : List Token) (i j : Nat) (hi : i < l.length), j < 5 → (tokCells l)[i * 5 + j]? = (tokV l[i])[j]? := by
  intro l
  induction l with
  | nil => intro i j hi; simp at hi
  | cons t l ih =>
    intro i j hi hj
    have e : tokCells (t :: l) = (tokV t).toList ++ tokCells l := rfl
    have hs : (tokV t).toList.length = 5 := rfl
    rw [e]
    cases i with
    | zero =>
      rw [List.getElem?_append_left (by omega), Nat.zero_mul, Nat.zero_add, Array.getElem?_toList]; rfl
    | succ i =>
      rw [List.getElem?_append_right (by omega), hs, show (i + 1) * 5 + j - 5 = i * 5 + j by omega, ih i j (by simpa using hi) hj]; rfl
theorem tok_cell {w : World} {base e n : Nat} {A : Option Addr} {c : Nat} {l : List Token} (h : w.ownsRow base e 5 (.slice A n c) l.length (tokCells l)) (i : Nat) (hi : i < l.length) :
    ∃ g, A = some ⟨g, 0, none⟩ ∧ n ≤ c ∧ g < w.heap.size ∧ ∀ j, j < 5 → w.cell? ⟨g, i * 5 + j, none⟩ = (tokV l[i])[j]? := by
  obtain ⟨g, cap, hv, _, hg, hc, _, hcell⟩ := own_form5 h (by omega)
  injection hv with h1 h2 h3
  refine ⟨g, h1, by omega, hg, fun j hj => ?_⟩
  have h5 := tokCells_get l i j hi hj
  have h6 : (tokV l[i])[j]? = some ((tokV l[i])[j]'(by show j < 5; exact hj)) := Array.getElem?_eq_getElem _
  rw [h6] at h5 ⊢
  exact hcell _ _ h5
theorem toks_len (s : ByteArray) : ∀ (f k : Nat) (l : List Token), toks s f k = .ok l → l.length ≤ f := by
  intro f
  induction f with
  | zero => intro k l h; injection h with h; rw [← h]; exact Nat.le_refl _
  | succ f ih =>
    intro k l h
    rw [toks] at h
    split at h
    · cases h
    · split at h
      · injection h with h; rw [← h]; simp
      · rename_i kind text v stop _ _
        cases hr : toks s f stop with
        | bad a b c => rw [hr] at h; cases h
        | ok r =>
          rw [hr] at h
          injection h with h
          rw [← h, List.length_cons]
          have := ih stop r hr
          omega
theorem outOf_len (s : ByteArray) (l : List Token) (h : outOf s = .ok l) : l.length ≤ 1048577 := by
  unfold outOf at h
  split at h
  · have := toks_len s _ _ l h; omega
  · cases h
theorem rtok_neq (k k2 v v2 i i2 j j2 : Int) (x x2 : ByteArray) (w : World) : (binOp .neq 33 (.agg #[.int .i64 k, .string x, .int .u64 v, .int .i64 i, .int .i64 j]) (.agg #[.int .i64 k2, .string x2, .int .u64 v2, .int .i64 i2, .int .i64 j2])).run Tryz.prog w = .ok (.bool (!(k == k2 && (x.toList == x2.toList && (v == v2 && (i == i2 && j == j2)))))) w := by
  have hf : Tryz.prog.underlying 33 = some (.struct (Tryz.prog.fieldsOf 33)) := by kernel_rfl
  have hp : Tryz.prog.stoodInHeld 33 = false := by kernel_rfl
  rw [run_neq_struct, run_equalIn_agg w 9999 _ _ _ hf hp]
  unfold Program.fieldsOf
  rw [Tryz.underlying33]
  simp [Op.eqFields, part, run_equalIn_int, run_equalIn_string]
  by_cases h1 : k = k2 <;> by_cases h2 : x.toList = x2.toList <;> by_cases h3 : v = v2 <;> by_cases h4 : i = i2 <;> by_cases h5 : j = j2 <;> simp [h1, h2, h3, h4, h5]
theorem rtok_guard (x y : Operand) (xs ys : Array Value) (w : World) : (eqGuard .neq 33 x y (.agg xs) (.agg ys)).run Tryz.prog w = .ok () w :=
  run_eqGuard_agg w _ _ _ _ _ _ (by kernel_rfl)

end Go.Proofs.YtpkchblnbhpiaaaGreatDoor
