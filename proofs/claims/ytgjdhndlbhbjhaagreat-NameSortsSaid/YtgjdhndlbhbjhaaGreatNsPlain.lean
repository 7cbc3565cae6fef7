/- What name.Sort hands back, in plain words: strictly ascending, with the same members (chapter 04, NameSorts). -/
import Derived.Test.YtgjdhndlbhbjhaaGreatNsTop
namespace Go.Proofs.YtgjdhndlbhbjhaaGreat
open Go.Lib
set_option linter.unusedVariables false

theorem compUp_mem {α : Type} [Inhabited α] [DecidableEq α] (d : Array α) (x : α) : ∀ m, x ∈ compactUpTo d m ↔ ∃ j, j < m ∧ d[j]! = x := by
  intro m
  induction m with
  | zero => simp [compactUpTo]
  | succ m ih =>
    rw [compactUpTo_succ, List.mem_append, ih]
    constructor
    · rintro (⟨j, hj, rfl⟩ | h)
      · exact ⟨j, by omega, rfl⟩
      · by_cases hk : keeps d m = true
        · rw [if_pos hk, List.mem_singleton] at h
          exact ⟨m, by omega, h.symm⟩
        · rw [if_neg hk] at h; cases h
    · rintro ⟨j, hj, rfl⟩
      by_cases hjm : j < m
      · exact .inl ⟨j, hjm, rfl⟩
      · have : j = m := by omega
        subst this
        by_cases hk : keeps d j = true
        · exact .inr (by rw [if_pos hk]; exact List.mem_singleton.2 rfl)
        · simp [keeps] at hk
          exact .inl ⟨j - 1, by omega, hk.2.symm⟩
theorem compact_mem {α : Type} [Inhabited α] [DecidableEq α] (zs : List α) (x : α) : x ∈ compact zs ↔ x ∈ zs := by
  unfold compact
  rw [compUp_mem]
  constructor
  · rintro ⟨j, hj, rfl⟩
    rw [List.getElem!_toArray, getElem!_pos zs j hj]
    exact List.getElem_mem _
  · intro h
    obtain ⟨j, hj, rfl⟩ := List.getElem_of_mem h
    exact ⟨j, hj, by rw [List.getElem!_toArray, getElem!_pos zs j hj]⟩
theorem sortR_mem (zs : List (List UInt8)) (x : List UInt8) : x ∈ sortR zs ↔ x ∈ zs := by
  unfold sortR
  rw [compact_mem, List.mem_mergeSort]
theorem le_lt {x y : List UInt8} (h : x ≤ y) (hne : x ≠ y) : x < y := Std.lt_of_le_of_ne h hne
theorem compUp_asc (d : Array (List UInt8)) : ∀ m, (∀ j, j + 1 < m → d[j]! ≤ d[j + 1]!) → List.Pairwise (· < ·) (compactUpTo d m) ∧ ∀ x ∈ compactUpTo d m, x ≤ d[m - 1]! := by
  intro m
  induction m with
  | zero => intro _; simp [compactUpTo]
  | succ m ih =>
    intro h
    obtain ⟨h1, h2⟩ := ih (fun j hj => h j (by omega))
    rw [compactUpTo_succ]
    by_cases hm : m = 0
    · subst hm
      simp [compactUpTo, keeps]
    · have hle : d[m - 1]! ≤ d[m]! := by
        have := h (m - 1) (by omega)
        rwa [Nat.sub_add_cancel (by omega)] at this
      by_cases hk : keeps d m = true
      · rw [if_pos hk]
        have hne : d[m - 1]! ≠ d[m]! := by
          simp [keeps, hm] at hk
          exact fun e => hk e.symm
        have hlt := le_lt hle hne
        refine ⟨List.pairwise_append.2 ⟨h1, List.pairwise_singleton _ _, ?_⟩, ?_⟩
        · intro a ha b hb
          rw [List.mem_singleton] at hb
          subst hb
          exact Std.lt_of_le_of_lt (h2 a ha) hlt
        · intro x hx
          rcases List.mem_append.1 hx with hx | hx
          · exact Std.le_trans (h2 x hx) hle
          · rw [List.mem_singleton] at hx
            subst hx
            exact Std.le_refl _
      · rw [if_neg hk, List.append_nil]
        exact ⟨h1, fun x hx => Std.le_trans (h2 x hx) hle⟩
theorem sortR_asc (zs : List (List UInt8)) : List.Pairwise (· < ·) (sortR zs) := by
  unfold sortR compact
  refine (compUp_asc _ _ ?_).1
  intro j hj
  have hp := List.pairwise_mergeSort (le := leS) (fun a b c hab hbc => by unfold leS at *; simp only [decide_eq_true_eq] at *; exact Std.le_trans hab hbc) (fun a b => by unfold leS; simp only [Bool.or_eq_true, decide_eq_true_eq]; exact Std.le_total) zs
  have h := List.pairwise_iff_getElem.1 hp j (j + 1) (by omega) hj (by omega)
  rw [List.getElem!_toArray, List.getElem!_toArray, getElem!_pos _ j (by omega), getElem!_pos _ (j + 1) hj]
  exact of_decide_eq_true h
end Go.Proofs.YtgjdhndlbhbjhaaGreat
