/- The plain laws of FrameCounts (chapter 15). -/
import Derived.Test.YthccadabblkalaaGreatFrAlive
namespace Go.Proofs.YthccadabblkalaaGreat
open Go.RowKit Go.Sort
set_option linter.unusedVariables false

theorem badAt_none_all {f : WinR → Nat} : ∀ {l : List WinR} {i : Nat}, badAt f l i = none → ∀ x ∈ l, f x = 0
  | [], _, _ => by simp
  | y :: l, i, h => by
    rw [badAt] at h
    by_cases hy : f y = 0
    · rw [if_pos hy] at h
      intro x hx
      rcases List.mem_cons.1 hx with rfl | hx
      · exact hy
      · exact badAt_none_all h x hx
    · rw [if_neg hy] at h; cases h
theorem badAt_some_ne {f : WinR → Nat} : ∀ {l : List WinR} {i e j : Nat}, badAt f l i = some (e, j) → e ≠ 0
  | [], _, _, _, h => by cases h
  | y :: l, i, e, j, h => by
    rw [badAt] at h
    by_cases hy : f y = 0
    · rw [if_pos hy] at h; exact badAt_some_ne h
    · rw [if_neg hy] at h; injection h with h; injection h with h1 h2; rw [← h1]; exact hy
theorem right_all {c : Cfg} (h : rightB c = true) : c.frame ≠ 0 ∧ (∀ x ∈ c.wins.l, winCode c x = 0) ∧ firstOver c.wins.l = none ∧ checkR c = (0, 0, 0) := by
  unfold rightB at h
  simp only [Bool.and_eq_true, decide_eq_true_eq] at h
  obtain ⟨_, h⟩ := h
  unfold checkR at h ⊢
  by_cases hf : c.frame = 0
  · rw [if_pos hf] at h; cases h
  · rw [if_neg hf] at h ⊢
    cases hb : badAt (winCode c) c.wins.l 0 with
    | some r => obtain ⟨e, i⟩ := r; rw [hb] at h; exact absurd h (badAt_some_ne hb)
    | none =>
      rw [hb] at h
      cases hv : firstOver c.wins.l with
      | some j => rw [hv] at h; cases h
      | none => exact ⟨hf, badAt_none_all hb, rfl, rfl⟩
theorem win_right {c : Cfg} {x : WinR} (h : winCode c x = 0) : x.len ≠ 0 ∧ x.st + x.len ≤ c.frame := by
  unfold winCode at h
  split at h
  · cases h
  · split at h
    · cases h
    · omega
/-- What holds of each range of right windows. -/
def okR (F : Nat) (x : Nat × Nat) : Prop := x.1 < x.2 ∧ x.2 ≤ F
theorem wo_ok {c : Cfg} (h : rightB c = true) (hf : c.frame < 18446744073709551616) (p : Nat) : ∀ x ∈ wo c.wins.l p, okR c.frame x := by
  intro x hx
  unfold wo at hx
  obtain ⟨y, hy, rfl⟩ := List.mem_map.1 hx
  have := win_right ((right_all h).2.1 y (List.mem_filter.1 hy).1)
  unfold okR hiW
  simp only
  rw [Nat.mod_eq_of_lt (by omega)]
  omega
def uS (f t : Nat) (l : List (Nat × Nat)) : Nat := (l.map fun x => min x.2 t - max x.1 f).sum
def bS (l : List (Nat × Nat)) : Nat := (l.map fun x => x.2 - x.1).sum
theorem usedF_eq (f t n : Nat) (x : Nat × Nat) (hn : n < 18446744073709551616) : usedF f t n x = (n + (min x.2 t - max x.1 f)) % 18446744073709551616 := by
  unfold usedF
  by_cases h : max x.1 f < min x.2 t
  · rw [if_pos h]
  · rw [if_neg h]
    have : min x.2 t - max x.1 f = 0 := by omega
    rw [this, Nat.add_zero, Nat.mod_eq_of_lt hn]
theorem used_fold (f t : Nat) : ∀ (l : List (Nat × Nat)) (n : Nat), n < 18446744073709551616 → l.foldl (usedF f t) n = (n + uS f t l) % 18446744073709551616
  | [], n, hn => by simp [uS, Nat.mod_eq_of_lt hn]
  | x :: l, n, hn => by
    rw [List.foldl_cons, usedF_eq f t n x hn, used_fold f t l _ (Nat.mod_lt _ (by decide))]
    unfold uS
    rw [List.map_cons, List.sum_cons]
    generalize (l.map fun x => min x.2 t - max x.1 f).sum = s
    generalize min x.2 t - max x.1 f = d
    omega
theorem usedL_eq (f t : Nat) (l : List (Nat × Nat)) : usedL f t l = uS f t l % 18446744073709551616 := by
  unfold usedL
  rw [used_fold f t l 0 (by decide), Nat.zero_add]
theorem busyF_eq (n : Nat) (x : Nat × Nat) (F : Nat) (hx : okR F x) (hF : F < 18446744073709551616) : busyF n x = (n + (x.2 - x.1)) % 18446744073709551616 := by
  unfold busyF busyN
  unfold okR at hx
  rw [subW_le (by omega) (by omega)]
theorem busy_fold (F : Nat) (hF : F < 18446744073709551616) : ∀ (l : List (Nat × Nat)) (n : Nat), (∀ x ∈ l, okR F x) → n < 18446744073709551616 → l.foldl busyF n = (n + bS l) % 18446744073709551616
  | [], n, _, hn => by simp [bS, Nat.mod_eq_of_lt hn]
  | x :: l, n, h, hn => by
    rw [List.foldl_cons, busyF_eq n x F (h x (by simp)) hF, busy_fold F hF l _ (fun y hy => h y (by simp [hy])) (Nat.mod_lt _ (by decide))]
    unfold bS
    rw [List.map_cons, List.sum_cons]
    generalize (l.map fun x => x.2 - x.1).sum = s
    generalize x.2 - x.1 = d
    omega
theorem busyL_eq (F : Nat) (hF : F < 18446744073709551616) (l : List (Nat × Nat)) (h : ∀ x ∈ l, okR F x) : busyL l = bS l % 18446744073709551616 := by
  unfold busyL
  rw [busy_fold F hF l 0 h (by decide), Nat.zero_add]
theorem uS_frame (F : Nat) : ∀ (l : List (Nat × Nat)), (∀ x ∈ l, okR F x) → uS 0 F l = bS l
  | [], _ => rfl
  | x :: l, h => by
    have h0 := h x (by simp)
    have := uS_frame F l (fun y hy => h y (by simp [hy]))
    unfold uS bS okR at *
    rw [List.map_cons, List.sum_cons, List.map_cons, List.sum_cons, this]
    omega
theorem uS_three (F a b M : Nat) (hab : a ≤ b) (hF : F ≤ M) : ∀ (l : List (Nat × Nat)), (∀ x ∈ l, okR F x) → uS 0 a l + uS a b l + uS b M l = bS l
  | [], _ => rfl
  | x :: l, h => by
    have h0 := h x (by simp)
    have := uS_three F a b M hab hF l (fun y hy => h y (by simp [hy]))
    unfold uS bS okR at *
    simp only [List.map_cons, List.sum_cons]
    rw [← this]
    have e : (min x.2 a - max x.1 0) + (min x.2 b - max x.1 a) + (min x.2 M - max x.1 b) = x.2 - x.1 := by omega
    rw [← e]
    omega
theorem uS_none (a : Nat) : ∀ (l : List (Nat × Nat)), uS a a l = 0
  | [] => rfl
  | x :: l => by
    have := uS_none a l
    unfold uS at *
    rw [List.map_cons, List.sum_cons, this]
    omega
theorem used_frame {F : Nat} (hF : F < 18446744073709551616) {l : List (Nat × Nat)} (h : ∀ x ∈ l, okR F x) : usedL 0 F l = busyL l := by
  rw [usedL_eq, busyL_eq F hF l h, uS_frame F l h]
theorem used_none (a : Nat) (l : List (Nat × Nat)) : usedL a a l = 0 := by rw [usedL_eq, uS_none]
theorem used_three {F a b : Nat} (hF : F < 18446744073709551616) (hab : a ≤ b) {l : List (Nat × Nat)} (h : ∀ x ∈ l, okR F x) :
    ((usedL 0 a l + usedL a b l) % 18446744073709551616 + usedL b 18446744073709551615 l) % 18446744073709551616 = busyL l := by
  rw [busyL_eq F hF l h, ← uS_three F a b 18446744073709551615 hab (by omega) l h]
  rw [usedL_eq, usedL_eq, usedL_eq]
  generalize uS 0 a l = x
  generalize uS a b l = y
  generalize uS b 18446744073709551615 l = z
  omega
end Go.Proofs.YthccadabblkalaaGreat
