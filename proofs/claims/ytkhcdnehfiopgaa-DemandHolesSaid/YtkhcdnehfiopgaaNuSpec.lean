/- What Add, Mul, Lcm, Divides and Align come to, in plain numbers (chapter 01). -/
import Derived.Laws.Rows
namespace Go.Proofs.Ytkhcdnehfiopgaa

def top64 : Nat := 18446744073709551616
def foldO (g : Nat → Nat → Option Nat) : Nat → List Nat → Option Nat
  | n, [] => some n
  | n, x :: l => match g n x with
    | none => none
    | some m => foldO g m l
def fitO (n : Nat) : Option Nat := if n < top64 then some n else none
def plusO (a b : Nat) : Option Nat := fitO (a + b)
def timesO (a b : Nat) : Option Nat := fitO (a * b)
def commonO (a b : Nat) : Option Nat := if a = 0 ∨ b = 0 then none else timesO a (b / Nat.gcd a b)
def prodL (l : List Nat) : Nat := l.foldr (· * ·) 1
theorem fitO_some {n m : Nat} (h : fitO n = some m) : m = n ∧ n < top64 := by
  unfold fitO at h; split at h
  · injection h with h; exact ⟨h.symm, by assumption⟩
  · cases h

theorem fold_plus : ∀ (l : List Nat) (n : Nat), n < top64 → foldO plusO n l = fitO (n + l.sum) := by
  intro l
  induction l with
  | nil => intro n hn; simp [foldO, fitO, hn]
  | cons x l ih =>
    intro n hn
    rw [foldO]
    by_cases h : n + x < top64
    · have h1 : plusO n x = some (n + x) := by unfold plusO fitO; rw [if_pos h]
      rw [h1]
      show foldO plusO (n + x) l = _
      rw [ih _ h, List.sum_cons, Nat.add_assoc]
    · have h1 : plusO n x = none := by unfold plusO fitO; rw [if_neg h]
      rw [h1]
      show none = _
      unfold fitO
      rw [if_neg (by rw [List.sum_cons]; omega)]
theorem prod_pos : ∀ (l : List Nat), 0 ∉ l → 0 < prodL l := by
  intro l
  induction l with
  | nil => intro _; simp [prodL]
  | cons x l ih =>
    intro h
    have h1 : 0 < x := Nat.pos_of_ne_zero (fun e => h (by simp [e]))
    have h2 := ih (fun e => h (by simp [e]))
    exact Nat.mul_pos h1 h2
theorem prod_zero : ∀ (l : List Nat), 0 ∈ l → prodL l = 0 := by
  intro l
  induction l with
  | nil => intro h; cases h
  | cons x l ih =>
    intro h
    show x * prodL l = 0
    rcases List.mem_cons.1 h with h | h
    · rw [← h, Nat.zero_mul]
    · rw [ih h, Nat.mul_zero]
theorem fold_times : ∀ (l : List Nat) (n : Nat), n < top64 → 0 ∉ l → foldO timesO n l = fitO (n * prodL l) := by
  intro l
  induction l with
  | nil => intro n hn _; simp [foldO, fitO, hn, prodL]
  | cons x l ih =>
    intro n hn h0
    have h2 : 0 ∉ l := fun e => h0 (by simp [e])
    have hp := prod_pos l h2
    rw [foldO]
    have e : n * prodL (x :: l) = n * x * prodL l := (Nat.mul_assoc n x (prodL l)).symm
    by_cases h : n * x < top64
    · have h1 : timesO n x = some (n * x) := by unfold timesO fitO; rw [if_pos h]
      rw [h1]
      show foldO timesO (n * x) l = _
      rw [ih _ h h2, e]
    · have h1 : timesO n x = none := by unfold timesO fitO; rw [if_neg h]
      rw [h1]
      show none = _
      unfold fitO
      rw [if_neg (by rw [e]; have := Nat.le_mul_of_pos_right (n * x) hp; omega)]
theorem prod_reverse (l : List Nat) : prodL l.reverse = prodL l := by
  have h : ∀ (a b : List Nat), prodL (a ++ b) = prodL a * prodL b := by
    intro a b
    induction a with
    | nil => simp [prodL]
    | cons x a ih => show x * prodL (a ++ b) = x * prodL a * prodL b; rw [ih, Nat.mul_assoc]
  induction l with
  | nil => rfl
  | cons x l ih =>
    rw [List.reverse_cons, h, ih]
    show prodL l * (x * 1) = x * prodL l
    rw [Nat.mul_one, Nat.mul_comm]

/-- What Lcm returns is greater than 0 and all numbers divide it. -/
theorem fold_common : ∀ (l : List Nat) (n m : Nat), 0 < n → foldO commonO n l = some m → 0 < m ∧ n ∣ m ∧ ∀ x ∈ l, 0 < x ∧ x ∣ m := by
  intro l
  induction l with
  | nil => intro n m hn h; injection h with h; subst h; exact ⟨hn, Nat.dvd_refl _, fun x hx => by cases hx⟩
  | cons x l ih =>
    intro n m hn h
    rw [foldO] at h
    cases hc : commonO n x with
    | none => rw [hc] at h; cases h
    | some k =>
      rw [hc] at h
      unfold commonO at hc
      split at hc
      · cases hc
      rename_i h0
      have hx : 0 < x := by omega
      obtain ⟨rfl, _⟩ := fitO_some hc
      have hg : 0 < Nat.gcd n x := Nat.gcd_pos_of_pos_left _ hn
      have hd : Nat.gcd n x ∣ x := Nat.gcd_dvd_right n x
      have hk : 0 < n * (x / Nat.gcd n x) := Nat.mul_pos hn (Nat.div_pos (Nat.le_of_dvd hx hd) hg)
      obtain ⟨h1, h2, h3⟩ := ih _ m hk h
      have hxk : x ∣ n * (x / Nat.gcd n x) := by
        obtain ⟨q, hq⟩ := Nat.gcd_dvd_left n x
        refine ⟨q, ?_⟩
        have e1 : Nat.gcd n x * (x / Nat.gcd n x) = x := Nat.mul_div_cancel' hd
        calc n * (x / Nat.gcd n x) = Nat.gcd n x * q * (x / Nat.gcd n x) := by rw [← hq]
          _ = (Nat.gcd n x * (x / Nat.gcd n x)) * q := by rw [Nat.mul_right_comm]
          _ = x * q := by rw [e1]
      refine ⟨h1, Nat.dvd_trans ⟨_, rfl⟩ h2, fun y hy => ?_⟩
      rcases List.mem_cons.1 hy with rfl | hy
      · exact ⟨hx, Nat.dvd_trans hxk h2⟩
      · exact h3 y hy

/-- The multiple of 'by' that is not less than x. -/
def alignO (x y : Nat) : Option Nat := if y = 0 then none else if x % y = 0 then some x else fitO (x + (y - x % y))
theorem align_ref (x y : Nat) (hy : 0 < y) : x + (y - x % y) = (x / y + 1) * y := by
  have h1 := Nat.div_add_mod x y
  have h2 := Nat.mod_lt x hy
  rw [Nat.add_mul, Nat.one_mul, Nat.mul_comm]
  omega
theorem align_right (x y n : Nat) (h : alignO x y = some n) (hx : x < top64) : 0 < y ∧ n % y = 0 ∧ x ≤ n ∧ n - x < y ∧ n < top64 := by
  unfold alignO at h
  split at h
  · cases h
  rename_i hy
  split at h
  · injection h with h; subst h; exact ⟨by omega, by assumption, by omega, by omega, hx⟩
  · obtain ⟨rfl, hn⟩ := fitO_some h
    have h2 := Nat.mod_lt x (by omega : 0 < y)
    refine ⟨by omega, ?_, by omega, by omega, hn⟩
    rw [align_ref x y (by omega), Nat.mul_mod_left]
end Go.Proofs.Ytkhcdnehfiopgaa
