/- What Add, Mul, Lcm, Divides and Align come to, in plain numbers (chapter 01). Numerals: the digits of a number to a base, the value of digits, and what Parse comes to, in the program and in the reference (chapter 01). No program in sight. -/
import Derived.Laws.Rows
import Derived.Lib.ItoaNum
import Derived.Lib.ParseIntBCases
namespace Go.Proofs.YtcnihmlmaigkdaaGreatDoor

def top64 : Nat := 18446744073709551616
end Go.Proofs.YtcnihmlmaigkdaaGreatDoor
namespace Go.Proofs.YtcnihmlmaigkdaaGreatDoor
open Go.Lib

def dg (d : Nat) : UInt8 := if d < 10 then UInt8.ofNat (48 + d) else UInt8.ofNat (87 + d)
def digL (b x : Nat) : List UInt8 := if _h : x < b ∨ b < 2 then [dg x] else digL b (x / b) ++ [dg (x % b)]
termination_by x
decreasing_by exact Nat.div_lt_self (by omega) (by omega)
theorem digL_small {b x : Nat} (h : x < b) : digL b x = [dg x] := by rw [digL, dif_pos (.inl h)]
theorem digL_big {b x : Nat} (hb : 2 ≤ b) (h : b ≤ x) : digL b x = digL b (x / b) ++ [dg (x % b)] := by
  conv => lhs; rw [digL]
  rw [dif_neg (by omega)]
theorem digL_ne (b x : Nat) : digL b x ≠ [] := by rw [digL]; split <;> simp
def hexL (x : Nat) : List UInt8 := 48 :: 120 :: digL 16 x

theorem dec_digL : ∀ u : Nat, decDigits u = digL 10 u := by
  intro u
  induction u using Nat.strongRecOn with
  | ind u ih =>
    by_cases h : u < 10
    · rw [decDigits, dif_pos h, digL_small h, dg, if_pos h]
    · rw [decDigits, dif_neg h, digL_big (by omega) (by omega), ih (u / 10) (by omega), dg, if_pos (by omega)]

theorem dg_toNat (d : Nat) (h : d < 16) : (dg d).toNat = if d < 10 then 48 + d else 87 + d := by
  unfold dg
  split
  · rw [UInt8.toNat_ofNat']; omega
  · rw [UInt8.toNat_ofNat']; omega
theorem digL_all (P : UInt8 → Prop) (b : Nat) (hb : 2 ≤ b) (h : ∀ d, d < b → P (dg d)) : ∀ x, ∀ c ∈ digL b x, P c := by
  intro x
  induction x using Nat.strongRecOn with
  | ind x ih =>
    by_cases hx : x < b
    · rw [digL_small hx]; intro c hc; rw [List.mem_singleton] at hc; rw [hc]; exact h x hx
    · rw [digL_big hb (by omega)]
      intro c hc
      rcases List.mem_append.1 hc with hc | hc
      · exact ih (x / b) (Nat.div_lt_self (by omega) (by omega)) c hc
      · rw [List.mem_singleton] at hc; rw [hc]; exact h _ (Nat.mod_lt _ (by omega))
theorem digL_length (b k : Nat) (hb : 2 ≤ b) : ∀ x, x < b ^ (k + 1) → (digL b x).length ≤ k + 1 := by
  induction k with
  | zero => intro x hx; rw [digL_small (by simpa using hx)]; simp
  | succ k ih =>
    intro x hx
    by_cases h : x < b
    · rw [digL_small h]; simp
    · rw [digL_big hb (by omega), List.length_append]
      have := ih (x / b) (by rw [Nat.div_lt_iff_lt_mul (by omega)]; rwa [← Nat.pow_succ])
      simp; omega

/-! ### The program's reading of digits -/
def low (c : UInt8) : Nat := (c ||| 32).toNat
def hexd (c : UInt8) : Nat := if 48 ≤ c.toNat ∧ c.toNat ≤ 57 then c.toNat - 48 else if 97 ≤ low c ∧ low c ≤ 122 then low c - 87 else 99
def scan16 (acc : Nat) : List UInt8 → Option Nat
  | [] => some acc
  | c :: r => if hexd c < 16 then (if 1152921504606846976 ≤ acc then none else scan16 (acc * 16 + hexd c) r) else none
theorem scan16_lt : ∀ (l : List UInt8) (acc n : Nat), acc < top64 → scan16 acc l = some n → n < top64 := by
  intro l
  induction l with
  | nil => intro acc n h e; simp only [scan16] at e; injection e with e; omega
  | cons c r ih =>
    intro acc n h e
    simp only [scan16] at e
    split at e
    · split at e
      · cases e
      · exact ih _ n (by unfold top64; omega) e
    · cases e
theorem scan16_append : ∀ (l r : List UInt8) (acc : Nat), scan16 acc (l ++ r) = (scan16 acc l).bind fun a => scan16 a r := by
  intro l
  induction l with
  | nil => intro r acc; rfl
  | cons c l ih =>
    intro r acc
    rw [List.cons_append]
    simp only [scan16]
    split
    · split
      · rfl
      · exact ih r _
    · rfl
theorem hexd_dg : ∀ d : Nat, d < 16 → hexd (dg d) = d := by decide
theorem scan16_digL : ∀ n, n < top64 → scan16 0 (digL 16 n) = some n := by
  intro n
  induction n using Nat.strongRecOn with
  | ind n ih =>
    intro hn
    unfold top64 at hn
    by_cases h : n < 16
    · rw [digL_small h]
      simp only [scan16]
      rw [hexd_dg n h, if_pos h, if_neg (by omega)]
      simp
    · rw [digL_big (by omega) (by omega), scan16_append, ih (n / 16) (by omega) (by unfold top64; omega)]
      show scan16 (n / 16) [dg (n % 16)] = some n
      simp only [scan16]
      rw [hexd_dg _ (by omega), if_pos (by omega), if_neg (by omega)]
      congr 1; omega
theorem parseUint10_append : ∀ (l r : List UInt8) (acc a : Nat), parseUint10 acc l = .ok a → parseUint10 acc (l ++ r) = parseUint10 a r := by
  intro l
  induction l with
  | nil => intro r acc a h; simp only [parseUint10] at h; injection h with h; rw [h]; rfl
  | cons c l ih =>
    intro r acc a h
    rw [List.cons_append]
    simp only [parseUint10] at h ⊢
    split at h
    · rename_i h1; rw [if_pos h1]
      split at h
      · cases h
      · rename_i h2; rw [if_neg h2]
        split at h
        · cases h
        · rename_i h3; rw [if_neg h3]; exact ih r _ a h
    · cases h
theorem parse10_digL : ∀ n, n < top64 → parseUint10 0 (digL 10 n) = .ok n := by
  intro n
  induction n using Nat.strongRecOn with
  | ind n ih =>
    intro hn
    unfold top64 at hn
    have e : ∀ d, d < 10 → (dg d).toNat = 48 + d := fun d h => by rw [dg_toNat d (by omega), if_pos h]
    by_cases h : n < 10
    · rw [digL_small h]
      simp only [parseUint10]
      rw [e n h, if_pos (by omega), if_neg (by omega), if_neg (by omega)]
      congr 1; omega
    · rw [digL_big (by omega) (by omega), parseUint10_append _ _ _ _ (ih (n / 10) (by omega) (by unfold top64; omega))]
      simp only [parseUint10]
      rw [e _ (by omega), if_pos (by omega), if_neg (by omega), if_neg (by omega)]
      congr 1; omega

/-- num.Parse, on the bytes of a string. -/
def parseN (s : List UInt8) : Option Nat :=
  if s.take 2 = [48, 120] then
    (if s.drop 2 = [] then none else match scan16 0 (s.drop 2) with | some n => if hexL n = s then some n else none | none => none)
  else match parseMag s with | .ok n => if digL 10 n = s then some n else none | _ => none
def Den (s : List UInt8) (n : Nat) : Prop := n < top64 ∧ (digL 10 n = s ∨ hexL n = s)
theorem dec_no_hex (n : Nat) (r : List UInt8) (h : digL 10 n = 48 :: 120 :: r) : False := by
  have h1 := digL_all (fun c => c.toNat ≤ 57) 10 (by omega) (fun d hd => by show (dg d).toNat ≤ 57; rw [dg_toNat d (by omega), if_pos hd]; omega) n 120 (by rw [h]; simp)
  exact absurd h1 (by decide)
theorem take2 {s : List UInt8} (h : s.take 2 = [48, 120]) : s = 48 :: 120 :: s.drop 2 := by
  have := (List.take_append_drop 2 s).symm
  rw [h] at this; exact this
theorem parseN_iff (s : List UInt8) (n : Nat) : parseN s = some n ↔ Den s n := by
  unfold parseN Den
  by_cases h2 : s.take 2 = [48, 120]
  · rw [if_pos h2]
    have e := take2 h2
    constructor
    · intro h
      split at h
      · cases h
      · split at h
        · rename_i m hm
          split at h
          · injection h with h; subst h
            exact ⟨scan16_lt _ 0 m (by decide) hm, .inr (by assumption)⟩
          · cases h
        · cases h
    · rintro ⟨hn, h | h⟩
      · exact (dec_no_hex n (s.drop 2) (by rw [h]; exact e)).elim
      · have hd : s.drop 2 = digL 16 n := by rw [← h]; rfl
        rw [hd, if_neg (digL_ne _ _), scan16_digL n hn]
        show (if hexL n = s then some n else none) = some n
        rw [if_pos h]
  · rw [if_neg h2]
    constructor
    · intro h
      split at h
      · rename_i m hm
        split at h
        · injection h with h; subst h
          exact ⟨parseMag_lt hm, .inl (by assumption)⟩
        · cases h
      · cases h
    · rintro ⟨hn, h | h⟩
      · have hp : parseMag s = .ok n := by
          rw [← h, parseMag, if_neg (digL_ne _ _), parse10_digL n hn]
        rw [hp]
        show (if digL 10 n = s then some n else none) = some n
        rw [if_pos h]
      · exact absurd (by rw [← h]; rfl) h2

/-! ### The reference -/
theorem parseN_dec (n : Nat) (hn : n < top64) : parseN (digL 10 n) = some n := (parseN_iff _ n).2 ⟨hn, .inl rfl⟩
theorem parseN_hex (n : Nat) (hn : n < top64) : parseN (hexL n) = some n := (parseN_iff _ n).2 ⟨hn, .inr rfl⟩
end Go.Proofs.YtcnihmlmaigkdaaGreatDoor
