/- What Add, Mul, Lcm, Divides and Align come to, in plain numbers (chapter 01). Numerals: the digits of a number to a base, the value of digits, and what Parse comes to, in the program and in the reference (chapter 01). No program in sight. -/
import Derived.Laws.Rows
import Derived.Lib.ItoaNum
import Derived.Lib.ParseIntBCases
namespace Go.Proofs.YtcnihmlmaigkdaaGreatDoor

def top64 : Nat := 18446744073709551616
def foldO (g : Nat → Nat → Option Nat) : Nat → List Nat → Option Nat
  | n, [] => some n
  | n, x :: l => match g n x with
    | none => none
    | some m => foldO g m l
def fitO (n : Nat) : Option Nat := if n < top64 then some n else none
def plusO (a b : Nat) : Option Nat := fitO (a + b)
def timesO (a b : Nat) : Option Nat := fitO (a * b)
def commonO (a b : Nat) : Option Nat := if a = 0 ∨ b = 0 then none else timesO a (b / Nat.gcd a b)
def prodL (l : List Nat) : Nat := l.foldr (· * ·) 1
theorem fitO_some {n m : Nat} (h : fitO n = some m) : m = n ∧ n < top64 := by
  unfold fitO at h; split at h
  · injection h with h; exact ⟨h.symm, by assumption⟩
  · cases h

theorem fold_plus : ∀ (l : List Nat) (n : Nat), n < top64 → foldO plusO n l = fitO (n + l.sum) := by
  intro l
  induction l with
  | nil => intro n hn; simp [foldO, fitO, hn]
  | cons x l ih =>
    intro n hn
    rw [foldO]
    by_cases h : n + x < top64
    · have h1 : plusO n x = some (n + x) := by unfold plusO fitO; rw [if_pos h]
      rw [h1]
      show foldO plusO (n + x) l = _
      rw [ih _ h, List.sum_cons, Nat.add_assoc]
    · have h1 : plusO n x = none := by unfold plusO fitO; rw [if_neg h]
      rw [h1]
      show none = _
      unfold fitO
      rw [if_neg (by rw [List.sum_cons]; omega)]
theorem prod_pos : ∀ (l : List Nat), 0 ∉ l → 0 < prodL l := by
  intro l
  induction l with
  | nil => intro _; simp [prodL]
  | cons x l ih =>
    intro h
    have h1 : 0 < x := Nat.pos_of_ne_zero (fun e => h (by simp [e]))
    have h2 := ih (fun e => h (by simp [e]))
    exact Nat.mul_pos h1 h2
theorem prod_zero : ∀ (l : List Nat), 0 ∈ l → prodL l = 0 := by
  intro l
  induction l with
  | nil => intro h; cases h
  | cons x l ih =>
    intro h
    show x * prodL l = 0
    rcases List.mem_cons.1 h with h | h
    · rw [← h, Nat.zero_mul]
    · rw [ih h, Nat.mul_zero]
theorem fold_times : ∀ (l : List Nat) (n : Nat), n < top64 → 0 ∉ l → foldO timesO n l = fitO (n * prodL l) := by
  intro l
  induction l with
  | nil => intro n hn _; simp [foldO, fitO, hn, prodL]
  | cons x l ih =>
    intro n hn h0
    have h2 : 0 ∉ l := fun e => h0 (by simp [e])
    have hp := prod_pos l h2
    rw [foldO]
    have e : n * prodL (x :: l) = n * x * prodL l := (Nat.mul_assoc n x (prodL l)).symm
    by_cases h : n * x < top64
    · have h1 : timesO n x = some (n * x) := by unfold timesO fitO; rw [if_pos h]
      rw [h1]
      show foldO timesO (n * x) l = _
      rw [ih _ h h2, e]
    · have h1 : timesO n x = none := by unfold timesO fitO; rw [if_neg h]
      rw [h1]
      show none = _
      unfold fitO
      rw [if_neg (by rw [e]; have := Nat.le_mul_of_pos_right (n * x) hp; omega)]
theorem prod_reverse (l : List Nat) : prodL l.reverse = prodL l := by
  have h : ∀ (a b : List Nat), prodL (a ++ b) = prodL a * prodL b := by
    intro a b
    induction a with
    | nil => simp [prodL]
    | cons x a ih => show x * prodL (a ++ b) = x * prodL a * prodL b; rw [ih, Nat.mul_assoc]
  induction l with
  | nil => rfl
  | cons x l ih =>
    rw [List.reverse_cons, h, ih]
    show prodL l * (x * 1) = x * prodL l
    rw [Nat.mul_one, Nat.mul_comm]

/-- What Lcm returns is greater than 0 and all numbers divide it. -/
theorem fold_common : ∀ (l : List Nat) (n m : Nat), 0 < n → foldO commonO n l = some m → 0 < m ∧ n ∣ m ∧ ∀ x ∈ l, 0 < x ∧ x ∣ m := by
  intro l
  induction l with
  | nil => intro n m hn h; injection h with h; subst h; exact ⟨hn, Nat.dvd_refl _, fun x hx => by cases hx⟩
  | cons x l ih =>
    intro n m hn h
    rw [foldO] at h
    cases hc : commonO n x with
    | none => rw [hc] at h; cases h
    | some k =>
      rw [hc] at h
      unfold commonO at hc
      split at hc
      · cases hc
      rename_i h0
      have hx : 0 < x := by omega
      obtain ⟨rfl, _⟩ := fitO_some hc
      have hg : 0 < Nat.gcd n x := Nat.gcd_pos_of_pos_left _ hn
      have hd : Nat.gcd n x ∣ x := Nat.gcd_dvd_right n x
      have hk : 0 < n * (x / Nat.gcd n x) := Nat.mul_pos hn (Nat.div_pos (Nat.le_of_dvd hx hd) hg)
      obtain ⟨h1, h2, h3⟩ := ih _ m hk h
      have hxk : x ∣ n * (x / Nat.gcd n x) := by
        obtain ⟨q, hq⟩ := Nat.gcd_dvd_left n x
        refine ⟨q, ?_⟩
        have e1 : Nat.gcd n x * (x / Nat.gcd n x) = x := Nat.mul_div_cancel' hd
        calc n * (x / Nat.gcd n x) = Nat.gcd n x * q * (x / Nat.gcd n x) := by rw [← hq]
          _ = (Nat.gcd n x * (x / Nat.gcd n x)) * q := by rw [Nat.mul_right_comm]
          _ = x * q := by rw [e1]
      refine ⟨h1, Nat.dvd_trans ⟨_, rfl⟩ h2, fun y hy => ?_⟩
      rcases List.mem_cons.1 hy with rfl | hy
      · exact ⟨hx, Nat.dvd_trans hxk h2⟩
      · exact h3 y hy

/-- The multiple of 'by' that is not less than x. -/
def alignO (x y : Nat) : Option Nat := if y = 0 then none else if x % y = 0 then some x else fitO (x + (y - x % y))
theorem align_ref (x y : Nat) (hy : 0 < y) : x + (y - x % y) = (x / y + 1) * y := by
  have h1 := Nat.div_add_mod x y
  have h2 := Nat.mod_lt x hy
  rw [Nat.add_mul, Nat.one_mul, Nat.mul_comm]
  omega
theorem align_right (x y n : Nat) (h : alignO x y = some n) (hx : x < top64) : 0 < y ∧ n % y = 0 ∧ x ≤ n ∧ n - x < y ∧ n < top64 := by
  unfold alignO at h
  split at h
  · cases h
  rename_i hy
  split at h
  · injection h with h; subst h; exact ⟨by omega, by assumption, by omega, by omega, hx⟩
  · obtain ⟨rfl, hn⟩ := fitO_some h
    have h2 := Nat.mod_lt x (by omega : 0 < y)
    refine ⟨by omega, ?_, by omega, by omega, hn⟩
    rw [align_ref x y (by omega), Nat.mul_mod_left]
end Go.Proofs.YtcnihmlmaigkdaaGreatDoor
namespace Go.Proofs.YtcnihmlmaigkdaaGreatDoor
open Go.Lib

def dg (d : Nat) : UInt8 := if d < 10 then UInt8.ofNat (48 + d) else UInt8.ofNat (87 + d)
def digL (b x : Nat) : List UInt8 := if _h : x < b ∨ b < 2 then [dg x] else digL b (x / b) ++ [dg (x % b)]
termination_by x
decreasing_by exact Nat.div_lt_self (by omega) (by omega)
theorem digL_small {b x : Nat} (h : x < b) : digL b x = [dg x] := by rw [digL, dif_pos (.inl h)]
theorem digL_big {b x : Nat} (hb : 2 ≤ b) (h : b ≤ x) : digL b x = digL b (x / b) ++ [dg (x % b)] := by
  conv => lhs; rw [digL]
  rw [dif_neg (by omega)]
theorem digL_ne (b x : Nat) : digL b x ≠ [] := by rw [digL]; split <;> simp
def hexL (x : Nat) : List UInt8 := 48 :: 120 :: digL 16 x

theorem dec_digL : ∀ u : Nat, decDigits u = digL 10 u := by
  intro u
  induction u using Nat.strongRecOn with
  | ind u ih =>
    by_cases h : u < 10
    · rw [decDigits, dif_pos h, digL_small h, dg, if_pos h]
    · rw [decDigits, dif_neg h, digL_big (by omega) (by omega), ih (u / 10) (by omega), dg, if_pos (by omega)]

theorem dg_toNat (d : Nat) (h : d < 16) : (dg d).toNat = if d < 10 then 48 + d else 87 + d := by
  unfold dg
  split
  · rw [UInt8.toNat_ofNat']; omega
  · rw [UInt8.toNat_ofNat']; omega
theorem digL_all (P : UInt8 → Prop) (b : Nat) (hb : 2 ≤ b) (h : ∀ d, d < b → P (dg d)) : ∀ x, ∀ c ∈ digL b x, P c := by
  intro x
  induction x using Nat.strongRecOn with
  | ind x ih =>
    by_cases hx : x < b
    · rw [digL_small hx]; intro c hc; rw [List.mem_singleton] at hc; rw [hc]; exact h x hx
    · rw [digL_big hb (by omega)]
      intro c hc
      rcases List.mem_append.1 hc with hc | hc
      · exact ih (x / b) (Nat.div_lt_self (by omega) (by omega)) c hc
      · rw [List.mem_singleton] at hc; rw [hc]; exact h _ (Nat.mod_lt _ (by omega))
theorem digL_length (b k : Nat) (hb : 2 ≤ b) : ∀ x, x < b ^ (k + 1) → (digL b x).length ≤ k + 1 := by
  induction k with
  | zero => intro x hx; rw [digL_small (by simpa using hx)]; simp
  | succ k ih =>
    intro x hx
    by_cases h : x < b
    · rw [digL_small h]; simp
    · rw [digL_big hb (by omega), List.length_append]
      have := ih (x / b) (by rw [Nat.div_lt_iff_lt_mul (by omega)]; rwa [← Nat.pow_succ])
      simp; omega

/-! ### The program's reading of digits -/
def low (c : UInt8) : Nat := (c ||| 32).toNat
def hexd (c : UInt8) : Nat := if 48 ≤ c.toNat ∧ c.toNat ≤ 57 then c.toNat - 48 else if 97 ≤ low c ∧ low c ≤ 122 then low c - 87 else 99
def scan16 (acc : Nat) : List UInt8 → Option Nat
  | [] => some acc
  | c :: r => if hexd c < 16 then (if 1152921504606846976 ≤ acc then none else scan16 (acc * 16 + hexd c) r) else none
theorem scan16_lt : ∀ (l : List UInt8) (acc n : Nat), acc < top64 → scan16 acc l = some n → n < top64 := by
  intro l
  induction l with
  | nil => intro acc n h e; simp only [scan16] at e; injection e with e; omega
  | cons c r ih =>
    intro acc n h e
    simp only [scan16] at e
    split at e
    · split at e
      · cases e
      · exact ih _ n (by unfold top64; omega) e
    · cases e
theorem scan16_append : ∀ (l r : List UInt8) (acc : Nat), scan16 acc (l ++ r) = (scan16 acc l).bind fun a => scan16 a r := by
  intro l
  induction l with
  | nil => intro r acc; rfl
  | cons c l ih =>
    intro r acc
    rw [List.cons_append]
    simp only [scan16]
    split
    · split
      · rfl
      · exact ih r _
    · rfl
theorem hexd_dg : ∀ d : Nat, d < 16 → hexd (dg d) = d := by decide
theorem scan16_digL : ∀ n, n < top64 → scan16 0 (digL 16 n) = some n := by
  intro n
  induction n using Nat.strongRecOn with
  | ind n ih =>
    intro hn
    unfold top64 at hn
    by_cases h : n < 16
    · rw [digL_small h]
      simp only [scan16]
      rw [hexd_dg n h, if_pos h, if_neg (by omega)]
      simp
    · rw [digL_big (by omega) (by omega), scan16_append, ih (n / 16) (by omega) (by unfold top64; omega)]
      show scan16 (n / 16) [dg (n % 16)] = some n
      simp only [scan16]
      rw [hexd_dg _ (by omega), if_pos (by omega), if_neg (by omega)]
      congr 1; omega
theorem parseUint10_append : ∀ (l r : List UInt8) (acc a : Nat), parseUint10 acc l = .ok a → parseUint10 acc (l ++ r) = parseUint10 a r := by
  intro l
  induction l with
  | nil => intro r acc a h; simp only [parseUint10] at h; injection h with h; rw [h]; rfl
  | cons c l ih =>
    intro r acc a h
    rw [List.cons_append]
    simp only [parseUint10] at h ⊢
    split at h
    · rename_i h1; rw [if_pos h1]
      split at h
      · cases h
      · rename_i h2; rw [if_neg h2]
        split at h
        · cases h
        · rename_i h3; rw [if_neg h3]; exact ih r _ a h
    · cases h
theorem parse10_digL : ∀ n, n < top64 → parseUint10 0 (digL 10 n) = .ok n := by
  intro n
  induction n using Nat.strongRecOn with
  | ind n ih =>
    intro hn
    unfold top64 at hn
    have e : ∀ d, d < 10 → (dg d).toNat = 48 + d := fun d h => by rw [dg_toNat d (by omega), if_pos h]
    by_cases h : n < 10
    · rw [digL_small h]
      simp only [parseUint10]
      rw [e n h, if_pos (by omega), if_neg (by omega), if_neg (by omega)]
      congr 1; omega
    · rw [digL_big (by omega) (by omega), parseUint10_append _ _ _ _ (ih (n / 10) (by omega) (by unfold top64; omega))]
      simp only [parseUint10]
      rw [e _ (by omega), if_pos (by omega), if_neg (by omega), if_neg (by omega)]
      congr 1; omega

/-- num.Parse, on the bytes of a string. -/
def parseN (s : List UInt8) : Option Nat :=
  if s.take 2 = [48, 120] then
    (if s.drop 2 = [] then none else match scan16 0 (s.drop 2) with | some n => if hexL n = s then some n else none | none => none)
  else match parseMag s with | .ok n => if digL 10 n = s then some n else none | _ => none
def Den (s : List UInt8) (n : Nat) : Prop := n < top64 ∧ (digL 10 n = s ∨ hexL n = s)
theorem dec_no_hex (n : Nat) (r : List UInt8) (h : digL 10 n = 48 :: 120 :: r) : False := by
  have h1 := digL_all (fun c => c.toNat ≤ 57) 10 (by omega) (fun d hd => by show (dg d).toNat ≤ 57; rw [dg_toNat d (by omega), if_pos hd]; omega) n 120 (by rw [h]; simp)
  exact absurd h1 (by decide)
theorem take2 {s : List UInt8} (h : s.take 2 = [48, 120]) : s = 48 :: 120 :: s.drop 2 := by
  have := (List.take_append_drop 2 s).symm
  rw [h] at this; exact this
theorem parseN_iff (s : List UInt8) (n : Nat) : parseN s = some n ↔ Den s n := by
  unfold parseN Den
  by_cases h2 : s.take 2 = [48, 120]
  · rw [if_pos h2]
    have e := take2 h2
    constructor
    · intro h
      split at h
      · cases h
      · split at h
        · rename_i m hm
          split at h
          · injection h with h; subst h
            exact ⟨scan16_lt _ 0 m (by decide) hm, .inr (by assumption)⟩
          · cases h
        · cases h
    · rintro ⟨hn, h | h⟩
      · exact (dec_no_hex n (s.drop 2) (by rw [h]; exact e)).elim
      · have hd : s.drop 2 = digL 16 n := by rw [← h]; rfl
        rw [hd, if_neg (digL_ne _ _), scan16_digL n hn]
        show (if hexL n = s then some n else none) = some n
        rw [if_pos h]
  · rw [if_neg h2]
    constructor
    · intro h
      split at h
      · rename_i m hm
        split at h
        · injection h with h; subst h
          exact ⟨parseMag_lt hm, .inl (by assumption)⟩
        · cases h
      · cases h
    · rintro ⟨hn, h | h⟩
      · have hp : parseMag s = .ok n := by
          rw [← h, parseMag, if_neg (digL_ne _ _), parse10_digL n hn]
        rw [hp]
        show (if digL 10 n = s then some n else none) = some n
        rw [if_pos h]
      · exact absurd (by rw [← h]; rfl) h2

/-! ### The reference -/
def rdig (c : UInt8) : Nat := if 48 ≤ c.toNat ∧ c.toNat ≤ 57 then c.toNat - 48 else if 97 ≤ c.toNat ∧ c.toNat ≤ 102 then c.toNat - 87 else 99
def rscan (b acc : Nat) : List UInt8 → Option Nat
  | [] => some acc
  | c :: r => if b ≤ rdig c then none else rscan b ((acc * b + rdig c) % top64) r
def refParseN (s : List UInt8) : Option Nat :=
  if 20 < s.length then none
  else if 2 < s.length ∧ s.take 2 = [48, 120] then (match rscan 16 0 (s.drop 2) with | some n => if hexL n = s then some n else none | none => none)
  else match rscan 10 0 s with | some n => if digL 10 n = s then some n else none | none => none
theorem rscan_lt (b : Nat) : ∀ (l : List UInt8) (acc n : Nat), acc < top64 → rscan b acc l = some n → n < top64 := by
  intro l
  induction l with
  | nil => intro acc n h e; simp only [rscan] at e; injection e with e; omega
  | cons c r ih =>
    intro acc n h e
    simp only [rscan] at e
    split at e
    · cases e
    · exact ih _ n (Nat.mod_lt _ (by decide)) e
theorem rscan_append (b : Nat) : ∀ (l r : List UInt8) (acc : Nat), rscan b acc (l ++ r) = (rscan b acc l).bind fun a => rscan b a r := by
  intro l
  induction l with
  | nil => intro r acc; rfl
  | cons c l ih =>
    intro r acc
    rw [List.cons_append]
    simp only [rscan]
    split
    · rfl
    · exact ih r _
theorem rdig_dg : ∀ d : Nat, d < 16 → rdig (dg d) = d := by decide
theorem rscan_digL (b : Nat) (hb : 2 ≤ b) (hb2 : b ≤ 16) : ∀ n, n < top64 → rscan b 0 (digL b n) = some n := by
  intro n
  induction n using Nat.strongRecOn with
  | ind n ih =>
    intro hn
    by_cases h : n < b
    · rw [digL_small h]
      simp only [rscan]
      rw [rdig_dg n (by omega), if_neg (by omega), Nat.zero_mul, Nat.zero_add, Nat.mod_eq_of_lt hn]
    · have hd : n / b < n := Nat.div_lt_self (by omega) (by omega)
      have hm : n % b < b := Nat.mod_lt _ (by omega)
      rw [digL_big hb (by omega), rscan_append, ih (n / b) hd (by omega)]
      show rscan b (n / b) [dg (n % b)] = some n
      simp only [rscan]
      rw [rdig_dg _ (by omega), if_neg (by omega)]
      have e : n / b * b + n % b = n := by rw [Nat.mul_comm]; exact Nat.div_add_mod n b
      rw [e, Nat.mod_eq_of_lt hn]
theorem refParseN_iff (s : List UInt8) (n : Nat) : refParseN s = some n ↔ Den s n := by
  unfold refParseN Den
  constructor
  · intro h
    split at h
    · cases h
    split at h
    · split at h
      · rename_i m hm
        split at h
        · injection h with h; subst h
          exact ⟨rscan_lt 16 _ 0 m (by decide) hm, .inr (by assumption)⟩
        · cases h
      · cases h
    · split at h
      · rename_i m hm
        split at h
        · injection h with h; subst h
          exact ⟨rscan_lt 10 _ 0 m (by decide) hm, .inl (by assumption)⟩
        · cases h
      · cases h
  · rintro ⟨hn, h | h⟩
    · have hl : (digL 10 n).length ≤ 20 := digL_length 10 19 (by omega) n (by unfold top64 at hn; omega)
      have h2 : ¬ (2 < s.length ∧ s.take 2 = [48, 120]) := fun h2 => dec_no_hex n (s.drop 2) (by rw [h]; exact take2 h2.2)
      rw [if_neg (by rw [← h]; omega), if_neg h2]
      have hr : rscan 10 0 s = some n := by rw [← h]; exact rscan_digL 10 (by omega) (by omega) n hn
      rw [hr]
      show (if digL 10 n = s then some n else none) = some n
      rw [if_pos h]
    · have hl : (digL 16 n).length ≤ 16 := digL_length 16 15 (by omega) n (by unfold top64 at hn; omega)
      have hp : 0 < (digL 16 n).length := List.length_pos_iff.2 (digL_ne 16 n)
      have hs : s.length = (digL 16 n).length + 2 := by rw [← h]; rfl
      rw [if_neg (by omega), if_pos ⟨by omega, by rw [← h]; rfl⟩]
      have hr : rscan 16 0 (s.drop 2) = some n := by rw [← h]; exact rscan_digL 16 (by omega) (by omega) n hn
      rw [hr]
      show (if hexL n = s then some n else none) = some n
      rw [if_pos h]
theorem parse_same (s : List UInt8) : parseN s = refParseN s := by
  cases h : refParseN s with
  | some n => exact (parseN_iff s n).2 ((refParseN_iff s n).1 h)
  | none =>
    cases h2 : parseN s with
    | none => rfl
    | some n => rw [(refParseN_iff s n).2 ((parseN_iff s n).1 h2)] at h; cases h
theorem parseN_dec (n : Nat) (hn : n < top64) : parseN (digL 10 n) = some n := (parseN_iff _ n).2 ⟨hn, .inl rfl⟩
theorem parseN_hex (n : Nat) (hn : n < top64) : parseN (hexL n) = some n := (parseN_iff _ n).2 ⟨hn, .inr rfl⟩
theorem parseN_lt {s : List UInt8} {n : Nat} (h : parseN s = some n) : n < top64 := ((parseN_iff s n).1 h).1
end Go.Proofs.YtcnihmlmaigkdaaGreatDoor
