/- The texts of a configuration, as lists of bytes (chapter 08). No program in sight. The text of a configuration within limits has one reading (chapter 08, ShowOnce). No program in sight. The reference's order of configurations as plain data (chapter 05's Same and Within, for chapters 08 and 07). No program in sight. -/
import Derived.Test.YtcnihmlmaigkdaaGreatDoorMNuSpec
import Derived.Test.YtcnihmlmaigkdaaGreatDoorMNmSpec
import Derived.Test.YtcnihmlmaigkdaaGreatDoorMCfD
import Derived.Lib.Join
namespace Go.Proofs.YtcnihmlmaigkdaaGreatDoor
open Go.Lib
set_option linter.unusedVariables false

def numB (x : Nat) : List UInt8 := digL 10 x
def quoteN (s : ByteArray) : List UInt8 := (quoteS s).data.toList
/-- The word for rights. -/
def lettersL (r : Nat) : List UInt8 := (if r % 2 = 1 then [114] else []) ++ (if r / 2 % 2 = 1 then [119] else []) ++ (if r / 4 % 2 = 1 then [120] else [])
def rightsW (r : Nat) : List UInt8 := if lettersL r = [] then [110, 111, 110, 101] else lettersL r
/-- A line: its head, and fields in brackets. -/
def lnB (head : List UInt8) (fields : List (List UInt8)) : List UInt8 := head ++ [32, 123, 32] ++ join fields [59, 32] ++ [59, 32, 125]
def partLn (p : PartR) : List UInt8 := lnB ([112, 97, 114, 116, 105, 116, 105, 111, 110, 32] ++ numB p.id ++ [32] ++ quoteN p.name) [[112, 101, 114, 105, 111, 100, 32] ++ numB p.per, [100, 117, 114, 97, 116, 105, 111, 110, 32] ++ numB p.dur]
def winLn (x : WinR) : List UInt8 := lnB ([119, 105, 110, 100, 111, 119, 32] ++ numB x.part) [[115, 116, 97, 114, 116, 32] ++ numB x.st, [108, 101, 110, 103, 116, 104, 32] ++ numB x.len]
def regF (r : RegR) : List (List UInt8) := [[98, 97, 115, 101, 32] ++ hexL r.base, [115, 105, 122, 101, 32] ++ numB r.size, [114, 105, 103, 104, 116, 115, 32] ++ rightsW r.rights] ++ (if r.shared then [[115, 104, 97, 114, 101, 100]] else [])
def regLn (r : RegR) : List UInt8 := lnB ([114, 101, 103, 105, 111, 110, 32] ++ numB r.part) (regF r)
def dirB (b : Bool) : List UInt8 := if b then [111, 117, 116, 112, 117, 116] else [105, 110, 112, 117, 116]
def kindB (b : Bool) : List UInt8 := if b then [113, 117, 101, 117, 105, 110, 103] else [115, 97, 109, 112, 108, 105, 110, 103]
def portLn (p : PortR) : List UInt8 := lnB ([112, 111, 114, 116, 32] ++ numB p.id ++ [32] ++ quoteN p.name) [[112, 97, 114, 116, 105, 116, 105, 111, 110, 32] ++ numB p.part, dirB p.out, kindB p.que, [115, 105, 122, 101, 32] ++ numB p.size]
def toB (d : List Nat) : List UInt8 := if d = [] then [116, 111] else [116, 111] ++ ([32] ++ join (d.map numB) [44, 32])
def chanLn (c : ChanR) : List UInt8 := lnB ([99, 104, 97, 110, 110, 101, 108, 32] ++ numB c.id) [[115, 111, 117, 114, 99, 101, 32] ++ numB c.src, toB c.dests]
def linesL (c : Cfg) : List (List UInt8) := c.parts.l.map partLn ++ (c.wins.l.map winLn ++ (c.regs.l.map regLn ++ (c.ports.l.map portLn ++ c.chans.l.map chanLn)))
def textB (before : List UInt8) (l : List (List UInt8)) : List UInt8 := l.flatMap fun s => before ++ s ++ [10]
def frameB (n : Nat) : List UInt8 := [102, 114, 97, 109, 101, 32] ++ numB n ++ [59]
def printL (c : Cfg) : List UInt8 := [109, 111, 100, 117, 108, 101, 32, 123, 10] ++ textB [9] (frameB c.frame :: linesL c) ++ [125, 10]
def recordsL (c : Cfg) : List UInt8 := textB [] (linesL c)

/-! ### Every text has one reading -/
def digB (u : UInt8) : Bool := decide (48 ≤ u.toNat) && decide (u.toNat ≤ 57)
theorem num_dig (x : Nat) : ∀ u ∈ numB x, digB u = true := digL_all (fun u => digB u = true) 10 (by omega) (fun d hd => by
  unfold digB
  have := dg_toNat d (by omega)
  rw [if_pos (by omega)] at this
  rw [this]; simp; omega) x
theorem cut_stop {P : UInt8 → Bool} : ∀ {l m : List UInt8} {a b : UInt8} {r s : List UInt8}, (∀ u ∈ l, P u = true) → (∀ u ∈ m, P u = true) → P a = false → P b = false → l ++ a :: r = m ++ b :: s → l = m ∧ a :: r = b :: s
  | [], [], a, b, r, s, _, _, _, _, h => ⟨rfl, h⟩
  | [], y :: m, a, b, r, s, _, hm, ha, _, h => by
    injection h with h1 _
    subst h1
    rw [hm a List.mem_cons_self] at ha
    cases ha
  | x :: l, [], a, b, r, s, hl, _, _, hb, h => by
    injection h with h1 _
    subst h1
    rw [hl x List.mem_cons_self] at hb
    cases hb
  | x :: l, y :: m, a, b, r, s, hl, hm, ha, hb, h => by
    injection h with h1 h2
    obtain ⟨h3, h4⟩ := cut_stop (fun u hu => hl u (List.mem_cons_of_mem _ hu)) (fun u hu => hm u (List.mem_cons_of_mem _ hu)) ha hb h2
    exact ⟨by rw [h1, h3], h4⟩
def valD (l : List UInt8) : Nat := l.foldl (fun n u => n * 10 + (u.toNat - 48)) 0
theorem val_num (x : Nat) : valD (numB x) = x := by
  unfold numB
  induction x using Nat.strongRecOn with
  | ind x ih =>
    by_cases h : x < 10
    · rw [digL_small h]
      have := dg_toNat x (by omega)
      rw [if_pos h] at this
      show 0 * 10 + ((dg x).toNat - 48) = x
      rw [this]; omega
    · rw [digL_big (by omega) (by omega)]
      have h1 := ih (x / 10) (by omega)
      have h2 := dg_toNat (x % 10) (by omega)
      rw [if_pos (by omega)] at h2
      unfold valD at h1 ⊢
      rw [List.foldl_append, h1]
      show x / 10 * 10 + ((dg (x % 10)).toNat - 48) = x
      rw [h2]; omega
theorem num_inj {x y : Nat} (h : numB x = numB y) : x = y := by rw [← val_num x, ← val_num y, h]
theorem num_cut {x y : Nat} {a b : UInt8} {r s : List UInt8} (ha : digB a = false) (hb : digB b = false) (h : numB x ++ a :: r = numB y ++ b :: s) : x = y ∧ a :: r = b :: s := by
  obtain ⟨h1, h2⟩ := cut_stop (num_dig x) (num_dig y) ha hb h
  exact ⟨num_inj h1, h2⟩
theorem quote_cut : ∀ {l m : List UInt8} {r s : List UInt8}, quoteL l ++ 34 :: r = quoteL m ++ 34 :: s → l = m ∧ r = s
  | [], [], r, s, h => by
    injection h with _ h
    exact ⟨rfl, h⟩
  | [], y :: m, r, s, h => by
    exfalso
    have h2 : (34 : UInt8) :: r = quoteB y ++ (quoteL m ++ 34 :: s) := by rw [← List.append_assoc]; exact h
    unfold quoteB at h2
    split at h2
    · injection h2 with h3 _; exact absurd h3 (by decide)
    · rename_i hy
      injection h2 with h3 _
      exact hy (.inl h3.symm)
  | x :: l, [], r, s, h => by
    exfalso
    have h2 : quoteB x ++ (quoteL l ++ 34 :: r) = (34 : UInt8) :: s := by rw [← List.append_assoc]; exact h
    unfold quoteB at h2
    split at h2
    · injection h2 with h3 _; exact absurd h3 (by decide)
    · rename_i hx
      injection h2 with h3 _
      exact hx (.inl h3)
  | x :: l, y :: m, r, s, h => by
    have h2 : quoteB x ++ (quoteL l ++ 34 :: r) = quoteB y ++ (quoteL m ++ 34 :: s) := by rw [← List.append_assoc, ← List.append_assoc]; exact h
    have key : x = y ∧ quoteL l ++ 34 :: r = quoteL m ++ 34 :: s := by
      unfold quoteB at h2
      by_cases hx : x = 34 ∨ x = 92
      · by_cases hy : y = 34 ∨ y = 92
        · rw [if_pos hx, if_pos hy] at h2
          injection h2 with _ h2
          injection h2 with h3 h4
          exact ⟨h3, h4⟩
        · rw [if_pos hx, if_neg hy] at h2
          injection h2 with h3 _
          exact absurd (.inr h3.symm) hy
      · by_cases hy : y = 34 ∨ y = 92
        · rw [if_neg hx, if_pos hy] at h2
          injection h2 with h3 _
          exact absurd (.inr h3) hx
        · rw [if_neg hx, if_neg hy] at h2
          injection h2 with h3 h4
          exact ⟨h3, h4⟩
    obtain ⟨h5, h6⟩ := quote_cut key.2
    exact ⟨by rw [key.1, h5], h6⟩
theorem quoteN_valid {s : ByteArray} (h : validS s = true) : quoteN s = 34 :: (quoteL s.data.toList ++ [34]) := by unfold quoteN; rw [quoteS_yes s h]
theorem name_cut {a b : ByteArray} (ha : validS a = true) (hb : validS b = true) {r s : List UInt8} (h : quoteN a ++ r = quoteN b ++ s) : a = b ∧ r = s := by
  rw [quoteN_valid ha, quoteN_valid hb] at h
  have h2 : quoteL a.data.toList ++ 34 :: r = quoteL b.data.toList ++ 34 :: s := by
    have h3 := (List.cons.inj h).2
    simpa using h3
  obtain ⟨h4, h5⟩ := quote_cut h2
  refine ⟨?_, h5⟩
  cases a with
  | mk x => cases b with
    | mk y => exact congrArg ByteArray.mk (Array.toList_inj.1 h4)
/-! ### Texts of lines -/
theorem tab_inj : ∀ {l m : List (List UInt8)} {r : List UInt8} (hr : ∀ t, r ≠ 9 :: t), (∀ x ∈ l, ∀ u ∈ x, u ≠ 10) → (∀ x ∈ m, ∀ u ∈ x, u ≠ 10) → textB [9] l ++ r = textB [9] m ++ r → l = m
  | [], [], r, _, _, _, _ => rfl
  | [], y :: m, r, hr, _, _, h => by
    exfalso
    have h2 : r = 9 :: (y ++ [10] ++ textB [9] m ++ r) := by simpa [textB] using h
    exact hr _ h2
  | x :: l, [], r, hr, _, _, h => by
    exfalso
    have h2 : 9 :: (x ++ [10] ++ textB [9] l ++ r) = r := by simpa [textB] using h
    exact hr _ h2.symm
  | x :: l, y :: m, r, hr, hl, hm, h => by
    have h2 : x ++ 10 :: (textB [9] l ++ r) = y ++ 10 :: (textB [9] m ++ r) := by simpa [textB] using h
    obtain ⟨h3, h4⟩ := cut_stop (P := fun u => decide (u ≠ 10)) (fun u hu => by simpa using hl x List.mem_cons_self u hu) (fun u hu => by simpa using hm y List.mem_cons_self u hu) (by decide) (by decide) h2
    injection h4 with _ h4
    rw [h3, tab_inj hr (fun z hz => hl z (List.mem_cons_of_mem _ hz)) (fun z hz => hm z (List.mem_cons_of_mem _ hz)) h4]
end Go.Proofs.YtcnihmlmaigkdaaGreatDoor
namespace Go.Proofs.YtcnihmlmaigkdaaGreatDoor
open Go.Lib
set_option linter.unusedVariables false

theorem join_cons2 (a b : List UInt8) (l : List (List UInt8)) (s : List UInt8) : join (a :: b :: l) s = a ++ (s ++ join (b :: l) s) := by
  simp [join, List.intercalate]
/-! ### Hexadecimal forms -/
def valG (u : UInt8) : Nat := if u.toNat ≤ 57 then u.toNat - 48 else u.toNat - 87
def valB (b : Nat) (l : List UInt8) : Nat := l.foldl (fun n u => n * b + valG u) 0
theorem val_dg {d : Nat} (h : d < 16) : valG (dg d) = d := by
  have := dg_toNat d h
  unfold valG
  rw [this]
  by_cases h1 : d < 10
  · rw [if_pos h1, if_pos (by omega)]; omega
  · rw [if_neg h1, if_neg (by omega)]; omega
theorem val_digL {b : Nat} (hb : 2 ≤ b) (hb2 : b ≤ 16) (x : Nat) : valB b (digL b x) = x := by
  induction x using Nat.strongRecOn with
  | ind x ih =>
    by_cases h : x < b
    · rw [digL_small h]
      show 0 * b + valG (dg x) = x
      rw [val_dg (by omega)]; omega
    · rw [digL_big hb (by omega)]
      have h1 := ih (x / b) (Nat.div_lt_self (by omega) (by omega))
      unfold valB at h1 ⊢
      rw [List.foldl_append, h1]
      show x / b * b + valG (dg (x % b)) = x
      have := Nat.mod_lt x (show 0 < b by omega)
      rw [val_dg (by omega), Nat.mul_comm]
      exact Nat.div_add_mod x b
def no59 (u : UInt8) : Bool := decide (u ≠ 59)
theorem hex_59 (x : Nat) : ∀ u ∈ digL 16 x, no59 u = true := digL_all (fun u => no59 u = true) 16 (by omega) (fun d hd => by
  have := dg_toNat d hd
  unfold no59
  rw [decide_eq_true_eq]
  intro h
  rw [h] at this
  have h59 : (59 : UInt8).toNat = 59 := rfl
  rw [h59] at this
  split at this <;> omega) x
theorem hex_cut {x y : Nat} {r s : List UInt8} (h : hexL x ++ 59 :: r = hexL y ++ 59 :: s) : x = y ∧ r = s := by
  unfold hexL at h
  simp only [List.cons_append, List.cons.injEq, true_and] at h
  obtain ⟨h1, h2⟩ := cut_stop (hex_59 x) (hex_59 y) (by rfl) (by rfl) h
  refine ⟨?_, (List.cons.inj h2).2⟩
  rw [← val_digL (b := 16) (by omega) (by omega) x, ← val_digL (b := 16) (by omega) (by omega) y, h1]
/-! ### Lines -/
theorem rights_59 (r : Nat) : ∀ u ∈ rightsW r, no59 u = true := by
  intro u hu
  unfold rightsW at hu
  split at hu
  · revert u; decide
  · unfold lettersL at hu
    rw [List.mem_append, List.mem_append] at hu
    rcases hu with (hu | hu) | hu <;> split at hu <;> simp at hu <;> subst hu <;> rfl
theorem rights_inj : ∀ {a b : Nat}, a ≤ 7 → b ≤ 7 → rightsW a = rightsW b → a = b := by
  intro a b ha hb h
  have key : ∀ a : Fin 8, ∀ b : Fin 8, rightsW a.val = rightsW b.val → a = b := by decide +kernel
  have := key ⟨a, by omega⟩ ⟨b, by omega⟩ h
  exact congrArg Fin.val this
theorem part_inj {p q : PartR} (hp : validS p.name = true) (hq : validS q.name = true) (h : partLn p = partLn q) : p = q := by
  simp only [partLn, lnB, join_cons2, join_one, List.cons_append, List.nil_append, List.append_assoc, List.cons.injEq, true_and] at h
  obtain ⟨h1, h⟩ := num_cut (by rfl) (by rfl) h
  obtain ⟨h2, h⟩ := name_cut hp hq (List.cons.inj h).2
  simp only [List.cons.injEq, true_and] at h
  obtain ⟨h3, h⟩ := num_cut (by rfl) (by rfl) h
  simp only [List.cons.injEq, true_and] at h
  obtain ⟨h4, h⟩ := num_cut (by rfl) (by rfl) h
  cases p; cases q; simp only at h1 h2 h3 h4; subst h1 h2 h3 h4; rfl
theorem win_inj {p q : WinR} (h : winLn p = winLn q) : p = q := by
  simp only [winLn, lnB, join_cons2, join_one, List.cons_append, List.nil_append, List.append_assoc, List.cons.injEq, true_and] at h
  obtain ⟨h1, h⟩ := num_cut (by rfl) (by rfl) h
  simp only [List.cons.injEq, true_and] at h
  obtain ⟨h2, h⟩ := num_cut (by rfl) (by rfl) h
  simp only [List.cons.injEq, true_and] at h
  obtain ⟨h3, h⟩ := num_cut (by rfl) (by rfl) h
  cases p; cases q; simp only at h1 h2 h3; subst h1 h2 h3; rfl
theorem reg_inj {p q : RegR} (hp : p.rights ≤ 7) (hq : q.rights ≤ 7) (h : regLn p = regLn q) : p = q := by
  obtain ⟨pb, ps, pp, pr, pd⟩ := p
  obtain ⟨qb, qs, qp, qr, qd⟩ := q
  have key : ∀ {r s : List UInt8}, (112 :: (numB pp ++ 32 :: 123 :: 32 :: 98 :: 97 :: 115 :: 101 :: 32 :: (hexL pb ++ 59 :: 32 :: 115 :: 105 :: 122 :: 101 :: 32 :: (numB ps ++ 59 :: 32 :: 114 :: 105 :: 103 :: 104 :: 116 :: 115 :: 32 :: (rightsW pr ++ 59 :: r)))) : List UInt8) = 112 :: (numB qp ++ 32 :: 123 :: 32 :: 98 :: 97 :: 115 :: 101 :: 32 :: (hexL qb ++ 59 :: 32 :: 115 :: 105 :: 122 :: 101 :: 32 :: (numB qs ++ 59 :: 32 :: 114 :: 105 :: 103 :: 104 :: 116 :: 115 :: 32 :: (rightsW qr ++ 59 :: s)))) → pp = qp ∧ pb = qb ∧ ps = qs ∧ pr = qr ∧ r = s := by
    intro r s h
    simp only [List.cons.injEq, true_and] at h
    obtain ⟨h1, h⟩ := num_cut (by rfl) (by rfl) h
    simp only [List.cons.injEq, true_and] at h
    obtain ⟨h2, h⟩ := hex_cut h
    simp only [List.cons.injEq, true_and] at h
    obtain ⟨h3, h⟩ := num_cut (by rfl) (by rfl) h
    simp only [List.cons.injEq, true_and] at h
    obtain ⟨h4, h⟩ := cut_stop (rights_59 pr) (rights_59 qr) (by rfl) (by rfl) h
    exact ⟨h1, h2, h3, rights_inj hp hq h4, (List.cons.inj h).2⟩
  cases pd with
  | false =>
    cases qd with
    | false =>
      simp only [regLn, regF, lnB, Bool.false_eq_true, if_false, List.append_nil, join_cons2, join_one, List.cons_append, List.nil_append, List.append_assoc, List.cons.injEq, true_and] at h
      obtain ⟨h1, h2, h3, h4, _⟩ := key (congrArg (List.cons 112) h)
      subst h1 h2 h3 h4; rfl
    | true =>
      simp only [regLn, regF, lnB, Bool.false_eq_true, if_false, if_true, List.append_nil, join_cons2, join_one, List.cons_append, List.nil_append, List.append_assoc, List.cons.injEq, true_and] at h
      obtain ⟨_, _, _, _, h5⟩ := key (congrArg (List.cons 112) h)
      simp at h5
  | true =>
    cases qd with
    | false =>
      simp only [regLn, regF, lnB, Bool.false_eq_true, if_false, if_true, List.append_nil, join_cons2, join_one, List.cons_append, List.nil_append, List.append_assoc, List.cons.injEq, true_and] at h
      obtain ⟨_, _, _, _, h5⟩ := key (congrArg (List.cons 112) h)
      simp at h5
    | true =>
      simp only [regLn, regF, lnB, if_true, join_cons2, join_one, List.cons_append, List.nil_append, List.append_assoc, List.cons.injEq, true_and] at h
      obtain ⟨h1, h2, h3, h4, _⟩ := key (congrArg (List.cons 112) h)
      subst h1 h2 h3 h4; rfl
theorem dir_cut {a b : Bool} {r s : List UInt8} (h : dirB a ++ r = dirB b ++ s) : a = b ∧ r = s := by
  cases a <;> cases b <;> simp [dirB] at h
  · exact ⟨rfl, h⟩
  · exact ⟨rfl, h⟩
theorem kind_cut {a b : Bool} {r s : List UInt8} (h : kindB a ++ r = kindB b ++ s) : a = b ∧ r = s := by
  cases a <;> cases b <;> simp [kindB] at h
  · exact ⟨rfl, h⟩
  · exact ⟨rfl, h⟩
theorem port_inj {p q : PortR} (hp : validS p.name = true) (hq : validS q.name = true) (h : portLn p = portLn q) : p = q := by
  simp only [portLn, lnB, join_cons2, join_one, List.cons_append, List.nil_append, List.append_assoc, List.cons.injEq, true_and] at h
  obtain ⟨h1, h⟩ := num_cut (by rfl) (by rfl) h
  obtain ⟨h2, h⟩ := name_cut hp hq (List.cons.inj h).2
  simp only [List.cons.injEq, true_and] at h
  obtain ⟨h3, h⟩ := num_cut (by rfl) (by rfl) h
  simp only [List.cons.injEq, true_and] at h
  obtain ⟨h4, h⟩ := dir_cut h
  simp only [List.cons.injEq, true_and] at h
  obtain ⟨h5, h⟩ := kind_cut h
  simp only [List.cons.injEq, true_and] at h
  obtain ⟨h6, h⟩ := num_cut (by rfl) (by rfl) h
  cases p; cases q; simp only at h1 h2 h3 h4 h5 h6; subst h1 h2 h3 h4 h5 h6; rfl
theorem dests_cut : ∀ {x y : Nat} {l m : List Nat} {r s : List UInt8}, join ((x :: l).map numB) [44, 32] ++ 59 :: r = join ((y :: m).map numB) [44, 32] ++ 59 :: s → x :: l = y :: m ∧ r = s
  | x, y, [], [], r, s, h => by
    simp only [List.map_cons, List.map_nil, join_one] at h
    obtain ⟨h1, h2⟩ := num_cut (by rfl) (by rfl) h
    exact ⟨by rw [h1], (List.cons.inj h2).2⟩
  | x, y, [], b :: m, r, s, h => by
    simp only [List.map_cons, List.map_nil, join_one, join_cons2, List.append_assoc, List.cons_append, List.nil_append] at h
    obtain ⟨_, h2⟩ := num_cut (by rfl) (by rfl) h
    exact absurd (List.cons.inj h2).1 (by decide)
  | x, y, a :: l, [], r, s, h => by
    simp only [List.map_cons, List.map_nil, join_one, join_cons2, List.append_assoc, List.cons_append, List.nil_append] at h
    obtain ⟨_, h2⟩ := num_cut (by rfl) (by rfl) h
    exact absurd (List.cons.inj h2).1 (by decide)
  | x, y, a :: l, b :: m, r, s, h => by
    simp only [List.map_cons, join_cons2, List.append_assoc, List.cons_append, List.nil_append] at h
    obtain ⟨h1, h2⟩ := num_cut (by rfl) (by rfl) h
    simp only [List.cons.injEq, true_and] at h2
    obtain ⟨h3, h4⟩ := dests_cut (x := a) (y := b) (l := l) (m := m) (by simpa only [List.map_cons] using h2)
    exact ⟨by rw [h1, h3], h4⟩
theorem to_cut {l m : List Nat} {r s : List UInt8} (h : toB l ++ 59 :: r = toB m ++ 59 :: s) : l = m := by
  cases l with
  | nil =>
    cases m with
    | nil => rfl
    | cons y m => simp [toB] at h
  | cons x l =>
    cases m with
    | nil => simp [toB] at h
    | cons y m =>
      unfold toB at h
      rw [if_neg (by simp), if_neg (by simp)] at h
      simp only [List.cons_append, List.nil_append, List.cons.injEq, true_and] at h
      exact (dests_cut h).1
def chanK (c : ChanR) : Nat × Nat × List Nat := (c.id, c.src, c.dests)
theorem chan_inj {p q : ChanR} (h : chanLn p = chanLn q) : chanK p = chanK q := by
  simp only [chanLn, lnB, join_cons2, join_one, List.cons_append, List.nil_append, List.append_assoc, List.cons.injEq, true_and] at h
  obtain ⟨h1, h⟩ := num_cut (by rfl) (by rfl) h
  simp only [List.cons.injEq, true_and] at h
  obtain ⟨h2, h⟩ := num_cut (by rfl) (by rfl) h
  simp only [List.cons.injEq, true_and] at h
  have h3 := to_cut h
  unfold chanK
  rw [h1, h2, h3]
/-! ### No line feed in a line -/
def nl (l : List UInt8) : Prop := ∀ u ∈ l, u ≠ 10
theorem nl_append {l m : List UInt8} (h : nl l) (k : nl m) : nl (l ++ m) := fun u hu => (List.mem_append.1 hu).elim (h u) (k u)
theorem nl_num (x : Nat) : nl (numB x) := fun u hu e => by have := num_dig x u hu; subst e; cases this
theorem nl_hex (x : Nat) : nl (hexL x) := by
  unfold hexL
  intro u hu
  rcases List.mem_cons.1 hu with rfl | hu
  · decide
  · rcases List.mem_cons.1 hu with rfl | hu
    · decide
    · refine digL_all (fun u => u ≠ 10) 16 (by omega) (fun d hd e => ?_) x u hu
      have := dg_toNat d hd
      rw [e] at this
      have h10 : (10 : UInt8).toNat = 10 := rfl
      rw [h10] at this
      split at this <;> omega
theorem nl_rights (r : Nat) : nl (rightsW r) := by
  intro u hu
  unfold rightsW at hu
  split at hu
  · revert u; decide
  · unfold lettersL at hu
    rw [List.mem_append, List.mem_append] at hu
    rcases hu with (hu | hu) | hu <;> split at hu <;> simp at hu <;> subst hu <;> decide
theorem nl_quote {s : ByteArray} (h : validS s = true) : nl (quoteN s) := by
  rw [quoteN_valid h]
  have hok : ∀ c ∈ s.data.toList, c ≠ 10 := by
    intro c hc e
    unfold validS validL at h
    rw [Bool.and_eq_true, List.all_eq_true] at h
    have := h.2 c hc
    subst e; cases this
  intro u hu
  rcases List.mem_cons.1 hu with rfl | hu
  · decide
  · rcases List.mem_append.1 hu with hu | hu
    · unfold quoteL at hu
      obtain ⟨c, hc, hu⟩ := List.mem_flatMap.1 hu
      unfold quoteB at hu
      split at hu
      · rcases List.mem_cons.1 hu with rfl | hu
        · decide
        · rw [List.mem_singleton] at hu; subst hu; exact hok _ hc
      · rw [List.mem_singleton] at hu; subst hu; exact hok _ hc
    · rw [List.mem_singleton] at hu; subst hu; decide
theorem nl_join {s : List UInt8} (hs : nl s) : ∀ {l : List (List UInt8)}, (∀ x ∈ l, nl x) → nl (join l s)
  | [], _ => fun u hu => (by cases hu)
  | [x], h => by rw [join_one]; exact h x List.mem_cons_self
  | x :: y :: l, h => by
    rw [join_cons2]
    exact nl_append (h x List.mem_cons_self) (nl_append hs (nl_join hs fun z hz => h z (List.mem_cons_of_mem _ hz)))
theorem nl_ln {a : List UInt8} {l : List (List UInt8)} (ha : nl a) (hl : ∀ x ∈ l, nl x) : nl (lnB a l) :=
  nl_append (nl_append (nl_append ha (by unfold nl; decide)) (nl_join (by unfold nl; decide) hl)) (by unfold nl; decide)
theorem nl_part {p : PartR} (h : validS p.name = true) : nl (partLn p) := by
  refine nl_ln (nl_append (nl_append (nl_append (by unfold nl; decide) (nl_num _)) (by unfold nl; decide)) (nl_quote h)) (fun x hx => ?_)
  rcases List.mem_cons.1 hx with rfl | hx
  · exact nl_append (by unfold nl; decide) (nl_num _)
  · rw [List.mem_singleton] at hx; subst hx; exact nl_append (by unfold nl; decide) (nl_num _)
theorem nl_win (p : WinR) : nl (winLn p) := by
  refine nl_ln (nl_append (by unfold nl; decide) (nl_num _)) (fun x hx => ?_)
  rcases List.mem_cons.1 hx with rfl | hx
  · exact nl_append (by unfold nl; decide) (nl_num _)
  · rw [List.mem_singleton] at hx; subst hx; exact nl_append (by unfold nl; decide) (nl_num _)
theorem nl_reg (p : RegR) : nl (regLn p) := by
  refine nl_ln (nl_append (by unfold nl; decide) (nl_num _)) (fun x hx => ?_)
  unfold regF at hx
  rcases List.mem_append.1 hx with hx | hx
  · rcases List.mem_cons.1 hx with rfl | hx
    · exact nl_append (by unfold nl; decide) (nl_hex _)
    · rcases List.mem_cons.1 hx with rfl | hx
      · exact nl_append (by unfold nl; decide) (nl_num _)
      · rw [List.mem_singleton] at hx; subst hx; exact nl_append (by unfold nl; decide) (nl_rights _)
  · split at hx
    · rw [List.mem_singleton] at hx; subst hx; unfold nl; decide
    · cases hx
theorem nl_port {p : PortR} (h : validS p.name = true) : nl (portLn p) := by
  refine nl_ln (nl_append (nl_append (nl_append (by unfold nl; decide) (nl_num _)) (by unfold nl; decide)) (nl_quote h)) (fun x hx => ?_)
  rcases List.mem_cons.1 hx with rfl | hx
  · exact nl_append (by unfold nl; decide) (nl_num _)
  · rcases List.mem_cons.1 hx with rfl | hx
    · cases p.out <;> (unfold nl; decide)
    · rcases List.mem_cons.1 hx with rfl | hx
      · cases p.que <;> (unfold nl; decide)
      · rw [List.mem_singleton] at hx; subst hx; exact nl_append (by unfold nl; decide) (nl_num _)
theorem nl_to (d : List Nat) : nl (toB d) := by
  unfold toB
  split
  · unfold nl; decide
  · refine nl_append (by unfold nl; decide) (nl_append (by unfold nl; decide) (nl_join (by unfold nl; decide) (fun x hx => ?_)))
    obtain ⟨y, _, rfl⟩ := List.mem_map.1 hx
    exact nl_num y
theorem nl_chan (p : ChanR) : nl (chanLn p) := by
  refine nl_ln (nl_append (by unfold nl; decide) (nl_num _)) (fun x hx => ?_)
  rcases List.mem_cons.1 hx with rfl | hx
  · exact nl_append (by unfold nl; decide) (nl_num _)
  · rw [List.mem_singleton] at hx; subst hx; exact nl_to _
/-! ### The whole -/
/-- A configuration's names and rights are right. -/
structure GoodC (c : Cfg) : Prop where
  parts : ∀ x ∈ c.parts.l, validS x.name = true
  ports : ∀ x ∈ c.ports.l, validS x.name = true
  regs : ∀ x ∈ c.regs.l, x.rights ≤ 7
theorem nl_lines {c : Cfg} (h : GoodC c) : ∀ x ∈ linesL c, nl x := by
  intro x hx
  unfold linesL at hx
  rcases List.mem_append.1 hx with hx | hx
  · obtain ⟨p, hp, rfl⟩ := List.mem_map.1 hx
    exact nl_part (h.parts p hp)
  · rcases List.mem_append.1 hx with hx | hx
    · obtain ⟨p, hp, rfl⟩ := List.mem_map.1 hx
      exact nl_win p
    · rcases List.mem_append.1 hx with hx | hx
      · obtain ⟨p, hp, rfl⟩ := List.mem_map.1 hx
        exact nl_reg p
      · rcases List.mem_append.1 hx with hx | hx
        · obtain ⟨p, hp, rfl⟩ := List.mem_map.1 hx
          exact nl_port (h.ports p hp)
        · obtain ⟨p, hp, rfl⟩ := List.mem_map.1 hx
          exact nl_chan p
def tag (a b : UInt8) (l : List UInt8) : Bool := decide (l.take 2 = [a, b])
theorem filter_yes {α : Type} {f : α → List UInt8} {a b : UInt8} (h : ∀ x, tag a b (f x) = true) (l : List α) : (l.map f).filter (tag a b) = l.map f := by
  rw [List.filter_eq_self]
  intro x hx
  obtain ⟨y, _, rfl⟩ := List.mem_map.1 hx
  exact h y
theorem filter_no {α : Type} {f : α → List UInt8} {a b : UInt8} (h : ∀ x, tag a b (f x) = false) (l : List α) : (l.map f).filter (tag a b) = [] := by
  rw [List.filter_eq_nil_iff]
  intro x hx
  obtain ⟨y, _, rfl⟩ := List.mem_map.1 hx
  rw [h y]; simp
theorem map_inj_on {α β : Type} {f : α → β} : ∀ {l m : List α}, (∀ x ∈ l, ∀ y ∈ m, f x = f y → x = y) → l.map f = m.map f → l = m
  | [], [], _, _ => rfl
  | [], y :: m, _, h => by cases h
  | x :: l, [], _, h => by cases h
  | x :: l, y :: m, hf, h => by
    rw [List.map_cons, List.map_cons] at h
    injection h with h1 h2
    rw [hf x List.mem_cons_self y List.mem_cons_self h1, map_inj_on (fun a ha b hb => hf a (List.mem_cons_of_mem _ ha) b (List.mem_cons_of_mem _ hb)) h2]
theorem tagP (a b : UInt8) (x : PartR) : tag a b (partLn x) = decide ([112, 97] = [a, b]) := rfl
theorem tagW (a b : UInt8) (x : WinR) : tag a b (winLn x) = decide ([119, 105] = [a, b]) := rfl
theorem tagR (a b : UInt8) (x : RegR) : tag a b (regLn x) = decide ([114, 101] = [a, b]) := rfl
theorem tagQ (a b : UInt8) (x : PortR) : tag a b (portLn x) = decide ([112, 111] = [a, b]) := rfl
theorem tagC (a b : UInt8) (x : ChanR) : tag a b (chanLn x) = decide ([99, 104] = [a, b]) := rfl
def eqC (a b : Cfg) : Prop := a.frame = b.frame ∧ a.parts.l = b.parts.l ∧ a.wins.l = b.wins.l ∧ a.regs.l = b.regs.l ∧ a.ports.l = b.ports.l ∧ a.chans.l.map chanK = b.chans.l.map chanK
theorem lines_inj {a b : Cfg} (ha : GoodC a) (hb : GoodC b) (h : linesL a = linesL b) : a.parts.l = b.parts.l ∧ a.wins.l = b.wins.l ∧ a.regs.l = b.regs.l ∧ a.ports.l = b.ports.l ∧ a.chans.l.map chanK = b.chans.l.map chanK := by
  have f1 := fun c : Cfg => show (linesL c).filter (tag 112 97) = c.parts.l.map partLn by
    unfold linesL
    rw [List.filter_append, List.filter_append, List.filter_append, List.filter_append, filter_yes (fun x => by rw [tagP]; rfl), filter_no (fun x => by rw [tagW]; rfl), filter_no (fun x => by rw [tagR]; rfl), filter_no (fun x => by rw [tagQ]; rfl), filter_no (fun x => by rw [tagC]; rfl)]
    simp
  have f2 := fun c : Cfg => show (linesL c).filter (tag 119 105) = c.wins.l.map winLn by
    unfold linesL
    rw [List.filter_append, List.filter_append, List.filter_append, List.filter_append, filter_no (fun x => by rw [tagP]; rfl), filter_yes (fun x => by rw [tagW]; rfl), filter_no (fun x => by rw [tagR]; rfl), filter_no (fun x => by rw [tagQ]; rfl), filter_no (fun x => by rw [tagC]; rfl)]
    simp
  have f3 := fun c : Cfg => show (linesL c).filter (tag 114 101) = c.regs.l.map regLn by
    unfold linesL
    rw [List.filter_append, List.filter_append, List.filter_append, List.filter_append, filter_no (fun x => by rw [tagP]; rfl), filter_no (fun x => by rw [tagW]; rfl), filter_yes (fun x => by rw [tagR]; rfl), filter_no (fun x => by rw [tagQ]; rfl), filter_no (fun x => by rw [tagC]; rfl)]
    simp
  have f4 := fun c : Cfg => show (linesL c).filter (tag 112 111) = c.ports.l.map portLn by
    unfold linesL
    rw [List.filter_append, List.filter_append, List.filter_append, List.filter_append, filter_no (fun x => by rw [tagP]; rfl), filter_no (fun x => by rw [tagW]; rfl), filter_no (fun x => by rw [tagR]; rfl), filter_yes (fun x => by rw [tagQ]; rfl), filter_no (fun x => by rw [tagC]; rfl)]
    simp
  have f5 := fun c : Cfg => show (linesL c).filter (tag 99 104) = c.chans.l.map chanLn by
    unfold linesL
    rw [List.filter_append, List.filter_append, List.filter_append, List.filter_append, filter_no (fun x => by rw [tagP]; rfl), filter_no (fun x => by rw [tagW]; rfl), filter_no (fun x => by rw [tagR]; rfl), filter_no (fun x => by rw [tagQ]; rfl), filter_yes (fun x => by rw [tagC]; rfl)]
    simp
  refine ⟨?_, ?_, ?_, ?_, ?_⟩
  · have := f1 a; rw [h, f1 b] at this
    exact (map_inj_on (fun x hx y hy e => part_inj (hb.parts x hx) (ha.parts y hy) e) this).symm
  · have := f2 a; rw [h, f2 b] at this
    exact (map_inj_on (fun x hx y hy e => win_inj e) this).symm
  · have := f3 a; rw [h, f3 b] at this
    exact (map_inj_on (fun x hx y hy e => reg_inj (hb.regs x hx) (ha.regs y hy) e) this).symm
  · have := f4 a; rw [h, f4 b] at this
    exact (map_inj_on (fun x hx y hy e => port_inj (hb.ports x hx) (ha.ports y hy) e) this).symm
  · have := f5 a; rw [h, f5 b] at this
    have key : ∀ {l m : List ChanR}, l.map chanLn = m.map chanLn → l.map chanK = m.map chanK := by
      intro l
      induction l with
      | nil => intro m h; cases m with
        | nil => rfl
        | cons y m => cases h
      | cons x l ih => intro m h; cases m with
        | nil => cases h
        | cons y m =>
          rw [List.map_cons, List.map_cons] at h
          injection h with h1 h2
          rw [List.map_cons, List.map_cons, chan_inj h1, ih h2]
    exact (key this).symm
theorem print_inj {a b : Cfg} (ha : GoodC a) (hb : GoodC b) (h : printL a = printL b) : eqC a b := by
  unfold printL at h
  simp only [List.append_assoc, List.append_cancel_left_eq] at h
  have hn : ∀ n, nl (frameB n) := fun n => nl_append (nl_append (by unfold nl; decide) (nl_num n)) (by unfold nl; decide)
  have h2 := tab_inj (r := [125, 10]) (fun t e => by cases e) (fun x hx => by
      rcases List.mem_cons.1 hx with rfl | hx
      · exact hn _
      · exact nl_lines ha x hx) (fun x hx => by
      rcases List.mem_cons.1 hx with rfl | hx
      · exact hn _
      · exact nl_lines hb x hx) h
  injection h2 with h3 h4
  refine ⟨?_, lines_inj ha hb h4⟩
  unfold frameB at h3
  simp only [List.append_assoc, List.append_cancel_left_eq] at h3
  exact (num_cut (by rfl) (by rfl) h3).1
theorem print_eq {a b : Cfg} (h : eqC a b) : printL a = printL b := by
  obtain ⟨h1, h2, h3, h4, h5, h6⟩ := h
  have h7 : a.chans.l.map chanLn = b.chans.l.map chanLn := by
    have e : chanLn = (fun k : Nat × Nat × List Nat => lnB ([99, 104, 97, 110, 110, 101, 108, 32] ++ numB k.1) [[115, 111, 117, 114, 99, 101, 32] ++ numB k.2.1, toB k.2.2]) ∘ chanK := rfl
    rw [e, ← List.map_map, ← List.map_map, h6]
  unfold printL linesL
  rw [h1, h2, h3, h4, h5, h7]
end Go.Proofs.YtcnihmlmaigkdaaGreatDoor
namespace Go.Proofs.YtcnihmlmaigkdaaGreatDoor
open Go.Lib
set_option linter.unusedVariables false

def lessL : List Nat → List Nat → Bool
  | [], [] => false
  | [], _ :: _ => true
  | _ :: _, [] => false
  | a :: l, b :: m => if a = b then lessL l m else decide (a < b)
def bitN (b : Bool) : Nat := if b then 1 else 0
theorem bit_inj {a b : Bool} (h : bitN a = bitN b) : a = b := by cases a <;> cases b <;> first | rfl | cases h
def textN (s : ByteArray) : List Nat := s.data.toList.map (fun u => u.toNat + 1) ++ [0]
def keyP (p : PartR) : List Nat := p.id :: (textN p.name ++ [p.per, p.dur])
def keyW (x : WinR) : List Nat := [x.st, x.len, x.part]
def keyR (r : RegR) : List Nat := [r.base, r.size, r.part, r.rights, bitN r.shared]
def keyQ (p : PortR) : List Nat := p.id :: p.part :: (textN p.name ++ [bitN p.out, bitN p.que, p.size])
def keyC (c : ChanR) : List Nat := c.id :: c.src :: c.dests
def keysOf (c : Cfg) : Nat → List (List Nat)
  | 1 => c.parts.l.map keyP
  | 2 => c.wins.l.map keyW
  | 3 => c.regs.l.map keyR
  | 4 => c.ports.l.map keyQ
  | 5 => c.chans.l.map keyC
  | _ => []
/-- What Same answers. -/
def sameB (a b : Cfg) : Bool := decide (a.frame = b.frame) && (List.range 5).all fun s => decide (keysOf a (s + 1) = keysOf b (s + 1))
theorem bytes_cut : ∀ {l m : List UInt8} {r s : List Nat}, l.map (fun u => u.toNat + 1) ++ 0 :: r = m.map (fun u => u.toNat + 1) ++ 0 :: s → l = m ∧ r = s
  | [], [], r, s, h => ⟨rfl, (List.cons.inj h).2⟩
  | [], y :: m, r, s, h => by
    have h1 : 0 = y.toNat + 1 := (List.cons.inj h).1
    omega
  | x :: l, [], r, s, h => by
    have h1 : x.toNat + 1 = 0 := (List.cons.inj h).1
    omega
  | x :: l, y :: m, r, s, h => by
    obtain ⟨h1, h2⟩ := List.cons.inj h
    obtain ⟨h3, h4⟩ := bytes_cut h2
    have h5 : x.toNat + 1 = y.toNat + 1 := h1
    have : x = y := UInt8.toNat_inj.1 (by omega)
    exact ⟨by rw [this, h3], h4⟩
theorem text_cut {a b : ByteArray} {r s : List Nat} (h : textN a ++ r = textN b ++ s) : a = b ∧ r = s := by
  unfold textN at h
  rw [List.append_assoc, List.append_assoc] at h
  obtain ⟨h1, h2⟩ := bytes_cut h
  refine ⟨?_, h2⟩
  cases a with
  | mk x => cases b with
    | mk y => exact congrArg ByteArray.mk (Array.toList_inj.1 h1)
theorem keyP_inj {p q : PartR} (h : keyP p = keyP q) : p = q := by
  unfold keyP at h
  obtain ⟨h1, h⟩ := List.cons.inj h
  obtain ⟨h2, h⟩ := text_cut h
  simp only [List.cons.injEq, and_true] at h
  cases p; cases q; simp only at h1 h2 h; obtain ⟨h3, h4⟩ := h; subst h1 h2 h3 h4; rfl
theorem keyW_inj {p q : WinR} (h : keyW p = keyW q) : p = q := by
  unfold keyW at h
  simp only [List.cons.injEq, and_true] at h
  cases p; cases q; simp only at h; obtain ⟨h1, h2, h3⟩ := h; subst h1 h2 h3; rfl
theorem keyR_inj {p q : RegR} (h : keyR p = keyR q) : p = q := by
  unfold keyR at h
  simp only [List.cons.injEq, and_true] at h
  cases p; cases q; simp only at h; obtain ⟨h1, h2, h3, h4, h5⟩ := h; have h5 := bit_inj h5; subst h1 h2 h3 h4 h5; rfl
theorem keyQ_inj {p q : PortR} (h : keyQ p = keyQ q) : p = q := by
  unfold keyQ at h
  obtain ⟨h1, h⟩ := List.cons.inj h
  obtain ⟨h2, h⟩ := List.cons.inj h
  obtain ⟨h3, h⟩ := text_cut h
  simp only [List.cons.injEq, and_true] at h
  cases p; cases q; simp only at h1 h2 h3 h; obtain ⟨h4, h5, h6⟩ := h; have h4 := bit_inj h4; have h5 := bit_inj h5; subst h1 h2 h3 h4 h5 h6; rfl
theorem keyC_map : ∀ {l m : List ChanR}, l.map keyC = m.map keyC ↔ l.map chanK = m.map chanK
  | [], [] => ⟨fun _ => rfl, fun _ => rfl⟩
  | [], y :: m => ⟨fun h => (by cases h), fun h => (by cases h)⟩
  | x :: l, [] => ⟨fun h => (by cases h), fun h => (by cases h)⟩
  | x :: l, y :: m => by
    rw [List.map_cons, List.map_cons, List.map_cons, List.map_cons, List.cons.injEq, List.cons.injEq, keyC_map (l := l) (m := m)]
    have : keyC x = keyC y ↔ chanK x = chanK y := by
      unfold keyC chanK
      simp only [List.cons.injEq, Prod.mk.injEq]
    rw [this]
theorem map_iff {α β : Type} {f : α → β} (hf : ∀ {x y}, f x = f y → x = y) {l m : List α} : l.map f = m.map f ↔ l = m :=
  ⟨fun h => map_inj_on (fun _ _ _ _ e => hf e) h, fun h => by rw [h]⟩
theorem same_iff (a b : Cfg) : sameB a b = true ↔ eqC a b := by
  unfold sameB eqC
  rw [Bool.and_eq_true, decide_eq_true_eq, List.all_eq_true]
  have r5 : ∀ P : Nat → Prop, (∀ x ∈ List.range 5, P x) ↔ P 0 ∧ P 1 ∧ P 2 ∧ P 3 ∧ P 4 := by
    intro P
    have : List.range 5 = [0, 1, 2, 3, 4] := rfl
    rw [this]; simp
  rw [r5]
  simp only [decide_eq_true_eq, keysOf]
  rw [map_iff keyP_inj, map_iff keyW_inj, map_iff keyR_inj, map_iff keyQ_inj, keyC_map]
/-- ShowOnce. -/
theorem once_law {a b : Cfg} (ha : GoodC a) (hb : GoodC b) : decide (printL a = printL b) = sameB a b := by
  cases h : sameB a b with
  | true => rw [decide_eq_true_eq]; exact print_eq ((same_iff a b).1 h)
  | false =>
    rw [decide_eq_false_iff_not]
    intro e
    rw [(same_iff a b).2 (print_inj ha hb e)] at h
    cases h
/-! ### Within -/
def limN (s : Nat) : Nat := if s = 1 then 64 else if s = 5 then 512 else 1024
def cntN (c : Cfg) (s : Nat) : Nat := [0, c.parts.l.length, c.wins.l.length, c.regs.l.length, c.ports.l.length, c.chans.l.length, linksN c.chans.l].getD s 0
def withinB (c : Cfg) : Bool := ((List.range 6).all fun s => decide (cntN c (s + 1) ≤ limN (s + 1))) && c.parts.l.all (fun p => validS p.name) && c.ports.l.all (fun p => validS p.name) && c.regs.l.all (fun r => decide (r.rights ≤ 7))
theorem within_good {c : Cfg} (h : withinB c = true) : GoodC c := by
  unfold withinB at h
  rw [Bool.and_eq_true, Bool.and_eq_true, Bool.and_eq_true, List.all_eq_true, List.all_eq_true, List.all_eq_true, List.all_eq_true] at h
  exact ⟨fun x hx => h.1.1.2 x hx, fun x hx => h.1.2 x hx, fun x hx => by simpa using h.2 x hx⟩
end Go.Proofs.YtcnihmlmaigkdaaGreatDoor
