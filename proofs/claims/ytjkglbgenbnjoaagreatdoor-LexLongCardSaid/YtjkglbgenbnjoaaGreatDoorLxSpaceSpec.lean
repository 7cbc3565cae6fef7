/- The tokens of two texts with a line feed between them, in plain words (chapter 06). No program in sight. -/
import Derived.Test.YtjkglbgenbnjoaaGreatDoorLxSpec
namespace Go.Proofs.YtjkglbgenbnjoaaGreatDoor
open Go.Lib

theorem spc_join : ∀ (l q : List UInt8) (e : Bool), spc e (l ++ 10 :: q) = if spc e l = l.length then l.length + 1 + spc false q else spc e l := by
  intro l q
  induction l with
  | nil =>
    intro e
    cases e
    · show spc false (10 :: q) = _
      rw [if_pos (show spc false [] = ([] : List UInt8).length from rfl)]
      simp only [spc]
      rw [if_neg (by decide), if_pos (by decide)]; simp
    · show spc true (10 :: q) = _
      rw [if_pos (show spc true [] = ([] : List UInt8).length from rfl)]
      simp only [spc]
      simp
  | cons c l ih =>
    intro e
    have step : ∀ e', 1 + spc e' (l ++ 10 :: q) = if 1 + spc e' l = (c :: l).length then (c :: l).length + 1 + spc false q else 1 + spc e' l := by
      intro e'
      rw [ih e', List.length_cons]
      by_cases h : spc e' l = l.length
      · rw [if_pos h, if_pos (by omega)]; omega
      · rw [if_neg h, if_neg (by omega)]
    rw [List.cons_append]
    cases e
    · simp only [spc]
      split
      · exact step true
      · split
        · exact step false
        · rw [if_neg (by simp)]
    · simp only [spc]
      split
      · exact step false
      · exact step true
theorem runLen_join (p : UInt8 → Bool) (hp : p 10 = false) : ∀ (l q : List UInt8), runLen p (l ++ 10 :: q) = runLen p l := by
  intro l q
  induction l with
  | nil => show runLen p (10 :: q) = 0; exact runLen_cons_no p 10 q hp
  | cons c l ih =>
    rw [List.cons_append]
    simp only [runLen]
    rw [ih]
theorem goL_append : ∀ (l q : List UInt8) (e o : Bool) (a : List UInt8) (x : List UInt8 × Bool × Nat), goL e o a l = some x → goL e o a (l ++ q) = some x := by
  intro l q
  induction l with
  | nil => intro e o a x h; cases h
  | cons c l ih =>
    intro e o a x h
    have step : ∀ (e' o' : Bool) (a' : List UInt8), (goL e' o' a' l).map (fun x => (x.1, x.2.1, x.2.2 + 1)) = some x → (goL e' o' a' (l ++ q)).map (fun x => (x.1, x.2.1, x.2.2 + 1)) = some x := by
      intro e' o' a' h
      cases hg : goL e' o' a' l with
      | none => rw [hg] at h; cases h
      | some y => rw [hg] at h; rw [ih e' o' a' y hg]; exact h
    rw [List.cons_append]
    rw [goL] at h ⊢
    split at h
    · rename_i h1; rw [if_pos h1]; exact step _ _ _ h
    · rename_i h1
      rw [if_neg h1]
      split at h
      · rename_i h2; rw [if_pos h2]; exact h
      · rename_i h2
        rw [if_neg h2]
        split at h
        · rename_i h3; rw [if_pos h3]; exact step _ _ _ h
        · rename_i h3; rw [if_neg h3]; exact step _ _ _ h
/-- A token at the head of a list. -/
def tokL : List UInt8 → Tk
  | [] => .tok 0 [] 0 0
  | c :: r =>
    if isLet c = true then .tok 1 ((c :: r).take (runLen isLet (c :: r))) 0 (runLen isLet (c :: r))
    else if isDig c = true then
      match parseN ((c :: r).take (runLen isAl (c :: r))) with
      | some v => .tok 2 ((c :: r).take (runLen isAl (c :: r))) v (runLen isAl (c :: r))
      | none => .bad 5
    else if c = 34 then
      match goL false true [] r with
      | some (n, ok, m) => if (ok && validL n) = true then .tok 3 n 0 (1 + m) else .bad 6
      | none => .bad 6
    else if isSign c = true then .tok 4 [c] 0 1
    else .bad 3
def Tk.shift (k : Nat) : Tk → Tk
  | .tok kind text v n => .tok kind text v (k + n)
  | .bad c => .bad c
theorem tokAt_tokL (s : ByteArray) (k : Nat) : tokAt s k = (tokL (s.data.toList.drop k)).shift k := by
  have hs := Lib.size_eq s
  unfold tokAt
  cases hd : s.data.toList.drop k with
  | nil => rfl
  | cons c r =>
    have hlt : k < s.size := by
      rcases Nat.lt_or_ge k s.size with h | h
      · exact h
      · rw [List.drop_of_length_le (by omega)] at hd; cases hd
    have hc : c = s[k] ∧ r = s.data.toList.drop (k + 1) := by
      rw [drop_cons s k hlt] at hd
      injection hd with h1 h2
      exact ⟨h1.symm, h2.symm⟩
    simp only [tokL]
    split
    · rfl
    · split
      · cases hp : parseN ((c :: r).take (runLen isAl (c :: r))) with
        | none => rfl
        | some v => rfl
      · split
        · rename_i h34
          have h3 := scanR_in s k hlt (by rw [← hc.1]; exact h34)
          rw [h3, ← hc.2]
          cases goL false true [] r with
          | none => rfl
          | some x =>
            obtain ⟨n, o, m⟩ := x
            by_cases hv : (o && validL n) = true
            · have e : final (some (n, o, m)) (k + 1) = (n, k + 1 + m, 0) := by
                show okR o n (k + 1 + m) = _
                unfold okR
                rw [if_pos hv]
              rw [e]
              simp only
              rw [if_pos hv]
              show Tk.tok 3 n 0 (k + 1 + m) = Tk.tok 3 n 0 (k + (1 + m))
              rw [Nat.add_assoc]
            · have e : final (some (n, o, m)) (k + 1) = badR := by
                show okR o n (k + 1 + m) = _
                unfold okR
                rw [if_neg hv]
              rw [e]
              simp only
              rw [if_neg hv]
              rfl
        · split
          · rfl
          · rfl
theorem tokL_join (c : UInt8) (r q : List UInt8) (kind v n : Nat) (text : List UInt8) (h : tokL (c :: r) = .tok kind text v n) : tokL (c :: r ++ 10 :: q) = .tok kind text v n := by
  have e1 := runLen_join isLet (by decide) (c :: r) q
  have e2 := runLen_join isAl (by decide) (c :: r) q
  have t1 : (c :: r ++ 10 :: q).take (runLen isLet (c :: r)) = (c :: r).take (runLen isLet (c :: r)) := by
    rw [List.take_append_of_le_length (runLen_le _ _)]
  have t2 : (c :: r ++ 10 :: q).take (runLen isAl (c :: r)) = (c :: r).take (runLen isAl (c :: r)) := by
    rw [List.take_append_of_le_length (runLen_le _ _)]
  rw [List.cons_append] at e1 e2 t1 t2 ⊢
  simp only [tokL] at h ⊢
  rw [e1, e2, t1, t2]
  split at h
  · rename_i h1; rw [if_pos h1]; exact h
  · rename_i h1
    rw [if_neg h1]
    split at h
    · rename_i h2; rw [if_pos h2]; exact h
    · rename_i h2
      rw [if_neg h2]
      split at h
      · rename_i h3
        rw [if_pos h3]
        cases hg : goL false true [] r with
        | none => rw [hg] at h; cases h
        | some x => rw [hg] at h; rw [goL_append r (10 :: q) _ _ _ x hg]; exact h
      · rename_i h3
        rw [if_neg h3]
        split at h
        · rename_i h4; rw [if_pos h4]; exact h
        · cases h

/-! ### The tokens from an offset on: enough rounds -/
theorem toks_fuel (s : ByteArray) : ∀ (f g k : Nat), k ≤ s.size → s.size < f + k → s.size < g + k → toks s f k = toks s g k := by
  intro f
  induction f with
  | zero => intro g k h1 h2 h3; omega
  | succ f ih =>
    intro g k h1 h2 h3
    obtain ⟨g, rfl⟩ : ∃ g', g = g' + 1 := ⟨g - 1, by omega⟩
    rw [toks, toks]
    cases hT : tokAt s (skipAt s k) with
    | bad e => rfl
    | tok kind text v stop =>
      simp only
      by_cases hk : kind = 0
      · rw [if_pos hk, if_pos hk]
      · rw [if_neg hk, if_neg hk]
        have hst := tokAt_stop s (skipAt s k) kind v stop text hT (skipAt_le s k h1)
        have hlt := hst.2 hk
        have hge := skipAt_ge s k
        rw [ih g stop hst.1 (by omega) (by omega)]
def shiftT (n : Nat) (t : Token) : Token := ⟨t.kind, t.text, t.val, t.line + n, t.col⟩
theorem placeFrom_shift (n : Nat) : ∀ (l : List UInt8) (p : Nat × Nat), placeFrom (p.1 + n, p.2) l = ((placeFrom p l).1 + n, (placeFrom p l).2) := by
  intro l
  induction l with
  | nil => intro p; rfl
  | cons c l ih =>
    intro p
    show placeFrom (pass (p.1 + n, p.2) c) l = _
    have e : pass (p.1 + n, p.2) c = ((pass p c).1 + n, (pass p c).2) := by
      unfold pass
      split
      · show (p.1 + n + 1, 1) = (p.1 + 1 + n, 1); congr 1; omega
      · rfl
    rw [e, ih (pass p c)]; rfl
theorem placeFrom_line : ∀ (l : List UInt8) (p : Nat × Nat), (placeFrom p l).1 = p.1 + l.count 10 := by
  intro l
  induction l with
  | nil => intro p; rfl
  | cons c l ih =>
    intro p
    show (placeFrom (pass p c) l).1 = _
    rw [ih (pass p c)]
    unfold pass
    by_cases h : c = 10
    · rw [if_pos h, h, List.count_cons_self]; simp only; omega
    · rw [if_neg h, List.count_cons_of_ne h]
def Out.shift (n : Nat) : Out → Out
  | .ok l => .ok (l.map (shiftT n))
  | .bad e i j => .bad e (i + n) j
theorem Tk.shift_shift (m k : Nat) (T : Tk) : (T.shift k).shift m = T.shift (m + k) := by
  cases T with
  | tok kind text v n => show Tk.tok kind text v (m + (k + n)) = Tk.tok kind text v (m + k + n); rw [Nat.add_assoc]
  | bad c => rfl
theorem tokL_kind (c : UInt8) (r : List UInt8) (text : List UInt8) (v n : Nat) : tokL (c :: r) ≠ .tok 0 text v n := by
  intro h
  simp only [tokL] at h
  split at h
  · injection h with h1; omega
  · split at h
    · split at h
      · injection h with h1; omega
      · cases h
    · split at h
      · split at h
        · split at h
          · injection h with h1; omega
          · cases h
        · cases h
      · split at h
        · injection h with h1; omega
        · cases h

section
variable (a b A : ByteArray) (hA : A.data.toList = a.data.toList ++ 10 :: b.data.toList)
include hA

theorem join_size : A.size = a.size + 1 + b.size := by
  rw [Lib.size_eq A, Lib.size_eq a, Lib.size_eq b, hA]; simp; omega
theorem drop_b (j : Nat) : A.data.toList.drop (a.size + 1 + j) = b.data.toList.drop j := by
  rw [hA, List.drop_append, List.drop_of_length_le (by rw [← Lib.size_eq]; omega), List.nil_append, ← Lib.size_eq]
  rw [show a.size + 1 + j - a.size = j + 1 by omega, List.drop_succ_cons]
theorem skip_b (j : Nat) : skipAt A (a.size + 1 + j) = a.size + 1 + skipAt b j := by
  unfold skipAt
  rw [drop_b a b A hA]; omega
theorem tok_b (j : Nat) : tokAt A (a.size + 1 + j) = (tokAt b j).shift (a.size + 1) := by
  rw [tokAt_tokL, tokAt_tokL, drop_b a b A hA, Tk.shift_shift]
theorem place_a (k : Nat) (hk : k ≤ a.size) : placeAt A k = placeAt a k := by
  unfold placeAt
  rw [hA, List.take_append_of_le_length (by rw [← Lib.size_eq]; exact hk)]
theorem place_b (j : Nat) : placeAt A (a.size + 1 + j) = ((placeAt b j).1 + (1 + a.data.toList.count 10), (placeAt b j).2) := by
  have e1 : A.data.toList.take (a.size + 1 + j) = a.data.toList ++ 10 :: b.data.toList.take j := by
    rw [hA, List.take_append, List.take_of_length_le (by rw [← Lib.size_eq]; omega), ← Lib.size_eq]
    rw [show a.size + 1 + j - a.size = j + 1 by omega, List.take_succ_cons]
  unfold placeAt
  rw [e1, placeFrom_append]
  have e2 : placeFrom (placeFrom (1, 1) a.data.toList) (10 :: b.data.toList.take j) = placeFrom (1 + (1 + a.data.toList.count 10), 1) (b.data.toList.take j) := by
    show placeFrom (pass _ 10) _ = _
    unfold pass
    rw [if_pos rfl, placeFrom_line a.data.toList (1, 1)]
    congr 2
    omega
  rw [e2]
  exact placeFrom_shift (1 + a.data.toList.count 10) (b.data.toList.take j) (1, 1)
theorem mk_b (j kind v : Nat) (text : List UInt8) : mkTok A (a.size + 1 + j) kind text v = shiftT (1 + a.data.toList.count 10) (mkTok b j kind text v) := by
  unfold mkTok shiftT
  rw [place_b a b A hA]
theorem toks_b : ∀ (f j : Nat), toks A f (a.size + 1 + j) = (toks b f j).shift (1 + a.data.toList.count 10) := by
  intro f
  induction f with
  | zero => intro j; rfl
  | succ f ih =>
    intro j
    rw [toks, toks, skip_b a b A hA, tok_b a b A hA]
    cases hT : tokAt b (skipAt b j) with
    | bad e =>
      show Out.bad e _ _ = Out.bad e _ _
      rw [place_b a b A hA]
    | tok kind text v stop =>
      show (if kind = 0 then _ else _) = Out.shift _ (if kind = 0 then _ else _)
      rw [mk_b a b A hA]
      by_cases hk : kind = 0
      · rw [if_pos hk, if_pos hk]; rfl
      · rw [if_neg hk, if_neg hk, ih stop]
        cases toks b f stop with
        | ok l => rfl
        | bad e i j => rfl
theorem skip_a (k : Nat) (hk : k ≤ a.size) : skipAt A k = if skipAt a k = a.size then a.size + 1 + skipAt b 0 else skipAt a k := by
  have hd : A.data.toList.drop k = a.data.toList.drop k ++ 10 :: b.data.toList := by
    rw [hA, List.drop_append_of_le_length (by rw [← Lib.size_eq]; exact hk)]
  have hl : (a.data.toList.drop k).length = a.size - k := by rw [List.length_drop, ← Lib.size_eq]
  unfold skipAt
  rw [hd, spc_join, hl, List.drop_zero]
  by_cases h : spc false (a.data.toList.drop k) = a.size - k
  · rw [if_pos h, if_pos (by omega)]; omega
  · rw [if_neg h, if_neg (by omega)]
theorem tok_a (J kind v stop : Nat) (text : List UInt8) (hJ : J < a.size) (h : tokAt a J = .tok kind text v stop) : tokAt A J = .tok kind text v stop ∧ kind ≠ 0 := by
  have hd := drop_cons a J hJ
  have hd2 : A.data.toList.drop J = a[J] :: a.data.toList.drop (J + 1) ++ 10 :: b.data.toList := by
    rw [hA, List.drop_append_of_le_length (by rw [← Lib.size_eq]; omega), hd]
  rw [tokAt_tokL, hd] at h
  cases hT : tokL (a[J] :: a.data.toList.drop (J + 1)) with
  | bad c => rw [hT] at h; cases h
  | tok kind2 text2 v2 n =>
    have hj := tokL_join _ _ b.data.toList _ _ _ _ hT
    rw [hT] at h
    injection h with h1 h2 h3 h4
    subst h1 h2 h3 h4
    rw [tokAt_tokL, hd2, hj]
    refine ⟨rfl, fun h0 => ?_⟩
    subst h0
    exact tokL_kind _ _ _ _ _ hT
theorem toks_join (y : List Token) (hy : toks b (b.size + 1) 0 = .ok y) : ∀ (f k : Nat) (x : List Token), k ≤ a.size → a.size < f + k → toks a f k = .ok x →
    ∀ F, A.size < F + k → toks A F k = .ok (x.dropLast ++ y.map (shiftT (1 + a.data.toList.count 10))) ∧ x ≠ [] := by
  have hAs := join_size a b A hA
  intro f
  induction f with
  | zero => intro k x h1 h2; omega
  | succ f ih =>
    intro k x hk hf hx F hF
    obtain ⟨F, rfl⟩ : ∃ F', F = F' + 1 := ⟨F - 1, by omega⟩
    have hJs := skipAt_le a k hk
    have hJk := skipAt_ge a k
    rw [toks] at hx
    by_cases hJ : skipAt a k = a.size
    · have e0 : toks A (F + 1) k = toks A (F + 1) (a.size + 1 + 0) := by
        rw [toks, toks, skip_a a b A hA k hk, if_pos hJ, skip_b a b A hA]
      have e1 : tokAt a (skipAt a k) = .tok 0 [] 0 (skipAt a k) := by
        unfold tokAt
        rw [List.drop_of_length_le (by rw [← Lib.size_eq]; omega)]
      rw [e1] at hx
      simp only at hx
      rw [if_pos trivial] at hx
      injection hx with hx
      rw [e0, toks_b a b A hA, toks_fuel b (F + 1) (b.size + 1) 0 (Nat.zero_le _) (by omega) (by omega), hy, ← hx]
      exact ⟨rfl, by simp⟩
    · have hJlt : skipAt a k < a.size := by omega
      cases hT : tokAt a (skipAt a k) with
      | bad e => rw [hT] at hx; cases hx
      | tok kind text v stop =>
        obtain ⟨hTA, hk0⟩ := tok_a a b A hA _ _ _ _ _ hJlt hT
        have hst := tokAt_stop a (skipAt a k) kind v stop text hT hJs
        have hlt := hst.2 hk0
        rw [hT] at hx
        simp only at hx
        rw [if_neg hk0] at hx
        cases hr : toks a f stop with
        | bad e i j => rw [hr] at hx; cases hx
        | ok x' =>
          rw [hr] at hx
          injection hx with hx
          obtain ⟨h1, h2⟩ := ih stop x' hst.1 (by omega) hr F (by omega)
          rw [toks, skip_a a b A hA k hk, if_neg hJ, hTA]
          simp only
          rw [if_neg hk0, h1, ← hx]
          refine ⟨?_, by simp⟩
          have e3 : mkTok A (skipAt a k) kind text v = mkTok a (skipAt a k) kind text v := by
            unfold mkTok; rw [place_a a b A hA _ hJs]
          rw [e3]
          show Out.ok _ = Out.ok _
          cases x' with
          | nil => exact absurd rfl h2
          | cons t l => rfl
end
end Go.Proofs.YtjkglbgenbnjoaaGreatDoor
