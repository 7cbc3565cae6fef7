/- The tokens of a text, in plain words (chapter 06). No program in sight. Tokens as values, and what the lexer answers (chapter 06). The tokens of two texts with a line feed between them, in plain words (chapter 06). No program in sight. The tokens of a joined text, in plain words (chapter 06). No program in sight. -/
import Derived.Test.YtcnihmlmaigkdaaGreatDoorMNuSpec
import Derived.Test.YtcnihmlmaigkdaaGreatDoorMNmSpec
import Derived.WalkKit
namespace Go.Proofs.YtcnihmlmaigkdaaGreatDoor
open Go.Lib

def isSp (c : UInt8) : Bool := c == 32 || c == 9 || c == 10 || c == 13
def isLet (c : UInt8) : Bool := decide (97 ≤ c.toNat) && decide (c.toNat ≤ 122)
def isDig (c : UInt8) : Bool := decide (48 ≤ c.toNat) && decide (c.toNat ≤ 57)
def isSign (c : UInt8) : Bool := c == 123 || c == 125 || c == 59 || c == 44
def isAl (c : UInt8) : Bool := isLet c || isDig c
/-- How many bytes of spacing lie at the head; 'true': inside a comment. -/
def spc : Bool → List UInt8 → Nat
  | _, [] => 0
  | false, c :: r => if c = 35 then 1 + spc true r else if isSp c = true then 1 + spc false r else 0
  | true, c :: r => if c = 10 then 1 + spc false r else 1 + spc true r
def runLen (p : UInt8 → Bool) : List UInt8 → Nat
  | [] => 0
  | c :: r => if p c = true then 1 + runLen p r else 0
theorem spc_le : ∀ (l : List UInt8) (b : Bool), spc b l ≤ l.length := by
  intro l
  induction l with
  | nil => intro b; cases b <;> simp [spc]
  | cons c r ih =>
    intro b
    have h1 := ih true
    have h2 := ih false
    cases b
    · simp only [spc]
      split
      · simp; omega
      · split
        · simp; omega
        · simp
    · simp only [spc]
      split <;> (simp; omega)
theorem runLen_le (p : UInt8 → Bool) : ∀ l : List UInt8, runLen p l ≤ l.length := by
  intro l
  induction l with
  | nil => simp [runLen]
  | cons c r ih => simp only [runLen]; split <;> (simp; try omega)
/-- A place: the line and the column. -/
def pass (p : Nat × Nat) (c : UInt8) : Nat × Nat := if c = 10 then (p.1 + 1, 1) else (p.1, p.2 + 1)
def placeFrom (p : Nat × Nat) (l : List UInt8) : Nat × Nat := l.foldl pass p
theorem placeFrom_append (p : Nat × Nat) (a b : List UInt8) : placeFrom p (a ++ b) = placeFrom (placeFrom p a) b := List.foldl_append
def placeAt (s : ByteArray) (k : Nat) : Nat × Nat := placeFrom (1, 1) (s.data.toList.take k)
/-- What is read at an offset behind spacing: a token and the offset behind it, or a code. -/
inductive Tk where
  | tok (kind : Nat) (text : List UInt8) (val stop : Nat)
  | bad (code : Nat)
def tokAt (s : ByteArray) (k : Nat) : Tk :=
  match s.data.toList.drop k with
  | [] => .tok 0 [] 0 k
  | c :: r =>
    if isLet c = true then .tok 1 ((c :: r).take (runLen isLet (c :: r))) 0 (k + runLen isLet (c :: r))
    else if isDig c = true then
      match parseN ((c :: r).take (runLen isAl (c :: r))) with
      | some v => .tok 2 ((c :: r).take (runLen isAl (c :: r))) v (k + runLen isAl (c :: r))
      | none => .bad 5
    else if c = 34 then (if (scanR s (k : Int)).2.2 = 0 then .tok 3 (scanR s (k : Int)).1 0 (scanR s (k : Int)).2.1 else .bad 6)
    else if isSign c = true then .tok 4 [c] 0 (k + 1)
    else .bad 3
def skipAt (s : ByteArray) (k : Nat) : Nat := k + spc false (s.data.toList.drop k)
theorem skipAt_le (s : ByteArray) (k : Nat) (h : k ≤ s.size) : skipAt s k ≤ s.size := by
  unfold skipAt
  have h1 := spc_le (s.data.toList.drop k) false
  have h2 := Lib.size_eq s
  rw [List.length_drop] at h1
  omega
theorem skipAt_ge (s : ByteArray) (k : Nat) : k ≤ skipAt s k := Nat.le_add_right _ _

structure Token where
  kind : Nat
  text : List UInt8
  val : Nat
  line : Nat
  col : Nat
inductive Out where
  | ok (l : List Token)
  | bad (code line col : Nat)
def Out.cons (t : Token) : Out → Out
  | .ok l => .ok (t :: l)
  | .bad e a b => .bad e a b
def Out.front (l : List Token) (o : Out) : Out := l.foldr Out.cons o
theorem Out.front_snoc (l : List Token) (t : Token) (o : Out) : Out.front (l ++ [t]) o = Out.front l (Out.cons t o) := List.foldr_append
theorem Out.front_ok (l r : List Token) : Out.front l (.ok r) = .ok (l ++ r) := by
  induction l with
  | nil => rfl
  | cons t l ih => show Out.cons t (Out.front l (.ok r)) = _; rw [ih]; rfl
theorem Out.front_bad (l : List Token) (e a b : Nat) : Out.front l (.bad e a b) = .bad e a b := by
  induction l with
  | nil => rfl
  | cons t l ih => show Out.cons t (Out.front l (.bad e a b)) = _; rw [ih]; rfl
def mkTok (s : ByteArray) (j kind : Nat) (text : List UInt8) (val : Nat) : Token := ⟨kind, text, val, (placeAt s j).1, (placeAt s j).2⟩
/-- The tokens from an offset on. -/
def toks (s : ByteArray) : Nat → Nat → Out
  | 0, _ => .ok []
  | f + 1, k =>
    match tokAt s (skipAt s k) with
    | .bad e => .bad e (placeAt s (skipAt s k)).1 (placeAt s (skipAt s k)).2
    | .tok kind text val stop =>
      if kind = 0 then .ok [mkTok s (skipAt s k) kind text val] else Out.cons (mkTok s (skipAt s k) kind text val) (toks s f stop)

/-! ### Where a token ends -/
theorem goL_count : ∀ (l : List UInt8) (e o : Bool) (a n : List UInt8) (k : Bool) (m : Nat), goL e o a l = some (n, k, m) → 1 ≤ m ∧ m ≤ l.length := by
  intro l
  induction l with
  | nil => intro e o a n k m h; cases h
  | cons c r ih =>
    intro e o a n k m h
    have step : ∀ (e' o' : Bool) (a' : List UInt8), (goL e' o' a' r).map (fun x => (x.1, x.2.1, x.2.2 + 1)) = some (n, k, m) → 1 ≤ m ∧ m ≤ (c :: r).length := by
      intro e' o' a' h
      cases hg : goL e' o' a' r with
      | none => rw [hg] at h; cases h
      | some x =>
        obtain ⟨x1, x2, x3⟩ := x
        rw [hg] at h
        have h := Option.some.inj h
        have h4 := ih e' o' a' x1 x2 x3 hg
        have h5 : x3 + 1 = m := congrArg (fun x => x.2.2) h
        simp; omega
    rw [goL] at h
    split at h
    · exact step _ _ _ h
    · split at h
      · have h := Option.some.inj h
        have h5 : 1 = m := congrArg (fun x => x.2.2) h
        simp; omega
      · split at h
        · exact step _ _ _ h
        · exact step _ _ _ h
theorem scanR_stop (s : ByteArray) (k : Nat) (h : (scanR s (k : Int)).2.2 = 0) : k < (scanR s (k : Int)).2.1 ∧ (scanR s (k : Int)).2.1 ≤ s.size := by
  unfold scanR at h ⊢
  split
  · rename_i hc
    rw [if_pos hc, Int.toNat_natCast] at h
    rw [Int.toNat_natCast]
    cases hg : goL false true [] (s.data.toList.drop (k + 1)) with
    | none => rw [hg] at h; have h : (6 : Nat) = 0 := h; omega
    | some x =>
      obtain ⟨n, o, m⟩ := x
      have hcnt := goL_count _ _ _ _ _ _ _ hg
      rw [List.length_drop] at hcnt
      rw [hg] at h
      have h2 := Lib.size_eq s
      simp only [final, okR] at h ⊢
      split at h
      · rename_i h3; rw [if_pos h3]; simp; omega
      · have h : (6 : Nat) = 0 := h; omega
  · rename_i hc
    rw [if_neg hc] at h
    have h : (3 : Nat) = 0 := h; omega
theorem tokAt_stop (s : ByteArray) (k kind v stop : Nat) (text : List UInt8) (h : tokAt s k = .tok kind text v stop) (hk : k ≤ s.size) :
    stop ≤ s.size ∧ (kind ≠ 0 → k < stop) := by
  have h2 := Lib.size_eq s
  unfold tokAt at h
  cases hd : s.data.toList.drop k with
  | nil => rw [hd] at h; injection h with h1 h2 h3 h4; subst h1 h2 h3 h4; exact ⟨hk, fun h => absurd rfl h⟩
  | cons c r =>
    have hl : (c :: r).length = s.size - k := by rw [← hd, List.length_drop]; omega
    have hl2 : 1 ≤ (c :: r).length := by simp
    rw [hd] at h
    simp only at h
    split at h
    · rename_i hx
      have hr := runLen_le isLet (c :: r)
      have hr1 : 1 ≤ runLen isLet (c :: r) := by simp only [runLen]; rw [if_pos hx]; omega
      injection h with h1 h2 h3 h4; subst h1 h2 h3 h4
      exact ⟨by omega, fun _ => by omega⟩
    · split at h
      · rename_i hx
        have hr := runLen_le isAl (c :: r)
        have hr1 : 1 ≤ runLen isAl (c :: r) := by simp only [runLen]; rw [if_pos (by unfold isAl; rw [hx]; simp)]; omega
        split at h
        · injection h with h1 h2 h3 h4; subst h1 h2 h3 h4
          exact ⟨by omega, fun _ => by omega⟩
        · cases h
      · split at h
        · split at h
          · rename_i hs
            have hst := scanR_stop s k hs
            injection h with h1 h2 h3 h4; subst h1 h2 h3 h4
            exact ⟨hst.2, fun _ => hst.1⟩
          · cases h
        · split at h
          · injection h with h1 h2 h3 h4; subst h1 h2 h3 h4
            exact ⟨by omega, fun _ => by omega⟩
          · cases h

/-! ### Spacing, piece by piece -/
def notFeed (c : UInt8) : Bool := !(c == 10)
theorem spc_spaces : ∀ l : List UInt8, spc false l = runLen isSp l + spc false (l.drop (runLen isSp l)) := by
  intro l
  induction l with
  | nil => rfl
  | cons c r ih =>
    by_cases h : c = 35
    · have hs : ¬ isSp c = true := by subst h; decide
      simp only [runLen]
      rw [if_neg hs, List.drop_zero, Nat.zero_add]
    · by_cases hs : isSp c = true
      · have e1 : spc false (c :: r) = 1 + spc false r := by simp only [spc]; rw [if_neg h, if_pos hs]
        have e2 : runLen isSp (c :: r) = 1 + runLen isSp r := by simp only [runLen]; rw [if_pos hs]
        rw [e1, e2, show 1 + runLen isSp r = runLen isSp r + 1 from Nat.add_comm _ _, List.drop_succ_cons]
        omega
      · simp only [runLen]
        rw [if_neg hs, List.drop_zero, Nat.zero_add]
theorem spc_comment : ∀ l : List UInt8, spc true l = runLen notFeed l + spc false (l.drop (runLen notFeed l)) := by
  intro l
  induction l with
  | nil => rfl
  | cons c r ih =>
    by_cases h : c = 10
    · have hs : ¬ notFeed c = true := by subst h; decide
      simp only [runLen]
      rw [if_neg hs, List.drop_zero, Nat.zero_add]
      subst h
      rfl
    · have hs : notFeed c = true := by unfold notFeed; simpa using h
      have e1 : spc true (c :: r) = 1 + spc true r := by simp only [spc]; rw [if_neg h]
      have e2 : runLen notFeed (c :: r) = 1 + runLen notFeed r := by simp only [runLen]; rw [if_pos hs]
      rw [e1, e2, show 1 + runLen notFeed r = runLen notFeed r + 1 from Nat.add_comm _ _, List.drop_succ_cons]
      omega
theorem spc_hash (r : List UInt8) : spc false (35 :: r) = spc true (35 :: r) := rfl
theorem spc_stop (c : UInt8) (r : List UInt8) (h1 : c ≠ 35) (h2 : isSp c = false) : spc false (c :: r) = 0 := by
  simp only [spc]; rw [if_neg h1, if_neg (by rw [h2]; decide)]
theorem runLen_head (p : UInt8 → Bool) : ∀ l : List UInt8, ∀ c r, l.drop (runLen p l) = c :: r → p c = false := by
  intro l
  induction l with
  | nil => intro c r h; simp [runLen] at h
  | cons d l ih =>
    intro c r h
    by_cases hp : p d = true
    · have e : runLen p (d :: l) = runLen p l + 1 := by simp only [runLen]; rw [if_pos hp, Nat.add_comm]
      rw [e, List.drop_succ_cons] at h
      exact ih c r h
    · have e : runLen p (d :: l) = 0 := by simp only [runLen]; rw [if_neg hp]
      rw [e, List.drop_zero] at h
      injection h with h1 _
      rw [← h1]; simpa using hp
theorem runLen_cons_yes (p : UInt8 → Bool) (c : UInt8) (r : List UInt8) (h : p c = true) : runLen p (c :: r) = 1 + runLen p r := by simp only [runLen]; rw [if_pos h]
theorem runLen_cons_no (p : UInt8 → Bool) (c : UInt8) (r : List UInt8) (h : p c = false) : runLen p (c :: r) = 0 := by simp only [runLen]; rw [if_neg (by rw [h]; decide)]
end Go.Proofs.YtcnihmlmaigkdaaGreatDoor
namespace Go.Proofs.YtcnihmlmaigkdaaGreatDoor
open Go.RowKit Go.Lib

def tokC (kind : Nat) (text : ByteArray) (v line col : Nat) : Array Value := #[.int .i64 (kind : Int), .string text, .int .u64 (v : Int), .int .i64 (line : Int), .int .i64 (col : Int)]
def tokV (t : Token) : Array Value := tokC t.kind ⟨t.text.toArray⟩ t.val t.line t.col
def tokCells (l : List Token) : List Value := l.flatMap fun t => (tokV t).toList
def outOf (s : ByteArray) : Out := if s.size ≤ 1048576 then toks s (s.size + 1) 0 else .bad 2 0 0
end Go.Proofs.YtcnihmlmaigkdaaGreatDoor
namespace Go.Proofs.YtcnihmlmaigkdaaGreatDoor
open Go.Lib

theorem spc_join : ∀ (l q : List UInt8) (e : Bool), spc e (l ++ 10 :: q) = if spc e l = l.length then l.length + 1 + spc false q else spc e l := by
  intro l q
  induction l with
  | nil =>
    intro e
    cases e
    · show spc false (10 :: q) = _
      rw [if_pos (show spc false [] = ([] : List UInt8).length from rfl)]
      simp only [spc]
      rw [if_neg (by decide), if_pos (by decide)]; simp
    · show spc true (10 :: q) = _
      rw [if_pos (show spc true [] = ([] : List UInt8).length from rfl)]
      simp only [spc]
      simp
  | cons c l ih =>
    intro e
    have step : ∀ e', 1 + spc e' (l ++ 10 :: q) = if 1 + spc e' l = (c :: l).length then (c :: l).length + 1 + spc false q else 1 + spc e' l := by
      intro e'
      rw [ih e', List.length_cons]
      by_cases h : spc e' l = l.length
      · rw [if_pos h, if_pos (by omega)]; omega
      · rw [if_neg h, if_neg (by omega)]
    rw [List.cons_append]
    cases e
    · simp only [spc]
      split
      · exact step true
      · split
        · exact step false
        · rw [if_neg (by simp)]
    · simp only [spc]
      split
      · exact step false
      · exact step true
theorem runLen_join (p : UInt8 → Bool) (hp : p 10 = false) : ∀ (l q : List UInt8), runLen p (l ++ 10 :: q) = runLen p l := by
  intro l q
  induction l with
  | nil => show runLen p (10 :: q) = 0; exact runLen_cons_no p 10 q hp
  | cons c l ih =>
    rw [List.cons_append]
    simp only [runLen]
    rw [ih]
theorem goL_append : ∀ (l q : List UInt8) (e o : Bool) (a : List UInt8) (x : List UInt8 × Bool × Nat), goL e o a l = some x → goL e o a (l ++ q) = some x := by
  intro l q
  induction l with
  | nil => intro e o a x h; cases h
  | cons c l ih =>
    intro e o a x h
    have step : ∀ (e' o' : Bool) (a' : List UInt8), (goL e' o' a' l).map (fun x => (x.1, x.2.1, x.2.2 + 1)) = some x → (goL e' o' a' (l ++ q)).map (fun x => (x.1, x.2.1, x.2.2 + 1)) = some x := by
      intro e' o' a' h
      cases hg : goL e' o' a' l with
      | none => rw [hg] at h; cases h
      | some y => rw [hg] at h; rw [ih e' o' a' y hg]; exact h
    rw [List.cons_append]
    rw [goL] at h ⊢
    split at h
    · rename_i h1; rw [if_pos h1]; exact step _ _ _ h
    · rename_i h1
      rw [if_neg h1]
      split at h
      · rename_i h2; rw [if_pos h2]; exact h
      · rename_i h2
        rw [if_neg h2]
        split at h
        · rename_i h3; rw [if_pos h3]; exact step _ _ _ h
        · rename_i h3; rw [if_neg h3]; exact step _ _ _ h
/-- A token at the head of a list. -/
def tokL : List UInt8 → Tk
  | [] => .tok 0 [] 0 0
  | c :: r =>
    if isLet c = true then .tok 1 ((c :: r).take (runLen isLet (c :: r))) 0 (runLen isLet (c :: r))
    else if isDig c = true then
      match parseN ((c :: r).take (runLen isAl (c :: r))) with
      | some v => .tok 2 ((c :: r).take (runLen isAl (c :: r))) v (runLen isAl (c :: r))
      | none => .bad 5
    else if c = 34 then
      match goL false true [] r with
      | some (n, ok, m) => if (ok && validL n) = true then .tok 3 n 0 (1 + m) else .bad 6
      | none => .bad 6
    else if isSign c = true then .tok 4 [c] 0 1
    else .bad 3
def Tk.shift (k : Nat) : Tk → Tk
  | .tok kind text v n => .tok kind text v (k + n)
  | .bad c => .bad c
theorem tokAt_tokL (s : ByteArray) (k : Nat) : tokAt s k = (tokL (s.data.toList.drop k)).shift k := by
  have hs := Lib.size_eq s
  unfold tokAt
  cases hd : s.data.toList.drop k with
  | nil => rfl
  | cons c r =>
    have hlt : k < s.size := by
      rcases Nat.lt_or_ge k s.size with h | h
      · exact h
      · rw [List.drop_of_length_le (by omega)] at hd; cases hd
    have hc : c = s[k] ∧ r = s.data.toList.drop (k + 1) := by
      rw [drop_cons s k hlt] at hd
      injection hd with h1 h2
      exact ⟨h1.symm, h2.symm⟩
    simp only [tokL]
    split
    · rfl
    · split
      · cases hp : parseN ((c :: r).take (runLen isAl (c :: r))) with
        | none => rfl
        | some v => rfl
      · split
        · rename_i h34
          have h3 := scanR_in s k hlt (by rw [← hc.1]; exact h34)
          rw [h3, ← hc.2]
          cases goL false true [] r with
          | none => rfl
          | some x =>
            obtain ⟨n, o, m⟩ := x
            by_cases hv : (o && validL n) = true
            · have e : final (some (n, o, m)) (k + 1) = (n, k + 1 + m, 0) := by
                show okR o n (k + 1 + m) = _
                unfold okR
                rw [if_pos hv]
              rw [e]
              simp only
              rw [if_pos hv]
              show Tk.tok 3 n 0 (k + 1 + m) = Tk.tok 3 n 0 (k + (1 + m))
              rw [Nat.add_assoc]
            · have e : final (some (n, o, m)) (k + 1) = badR := by
                show okR o n (k + 1 + m) = _
                unfold okR
                rw [if_neg hv]
              rw [e]
              simp only
              rw [if_neg hv]
              rfl
        · split
          · rfl
          · rfl
theorem tokL_join (c : UInt8) (r q : List UInt8) (kind v n : Nat) (text : List UInt8) (h : tokL (c :: r) = .tok kind text v n) : tokL (c :: r ++ 10 :: q) = .tok kind text v n := by
  have e1 := runLen_join isLet (by decide) (c :: r) q
  have e2 := runLen_join isAl (by decide) (c :: r) q
  have t1 : (c :: r ++ 10 :: q).take (runLen isLet (c :: r)) = (c :: r).take (runLen isLet (c :: r)) := by
    rw [List.take_append_of_le_length (runLen_le _ _)]
  have t2 : (c :: r ++ 10 :: q).take (runLen isAl (c :: r)) = (c :: r).take (runLen isAl (c :: r)) := by
    rw [List.take_append_of_le_length (runLen_le _ _)]
  rw [List.cons_append] at e1 e2 t1 t2 ⊢
  simp only [tokL] at h ⊢
  rw [e1, e2, t1, t2]
  split at h
  · rename_i h1; rw [if_pos h1]; exact h
  · rename_i h1
    rw [if_neg h1]
    split at h
    · rename_i h2; rw [if_pos h2]; exact h
    · rename_i h2
      rw [if_neg h2]
      split at h
      · rename_i h3
        rw [if_pos h3]
        cases hg : goL false true [] r with
        | none => rw [hg] at h; cases h
        | some x => rw [hg] at h; rw [goL_append r (10 :: q) _ _ _ x hg]; exact h
      · rename_i h3
        rw [if_neg h3]
        split at h
        · rename_i h4; rw [if_pos h4]; exact h
        · cases h

/-! ### The tokens from an offset on: enough rounds -/
theorem toks_fuel (s : ByteArray) : ∀ (f g k : Nat), k ≤ s.size → s.size < f + k → s.size < g + k → toks s f k = toks s g k := by
  intro f
  induction f with
  | zero => intro g k h1 h2 h3; omega
  | succ f ih =>
    intro g k h1 h2 h3
    obtain ⟨g, rfl⟩ : ∃ g', g = g' + 1 := ⟨g - 1, by omega⟩
    rw [toks, toks]
    cases hT : tokAt s (skipAt s k) with
    | bad e => rfl
    | tok kind text v stop =>
      simp only
      by_cases hk : kind = 0
      · rw [if_pos hk, if_pos hk]
      · rw [if_neg hk, if_neg hk]
        have hst := tokAt_stop s (skipAt s k) kind v stop text hT (skipAt_le s k h1)
        have hlt := hst.2 hk
        have hge := skipAt_ge s k
        rw [ih g stop hst.1 (by omega) (by omega)]
def shiftT (n : Nat) (t : Token) : Token := ⟨t.kind, t.text, t.val, t.line + n, t.col⟩
theorem placeFrom_shift (n : Nat) : ∀ (l : List UInt8) (p : Nat × Nat), placeFrom (p.1 + n, p.2) l = ((placeFrom p l).1 + n, (placeFrom p l).2) := by
  intro l
  induction l with
  | nil => intro p; rfl
  | cons c l ih =>
    intro p
    show placeFrom (pass (p.1 + n, p.2) c) l = _
    have e : pass (p.1 + n, p.2) c = ((pass p c).1 + n, (pass p c).2) := by
      unfold pass
      split
      · show (p.1 + n + 1, 1) = (p.1 + 1 + n, 1); congr 1; omega
      · rfl
    rw [e, ih (pass p c)]; rfl
theorem placeFrom_line : ∀ (l : List UInt8) (p : Nat × Nat), (placeFrom p l).1 = p.1 + l.count 10 := by
  intro l
  induction l with
  | nil => intro p; rfl
  | cons c l ih =>
    intro p
    show (placeFrom (pass p c) l).1 = _
    rw [ih (pass p c)]
    unfold pass
    by_cases h : c = 10
    · rw [if_pos h, h, List.count_cons_self]; simp only; omega
    · rw [if_neg h, List.count_cons_of_ne h]
def Out.shift (n : Nat) : Out → Out
  | .ok l => .ok (l.map (shiftT n))
  | .bad e i j => .bad e (i + n) j
theorem Tk.shift_shift (m k : Nat) (T : Tk) : (T.shift k).shift m = T.shift (m + k) := by
  cases T with
  | tok kind text v n => show Tk.tok kind text v (m + (k + n)) = Tk.tok kind text v (m + k + n); rw [Nat.add_assoc]
  | bad c => rfl
theorem tokL_kind (c : UInt8) (r : List UInt8) (text : List UInt8) (v n : Nat) : tokL (c :: r) ≠ .tok 0 text v n := by
  intro h
  simp only [tokL] at h
  split at h
  · injection h with h1; omega
  · split at h
    · split at h
      · injection h with h1; omega
      · cases h
    · split at h
      · split at h
        · split at h
          · injection h with h1; omega
          · cases h
        · cases h
      · split at h
        · injection h with h1; omega
        · cases h

section
variable (a b A : ByteArray) (hA : A.data.toList = a.data.toList ++ 10 :: b.data.toList)
include hA

theorem join_size : A.size = a.size + 1 + b.size := by
  rw [Lib.size_eq A, Lib.size_eq a, Lib.size_eq b, hA]; simp; omega
theorem drop_b (j : Nat) : A.data.toList.drop (a.size + 1 + j) = b.data.toList.drop j := by
  rw [hA, List.drop_append, List.drop_of_length_le (by rw [← Lib.size_eq]; omega), List.nil_append, ← Lib.size_eq]
  rw [show a.size + 1 + j - a.size = j + 1 by omega, List.drop_succ_cons]
theorem skip_b (j : Nat) : skipAt A (a.size + 1 + j) = a.size + 1 + skipAt b j := by
  unfold skipAt
  rw [drop_b a b A hA]; omega
theorem tok_b (j : Nat) : tokAt A (a.size + 1 + j) = (tokAt b j).shift (a.size + 1) := by
  rw [tokAt_tokL, tokAt_tokL, drop_b a b A hA, Tk.shift_shift]
theorem place_a (k : Nat) (hk : k ≤ a.size) : placeAt A k = placeAt a k := by
  unfold placeAt
  rw [hA, List.take_append_of_le_length (by rw [← Lib.size_eq]; exact hk)]
theorem place_b (j : Nat) : placeAt A (a.size + 1 + j) = ((placeAt b j).1 + (1 + a.data.toList.count 10), (placeAt b j).2) := by
  have e1 : A.data.toList.take (a.size + 1 + j) = a.data.toList ++ 10 :: b.data.toList.take j := by
    rw [hA, List.take_append, List.take_of_length_le (by rw [← Lib.size_eq]; omega), ← Lib.size_eq]
    rw [show a.size + 1 + j - a.size = j + 1 by omega, List.take_succ_cons]
  unfold placeAt
  rw [e1, placeFrom_append]
  have e2 : placeFrom (placeFrom (1, 1) a.data.toList) (10 :: b.data.toList.take j) = placeFrom (1 + (1 + a.data.toList.count 10), 1) (b.data.toList.take j) := by
    show placeFrom (pass _ 10) _ = _
    unfold pass
    rw [if_pos rfl, placeFrom_line a.data.toList (1, 1)]
    congr 2
    omega
  rw [e2]
  exact placeFrom_shift (1 + a.data.toList.count 10) (b.data.toList.take j) (1, 1)
theorem mk_b (j kind v : Nat) (text : List UInt8) : mkTok A (a.size + 1 + j) kind text v = shiftT (1 + a.data.toList.count 10) (mkTok b j kind text v) := by
  unfold mkTok shiftT
  rw [place_b a b A hA]
theorem toks_b : ∀ (f j : Nat), toks A f (a.size + 1 + j) = (toks b f j).shift (1 + a.data.toList.count 10) := by
  intro f
  induction f with
  | zero => intro j; rfl
  | succ f ih =>
    intro j
    rw [toks, toks, skip_b a b A hA, tok_b a b A hA]
    cases hT : tokAt b (skipAt b j) with
    | bad e =>
      show Out.bad e _ _ = Out.bad e _ _
      rw [place_b a b A hA]
    | tok kind text v stop =>
      show (if kind = 0 then _ else _) = Out.shift _ (if kind = 0 then _ else _)
      rw [mk_b a b A hA]
      by_cases hk : kind = 0
      · rw [if_pos hk, if_pos hk]; rfl
      · rw [if_neg hk, if_neg hk, ih stop]
        cases toks b f stop with
        | ok l => rfl
        | bad e i j => rfl
theorem skip_a (k : Nat) (hk : k ≤ a.size) : skipAt A k = if skipAt a k = a.size then a.size + 1 + skipAt b 0 else skipAt a k := by
  have hd : A.data.toList.drop k = a.data.toList.drop k ++ 10 :: b.data.toList := by
    rw [hA, List.drop_append_of_le_length (by rw [← Lib.size_eq]; exact hk)]
  have hl : (a.data.toList.drop k).length = a.size - k := by rw [List.length_drop, ← Lib.size_eq]
  unfold skipAt
  rw [hd, spc_join, hl, List.drop_zero]
  by_cases h : spc false (a.data.toList.drop k) = a.size - k
  · rw [if_pos h, if_pos (by omega)]; omega
  · rw [if_neg h, if_neg (by omega)]
theorem tok_a (J kind v stop : Nat) (text : List UInt8) (hJ : J < a.size) (h : tokAt a J = .tok kind text v stop) : tokAt A J = .tok kind text v stop ∧ kind ≠ 0 := by
  have hd := drop_cons a J hJ
  have hd2 : A.data.toList.drop J = a[J] :: a.data.toList.drop (J + 1) ++ 10 :: b.data.toList := by
    rw [hA, List.drop_append_of_le_length (by rw [← Lib.size_eq]; omega), hd]
  rw [tokAt_tokL, hd] at h
  cases hT : tokL (a[J] :: a.data.toList.drop (J + 1)) with
  | bad c => rw [hT] at h; cases h
  | tok kind2 text2 v2 n =>
    have hj := tokL_join _ _ b.data.toList _ _ _ _ hT
    rw [hT] at h
    injection h with h1 h2 h3 h4
    subst h1 h2 h3 h4
    rw [tokAt_tokL, hd2, hj]
    refine ⟨rfl, fun h0 => ?_⟩
    subst h0
    exact tokL_kind _ _ _ _ _ hT
theorem toks_join (y : List Token) (hy : toks b (b.size + 1) 0 = .ok y) : ∀ (f k : Nat) (x : List Token), k ≤ a.size → a.size < f + k → toks a f k = .ok x →
    ∀ F, A.size < F + k → toks A F k = .ok (x.dropLast ++ y.map (shiftT (1 + a.data.toList.count 10))) ∧ x ≠ [] := by
  have hAs := join_size a b A hA
  intro f
  induction f with
  | zero => intro k x h1 h2; omega
  | succ f ih =>
    intro k x hk hf hx F hF
    obtain ⟨F, rfl⟩ : ∃ F', F = F' + 1 := ⟨F - 1, by omega⟩
    have hJs := skipAt_le a k hk
    have hJk := skipAt_ge a k
    rw [toks] at hx
    by_cases hJ : skipAt a k = a.size
    · have e0 : toks A (F + 1) k = toks A (F + 1) (a.size + 1 + 0) := by
        rw [toks, toks, skip_a a b A hA k hk, if_pos hJ, skip_b a b A hA]
      have e1 : tokAt a (skipAt a k) = .tok 0 [] 0 (skipAt a k) := by
        unfold tokAt
        rw [List.drop_of_length_le (by rw [← Lib.size_eq]; omega)]
      rw [e1] at hx
      simp only at hx
      rw [if_pos trivial] at hx
      injection hx with hx
      rw [e0, toks_b a b A hA, toks_fuel b (F + 1) (b.size + 1) 0 (Nat.zero_le _) (by omega) (by omega), hy, ← hx]
      exact ⟨rfl, by simp⟩
    · have hJlt : skipAt a k < a.size := by omega
      cases hT : tokAt a (skipAt a k) with
      | bad e => rw [hT] at hx; cases hx
      | tok kind text v stop =>
        obtain ⟨hTA, hk0⟩ := tok_a a b A hA _ _ _ _ _ hJlt hT
        have hst := tokAt_stop a (skipAt a k) kind v stop text hT hJs
        have hlt := hst.2 hk0
        rw [hT] at hx
        simp only at hx
        rw [if_neg hk0] at hx
        cases hr : toks a f stop with
        | bad e i j => rw [hr] at hx; cases hx
        | ok x' =>
          rw [hr] at hx
          injection hx with hx
          obtain ⟨h1, h2⟩ := ih stop x' hst.1 (by omega) hr F (by omega)
          rw [toks, skip_a a b A hA k hk, if_neg hJ, hTA]
          simp only
          rw [if_neg hk0, h1, ← hx]
          refine ⟨?_, by simp⟩
          have e3 : mkTok A (skipAt a k) kind text v = mkTok a (skipAt a k) kind text v := by
            unfold mkTok; rw [place_a a b A hA _ hJs]
          rw [e3]
          show Out.ok _ = Out.ok _
          cases x' with
          | nil => exact absurd rfl h2
          | cons t l => rfl
end
end Go.Proofs.YtcnihmlmaigkdaaGreatDoor
namespace Go.Proofs.YtcnihmlmaigkdaaGreatDoor
open Go.Lib

def un (t : Token) : Nat × List UInt8 × Nat := (t.kind, t.text, t.val)
def wordOf (kind : Nat) (text : List UInt8) : List UInt8 := if kind = 3 then 34 :: (quoteL text ++ [34]) else text
/-- The tokens of a list of bytes, without their places. -/
def tkL : Nat → List UInt8 → Option (List (Nat × List UInt8 × Nat))
  | 0, _ => some []
  | f + 1, l =>
    match tokL (l.drop (spc false l)) with
    | .bad _ => none
    | .tok kind text v n => if kind = 0 then some [(kind, text, v)] else (tkL f ((l.drop (spc false l)).drop n)).map fun M => (kind, text, v) :: M
def okM : Out → Option (List (Nat × List UInt8 × Nat))
  | .ok l => some (l.map un)
  | .bad _ _ _ => none
theorem okM_cons (t : Token) (o : Out) : okM (Out.cons t o) = (okM o).map fun M => un t :: M := by
  cases o <;> rfl
theorem toks_tkL (s : ByteArray) : ∀ (f k : Nat), okM (toks s f k) = tkL f (s.data.toList.drop k) := by
  intro f
  induction f with
  | zero => intro k; rfl
  | succ f ih =>
    intro k
    have e : (s.data.toList.drop k).drop (spc false (s.data.toList.drop k)) = s.data.toList.drop (skipAt s k) := by
      unfold skipAt; rw [List.drop_drop]
    rw [toks, tkL, tokAt_tokL, e]
    cases hT : tokL (s.data.toList.drop (skipAt s k)) with
    | bad c => rfl
    | tok kind text v n =>
      show okM (if kind = 0 then _ else _) = _
      simp only
      by_cases h : kind = 0
      · rw [if_pos h, if_pos h]; rfl
      · rw [if_neg h, if_neg h, okM_cons, ih, List.drop_drop]
        rfl

theorem runLen_take (p : UInt8 → Bool) (d : UInt8) (hd : p d = false) : ∀ (l q : List UInt8), runLen p (l.take (runLen p l) ++ d :: q) = runLen p l := by
  intro l q
  induction l with
  | nil => show runLen p (d :: q) = 0; exact runLen_cons_no p d q hd
  | cons c l ih =>
    by_cases h : p c = true
    · rw [runLen_cons_yes p c l h, Nat.add_comm, List.take_succ_cons, List.cons_append, runLen_cons_yes p c _ h, ih, Nat.add_comm]
    · rw [runLen_cons_no p c l (by simpa using h), List.take_zero, List.nil_append, runLen_cons_no p d q hd]
theorem take_len (p : UInt8 → Bool) (l : List UInt8) : (l.take (runLen p l)).length = runLen p l := by
  rw [List.length_take]; have := runLen_le p l; omega
theorem goL_quote2 (q : List UInt8) : ∀ (l acc : List UInt8) (ok : Bool), goL false ok acc (quoteL l ++ 34 :: q) = some (acc ++ l, ok, (quoteL l).length + 1)
  | [], acc, ok => by
    show goL false ok acc (34 :: q) = _
    rw [goL, if_neg (by decide), if_pos rfl, List.append_nil]; rfl
  | c :: l, acc, ok => by
    have e : quoteL (c :: l) = quoteB c ++ quoteL l := rfl
    rw [e, quoteB]
    by_cases hx : c = 34 ∨ c = 92
    · rw [if_pos hx]
      show goL false ok acc (92 :: c :: (quoteL l ++ 34 :: q)) = _
      have he : isEsc c = true := by rcases hx with h | h <;> (rw [h]; decide)
      rw [goL, if_neg (by decide), if_neg (by decide), if_pos rfl, goL, if_pos rfl, he, Bool.and_true, goL_quote2 q l]
      simp
    · rw [if_neg hx]
      have h34 : ¬ c = 34 := fun h => hx (.inl h)
      have h92 : ¬ c = 92 := fun h => hx (.inr h)
      show goL false ok acc (c :: (quoteL l ++ 34 :: q)) = _
      rw [goL, if_neg (by decide), if_neg h34, if_neg h92, goL_quote2 q l]
      simp
/-- How many bytes were read for a name that was read well: as many as its quoted form has. -/
theorem goL_len : ∀ (l : List UInt8) (e : Bool) (a n : List UInt8) (m : Nat), goL e true a l = some (n, true, m) →
    ∃ x, n = a ++ x ∧ (quoteL x).length + 1 ≤ m + (if e = true then 1 else 0) := by
  intro l
  induction l with
  | nil => intro e a n m h; cases h
  | cons c l ih =>
    intro e a n m h
    rw [goL] at h
    cases e
    · rw [if_neg (by decide)] at h
      by_cases h34 : c = 34
      · rw [if_pos h34] at h
        injection h with h
        injection h with h1 h2
        injection h2 with _ h3
        exact ⟨[], by rw [← h1, List.append_nil], by rw [← h3]; exact Nat.le_refl _⟩
      · rw [if_neg h34] at h
        by_cases h92 : c = 92
        · rw [if_pos h92] at h
          cases hg : goL true true a l with
          | none => rw [hg] at h; cases h
          | some y =>
            obtain ⟨n2, o2, m2⟩ := y
            rw [hg] at h
            injection h with h
            injection h with h1 h2
            injection h2 with h2 h3
            simp only at h1 h2 h3
            subst h1 h2 h3
            obtain ⟨x, hx, hl⟩ := ih true a n2 m2 hg
            rw [if_pos rfl] at hl
            exact ⟨x, hx, by simpa using hl⟩
        · rw [if_neg h92] at h
          cases hg : goL false true (a ++ [c]) l with
          | none => rw [hg] at h; cases h
          | some y =>
            obtain ⟨n2, o2, m2⟩ := y
            rw [hg] at h
            injection h with h
            injection h with h1 h2
            injection h2 with h2 h3
            simp only at h1 h2 h3
            subst h1 h2 h3
            obtain ⟨x, hx, hl⟩ := ih false _ n2 m2 hg
            refine ⟨c :: x, by rw [hx]; simp, ?_⟩
            have e : quoteL (c :: x) = quoteB c ++ quoteL x := rfl
            rw [e, quoteB, if_neg (by rintro (h | h); exact h34 h; exact h92 h)]
            simp at hl ⊢; omega
    · rw [if_pos rfl, Bool.true_and] at h
      by_cases he : isEsc c = true
      · rw [he] at h
        cases hg : goL false true (a ++ [c]) l with
        | none => rw [hg] at h; cases h
        | some y =>
          obtain ⟨n2, o2, m2⟩ := y
          rw [hg] at h
          injection h with h
          injection h with h1 h2
          injection h2 with h2 h3
          simp only at h1 h2 h3
          subst h1 h2 h3
          obtain ⟨x, hx, hl⟩ := ih false _ n2 m2 hg
          refine ⟨c :: x, by rw [hx]; simp, ?_⟩
          have e : quoteL (c :: x) = quoteB c ++ quoteL x := rfl
          have hb : (quoteB c).length ≤ 2 := by unfold quoteB; split <;> simp
          rw [e, List.length_append]
          simp at hl ⊢; omega
      · exfalso
        have he : isEsc c = false := by simpa using he
        rw [he] at h
        have hf := goL_false l false (a ++ [c]) 0
        cases hg : goL false false (a ++ [c]) l with
        | none => rw [hg] at h; cases h
        | some y =>
          obtain ⟨n2, o2, m2⟩ := y
          have hno : ∀ (l : List UInt8) (e : Bool) (a n : List UInt8) (o : Bool) (m : Nat), goL e false a l = some (n, o, m) → o = false := by
            intro l
            induction l with
            | nil => intro e a n o m h; cases h
            | cons d l ih2 =>
              intro e a n o m h
              have step : ∀ (e' : Bool) (a' : List UInt8), (goL e' false a' l).map (fun x => (x.1, x.2.1, x.2.2 + 1)) = some (n, o, m) → o = false := by
                intro e' a' h
                cases hg : goL e' false a' l with
                | none => rw [hg] at h; cases h
                | some y =>
                  obtain ⟨n2, o2, m2⟩ := y
                  rw [hg] at h
                  injection h with h
                  injection h with h1 h2
                  injection h2 with h2 h3
                  simp only at h2
                  rw [← h2]
                  exact ih2 _ _ _ _ _ hg
              rw [goL] at h
              split at h
              · rw [Bool.false_and] at h; exact step _ _ h
              · split at h
                · injection h with h
                  injection h with h1 h2
                  injection h2 with h2 h3
                  exact h2.symm
                · split at h
                  · exact step _ _ h
                  · exact step _ _ h
          have ho := hno l false _ _ _ _ hg
          rw [hg] at h
          injection h with h
          injection h with h1 h2
          injection h2 with h2 h3
          simp only at h2
          rw [ho] at h2
          cases h2

/-- A word that is a token of its own, whatever stands behind a space. -/
structure Fine (kind : Nat) (text : List UInt8) (v : Nat) : Prop where
  tok : ∀ q, tokL (wordOf kind text ++ 32 :: q) = .tok kind text v (wordOf kind text).length
  spc : ∀ q, spc false (wordOf kind text ++ 32 :: q) = 0
  len : 1 ≤ (wordOf kind text).length
  val : kind = 3 → validL text = true
theorem spc_head (c : UInt8) (r : List UInt8) (h : isLet c = true ∨ isDig c = true ∨ c = 34 ∨ isSign c = true) : spc false (c :: r) = 0 := by
  have h2 : ∀ c : UInt8, isLet c = true ∨ isDig c = true ∨ c = 34 ∨ isSign c = true → c ≠ 35 ∧ isSp c = false := by
    intro c h
    refine ⟨?_, ?_⟩
    · rintro rfl
      revert h; decide
    · cases hs : isSp c with
      | false => rfl
      | true =>
        unfold isSp at hs
        simp only [Bool.or_eq_true, beq_iff_eq] at hs
        exfalso
        rcases hs with ((hs | hs) | hs) | hs <;> (subst hs; revert h; decide)
  exact spc_stop c r (h2 c h).1 (h2 c h).2
theorem tokL_fine (c : UInt8) (r : List UInt8) (kind v n : Nat) (text : List UInt8) (h : tokL (c :: r) = .tok kind text v n) :
    kind ≠ 0 ∧ Fine kind text v ∧ (wordOf kind text).length ≤ n ∧ 1 ≤ n ∧ n ≤ (c :: r).length := by
  have hk : kind ≠ 0 := fun e => tokL_kind c r text v n (by rw [h, e])
  refine ⟨hk, ?_⟩
  simp only [tokL] at h
  by_cases h1 : isLet c = true
  · rw [if_pos h1] at h
    injection h with e1 e2 e3 e4
    subst e1 e2 e3 e4
    have hr := runLen_cons_yes isLet c r h1
    have ht : (c :: r).take (runLen isLet (c :: r)) = c :: r.take (runLen isLet r) := by rw [hr, Nat.add_comm, List.take_succ_cons]
    have hw : wordOf 1 ((c :: r).take (runLen isLet (c :: r))) = (c :: r).take (runLen isLet (c :: r)) := rfl
    have hl := take_len isLet (c :: r)
    refine ⟨⟨fun q => ?_, fun q => ?_, by rw [hw, hl, hr]; omega, fun e => by omega⟩, by rw [hw, hl]; exact Nat.le_refl _, by rw [hr]; omega, runLen_le _ _⟩
    · have e1 := runLen_take isLet 32 (by decide) (c :: r) q
      have e2 : ((c :: r).take (runLen isLet (c :: r)) ++ 32 :: q).take (runLen isLet (c :: r)) = (c :: r).take (runLen isLet (c :: r)) := by
        rw [List.take_append_of_le_length (by rw [hl]; exact Nat.le_refl _), List.take_of_length_le (by rw [hl]; exact Nat.le_refl _)]
      rw [hw, hl]
      rw [ht, List.cons_append] at e1 e2 ⊢
      simp only [tokL]
      rw [if_pos h1, e1, e2]
    · rw [hw, ht, List.cons_append]
      exact spc_head c _ (.inl h1)
  · rw [if_neg h1] at h
    by_cases h2 : isDig c = true
    · rw [if_pos h2] at h
      have hal : isAl c = true := by unfold isAl; rw [h2]; simp
      cases hp : parseN ((c :: r).take (runLen isAl (c :: r))) with
      | none => rw [hp] at h; cases h
      | some v' =>
        rw [hp] at h
        injection h with e1 e2 e3 e4
        subst e1 e2 e3 e4
        have hr := runLen_cons_yes isAl c r hal
        have ht : (c :: r).take (runLen isAl (c :: r)) = c :: r.take (runLen isAl r) := by rw [hr, Nat.add_comm, List.take_succ_cons]
        have hw : wordOf 2 ((c :: r).take (runLen isAl (c :: r))) = (c :: r).take (runLen isAl (c :: r)) := rfl
        have hl := take_len isAl (c :: r)
        refine ⟨⟨fun q => ?_, fun q => ?_, by rw [hw, hl, hr]; omega, fun e => by omega⟩, by rw [hw, hl]; exact Nat.le_refl _, by rw [hr]; omega, runLen_le _ _⟩
        · have e1 := runLen_take isAl 32 (by decide) (c :: r) q
          have e2 : ((c :: r).take (runLen isAl (c :: r)) ++ 32 :: q).take (runLen isAl (c :: r)) = (c :: r).take (runLen isAl (c :: r)) := by
            rw [List.take_append_of_le_length (by rw [hl]; exact Nat.le_refl _), List.take_of_length_le (by rw [hl]; exact Nat.le_refl _)]
          rw [hw, hl]
          rw [ht] at hp
          rw [ht, List.cons_append] at e1 e2 ⊢
          simp only [tokL]
          rw [if_neg h1, if_pos h2, e1, e2, hp]
        · rw [hw, ht, List.cons_append]
          exact spc_head c _ (.inr (.inl h2))
    · rw [if_neg h2] at h
      by_cases h3 : c = 34
      · rw [if_pos h3] at h
        cases hg : goL false true [] r with
        | none => rw [hg] at h; cases h
        | some y =>
          obtain ⟨nm, ok, m⟩ := y
          rw [hg] at h
          simp only at h
          by_cases hv : (ok && validL nm) = true
          · rw [if_pos hv] at h
            injection h with e1 e2 e3 e4
            subst e1 e2 e3 e4
            have hok : ok = true := by simp only [Bool.and_eq_true] at hv; exact hv.1
            have hvl : validL nm = true := by simp only [Bool.and_eq_true] at hv; exact hv.2
            subst hok
            obtain ⟨x, hx, hxl⟩ := goL_len r false [] nm m hg
            rw [List.nil_append] at hx
            subst hx
            have hm := goL_count r false true [] nm true m hg
            have hw : wordOf 3 nm = 34 :: (quoteL nm ++ [34]) := rfl
            have hwl : (wordOf 3 nm).length = 1 + ((quoteL nm).length + 1) := by rw [hw]; simp; omega
            have hwq : ∀ q, wordOf 3 nm ++ 32 :: q = 34 :: (quoteL nm ++ 34 :: 32 :: q) := by intro q; rw [hw]; simp
            refine ⟨⟨fun q => ?_, fun q => ?_, by rw [hwl]; omega, fun _ => hvl⟩, by rw [hwl]; simp at hxl; omega, by omega, by simp; omega⟩
            · rw [hwq, hwl]
              simp only [tokL]
              rw [if_neg (by decide), if_neg (by decide), if_pos trivial, goL_quote2]
              simp only [List.nil_append]
              rw [if_pos (by rw [hvl]; rfl)]
            · rw [hwq]
              exact spc_head 34 _ (.inr (.inr (.inl rfl)))
          · rw [if_neg hv] at h; cases h
      · rw [if_neg h3] at h
        by_cases h4 : isSign c = true
        · rw [if_pos h4] at h
          injection h with e1 e2 e3 e4
          subst e1 e2 e3 e4
          have hw : wordOf 4 [c] = [c] := rfl
          refine ⟨⟨fun q => ?_, fun q => ?_, by rw [hw]; exact Nat.le_refl _, fun e => by omega⟩, by rw [hw]; exact Nat.le_refl _, Nat.le_refl _, by simp⟩
          · rw [hw]
            show tokL (c :: 32 :: q) = _
            simp only [tokL]
            rw [if_neg h1, if_neg h2, if_neg h3, if_pos h4]
            rfl
          · rw [hw]
            exact spc_head c _ (.inr (.inr (.inr h4)))
        · rw [if_neg h4] at h; cases h
def joinT : List (Nat × List UInt8 × Nat) → List UInt8
  | [] => []
  | [t] => wordOf t.1 t.2.1
  | t :: u :: r => wordOf t.1 t.2.1 ++ 32 :: joinT (u :: r)
theorem tkL_space (g : Nat) (X : List UInt8) : tkL (g + 1) (32 :: X) = tkL (g + 1) X := by
  have e : spc false (32 :: X) = 1 + spc false X := by
    simp only [spc]; rw [if_neg (by decide), if_pos (by decide)]
  rw [tkL, tkL, e, Nat.add_comm, List.drop_succ_cons]
theorem tkL_join : ∀ (f : Nat) (l : List UInt8) (M : List (Nat × List UInt8 × Nat)), l.length < f → tkL f l = some M →
    M ≠ [] ∧ (∀ g, M.length ≤ g → tkL g (joinT M) = some M) ∧ (joinT M).length ≤ 2 * l.length ∧ M.length ≤ (joinT M).length + 1 ∧ ∀ t ∈ M, t.1 = 3 → validL t.2.1 = true := by
  intro f
  induction f with
  | zero => intro l M h; omega
  | succ f ih =>
    intro l M hl h
    rw [tkL] at h
    have hsp := spc_le l false
    have hdl : (l.drop (spc false l)).length ≤ l.length := by rw [List.length_drop]; omega
    generalize l.drop (spc false l) = d at h hdl
    cases d with
    | nil =>
      have e : tokL [] = .tok 0 [] 0 0 := rfl
      rw [e] at h
      simp only at h
      rw [if_pos trivial] at h
      injection h with h
      subst h
      refine ⟨by simp, fun g hg => ?_, by simp [joinT, wordOf], by simp, fun t ht h3 => ?_⟩
      · obtain ⟨g, rfl⟩ : ∃ g', g = g' + 1 := ⟨g - 1, by simp at hg; omega⟩
        rfl
      · rw [List.mem_singleton] at ht; rw [ht] at h3; simp at h3
    | cons c r =>
      cases hT : tokL (c :: r) with
      | bad e => rw [hT] at h; cases h
      | tok kind text v n =>
        obtain ⟨hk, hF, hwn, hn1, hn2⟩ := tokL_fine c r kind v n text hT
        rw [hT] at h
        simp only at h
        rw [if_neg hk] at h
        cases hr : tkL f ((c :: r).drop n) with
        | none => rw [hr] at h; cases h
        | some M' =>
          rw [hr] at h
          injection h with h
          subst h
          obtain ⟨h1, h2, h3, h4, h5⟩ := ih ((c :: r).drop n) M' (by rw [List.length_drop]; omega) hr
          obtain ⟨u, R, rfl⟩ : ∃ u R, M' = u :: R := by
            cases M' with
            | nil => exact absurd rfl h1
            | cons u R => exact ⟨u, R, rfl⟩
          have hj : joinT ((kind, text, v) :: u :: R) = wordOf kind text ++ 32 :: joinT (u :: R) := rfl
          rw [List.length_drop] at h3
          have hw1 := hF.len
          refine ⟨by simp, fun g hg => ?_, ?_, ?_, fun t ht e3 => ?_⟩
          · obtain ⟨g, rfl⟩ : ∃ g', g = g' + 1 := ⟨g - 1, by simp at hg; omega⟩
            rw [hj, tkL, hF.spc, List.drop_zero, hF.tok]
            simp only
            rw [if_neg hk, List.drop_append_of_le_length (Nat.le_refl _), List.drop_length, List.nil_append]
            obtain ⟨g, rfl⟩ : ∃ g', g = g' + 1 := ⟨g - 1, by simp at hg; omega⟩
            rw [tkL_space, h2 (g + 1) (by simp at hg ⊢; omega)]
            rfl
          · rw [hj, List.length_append, List.length_cons]; omega
          · rw [hj, List.length_append, List.length_cons]
            simp at h4 ⊢; omega
          · rcases List.mem_cons.1 ht with rfl | ht
            · exact hF.val e3
            · exact h5 t ht e3
end Go.Proofs.YtcnihmlmaigkdaaGreatDoor
