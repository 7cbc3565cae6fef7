/- The tokens of a text, in plain words (chapter 06). No program in sight. -/
import Derived.Test.YtjkglbgenbnjoaaGreatDoorNuForm
import Derived.Test.YtjkglbgenbnjoaaGreatDoorNmScanSpec
namespace Go.Proofs.YtjkglbgenbnjoaaGreatDoor
open Go.Lib

def isSp (c : UInt8) : Bool := c == 32 || c == 9 || c == 10 || c == 13
def isLet (c : UInt8) : Bool := decide (97 ≤ c.toNat) && decide (c.toNat ≤ 122)
def isDig (c : UInt8) : Bool := decide (48 ≤ c.toNat) && decide (c.toNat ≤ 57)
def isSign (c : UInt8) : Bool := c == 123 || c == 125 || c == 59 || c == 44
def isAl (c : UInt8) : Bool := isLet c || isDig c
/-- How many bytes of spacing lie at the head; 'true': inside a comment. -/
def spc : Bool → List UInt8 → Nat
  | _, [] => 0
  | false, c :: r => if c = 35 then 1 + spc true r else if isSp c = true then 1 + spc false r else 0
  | true, c :: r => if c = 10 then 1 + spc false r else 1 + spc true r
def runLen (p : UInt8 → Bool) : List UInt8 → Nat
  | [] => 0
  | c :: r => if p c = true then 1 + runLen p r else 0
theorem spc_le : ∀ (l : List UInt8) (b : Bool), spc b l ≤ l.length := by
  intro l
  induction l with
  | nil => intro b; cases b <;> simp [spc]
  | cons c r ih =>
    intro b
    have h1 := ih true
    have h2 := ih false
    cases b
    · simp only [spc]
      split
      · simp; omega
      · split
        · simp; omega
        · simp
    · simp only [spc]
      split <;> (simp; omega)
theorem runLen_le (p : UInt8 → Bool) : ∀ l : List UInt8, runLen p l ≤ l.length := by
  intro l
  induction l with
  | nil => simp [runLen]
  | cons c r ih => simp only [runLen]; split <;> (simp; try omega)
/-- A place: the line and the column. -/
def pass (p : Nat × Nat) (c : UInt8) : Nat × Nat := if c = 10 then (p.1 + 1, 1) else (p.1, p.2 + 1)
def placeFrom (p : Nat × Nat) (l : List UInt8) : Nat × Nat := l.foldl pass p
theorem placeFrom_append (p : Nat × Nat) (a b : List UInt8) : placeFrom p (a ++ b) = placeFrom (placeFrom p a) b := List.foldl_append
def placeAt (s : ByteArray) (k : Nat) : Nat × Nat := placeFrom (1, 1) (s.data.toList.take k)
theorem placeFrom_le (l : List UInt8) : ∀ p, (placeFrom p l).1 ≤ p.1 + l.length ∧ (placeFrom p l).2 ≤ p.2 + l.length + 1 := by
  induction l with
  | nil => intro p; exact ⟨Nat.le_refl _, Nat.le_succ _⟩
  | cons c r ih =>
    intro p
    have h := ih (pass p c)
    have h2 : placeFrom p (c :: r) = placeFrom (pass p c) r := rfl
    rw [h2]
    unfold pass at h ⊢
    split at h
    · rename_i h3; rw [if_pos h3]; simp at h ⊢; omega
    · rename_i h3; rw [if_neg h3]; simp at h ⊢; omega

/-- What is read at an offset behind spacing: a token and the offset behind it, or a code. -/
inductive Tk where
  | tok (kind : Nat) (text : List UInt8) (val stop : Nat)
  | bad (code : Nat)
def tokAt (s : ByteArray) (k : Nat) : Tk :=
  match s.data.toList.drop k with
  | [] => .tok 0 [] 0 k
  | c :: r =>
    if isLet c = true then .tok 1 ((c :: r).take (runLen isLet (c :: r))) 0 (k + runLen isLet (c :: r))
    else if isDig c = true then
      match parseN ((c :: r).take (runLen isAl (c :: r))) with
      | some v => .tok 2 ((c :: r).take (runLen isAl (c :: r))) v (k + runLen isAl (c :: r))
      | none => .bad 5
    else if c = 34 then (if (scanR s (k : Int)).2.2 = 0 then .tok 3 (scanR s (k : Int)).1 0 (scanR s (k : Int)).2.1 else .bad 6)
    else if isSign c = true then .tok 4 [c] 0 (k + 1)
    else .bad 3
def skipAt (s : ByteArray) (k : Nat) : Nat := k + spc false (s.data.toList.drop k)
theorem skipAt_le (s : ByteArray) (k : Nat) (h : k ≤ s.size) : skipAt s k ≤ s.size := by
  unfold skipAt
  have h1 := spc_le (s.data.toList.drop k) false
  have h2 := Lib.size_eq s
  rw [List.length_drop] at h1
  omega
theorem skipAt_ge (s : ByteArray) (k : Nat) : k ≤ skipAt s k := Nat.le_add_right _ _

structure Token where
  kind : Nat
  text : List UInt8
  val : Nat
  line : Nat
  col : Nat
inductive Out where
  | ok (l : List Token)
  | bad (code line col : Nat)
def Out.cons (t : Token) : Out → Out
  | .ok l => .ok (t :: l)
  | .bad e a b => .bad e a b
def Out.front (l : List Token) (o : Out) : Out := l.foldr Out.cons o
theorem Out.front_snoc (l : List Token) (t : Token) (o : Out) : Out.front (l ++ [t]) o = Out.front l (Out.cons t o) := List.foldr_append
theorem Out.front_ok (l r : List Token) : Out.front l (.ok r) = .ok (l ++ r) := by
  induction l with
  | nil => rfl
  | cons t l ih => show Out.cons t (Out.front l (.ok r)) = _; rw [ih]; rfl
theorem Out.front_bad (l : List Token) (e a b : Nat) : Out.front l (.bad e a b) = .bad e a b := by
  induction l with
  | nil => rfl
  | cons t l ih => show Out.cons t (Out.front l (.bad e a b)) = _; rw [ih]; rfl
def mkTok (s : ByteArray) (j kind : Nat) (text : List UInt8) (val : Nat) : Token := ⟨kind, text, val, (placeAt s j).1, (placeAt s j).2⟩
/-- The tokens from an offset on. -/
def toks (s : ByteArray) : Nat → Nat → Out
  | 0, _ => .ok []
  | f + 1, k =>
    match tokAt s (skipAt s k) with
    | .bad e => .bad e (placeAt s (skipAt s k)).1 (placeAt s (skipAt s k)).2
    | .tok kind text val stop =>
      if kind = 0 then .ok [mkTok s (skipAt s k) kind text val] else Out.cons (mkTok s (skipAt s k) kind text val) (toks s f stop)

/-! ### Where a token ends -/
theorem goL_count : ∀ (l : List UInt8) (e o : Bool) (a n : List UInt8) (k : Bool) (m : Nat), goL e o a l = some (n, k, m) → 1 ≤ m ∧ m ≤ l.length := by
  intro l
  induction l with
  | nil => intro e o a n k m h; cases h
  | cons c r ih =>
    intro e o a n k m h
    have step : ∀ (e' o' : Bool) (a' : List UInt8), (goL e' o' a' r).map (fun x => (x.1, x.2.1, x.2.2 + 1)) = some (n, k, m) → 1 ≤ m ∧ m ≤ (c :: r).length := by
      intro e' o' a' h
      cases hg : goL e' o' a' r with
      | none => rw [hg] at h; cases h
      | some x =>
        obtain ⟨x1, x2, x3⟩ := x
        rw [hg] at h
        have h := Option.some.inj h
        have h4 := ih e' o' a' x1 x2 x3 hg
        have h5 : x3 + 1 = m := congrArg (fun x => x.2.2) h
        simp; omega
    rw [goL] at h
    split at h
    · exact step _ _ _ h
    · split at h
      · have h := Option.some.inj h
        have h5 : 1 = m := congrArg (fun x => x.2.2) h
        simp; omega
      · split at h
        · exact step _ _ _ h
        · exact step _ _ _ h
theorem scanR_stop (s : ByteArray) (k : Nat) (h : (scanR s (k : Int)).2.2 = 0) : k < (scanR s (k : Int)).2.1 ∧ (scanR s (k : Int)).2.1 ≤ s.size := by
  unfold scanR at h ⊢
  split
  · rename_i hc
    rw [if_pos hc, Int.toNat_natCast] at h
    rw [Int.toNat_natCast]
    cases hg : goL false true [] (s.data.toList.drop (k + 1)) with
    | none => rw [hg] at h; have h : (6 : Nat) = 0 := h; omega
    | some x =>
      obtain ⟨n, o, m⟩ := x
      have hcnt := goL_count _ _ _ _ _ _ _ hg
      rw [List.length_drop] at hcnt
      rw [hg] at h
      have h2 := Lib.size_eq s
      simp only [final, okR] at h ⊢
      split at h
      · rename_i h3; rw [if_pos h3]; simp; omega
      · have h : (6 : Nat) = 0 := h; omega
  · rename_i hc
    rw [if_neg hc] at h
    have h : (3 : Nat) = 0 := h; omega
theorem tokAt_stop (s : ByteArray) (k kind v stop : Nat) (text : List UInt8) (h : tokAt s k = .tok kind text v stop) (hk : k ≤ s.size) :
    stop ≤ s.size ∧ (kind ≠ 0 → k < stop) := by
  have h2 := Lib.size_eq s
  unfold tokAt at h
  cases hd : s.data.toList.drop k with
  | nil => rw [hd] at h; injection h with h1 h2 h3 h4; subst h1 h2 h3 h4; exact ⟨hk, fun h => absurd rfl h⟩
  | cons c r =>
    have hl : (c :: r).length = s.size - k := by rw [← hd, List.length_drop]; omega
    have hl2 : 1 ≤ (c :: r).length := by simp
    rw [hd] at h
    simp only at h
    split at h
    · rename_i hx
      have hr := runLen_le isLet (c :: r)
      have hr1 : 1 ≤ runLen isLet (c :: r) := by simp only [runLen]; rw [if_pos hx]; omega
      injection h with h1 h2 h3 h4; subst h1 h2 h3 h4
      exact ⟨by omega, fun _ => by omega⟩
    · split at h
      · rename_i hx
        have hr := runLen_le isAl (c :: r)
        have hr1 : 1 ≤ runLen isAl (c :: r) := by simp only [runLen]; rw [if_pos (by unfold isAl; rw [hx]; simp)]; omega
        split at h
        · injection h with h1 h2 h3 h4; subst h1 h2 h3 h4
          exact ⟨by omega, fun _ => by omega⟩
        · cases h
      · split at h
        · split at h
          · rename_i hs
            have hst := scanR_stop s k hs
            injection h with h1 h2 h3 h4; subst h1 h2 h3 h4
            exact ⟨hst.2, fun _ => hst.1⟩
          · cases h
        · split at h
          · injection h with h1 h2 h3 h4; subst h1 h2 h3 h4
            exact ⟨by omega, fun _ => by omega⟩
          · cases h

/-! ### Spacing, piece by piece -/
def notFeed (c : UInt8) : Bool := !(c == 10)
theorem spc_spaces : ∀ l : List UInt8, spc false l = runLen isSp l + spc false (l.drop (runLen isSp l)) := by
  intro l
  induction l with
  | nil => rfl
  | cons c r ih =>
    by_cases h : c = 35
    · have hs : ¬ isSp c = true := by subst h; decide
      simp only [runLen]
      rw [if_neg hs, List.drop_zero, Nat.zero_add]
    · by_cases hs : isSp c = true
      · have e1 : spc false (c :: r) = 1 + spc false r := by simp only [spc]; rw [if_neg h, if_pos hs]
        have e2 : runLen isSp (c :: r) = 1 + runLen isSp r := by simp only [runLen]; rw [if_pos hs]
        rw [e1, e2, show 1 + runLen isSp r = runLen isSp r + 1 from Nat.add_comm _ _, List.drop_succ_cons]
        omega
      · simp only [runLen]
        rw [if_neg hs, List.drop_zero, Nat.zero_add]
theorem spc_comment : ∀ l : List UInt8, spc true l = runLen notFeed l + spc false (l.drop (runLen notFeed l)) := by
  intro l
  induction l with
  | nil => rfl
  | cons c r ih =>
    by_cases h : c = 10
    · have hs : ¬ notFeed c = true := by subst h; decide
      simp only [runLen]
      rw [if_neg hs, List.drop_zero, Nat.zero_add]
      subst h
      rfl
    · have hs : notFeed c = true := by unfold notFeed; simpa using h
      have e1 : spc true (c :: r) = 1 + spc true r := by simp only [spc]; rw [if_neg h]
      have e2 : runLen notFeed (c :: r) = 1 + runLen notFeed r := by simp only [runLen]; rw [if_pos hs]
      rw [e1, e2, show 1 + runLen notFeed r = runLen notFeed r + 1 from Nat.add_comm _ _, List.drop_succ_cons]
      omega
theorem spc_hash (r : List UInt8) : spc false (35 :: r) = spc true (35 :: r) := rfl
theorem spc_stop (c : UInt8) (r : List UInt8) (h1 : c ≠ 35) (h2 : isSp c = false) : spc false (c :: r) = 0 := by
  simp only [spc]; rw [if_neg h1, if_neg (by rw [h2]; decide)]
theorem runLen_head (p : UInt8 → Bool) : ∀ l : List UInt8, ∀ c r, l.drop (runLen p l) = c :: r → p c = false := by
  intro l
  induction l with
  | nil => intro c r h; simp [runLen] at h
  | cons d l ih =>
    intro c r h
    by_cases hp : p d = true
    · have e : runLen p (d :: l) = runLen p l + 1 := by simp only [runLen]; rw [if_pos hp, Nat.add_comm]
      rw [e, List.drop_succ_cons] at h
      exact ih c r h
    · have e : runLen p (d :: l) = 0 := by simp only [runLen]; rw [if_neg hp]
      rw [e, List.drop_zero] at h
      injection h with h1 _
      rw [← h1]; simpa using hp
theorem runLen_cons_yes (p : UInt8 → Bool) (c : UInt8) (r : List UInt8) (h : p c = true) : runLen p (c :: r) = 1 + runLen p r := by simp only [runLen]; rw [if_pos h]
theorem runLen_cons_no (p : UInt8 → Bool) (c : UInt8) (r : List UInt8) (h : p c = false) : runLen p (c :: r) = 0 := by simp only [runLen]; rw [if_neg (by rw [h]; decide)]
end Go.Proofs.YtjkglbgenbnjoaaGreatDoor
