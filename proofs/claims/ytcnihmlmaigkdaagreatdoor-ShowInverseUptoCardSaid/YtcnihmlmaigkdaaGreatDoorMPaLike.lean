/- Chapter 07: tokens that differ in their places alone have one configuration; what is read lies within limits. No program in sight. Chapter 07: what is read lies within limits, its numbers within their widths. No program in sight. Chapter 07: a text that is cut off is rejected. No program in sight. Chapter 07: the records of a text within a module (ParseRecords). No program in sight. The tokens of a configuration's text (chapter 08, ShowInverse). No program in sight. Chapter 07: the tokens of a text within a module (ParseRecords). No program in sight. Chapter 07: what is read lies within limits. No program in sight. The tokens of a text: they end with the end, their names are short; codes of faults (chapter 07). No program in sight. The tokens' texts are no longer than the text (chapter 07). No program in sight. The parser reads a configuration's tokens back (chapter 08, ShowInverse). No program in sight. -/
import Derived.Test.YtcnihmlmaigkdaaGreatDoorMPaSpec
import Derived.Test.YtcnihmlmaigkdaaGreatDoorMLxSpec
import Derived.Test.YtcnihmlmaigkdaaGreatDoorMShSpec
namespace Go.Proofs.YtcnihmlmaigkdaaGreatDoor
open Go.Lib
set_option linter.unusedVariables false

theorem takeT_cons (n : Nat) (t : Token) (r : List Token) : takeT n (t :: r) = if t.kind = n then .ok (t, r) else .error (4, t.line, t.col) := rfl
theorem isT_cons (x : List UInt8) (t : Token) (r : List Token) : isT x (t :: r) = ((t.kind == 1 || t.kind == 4) && t.text == x) := rfl
/-- Tokens that differ in their places alone. -/
def LikeL (l m : List Token) : Prop := l.map un = m.map un
def LikeR {α : Type} (x y : Except Flt (α × List Token)) : Prop := match x, y with
  | .ok (a, r), .ok (b, s) => a = b ∧ LikeL r s
  | .error e, .error f => e.1 = f.1
  | _, _ => False
def LikeM {α : Type} (m : PM α) : Prop := ∀ l k, LikeL l k → LikeR (m l) (m k)
theorem like_cases {l k : List Token} (h : LikeL l k) : (l = [] ∧ k = []) ∨ ∃ t r u s, l = t :: r ∧ k = u :: s ∧ t.kind = u.kind ∧ t.text = u.text ∧ t.val = u.val ∧ LikeL r s := by
  cases l with
  | nil => cases k with
    | nil => exact .inl ⟨rfl, rfl⟩
    | cons u s => cases h
  | cons t r => cases k with
    | nil => cases h
    | cons u s =>
      unfold LikeL at h
      rw [List.map_cons, List.map_cons] at h
      injection h with h1 h2
      unfold un at h1
      simp only [Prod.mk.injEq] at h1
      exact .inr ⟨t, r, u, s, rfl, rfl, h1.1, h1.2.1, h1.2.2, h2⟩
theorem like_is (x : List UInt8) {l k : List Token} (h : LikeL l k) : isT x l = isT x k := by
  rcases like_cases h with ⟨rfl, rfl⟩ | ⟨t, r, u, s, rfl, rfl, h1, h2, h3, h4⟩
  · rfl
  · rw [isT_cons, isT_cons, h1, h2]
theorem like_tail {l k : List Token} (h : LikeL l k) : LikeL l.tail k.tail := by
  rcases like_cases h with ⟨rfl, rfl⟩ | ⟨t, r, u, s, rfl, rfl, h1, h2, h3, h4⟩
  · exact h
  · exact h4
theorem like_fail {α : Type} (c : Nat) : LikeM (failT c : PM α) := fun l k _ => rfl
theorem like_want (x : List UInt8) : LikeM (wantT x) := fun l k h => by
  unfold wantT
  rw [like_is x h]
  cases isT x k with
  | true => exact ⟨rfl, like_tail h⟩
  | false => rfl
theorem like_take {l k : List Token} (n : Nat) (h : LikeL l k) : (∃ t r u s, takeT n l = .ok (t, r) ∧ takeT n k = .ok (u, s) ∧ t.kind = u.kind ∧ t.text = u.text ∧ t.val = u.val ∧ LikeL r s) ∨ (∃ e f, takeT n l = .error e ∧ takeT n k = .error f ∧ e.1 = 4 ∧ f.1 = 4) := by
  rcases like_cases h with ⟨rfl, rfl⟩ | ⟨t, r, u, s, rfl, rfl, h1, h2, h3, h4⟩
  · exact .inr ⟨_, _, rfl, rfl, rfl, rfl⟩
  · by_cases e : t.kind = n
    · exact .inl ⟨t, r, u, s, by rw [takeT_cons, if_pos e], by rw [takeT_cons, if_pos (h1 ▸ e)], h1, h2, h3, h4⟩
    · exact .inr ⟨_, _, by rw [takeT_cons, if_neg e], by rw [takeT_cons, if_neg (h1 ▸ e)], rfl, rfl⟩
theorem like_num (most : Nat) : LikeM (numT most) := fun l k h => by
  unfold numT
  rcases like_take 2 h with ⟨t, r, u, s, e1, e2, h1, h2, h3, h4⟩ | ⟨e, f, e1, e2, h1, h2⟩
  · rw [e1, e2]
    simp only
    rw [h3]
    by_cases hv : u.val ≤ most
    · rw [if_pos hv, if_pos hv]; exact ⟨rfl, h4⟩
    · rw [if_neg hv, if_neg hv]; rfl
  · rw [e1, e2]; exact h1.trans h2.symm
theorem like_bind {α β : Type} {m : PM α} {f : α → PM β} (hm : LikeM m) (hf : ∀ a, LikeM (f a)) : LikeM (bindT m f) := fun l k h => by
  have := hm l k h
  unfold bindT
  revert this
  cases m l with
  | error e => cases m k with
    | error e2 => exact id
    | ok y => exact False.elim
  | ok x => cases m k with
    | error e2 => exact False.elim
    | ok y =>
      obtain ⟨a, r⟩ := x
      obtain ⟨b, s⟩ := y
      rintro ⟨h1, h2⟩
      subst h1
      exact hf a r s h2
theorem like_pure {α : Type} (a : α) : LikeM (pureT a) := fun l k h => ⟨rfl, h⟩
theorem like_field (w : List UInt8) (n : Nat) : LikeM (fieldT w n) := like_bind (like_want w) fun _ => like_bind (like_num n) fun _ => like_bind (like_want _) fun _ => like_pure _
theorem like_choice (a b : List UInt8) : LikeM (choiceT a b) := fun l k h => by
  unfold choiceT
  rw [like_is b h]
  cases isT b k with
  | true => exact like_bind (like_want b) (fun _ => like_bind (like_want _) fun _ => like_pure _) l k h
  | false => exact like_bind (like_want a) (fun _ => like_bind (like_want _) fun _ => like_pure _) l k h
/-- Behind a token, what hangs on its text and its place alone in the place of a fault. -/
theorem like_then {β : Type} (n : Nat) {f : Token → PM β} (hf : ∀ t u, t.kind = u.kind → t.text = u.text → t.val = u.val → ∀ l k, LikeL l k → LikeR (f t l) (f u k)) : LikeM (bindT (takeT n) f) := fun l k h => by
  unfold bindT
  rcases like_take n h with ⟨t, r, u, s, e1, e2, h1, h2, h3, h4⟩ | ⟨e, g, e1, e2, h1, h2⟩
  · rw [e1, e2]; exact hf t u h1 h2 h3 r s h4
  · rw [e1, e2]; exact h1.trans h2.symm
theorem like_rights : LikeM rightsT := like_then 1 fun t u h1 h2 h3 l k h => by
  rw [h2]
  cases rightsN u.text with
  | none => rfl
  | some r => exact ⟨rfl, h⟩
theorem like_dests : ∀ f links, LikeM (destsT f links)
  | 0, _ => like_fail 4
  | f + 1, links => fun l k h => by
    unfold destsT
    have := like_num 65535 l k h
    revert this
    cases numT 65535 l with
    | error e => cases numT 65535 k with
      | error e2 => exact id
      | ok y => exact False.elim
    | ok x => cases numT 65535 k with
      | error e2 => exact False.elim
      | ok y =>
        obtain ⟨a, r⟩ := x
        obtain ⟨b, s⟩ := y
        rintro ⟨h1, h2⟩
        subst h1
        simp only
        by_cases hl : 1024 ≤ links
        · rw [if_pos hl, if_pos hl]; rfl
        · rw [if_neg hl, if_neg hl, like_is [44] h2]
          cases isT [44] s with
          | false => exact ⟨rfl, h2⟩
          | true =>
            have h5 := like_dests f (links + 1) r.tail s.tail (like_tail h2)
            simp only [if_true]
            revert h5
            cases destsT f (links + 1) r.tail with
            | error e => cases destsT f (links + 1) s.tail with
              | error e2 => exact id
              | ok y => exact False.elim
            | ok x => cases destsT f (links + 1) s.tail with
              | error e2 => exact False.elim
              | ok y =>
                obtain ⟨a2, r2⟩ := x
                obtain ⟨b2, s2⟩ := y
                rintro ⟨h6, h7⟩
                subst h6
                exact ⟨rfl, h7⟩
theorem like_len {l k : List Token} (h : LikeL l k) : l.length = k.length := by
  have := congrArg List.length h
  simpa using this
theorem like_to (links : Nat) : LikeM (toT links) := like_bind (like_want _) fun _ l k h => by
  show LikeR (if isT [59] l then _ else _) (if isT [59] k then _ else _)
  rw [like_is [59] h, like_len h]
  cases isT [59] k with
  | true => exact ⟨rfl, h⟩
  | false => exact like_dests _ _ l k h
theorem like_part (c : PC) : LikeM (partT c) := like_bind (like_num _) fun _ => like_then 3 fun t u h1 h2 h3 l k h => by
  rw [h2]
  exact like_bind (like_want _) (fun _ => like_bind (like_field _ _) fun _ => like_bind (like_field _ _) fun _ => like_pure _) l k h
theorem like_win (c : PC) : LikeM (winT c) := like_bind (like_num _) fun _ => like_bind (like_want _) fun _ => like_bind (like_field _ _) fun _ => like_bind (like_field _ _) fun _ => like_pure _
theorem like_shared : LikeM sharedT := fun l k h => by
  unfold sharedT
  rw [like_is _ h]
  cases isT [115, 104, 97, 114, 101, 100] k with
  | true => exact like_bind (like_want _) (fun _ => like_bind (like_want _) fun _ => like_pure _) l k h
  | false => exact ⟨rfl, h⟩
theorem like_reg (c : PC) : LikeM (regT c) := like_bind (like_num _) fun _ => like_bind (like_want _) fun _ => like_bind (like_field _ _) fun _ => like_bind (like_field _ _) fun _ => like_bind (like_want _) fun _ => like_bind like_rights fun _ => like_bind (like_want _) fun _ => like_bind like_shared fun _ => like_pure _
theorem like_port (c : PC) : LikeM (portT c) := like_bind (like_num _) fun _ => like_then 3 fun t u h1 h2 h3 l k h => by
  rw [h2]
  exact like_bind (like_want _) (fun _ => like_bind (like_field _ _) fun _ => like_bind (like_choice _ _) fun _ => like_bind (like_choice _ _) fun _ => like_bind (like_field _ _) fun _ => like_pure _) l k h
theorem like_chan (c : PC) : LikeM (chanT c) := like_bind (like_num _) fun _ => like_bind (like_want _) fun _ => like_bind (like_field _ _) fun _ => like_bind (like_to _) fun _ => like_bind (like_want _) fun _ => like_pure _
theorem like_body (k : Nat) (c : PC) : LikeM (bodyT k c) := by
  unfold bodyT
  split
  · exact like_part c
  · split
    · exact like_win c
    · split
      · exact like_reg c
      · split
        · exact like_port c
        · exact like_chan c
theorem like_record (n : Nat) (c : PC) : LikeM (recordT n c) := like_then 1 fun t u h1 h2 h3 l k h => by
  by_cases hl : limN n ≤ cntK c n
  · rw [if_pos hl, if_pos hl]; rfl
  · rw [if_neg hl, if_neg hl]
    exact like_bind (like_body n c) (fun _ => like_bind (like_want _) fun _ => like_pure _) l k h
theorem like_records : ∀ f c, LikeM (recordsT f c)
  | 0, c => like_pure c
  | f + 1, c => fun l k h => by
    rcases like_cases h with ⟨rfl, rfl⟩ | ⟨t, r, u, s, rfl, rfl, h1, h2, h3, h4⟩
    · exact ⟨rfl, rfl⟩
    · unfold recordsT
      simp only
      rw [h1, h2]
      by_cases hk : u.kind = 1 ∧ 0 < sectN u.text
      · rw [if_pos hk, if_pos hk]
        have h5 := like_record (sectN u.text) c (t :: r) (u :: s) h
        revert h5
        cases recordT (sectN u.text) c (t :: r) with
        | error e => cases recordT (sectN u.text) c (u :: s) with
          | error e2 => exact id
          | ok y => exact False.elim
        | ok x => cases recordT (sectN u.text) c (u :: s) with
          | error e2 => exact False.elim
          | ok y =>
            obtain ⟨a2, r2⟩ := x
            obtain ⟨b2, s2⟩ := y
            rintro ⟨h6, h7⟩
            subst h6
            exact like_records f a2 r2 s2 h7
      · rw [if_neg hk, if_neg hk]; exact ⟨rfl, h⟩
theorem like_all (c : PC) : LikeM (allRecT c) := fun l k h => by
  unfold allRecT
  rw [like_len h]
  exact like_records _ c l k h
theorem like_module : LikeM moduleT := like_bind (like_want _) fun _ => like_bind (like_want _) fun _ => like_bind (like_field _ _) fun _ => like_bind (like_all _) fun _ => like_bind (like_want _) fun _ => like_pure _
/-- ParseSpaces: the same kinds, texts and values have the same configuration. -/
theorem parse_like {l k : List Token} (h : LikeL l k) {c : PC} (hc : parseT l = .ok c) : parseT k = .ok c := by
  unfold parseT endT at hc ⊢
  have h1 := like_module l k h
  revert hc h1
  cases moduleT l with
  | error e => intro hc; cases hc
  | ok x => cases moduleT k with
    | error e2 => intro _ h; exact h.elim
    | ok y =>
      obtain ⟨a, r⟩ := x
      obtain ⟨b, s⟩ := y
      rintro hc ⟨h1, h2⟩
      subst h1
      simp only at hc ⊢
      rcases like_take 0 h2 with ⟨t, r', u, s', e1, e2, _⟩ | ⟨e, f, e1, e2, _⟩
      · rw [e1] at hc; rw [e2]; exact hc
      · rw [e1] at hc; cases hc
end Go.Proofs.YtcnihmlmaigkdaaGreatDoor
namespace Go.Proofs.YtcnihmlmaigkdaaGreatDoor
open Go.Lib
set_option linter.unusedVariables false

/-- The names among the tokens are short. -/
def Tsz (l : List Token) : Prop := ∀ t ∈ l, t.kind = 3 → t.text.length ≤ 30
def PostO {α : Type} (m : PM α) (P : α → Prop) : Prop := ∀ l a r, Tsz l → m l = .ok (a, r) → Tsz r ∧ P a
end Go.Proofs.YtcnihmlmaigkdaaGreatDoor
namespace Go.Proofs.YtcnihmlmaigkdaaGreatDoor
open Go.Lib
set_option linter.unusedVariables false

section
variable (t E : Token) (q : List Token)
end
section
variable {t E : Token} {q : List Token}
variable (hE : E.kind = 0)
include hE
theorem is_end (x : List UInt8) : isT x [E] = false := by rw [isT_cons, hE]; rfl
end
/-! ### How much is read -/
def Shr {α : Type} (m : PM α) : Prop := ∀ l a r, m l = .ok (a, r) → ∃ d, l = d ++ r
theorem shr_bind {α β : Type} {m : PM α} {f : α → PM β} (hm : Shr m) (hf : ∀ a, Shr (f a)) : Shr (bindT m f) := fun l b r h => by
  unfold bindT at h
  cases hx : m l with
  | error e => rw [hx] at h; cases h
  | ok x =>
    obtain ⟨a, s⟩ := x
    rw [hx] at h
    obtain ⟨d1, h1⟩ := hm l a s hx
    obtain ⟨d2, h2⟩ := hf a s b r h
    exact ⟨d1 ++ d2, by rw [h1, h2, List.append_assoc]⟩
theorem shr_pure {α : Type} (a : α) : Shr (pureT a) := fun l b r h => by
  injection h with h
  injection h with h1 h2
  subst h2; exact ⟨[], rfl⟩
theorem take_less {k : Nat} {l r : List Token} {u : Token} (h : takeT k l = .ok (u, r)) : r = l.tail ∧ r.length < l.length := by
  cases l with
  | nil => cases h
  | cons v l =>
    rw [takeT_cons] at h
    by_cases hv : v.kind = k
    · rw [if_pos hv] at h
      injection h with h
      injection h with h1 h2
      subst h2
      exact ⟨rfl, by simp⟩
    · rw [if_neg hv] at h; cases h
theorem num_less {k : Nat} {l r : List Token} {n : Nat} (h : numT k l = .ok (n, r)) : r.length < l.length := by
  unfold numT at h
  cases hx : takeT 2 l with
  | error e => rw [hx] at h; cases h
  | ok x =>
    obtain ⟨u, s⟩ := x
    rw [hx] at h
    simp only at h
    by_cases hn : u.val ≤ k
    · rw [if_pos hn] at h
      injection h with h
      injection h with h1 h2
      subst h2
      exact (take_less hx).2
    · rw [if_neg hn] at h; cases h
theorem sfx_tail {l r : List Token} (h : r = l.tail) : ∃ d, l = d ++ r := by
  cases l with
  | nil => exact ⟨[], h.symm⟩
  | cons u l => exact ⟨[u], by rw [h]; rfl⟩
theorem shr_take (k : Nat) : Shr (takeT k) := fun l a r h => sfx_tail (take_less h).1
theorem num_tail {k : Nat} {l r : List Token} {n : Nat} (h : numT k l = .ok (n, r)) : r = l.tail := by
  unfold numT at h
  cases hx : takeT 2 l with
  | error e => rw [hx] at h; cases h
  | ok x =>
    obtain ⟨u, s⟩ := x
    rw [hx] at h
    simp only at h
    by_cases hn : u.val ≤ k
    · rw [if_pos hn] at h
      injection h with h
      injection h with h1 h2
      subst h2
      exact (take_less hx).1
    · rw [if_neg hn] at h; cases h
theorem shr_num (k : Nat) : Shr (numT k) := fun l a r h => sfx_tail (num_tail h)
theorem shr_want (x : List UInt8) : Shr (wantT x) := fun l a r h => by
  unfold wantT at h
  cases hi : isT x l with
  | false => rw [hi, if_neg (by simp)] at h; cases h
  | true =>
    rw [hi, if_pos rfl] at h
    injection h with h
    injection h with h1 h2
    exact sfx_tail h2.symm
theorem shr_field (w : List UInt8) (n : Nat) : Shr (fieldT w n) := shr_bind (shr_want w) fun _ => shr_bind (shr_num n) fun _ => shr_bind (shr_want _) fun _ => shr_pure _
theorem shr_if {α : Type} (x : List UInt8) {m n : PM α} (hm : Shr m) (hn : Shr n) : Shr (fun l => if isT x l then m l else n l) := fun l a r h => by
  simp only at h
  cases hi : isT x l with
  | true => rw [hi, if_pos rfl] at h; exact hm l a r h
  | false => rw [hi, if_neg (by simp)] at h; exact hn l a r h
theorem shr_choice (a b : List UInt8) : Shr (choiceT a b) := shr_if b (shr_bind (shr_want b) fun _ => shr_bind (shr_want _) fun _ => shr_pure _) (shr_bind (shr_want a) fun _ => shr_bind (shr_want _) fun _ => shr_pure _)
theorem shr_shared : Shr sharedT := shr_if _ (shr_bind (shr_want _) fun _ => shr_bind (shr_want _) fun _ => shr_pure _) (shr_pure false)
theorem shr_rights : Shr rightsT := shr_bind (shr_take 1) fun u => by
  cases rightsN u.text with
  | some r => exact shr_pure r
  | none => exact fun l a r h => by cases h
theorem shr_dests : ∀ f links, Shr (destsT f links)
  | 0, links => fun l a r h => by cases h
  | f + 1, links => fun l a r h => by
    unfold destsT at h
    cases hx : numT 65535 l with
    | error e => rw [hx] at h; cases h
    | ok x =>
      obtain ⟨n, s⟩ := x
      rw [hx] at h
      obtain ⟨d1, h1⟩ := shr_num 65535 l n s hx
      simp only at h
      by_cases hl : 1024 ≤ links
      · rw [if_pos hl] at h; cases h
      · rw [if_neg hl] at h
        cases hi : isT [44] s with
        | false =>
          rw [hi, if_neg (by simp)] at h
          injection h with h
          injection h with _ h2
          subst h2; exact ⟨d1, h1⟩
        | true =>
          rw [hi, if_pos rfl] at h
          cases hd : destsT f (links + 1) s.tail with
          | error e => rw [hd] at h; cases h
          | ok y =>
            obtain ⟨ns, r2⟩ := y
            rw [hd] at h
            simp only at h
            injection h with h
            injection h with _ h2
            subst h2
            obtain ⟨d2, h3⟩ := shr_dests f (links + 1) s.tail ns r2 hd
            obtain ⟨d3, h4⟩ := sfx_tail (l := s) (r := s.tail) rfl
            exact ⟨d1 ++ (d3 ++ d2), by rw [h1]; conv => lhs; rw [h4, h3]
                                        simp⟩
theorem shr_to (links : Nat) : Shr (toT links) := shr_bind (shr_want _) fun _ l a r h => by
  by_cases hi : isT [59] l = true
  · rw [if_pos hi] at h
    injection h with h
    injection h with _ h2
    subst h2; exact ⟨[], rfl⟩
  · rw [if_neg hi] at h
    exact shr_dests _ _ l a r h
theorem shr_body (k : Nat) (c : PC) : Shr (bodyT k c) := by
  unfold bodyT
  split
  · exact shr_bind (shr_num _) fun _ => shr_bind (shr_take 3) fun _ => shr_bind (shr_want _) fun _ => shr_bind (shr_field _ _) fun _ => shr_bind (shr_field _ _) fun _ => shr_pure _
  · split
    · exact shr_bind (shr_num _) fun _ => shr_bind (shr_want _) fun _ => shr_bind (shr_field _ _) fun _ => shr_bind (shr_field _ _) fun _ => shr_pure _
    · split
      · exact shr_bind (shr_num _) fun _ => shr_bind (shr_want _) fun _ => shr_bind (shr_field _ _) fun _ => shr_bind (shr_field _ _) fun _ => shr_bind (shr_want _) fun _ => shr_bind shr_rights fun _ => shr_bind (shr_want _) fun _ => shr_bind shr_shared fun _ => shr_pure _
      · split
        · exact shr_bind (shr_num _) fun _ => shr_bind (shr_take 3) fun _ => shr_bind (shr_want _) fun _ => shr_bind (shr_field _ _) fun _ => shr_bind (shr_choice _ _) fun _ => shr_bind (shr_choice _ _) fun _ => shr_bind (shr_field _ _) fun _ => shr_pure _
        · exact shr_bind (shr_num _) fun _ => shr_bind (shr_want _) fun _ => shr_bind (shr_field _ _) fun _ => shr_bind (shr_to _) fun _ => shr_bind (shr_want _) fun _ => shr_pure _
theorem record_less {k : Nat} {c c2 : PC} {l r : List Token} (h : recordT k c l = .ok (c2, r)) : r.length < l.length := by
  unfold recordT bindT at h
  cases hx : takeT 1 l with
  | error e => rw [hx] at h; cases h
  | ok x =>
    obtain ⟨u, s⟩ := x
    rw [hx] at h
    simp only at h
    have h1 := (take_less hx).2
    by_cases hl : limN k ≤ cntK c k
    · rw [if_pos hl] at h; cases h
    · rw [if_neg hl] at h
      obtain ⟨d, hd⟩ := shr_bind (shr_body k c) (fun c2 => shr_bind (shr_want [125]) fun _ => shr_pure c2) s c2 r h
      rw [hd] at h1
      simp at h1
      omega
/-! ### Rounds enough -/
theorem dests_fuel : ∀ f g links l, l.length ≤ f → l.length ≤ g → destsT f links l = destsT g links l
  | 0, 0, links, l, _, _ => rfl
  | 0, g + 1, links, l, h, _ => by
    have : l = [] := List.eq_nil_of_length_eq_zero (by omega)
    subst this; rfl
  | f + 1, 0, links, l, _, h => by
    have : l = [] := List.eq_nil_of_length_eq_zero (by omega)
    subst this; rfl
  | f + 1, g + 1, links, l, hf, hg => by
    unfold destsT
    cases hx : numT 65535 l with
    | error e => rfl
    | ok x =>
      obtain ⟨n, s⟩ := x
      have h1 := num_less hx
      have h2 : s.tail.length ≤ s.length := by simp
      simp only
      rw [dests_fuel f g (links + 1) s.tail (by omega) (by omega)]
theorem records_fuel : ∀ f g c l, l.length ≤ f → l.length ≤ g → recordsT f c l = recordsT g c l
  | 0, 0, c, l, _, _ => rfl
  | 0, g + 1, c, l, h, _ => by
    have : l = [] := List.eq_nil_of_length_eq_zero (by omega)
    subst this; rfl
  | f + 1, 0, c, l, _, h => by
    have : l = [] := List.eq_nil_of_length_eq_zero (by omega)
    subst this; rfl
  | f + 1, g + 1, c, l, hf, hg => by
    cases l with
    | nil => rfl
    | cons u l =>
      rw [recordsT, recordsT]
      simp only
      by_cases hk : u.kind = 1 ∧ 0 < sectN u.text
      · rw [if_pos hk, if_pos hk]
        cases hx : recordT (sectN u.text) c (u :: l) with
        | error e => rfl
        | ok x =>
          obtain ⟨c2, s⟩ := x
          have h1 := record_less hx
          simp only
          exact records_fuel f g c2 s (by omega) (by omega)
      · rw [if_neg hk, if_neg hk]
theorem want_ok {l r : List Token} {x : List UInt8} (h : wantT x l = .ok ((), r)) : isT x l = true ∧ r = l.tail := by
  unfold wantT at h
  cases hi : isT x l with
  | false => rw [hi, if_neg (by simp)] at h; cases h
  | true =>
    rw [hi, if_pos rfl] at h
    injection h with h
    injection h with h1 h2
    exact ⟨rfl, h2.symm⟩
theorem bind_assoc {α β γ : Type} (m : PM α) (f : α → PM β) (g : β → PM γ) : bindT (bindT m f) g = bindT m (fun a => bindT (f a) g) := by
  funext l
  unfold bindT
  cases m l with
  | error e => rfl
  | ok x => rfl
theorem shr_record (k : Nat) (c : PC) : Shr (recordT k c) := shr_bind (shr_take 1) fun u => by
  by_cases hl : limN k ≤ cntK c k
  · rw [if_pos hl]; exact fun l a r h => by cases h
  · rw [if_neg hl]; exact shr_bind (shr_body k c) fun _ => shr_bind (shr_want _) fun _ => shr_pure _
theorem shr_records : ∀ f c, Shr (recordsT f c)
  | 0, c => shr_pure c
  | f + 1, c => fun l a r h => by
    cases l with
    | nil =>
      rw [recordsT] at h
      injection h with h
      injection h with _ h2
      exact ⟨[], h2⟩
    | cons u l =>
      rw [recordsT] at h
      simp only at h
      by_cases hk : u.kind = 1 ∧ 0 < sectN u.text
      · rw [if_pos hk] at h
        cases hx : recordT (sectN u.text) c (u :: l) with
        | error e => rw [hx] at h; cases h
        | ok x =>
          obtain ⟨c2, s⟩ := x
          rw [hx] at h
          obtain ⟨d1, h1⟩ := shr_record _ _ _ _ _ hx
          obtain ⟨d2, h2⟩ := shr_records f c2 s a r h
          exact ⟨d1 ++ d2, by rw [h1, h2, List.append_assoc]⟩
      · rw [if_neg hk] at h
        injection h with h
        injection h with _ h2
        exact ⟨[], h2⟩
theorem shr_all (c : PC) : Shr (allRecT c) := fun l a r h => shr_records _ c l a r h
section
variable {t E : Token} {q : List Token} (hE : E.kind = 0)
include hE
theorem rec_end (f : Nat) (c : PC) : recordsT f c [E] = .ok (c, [E]) := by
  cases f with
  | zero => rfl
  | succ f =>
    rw [recordsT]
    simp only
    rw [if_neg (by rw [hE]; omega)]
end
end Go.Proofs.YtcnihmlmaigkdaaGreatDoor
namespace Go.Proofs.YtcnihmlmaigkdaaGreatDoor
open Go.Lib
set_option linter.unusedVariables false

section
variable (E B : Token) (q : List Token)
/-- What is read ahead of the end is read ahead of a bracket as well. -/
def Ext {α : Type} (m : PM α) : Prop := ∀ p a r, m (p ++ [E]) = .ok (a, r) → ∃ r0, r = r0 ++ [E] ∧ m (p ++ B :: q) = .ok (a, r0 ++ B :: q)
end
section
variable {E B : Token} {q : List Token}
theorem ext_pure {α : Type} (a : α) : Ext E B q (pureT a) := fun p b r h => by
  injection h with h
  injection h with h1 h2
  subst h1
  exact ⟨p, h2.symm, rfl⟩
theorem ext_bind {α β : Type} {m : PM α} {f : α → PM β} (hm : Ext E B q m) (hf : ∀ a, Ext E B q (f a)) : Ext E B q (bindT m f) := fun p b r h => by
  unfold bindT at h
  cases hx : m (p ++ [E]) with
  | error e => rw [hx] at h; cases h
  | ok x =>
    obtain ⟨a, s⟩ := x
    rw [hx] at h
    obtain ⟨r0, h1, h2⟩ := hm p a s hx
    subst h1
    obtain ⟨r1, h3, h4⟩ := hf a r0 b r h
    exact ⟨r1, h3, by unfold bindT; rw [h2]; exact h4⟩
theorem ext_err {α : Type} (e : Flt) : Ext E B q (fun _ => .error e : PM α) := fun p a r h => by cases h
variable (hE : E.kind = 0)
include hE
theorem ext_want (x : List UInt8) : Ext E B q (wantT x) := fun p a r h => by
  obtain ⟨h1, h2⟩ := want_ok h
  cases p with
  | nil => rw [List.nil_append, is_end hE] at h1; cases h1
  | cons u p =>
    refine ⟨p, h2, ?_⟩
    have e : isT x (u :: p ++ B :: q) = true := h1
    unfold wantT
    rw [e, if_pos rfl]
    rfl
theorem ext_take {k : Nat} (hk : k ≠ 0) : Ext E B q (takeT k) := fun p a r h => by
  cases p with
  | nil => rw [List.nil_append, takeT_cons, if_neg (by rw [hE]; exact fun e => hk e.symm)] at h; cases h
  | cons u p =>
    rw [List.cons_append, takeT_cons] at h ⊢
    by_cases hu : u.kind = k
    · rw [if_pos hu] at h ⊢
      injection h with h
      injection h with h1 h2
      subst h1
      exact ⟨p, h2.symm, rfl⟩
    · rw [if_neg hu] at h; cases h
theorem ext_num (n : Nat) : Ext E B q (numT n) := fun p a r h => by
  unfold numT at h ⊢
  cases hx : takeT 2 (p ++ [E]) with
  | error e => rw [hx] at h; cases h
  | ok x =>
    obtain ⟨u, s⟩ := x
    rw [hx] at h
    simp only at h
    obtain ⟨r0, h1, h2⟩ := ext_take (B := B) (q := q) hE (k := 2) (by omega) p u s hx
    rw [h2]
    simp only
    by_cases hn : u.val ≤ n
    · rw [if_pos hn] at h ⊢
      injection h with h
      injection h with h3 h4
      subst h3
      exact ⟨r0, by rw [← h4, h1], rfl⟩
    · rw [if_neg hn] at h; cases h
theorem ext_field (w : List UInt8) (n : Nat) : Ext E B q (fieldT w n) := ext_bind (ext_want hE w) fun _ => ext_bind (ext_num hE n) fun _ => ext_bind (ext_want hE _) fun _ => ext_pure _
variable (hB : B.text = [125])
include hB
omit hE in
theorem is_bracket {x : List UInt8} (hx : x ≠ [125]) : isT x (B :: q) = false := by
  rw [isT_cons, hB]
  have : (([125] : List UInt8) == x) = false := by rw [beq_eq_false_iff_ne]; exact fun e => hx e.symm
  rw [this]; simp
theorem ext_if {α : Type} {x : List UInt8} (hx : x ≠ [125]) {m n : PM α} (hm : Ext E B q m) (hn : Ext E B q n) : Ext E B q (fun l => if isT x l then m l else n l) := fun p a r h => by
  cases p with
  | nil =>
    simp only [List.nil_append] at h ⊢
    rw [is_end hE, if_neg (by simp)] at h
    rw [is_bracket hB hx, if_neg (by simp)]
    exact hn [] a r h
  | cons u p =>
    have e : isT x (u :: p ++ B :: q) = isT x (u :: p ++ [E]) := rfl
    simp only at h ⊢
    rw [e]
    cases hi : isT x (u :: p ++ [E]) with
    | true => rw [hi, if_pos rfl] at h; rw [if_pos rfl]; exact hm (u :: p) a r h
    | false => rw [hi, if_neg (by simp)] at h; rw [if_neg (by simp)]; exact hn (u :: p) a r h
theorem ext_choice (a : List UInt8) {b : List UInt8} (hb : b ≠ [125]) : Ext E B q (choiceT a b) := ext_if hE hB hb (ext_bind (ext_want hE b) fun _ => ext_bind (ext_want hE _) fun _ => ext_pure _) (ext_bind (ext_want hE a) fun _ => ext_bind (ext_want hE _) fun _ => ext_pure _)
theorem ext_shared : Ext E B q sharedT := ext_if hE hB (by decide) (ext_bind (ext_want hE _) fun _ => ext_bind (ext_want hE _) fun _ => ext_pure _) (ext_pure false)
omit hB in
theorem ext_rights : Ext E B q rightsT := ext_bind (ext_take hE (by omega)) fun u => by
  cases rightsN u.text with
  | some r => exact ext_pure r
  | none => exact ext_err _
theorem ext_dests : ∀ f links, Ext E B q (destsT f links)
  | 0, links => fun p a r h => by cases h
  | f + 1, links => fun p a r h => by
    unfold destsT at h ⊢
    cases hx : numT 65535 (p ++ [E]) with
    | error e => rw [hx] at h; cases h
    | ok x =>
      obtain ⟨n, s⟩ := x
      rw [hx] at h
      obtain ⟨r0, h1, h2⟩ := ext_num (B := B) (q := q) hE 65535 p n s hx
      subst h1
      rw [h2]
      simp only at h ⊢
      by_cases hl : 1024 ≤ links
      · rw [if_pos hl] at h; cases h
      · rw [if_neg hl] at h ⊢
        have h3 : isT [44] (r0 ++ B :: q) = isT [44] (r0 ++ [E]) := by
          cases r0 with
          | nil => rw [List.nil_append, List.nil_append, is_end hE, is_bracket hB (by decide)]
          | cons u r0 => rfl
        rw [h3]
        cases hi : isT [44] (r0 ++ [E]) with
        | false =>
          rw [hi, if_neg (by simp)] at h
          rw [if_neg (by simp)]
          injection h with h
          injection h with h4 h5
          subst h4
          exact ⟨r0, h5.symm, rfl⟩
        | true =>
          cases r0 with
          | nil => rw [List.nil_append, is_end hE] at hi; cases hi
          | cons u r0 =>
            rw [hi, if_pos rfl] at h
            rw [if_pos rfl]
            rw [List.cons_append, List.tail_cons] at h ⊢
            cases hd : destsT f (links + 1) (r0 ++ [E]) with
            | error e => rw [hd] at h; cases h
            | ok y =>
              obtain ⟨ns, r2⟩ := y
              rw [hd] at h
              simp only at h
              injection h with h
              injection h with h4 h5
              subst h4
              obtain ⟨r3, k1, k2⟩ := ext_dests f (links + 1) r0 ns r2 hd
              exact ⟨r3, by rw [← h5, k1], by rw [k2]⟩
theorem ext_to (links : Nat) : Ext E B q (toT links) := ext_bind (ext_want hE _) fun _ => by
  refine ext_if hE hB (x := [59]) (by decide) (ext_pure []) (fun p a r h => ?_)
  have e1 := dests_fuel (p ++ [E]).length ((p ++ B :: q).length) links (p ++ [E]) (Nat.le_refl _) (by simp)
  have h2 : destsT (p ++ [E]).length links (p ++ [E]) = .ok (a, r) := h
  rw [e1] at h2
  exact ext_dests hE hB _ links p a r h2
theorem ext_body (k : Nat) (c : PC) : Ext E B q (bodyT k c) := by
  unfold bodyT
  split
  · exact ext_bind (ext_num hE _) fun _ => ext_bind (ext_take hE (by omega)) fun _ => ext_bind (ext_want hE _) fun _ => ext_bind (ext_field hE _ _) fun _ => ext_bind (ext_field hE _ _) fun _ => ext_pure _
  · split
    · exact ext_bind (ext_num hE _) fun _ => ext_bind (ext_want hE _) fun _ => ext_bind (ext_field hE _ _) fun _ => ext_bind (ext_field hE _ _) fun _ => ext_pure _
    · split
      · exact ext_bind (ext_num hE _) fun _ => ext_bind (ext_want hE _) fun _ => ext_bind (ext_field hE _ _) fun _ => ext_bind (ext_field hE _ _) fun _ => ext_bind (ext_want hE _) fun _ => ext_bind (ext_rights hE) fun _ => ext_bind (ext_want hE _) fun _ => ext_bind (ext_shared hE hB) fun _ => ext_pure _
      · split
        · exact ext_bind (ext_num hE _) fun _ => ext_bind (ext_take hE (by omega)) fun _ => ext_bind (ext_want hE _) fun _ => ext_bind (ext_field hE _ _) fun _ => ext_bind (ext_choice hE hB _ (by decide)) fun _ => ext_bind (ext_choice hE hB _ (by decide)) fun _ => ext_bind (ext_field hE _ _) fun _ => ext_pure _
        · exact ext_bind (ext_num hE _) fun _ => ext_bind (ext_want hE _) fun _ => ext_bind (ext_field hE _ _) fun _ => ext_bind (ext_to hE hB _) fun _ => ext_bind (ext_want hE _) fun _ => ext_pure _
theorem ext_record (k : Nat) (c : PC) : Ext E B q (recordT k c) := ext_bind (ext_take hE (by omega)) fun u => by
  by_cases hl : limN k ≤ cntK c k
  · rw [if_pos hl]; exact ext_err _
  · rw [if_neg hl]; exact ext_bind (ext_body hE hB k c) fun _ => ext_bind (ext_want hE _) fun _ => ext_pure _
variable (hK : B.kind = 4)
include hK
theorem ext_records : ∀ f c, Ext E B q (recordsT f c)
  | 0, c => ext_pure c
  | f + 1, c => fun p a r h => by
    cases p with
    | nil =>
      rw [List.nil_append, rec_end hE] at h
      injection h with h
      injection h with h1 h2
      subst h1
      refine ⟨[], h2.symm, ?_⟩
      rw [List.nil_append, recordsT]
      simp only
      rw [if_neg (by rw [hK]; omega)]
    | cons u p =>
      rw [List.cons_append, recordsT] at h ⊢
      simp only at h ⊢
      by_cases hk : u.kind = 1 ∧ 0 < sectN u.text
      · rw [if_pos hk] at h ⊢
        cases hx : recordT (sectN u.text) c (u :: (p ++ [E])) with
        | error e => rw [hx] at h; cases h
        | ok x =>
          obtain ⟨c2, s⟩ := x
          rw [hx] at h
          simp only at h
          obtain ⟨r0, g1, g2⟩ := ext_record (q := q) hE hB (sectN u.text) c (u :: p) c2 s hx
          subst g1
          rw [List.cons_append] at g2
          rw [g2]
          exact ext_records f c2 r0 a r h
      · rw [if_neg hk] at h ⊢
        injection h with h
        injection h with h1 h2
        subst h1
        exact ⟨u :: p, by rw [← h2]; rfl, rfl⟩
theorem ext_all (c : PC) : Ext E B q (allRecT c) := fun p a r h => by
  have e1 := records_fuel (p ++ [E]).length ((p ++ B :: q).length) c (p ++ [E]) (Nat.le_refl _) (by simp)
  unfold allRecT at h ⊢
  rw [e1] at h
  exact ext_records hE hB hK _ c p a r h
end
/-! ### The frame does not matter to the records -/
def setF (n : Nat) (c : PC) : PC := { c with frame := n }
def mapT {α β : Type} (g : α → β) (m : PM α) : PM β := bindT m fun a => pureT (g a)
theorem map_bind {α β γ : Type} (g : β → γ) (m : PM α) (f : α → PM β) : mapT g (bindT m f) = bindT m fun a => mapT g (f a) := by unfold mapT; rw [bind_assoc]
theorem map_pure {α β : Type} (g : α → β) (a : α) : mapT g (pureT a) = pureT (g a) := rfl
theorem body_frame (k n : Nat) (c : PC) : bodyT k (setF n c) = mapT (setF n) (bodyT k c) := by
  unfold bodyT
  split
  · unfold partT; simp only [map_bind, map_pure]; rfl
  · split
    · unfold winT; simp only [map_bind, map_pure]; rfl
    · split
      · unfold regT; simp only [map_bind, map_pure]; rfl
      · split
        · unfold portT; simp only [map_bind, map_pure]; rfl
        · unfold chanT; simp only [map_bind, map_pure]; rfl
theorem record_frame (k n : Nat) (c : PC) : recordT k (setF n c) = mapT (setF n) (recordT k c) := by
  unfold recordT
  rw [map_bind]
  congr 1
  funext u
  have e : cntK (setF n c) k = cntK c k := rfl
  rw [e]
  by_cases hl : limN k ≤ cntK c k
  · rw [if_pos hl, if_pos hl]; rfl
  · rw [if_neg hl, if_neg hl, body_frame]
    simp only [map_bind, map_pure]
    unfold mapT
    rw [bind_assoc]
    rfl
theorem records_frame (n : Nat) : ∀ f (c : PC) (l : List Token), recordsT f (setF n c) l = mapT (setF n) (recordsT f c) l
  | 0, c, l => rfl
  | f + 1, c, l => by
    cases l with
    | nil => rfl
    | cons u l =>
      unfold mapT
      conv => rhs; unfold bindT
      rw [recordsT, recordsT]
      simp only
      by_cases hk : u.kind = 1 ∧ 0 < sectN u.text
      · rw [if_pos hk, if_pos hk, record_frame]
        conv => lhs; unfold mapT bindT
        cases recordT (sectN u.text) c (u :: l) with
        | error e => rfl
        | ok x =>
          obtain ⟨c2, s⟩ := x
          show recordsT f (setF n c2) s = _
          rw [records_frame n f c2 s]
          rfl
      · rw [if_neg hk, if_neg hk]; rfl
/-- ParseRecords: within a module, the records of a text are those of a configuration. -/
theorem parse_rec {p : List Token} {E Z B : Token} {c : PC} {n : Nat} (hE : E.kind = 0) (hZ : Z.kind = 0) (hB : B.text = [125]) (hK : B.kind = 4) (hp : ∀ u ∈ p, u.kind ≠ 0) (h : parseRecT (p ++ [E]) = .ok c) (hn : n ≤ topN)
    {l : List Token} (hl : ∃ a b d e f : Token, l = a :: b :: d :: e :: f :: (p ++ B :: [Z]) ∧ un a = (1, [109, 111, 100, 117, 108, 101], 0) ∧ un b = (4, [123], 0) ∧ un d = (1, [102, 114, 97, 109, 101], 0) ∧ e.kind = 2 ∧ e.val = n ∧ un f = (4, [59], 0)) :
    parseT l = .ok (setF n c) := by
  obtain ⟨a, b, d, e, f, rfl, ha, hb, hd, he, hv, hf⟩ := hl
  unfold parseRecT endT at h
  cases hx : allRecT zeroPC (p ++ [E]) with
  | error e => rw [hx] at h; cases h
  | ok x =>
    obtain ⟨c2, s⟩ := x
    rw [hx] at h
    simp only at h
    obtain ⟨r0, g1, g2⟩ := ext_all (q := [Z]) hE hB hK zeroPC p c2 s hx
    subst g1
    obtain ⟨dd, hdd⟩ := shr_all zeroPC _ _ _ hx
    have hr : r0 = [] := by
      cases r0 with
      | nil => rfl
      | cons u r0 =>
        exfalso
        have hpd : p = dd ++ u :: r0 := by
          have : p ++ [E] = (dd ++ u :: r0) ++ [E] := by rw [hdd]; simp
          exact List.append_cancel_right this
        have hu : u.kind ≠ 0 := hp u (by rw [hpd]; simp)
        rw [List.cons_append, takeT_cons, if_neg hu] at h; cases h
    subst hr
    rw [List.nil_append, takeT_cons, if_pos hE] at h
    injection h with h
    subst h
    have wn : ∀ (u : Token) (k : Nat) (x : List UInt8) (r : List Token), un u = (k, x, 0) → (k = 1 ∨ k = 4) → wantT x (u :: r) = .ok ((), r) := by
      intro u k x r hu hk
      unfold un at hu
      simp only [Prod.mk.injEq] at hu
      unfold wantT
      rw [isT_cons, hu.1, hu.2.1]
      rcases hk with rfl | rfl <;> simp
    have bo : ∀ {α β : Type} {m : PM α} {f : α → PM β} {l r : List Token} {a : α}, m l = .ok (a, r) → bindT m f l = f a r := by
      intro α β m f l r a h
      unfold bindT; rw [h]
    have hnum : numT topN (e :: f :: (p ++ B :: [Z])) = .ok (n, f :: (p ++ B :: [Z])) := by
      unfold numT
      rw [takeT_cons, if_pos he]
      simp only
      rw [hv, if_pos hn]
    have hfield : fieldT [102, 114, 97, 109, 101] topN (d :: e :: f :: (p ++ B :: [Z])) = .ok (n, p ++ B :: [Z]) := by
      unfold fieldT
      rw [bo (wn d 1 _ _ hd (.inl rfl)), bo hnum, bo (wn f 4 _ _ hf (.inr rfl))]
      rfl
    have hall : allRecT { zeroPC with frame := n } (p ++ B :: [Z]) = .ok (setF n c2, B :: [Z]) := by
      have : allRecT { zeroPC with frame := n } (p ++ B :: [Z]) = mapT (setF n) (recordsT (p ++ B :: [Z]).length zeroPC) (p ++ B :: [Z]) := records_frame n _ zeroPC _
      rw [this]
      unfold mapT
      have g3 : recordsT (p ++ B :: [Z]).length zeroPC (p ++ B :: [Z]) = .ok (c2, B :: [Z]) := g2
      rw [bo g3]
      rfl
    have hm : moduleT (a :: b :: d :: e :: f :: (p ++ B :: [Z])) = .ok (setF n c2, [Z]) := by
      unfold moduleT
      rw [bo (wn a 1 _ _ ha (.inl rfl)), bo (wn b 4 _ _ hb (.inr rfl)), bo hfield, bo hall]
      have hw : wantT [125] (B :: [Z]) = .ok ((), [Z]) := by
        unfold wantT
        rw [isT_cons, hB, hK]
        rfl
      rw [bo hw]
      rfl
    unfold parseT endT
    rw [hm]
    simp only
    rw [takeT_cons, if_pos hZ]
end Go.Proofs.YtcnihmlmaigkdaaGreatDoor
namespace Go.Proofs.YtcnihmlmaigkdaaGreatDoor
open Go.Lib
set_option linter.unusedVariables false

abbrev Un := Nat × List UInt8 × Nat
/-- Bytes that are read as tokens, whatever follows; before a byte that ends a word. -/
def Rd (x : List UInt8) (M : List Un) : Prop := ∀ g rest, tkL (M.length + g) (x ++ rest) = (tkL g rest).map fun T => M ++ T
def RdS (x : List UInt8) (M : List Un) : Prop := ∀ g c rest, isAl c = false → tkL (M.length + g) (x ++ c :: rest) = (tkL g (c :: rest)).map fun T => M ++ T
theorem map_app {M N : List Un} (o : Option (List Un)) : (o.map fun T => N ++ T).map (fun T => M ++ T) = o.map fun T => (M ++ N) ++ T := by
  cases o with
  | none => rfl
  | some T => simp
theorem tokL_cons (c : UInt8) (r : List UInt8) : tokL (c :: r) = if isLet c = true then .tok 1 ((c :: r).take (runLen isLet (c :: r))) 0 (runLen isLet (c :: r))
    else if isDig c = true then
      match parseN ((c :: r).take (runLen isAl (c :: r))) with
      | some v => .tok 2 ((c :: r).take (runLen isAl (c :: r))) v (runLen isAl (c :: r))
      | none => .bad 5
    else if c = 34 then
      match goL false true [] r with
      | some (n, ok, m) => if (ok && validL n) = true then .tok 3 n 0 (1 + m) else .bad 6
      | none => .bad 6
    else if isSign c = true then .tok 4 [c] 0 1
    else .bad 3 := rfl
theorem Rd.nil : Rd [] [] := fun g rest => by
  show tkL (0 + g) rest = _
  rw [Nat.zero_add]
  cases tkL g rest <;> rfl
theorem Rd.app {x y : List UInt8} {M N : List Un} (h : Rd x M) (k : Rd y N) : Rd (x ++ y) (M ++ N) := fun g rest => by
  rw [List.append_assoc, List.length_append, Nat.add_assoc, h, k, map_app]
theorem Rd.appS {x y : List UInt8} {M N : List Un} (h : Rd x M) (k : RdS y N) : RdS (x ++ y) (M ++ N) := fun g c rest hc => by
  rw [List.append_assoc, List.length_append, Nat.add_assoc, h, k _ _ _ hc, map_app]
theorem RdS.app {x y : List UInt8} {M N : List Un} {c : UInt8} (h : RdS x M) (hc : isAl c = false) (k : Rd (c :: y) N) : Rd (x ++ c :: y) (M ++ N) := fun g rest => by
  rw [List.append_assoc, List.length_append, Nat.add_assoc, List.cons_append, h _ _ _ hc, ← List.cons_append, k, map_app]
theorem RdS.appS {x y : List UInt8} {M N : List Un} {c : UInt8} (h : RdS x M) (hc : isAl c = false) (k : RdS (c :: y) N) : RdS (x ++ c :: y) (M ++ N) := fun g d rest hd => by
  rw [List.append_assoc, List.length_append, Nat.add_assoc, List.cons_append, h _ _ _ hc, ← List.cons_append, k _ _ _ hd, map_app]
theorem rd_gap {c : UInt8} (hc : isSp c = true) : Rd [c] [] := fun g rest => by
  have h35 : c ≠ 35 := by intro e; subst e; cases hc
  show tkL (0 + g) (c :: rest) = (tkL g rest).map fun T => T
  rw [Nat.zero_add]
  have h2 : tkL g (c :: rest) = tkL g rest := by
    cases g with
    | zero => rfl
    | succ g =>
      have e : spc false (c :: rest) = 1 + spc false rest := by
        simp only [spc]; rw [if_neg h35, if_pos hc]
      rw [tkL, tkL, e, Nat.add_comm, List.drop_succ_cons]
  rw [h2]
  cases tkL g rest <;> rfl
/-- A token at the head. -/
theorem tkL_tok {c : UInt8} {r : List UInt8} {kind v n : Nat} {text : List UInt8} (h : isLet c = true ∨ isDig c = true ∨ c = 34 ∨ isSign c = true) (ht : tokL (c :: r) = .tok kind text v n) (g : Nat) :
    tkL (1 + g) (c :: r) = (tkL g ((c :: r).drop n)).map fun T => [(kind, text, v)] ++ T := by
  have hk : kind ≠ 0 := fun e => tokL_kind c r text v n (by rw [ht, e])
  rw [Nat.add_comm, tkL, spc_head c r h, List.drop_zero, ht]
  simp only
  rw [if_neg hk]
  rfl
theorem run_stop {p : UInt8 → Bool} {c : UInt8} (hc : p c = false) : ∀ {l : List UInt8} (rest : List UInt8), (∀ u ∈ l, p u = true) → runLen p (l ++ c :: rest) = l.length
  | [], rest, _ => by
    show (if p c = true then _ else 0) = 0
    rw [hc]; rfl
  | x :: l, rest, h => by
    show (if p x = true then 1 + runLen p (l ++ c :: rest) else 0) = _
    rw [if_pos (h x List.mem_cons_self), run_stop hc rest (fun u hu => h u (List.mem_cons_of_mem _ hu)), List.length_cons, Nat.add_comm]
theorem rd_sign {c : UInt8} (hc : isSign c = true) : Rd [c] [(4, [c], 0)] := fun g rest => by
  have h1 : ∀ c : UInt8, isSign c = true → isLet c = false ∧ isDig c = false ∧ c ≠ 34 := by
    intro c h
    unfold isSign at h
    simp only [Bool.or_eq_true, beq_iff_eq] at h
    rcases h with ((h | h) | h) | h <;> subst h <;> decide
  obtain ⟨h2, h3, h4⟩ := h1 c hc
  have ht : tokL (c :: rest) = .tok 4 [c] 0 1 := by
    rw [tokL_cons, if_neg (by rw [h2]; simp), if_neg (by rw [h3]; simp), if_neg h4, if_pos hc]
  exact tkL_tok (.inr (.inr (.inr hc))) ht g
theorem rd_word {w : List UInt8} (h0 : w ≠ []) (hw : ∀ u ∈ w, isLet u = true) : RdS w [(1, w, 0)] := fun g c rest hc => by
  have hcl : isLet c = false := by
    unfold isAl at hc
    cases h : isLet c with
    | false => rfl
    | true => rw [h] at hc; cases hc
  cases w with
  | nil => exact absurd rfl h0
  | cons x w =>
    have hr := run_stop hcl rest hw
    have ht : tokL (x :: (w ++ c :: rest)) = .tok 1 (x :: w) 0 (x :: w).length := by
      rw [tokL_cons, if_pos (hw x List.mem_cons_self)]
      have e : runLen isLet (x :: (w ++ c :: rest)) = (x :: w).length := hr
      rw [e, ← List.cons_append, List.take_left]
    have := tkL_tok (.inl (hw x List.mem_cons_self)) ht g
    rw [← List.cons_append, List.drop_left] at this
    exact this
theorem rd_numeral {x : List UInt8} {v : Nat} (h0 : ∃ a r, x = a :: r ∧ isDig a = true) (hx : ∀ u ∈ x, isAl u = true) (hv : parseN x = some v) : RdS x [(2, x, v)] := fun g c rest hc => by
  obtain ⟨a, r, rfl, ha⟩ := h0
  have hal : isLet a = false := by
    unfold isDig at ha
    unfold isLet
    rw [Bool.and_eq_true, decide_eq_true_eq, decide_eq_true_eq] at ha
    rw [Bool.and_eq_false_iff]
    left
    rw [decide_eq_false_iff_not]; omega
  have hr := run_stop hc rest hx
  have ht : tokL (a :: (r ++ c :: rest)) = .tok 2 (a :: r) v (a :: r).length := by
    rw [tokL_cons, if_neg (by rw [hal]; simp), if_pos ha]
    have e : runLen isAl (a :: (r ++ c :: rest)) = (a :: r).length := hr
    rw [e, ← List.cons_append, List.take_left, hv]
  have := tkL_tok (.inr (.inl ha)) ht g
  rw [← List.cons_append, List.drop_left] at this
  exact this
theorem dig_al {u : UInt8} (h : digB u = true) : isDig u = true ∧ isAl u = true := by
  have h1 : isDig u = true := h
  exact ⟨h1, by unfold isAl; rw [h1]; simp⟩
theorem rd_num {n : Nat} (hn : n < top64) : RdS (numB n) [(2, numB n, n)] := by
  refine rd_numeral ?_ (fun u hu => (dig_al (num_dig n u hu)).2) (parseN_dec n hn)
  cases h : numB n with
  | nil => exact absurd h (digL_ne 10 n)
  | cons a r => exact ⟨a, r, rfl, (dig_al (num_dig n a (by rw [h]; exact List.mem_cons_self))).1⟩
theorem rd_hex {n : Nat} (hn : n < top64) : RdS (hexL n) [(2, hexL n, n)] := by
  refine rd_numeral ⟨48, 120 :: digL 16 n, rfl, by rfl⟩ (fun u hu => ?_) (parseN_hex n hn)
  unfold hexL at hu
  rcases List.mem_cons.1 hu with rfl | hu
  · rfl
  · rcases List.mem_cons.1 hu with rfl | hu
    · rfl
    · refine digL_all (fun u => isAl u = true) 16 (by omega) (fun d hd => ?_) n u hu
      have := dg_toNat d hd
      unfold isAl isLet isDig
      rw [this]
      by_cases h : d < 10
      · rw [if_pos h]; simp; omega
      · rw [if_neg h]; simp; omega
theorem rd_name {s : ByteArray} (h : validS s = true) : Rd (quoteN s) [(3, s.data.toList, 0)] := fun g rest => by
  rw [quoteN_valid h]
  have hq := goL_quote2 rest s.data.toList [] true
  have ht : tokL (34 :: (quoteL s.data.toList ++ 34 :: rest)) = .tok 3 s.data.toList 0 (1 + ((quoteL s.data.toList).length + 1)) := by
    rw [tokL_cons, if_neg (by decide), if_neg (by decide), if_pos rfl, hq]
    simp only [List.nil_append, Bool.true_and]
    rw [if_pos (by exact h)]
  have := tkL_tok (.inr (.inr (.inl rfl))) ht g
  have e : (34 :: (quoteL s.data.toList ++ [34])) ++ rest = 34 :: (quoteL s.data.toList ++ 34 :: rest) := by simp
  have d : (34 :: (quoteL s.data.toList ++ 34 :: rest)).drop (1 + ((quoteL s.data.toList).length + 1)) = rest := by
    rw [← e]
    exact List.drop_left' (by simp; omega)
  rw [d] at this
  rw [e]
  exact this
/-! ### Lines -/
theorem rd_sp : Rd [32] [] := rd_gap (by rfl)
/-- A word and a space. -/
theorem rd_wsp {w : List UInt8} (h0 : w ≠ []) (hw : ∀ u ∈ w, isLet u = true) : Rd (w ++ [32]) [(1, w, 0)] := by
  have := (rd_word h0 hw).app (by rfl) rd_sp
  simpa using this
/-- A field with a number. -/
def fieldU (w : List UInt8) (x : List UInt8) (n : Nat) : List Un := [(1, w, 0), (2, x, n)]
theorem rd_field {w : List UInt8} (h0 : w ≠ []) (hw : ∀ u ∈ w, isLet u = true) {n : Nat} (hn : n < top64) : RdS (w ++ [32] ++ numB n) (fieldU w (numB n) n) := (rd_wsp h0 hw).appS (rd_num hn)
theorem rd_fieldH {w : List UInt8} (h0 : w ≠ []) (hw : ∀ u ∈ w, isLet u = true) {n : Nat} (hn : n < top64) : RdS (w ++ [32] ++ hexL n) (fieldU w (hexL n) n) := (rd_wsp h0 hw).appS (rd_hex hn)
def semi : Un := (4, [59], 0)
/-- Fields, with semicolons between them. -/
inductive All2 : List (List UInt8) → List (List Un) → Prop where
  | nil : All2 [] []
  | cons {x : List UInt8} {a : List Un} {l : List (List UInt8)} {M : List (List Un)} : RdS x a → All2 l M → All2 (x :: l) (a :: M)
theorem rd_fields : ∀ {l : List (List UInt8)} {M : List (List Un)}, l ≠ [] → All2 l M → RdS (join l [59, 32]) ((M.intersperse [semi]).flatten)
  | [x], [a], _, .cons h .nil => by
    rw [join_one]; simpa using h
  | x :: y :: l, a :: b :: M, _, .cons h k => by
    rw [join_cons2]
    have h2 := rd_fields (l := y :: l) (M := b :: M) (by simp) k
    have h3 := ((rd_sign (c := 59) (by rfl)).app rd_sp).appS h2
    have h4 := h.appS (c := 59) (by rfl) h3
    simpa [List.intersperse, semi] using h4
def lnU (H : List Un) (M : List (List Un)) : List Un := H ++ ((4, [123], 0) :: ((M.intersperse [semi]).flatten ++ [semi, (4, [125], 0)]))
theorem rd_end : Rd [59, 32, 125] [semi, (4, [125], 0)] := by
  have := ((rd_sign (c := 59) (by rfl)).app rd_sp).app (rd_sign (c := 125) (by rfl))
  simpa [semi] using this
theorem rd_mid : Rd [32, 123, 32] [(4, [123], 0)] := by
  have := (rd_sp.app (rd_sign (c := 123) (by rfl))).app rd_sp
  simpa using this
theorem rd_ln {a : List UInt8} {H : List Un} {l : List (List UInt8)} {M : List (List Un)} (h : RdS a H) (h0 : l ≠ []) (hl : All2 l M) : Rd (lnB a l) (lnU H M) := by
  unfold lnB lnU
  have h1 := (h.app (c := 32) (by rfl) rd_mid).appS (rd_fields h0 hl)
  have h2 := h1.app (c := 59) (by rfl) rd_end
  simpa using h2
/-! ### Records -/
theorem Rd.toS {x : List UInt8} {M : List Un} (h : Rd x M) : RdS x M := fun g c rest _ => h g (c :: rest)
theorem let_all {w : List UInt8} (h : w.all isLet = true) : ∀ u ∈ w, isLet u = true := fun u hu => List.all_eq_true.1 h u hu
def lit (w : List UInt8) : Un := (1, w, 0)
def partU (p : PartR) : List Un := lnU [lit [112, 97, 114, 116, 105, 116, 105, 111, 110], (2, numB p.id, p.id), (3, p.name.data.toList, 0)] [fieldU [112, 101, 114, 105, 111, 100] (numB p.per) p.per, fieldU [100, 117, 114, 97, 116, 105, 111, 110] (numB p.dur) p.dur]
theorem rd_part {p : PartR} (hp : p.Ok) (hv : validS p.name = true) : Rd (partLn p) (partU p) := by
  have h1 := rd_field (w := [112, 97, 114, 116, 105, 116, 105, 111, 110]) (by simp) (let_all (by rfl)) (n := p.id) (by have := hp.1; unfold top64; omega)
  have h2 := (h1.app (c := 32) (by rfl) (rd_sp.app (rd_name hv))).toS
  have h3 := rd_ln (l := [[112, 101, 114, 105, 111, 100, 32] ++ numB p.per, [100, 117, 114, 97, 116, 105, 111, 110, 32] ++ numB p.dur]) (M := [fieldU [112, 101, 114, 105, 111, 100] (numB p.per) p.per, fieldU [100, 117, 114, 97, 116, 105, 111, 110] (numB p.dur) p.dur]) h2 (by simp)
    (.cons (rd_field (w := [112, 101, 114, 105, 111, 100]) (by simp) (let_all (by rfl)) (n := p.per) hp.2.2.1) (.cons (rd_field (w := [100, 117, 114, 97, 116, 105, 111, 110]) (by simp) (let_all (by rfl)) (n := p.dur) hp.2.2.2) .nil))
  have e : [112, 97, 114, 116, 105, 116, 105, 111, 110] ++ [32] ++ numB p.id ++ 32 :: ([] ++ quoteN p.name) = [112, 97, 114, 116, 105, 116, 105, 111, 110, 32] ++ numB p.id ++ [32] ++ quoteN p.name := by simp
  unfold partLn partU
  simpa [fieldU, lit] using h3
def winU (x : WinR) : List Un := lnU [lit [119, 105, 110, 100, 111, 119], (2, numB x.part, x.part)] [fieldU [115, 116, 97, 114, 116] (numB x.st) x.st, fieldU [108, 101, 110, 103, 116, 104] (numB x.len) x.len]
theorem rd_win {x : WinR} (hx : x.Ok) : Rd (winLn x) (winU x) := by
  have h1 := rd_field (w := [119, 105, 110, 100, 111, 119]) (by simp) (let_all (by rfl)) (n := x.part) (by have := hx.2.2; unfold top64; omega)
  have h3 := rd_ln (l := [[115, 116, 97, 114, 116, 32] ++ numB x.st, [108, 101, 110, 103, 116, 104, 32] ++ numB x.len]) (M := [fieldU [115, 116, 97, 114, 116] (numB x.st) x.st, fieldU [108, 101, 110, 103, 116, 104] (numB x.len) x.len]) h1 (by simp)
    (.cons (rd_field (w := [115, 116, 97, 114, 116]) (by simp) (let_all (by rfl)) (n := x.st) hx.1) (.cons (rd_field (w := [108, 101, 110, 103, 116, 104]) (by simp) (let_all (by rfl)) (n := x.len) hx.2.1) .nil))
  unfold winLn winU
  simpa [fieldU, lit] using h3
theorem rights_let (r : Nat) : rightsW r ≠ [] ∧ ∀ u ∈ rightsW r, isLet u = true := by
  unfold rightsW
  split
  · exact ⟨by simp, let_all (by rfl)⟩
  · rename_i h
    refine ⟨h, fun u hu => ?_⟩
    unfold lettersL at hu
    rw [List.mem_append, List.mem_append] at hu
    rcases hu with (hu | hu) | hu <;> split at hu <;> simp at hu <;> subst hu <;> rfl
def regM (r : RegR) : List (List Un) := [fieldU [98, 97, 115, 101] (hexL r.base) r.base, fieldU [115, 105, 122, 101] (numB r.size) r.size, [lit [114, 105, 103, 104, 116, 115], lit (rightsW r.rights)]] ++ (if r.shared then [[lit [115, 104, 97, 114, 101, 100]]] else [])
def regU (r : RegR) : List Un := lnU [lit [114, 101, 103, 105, 111, 110], (2, numB r.part, r.part)] (regM r)
theorem rd_reg {r : RegR} (hr : r.Ok) : Rd (regLn r) (regU r) := by
  have h1 := rd_field (w := [114, 101, 103, 105, 111, 110]) (by simp) (let_all (by rfl)) (n := r.part) (by have := hr.2.2.1; unfold top64; omega)
  have hw := (rd_wsp (w := [114, 105, 103, 104, 116, 115]) (by simp) (let_all (by rfl))).appS (rd_word (rights_let r.rights).1 (rights_let r.rights).2)
  have hs : RdS [115, 104, 97, 114, 101, 100] [lit [115, 104, 97, 114, 101, 100]] := rd_word (by simp) (let_all (by rfl))
  have hb := rd_fieldH (w := [98, 97, 115, 101]) (by simp) (let_all (by rfl)) (n := r.base) hr.1
  have hz := rd_field (w := [115, 105, 122, 101]) (by simp) (let_all (by rfl)) (n := r.size) hr.2.1
  have h2 : All2 (regF r) (regM r) := by
    unfold regF regM
    cases r.shared with
    | false => exact .cons hb (.cons hz (.cons hw .nil))
    | true => exact .cons hb (.cons hz (.cons hw (.cons hs .nil)))
  have h3 := rd_ln h1 (by unfold regF; simp) h2
  unfold regLn regU
  simpa [fieldU, lit] using h3
def portU (p : PortR) : List Un := lnU [lit [112, 111, 114, 116], (2, numB p.id, p.id), (3, p.name.data.toList, 0)] [fieldU [112, 97, 114, 116, 105, 116, 105, 111, 110] (numB p.part) p.part, [lit (dirB p.out)], [lit (kindB p.que)], fieldU [115, 105, 122, 101] (numB p.size) p.size]
theorem rd_port {p : PortR} (hp : p.Ok) (hv : validS p.name = true) : Rd (portLn p) (portU p) := by
  have h1 := rd_field (w := [112, 111, 114, 116]) (by simp) (let_all (by rfl)) (n := p.id) (by have := hp.1; unfold top64; omega)
  have h2 := (h1.app (c := 32) (by rfl) (rd_sp.app (rd_name hv))).toS
  have hd : RdS (dirB p.out) [lit (dirB p.out)] := by
    cases p.out
    · exact rd_word (by simp [dirB]) (let_all (by rfl))
    · exact rd_word (by simp [dirB]) (let_all (by rfl))
  have hk : RdS (kindB p.que) [lit (kindB p.que)] := by
    cases p.que
    · exact rd_word (by simp [kindB]) (let_all (by rfl))
    · exact rd_word (by simp [kindB]) (let_all (by rfl))
  have h3 := rd_ln (l := [[112, 97, 114, 116, 105, 116, 105, 111, 110, 32] ++ numB p.part, dirB p.out, kindB p.que, [115, 105, 122, 101, 32] ++ numB p.size]) (M := [fieldU [112, 97, 114, 116, 105, 116, 105, 111, 110] (numB p.part) p.part, [lit (dirB p.out)], [lit (kindB p.que)], fieldU [115, 105, 122, 101] (numB p.size) p.size]) h2 (by simp)
    (.cons (rd_field (w := [112, 97, 114, 116, 105, 116, 105, 111, 110]) (by simp) (let_all (by rfl)) (n := p.part) (by have := hp.2.1; unfold top64; omega)) (.cons hd (.cons hk (.cons (rd_field (w := [115, 105, 122, 101]) (by simp) (let_all (by rfl)) (n := p.size) (by have := hp.2.2.2; unfold top64; omega)) .nil))))
  unfold portLn portU
  simpa [fieldU, lit] using h3
def numU (x : Nat) : Un := (2, numB x, x)
def comma : Un := (4, [44], 0)
theorem rd_dests : ∀ {x : Nat} {d : List Nat}, (∀ y ∈ x :: d, y < 65536) → RdS (join ((x :: d).map numB) [44, 32]) (((x :: d).map numU).intersperse comma)
  | x, [], h => by
    simp only [List.map_cons, List.map_nil, join_one]
    exact rd_num (by have := h x List.mem_cons_self; unfold top64; omega)
  | x, y :: d, h => by
    have h2 := rd_dests (x := y) (d := d) (fun z hz => h z (List.mem_cons_of_mem _ hz))
    have h1 : RdS (numB x) [numU x] := rd_num (by have := h x List.mem_cons_self; unfold top64; omega)
    have h3 := ((rd_sign (c := 44) (by rfl)).app rd_sp).appS h2
    have h4 := h1.appS (c := 44) (by rfl) h3
    simp only [List.map_cons, join_cons2]
    simpa [List.intersperse, comma] using h4
def toU (d : List Nat) : List Un := if d = [] then [lit [116, 111]] else lit [116, 111] :: (d.map numU).intersperse comma
theorem rd_to {d : List Nat} (h : ∀ y ∈ d, y < 65536) : RdS (toB d) (toU d) := by
  unfold toB toU
  cases d with
  | nil => exact rd_word (by simp) (let_all (by rfl))
  | cons x d =>
    rw [if_neg (by simp), if_neg (by simp)]
    have := (rd_wsp (w := [116, 111]) (by simp) (let_all (by rfl))).appS (rd_dests h)
    simpa [lit] using this
def chanU (c : ChanR) : List Un := lnU [lit [99, 104, 97, 110, 110, 101, 108], (2, numB c.id, c.id)] [fieldU [115, 111, 117, 114, 99, 101] (numB c.src) c.src, toU c.dests]
theorem rd_chan {c : ChanR} (hc : c.Ok) : Rd (chanLn c) (chanU c) := by
  have h1 := rd_field (w := [99, 104, 97, 110, 110, 101, 108]) (by simp) (let_all (by rfl)) (n := c.id) (by have := hc.1; unfold top64; omega)
  have h3 := rd_ln (l := [[115, 111, 117, 114, 99, 101, 32] ++ numB c.src, toB c.dests]) (M := [fieldU [115, 111, 117, 114, 99, 101] (numB c.src) c.src, toU c.dests]) h1 (by simp)
    (.cons (rd_field (w := [115, 111, 117, 114, 99, 101]) (by simp) (let_all (by rfl)) (n := c.src) (by have := hc.2.1; unfold top64; omega)) (.cons (rd_to hc.2.2) .nil))
  unfold chanLn chanU
  simpa [fieldU, lit] using h3
/-! ### The whole text -/
def linesU (c : Cfg) : List (List Un) := c.parts.l.map partU ++ (c.wins.l.map winU ++ (c.regs.l.map regU ++ (c.ports.l.map portU ++ c.chans.l.map chanU)))
inductive All3 : List (List UInt8) → List (List Un) → Prop where
  | nil : All3 [] []
  | cons {x : List UInt8} {a : List Un} {l : List (List UInt8)} {M : List (List Un)} : Rd x a → All3 l M → All3 (x :: l) (a :: M)
theorem All3.app {l k : List (List UInt8)} {M N : List (List Un)} (h : All3 l M) (g : All3 k N) : All3 (l ++ k) (M ++ N) := by
  induction h with
  | nil => exact g
  | cons hx _ ih => exact .cons hx ih
theorem All3.map {α : Type} {f : α → List UInt8} {g : α → List Un} : ∀ {l : List α}, (∀ x ∈ l, Rd (f x) (g x)) → All3 (l.map f) (l.map g)
  | [], _ => .nil
  | x :: l, h => .cons (h x List.mem_cons_self) (All3.map fun y hy => h y (List.mem_cons_of_mem _ hy))
theorem rd_lines {c : Cfg} (hc : c.Ok) (hg : GoodC c) : All3 (linesL c) (linesU c) :=
  (All3.map fun x hx => rd_part (hc.parts x hx) (hg.parts x hx)).app ((All3.map fun x hx => rd_win (hc.wins x hx)).app ((All3.map fun x hx => rd_reg (hc.regs x hx)).app ((All3.map fun x hx => rd_port (hc.ports x hx) (hg.ports x hx)).app (All3.map fun x hx => rd_chan (hc.chans x hx)))))
theorem rd_text {b : List UInt8} (hb : Rd b []) {l : List (List UInt8)} {M : List (List Un)} (h : All3 l M) : Rd (textB b l) M.flatten := by
  induction h with
  | nil => exact Rd.nil
  | cons hx _ ih =>
    have := ((hb.app hx).app (rd_gap (c := 10) (by rfl))).app ih
    unfold textB at this ⊢
    simpa using this
def printU (c : Cfg) : List Un := [lit [109, 111, 100, 117, 108, 101], (4, [123], 0), lit [102, 114, 97, 109, 101], (2, numB c.frame, c.frame), semi] ++ ((linesU c).flatten ++ [(4, [125], 0)])
theorem rd_print {c : Cfg} (hc : c.Ok) (hg : GoodC c) : Rd (printL c) (printU c) := by
  have hf : Rd (frameB c.frame) [lit [102, 114, 97, 109, 101], (2, numB c.frame, c.frame), semi] := by
    have := (rd_field (w := [102, 114, 97, 109, 101]) (by simp) (let_all (by rfl)) (n := c.frame) hc.frame).app (c := 59) (by rfl) (rd_sign (c := 59) (by rfl))
    unfold frameB
    simpa [fieldU, lit, semi] using this
  have ht := rd_text (b := [9]) (rd_gap (by rfl)) (All3.cons hf (rd_lines hc hg))
  have hm : Rd [109, 111, 100, 117, 108, 101, 32, 123, 10] [lit [109, 111, 100, 117, 108, 101], (4, [123], 0)] := by
    have := ((rd_wsp (w := [109, 111, 100, 117, 108, 101]) (by simp) (let_all (by rfl))).app (rd_sign (c := 123) (by rfl))).app (rd_gap (c := 10) (by rfl))
    simpa [lit] using this
  have he : Rd [125, 10] [(4, [125], 0)] := by
    have := (rd_sign (c := 125) (by rfl)).app (rd_gap (c := 10) (by rfl))
    simpa using this
  have := (hm.app ht).app he
  unfold printL printU
  simpa using this
/-- The tokens of the text. -/
theorem tokens_print {c : Cfg} (hc : c.Ok) (hg : GoodC c) (g : Nat) : tkL ((printU c).length + (g + 1)) (printL c) = some (printU c ++ [(0, [], 0)]) := by
  have h := rd_print hc hg (g + 1) []
  rw [List.append_nil] at h
  rw [h]
  rfl
theorem tokens_records {c : Cfg} (hc : c.Ok) (hg : GoodC c) (g : Nat) : tkL (((linesU c).flatten).length + (g + 1)) (recordsL c) = some ((linesU c).flatten ++ [(0, [], 0)]) := by
  have h := rd_text (b := []) Rd.nil (rd_lines hc hg) (g + 1) []
  rw [List.append_nil] at h
  unfold recordsL
  rw [h]
  rfl
end Go.Proofs.YtcnihmlmaigkdaaGreatDoor
namespace Go.Proofs.YtcnihmlmaigkdaaGreatDoor
open Go.Lib
set_option linter.unusedVariables false

def preL : List UInt8 := [109, 111, 100, 117, 108, 101, 32, 123, 32, 102, 114, 97, 109, 101, 32, 55, 59, 10]
def preU : List Un := [lit [109, 111, 100, 117, 108, 101], (4, [123], 0), lit [102, 114, 97, 109, 101], (2, [55], 7), semi]
theorem num7 : numB 7 = [55] := by unfold numB; rw [digL_small (by omega)]; rfl
theorem rd_pre : Rd preL preU := by
  have h1 := (rd_wsp (w := [109, 111, 100, 117, 108, 101]) (by simp) (let_all (by rfl))).app (rd_sign (c := 123) (by rfl))
  have h2 := h1.app rd_sp
  have h3 := (rd_field (w := [102, 114, 97, 109, 101]) (by simp) (let_all (by rfl)) (n := 7) (by unfold top64; omega)).app (c := 59) (by rfl) ((rd_sign (c := 59) (by rfl)).app (rd_gap (c := 10) (by rfl)))
  have h4 := h2.app h3
  rw [num7] at h4
  exact h4
theorem un_shift (n : Nat) (l : List Token) : (l.map (shiftT n)).map un = l.map un := by
  rw [List.map_map]; rfl
/-- ParseRecords' text: the tokens of the records, within a module. -/
theorem rec_tokens {s T : ByteArray} {L : List Token} (h : toks s (s.size + 1) 0 = .ok L) (hT : T.data.toList = preL ++ (s.data.toList ++ [10, 125])) :
    ∃ L', toks T (T.size + 1) 0 = .ok L' ∧ L'.map un = preU ++ (L.map un).dropLast ++ [(4, [125], 0), (0, [], 0)] := by
  obtain ⟨A, hA⟩ : ∃ A : ByteArray, A.data.toList = s.data.toList ++ 10 :: [125] := ⟨⟨(s.data.toList ++ 10 :: [125]).toArray⟩, by simp⟩
  have hb : toks ⟨#[125]⟩ ((⟨#[125]⟩ : ByteArray).size + 1) 0 = .ok [mkTok ⟨#[125]⟩ 0 4 [125] 0, mkTok ⟨#[125]⟩ 1 0 [] 0] := by rfl
  have hj := (toks_join s ⟨#[125]⟩ A hA _ hb (s.size + 1) 0 L (Nat.zero_le _) (by omega) h (A.size + 14) (by omega)).1
  have h1 := toks_tkL A (A.size + 14) 0
  rw [hj, List.drop_zero] at h1
  have h2 := rd_pre (A.size + 14) A.data.toList
  rw [← h1, hA, ← hT] at h2
  have hsz : T.size = 18 + A.size := by
    rw [Lib.size_eq, Lib.size_eq, hT, hA, List.length_append]; rfl
  have e : preU.length + (A.size + 14) = T.size + 1 := by rw [hsz]; show 5 + (A.size + 14) = _; omega
  rw [e] at h2
  have h4 := toks_tkL T (T.size + 1) 0
  rw [List.drop_zero, h2] at h4
  cases ho : toks T (T.size + 1) 0 with
  | bad a b d => rw [ho] at h4; cases h4
  | ok L' =>
    rw [ho] at h4
    refine ⟨L', rfl, ?_⟩
    have h5 : L'.map un = preU ++ (L.dropLast ++ ([mkTok ⟨#[125]⟩ 0 4 [125] 0, mkTok ⟨#[125]⟩ 1 0 [] 0].map (shiftT (1 + s.data.toList.count 10)))).map un := Option.some.inj h4
    rw [h5, List.map_append, un_shift, List.map_dropLast, List.append_assoc]
    rfl
theorem tkL_last : ∀ (f : Nat) (l : List UInt8) (M : List (Nat × List UInt8 × Nat)), l.length < f → tkL f l = some M → ∃ N, M = N ++ [(0, [], 0)] ∧ ∀ x ∈ N, x.1 ≠ 0
  | 0, l, M, hl, h => by omega
  | f + 1, l, M, hl, h => by
    rw [tkL] at h
    cases hd : l.drop (spc false l) with
    | nil =>
      rw [hd] at h
      have h2 : some [((0 : Nat), ([] : List UInt8), (0 : Nat))] = some M := h
      injection h2 with h2
      exact ⟨[], h2.symm, fun x hx => by cases hx⟩
    | cons c r =>
      rw [hd] at h
      cases hT : tokL (c :: r) with
      | bad e => rw [hT] at h; cases h
      | tok kind text v n =>
        rw [hT] at h
        simp only at h
        have h0 : kind ≠ 0 := fun e => tokL_kind c r text v n (by rw [hT, e])
        have hn := (tokL_fine c r kind v n text hT).2.2.2.1
        rw [if_neg h0] at h
        cases hr : tkL f ((c :: r).drop n) with
        | none => rw [hr] at h; cases h
        | some K =>
          rw [hr] at h
          injection h with h
          subst h
          have hlen : (c :: r).length ≤ l.length := by rw [← hd, List.length_drop]; omega
          obtain ⟨N, h1, h2⟩ := tkL_last f ((c :: r).drop n) K (by rw [List.length_drop]; simp at hlen ⊢; omega) hr
          refine ⟨(kind, text, v) :: N, by rw [h1]; rfl, fun x hx => ?_⟩
          rcases List.mem_cons.1 hx with rfl | hx
          · exact h0
          · exact h2 x hx
/-- ParseRecords: within a module, the records of a text are those of a configuration. -/
theorem records_law {s T : ByteArray} {L : List Token} {c : PC} (h : toks s (s.size + 1) 0 = .ok L) (hT : T.data.toList = preL ++ (s.data.toList ++ [10, 125])) (hc : parseRecT L = .ok c) :
    ∃ L', toks T (T.size + 1) 0 = .ok L' ∧ parseT L' = .ok (setF 7 c) := by
  obtain ⟨L', h1, h2⟩ := rec_tokens h hT
  refine ⟨L', h1, ?_⟩
  have h3 := toks_tkL s (s.size + 1) 0
  rw [h, List.drop_zero] at h3
  obtain ⟨N, h4, h5⟩ := tkL_last (s.size + 1) s.data.toList (L.map un) (by rw [Lib.size_eq]; omega) h3.symm
  have hne : L ≠ [] := by
    intro e; subst e; cases N <;> cases h4
  obtain ⟨p, E, rfl⟩ : ∃ p E, L = p ++ [E] := ⟨L.dropLast, L.getLast hne, (List.dropLast_concat_getLast hne).symm⟩
  rw [List.map_append] at h4
  have h6 := List.append_inj' h4 rfl
  have hE : E.kind = 0 := by
    have : un E = (0, [], 0) := (List.cons.inj h6.2).1
    exact congrArg Prod.fst this
  have hp : ∀ u ∈ p, u.kind ≠ 0 := fun u hu => h5 (un u) (by rw [← h6.1]; exact List.mem_map_of_mem hu)
  have h7 : L'.map un = preU ++ p.map un ++ [(4, [125], 0), (0, [], 0)] := by
    rw [h2, List.map_append]
    congr 2
    exact List.dropLast_concat
  have tk : ∀ x : Un, un ⟨x.1, x.2.1, x.2.2, 0, 0⟩ = x := fun x => rfl
  obtain ⟨t, ht⟩ : ∃ t : Un → Token, t = fun x => ⟨x.1, x.2.1, x.2.2, 0, 0⟩ := ⟨_, rfl⟩
  have hut : ∀ x, un (t x) = x := fun x => by rw [ht]; rfl
  have hlike : LikeL (t (lit [109, 111, 100, 117, 108, 101]) :: t (4, [123], 0) :: t (lit [102, 114, 97, 109, 101]) :: t (2, [55], 7) :: t semi :: (p ++ t (4, [125], 0) :: [t (0, [], 0)])) L' := by
    unfold LikeL
    rw [h7]
    simp only [List.map_cons, List.map_append, List.map_nil, hut]
    rfl
  refine parse_like hlike ?_
  exact parse_rec hE (by rw [ht]) (B := t (4, [125], 0)) (by rw [ht]) (by rw [ht]) hp hc (by unfold topN; omega) ⟨_, _, _, _, _, rfl, hut _, hut _, hut _, by rw [ht], by rw [ht], hut _⟩
end Go.Proofs.YtcnihmlmaigkdaaGreatDoor
namespace Go.Proofs.YtcnihmlmaigkdaaGreatDoor
open Go.Lib
set_option linter.unusedVariables false

def Vld (l : List Token) : Prop := ∀ t ∈ l, t.kind = 3 → validL t.text = true
end Go.Proofs.YtcnihmlmaigkdaaGreatDoor
namespace Go.Proofs.YtcnihmlmaigkdaaGreatDoor
open Go.Lib
set_option linter.unusedVariables false

theorem endL_snoc {t : Token} (ht : t.kind = 0) : ∀ N : List Token, EndL (N ++ [t])
  | [] => ht
  | u :: N => by
    have := endL_snoc ht N
    cases N with
    | nil => exact ht
    | cons v M => exact this
theorem endL_of {l : List Token} {N : List (Nat × List UInt8 × Nat)} (h : l.map un = N ++ [(0, [], 0)]) : EndL l := by
  have hne : l ≠ [] := by intro e; subst e; cases N <;> cases h
  have hl := List.dropLast_concat_getLast hne
  rw [← hl]
  refine endL_snoc ?_ _
  have h2 : (l.map un).getLast? = some (0, [], 0) := by rw [h]; simp
  rw [List.getLast?_map, List.getLast?_eq_some_getLast hne] at h2
  have h3 : un (l.getLast hne) = (0, [], 0) := by simpa using h2
  exact congrArg (·.1) h3
theorem out_toks {s : ByteArray} {l : List Token} (h : outOf s = .ok l) : s.size ≤ 1048576 ∧ toks s (s.size + 1) 0 = .ok l := by
  unfold outOf at h
  by_cases hs : s.size ≤ 1048576
  · rw [if_pos hs] at h; exact ⟨hs, h⟩
  · rw [if_neg hs] at h; cases h
theorem out_facts {s : ByteArray} {l : List Token} (h : outOf s = .ok l) : EndL l ∧ Tsz l ∧ Vld l := by
  obtain ⟨hs, h⟩ := out_toks h
  have h3 := toks_tkL s (s.size + 1) 0
  rw [h, List.drop_zero] at h3
  obtain ⟨N, h4, h5⟩ := tkL_last (s.size + 1) s.data.toList (l.map un) (by rw [Lib.size_eq]; omega) h3.symm
  obtain ⟨_, _, _, _, hv⟩ := tkL_join (s.size + 1) s.data.toList (l.map un) (by rw [Lib.size_eq]; omega) h3.symm
  have hV : Vld l := fun t ht hk => hv (un t) (List.mem_map_of_mem ht) hk
  refine ⟨endL_of h4, fun t ht hk => ?_, hV⟩
  have := hV t ht hk
  unfold validL at this
  simp only [Bool.and_eq_true, decide_eq_true_eq] at this
  exact this.1.2
theorem tokAt_codeP {s : ByteArray} {k c : Nat} (h : tokAt s k = .bad c) : 0 < c := by
  unfold tokAt at h
  split at h
  · cases h
  · split at h
    · cases h
    · split at h
      · split at h
        · cases h
        · injection h with h; omega
      · split at h
        · split at h
          · cases h
          · injection h with h; omega
        · split at h
          · cases h
          · injection h with h; omega
theorem toks_code (s : ByteArray) : ∀ (f k c i j : Nat), toks s f k = .bad c i j → 0 < c
  | 0, k, c, i, j, h => by cases h
  | f + 1, k, c, i, j, h => by
    rw [toks] at h
    split at h
    · rename_i e he
      injection h with h1 h2 h3
      subst h1
      exact tokAt_codeP he
    · split at h
      · cases h
      · rename_i kind text v stop _ _
        cases hr : toks s f stop with
        | ok l => rw [hr] at h; cases h
        | bad c2 i2 j2 =>
          rw [hr] at h
          injection h with h1 h2 h3
          subst h1
          exact toks_code s f stop c2 i2 j2 hr
theorem out_code {s : ByteArray} {c i j : Nat} (h : outOf s = .bad c i j) : 0 < c := by
  unfold outOf at h
  by_cases hs : s.size ≤ 1048576
  · rw [if_pos hs] at h; exact toks_code s _ _ c i j h
  · rw [if_neg hs] at h; injection h with h; omega
/-- What a text denotes: the tokens, then their readers. -/
def parseO (s : ByteArray) : Except Flt PC := match outOf s with
  | .bad c i j => .error (c, i, j)
  | .ok l => parseT l
def parseRO (s : ByteArray) : Except Flt PC := match outOf s with
  | .bad c i j => .error (c, i, j)
  | .ok l => parseRecT l
theorem Lf.post {α : Type} {m : PM α} {s s' : RS} {a : α} {P : α → Prop} (h : Lf m s a s') (hp : PostO m P) (he : s'.err = none) (hz : s.err = none → Tsz s.l) : s.err = none ∧ Tsz s'.l ∧ P a := by
  have h0 : s.err = none := by
    cases h0 : s.err with
    | none => rfl
    | some f => have := h.dead f h0; rw [he] at this; cases this
  cases hm : m s.l with
  | error f => have := h.bad h0 f hm; rw [he] at this; cases this
  | ok x =>
    obtain ⟨a0, r⟩ := x
    obtain ⟨e1, e2, _⟩ := h.ok h0 a0 r hm
    obtain ⟨h1, h2⟩ := hp s.l a0 r (hz h0) hm
    rw [e1, e2]
    exact ⟨h0, h1, h2⟩
end Go.Proofs.YtcnihmlmaigkdaaGreatDoor
namespace Go.Proofs.YtcnihmlmaigkdaaGreatDoor
open Go.Lib
set_option linter.unusedVariables false

theorem tokAt_len {s : ByteArray} {k kind v stop : Nat} {text : List UInt8} (h : tokAt s k = .tok kind text v stop) (hk : kind ≠ 3) : text.length ≤ s.size + 1 := by
  have hz := Lib.size_eq s
  have hd : (s.data.toList.drop k).length ≤ s.size := by rw [List.length_drop]; omega
  unfold tokAt at h
  split at h
  · injection h with h1 h2; subst h2; simp
  · rename_i c r hcr
    rw [hcr] at hd
    have ht : ∀ n, ((c :: r).take n).length ≤ s.size + 1 := fun n => by rw [List.length_take]; omega
    split at h
    · injection h with h1 h2; subst h2; exact ht _
    · split at h
      · split at h
        · injection h with h1 h2; subst h2; exact ht _
        · cases h
      · split at h
        · split at h
          · injection h with h1 h2; exact absurd h1.symm hk
          · cases h
        · split at h
          · injection h with h1 h2; subst h2; simp
          · cases h
theorem toks_len (s : ByteArray) : ∀ f k l, toks s f k = .ok l → ∀ t ∈ l, t.kind ≠ 3 → t.text.length ≤ s.size + 1
  | 0, k, l, h => by unfold toks at h; injection h with h; subst h; intro t ht; cases ht
  | f + 1, k, l, h => by
    unfold toks at h
    cases hT : tokAt s (skipAt s k) with
    | bad e => rw [hT] at h; cases h
    | tok kind text v stop =>
      rw [hT] at h
      simp only at h
      have h1 : ∀ J, (mkTok s J kind text v).kind ≠ 3 → (mkTok s J kind text v).text.length ≤ s.size + 1 := fun J hk => tokAt_len hT hk
      by_cases hk : kind = 0
      · rw [if_pos hk] at h
        injection h with h
        subst h
        intro t ht h3
        rw [List.mem_singleton] at ht
        subst ht
        exact h1 _ h3
      · rw [if_neg hk] at h
        cases hr : toks s f stop with
        | bad a b c => rw [hr] at h; cases h
        | ok r =>
          rw [hr] at h
          have h : Out.ok (mkTok s (skipAt s k) kind text v :: r) = .ok l := h
          injection h with h
          subst h
          intro t ht h3
          rcases List.mem_cons.1 ht with rfl | ht
          · exact h1 _ h3
          · exact toks_len s f stop r hr t ht h3
theorem out_txt {s : ByteArray} {l : List Token} (h : outOf s = .ok l) : TxtLe l := fun t ht => by
  obtain ⟨_, hz, _⟩ := out_facts h
  obtain ⟨hs, h2⟩ := out_toks h
  by_cases hk : t.kind = 3
  · have := hz t ht hk; omega
  · have := toks_len s _ _ l h2 t ht hk; omega
end Go.Proofs.YtcnihmlmaigkdaaGreatDoor
namespace Go.Proofs.YtcnihmlmaigkdaaGreatDoor
open Go.Lib
set_option linter.unusedVariables false

def tkn (x : Un) : Token := ⟨x.1, x.2.1, x.2.2, 0, 0⟩
theorem bind_ok {α β : Type} {m : PM α} {f : α → PM β} {l r : List Token} {a : α} (h : m l = .ok (a, r)) : bindT m f l = f a r := by
  unfold bindT; rw [h]
theorem want_word (x : List UInt8) (r : List Token) : wantT x (tkn (lit x) :: r) = .ok ((), r) := by
  unfold wantT
  rw [isT_cons]
  simp [tkn, lit]
theorem want_sign (x : List UInt8) (r : List Token) : wantT x (tkn (4, x, 0) :: r) = .ok ((), r) := by
  unfold wantT
  rw [isT_cons]
  simp [tkn]
theorem num_step {n most : Nat} (x : List UInt8) (r : List Token) (h : n ≤ most) : numT most (tkn (2, x, n) :: r) = .ok (n, r) := by
  show (if n ≤ most then (.ok (n, r) : Except Flt (Nat × List Token)) else _) = _
  rw [if_pos h]
theorem take_step (k : Nat) (x : List UInt8) (v : Nat) (r : List Token) : takeT k (tkn (k, x, v) :: r) = .ok (tkn (k, x, v), r) := by
  rw [takeT_cons]
  exact if_pos rfl
theorem take_lit (w : List UInt8) (r : List Token) : takeT 1 (tkn (lit w) :: r) = .ok (tkn (lit w), r) := take_step 1 w 0 r
theorem want_semi (r : List Token) : wantT [59] (tkn semi :: r) = .ok ((), r) := want_sign [59] r
theorem field_step {n most : Nat} (w x : List UInt8) (r : List Token) (h : n ≤ most) : fieldT w most (tkn (lit w) :: tkn (2, x, n) :: tkn semi :: r) = .ok (n, r) := by
  unfold fieldT
  rw [bind_ok (want_word w _), bind_ok (num_step x _ h), bind_ok (want_semi _)]
  rfl
theorem nameB_toList (s : ByteArray) : nameB s.data.toList = s := by
  cases s with
  | mk d => unfold nameB; simp
theorem is_other {x y : List UInt8} (h : x ≠ y) (r : List Token) : isT x (tkn (lit y) :: r) = false := by
  rw [isT_cons]
  simp only [tkn, lit]
  have : (y == x) = false := by rw [beq_eq_false_iff_ne]; exact fun e => h e.symm
  rw [this]; simp
theorem is_word (x : List UInt8) (r : List Token) : isT x (tkn (lit x) :: r) = true := by
  rw [isT_cons]; simp [tkn, lit]
theorem is_num (x y : List UInt8) (n : Nat) (r : List Token) : isT x (tkn (2, y, n) :: r) = false := by
  rw [isT_cons]; simp [tkn]
theorem is_sign {x y : List UInt8} (h : x ≠ y) (r : List Token) : isT x (tkn (4, y, 0) :: r) = false := by
  rw [isT_cons]
  simp only [tkn]
  have : (y == x) = false := by rw [beq_eq_false_iff_ne]; exact fun e => h e.symm
  rw [this]; simp
theorem is_sign_yes (x : List UInt8) (r : List Token) : isT x (tkn (4, x, 0) :: r) = true := by
  rw [isT_cons]; simp [tkn]
/-- A record, but for its body. -/
theorem record_step {k : Nat} {c c2 : PC} {w : List UInt8} {l r : List Token} (hl : cntK c k < limN k) (hb : bodyT k c l = .ok (c2, tkn (4, [125], 0) :: r)) : recordT k c (tkn (lit w) :: l) = .ok (c2, r) := by
  unfold recordT
  rw [bind_ok (take_lit w l)]
  rw [if_neg (by omega)]
  rw [bind_ok hb, bind_ok (want_sign [125] r)]
  rfl
theorem back_part {c : PC} {p : PartR} (hp : p.Ok) (r : List Token) : partT c ((partU p).tail.map tkn ++ r) = .ok ({ c with parts := c.parts ++ [p] }, tkn (4, [125], 0) :: r) := by
  show partT c (tkn (2, numB p.id, p.id) :: tkn (3, p.name.data.toList, 0) :: tkn (4, [123], 0) :: tkn (lit [112, 101, 114, 105, 111, 100]) :: tkn (2, numB p.per, p.per) :: tkn semi :: tkn (lit [100, 117, 114, 97, 116, 105, 111, 110]) :: tkn (2, numB p.dur, p.dur) :: tkn semi :: tkn (4, [125], 0) :: r) = _
  unfold partT
  rw [bind_ok (num_step _ _ (by have := hp.1; omega)), bind_ok (take_step 3 _ 0 _), bind_ok (want_sign [123] _), bind_ok (field_step _ _ _ (by have := hp.2.2.1; unfold topN; omega)), bind_ok (field_step _ _ _ (by have := hp.2.2.2; unfold topN; omega))]
  show Except.ok _ = _
  rw [show (tkn (3, p.name.data.toList, 0)).text = p.name.data.toList from rfl, nameB_toList]
theorem back_win {c : PC} {x : WinR} (hx : x.Ok) (r : List Token) : winT c ((winU x).tail.map tkn ++ r) = .ok ({ c with wins := c.wins ++ [x] }, tkn (4, [125], 0) :: r) := by
  show winT c (tkn (2, numB x.part, x.part) :: tkn (4, [123], 0) :: tkn (lit [115, 116, 97, 114, 116]) :: tkn (2, numB x.st, x.st) :: tkn semi :: tkn (lit [108, 101, 110, 103, 116, 104]) :: tkn (2, numB x.len, x.len) :: tkn semi :: tkn (4, [125], 0) :: r) = _
  unfold winT
  rw [bind_ok (num_step _ _ (by have := hx.2.2; omega)), bind_ok (want_sign [123] _), bind_ok (field_step _ _ _ (by have := hx.1; unfold topN; omega)), bind_ok (field_step _ _ _ (by have := hx.2.1; unfold topN; omega))]
  rfl
theorem rights_step {n : Nat} (h : n ≤ 7) (r : List Token) : rightsT (tkn (lit (rightsW n)) :: r) = .ok (n, r) := by
  unfold rightsT
  rw [bind_ok (take_lit _ r)]
  show (match rightsN (rightsW n) with | some r => pureT r | none => fun _ => .error (4, 0, 0)) r = _
  rw [rights_word h]
  rfl
theorem back_reg {c : PC} {x : RegR} (hx : x.Ok) (h7 : x.rights ≤ 7) (r : List Token) : regT c ((regU x).tail.map tkn ++ r) = .ok ({ c with regs := c.regs ++ [x] }, tkn (4, [125], 0) :: r) := by
  obtain ⟨xb, xs, xp, xr, xh⟩ := x
  cases xh with
  | false =>
    show regT c (tkn (2, numB xp, xp) :: tkn (4, [123], 0) :: tkn (lit [98, 97, 115, 101]) :: tkn (2, hexL xb, xb) :: tkn semi :: tkn (lit [115, 105, 122, 101]) :: tkn (2, numB xs, xs) :: tkn semi :: tkn (lit [114, 105, 103, 104, 116, 115]) :: tkn (lit (rightsW xr)) :: tkn (4, [59], 0) :: tkn (4, [125], 0) :: r) = _
    unfold regT
    rw [bind_ok (num_step _ _ (by have := hx.2.2.1; simp only at this; omega)), bind_ok (want_sign [123] _), bind_ok (field_step _ _ _ (by have := hx.1; simp only at this; unfold topN; omega)), bind_ok (field_step _ _ _ (by have := hx.2.1; simp only at this; unfold topN; omega)), bind_ok (want_word _ _), bind_ok (rights_step h7 _), bind_ok (want_sign [59] _)]
    have hs : sharedT (tkn (4, [125], 0) :: r) = .ok (false, tkn (4, [125], 0) :: r) := by
      unfold sharedT
      rw [is_sign (by decide)]; rfl
    rw [bind_ok hs]
    rfl
  | true =>
    show regT c (tkn (2, numB xp, xp) :: tkn (4, [123], 0) :: tkn (lit [98, 97, 115, 101]) :: tkn (2, hexL xb, xb) :: tkn semi :: tkn (lit [115, 105, 122, 101]) :: tkn (2, numB xs, xs) :: tkn semi :: tkn (lit [114, 105, 103, 104, 116, 115]) :: tkn (lit (rightsW xr)) :: tkn (4, [59], 0) :: tkn (lit [115, 104, 97, 114, 101, 100]) :: tkn (4, [59], 0) :: tkn (4, [125], 0) :: r) = _
    unfold regT
    rw [bind_ok (num_step _ _ (by have := hx.2.2.1; simp only at this; omega)), bind_ok (want_sign [123] _), bind_ok (field_step _ _ _ (by have := hx.1; simp only at this; unfold topN; omega)), bind_ok (field_step _ _ _ (by have := hx.2.1; simp only at this; unfold topN; omega)), bind_ok (want_word _ _), bind_ok (rights_step h7 _), bind_ok (want_sign [59] _)]
    have hs : sharedT (tkn (lit [115, 104, 97, 114, 101, 100]) :: tkn (4, [59], 0) :: tkn (4, [125], 0) :: r) = .ok (true, tkn (4, [125], 0) :: r) := by
      unfold sharedT
      rw [is_word, if_pos rfl, bind_ok (want_word _ _), bind_ok (want_sign [59] _)]; rfl
    rw [bind_ok hs]
    rfl
theorem dir_step (b : Bool) (r : List Token) : choiceT [105, 110, 112, 117, 116] [111, 117, 116, 112, 117, 116] (tkn (lit (dirB b)) :: tkn (4, [59], 0) :: r) = .ok (b, r) := by
  unfold choiceT
  cases b with
  | false =>
    rw [show dirB false = [105, 110, 112, 117, 116] from rfl, is_other (by decide), if_neg (by simp), bind_ok (want_word _ _), bind_ok (want_sign [59] _)]; rfl
  | true =>
    rw [show dirB true = [111, 117, 116, 112, 117, 116] from rfl, is_word, if_pos rfl, bind_ok (want_word _ _), bind_ok (want_sign [59] _)]; rfl
theorem kind_step (b : Bool) (r : List Token) : choiceT [115, 97, 109, 112, 108, 105, 110, 103] [113, 117, 101, 117, 105, 110, 103] (tkn (lit (kindB b)) :: tkn (4, [59], 0) :: r) = .ok (b, r) := by
  unfold choiceT
  cases b with
  | false =>
    rw [show kindB false = [115, 97, 109, 112, 108, 105, 110, 103] from rfl, is_other (by decide), if_neg (by simp), bind_ok (want_word _ _), bind_ok (want_sign [59] _)]; rfl
  | true =>
    rw [show kindB true = [113, 117, 101, 117, 105, 110, 103] from rfl, is_word, if_pos rfl, bind_ok (want_word _ _), bind_ok (want_sign [59] _)]; rfl
theorem back_port {c : PC} {p : PortR} (hp : p.Ok) (r : List Token) : portT c ((portU p).tail.map tkn ++ r) = .ok ({ c with ports := c.ports ++ [p] }, tkn (4, [125], 0) :: r) := by
  show portT c (tkn (2, numB p.id, p.id) :: tkn (3, p.name.data.toList, 0) :: tkn (4, [123], 0) :: tkn (lit [112, 97, 114, 116, 105, 116, 105, 111, 110]) :: tkn (2, numB p.part, p.part) :: tkn semi :: tkn (lit (dirB p.out)) :: tkn (4, [59], 0) :: tkn (lit (kindB p.que)) :: tkn (4, [59], 0) :: tkn (lit [115, 105, 122, 101]) :: tkn (2, numB p.size, p.size) :: tkn semi :: tkn (4, [125], 0) :: r) = _
  unfold portT
  rw [bind_ok (num_step _ _ (by have := hp.1; omega)), bind_ok (take_step 3 _ 0 _), bind_ok (want_sign [123] _), bind_ok (field_step _ _ _ (by have := hp.2.1; omega)), bind_ok (dir_step p.out _), bind_ok (kind_step p.que _), bind_ok (field_step _ _ _ (by have := hp.2.2.2; omega))]
  show Except.ok _ = _
  rw [show (tkn (3, p.name.data.toList, 0)).text = p.name.data.toList from rfl, nameB_toList]
theorem back_dests : ∀ {d : List Nat} {x links f : Nat} (r : List Token), (∀ y ∈ x :: d, y < 65536) → links + (x :: d).length ≤ 1024 → d.length < f →
    destsT f links ((((x :: d).map numU).intersperse comma).map tkn ++ tkn (4, [59], 0) :: r) = .ok (x :: d, tkn (4, [59], 0) :: r)
  | [], x, links, f + 1, r, h, hl, _ => by
    show destsT (f + 1) links (tkn (2, numB x, x) :: tkn (4, [59], 0) :: r) = _
    unfold destsT
    rw [num_step _ _ (by have := h x List.mem_cons_self; omega)]
    simp only
    rw [if_neg (by simp at hl; omega), is_sign (by decide)]
    rfl
  | y :: d, x, links, f + 1, r, h, hl, hf => by
    have e : (((x :: y :: d).map numU).intersperse comma).map tkn ++ tkn (4, [59], 0) :: r = tkn (2, numB x, x) :: tkn (4, [44], 0) :: ((((y :: d).map numU).intersperse comma).map tkn ++ tkn (4, [59], 0) :: r) := by
      simp [comma, numU]
    rw [e]
    unfold destsT
    rw [num_step _ _ (by have := h x List.mem_cons_self; omega)]
    simp only
    rw [if_neg (by simp at hl; omega), is_sign_yes, if_pos rfl, List.tail_cons, back_dests r (fun z hz => h z (List.mem_cons_of_mem _ hz)) (by simp at hl ⊢; omega) (by simp at hf ⊢; omega)]
theorem to_step {d : List Nat} {links : Nat} (r : List Token) (h : ∀ y ∈ d, y < 65536) (hl : links + d.length ≤ 1024) : toT links ((toU d).map tkn ++ tkn (4, [59], 0) :: r) = .ok (d, tkn (4, [59], 0) :: r) := by
  cases d with
  | nil =>
    show toT links (tkn (lit [116, 111]) :: tkn (4, [59], 0) :: r) = _
    unfold toT
    rw [bind_ok (want_word _ _), is_sign_yes, if_pos rfl]
  | cons x d =>
    have e : (toU (x :: d)).map tkn ++ tkn (4, [59], 0) :: r = tkn (lit [116, 111]) :: ((((x :: d).map numU).intersperse comma).map tkn ++ tkn (4, [59], 0) :: r) := by
      unfold toU
      rw [if_neg (by simp)]; rfl
    rw [e]
    unfold toT
    rw [bind_ok (want_word _ _)]
    have hn : isT [59] ((((x :: d).map numU).intersperse comma).map tkn ++ tkn (4, [59], 0) :: r) = false := by
      cases d with
      | nil => exact is_num _ _ _ _
      | cons y d => exact is_num _ _ _ _
    rw [hn, if_neg (by simp)]
    refine back_dests r h hl ?_
    have : d.length ≤ (((x :: d).map numU).intersperse comma).length := by
      have := List.length_intersperse (sep := comma) (l := (x :: d).map numU)
      rw [this]; simp; omega
    simp; omega
theorem back_chan {c : PC} {x : ChanR} (hx : x.Ok) (hl : linksK c.chans + x.dests.length ≤ 1024) (r : List Token) : chanT c ((chanU x).tail.map tkn ++ r) = .ok ({ c with chans := c.chans ++ [chanK x] }, tkn (4, [125], 0) :: r) := by
  have e : (chanU x).tail.map tkn ++ r = tkn (2, numB x.id, x.id) :: tkn (4, [123], 0) :: tkn (lit [115, 111, 117, 114, 99, 101]) :: tkn (2, numB x.src, x.src) :: tkn semi :: ((toU x.dests).map tkn ++ tkn (4, [59], 0) :: tkn (4, [125], 0) :: r) := by
    simp [chanU, lnU, fieldU, lit, semi, List.intersperse]
  rw [e]
  unfold chanT
  rw [bind_ok (num_step _ _ (by have := hx.1; omega)), bind_ok (want_sign [123] _), bind_ok (field_step _ _ _ (by have := hx.2.1; omega)), bind_ok (to_step _ hx.2.2 hl), bind_ok (want_sign [59] _)]
  rfl
/-! ### All records -/
/-- What a reader of records does with the tokens of some records, whatever follows. -/
def Back (f : Nat) (c c2 : PC) (M : List (List Un)) : Prop := ∀ r, recordsT (M.length + f) c (M.flatten.map tkn ++ r) = recordsT f c2 r
theorem Back.app {f : Nat} {c c2 c3 : PC} {M N : List (List Un)} (h : Back (N.length + f) c c2 M) (k : Back f c2 c3 N) : Back f c c3 (M ++ N) := fun r => by
  rw [List.length_append, Nat.add_assoc, List.flatten_append, List.map_append, List.append_assoc, h, k]
theorem Back.cons {f : Nat} {c c2 c3 : PC} {w : List UInt8} {a : List Un} {M : List (List Un)} {k : Nat} (ha : a.head? = some (lit w)) (hs : sectN w = k) (hk : 0 < k) (hr : ∀ r, recordT k c (a.map tkn ++ r) = .ok (c2, r)) (h : Back f c2 c3 M) : Back f c c3 (a :: M) := fun r => by
  obtain ⟨t, rfl⟩ : ∃ t, a = lit w :: t := by
    cases a with
    | nil => cases ha
    | cons x t => injection ha with ha; exact ⟨t, by rw [ha]⟩
  rw [List.length_cons, List.flatten_cons, List.map_append, List.append_assoc, show M.length + 1 + f = (M.length + f) + 1 by omega, List.map_cons, List.cons_append, recordsT]
  have h1 : (tkn (lit w)).kind = 1 ∧ 0 < sectN (tkn (lit w)).text := ⟨rfl, by show 0 < sectN w; omega⟩
  simp only
  rw [if_pos h1]
  have h2 := hr (M.flatten.map tkn ++ r)
  rw [List.map_cons, List.cons_append] at h2
  rw [show sectN (tkn (lit w)).text = k from hs, h2]
  exact h r
theorem back_parts {f : Nat} : ∀ {l : List PartR} {c : PC}, (∀ x ∈ l, x.Ok) → c.parts.length + l.length ≤ 64 → Back f c { c with parts := c.parts ++ l } (l.map partU)
  | [], c, _, _ => fun r => by simp
  | x :: l, c, h, hl => by
    rw [List.map_cons]
    refine Back.cons (w := [112, 97, 114, 116, 105, 116, 105, 111, 110]) (k := 1) rfl rfl (by omega) (fun r => record_step (by show c.parts.length < 64; simp at hl; omega) (by show partT c _ = _; exact back_part (h x List.mem_cons_self) r)) ?_
    have := back_parts (f := f) (l := l) (c := { c with parts := c.parts ++ [x] }) (fun y hy => h y (List.mem_cons_of_mem _ hy)) (by simp at hl ⊢; omega)
    simpa using this
theorem back_wins {f : Nat} : ∀ {l : List WinR} {c : PC}, (∀ x ∈ l, x.Ok) → c.wins.length + l.length ≤ 1024 → Back f c { c with wins := c.wins ++ l } (l.map winU)
  | [], c, _, _ => fun r => by simp
  | x :: l, c, h, hl => by
    rw [List.map_cons]
    refine Back.cons (w := [119, 105, 110, 100, 111, 119]) (k := 2) rfl rfl (by omega) (fun r => record_step (by show c.wins.length < 1024; simp at hl; omega) (by show winT c _ = _; exact back_win (h x List.mem_cons_self) r)) ?_
    have := back_wins (f := f) (l := l) (c := { c with wins := c.wins ++ [x] }) (fun y hy => h y (List.mem_cons_of_mem _ hy)) (by simp at hl ⊢; omega)
    simpa using this
theorem back_regs {f : Nat} : ∀ {l : List RegR} {c : PC}, (∀ x ∈ l, x.Ok ∧ x.rights ≤ 7) → c.regs.length + l.length ≤ 1024 → Back f c { c with regs := c.regs ++ l } (l.map regU)
  | [], c, _, _ => fun r => by simp
  | x :: l, c, h, hl => by
    rw [List.map_cons]
    refine Back.cons (w := [114, 101, 103, 105, 111, 110]) (k := 3) rfl rfl (by omega) (fun r => record_step (by show c.regs.length < 1024; simp at hl; omega) (by show regT c _ = _; exact back_reg (h x List.mem_cons_self).1 (h x List.mem_cons_self).2 r)) ?_
    have := back_regs (f := f) (l := l) (c := { c with regs := c.regs ++ [x] }) (fun y hy => h y (List.mem_cons_of_mem _ hy)) (by simp at hl ⊢; omega)
    simpa using this
theorem back_ports {f : Nat} : ∀ {l : List PortR} {c : PC}, (∀ x ∈ l, x.Ok) → c.ports.length + l.length ≤ 1024 → Back f c { c with ports := c.ports ++ l } (l.map portU)
  | [], c, _, _ => fun r => by simp
  | x :: l, c, h, hl => by
    rw [List.map_cons]
    refine Back.cons (w := [112, 111, 114, 116]) (k := 4) rfl rfl (by omega) (fun r => record_step (by show c.ports.length < 1024; simp at hl; omega) (by show portT c _ = _; exact back_port (h x List.mem_cons_self) r)) ?_
    have := back_ports (f := f) (l := l) (c := { c with ports := c.ports ++ [x] }) (fun y hy => h y (List.mem_cons_of_mem _ hy)) (by simp at hl ⊢; omega)
    simpa using this
theorem links_snoc (l : List (Nat × Nat × List Nat)) (x : ChanR) : linksK (l ++ [chanK x]) = linksK l + x.dests.length := by
  unfold linksK chanK; simp
theorem back_chans {f : Nat} : ∀ {l : List ChanR} {c : PC}, (∀ x ∈ l, x.Ok) → c.chans.length + l.length ≤ 512 → linksK c.chans + linksN l ≤ 1024 → Back f c { c with chans := c.chans ++ l.map chanK } (l.map chanU)
  | [], c, _, _, _ => fun r => by simp
  | x :: l, c, h, hl, hn => by
    have e : linksN (x :: l) = x.dests.length + linksN l := by unfold linksN; simp
    rw [List.map_cons]
    refine Back.cons (w := [99, 104, 97, 110, 110, 101, 108]) (k := 5) rfl rfl (by omega) (fun r => record_step (by show c.chans.length < 512; simp at hl; omega) (by show chanT c _ = _; exact back_chan (h x List.mem_cons_self) (by omega) r)) ?_
    have := back_chans (f := f) (l := l) (c := { c with chans := c.chans ++ [chanK x] }) (fun y hy => h y (List.mem_cons_of_mem _ hy)) (by simp at hl ⊢; omega) (by rw [links_snoc]; omega)
    simpa using this
/-! ### The whole -/
theorem within_lim {c : Cfg} (h : withinB c = true) : c.parts.l.length ≤ 64 ∧ c.wins.l.length ≤ 1024 ∧ c.regs.l.length ≤ 1024 ∧ c.ports.l.length ≤ 1024 ∧ c.chans.l.length ≤ 512 ∧ linksN c.chans.l ≤ 1024 := by
  unfold withinB at h
  rw [Bool.and_eq_true, Bool.and_eq_true, Bool.and_eq_true, List.all_eq_true] at h
  have r6 : ∀ s, s < 6 → cntN c (s + 1) ≤ limN (s + 1) := fun s hs => by simpa using h.1.1.1 s (List.mem_range.2 hs)
  exact ⟨r6 0 (by omega), r6 1 (by omega), r6 2 (by omega), r6 3 (by omega), r6 4 (by omega), r6 5 (by omega)⟩
theorem back_lines {c : Cfg} (hc : c.Ok) (hw : withinB c = true) (f : Nat) : Back f { zeroPC with frame := c.frame } (pcOf c) (linesU c) := by
  obtain ⟨l1, l2, l3, l4, l5, l6⟩ := within_lim hw
  have hg := within_good hw
  unfold linesU
  refine Back.app (back_parts (c := { zeroPC with frame := c.frame }) hc.parts (by show 0 + _ ≤ 64; omega)) ?_
  refine Back.app (back_wins hc.wins (by show 0 + _ ≤ 1024; omega)) ?_
  refine Back.app (back_regs (fun x hx => ⟨hc.regs x hx, hg.regs x hx⟩) (by show 0 + _ ≤ 1024; omega)) ?_
  refine Back.app (back_ports hc.ports (by show 0 + _ ≤ 1024; omega)) ?_
  have := back_chans (f := f) (l := c.chans.l) (c := ⟨c.frame, [] ++ c.parts.l, [] ++ c.wins.l, [] ++ c.regs.l, [] ++ c.ports.l, []⟩) hc.chans (by show 0 + _ ≤ 512; omega) (by show 0 + _ ≤ 1024; omega)
  simpa [pcOf, zeroPC] using this
theorem flat_ge : ∀ {M : List (List Un)}, (∀ a ∈ M, a ≠ []) → M.length ≤ M.flatten.length
  | [], _ => Nat.le_refl _
  | a :: M, h => by
    have h1 := flat_ge (M := M) (fun b hb => h b (List.mem_cons_of_mem _ hb))
    have h2 : 1 ≤ a.length := by
      cases a with
      | nil => exact absurd rfl (h [] List.mem_cons_self)
      | cons x a => simp
    rw [List.flatten_cons, List.length_append, List.length_cons]; omega
theorem lines_ne (c : Cfg) : ∀ a ∈ linesU c, a ≠ [] := by
  intro a ha
  unfold linesU at ha
  rcases List.mem_append.1 ha with ha | ha
  · obtain ⟨p, _, rfl⟩ := List.mem_map.1 ha
    simp [partU, lnU]
  · rcases List.mem_append.1 ha with ha | ha
    · obtain ⟨p, _, rfl⟩ := List.mem_map.1 ha
      simp [winU, lnU]
    · rcases List.mem_append.1 ha with ha | ha
      · obtain ⟨p, _, rfl⟩ := List.mem_map.1 ha
        simp [regU, lnU]
      · rcases List.mem_append.1 ha with ha | ha
        · obtain ⟨p, _, rfl⟩ := List.mem_map.1 ha
          simp [portU, lnU]
        · obtain ⟨p, _, rfl⟩ := List.mem_map.1 ha
          simp [chanU, lnU]
theorem rec_stop {f : Nat} {c : PC} {t : Token} {r : List Token} (h : ¬ (t.kind = 1 ∧ 0 < sectN t.text)) : recordsT f c (t :: r) = .ok (c, t :: r) := by
  cases f with
  | zero => rfl
  | succ f =>
    rw [recordsT]
    simp only
    rw [if_neg h]
theorem all_back {c : Cfg} (hc : c.Ok) (hw : withinB c = true) {t : Token} (ht : ¬ (t.kind = 1 ∧ 0 < sectN t.text)) (r : List Token) : allRecT { zeroPC with frame := c.frame } ((linesU c).flatten.map tkn ++ t :: r) = .ok (pcOf c, t :: r) := by
  unfold allRecT
  have h1 := flat_ge (lines_ne c)
  obtain ⟨f, hf⟩ : ∃ f, ((linesU c).flatten.map tkn ++ t :: r).length = (linesU c).length + f := ⟨_, (Nat.add_sub_cancel' (by rw [List.length_append, List.length_map]; omega)).symm⟩
  rw [hf, back_lines hc hw f (t :: r), rec_stop ht]
/-- ShowInverse: the text of a configuration within limits is read back. -/
theorem parse_print {c : Cfg} (hc : c.Ok) (hw : withinB c = true) {l : List Token} (hl : l.map un = printU c ++ [(0, [], 0)]) : parseT l = .ok (pcOf c) := by
  have hk : LikeL ((printU c ++ [(0, [], 0)]).map tkn) l := by
    unfold LikeL
    rw [hl, List.map_map]
    exact List.map_id' _
  refine parse_like hk ?_
  have e : (printU c ++ [(0, [], 0)]).map tkn = tkn (lit [109, 111, 100, 117, 108, 101]) :: tkn (4, [123], 0) :: tkn (lit [102, 114, 97, 109, 101]) :: tkn (2, numB c.frame, c.frame) :: tkn semi :: ((linesU c).flatten.map tkn ++ tkn (4, [125], 0) :: [tkn (0, [], 0)]) := by
    simp [printU]
  rw [e]
  have hm : moduleT (tkn (lit [109, 111, 100, 117, 108, 101]) :: tkn (4, [123], 0) :: tkn (lit [102, 114, 97, 109, 101]) :: tkn (2, numB c.frame, c.frame) :: tkn semi :: ((linesU c).flatten.map tkn ++ tkn (4, [125], 0) :: [tkn (0, [], 0)])) = .ok (pcOf c, [tkn (0, [], 0)]) := by
    unfold moduleT
    rw [bind_ok (want_word _ _), bind_ok (want_sign [123] _), bind_ok (field_step _ _ _ (by have := hc.frame; unfold topN; omega)), bind_ok (all_back hc hw (by intro h; cases h.1) _), bind_ok (want_sign [125] _)]
    rfl
  unfold parseT endT
  rw [hm]
  rfl
/-- .. and of its records alone, but for the frame. -/
theorem parse_recs {c : Cfg} (hc : c.Ok) (hw : withinB c = true) {l : List Token} (hl : l.map un = (linesU c).flatten ++ [(0, [], 0)]) (h0 : c.frame = 0) : parseRecT l = .ok (pcOf c) := by
  have hk : LikeL (((linesU c).flatten ++ [(0, [], 0)]).map tkn) l := by
    unfold LikeL
    rw [hl, List.map_map]
    exact List.map_id' _
  have hm := all_back hc hw (t := tkn (0, [], 0)) (by intro h; cases h.1) []
  rw [h0] at hm
  have h1 := like_all zeroPC _ _ hk
  rw [List.map_append] at h1
  have hm2 : allRecT zeroPC ((linesU c).flatten.map tkn ++ [(0, [], 0)].map tkn) = .ok (pcOf c, [tkn (0, [], 0)]) := hm
  rw [hm2] at h1
  unfold parseRecT endT
  revert h1
  cases allRecT zeroPC l with
  | error e => exact False.elim
  | ok x =>
    obtain ⟨b, s⟩ := x
    rintro ⟨h2, h3⟩
    subst h2
    rcases like_take 0 h3 with ⟨t, r', u, s', e1, e2, _⟩ | ⟨e, f, e1, e2, _⟩
    · simp only; rw [e2]
    · cases e1
end Go.Proofs.YtcnihmlmaigkdaaGreatDoor
