/- Chapter 07: tokens that differ in their places alone have one configuration; what is read lies within limits. No program in sight. Chapter 07: what is read lies within limits, its numbers within their widths. No program in sight. Chapter 07: a text that is cut off is rejected. No program in sight. Chapter 07: the records of a text within a module (ParseRecords). No program in sight. The tokens of a configuration's text (chapter 08, ShowInverse). No program in sight. Chapter 07: the tokens of a text within a module (ParseRecords). No program in sight. Chapter 07: what is read lies within limits. No program in sight. The tokens of a text: they end with the end, their names are short; codes of faults (chapter 07). No program in sight. A map of five functions by the words of the sections (chapter 07). What a reader leaves is an end of what it was handed (chapter 07). No program in sight. The tokens' texts are no longer than the text (chapter 07). No program in sight. The text of law 07's alive, parsed (chapter 07). No program in sight. Chapter 07: the tokens of a text that is cut off ahead of a token (ParseBreaks). No program in sight. Chapter 07: where the loop of ParseBreaks stops. No program in sight. -/
import Derived.Test.YtdpieljopelkhaaGreatDoorMShSpec
import Derived.Test.YtdpieljopelkhaaGreatDoorMLxSpec
import Derived.Maps.OwnSet
import Derived.Maps.Views
import Derived.Tactics
namespace Go.Proofs.YtdpieljopelkhaaGreatDoor
open Go.Lib
set_option linter.unusedVariables false

theorem takeT_cons (n : Nat) (t : Token) (r : List Token) : takeT n (t :: r) = if t.kind = n then .ok (t, r) else .error (4, t.line, t.col) := rfl
theorem isT_cons (x : List UInt8) (t : Token) (r : List Token) : isT x (t :: r) = ((t.kind == 1 || t.kind == 4) && t.text == x) := rfl
/-- Tokens that differ in their places alone. -/
def LikeL (l m : List Token) : Prop := l.map un = m.map un
def LikeR {α : Type} (x y : Except Flt (α × List Token)) : Prop := match x, y with
  | .ok (a, r), .ok (b, s) => a = b ∧ LikeL r s
  | .error e, .error f => e.1 = f.1
  | _, _ => False
def LikeM {α : Type} (m : PM α) : Prop := ∀ l k, LikeL l k → LikeR (m l) (m k)
theorem like_cases {l k : List Token} (h : LikeL l k) : (l = [] ∧ k = []) ∨ ∃ t r u s, l = t :: r ∧ k = u :: s ∧ t.kind = u.kind ∧ t.text = u.text ∧ t.val = u.val ∧ LikeL r s := by
  cases l with
  | nil => cases k with
    | nil => exact .inl ⟨rfl, rfl⟩
    | cons u s => cases h
  | cons t r => cases k with
    | nil => cases h
    | cons u s =>
      unfold LikeL at h
      rw [List.map_cons, List.map_cons] at h
      injection h with h1 h2
      unfold un at h1
      simp only [Prod.mk.injEq] at h1
      exact .inr ⟨t, r, u, s, rfl, rfl, h1.1, h1.2.1, h1.2.2, h2⟩
theorem like_is (x : List UInt8) {l k : List Token} (h : LikeL l k) : isT x l = isT x k := by
  rcases like_cases h with ⟨rfl, rfl⟩ | ⟨t, r, u, s, rfl, rfl, h1, h2, h3, h4⟩
  · rfl
  · rw [isT_cons, isT_cons, h1, h2]
theorem like_tail {l k : List Token} (h : LikeL l k) : LikeL l.tail k.tail := by
  rcases like_cases h with ⟨rfl, rfl⟩ | ⟨t, r, u, s, rfl, rfl, h1, h2, h3, h4⟩
  · exact h
  · exact h4
theorem like_fail {α : Type} (c : Nat) : LikeM (failT c : PM α) := fun l k _ => rfl
theorem like_want (x : List UInt8) : LikeM (wantT x) := fun l k h => by
  unfold wantT
  rw [like_is x h]
  cases isT x k with
  | true => exact ⟨rfl, like_tail h⟩
  | false => rfl
theorem like_take {l k : List Token} (n : Nat) (h : LikeL l k) : (∃ t r u s, takeT n l = .ok (t, r) ∧ takeT n k = .ok (u, s) ∧ t.kind = u.kind ∧ t.text = u.text ∧ t.val = u.val ∧ LikeL r s) ∨ (∃ e f, takeT n l = .error e ∧ takeT n k = .error f ∧ e.1 = 4 ∧ f.1 = 4) := by
  rcases like_cases h with ⟨rfl, rfl⟩ | ⟨t, r, u, s, rfl, rfl, h1, h2, h3, h4⟩
  · exact .inr ⟨_, _, rfl, rfl, rfl, rfl⟩
  · by_cases e : t.kind = n
    · exact .inl ⟨t, r, u, s, by rw [takeT_cons, if_pos e], by rw [takeT_cons, if_pos (h1 ▸ e)], h1, h2, h3, h4⟩
    · exact .inr ⟨_, _, by rw [takeT_cons, if_neg e], by rw [takeT_cons, if_neg (h1 ▸ e)], rfl, rfl⟩
theorem like_num (most : Nat) : LikeM (numT most) := fun l k h => by
  unfold numT
  rcases like_take 2 h with ⟨t, r, u, s, e1, e2, h1, h2, h3, h4⟩ | ⟨e, f, e1, e2, h1, h2⟩
  · rw [e1, e2]
    simp only
    rw [h3]
    by_cases hv : u.val ≤ most
    · rw [if_pos hv, if_pos hv]; exact ⟨rfl, h4⟩
    · rw [if_neg hv, if_neg hv]; rfl
  · rw [e1, e2]; exact h1.trans h2.symm
theorem like_bind {α β : Type} {m : PM α} {f : α → PM β} (hm : LikeM m) (hf : ∀ a, LikeM (f a)) : LikeM (bindT m f) := fun l k h => by
  have := hm l k h
  unfold bindT
  revert this
  cases m l with
  | error e => cases m k with
    | error e2 => exact id
    | ok y => exact False.elim
  | ok x => cases m k with
    | error e2 => exact False.elim
    | ok y =>
      obtain ⟨a, r⟩ := x
      obtain ⟨b, s⟩ := y
      rintro ⟨h1, h2⟩
      subst h1
      exact hf a r s h2
theorem like_pure {α : Type} (a : α) : LikeM (pureT a) := fun l k h => ⟨rfl, h⟩
theorem like_field (w : List UInt8) (n : Nat) : LikeM (fieldT w n) := like_bind (like_want w) fun _ => like_bind (like_num n) fun _ => like_bind (like_want _) fun _ => like_pure _
theorem like_choice (a b : List UInt8) : LikeM (choiceT a b) := fun l k h => by
  unfold choiceT
  rw [like_is b h]
  cases isT b k with
  | true => exact like_bind (like_want b) (fun _ => like_bind (like_want _) fun _ => like_pure _) l k h
  | false => exact like_bind (like_want a) (fun _ => like_bind (like_want _) fun _ => like_pure _) l k h
/-- Behind a token, what hangs on its text and its place alone in the place of a fault. -/
theorem like_then {β : Type} (n : Nat) {f : Token → PM β} (hf : ∀ t u, t.kind = u.kind → t.text = u.text → t.val = u.val → ∀ l k, LikeL l k → LikeR (f t l) (f u k)) : LikeM (bindT (takeT n) f) := fun l k h => by
  unfold bindT
  rcases like_take n h with ⟨t, r, u, s, e1, e2, h1, h2, h3, h4⟩ | ⟨e, g, e1, e2, h1, h2⟩
  · rw [e1, e2]; exact hf t u h1 h2 h3 r s h4
  · rw [e1, e2]; exact h1.trans h2.symm
theorem like_rights : LikeM rightsT := like_then 1 fun t u h1 h2 h3 l k h => by
  rw [h2]
  cases rightsN u.text with
  | none => rfl
  | some r => exact ⟨rfl, h⟩
theorem like_dests : ∀ f links, LikeM (destsT f links)
  | 0, _ => like_fail 4
  | f + 1, links => fun l k h => by
    unfold destsT
    have := like_num 65535 l k h
    revert this
    cases numT 65535 l with
    | error e => cases numT 65535 k with
      | error e2 => exact id
      | ok y => exact False.elim
    | ok x => cases numT 65535 k with
      | error e2 => exact False.elim
      | ok y =>
        obtain ⟨a, r⟩ := x
        obtain ⟨b, s⟩ := y
        rintro ⟨h1, h2⟩
        subst h1
        simp only
        by_cases hl : 1024 ≤ links
        · rw [if_pos hl, if_pos hl]; rfl
        · rw [if_neg hl, if_neg hl, like_is [44] h2]
          cases isT [44] s with
          | false => exact ⟨rfl, h2⟩
          | true =>
            have h5 := like_dests f (links + 1) r.tail s.tail (like_tail h2)
            simp only [if_true]
            revert h5
            cases destsT f (links + 1) r.tail with
            | error e => cases destsT f (links + 1) s.tail with
              | error e2 => exact id
              | ok y => exact False.elim
            | ok x => cases destsT f (links + 1) s.tail with
              | error e2 => exact False.elim
              | ok y =>
                obtain ⟨a2, r2⟩ := x
                obtain ⟨b2, s2⟩ := y
                rintro ⟨h6, h7⟩
                subst h6
                exact ⟨rfl, h7⟩
theorem like_len {l k : List Token} (h : LikeL l k) : l.length = k.length := by
  have := congrArg List.length h
  simpa using this
theorem like_to (links : Nat) : LikeM (toT links) := like_bind (like_want _) fun _ l k h => by
  show LikeR (if isT [59] l then _ else _) (if isT [59] k then _ else _)
  rw [like_is [59] h, like_len h]
  cases isT [59] k with
  | true => exact ⟨rfl, h⟩
  | false => exact like_dests _ _ l k h
theorem like_part (c : PC) : LikeM (partT c) := like_bind (like_num _) fun _ => like_then 3 fun t u h1 h2 h3 l k h => by
  rw [h2]
  exact like_bind (like_want _) (fun _ => like_bind (like_field _ _) fun _ => like_bind (like_field _ _) fun _ => like_pure _) l k h
theorem like_win (c : PC) : LikeM (winT c) := like_bind (like_num _) fun _ => like_bind (like_want _) fun _ => like_bind (like_field _ _) fun _ => like_bind (like_field _ _) fun _ => like_pure _
theorem like_shared : LikeM sharedT := fun l k h => by
  unfold sharedT
  rw [like_is _ h]
  cases isT [115, 104, 97, 114, 101, 100] k with
  | true => exact like_bind (like_want _) (fun _ => like_bind (like_want _) fun _ => like_pure _) l k h
  | false => exact ⟨rfl, h⟩
theorem like_reg (c : PC) : LikeM (regT c) := like_bind (like_num _) fun _ => like_bind (like_want _) fun _ => like_bind (like_field _ _) fun _ => like_bind (like_field _ _) fun _ => like_bind (like_want _) fun _ => like_bind like_rights fun _ => like_bind (like_want _) fun _ => like_bind like_shared fun _ => like_pure _
theorem like_port (c : PC) : LikeM (portT c) := like_bind (like_num _) fun _ => like_then 3 fun t u h1 h2 h3 l k h => by
  rw [h2]
  exact like_bind (like_want _) (fun _ => like_bind (like_field _ _) fun _ => like_bind (like_choice _ _) fun _ => like_bind (like_choice _ _) fun _ => like_bind (like_field _ _) fun _ => like_pure _) l k h
theorem like_chan (c : PC) : LikeM (chanT c) := like_bind (like_num _) fun _ => like_bind (like_want _) fun _ => like_bind (like_field _ _) fun _ => like_bind (like_to _) fun _ => like_bind (like_want _) fun _ => like_pure _
theorem like_body (k : Nat) (c : PC) : LikeM (bodyT k c) := by
  unfold bodyT
  split
  · exact like_part c
  · split
    · exact like_win c
    · split
      · exact like_reg c
      · split
        · exact like_port c
        · exact like_chan c
theorem like_record (n : Nat) (c : PC) : LikeM (recordT n c) := like_then 1 fun t u h1 h2 h3 l k h => by
  by_cases hl : limN n ≤ cntK c n
  · rw [if_pos hl, if_pos hl]; rfl
  · rw [if_neg hl, if_neg hl]
    exact like_bind (like_body n c) (fun _ => like_bind (like_want _) fun _ => like_pure _) l k h
theorem like_records : ∀ f c, LikeM (recordsT f c)
  | 0, c => like_pure c
  | f + 1, c => fun l k h => by
    rcases like_cases h with ⟨rfl, rfl⟩ | ⟨t, r, u, s, rfl, rfl, h1, h2, h3, h4⟩
    · exact ⟨rfl, rfl⟩
    · unfold recordsT
      simp only
      rw [h1, h2]
      by_cases hk : u.kind = 1 ∧ 0 < sectN u.text
      · rw [if_pos hk, if_pos hk]
        have h5 := like_record (sectN u.text) c (t :: r) (u :: s) h
        revert h5
        cases recordT (sectN u.text) c (t :: r) with
        | error e => cases recordT (sectN u.text) c (u :: s) with
          | error e2 => exact id
          | ok y => exact False.elim
        | ok x => cases recordT (sectN u.text) c (u :: s) with
          | error e2 => exact False.elim
          | ok y =>
            obtain ⟨a2, r2⟩ := x
            obtain ⟨b2, s2⟩ := y
            rintro ⟨h6, h7⟩
            subst h6
            exact like_records f a2 r2 s2 h7
      · rw [if_neg hk, if_neg hk]; exact ⟨rfl, h⟩
theorem like_all (c : PC) : LikeM (allRecT c) := fun l k h => by
  unfold allRecT
  rw [like_len h]
  exact like_records _ c l k h
theorem like_module : LikeM moduleT := like_bind (like_want _) fun _ => like_bind (like_want _) fun _ => like_bind (like_field _ _) fun _ => like_bind (like_all _) fun _ => like_bind (like_want _) fun _ => like_pure _
/-- ParseSpaces: the same kinds, texts and values have the same configuration. -/
theorem parse_like {l k : List Token} (h : LikeL l k) {c : PC} (hc : parseT l = .ok c) : parseT k = .ok c := by
  unfold parseT endT at hc ⊢
  have h1 := like_module l k h
  revert hc h1
  cases moduleT l with
  | error e => intro hc; cases hc
  | ok x => cases moduleT k with
    | error e2 => intro _ h; exact h.elim
    | ok y =>
      obtain ⟨a, r⟩ := x
      obtain ⟨b, s⟩ := y
      rintro hc ⟨h1, h2⟩
      subst h1
      simp only at hc ⊢
      rcases like_take 0 h2 with ⟨t, r', u, s', e1, e2, _⟩ | ⟨e, f, e1, e2, _⟩
      · rw [e1] at hc; rw [e2]; exact hc
      · rw [e1] at hc; cases hc
end Go.Proofs.YtdpieljopelkhaaGreatDoor
namespace Go.Proofs.YtdpieljopelkhaaGreatDoor
open Go.Lib
set_option linter.unusedVariables false

theorem lt16 {n : Nat} (h : n ≤ 65535) : n < 65536 := by omega
theorem lt64 {n : Nat} (h : n ≤ topN) : n < 18446744073709551616 := by unfold topN at h; omega
theorem lt32 {n : Nat} (h : n ≤ 4294967295) : n < 4294967296 := by omega
theorem lt8 {n : Nat} (h : n ≤ 7) : n < 256 := by omega
/-- The names among the tokens are short. -/
def Tsz (l : List Token) : Prop := ∀ t ∈ l, t.kind = 3 → t.text.length ≤ 30
def PostO {α : Type} (m : PM α) (P : α → Prop) : Prop := ∀ l a r, Tsz l → m l = .ok (a, r) → Tsz r ∧ P a
theorem tsz_tail {t : Token} {l : List Token} (h : Tsz (t :: l)) : Tsz l := fun u hu => h u (List.mem_cons_of_mem _ hu)
theorem pok_bind {α β : Type} {m : PM α} {f : α → PM β} {P : α → Prop} {Q : β → Prop} (hm : PostO m P) (hf : ∀ a, P a → PostO (f a) Q) : PostO (bindT m f) Q := fun l b r hv h => by
  unfold bindT at h
  cases hx : m l with
  | error e => rw [hx] at h; cases h
  | ok x =>
    obtain ⟨a, s⟩ := x
    rw [hx] at h
    obtain ⟨h1, h2⟩ := hm l a s hv hx
    exact hf a h2 s b r h1 h
theorem pok_pure {α : Type} {a : α} {P : α → Prop} (h : P a) : PostO (pureT a) P := fun l b r hv e => by
  unfold pureT at e
  injection e with e
  injection e with e1 e2
  subst e1 e2
  exact ⟨hv, h⟩
theorem pok_fail {α : Type} (c : Nat) (P : α → Prop) : PostO (failT c : PM α) P := fun l a r _ h => by cases h
theorem pok_err {α : Type} (e : Flt) (P : α → Prop) : PostO (fun _ => .error e : PM α) P := fun l a r _ h => by cases h
theorem pok_want (x : List UInt8) : PostO (wantT x) (fun _ => True) := fun l a r hv h => by
  unfold wantT at h
  cases hi : isT x l with
  | false => rw [hi] at h; cases h
  | true =>
    rw [hi, if_pos rfl] at h
    injection h with h
    injection h with _ h
    subst h
    cases l with
    | nil => exact ⟨hv, trivial⟩
    | cons t l => exact ⟨tsz_tail hv, trivial⟩
theorem pok_take (k : Nat) : PostO (takeT k) (fun t => t.kind = k ∧ (k = 3 → t.text.length ≤ 30)) := fun l a r hv h => by
  cases l with
  | nil => cases h
  | cons t l =>
    rw [takeT_cons] at h
    by_cases hk : t.kind = k
    · rw [if_pos hk] at h
      injection h with h
      injection h with h1 h2
      subst h1 h2
      exact ⟨tsz_tail hv, hk, fun h3 => hv t List.mem_cons_self (hk.trans h3)⟩
    · rw [if_neg hk] at h; cases h
theorem pok_num (most : Nat) : PostO (numT most) (fun n => n ≤ most) := fun l a r hv h => by
  unfold numT at h
  cases hx : takeT 2 l with
  | error e => rw [hx] at h; cases h
  | ok x =>
    obtain ⟨t, s⟩ := x
    rw [hx] at h
    simp only at h
    by_cases hn : t.val ≤ most
    · rw [if_pos hn] at h
      injection h with h
      injection h with h1 h2
      subst h1 h2
      exact ⟨(pok_take 2 l t s hv hx).1, hn⟩
    · rw [if_neg hn] at h; cases h
theorem pok_field (w : List UInt8) (n : Nat) : PostO (fieldT w n) (fun x => x ≤ n) := pok_bind (pok_want w) fun _ _ => pok_bind (pok_num n) fun _ hn => pok_bind (pok_want _) fun _ _ => pok_pure hn
theorem pok_choice (a b : List UInt8) : PostO (choiceT a b) (fun _ => True) := fun l x r hv h => by
  unfold choiceT at h
  cases hi : isT b l with
  | true => rw [hi, if_pos rfl] at h; exact pok_bind (Q := fun _ => True) (pok_want b) (fun _ _ => pok_bind (pok_want _) fun _ _ => pok_pure trivial) l x r hv h
  | false => rw [hi, if_neg (by simp)] at h; exact pok_bind (Q := fun _ => True) (pok_want a) (fun _ _ => pok_bind (pok_want _) fun _ _ => pok_pure trivial) l x r hv h
theorem pok_rights : PostO rightsT (fun r => r ≤ 7) := pok_bind (pok_take 1) fun t _ => by
  cases h : rightsN t.text with
  | none => exact pok_err _ _
  | some r => exact pok_pure (word_rights h).1
theorem pok_dests : ∀ f links, PostO (destsT f links) (fun d => links + d.length ≤ 1024 ∧ ∀ x ∈ d, x < 65536)
  | 0, _ => pok_fail 4 _
  | f + 1, links => fun l a r hv h => by
    unfold destsT at h
    cases hx : numT 65535 l with
    | error e => rw [hx] at h; cases h
    | ok x =>
      obtain ⟨n, s⟩ := x
      rw [hx] at h
      have hs := (pok_num 65535 l n s hv hx).1
      have hn6 := (pok_num 65535 l n s hv hx).2
      simp only at h
      by_cases hl : 1024 ≤ links
      · rw [if_pos hl] at h; cases h
      · rw [if_neg hl] at h
        cases hi : isT [44] s with
        | false =>
          rw [hi, if_neg (by simp)] at h
          injection h with h
          injection h with h1 h2
          subst h1 h2
          exact ⟨hs, by simp; omega, fun x hx => (by rw [List.mem_singleton] at hx; subst hx; exact lt16 hn6)⟩
        | true =>
          rw [hi, if_pos rfl] at h
          cases hd : destsT f (links + 1) s.tail with
          | error e => rw [hd] at h; cases h
          | ok y =>
            obtain ⟨ns, r2⟩ := y
            rw [hd] at h
            simp only at h
            injection h with h
            injection h with h1 h2
            subst h1 h2
            have hs2 : Tsz s.tail := fun u hu => hs u (List.mem_of_mem_tail hu)
            obtain ⟨g1, g2⟩ := pok_dests f (links + 1) s.tail ns r2 hs2 hd
            exact ⟨g1, by simp; omega, fun x hx => (by rcases List.mem_cons.1 hx with rfl | hx; exact lt16 hn6; exact g2.2 x hx)⟩
theorem pok_to (links : Nat) (h0 : links ≤ 1024) : PostO (toT links) (fun d => links + d.length ≤ 1024 ∧ ∀ x ∈ d, x < 65536) := pok_bind (pok_want _) fun _ _ l a r hv h => by
  by_cases hi : isT [59] l = true
  · rw [if_pos hi] at h
    injection h with h
    injection h with h1 h2
    subst h1 h2
    exact ⟨hv, by simpa using h0, by simp⟩
  · rw [if_neg hi] at h
    exact pok_dests _ _ l a r hv h
structure OkC (c : PC) : Prop where
  parts : c.parts.length ≤ 64
  wins : c.wins.length ≤ 1024
  regs : c.regs.length ≤ 1024
  ports : c.ports.length ≤ 1024
  chans : c.chans.length ≤ 512
  links : linksK c.chans ≤ 1024
  okP : ∀ x ∈ c.parts, x.Ok
  okW : ∀ x ∈ c.wins, x.Ok
  okR : ∀ x ∈ c.regs, x.Ok
  okQ : ∀ x ∈ c.ports, x.Ok
  okC : ∀ x ∈ c.chans, x.1 < 65536 ∧ x.2.1 < 65536 ∧ ∀ d ∈ x.2.2, d < 65536
  frame : c.frame < 18446744073709551616
  shortP : ∀ x ∈ c.parts, x.name.size ≤ 30
  shortQ : ∀ x ∈ c.ports, x.name.size ≤ 30
  rights : ∀ x ∈ c.regs, x.rights ≤ 7
theorem nameB_size {l : List UInt8} (h : l.length ≤ 30) : (nameB l).size ≤ 9223372036854775807 := by unfold nameB; simp [ByteArray.size]; omega
theorem nameB_short {l : List UInt8} (h : l.length ≤ 30) : (nameB l).size ≤ 30 := by unfold nameB; simpa [ByteArray.size] using h
theorem mem_snocO {α : Type} {P : α → Prop} {l : List α} {a : α} (h : ∀ x ∈ l, P x) (ha : P a) : ∀ x ∈ l ++ [a], P x := fun x hx => by
  rcases List.mem_append.1 hx with hx | hx
  · exact h x hx
  · rw [List.mem_singleton] at hx; subst hx; exact ha
theorem pok_part {c : PC} (h : OkC c) (hl : c.parts.length < 64) : PostO (partT c) OkC := pok_bind (pok_num _) fun _ h1 => pok_bind (pok_take 3) fun t ht => pok_bind (pok_want _) fun _ _ => pok_bind (pok_field _ _) fun _ h2 => pok_bind (pok_field _ _) fun _ h3 => pok_pure
  ⟨by simp; omega, h.wins, h.regs, h.ports, h.chans, h.links, mem_snocO h.okP ⟨lt16 h1, nameB_size (ht.2 rfl), lt64 h2, lt64 h3⟩, h.okW, h.okR, h.okQ, h.okC, h.frame, mem_snocO h.shortP (nameB_short (ht.2 rfl)), h.shortQ, h.rights⟩
theorem pok_win {c : PC} (h : OkC c) (hl : c.wins.length < 1024) : PostO (winT c) OkC := pok_bind (pok_num _) fun _ h1 => pok_bind (pok_want _) fun _ _ => pok_bind (pok_field _ _) fun _ h2 => pok_bind (pok_field _ _) fun _ h3 => pok_pure
  ⟨h.parts, by simp; omega, h.regs, h.ports, h.chans, h.links, h.okP, mem_snocO h.okW ⟨lt64 h2, lt64 h3, lt16 h1⟩, h.okR, h.okQ, h.okC, h.frame, h.shortP, h.shortQ, h.rights⟩
theorem pok_shared : PostO sharedT (fun _ => True) := fun l a r hv h => by
  unfold sharedT at h
  by_cases hi : isT [115, 104, 97, 114, 101, 100] l = true
  · rw [if_pos hi] at h
    exact pok_bind (Q := fun _ => True) (pok_want _) (fun _ _ => pok_bind (pok_want _) fun _ _ => pok_pure trivial) l a r hv h
  · rw [if_neg hi] at h
    injection h with h
    injection h with h1 h2
    subst h1 h2
    exact ⟨hv, trivial⟩
theorem pok_reg {c : PC} (h : OkC c) (hl : c.regs.length < 1024) : PostO (regT c) OkC := pok_bind (pok_num _) fun _ h1 => pok_bind (pok_want _) fun _ _ => pok_bind (pok_field _ _) fun _ h2 => pok_bind (pok_field _ _) fun _ h3 => pok_bind (pok_want _) fun _ _ => pok_bind pok_rights fun _ hr => pok_bind (pok_want _) fun _ _ => pok_bind pok_shared fun _ _ => pok_pure
  ⟨h.parts, h.wins, by simp; omega, h.ports, h.chans, h.links, h.okP, h.okW, mem_snocO h.okR ⟨lt64 h2, lt64 h3, lt16 h1, lt8 hr⟩, h.okQ, h.okC, h.frame, h.shortP, h.shortQ, mem_snocO h.rights hr⟩
theorem pok_port {c : PC} (h : OkC c) (hl : c.ports.length < 1024) : PostO (portT c) OkC := pok_bind (pok_num _) fun _ h1 => pok_bind (pok_take 3) fun t ht => pok_bind (pok_want _) fun _ _ => pok_bind (pok_field _ _) fun _ h2 => pok_bind (pok_choice _ _) fun _ _ => pok_bind (pok_choice _ _) fun _ _ => pok_bind (pok_field _ _) fun _ h3 => pok_pure
  ⟨h.parts, h.wins, h.regs, by simp; omega, h.chans, h.links, h.okP, h.okW, h.okR, mem_snocO h.okQ ⟨lt16 h1, lt16 h2, nameB_size (ht.2 rfl), lt32 h3⟩, h.okC, h.frame, h.shortP, mem_snocO h.shortQ (nameB_short (ht.2 rfl)), h.rights⟩
theorem pok_chan {c : PC} (h : OkC c) (hl : c.chans.length < 512) : PostO (chanT c) OkC := pok_bind (pok_num _) fun _ h1 => pok_bind (pok_want _) fun _ _ => pok_bind (pok_field _ _) fun _ h2 => pok_bind (pok_to _ h.links) fun d hd => pok_bind (pok_want _) fun _ _ => pok_pure
  ⟨h.parts, h.wins, h.regs, h.ports, by simp; omega, by have := hd.1; unfold linksK at this ⊢; simp; omega, h.okP, h.okW, h.okR, h.okQ, mem_snocO h.okC ⟨lt16 h1, lt16 h2, hd.2⟩, h.frame, h.shortP, h.shortQ, h.rights⟩
theorem pok_record {c : PC} (h : OkC c) {k : Nat} (h1 : 1 ≤ k) (h5 : k ≤ 5) : PostO (recordT k c) OkC := pok_bind (pok_take 1) fun t _ => by
  by_cases hl : limN k ≤ cntK c k
  · rw [if_pos hl]; exact pok_err _ _
  · rw [if_neg hl]
    refine pok_bind (P := OkC) ?_ fun _ h2 => pok_bind (pok_want _) fun _ _ => pok_pure h2
    rcases (show k = 1 ∨ k = 2 ∨ k = 3 ∨ k = 4 ∨ k = 5 by omega) with rfl | rfl | rfl | rfl | rfl
    · exact pok_part h (by have : ¬ 64 ≤ c.parts.length := hl; omega)
    · exact pok_win h (by have : ¬ 1024 ≤ c.wins.length := hl; omega)
    · exact pok_reg h (by have : ¬ 1024 ≤ c.regs.length := hl; omega)
    · exact pok_port h (by have : ¬ 1024 ≤ c.ports.length := hl; omega)
    · exact pok_chan h (by have : ¬ 512 ≤ c.chans.length := hl; omega)
theorem sect_leO (w : List UInt8) : sectN w ≤ 5 := by
  unfold sectN
  repeat (split; omega)
  omega
theorem pok_records : ∀ f {c : PC}, OkC c → PostO (recordsT f c) OkC
  | 0, c, h => pok_pure h
  | f + 1, c, h => fun l a r hv e => by
    cases l with
    | nil =>
      rw [recordsT] at e
      injection e with e
      injection e with e1 e2
      subst e1 e2
      exact ⟨hv, h⟩
    | cons t l =>
      rw [recordsT] at e
      simp only at e
      by_cases hk : t.kind = 1 ∧ 0 < sectN t.text
      · rw [if_pos hk] at e
        cases hx : recordT (sectN t.text) c (t :: l) with
        | error e2 => rw [hx] at e; cases e
        | ok x =>
          obtain ⟨c2, s⟩ := x
          rw [hx] at e
          obtain ⟨h1, h2⟩ := pok_record h hk.2 (sect_leO _) (t :: l) c2 s hv hx
          exact pok_records f h2 s a r h1 e
      · rw [if_neg hk] at e
        injection e with e
        injection e with e1 e2
        subst e1 e2
        exact ⟨hv, h⟩
theorem ok_zero {n : Nat} (h : n < 18446744073709551616) : OkC { zeroPC with frame := n } := ⟨by simp [zeroPC], by simp [zeroPC], by simp [zeroPC], by simp [zeroPC], by simp [zeroPC], by simp [zeroPC, linksK], by simp [zeroPC], by simp [zeroPC], by simp [zeroPC], by simp [zeroPC], by simp [zeroPC], h, by simp [zeroPC], by simp [zeroPC], by simp [zeroPC]⟩
theorem pok_all {c : PC} (h : OkC c) : PostO (allRecT c) OkC := fun l a r hv e => pok_records l.length h l a r hv e
theorem pok_module : PostO moduleT OkC := pok_bind (pok_want _) fun _ _ => pok_bind (pok_want _) fun _ _ => pok_bind (pok_field _ _) fun n hn => pok_bind (pok_all (ok_zero (lt64 hn))) fun _ h => pok_bind (pok_want _) fun _ _ => pok_pure h
theorem endT_ok {m : PM PC} {P : PC → Prop} (hm : PostO m P) {l : List Token} (hv : Tsz l) {c : PC} (h : endT m l = .ok c) : P c := by
  unfold endT at h
  cases hx : m l with
  | error e => rw [hx] at h; cases h
  | ok x =>
    obtain ⟨a, r⟩ := x
    rw [hx] at h
    simp only at h
    have h1 := (hm l a r hv hx).2
    cases hy : takeT 0 r with
    | error e => rw [hy] at h; cases h
    | ok y =>
      rw [hy] at h
      injection h with h
      subst h
      exact h1
theorem parse_okC {l : List Token} (hv : Tsz l) {c : PC} (h : parseT l = .ok c) : OkC c := endT_ok pok_module hv h
theorem parseR_okC {l : List Token} (hv : Tsz l) {c : PC} (h : parseRecT l = .ok c) : OkC c := endT_ok (pok_all (ok_zero (n := 0) (by omega))) hv h
end Go.Proofs.YtdpieljopelkhaaGreatDoor
namespace Go.Proofs.YtdpieljopelkhaaGreatDoor
open Go.Lib
set_option linter.unusedVariables false

section
variable (t E : Token) (q : List Token)
/-- At the end alone: the code 4, or nothing is read. -/
def EndM {α : Type} (m : PM α) : Prop := (∃ e, m [E] = .error e ∧ e.1 = 4) ∨ ∃ a, m [E] = .ok (a, [E])
/-- What is read of a text and of a piece of it: the code 4, the same, or the end is reached. -/
def BrkR {α : Type} (x y : Except Flt (α × List Token)) : Prop := ∀ a r, x = .ok (a, r) → (∃ e, y = .error e ∧ e.1 = 4) ∨ (∃ r0, r = r0 ++ t :: q ∧ y = .ok (a, r0 ++ [E])) ∨ ∃ a', y = .ok (a', [E])
def BrkM {α : Type} (m : PM α) : Prop := EndM E m ∧ ∀ p, BrkR t E q (m (p ++ t :: q)) (m (p ++ [E]))
end
section
variable {t E : Token} {q : List Token}
theorem brk_pure {α : Type} (a : α) : BrkM t E q (pureT a) := ⟨.inr ⟨a, rfl⟩, fun p b r h => by
  injection h with h
  injection h with h1 h2
  subst h1 h2
  exact .inr (.inl ⟨p, rfl, rfl⟩)⟩
theorem brk_bind {α β : Type} {m : PM α} {f : α → PM β} (hm : BrkM t E q m) (hf : ∀ a, BrkM t E q (f a)) : BrkM t E q (bindT m f) := by
  refine ⟨?_, fun p b r h => ?_⟩
  · rcases hm.1 with ⟨e, h1, h2⟩ | ⟨a, h1⟩
    · exact .inl ⟨e, by unfold bindT; rw [h1], h2⟩
    · rcases (hf a).1 with ⟨e, h3, h4⟩ | ⟨b, h3⟩
      · exact .inl ⟨e, by unfold bindT; rw [h1]; exact h3, h4⟩
      · exact .inr ⟨b, by unfold bindT; rw [h1]; exact h3⟩
  · unfold bindT at h
    cases hx : m (p ++ t :: q) with
    | error e => rw [hx] at h; cases h
    | ok x =>
      obtain ⟨a, s⟩ := x
      rw [hx] at h
      rcases hm.2 p a s hx with ⟨e, h1, h2⟩ | ⟨r0, h1, h2⟩ | ⟨a', h1⟩
      · exact .inl ⟨e, by unfold bindT; rw [h1], h2⟩
      · subst h1
        have := (hf a).2 r0 b r h
        have e2 : bindT m f (p ++ [E]) = f a (r0 ++ [E]) := by unfold bindT; rw [h2]
        rw [e2]; exact this
      · have e2 : bindT m f (p ++ [E]) = f a' [E] := by unfold bindT; rw [h1]
        rw [e2]
        rcases (hf a').1 with ⟨e, h3, h4⟩ | ⟨b', h3⟩
        · exact .inl ⟨e, h3, h4⟩
        · exact .inr (.inr ⟨b', h3⟩)
variable (hE : E.kind = 0)
include hE
theorem is_end (x : List UInt8) : isT x [E] = false := by rw [isT_cons, hE]; rfl
theorem brk_want (x : List UInt8) : BrkM t E q (wantT x) := by
  refine ⟨.inl ⟨_, by unfold wantT; rw [is_end hE, if_neg (by simp)]; rfl, rfl⟩, fun p a r h => ?_⟩
  cases p with
  | nil =>
    exact .inl ⟨(4, (headP [E]).1, (headP [E]).2), show wantT x [E] = _ by (unfold wantT; rw [is_end hE, if_neg (by simp)]; rfl), rfl⟩
  | cons u p =>
    refine .inr (.inl ⟨p, ?_⟩)
    unfold wantT at h ⊢
    have e : isT x (u :: p ++ [E]) = isT x (u :: p ++ t :: q) := rfl
    rw [e]
    cases hi : isT x (u :: p ++ t :: q) with
    | false => rw [hi, if_neg (by simp)] at h; cases h
    | true =>
      rw [hi, if_pos rfl] at h
      injection h with h
      injection h with h1 h2
      exact ⟨h2.symm, by rw [if_pos rfl]; rfl⟩
theorem brk_take {k : Nat} (hk : k ≠ 0) : BrkM t E q (takeT k) := by
  have hend : takeT k [E] = .error (4, E.line, E.col) := by rw [takeT_cons, if_neg (by rw [hE]; exact fun e => hk e.symm)]
  refine ⟨.inl ⟨_, hend, rfl⟩, fun p a r h => ?_⟩
  cases p with
  | nil => exact .inl ⟨_, hend, rfl⟩
  | cons u p =>
    rw [List.cons_append, takeT_cons] at h ⊢
    by_cases hu : u.kind = k
    · rw [if_pos hu] at h ⊢
      injection h with h
      injection h with h1 h2
      subst h1
      exact .inr (.inl ⟨p, h2.symm, rfl⟩)
    · rw [if_neg hu] at h; cases h
theorem brk_num (most : Nat) : BrkM t E q (numT most) := by
  have hb := brk_take (t := t) (q := q) hE (k := 2) (by omega)
  have hend : takeT 2 [E] = .error (4, E.line, E.col) := by rw [takeT_cons, if_neg (by rw [hE]; omega)]
  refine ⟨.inl ⟨_, by unfold numT; rw [hend], rfl⟩, fun p a r h => ?_⟩
  unfold numT at h
  cases hx : takeT 2 (p ++ t :: q) with
  | error e => rw [hx] at h; cases h
  | ok x =>
    obtain ⟨u, s⟩ := x
    rw [hx] at h
    simp only at h
    by_cases hn : u.val ≤ most
    · rw [if_pos hn] at h
      injection h with h
      injection h with h1 h2
      subst h1 h2
      unfold numT
      rcases hb.2 p u s hx with ⟨e, g1, g2⟩ | ⟨r0, g1, g2⟩ | ⟨a', g1⟩
      · rw [g1]; exact .inl ⟨e, rfl, g2⟩
      · rw [g2]; simp only; rw [if_pos hn]; exact .inr (.inl ⟨r0, g1, rfl⟩)
      · rw [g1]
        simp only
        by_cases hn2 : a'.val ≤ most
        · rw [if_pos hn2]; exact .inr (.inr ⟨_, rfl⟩)
        · exfalso
          cases p with
          | nil => rw [List.nil_append, hend] at g1; cases g1
          | cons v p =>
            rw [List.cons_append, takeT_cons] at g1 hx
            by_cases hv : v.kind = 2
            · rw [if_pos hv] at g1 hx
              injection g1 with g1
              injection g1 with g3 _
              injection hx with hx
              injection hx with g4 _
              rw [← g3, g4] at hn2
              exact hn2 hn
            · rw [if_neg hv] at hx; cases hx
    · rw [if_neg hn] at h; cases h
theorem brk_field (w : List UInt8) (n : Nat) : BrkM t E q (fieldT w n) := brk_bind (brk_want hE w) fun _ => brk_bind (brk_num hE n) fun _ => brk_bind (brk_want hE _) fun _ => brk_pure _
/-- A choice by the next token. -/
theorem brk_if {α : Type} (x : List UInt8) {m n : PM α} (hm : BrkM t E q m) (hn : BrkM t E q n) : BrkM t E q (fun l => if isT x l then m l else n l) := by
  refine ⟨?_, fun p a r h => ?_⟩
  · show (∃ e, (if isT x [E] = true then m [E] else n [E]) = .error e ∧ e.1 = 4) ∨ ∃ a, (if isT x [E] = true then m [E] else n [E]) = .ok (a, [E])
    rw [is_end hE, if_neg (by simp)]
    exact hn.1
  · cases p with
    | nil =>
      show (∃ e, (if isT x [E] = true then m [E] else n [E]) = .error e ∧ e.1 = 4) ∨ _ ∨ ∃ a, (if isT x [E] = true then m [E] else n [E]) = .ok (a, [E])
      rw [is_end hE, if_neg (by simp)]
      rcases hn.1 with h1 | h1
      · exact .inl h1
      · exact .inr (.inr h1)
    | cons u p =>
      have e : isT x (u :: p ++ [E]) = isT x (u :: p ++ t :: q) := rfl
      simp only at h ⊢
      rw [e]
      cases hi : isT x (u :: p ++ t :: q) with
      | true => rw [hi, if_pos rfl] at h; rw [if_pos rfl]; exact hm.2 (u :: p) a r h
      | false => rw [hi, if_neg (by simp)] at h; rw [if_neg (by simp)]; exact hn.2 (u :: p) a r h
theorem brk_choice (a b : List UInt8) : BrkM t E q (choiceT a b) := brk_if hE b (brk_bind (brk_want hE b) fun _ => brk_bind (brk_want hE _) fun _ => brk_pure _) (brk_bind (brk_want hE a) fun _ => brk_bind (brk_want hE _) fun _ => brk_pure _)
theorem brk_shared : BrkM t E q sharedT := brk_if hE _ (brk_bind (brk_want hE _) fun _ => brk_bind (brk_want hE _) fun _ => brk_pure _) (brk_pure false)
theorem brk_rights : BrkM t E q rightsT := brk_bind (brk_take hE (by omega)) fun u => by
  cases rightsN u.text with
  | some r => exact brk_pure r
  | none => exact ⟨.inl ⟨_, rfl, rfl⟩, fun p a r h => by cases h⟩
theorem brk_dests : ∀ f links, BrkM t E q (destsT f links)
  | 0, links => ⟨.inl ⟨_, rfl, rfl⟩, fun p a r h => by cases h⟩
  | f + 1, links => by
    have hn := brk_num (t := t) (q := q) hE 65535
    refine ⟨?_, fun p a r h => ?_⟩
    · have hend : takeT 2 [E] = .error (4, E.line, E.col) := by rw [takeT_cons, if_neg (by rw [hE]; omega)]
      refine .inl ⟨(4, E.line, E.col), ?_, rfl⟩
      unfold destsT numT
      rw [hend]
    · unfold destsT at h
      cases hx : numT 65535 (p ++ t :: q) with
      | error e => rw [hx] at h; cases h
      | ok x =>
        obtain ⟨n, s⟩ := x
        rw [hx] at h
        simp only at h
        by_cases hl : 1024 ≤ links
        · rw [if_pos hl] at h; cases h
        · rw [if_neg hl] at h
          have stop : ∀ n', numT 65535 (p ++ [E]) = .ok (n', [E]) → destsT (f + 1) links (p ++ [E]) = .ok ([n'], [E]) := fun n' g => by
            unfold destsT
            rw [g]
            simp only
            rw [if_neg hl, is_end hE, if_neg (by simp)]
          rcases hn.2 p n s hx with ⟨e, g1, g2⟩ | ⟨r0, g1, g2⟩ | ⟨n', g1⟩
          · refine .inl ⟨e, ?_, g2⟩
            unfold destsT; rw [g1]
          · subst g1
            cases r0 with
            | nil => exact .inr (.inr ⟨_, stop n g2⟩)
            | cons u r0 =>
              have e : isT [44] (u :: r0 ++ [E]) = isT [44] (u :: r0 ++ t :: q) := rfl
              have e2 : destsT (f + 1) links (p ++ [E]) = if isT [44] (u :: r0 ++ t :: q) = true then (match destsT f (links + 1) (u :: r0 ++ [E]).tail with
                | .error e => .error e
                | .ok (ns, r2) => .ok (n :: ns, r2)) else .ok ([n], u :: r0 ++ [E]) := by
                rw [← e]
                conv => lhs; unfold destsT
                rw [g2]
                simp only
                rw [if_neg hl]
                rfl
              cases hi : isT [44] (u :: r0 ++ t :: q) with
              | false =>
                rw [hi, if_neg (by simp)] at h
                rw [hi, if_neg (by simp)] at e2
                injection h with h
                injection h with h1 h2
                subst h1
                exact .inr (.inl ⟨u :: r0, h2.symm, e2⟩)
              | true =>
                rw [hi, if_pos rfl] at h
                rw [hi, if_pos rfl] at e2
                rw [List.cons_append, List.tail_cons] at h e2
                cases hd : destsT f (links + 1) (r0 ++ t :: q) with
                | error e => rw [hd] at h; cases h
                | ok y =>
                  obtain ⟨ns, r2⟩ := y
                  rw [hd] at h
                  simp only at h
                  injection h with h
                  injection h with h1 h2
                  subst h1 h2
                  rcases (brk_dests f (links + 1)).2 r0 ns r2 hd with ⟨e3, k1, k2⟩ | ⟨r3, k1, k2⟩ | ⟨a3, k1⟩
                  · exact .inl ⟨e3, by rw [e2, k1], k2⟩
                  · exact .inr (.inl ⟨r3, k1, by rw [e2, k2]⟩)
                  · exact .inr (.inr ⟨_, by rw [e2, k1]⟩)
          · exact .inr (.inr ⟨_, stop n' g1⟩)
end
/-! ### How much is read -/
def Shr {α : Type} (m : PM α) : Prop := ∀ l a r, m l = .ok (a, r) → ∃ d, l = d ++ r
theorem shr_bind {α β : Type} {m : PM α} {f : α → PM β} (hm : Shr m) (hf : ∀ a, Shr (f a)) : Shr (bindT m f) := fun l b r h => by
  unfold bindT at h
  cases hx : m l with
  | error e => rw [hx] at h; cases h
  | ok x =>
    obtain ⟨a, s⟩ := x
    rw [hx] at h
    obtain ⟨d1, h1⟩ := hm l a s hx
    obtain ⟨d2, h2⟩ := hf a s b r h
    exact ⟨d1 ++ d2, by rw [h1, h2, List.append_assoc]⟩
theorem shr_pure {α : Type} (a : α) : Shr (pureT a) := fun l b r h => by
  injection h with h
  injection h with h1 h2
  subst h2; exact ⟨[], rfl⟩
theorem take_less {k : Nat} {l r : List Token} {u : Token} (h : takeT k l = .ok (u, r)) : r = l.tail ∧ r.length < l.length := by
  cases l with
  | nil => cases h
  | cons v l =>
    rw [takeT_cons] at h
    by_cases hv : v.kind = k
    · rw [if_pos hv] at h
      injection h with h
      injection h with h1 h2
      subst h2
      exact ⟨rfl, by simp⟩
    · rw [if_neg hv] at h; cases h
theorem num_less {k : Nat} {l r : List Token} {n : Nat} (h : numT k l = .ok (n, r)) : r.length < l.length := by
  unfold numT at h
  cases hx : takeT 2 l with
  | error e => rw [hx] at h; cases h
  | ok x =>
    obtain ⟨u, s⟩ := x
    rw [hx] at h
    simp only at h
    by_cases hn : u.val ≤ k
    · rw [if_pos hn] at h
      injection h with h
      injection h with h1 h2
      subst h2
      exact (take_less hx).2
    · rw [if_neg hn] at h; cases h
theorem sfx_tail {l r : List Token} (h : r = l.tail) : ∃ d, l = d ++ r := by
  cases l with
  | nil => exact ⟨[], h.symm⟩
  | cons u l => exact ⟨[u], by rw [h]; rfl⟩
theorem shr_take (k : Nat) : Shr (takeT k) := fun l a r h => sfx_tail (take_less h).1
theorem num_tail {k : Nat} {l r : List Token} {n : Nat} (h : numT k l = .ok (n, r)) : r = l.tail := by
  unfold numT at h
  cases hx : takeT 2 l with
  | error e => rw [hx] at h; cases h
  | ok x =>
    obtain ⟨u, s⟩ := x
    rw [hx] at h
    simp only at h
    by_cases hn : u.val ≤ k
    · rw [if_pos hn] at h
      injection h with h
      injection h with h1 h2
      subst h2
      exact (take_less hx).1
    · rw [if_neg hn] at h; cases h
theorem shr_num (k : Nat) : Shr (numT k) := fun l a r h => sfx_tail (num_tail h)
theorem shr_want (x : List UInt8) : Shr (wantT x) := fun l a r h => by
  unfold wantT at h
  cases hi : isT x l with
  | false => rw [hi, if_neg (by simp)] at h; cases h
  | true =>
    rw [hi, if_pos rfl] at h
    injection h with h
    injection h with h1 h2
    exact sfx_tail h2.symm
theorem shr_field (w : List UInt8) (n : Nat) : Shr (fieldT w n) := shr_bind (shr_want w) fun _ => shr_bind (shr_num n) fun _ => shr_bind (shr_want _) fun _ => shr_pure _
theorem shr_if {α : Type} (x : List UInt8) {m n : PM α} (hm : Shr m) (hn : Shr n) : Shr (fun l => if isT x l then m l else n l) := fun l a r h => by
  simp only at h
  cases hi : isT x l with
  | true => rw [hi, if_pos rfl] at h; exact hm l a r h
  | false => rw [hi, if_neg (by simp)] at h; exact hn l a r h
theorem shr_choice (a b : List UInt8) : Shr (choiceT a b) := shr_if b (shr_bind (shr_want b) fun _ => shr_bind (shr_want _) fun _ => shr_pure _) (shr_bind (shr_want a) fun _ => shr_bind (shr_want _) fun _ => shr_pure _)
theorem shr_shared : Shr sharedT := shr_if _ (shr_bind (shr_want _) fun _ => shr_bind (shr_want _) fun _ => shr_pure _) (shr_pure false)
theorem shr_rights : Shr rightsT := shr_bind (shr_take 1) fun u => by
  cases rightsN u.text with
  | some r => exact shr_pure r
  | none => exact fun l a r h => by cases h
theorem shr_dests : ∀ f links, Shr (destsT f links)
  | 0, links => fun l a r h => by cases h
  | f + 1, links => fun l a r h => by
    unfold destsT at h
    cases hx : numT 65535 l with
    | error e => rw [hx] at h; cases h
    | ok x =>
      obtain ⟨n, s⟩ := x
      rw [hx] at h
      obtain ⟨d1, h1⟩ := shr_num 65535 l n s hx
      simp only at h
      by_cases hl : 1024 ≤ links
      · rw [if_pos hl] at h; cases h
      · rw [if_neg hl] at h
        cases hi : isT [44] s with
        | false =>
          rw [hi, if_neg (by simp)] at h
          injection h with h
          injection h with _ h2
          subst h2; exact ⟨d1, h1⟩
        | true =>
          rw [hi, if_pos rfl] at h
          cases hd : destsT f (links + 1) s.tail with
          | error e => rw [hd] at h; cases h
          | ok y =>
            obtain ⟨ns, r2⟩ := y
            rw [hd] at h
            simp only at h
            injection h with h
            injection h with _ h2
            subst h2
            obtain ⟨d2, h3⟩ := shr_dests f (links + 1) s.tail ns r2 hd
            obtain ⟨d3, h4⟩ := sfx_tail (l := s) (r := s.tail) rfl
            exact ⟨d1 ++ (d3 ++ d2), by rw [h1]; conv => lhs; rw [h4, h3]
                                        simp⟩
theorem shr_to (links : Nat) : Shr (toT links) := shr_bind (shr_want _) fun _ l a r h => by
  by_cases hi : isT [59] l = true
  · rw [if_pos hi] at h
    injection h with h
    injection h with _ h2
    subst h2; exact ⟨[], rfl⟩
  · rw [if_neg hi] at h
    exact shr_dests _ _ l a r h
theorem shr_body (k : Nat) (c : PC) : Shr (bodyT k c) := by
  unfold bodyT
  split
  · exact shr_bind (shr_num _) fun _ => shr_bind (shr_take 3) fun _ => shr_bind (shr_want _) fun _ => shr_bind (shr_field _ _) fun _ => shr_bind (shr_field _ _) fun _ => shr_pure _
  · split
    · exact shr_bind (shr_num _) fun _ => shr_bind (shr_want _) fun _ => shr_bind (shr_field _ _) fun _ => shr_bind (shr_field _ _) fun _ => shr_pure _
    · split
      · exact shr_bind (shr_num _) fun _ => shr_bind (shr_want _) fun _ => shr_bind (shr_field _ _) fun _ => shr_bind (shr_field _ _) fun _ => shr_bind (shr_want _) fun _ => shr_bind shr_rights fun _ => shr_bind (shr_want _) fun _ => shr_bind shr_shared fun _ => shr_pure _
      · split
        · exact shr_bind (shr_num _) fun _ => shr_bind (shr_take 3) fun _ => shr_bind (shr_want _) fun _ => shr_bind (shr_field _ _) fun _ => shr_bind (shr_choice _ _) fun _ => shr_bind (shr_choice _ _) fun _ => shr_bind (shr_field _ _) fun _ => shr_pure _
        · exact shr_bind (shr_num _) fun _ => shr_bind (shr_want _) fun _ => shr_bind (shr_field _ _) fun _ => shr_bind (shr_to _) fun _ => shr_bind (shr_want _) fun _ => shr_pure _
theorem record_less {k : Nat} {c c2 : PC} {l r : List Token} (h : recordT k c l = .ok (c2, r)) : r.length < l.length := by
  unfold recordT bindT at h
  cases hx : takeT 1 l with
  | error e => rw [hx] at h; cases h
  | ok x =>
    obtain ⟨u, s⟩ := x
    rw [hx] at h
    simp only at h
    have h1 := (take_less hx).2
    by_cases hl : limN k ≤ cntK c k
    · rw [if_pos hl] at h; cases h
    · rw [if_neg hl] at h
      obtain ⟨d, hd⟩ := shr_bind (shr_body k c) (fun c2 => shr_bind (shr_want [125]) fun _ => shr_pure c2) s c2 r h
      rw [hd] at h1
      simp at h1
      omega
/-! ### Rounds enough -/
theorem dests_fuel : ∀ f g links l, l.length ≤ f → l.length ≤ g → destsT f links l = destsT g links l
  | 0, 0, links, l, _, _ => rfl
  | 0, g + 1, links, l, h, _ => by
    have : l = [] := List.eq_nil_of_length_eq_zero (by omega)
    subst this; rfl
  | f + 1, 0, links, l, _, h => by
    have : l = [] := List.eq_nil_of_length_eq_zero (by omega)
    subst this; rfl
  | f + 1, g + 1, links, l, hf, hg => by
    unfold destsT
    cases hx : numT 65535 l with
    | error e => rfl
    | ok x =>
      obtain ⟨n, s⟩ := x
      have h1 := num_less hx
      have h2 : s.tail.length ≤ s.length := by simp
      simp only
      rw [dests_fuel f g (links + 1) s.tail (by omega) (by omega)]
theorem records_fuel : ∀ f g c l, l.length ≤ f → l.length ≤ g → recordsT f c l = recordsT g c l
  | 0, 0, c, l, _, _ => rfl
  | 0, g + 1, c, l, h, _ => by
    have : l = [] := List.eq_nil_of_length_eq_zero (by omega)
    subst this; rfl
  | f + 1, 0, c, l, _, h => by
    have : l = [] := List.eq_nil_of_length_eq_zero (by omega)
    subst this; rfl
  | f + 1, g + 1, c, l, hf, hg => by
    cases l with
    | nil => rfl
    | cons u l =>
      rw [recordsT, recordsT]
      simp only
      by_cases hk : u.kind = 1 ∧ 0 < sectN u.text
      · rw [if_pos hk, if_pos hk]
        cases hx : recordT (sectN u.text) c (u :: l) with
        | error e => rfl
        | ok x =>
          obtain ⟨c2, s⟩ := x
          have h1 := record_less hx
          simp only
          exact records_fuel f g c2 s (by omega) (by omega)
      · rw [if_neg hk, if_neg hk]
theorem want_ok {l r : List Token} {x : List UInt8} (h : wantT x l = .ok ((), r)) : isT x l = true ∧ r = l.tail := by
  unfold wantT at h
  cases hi : isT x l with
  | false => rw [hi, if_neg (by simp)] at h; cases h
  | true =>
    rw [hi, if_pos rfl] at h
    injection h with h
    injection h with h1 h2
    exact ⟨rfl, h2.symm⟩
theorem bind_assoc {α β γ : Type} (m : PM α) (f : α → PM β) (g : β → PM γ) : bindT (bindT m f) g = bindT m (fun a => bindT (f a) g) := by
  funext l
  unfold bindT
  cases m l with
  | error e => rfl
  | ok x => rfl
def frontT : PM PC := bindT (wantT [109, 111, 100, 117, 108, 101]) fun _ => bindT (wantT [123]) fun _ => bindT (fieldT [102, 114, 97, 109, 101] topN) fun n => allRecT { zeroPC with frame := n }
theorem module_front : moduleT = bindT frontT (fun c => bindT (wantT [125]) fun _ => pureT c) := by
  unfold moduleT frontT
  simp only [bind_assoc]
theorem shr_record (k : Nat) (c : PC) : Shr (recordT k c) := shr_bind (shr_take 1) fun u => by
  by_cases hl : limN k ≤ cntK c k
  · rw [if_pos hl]; exact fun l a r h => by cases h
  · rw [if_neg hl]; exact shr_bind (shr_body k c) fun _ => shr_bind (shr_want _) fun _ => shr_pure _
theorem shr_records : ∀ f c, Shr (recordsT f c)
  | 0, c => shr_pure c
  | f + 1, c => fun l a r h => by
    cases l with
    | nil =>
      rw [recordsT] at h
      injection h with h
      injection h with _ h2
      exact ⟨[], h2⟩
    | cons u l =>
      rw [recordsT] at h
      simp only at h
      by_cases hk : u.kind = 1 ∧ 0 < sectN u.text
      · rw [if_pos hk] at h
        cases hx : recordT (sectN u.text) c (u :: l) with
        | error e => rw [hx] at h; cases h
        | ok x =>
          obtain ⟨c2, s⟩ := x
          rw [hx] at h
          obtain ⟨d1, h1⟩ := shr_record _ _ _ _ _ hx
          obtain ⟨d2, h2⟩ := shr_records f c2 s a r h
          exact ⟨d1 ++ d2, by rw [h1, h2, List.append_assoc]⟩
      · rw [if_neg hk] at h
        injection h with h
        injection h with _ h2
        exact ⟨[], h2⟩
theorem shr_all (c : PC) : Shr (allRecT c) := fun l a r h => shr_records _ c l a r h
section
variable {t E : Token} {q : List Token} (hE : E.kind = 0)
include hE
theorem brk_to (links : Nat) : BrkM t E q (toT links) := brk_bind (brk_want hE _) fun _ => by
  refine brk_if hE [59] (brk_pure []) ⟨?_, fun p a r h => ?_⟩
  · exact (brk_dests (t := t) (q := q) hE 1 links).1
  · have e1 := dests_fuel (p ++ t :: q).length ((p ++ t :: q).length + 1) links (p ++ t :: q) (Nat.le_refl _) (by omega)
    have e2 := dests_fuel (p ++ [E]).length ((p ++ t :: q).length + 1) links (p ++ [E]) (Nat.le_refl _) (by simp)
    have h2 : destsT (p ++ t :: q).length links (p ++ t :: q) = .ok (a, r) := h
    rw [e1] at h2
    show (∃ e, destsT (p ++ [E]).length links (p ++ [E]) = .error e ∧ e.1 = 4) ∨ (∃ r0, r = r0 ++ t :: q ∧ destsT (p ++ [E]).length links (p ++ [E]) = .ok (a, r0 ++ [E])) ∨ ∃ a', destsT (p ++ [E]).length links (p ++ [E]) = .ok (a', [E])
    rw [e2]
    exact (brk_dests hE _ links).2 p a r h2
theorem brk_body (k : Nat) (c : PC) : BrkM t E q (bodyT k c) := by
  unfold bodyT
  split
  · exact brk_bind (brk_num hE _) fun _ => brk_bind (brk_take hE (by omega)) fun _ => brk_bind (brk_want hE _) fun _ => brk_bind (brk_field hE _ _) fun _ => brk_bind (brk_field hE _ _) fun _ => brk_pure _
  · split
    · exact brk_bind (brk_num hE _) fun _ => brk_bind (brk_want hE _) fun _ => brk_bind (brk_field hE _ _) fun _ => brk_bind (brk_field hE _ _) fun _ => brk_pure _
    · split
      · exact brk_bind (brk_num hE _) fun _ => brk_bind (brk_want hE _) fun _ => brk_bind (brk_field hE _ _) fun _ => brk_bind (brk_field hE _ _) fun _ => brk_bind (brk_want hE _) fun _ => brk_bind (brk_rights hE) fun _ => brk_bind (brk_want hE _) fun _ => brk_bind (brk_shared hE) fun _ => brk_pure _
      · split
        · exact brk_bind (brk_num hE _) fun _ => brk_bind (brk_take hE (by omega)) fun _ => brk_bind (brk_want hE _) fun _ => brk_bind (brk_field hE _ _) fun _ => brk_bind (brk_choice hE _ _) fun _ => brk_bind (brk_choice hE _ _) fun _ => brk_bind (brk_field hE _ _) fun _ => brk_pure _
        · exact brk_bind (brk_num hE _) fun _ => brk_bind (brk_want hE _) fun _ => brk_bind (brk_field hE _ _) fun _ => brk_bind (brk_to hE _) fun _ => brk_bind (brk_want hE _) fun _ => brk_pure _
theorem brk_record (k : Nat) (c : PC) : BrkM t E q (recordT k c) := by
  by_cases hl : limN k ≤ cntK c k
  · have hend : takeT 1 [E] = .error (4, E.line, E.col) := by rw [takeT_cons, if_neg (by rw [hE]; omega)]
    refine ⟨.inl ⟨_, by unfold recordT bindT; rw [hend], rfl⟩, fun p a r h => ?_⟩
    exfalso
    unfold recordT bindT at h
    cases hx : takeT 1 (p ++ t :: q) with
    | error e => rw [hx] at h; cases h
    | ok x =>
      rw [hx] at h
      simp only at h
      rw [if_pos hl] at h; cases h
  · unfold recordT
    refine brk_bind (brk_take hE (by omega)) fun u => ?_
    rw [if_neg hl]
    exact brk_bind (brk_body hE k c) fun _ => brk_bind (brk_want hE _) fun _ => brk_pure _
theorem rec_end (f : Nat) (c : PC) : recordsT f c [E] = .ok (c, [E]) := by
  cases f with
  | zero => rfl
  | succ f =>
    rw [recordsT]
    simp only
    rw [if_neg (by rw [hE]; omega)]
theorem brk_records : ∀ f c, BrkM t E q (recordsT f c)
  | 0, c => brk_pure c
  | f + 1, c => by
    refine ⟨.inr ⟨c, rec_end hE _ c⟩, fun p a r h => ?_⟩
    cases p with
    | nil => exact .inr (.inr ⟨c, rec_end hE _ c⟩)
    | cons u p =>
      rw [List.cons_append, recordsT] at h ⊢
      simp only at h ⊢
      by_cases hk : u.kind = 1 ∧ 0 < sectN u.text
      · rw [if_pos hk] at h ⊢
        cases hx : recordT (sectN u.text) c (u :: (p ++ t :: q)) with
        | error e => rw [hx] at h; cases h
        | ok x =>
          obtain ⟨c2, s⟩ := x
          rw [hx] at h
          simp only at h
          rcases (brk_record hE (sectN u.text) c).2 (u :: p) c2 s hx with ⟨e, g1, g2⟩ | ⟨r0, g1, g2⟩ | ⟨a', g1⟩
          · rw [List.cons_append] at g1
            exact .inl ⟨e, by rw [g1], g2⟩
          · rw [List.cons_append] at g2
            rw [g2]
            subst g1
            exact (brk_records f c2).2 r0 a r h
          · rw [List.cons_append] at g1
            rw [g1]
            exact .inr (.inr ⟨a', rec_end hE f a'⟩)
      · rw [if_neg hk] at h ⊢
        injection h with h
        injection h with h1 h2
        subst h1
        exact .inr (.inl ⟨u :: p, h2.symm, rfl⟩)
theorem brk_all (c : PC) : BrkM t E q (allRecT c) := by
  refine ⟨.inr ⟨c, rec_end hE _ c⟩, fun p a r h => ?_⟩
  unfold allRecT at h ⊢
  have e1 := records_fuel (p ++ t :: q).length ((p ++ t :: q).length + 1) c (p ++ t :: q) (Nat.le_refl _) (by omega)
  have e2 := records_fuel (p ++ [E]).length ((p ++ t :: q).length + 1) c (p ++ [E]) (Nat.le_refl _) (by simp)
  rw [e1] at h
  rw [e2]
  exact (brk_records hE _ c).2 p a r h
/-- ParseBreaks: a text with a configuration that is cut off ahead of one of its tokens is rejected with the code 4. -/
theorem parse_brk {p : List Token} {c : PC} (ht : t.kind ≠ 0) (hp : ∀ u ∈ p, u.kind ≠ 0) (h : parseT (p ++ t :: q) = .ok c) : ∃ e, parseT (p ++ [E]) = .error e ∧ e.1 = 4 := by
  have hb : BrkM t E q frontT := brk_bind (brk_want hE _) fun _ => brk_bind (brk_want hE _) fun _ => brk_bind (brk_field hE _ _) fun _ => brk_all hE _
  have hs : Shr frontT := shr_bind (shr_want _) fun _ => shr_bind (shr_want _) fun _ => shr_bind (shr_field _ _) fun _ => shr_all _
  have stop : ∀ a', frontT (p ++ [E]) = .ok (a', [E]) → ∃ e, parseT (p ++ [E]) = .error e ∧ e.1 = 4 := fun a' g => by
    refine ⟨(4, E.line, E.col), ?_, rfl⟩
    unfold parseT endT
    rw [module_front]
    have h1 : bindT frontT (fun c => bindT (wantT [125]) fun _ => pureT c) (p ++ [E]) = .error (4, E.line, E.col) := by
      conv => lhs; unfold bindT
      rw [g]
      show bindT (wantT [125]) (fun _ => pureT a') [E] = _
      unfold bindT wantT
      rw [is_end hE, if_neg (by simp)]
      rfl
    rw [h1]
  unfold parseT endT at h
  rw [module_front] at h
  cases hx : frontT (p ++ t :: q) with
  | error e =>
    rw [show bindT frontT (fun c => bindT (wantT [125]) fun _ => pureT c) (p ++ t :: q) = .error e by (conv => lhs; unfold bindT); rw [hx]] at h
    cases h
  | ok x =>
    obtain ⟨c2, s⟩ := x
    have h2 : bindT frontT (fun c => bindT (wantT [125]) fun _ => pureT c) (p ++ t :: q) = bindT (wantT [125]) (fun _ => pureT c2) s := by
      conv => lhs; unfold bindT
      rw [hx]
      rfl
    rw [h2] at h
    rcases hb.2 p c2 s hx with ⟨e, g1, g2⟩ | ⟨r0, g1, g2⟩ | ⟨a', g1⟩
    · refine ⟨e, ?_, g2⟩
      unfold parseT endT
      rw [module_front]
      rw [show bindT frontT (fun c => bindT (wantT [125]) fun _ => pureT c) (p ++ [E]) = .error e by (conv => lhs; unfold bindT); rw [g1]]
    · subst g1
      obtain ⟨d, hd⟩ := hs _ _ _ hx
      have hpd : p = d ++ r0 := by
        have : p ++ t :: q = (d ++ r0) ++ t :: q := by rw [hd]; simp
        exact List.append_cancel_right this
      cases r0 with
      | nil => exact stop c2 g2
      | cons v r1 =>
        exfalso
        unfold bindT at h
        cases hw : wantT [125] (v :: r1 ++ t :: q) with
        | error e => rw [hw] at h; cases h
        | ok y =>
          obtain ⟨_, s2⟩ := y
          rw [hw] at h
          have h3 := (want_ok hw).2
          subst h3
          simp only [pureT, List.cons_append, List.tail_cons] at h
          cases r1 with
          | nil => rw [List.nil_append, takeT_cons, if_neg ht] at h; cases h
          | cons u r1 =>
            have hu : u.kind ≠ 0 := hp u (by rw [hpd]; simp)
            rw [List.cons_append, takeT_cons, if_neg hu] at h; cases h
    · exact stop a' g1
end
end Go.Proofs.YtdpieljopelkhaaGreatDoor
namespace Go.Proofs.YtdpieljopelkhaaGreatDoor
open Go.Lib
set_option linter.unusedVariables false

section
variable (E B : Token) (q : List Token)
/-- What is read ahead of the end is read ahead of a bracket as well. -/
def Ext {α : Type} (m : PM α) : Prop := ∀ p a r, m (p ++ [E]) = .ok (a, r) → ∃ r0, r = r0 ++ [E] ∧ m (p ++ B :: q) = .ok (a, r0 ++ B :: q)
end
section
variable {E B : Token} {q : List Token}
theorem ext_pure {α : Type} (a : α) : Ext E B q (pureT a) := fun p b r h => by
  injection h with h
  injection h with h1 h2
  subst h1
  exact ⟨p, h2.symm, rfl⟩
theorem ext_bind {α β : Type} {m : PM α} {f : α → PM β} (hm : Ext E B q m) (hf : ∀ a, Ext E B q (f a)) : Ext E B q (bindT m f) := fun p b r h => by
  unfold bindT at h
  cases hx : m (p ++ [E]) with
  | error e => rw [hx] at h; cases h
  | ok x =>
    obtain ⟨a, s⟩ := x
    rw [hx] at h
    obtain ⟨r0, h1, h2⟩ := hm p a s hx
    subst h1
    obtain ⟨r1, h3, h4⟩ := hf a r0 b r h
    exact ⟨r1, h3, by unfold bindT; rw [h2]; exact h4⟩
theorem ext_err {α : Type} (e : Flt) : Ext E B q (fun _ => .error e : PM α) := fun p a r h => by cases h
variable (hE : E.kind = 0)
include hE
theorem ext_want (x : List UInt8) : Ext E B q (wantT x) := fun p a r h => by
  obtain ⟨h1, h2⟩ := want_ok h
  cases p with
  | nil => rw [List.nil_append, is_end hE] at h1; cases h1
  | cons u p =>
    refine ⟨p, h2, ?_⟩
    have e : isT x (u :: p ++ B :: q) = true := h1
    unfold wantT
    rw [e, if_pos rfl]
    rfl
theorem ext_take {k : Nat} (hk : k ≠ 0) : Ext E B q (takeT k) := fun p a r h => by
  cases p with
  | nil => rw [List.nil_append, takeT_cons, if_neg (by rw [hE]; exact fun e => hk e.symm)] at h; cases h
  | cons u p =>
    rw [List.cons_append, takeT_cons] at h ⊢
    by_cases hu : u.kind = k
    · rw [if_pos hu] at h ⊢
      injection h with h
      injection h with h1 h2
      subst h1
      exact ⟨p, h2.symm, rfl⟩
    · rw [if_neg hu] at h; cases h
theorem ext_num (n : Nat) : Ext E B q (numT n) := fun p a r h => by
  unfold numT at h ⊢
  cases hx : takeT 2 (p ++ [E]) with
  | error e => rw [hx] at h; cases h
  | ok x =>
    obtain ⟨u, s⟩ := x
    rw [hx] at h
    simp only at h
    obtain ⟨r0, h1, h2⟩ := ext_take (B := B) (q := q) hE (k := 2) (by omega) p u s hx
    rw [h2]
    simp only
    by_cases hn : u.val ≤ n
    · rw [if_pos hn] at h ⊢
      injection h with h
      injection h with h3 h4
      subst h3
      exact ⟨r0, by rw [← h4, h1], rfl⟩
    · rw [if_neg hn] at h; cases h
theorem ext_field (w : List UInt8) (n : Nat) : Ext E B q (fieldT w n) := ext_bind (ext_want hE w) fun _ => ext_bind (ext_num hE n) fun _ => ext_bind (ext_want hE _) fun _ => ext_pure _
variable (hB : B.text = [125])
include hB
omit hE in
theorem is_bracket {x : List UInt8} (hx : x ≠ [125]) : isT x (B :: q) = false := by
  rw [isT_cons, hB]
  have : (([125] : List UInt8) == x) = false := by rw [beq_eq_false_iff_ne]; exact fun e => hx e.symm
  rw [this]; simp
theorem ext_if {α : Type} {x : List UInt8} (hx : x ≠ [125]) {m n : PM α} (hm : Ext E B q m) (hn : Ext E B q n) : Ext E B q (fun l => if isT x l then m l else n l) := fun p a r h => by
  cases p with
  | nil =>
    simp only [List.nil_append] at h ⊢
    rw [is_end hE, if_neg (by simp)] at h
    rw [is_bracket hB hx, if_neg (by simp)]
    exact hn [] a r h
  | cons u p =>
    have e : isT x (u :: p ++ B :: q) = isT x (u :: p ++ [E]) := rfl
    simp only at h ⊢
    rw [e]
    cases hi : isT x (u :: p ++ [E]) with
    | true => rw [hi, if_pos rfl] at h; rw [if_pos rfl]; exact hm (u :: p) a r h
    | false => rw [hi, if_neg (by simp)] at h; rw [if_neg (by simp)]; exact hn (u :: p) a r h
theorem ext_choice (a : List UInt8) {b : List UInt8} (hb : b ≠ [125]) : Ext E B q (choiceT a b) := ext_if hE hB hb (ext_bind (ext_want hE b) fun _ => ext_bind (ext_want hE _) fun _ => ext_pure _) (ext_bind (ext_want hE a) fun _ => ext_bind (ext_want hE _) fun _ => ext_pure _)
theorem ext_shared : Ext E B q sharedT := ext_if hE hB (by decide) (ext_bind (ext_want hE _) fun _ => ext_bind (ext_want hE _) fun _ => ext_pure _) (ext_pure false)
omit hB in
theorem ext_rights : Ext E B q rightsT := ext_bind (ext_take hE (by omega)) fun u => by
  cases rightsN u.text with
  | some r => exact ext_pure r
  | none => exact ext_err _
theorem ext_dests : ∀ f links, Ext E B q (destsT f links)
  | 0, links => fun p a r h => by cases h
  | f + 1, links => fun p a r h => by
    unfold destsT at h ⊢
    cases hx : numT 65535 (p ++ [E]) with
    | error e => rw [hx] at h; cases h
    | ok x =>
      obtain ⟨n, s⟩ := x
      rw [hx] at h
      obtain ⟨r0, h1, h2⟩ := ext_num (B := B) (q := q) hE 65535 p n s hx
      subst h1
      rw [h2]
      simp only at h ⊢
      by_cases hl : 1024 ≤ links
      · rw [if_pos hl] at h; cases h
      · rw [if_neg hl] at h ⊢
        have h3 : isT [44] (r0 ++ B :: q) = isT [44] (r0 ++ [E]) := by
          cases r0 with
          | nil => rw [List.nil_append, List.nil_append, is_end hE, is_bracket hB (by decide)]
          | cons u r0 => rfl
        rw [h3]
        cases hi : isT [44] (r0 ++ [E]) with
        | false =>
          rw [hi, if_neg (by simp)] at h
          rw [if_neg (by simp)]
          injection h with h
          injection h with h4 h5
          subst h4
          exact ⟨r0, h5.symm, rfl⟩
        | true =>
          cases r0 with
          | nil => rw [List.nil_append, is_end hE] at hi; cases hi
          | cons u r0 =>
            rw [hi, if_pos rfl] at h
            rw [if_pos rfl]
            rw [List.cons_append, List.tail_cons] at h ⊢
            cases hd : destsT f (links + 1) (r0 ++ [E]) with
            | error e => rw [hd] at h; cases h
            | ok y =>
              obtain ⟨ns, r2⟩ := y
              rw [hd] at h
              simp only at h
              injection h with h
              injection h with h4 h5
              subst h4
              obtain ⟨r3, k1, k2⟩ := ext_dests f (links + 1) r0 ns r2 hd
              exact ⟨r3, by rw [← h5, k1], by rw [k2]⟩
theorem ext_to (links : Nat) : Ext E B q (toT links) := ext_bind (ext_want hE _) fun _ => by
  refine ext_if hE hB (x := [59]) (by decide) (ext_pure []) (fun p a r h => ?_)
  have e1 := dests_fuel (p ++ [E]).length ((p ++ B :: q).length) links (p ++ [E]) (Nat.le_refl _) (by simp)
  have h2 : destsT (p ++ [E]).length links (p ++ [E]) = .ok (a, r) := h
  rw [e1] at h2
  exact ext_dests hE hB _ links p a r h2
theorem ext_body (k : Nat) (c : PC) : Ext E B q (bodyT k c) := by
  unfold bodyT
  split
  · exact ext_bind (ext_num hE _) fun _ => ext_bind (ext_take hE (by omega)) fun _ => ext_bind (ext_want hE _) fun _ => ext_bind (ext_field hE _ _) fun _ => ext_bind (ext_field hE _ _) fun _ => ext_pure _
  · split
    · exact ext_bind (ext_num hE _) fun _ => ext_bind (ext_want hE _) fun _ => ext_bind (ext_field hE _ _) fun _ => ext_bind (ext_field hE _ _) fun _ => ext_pure _
    · split
      · exact ext_bind (ext_num hE _) fun _ => ext_bind (ext_want hE _) fun _ => ext_bind (ext_field hE _ _) fun _ => ext_bind (ext_field hE _ _) fun _ => ext_bind (ext_want hE _) fun _ => ext_bind (ext_rights hE) fun _ => ext_bind (ext_want hE _) fun _ => ext_bind (ext_shared hE hB) fun _ => ext_pure _
      · split
        · exact ext_bind (ext_num hE _) fun _ => ext_bind (ext_take hE (by omega)) fun _ => ext_bind (ext_want hE _) fun _ => ext_bind (ext_field hE _ _) fun _ => ext_bind (ext_choice hE hB _ (by decide)) fun _ => ext_bind (ext_choice hE hB _ (by decide)) fun _ => ext_bind (ext_field hE _ _) fun _ => ext_pure _
        · exact ext_bind (ext_num hE _) fun _ => ext_bind (ext_want hE _) fun _ => ext_bind (ext_field hE _ _) fun _ => ext_bind (ext_to hE hB _) fun _ => ext_bind (ext_want hE _) fun _ => ext_pure _
theorem ext_record (k : Nat) (c : PC) : Ext E B q (recordT k c) := ext_bind (ext_take hE (by omega)) fun u => by
  by_cases hl : limN k ≤ cntK c k
  · rw [if_pos hl]; exact ext_err _
  · rw [if_neg hl]; exact ext_bind (ext_body hE hB k c) fun _ => ext_bind (ext_want hE _) fun _ => ext_pure _
variable (hK : B.kind = 4)
include hK
theorem ext_records : ∀ f c, Ext E B q (recordsT f c)
  | 0, c => ext_pure c
  | f + 1, c => fun p a r h => by
    cases p with
    | nil =>
      rw [List.nil_append, rec_end hE] at h
      injection h with h
      injection h with h1 h2
      subst h1
      refine ⟨[], h2.symm, ?_⟩
      rw [List.nil_append, recordsT]
      simp only
      rw [if_neg (by rw [hK]; omega)]
    | cons u p =>
      rw [List.cons_append, recordsT] at h ⊢
      simp only at h ⊢
      by_cases hk : u.kind = 1 ∧ 0 < sectN u.text
      · rw [if_pos hk] at h ⊢
        cases hx : recordT (sectN u.text) c (u :: (p ++ [E])) with
        | error e => rw [hx] at h; cases h
        | ok x =>
          obtain ⟨c2, s⟩ := x
          rw [hx] at h
          simp only at h
          obtain ⟨r0, g1, g2⟩ := ext_record (q := q) hE hB (sectN u.text) c (u :: p) c2 s hx
          subst g1
          rw [List.cons_append] at g2
          rw [g2]
          exact ext_records f c2 r0 a r h
      · rw [if_neg hk] at h ⊢
        injection h with h
        injection h with h1 h2
        subst h1
        exact ⟨u :: p, by rw [← h2]; rfl, rfl⟩
theorem ext_all (c : PC) : Ext E B q (allRecT c) := fun p a r h => by
  have e1 := records_fuel (p ++ [E]).length ((p ++ B :: q).length) c (p ++ [E]) (Nat.le_refl _) (by simp)
  unfold allRecT at h ⊢
  rw [e1] at h
  exact ext_records hE hB hK _ c p a r h
end
/-! ### The frame does not matter to the records -/
def setF (n : Nat) (c : PC) : PC := { c with frame := n }
def mapT {α β : Type} (g : α → β) (m : PM α) : PM β := bindT m fun a => pureT (g a)
theorem map_bind {α β γ : Type} (g : β → γ) (m : PM α) (f : α → PM β) : mapT g (bindT m f) = bindT m fun a => mapT g (f a) := by unfold mapT; rw [bind_assoc]
theorem map_pure {α β : Type} (g : α → β) (a : α) : mapT g (pureT a) = pureT (g a) := rfl
theorem body_frame (k n : Nat) (c : PC) : bodyT k (setF n c) = mapT (setF n) (bodyT k c) := by
  unfold bodyT
  split
  · unfold partT; simp only [map_bind, map_pure]; rfl
  · split
    · unfold winT; simp only [map_bind, map_pure]; rfl
    · split
      · unfold regT; simp only [map_bind, map_pure]; rfl
      · split
        · unfold portT; simp only [map_bind, map_pure]; rfl
        · unfold chanT; simp only [map_bind, map_pure]; rfl
theorem record_frame (k n : Nat) (c : PC) : recordT k (setF n c) = mapT (setF n) (recordT k c) := by
  unfold recordT
  rw [map_bind]
  congr 1
  funext u
  have e : cntK (setF n c) k = cntK c k := rfl
  rw [e]
  by_cases hl : limN k ≤ cntK c k
  · rw [if_pos hl, if_pos hl]; rfl
  · rw [if_neg hl, if_neg hl, body_frame]
    simp only [map_bind, map_pure]
    unfold mapT
    rw [bind_assoc]
    rfl
theorem records_frame (n : Nat) : ∀ f (c : PC) (l : List Token), recordsT f (setF n c) l = mapT (setF n) (recordsT f c) l
  | 0, c, l => rfl
  | f + 1, c, l => by
    cases l with
    | nil => rfl
    | cons u l =>
      unfold mapT
      conv => rhs; unfold bindT
      rw [recordsT, recordsT]
      simp only
      by_cases hk : u.kind = 1 ∧ 0 < sectN u.text
      · rw [if_pos hk, if_pos hk, record_frame]
        conv => lhs; unfold mapT bindT
        cases recordT (sectN u.text) c (u :: l) with
        | error e => rfl
        | ok x =>
          obtain ⟨c2, s⟩ := x
          show recordsT f (setF n c2) s = _
          rw [records_frame n f c2 s]
          rfl
      · rw [if_neg hk, if_neg hk]; rfl
/-- ParseRecords: within a module, the records of a text are those of a configuration. -/
theorem parse_rec {p : List Token} {E Z B : Token} {c : PC} {n : Nat} (hE : E.kind = 0) (hZ : Z.kind = 0) (hB : B.text = [125]) (hK : B.kind = 4) (hp : ∀ u ∈ p, u.kind ≠ 0) (h : parseRecT (p ++ [E]) = .ok c) (hn : n ≤ topN)
    {l : List Token} (hl : ∃ a b d e f : Token, l = a :: b :: d :: e :: f :: (p ++ B :: [Z]) ∧ un a = (1, [109, 111, 100, 117, 108, 101], 0) ∧ un b = (4, [123], 0) ∧ un d = (1, [102, 114, 97, 109, 101], 0) ∧ e.kind = 2 ∧ e.val = n ∧ un f = (4, [59], 0)) :
    parseT l = .ok (setF n c) := by
  obtain ⟨a, b, d, e, f, rfl, ha, hb, hd, he, hv, hf⟩ := hl
  unfold parseRecT endT at h
  cases hx : allRecT zeroPC (p ++ [E]) with
  | error e => rw [hx] at h; cases h
  | ok x =>
    obtain ⟨c2, s⟩ := x
    rw [hx] at h
    simp only at h
    obtain ⟨r0, g1, g2⟩ := ext_all (q := [Z]) hE hB hK zeroPC p c2 s hx
    subst g1
    obtain ⟨dd, hdd⟩ := shr_all zeroPC _ _ _ hx
    have hr : r0 = [] := by
      cases r0 with
      | nil => rfl
      | cons u r0 =>
        exfalso
        have hpd : p = dd ++ u :: r0 := by
          have : p ++ [E] = (dd ++ u :: r0) ++ [E] := by rw [hdd]; simp
          exact List.append_cancel_right this
        have hu : u.kind ≠ 0 := hp u (by rw [hpd]; simp)
        rw [List.cons_append, takeT_cons, if_neg hu] at h; cases h
    subst hr
    rw [List.nil_append, takeT_cons, if_pos hE] at h
    injection h with h
    subst h
    have wn : ∀ (u : Token) (k : Nat) (x : List UInt8) (r : List Token), un u = (k, x, 0) → (k = 1 ∨ k = 4) → wantT x (u :: r) = .ok ((), r) := by
      intro u k x r hu hk
      unfold un at hu
      simp only [Prod.mk.injEq] at hu
      unfold wantT
      rw [isT_cons, hu.1, hu.2.1]
      rcases hk with rfl | rfl <;> simp
    have bo : ∀ {α β : Type} {m : PM α} {f : α → PM β} {l r : List Token} {a : α}, m l = .ok (a, r) → bindT m f l = f a r := by
      intro α β m f l r a h
      unfold bindT; rw [h]
    have hnum : numT topN (e :: f :: (p ++ B :: [Z])) = .ok (n, f :: (p ++ B :: [Z])) := by
      unfold numT
      rw [takeT_cons, if_pos he]
      simp only
      rw [hv, if_pos hn]
    have hfield : fieldT [102, 114, 97, 109, 101] topN (d :: e :: f :: (p ++ B :: [Z])) = .ok (n, p ++ B :: [Z]) := by
      unfold fieldT
      rw [bo (wn d 1 _ _ hd (.inl rfl)), bo hnum, bo (wn f 4 _ _ hf (.inr rfl))]
      rfl
    have hall : allRecT { zeroPC with frame := n } (p ++ B :: [Z]) = .ok (setF n c2, B :: [Z]) := by
      have : allRecT { zeroPC with frame := n } (p ++ B :: [Z]) = mapT (setF n) (recordsT (p ++ B :: [Z]).length zeroPC) (p ++ B :: [Z]) := records_frame n _ zeroPC _
      rw [this]
      unfold mapT
      have g3 : recordsT (p ++ B :: [Z]).length zeroPC (p ++ B :: [Z]) = .ok (c2, B :: [Z]) := g2
      rw [bo g3]
      rfl
    have hm : moduleT (a :: b :: d :: e :: f :: (p ++ B :: [Z])) = .ok (setF n c2, [Z]) := by
      unfold moduleT
      rw [bo (wn a 1 _ _ ha (.inl rfl)), bo (wn b 4 _ _ hb (.inr rfl)), bo hfield, bo hall]
      have hw : wantT [125] (B :: [Z]) = .ok ((), [Z]) := by
        unfold wantT
        rw [isT_cons, hB, hK]
        rfl
      rw [bo hw]
      rfl
    unfold parseT endT
    rw [hm]
    simp only
    rw [takeT_cons, if_pos hZ]
end Go.Proofs.YtdpieljopelkhaaGreatDoor
namespace Go.Proofs.YtdpieljopelkhaaGreatDoor
open Go.Lib
set_option linter.unusedVariables false

abbrev Un := Nat × List UInt8 × Nat
/-- Bytes that are read as tokens, whatever follows; before a byte that ends a word. -/
def Rd (x : List UInt8) (M : List Un) : Prop := ∀ g rest, tkL (M.length + g) (x ++ rest) = (tkL g rest).map fun T => M ++ T
def RdS (x : List UInt8) (M : List Un) : Prop := ∀ g c rest, isAl c = false → tkL (M.length + g) (x ++ c :: rest) = (tkL g (c :: rest)).map fun T => M ++ T
theorem map_app {M N : List Un} (o : Option (List Un)) : (o.map fun T => N ++ T).map (fun T => M ++ T) = o.map fun T => (M ++ N) ++ T := by
  cases o with
  | none => rfl
  | some T => simp
theorem tokL_cons (c : UInt8) (r : List UInt8) : tokL (c :: r) = if isLet c = true then .tok 1 ((c :: r).take (runLen isLet (c :: r))) 0 (runLen isLet (c :: r))
    else if isDig c = true then
      match parseN ((c :: r).take (runLen isAl (c :: r))) with
      | some v => .tok 2 ((c :: r).take (runLen isAl (c :: r))) v (runLen isAl (c :: r))
      | none => .bad 5
    else if c = 34 then
      match goL false true [] r with
      | some (n, ok, m) => if (ok && validL n) = true then .tok 3 n 0 (1 + m) else .bad 6
      | none => .bad 6
    else if isSign c = true then .tok 4 [c] 0 1
    else .bad 3 := rfl
theorem Rd.nil : Rd [] [] := fun g rest => by
  show tkL (0 + g) rest = _
  rw [Nat.zero_add]
  cases tkL g rest <;> rfl
theorem Rd.app {x y : List UInt8} {M N : List Un} (h : Rd x M) (k : Rd y N) : Rd (x ++ y) (M ++ N) := fun g rest => by
  rw [List.append_assoc, List.length_append, Nat.add_assoc, h, k, map_app]
theorem Rd.appS {x y : List UInt8} {M N : List Un} (h : Rd x M) (k : RdS y N) : RdS (x ++ y) (M ++ N) := fun g c rest hc => by
  rw [List.append_assoc, List.length_append, Nat.add_assoc, h, k _ _ _ hc, map_app]
theorem RdS.app {x y : List UInt8} {M N : List Un} {c : UInt8} (h : RdS x M) (hc : isAl c = false) (k : Rd (c :: y) N) : Rd (x ++ c :: y) (M ++ N) := fun g rest => by
  rw [List.append_assoc, List.length_append, Nat.add_assoc, List.cons_append, h _ _ _ hc, ← List.cons_append, k, map_app]
theorem RdS.appS {x y : List UInt8} {M N : List Un} {c : UInt8} (h : RdS x M) (hc : isAl c = false) (k : RdS (c :: y) N) : RdS (x ++ c :: y) (M ++ N) := fun g d rest hd => by
  rw [List.append_assoc, List.length_append, Nat.add_assoc, List.cons_append, h _ _ _ hc, ← List.cons_append, k _ _ _ hd, map_app]
theorem rd_gap {c : UInt8} (hc : isSp c = true) : Rd [c] [] := fun g rest => by
  have h35 : c ≠ 35 := by intro e; subst e; cases hc
  show tkL (0 + g) (c :: rest) = (tkL g rest).map fun T => T
  rw [Nat.zero_add]
  have h2 : tkL g (c :: rest) = tkL g rest := by
    cases g with
    | zero => rfl
    | succ g =>
      have e : spc false (c :: rest) = 1 + spc false rest := by
        simp only [spc]; rw [if_neg h35, if_pos hc]
      rw [tkL, tkL, e, Nat.add_comm, List.drop_succ_cons]
  rw [h2]
  cases tkL g rest <;> rfl
/-- A token at the head. -/
theorem tkL_tok {c : UInt8} {r : List UInt8} {kind v n : Nat} {text : List UInt8} (h : isLet c = true ∨ isDig c = true ∨ c = 34 ∨ isSign c = true) (ht : tokL (c :: r) = .tok kind text v n) (g : Nat) :
    tkL (1 + g) (c :: r) = (tkL g ((c :: r).drop n)).map fun T => [(kind, text, v)] ++ T := by
  have hk : kind ≠ 0 := fun e => tokL_kind c r text v n (by rw [ht, e])
  rw [Nat.add_comm, tkL, spc_head c r h, List.drop_zero, ht]
  simp only
  rw [if_neg hk]
  rfl
theorem run_stop {p : UInt8 → Bool} {c : UInt8} (hc : p c = false) : ∀ {l : List UInt8} (rest : List UInt8), (∀ u ∈ l, p u = true) → runLen p (l ++ c :: rest) = l.length
  | [], rest, _ => by
    show (if p c = true then _ else 0) = 0
    rw [hc]; rfl
  | x :: l, rest, h => by
    show (if p x = true then 1 + runLen p (l ++ c :: rest) else 0) = _
    rw [if_pos (h x List.mem_cons_self), run_stop hc rest (fun u hu => h u (List.mem_cons_of_mem _ hu)), List.length_cons, Nat.add_comm]
theorem rd_sign {c : UInt8} (hc : isSign c = true) : Rd [c] [(4, [c], 0)] := fun g rest => by
  have h1 : ∀ c : UInt8, isSign c = true → isLet c = false ∧ isDig c = false ∧ c ≠ 34 := by
    intro c h
    unfold isSign at h
    simp only [Bool.or_eq_true, beq_iff_eq] at h
    rcases h with ((h | h) | h) | h <;> subst h <;> decide
  obtain ⟨h2, h3, h4⟩ := h1 c hc
  have ht : tokL (c :: rest) = .tok 4 [c] 0 1 := by
    rw [tokL_cons, if_neg (by rw [h2]; simp), if_neg (by rw [h3]; simp), if_neg h4, if_pos hc]
  exact tkL_tok (.inr (.inr (.inr hc))) ht g
theorem rd_word {w : List UInt8} (h0 : w ≠ []) (hw : ∀ u ∈ w, isLet u = true) : RdS w [(1, w, 0)] := fun g c rest hc => by
  have hcl : isLet c = false := by
    unfold isAl at hc
    cases h : isLet c with
    | false => rfl
    | true => rw [h] at hc; cases hc
  cases w with
  | nil => exact absurd rfl h0
  | cons x w =>
    have hr := run_stop hcl rest hw
    have ht : tokL (x :: (w ++ c :: rest)) = .tok 1 (x :: w) 0 (x :: w).length := by
      rw [tokL_cons, if_pos (hw x List.mem_cons_self)]
      have e : runLen isLet (x :: (w ++ c :: rest)) = (x :: w).length := hr
      rw [e, ← List.cons_append, List.take_left]
    have := tkL_tok (.inl (hw x List.mem_cons_self)) ht g
    rw [← List.cons_append, List.drop_left] at this
    exact this
theorem rd_numeral {x : List UInt8} {v : Nat} (h0 : ∃ a r, x = a :: r ∧ isDig a = true) (hx : ∀ u ∈ x, isAl u = true) (hv : parseN x = some v) : RdS x [(2, x, v)] := fun g c rest hc => by
  obtain ⟨a, r, rfl, ha⟩ := h0
  have hal : isLet a = false := by
    unfold isDig at ha
    unfold isLet
    rw [Bool.and_eq_true, decide_eq_true_eq, decide_eq_true_eq] at ha
    rw [Bool.and_eq_false_iff]
    left
    rw [decide_eq_false_iff_not]; omega
  have hr := run_stop hc rest hx
  have ht : tokL (a :: (r ++ c :: rest)) = .tok 2 (a :: r) v (a :: r).length := by
    rw [tokL_cons, if_neg (by rw [hal]; simp), if_pos ha]
    have e : runLen isAl (a :: (r ++ c :: rest)) = (a :: r).length := hr
    rw [e, ← List.cons_append, List.take_left, hv]
  have := tkL_tok (.inr (.inl ha)) ht g
  rw [← List.cons_append, List.drop_left] at this
  exact this
theorem dig_al {u : UInt8} (h : digB u = true) : isDig u = true ∧ isAl u = true := by
  have h1 : isDig u = true := h
  exact ⟨h1, by unfold isAl; rw [h1]; simp⟩
theorem rd_num {n : Nat} (hn : n < top64) : RdS (numB n) [(2, numB n, n)] := by
  refine rd_numeral ?_ (fun u hu => (dig_al (num_dig n u hu)).2) (parseN_dec n hn)
  cases h : numB n with
  | nil => exact absurd h (digL_ne 10 n)
  | cons a r => exact ⟨a, r, rfl, (dig_al (num_dig n a (by rw [h]; exact List.mem_cons_self))).1⟩
/-! ### Lines -/
theorem rd_sp : Rd [32] [] := rd_gap (by rfl)
/-- A word and a space. -/
theorem rd_wsp {w : List UInt8} (h0 : w ≠ []) (hw : ∀ u ∈ w, isLet u = true) : Rd (w ++ [32]) [(1, w, 0)] := by
  have := (rd_word h0 hw).app (by rfl) rd_sp
  simpa using this
/-- A field with a number. -/
def fieldU (w : List UInt8) (x : List UInt8) (n : Nat) : List Un := [(1, w, 0), (2, x, n)]
theorem rd_field {w : List UInt8} (h0 : w ≠ []) (hw : ∀ u ∈ w, isLet u = true) {n : Nat} (hn : n < top64) : RdS (w ++ [32] ++ numB n) (fieldU w (numB n) n) := (rd_wsp h0 hw).appS (rd_num hn)
def semi : Un := (4, [59], 0)
/-! ### Records -/
theorem let_all {w : List UInt8} (h : w.all isLet = true) : ∀ u ∈ w, isLet u = true := fun u hu => List.all_eq_true.1 h u hu
def lit (w : List UInt8) : Un := (1, w, 0)
def comma : Un := (4, [44], 0)
/-! ### The whole text -/
inductive All3 : List (List UInt8) → List (List Un) → Prop where
  | nil : All3 [] []
  | cons {x : List UInt8} {a : List Un} {l : List (List UInt8)} {M : List (List Un)} : Rd x a → All3 l M → All3 (x :: l) (a :: M)
theorem All3.app {l k : List (List UInt8)} {M N : List (List Un)} (h : All3 l M) (g : All3 k N) : All3 (l ++ k) (M ++ N) := by
  induction h with
  | nil => exact g
  | cons hx _ ih => exact .cons hx ih
theorem All3.map {α : Type} {f : α → List UInt8} {g : α → List Un} : ∀ {l : List α}, (∀ x ∈ l, Rd (f x) (g x)) → All3 (l.map f) (l.map g)
  | [], _ => .nil
  | x :: l, h => .cons (h x List.mem_cons_self) (All3.map fun y hy => h y (List.mem_cons_of_mem _ hy))
end Go.Proofs.YtdpieljopelkhaaGreatDoor
namespace Go.Proofs.YtdpieljopelkhaaGreatDoor
open Go.Lib
set_option linter.unusedVariables false

def preL : List UInt8 := [109, 111, 100, 117, 108, 101, 32, 123, 32, 102, 114, 97, 109, 101, 32, 55, 59, 10]
def preU : List Un := [lit [109, 111, 100, 117, 108, 101], (4, [123], 0), lit [102, 114, 97, 109, 101], (2, [55], 7), semi]
theorem num7 : numB 7 = [55] := by unfold numB; rw [digL_small (by omega)]; rfl
theorem rd_pre : Rd preL preU := by
  have h1 := (rd_wsp (w := [109, 111, 100, 117, 108, 101]) (by simp) (let_all (by rfl))).app (rd_sign (c := 123) (by rfl))
  have h2 := h1.app rd_sp
  have h3 := (rd_field (w := [102, 114, 97, 109, 101]) (by simp) (let_all (by rfl)) (n := 7) (by unfold top64; omega)).app (c := 59) (by rfl) ((rd_sign (c := 59) (by rfl)).app (rd_gap (c := 10) (by rfl)))
  have h4 := h2.app h3
  rw [num7] at h4
  exact h4
theorem un_shift (n : Nat) (l : List Token) : (l.map (shiftT n)).map un = l.map un := by
  rw [List.map_map]; rfl
/-- ParseRecords' text: the tokens of the records, within a module. -/
theorem rec_tokens {s T : ByteArray} {L : List Token} (h : toks s (s.size + 1) 0 = .ok L) (hT : T.data.toList = preL ++ (s.data.toList ++ [10, 125])) :
    ∃ L', toks T (T.size + 1) 0 = .ok L' ∧ L'.map un = preU ++ (L.map un).dropLast ++ [(4, [125], 0), (0, [], 0)] := by
  obtain ⟨A, hA⟩ : ∃ A : ByteArray, A.data.toList = s.data.toList ++ 10 :: [125] := ⟨⟨(s.data.toList ++ 10 :: [125]).toArray⟩, by simp⟩
  have hb : toks ⟨#[125]⟩ ((⟨#[125]⟩ : ByteArray).size + 1) 0 = .ok [mkTok ⟨#[125]⟩ 0 4 [125] 0, mkTok ⟨#[125]⟩ 1 0 [] 0] := by rfl
  have hj := (toks_join s ⟨#[125]⟩ A hA _ hb (s.size + 1) 0 L (Nat.zero_le _) (by omega) h (A.size + 14) (by omega)).1
  have h1 := toks_tkL A (A.size + 14) 0
  rw [hj, List.drop_zero] at h1
  have h2 := rd_pre (A.size + 14) A.data.toList
  rw [← h1, hA, ← hT] at h2
  have hsz : T.size = 18 + A.size := by
    rw [Lib.size_eq, Lib.size_eq, hT, hA, List.length_append]; rfl
  have e : preU.length + (A.size + 14) = T.size + 1 := by rw [hsz]; show 5 + (A.size + 14) = _; omega
  rw [e] at h2
  have h4 := toks_tkL T (T.size + 1) 0
  rw [List.drop_zero, h2] at h4
  cases ho : toks T (T.size + 1) 0 with
  | bad a b d => rw [ho] at h4; cases h4
  | ok L' =>
    rw [ho] at h4
    refine ⟨L', rfl, ?_⟩
    have h5 : L'.map un = preU ++ (L.dropLast ++ ([mkTok ⟨#[125]⟩ 0 4 [125] 0, mkTok ⟨#[125]⟩ 1 0 [] 0].map (shiftT (1 + s.data.toList.count 10)))).map un := Option.some.inj h4
    rw [h5, List.map_append, un_shift, List.map_dropLast, List.append_assoc]
    rfl
theorem tkL_last : ∀ (f : Nat) (l : List UInt8) (M : List (Nat × List UInt8 × Nat)), l.length < f → tkL f l = some M → ∃ N, M = N ++ [(0, [], 0)] ∧ ∀ x ∈ N, x.1 ≠ 0
  | 0, l, M, hl, h => by omega
  | f + 1, l, M, hl, h => by
    rw [tkL] at h
    cases hd : l.drop (spc false l) with
    | nil =>
      rw [hd] at h
      have h2 : some [((0 : Nat), ([] : List UInt8), (0 : Nat))] = some M := h
      injection h2 with h2
      exact ⟨[], h2.symm, fun x hx => by cases hx⟩
    | cons c r =>
      rw [hd] at h
      cases hT : tokL (c :: r) with
      | bad e => rw [hT] at h; cases h
      | tok kind text v n =>
        rw [hT] at h
        simp only at h
        have h0 : kind ≠ 0 := fun e => tokL_kind c r text v n (by rw [hT, e])
        have hn := (tokL_fine c r kind v n text hT).2.2.2.1
        rw [if_neg h0] at h
        cases hr : tkL f ((c :: r).drop n) with
        | none => rw [hr] at h; cases h
        | some K =>
          rw [hr] at h
          injection h with h
          subst h
          have hlen : (c :: r).length ≤ l.length := by rw [← hd, List.length_drop]; omega
          obtain ⟨N, h1, h2⟩ := tkL_last f ((c :: r).drop n) K (by rw [List.length_drop]; simp at hlen ⊢; omega) hr
          refine ⟨(kind, text, v) :: N, by rw [h1]; rfl, fun x hx => ?_⟩
          rcases List.mem_cons.1 hx with rfl | hx
          · exact h0
          · exact h2 x hx
/-- ParseRecords: within a module, the records of a text are those of a configuration. -/
theorem records_law {s T : ByteArray} {L : List Token} {c : PC} (h : toks s (s.size + 1) 0 = .ok L) (hT : T.data.toList = preL ++ (s.data.toList ++ [10, 125])) (hc : parseRecT L = .ok c) :
    ∃ L', toks T (T.size + 1) 0 = .ok L' ∧ parseT L' = .ok (setF 7 c) := by
  obtain ⟨L', h1, h2⟩ := rec_tokens h hT
  refine ⟨L', h1, ?_⟩
  have h3 := toks_tkL s (s.size + 1) 0
  rw [h, List.drop_zero] at h3
  obtain ⟨N, h4, h5⟩ := tkL_last (s.size + 1) s.data.toList (L.map un) (by rw [Lib.size_eq]; omega) h3.symm
  have hne : L ≠ [] := by
    intro e; subst e; cases N <;> cases h4
  obtain ⟨p, E, rfl⟩ : ∃ p E, L = p ++ [E] := ⟨L.dropLast, L.getLast hne, (List.dropLast_concat_getLast hne).symm⟩
  rw [List.map_append] at h4
  have h6 := List.append_inj' h4 rfl
  have hE : E.kind = 0 := by
    have : un E = (0, [], 0) := (List.cons.inj h6.2).1
    exact congrArg Prod.fst this
  have hp : ∀ u ∈ p, u.kind ≠ 0 := fun u hu => h5 (un u) (by rw [← h6.1]; exact List.mem_map_of_mem hu)
  have h7 : L'.map un = preU ++ p.map un ++ [(4, [125], 0), (0, [], 0)] := by
    rw [h2, List.map_append]
    congr 2
    exact List.dropLast_concat
  have tk : ∀ x : Un, un ⟨x.1, x.2.1, x.2.2, 0, 0⟩ = x := fun x => rfl
  obtain ⟨t, ht⟩ : ∃ t : Un → Token, t = fun x => ⟨x.1, x.2.1, x.2.2, 0, 0⟩ := ⟨_, rfl⟩
  have hut : ∀ x, un (t x) = x := fun x => by rw [ht]; rfl
  have hlike : LikeL (t (lit [109, 111, 100, 117, 108, 101]) :: t (4, [123], 0) :: t (lit [102, 114, 97, 109, 101]) :: t (2, [55], 7) :: t semi :: (p ++ t (4, [125], 0) :: [t (0, [], 0)])) L' := by
    unfold LikeL
    rw [h7]
    simp only [List.map_cons, List.map_append, List.map_nil, hut]
    rfl
  refine parse_like hlike ?_
  exact parse_rec hE (by rw [ht]) (B := t (4, [125], 0)) (by rw [ht]) (by rw [ht]) hp hc (by unfold topN; omega) ⟨_, _, _, _, _, rfl, hut _, hut _, hut _, by rw [ht], by rw [ht], hut _⟩
end Go.Proofs.YtdpieljopelkhaaGreatDoor
namespace Go.Proofs.YtdpieljopelkhaaGreatDoor
open Go.Lib
set_option linter.unusedVariables false

def Vld (l : List Token) : Prop := ∀ t ∈ l, t.kind = 3 → validL t.text = true
def Post {α : Type} (m : PM α) (P : α → Prop) : Prop := ∀ l a r, Vld l → m l = .ok (a, r) → Vld r ∧ P a
theorem vld_tail {t : Token} {l : List Token} (h : Vld (t :: l)) : Vld l := fun u hu => h u (List.mem_cons_of_mem _ hu)
theorem post_bind {α β : Type} {m : PM α} {f : α → PM β} {P : α → Prop} {Q : β → Prop} (hm : Post m P) (hf : ∀ a, P a → Post (f a) Q) : Post (bindT m f) Q := fun l b r hv h => by
  unfold bindT at h
  cases hx : m l with
  | error e => rw [hx] at h; cases h
  | ok x =>
    obtain ⟨a, s⟩ := x
    rw [hx] at h
    obtain ⟨h1, h2⟩ := hm l a s hv hx
    exact hf a h2 s b r h1 h
theorem post_pure {α : Type} {a : α} {P : α → Prop} (h : P a) : Post (pureT a) P := fun l b r hv e => by
  unfold pureT at e
  injection e with e
  injection e with e1 e2
  subst e1 e2
  exact ⟨hv, h⟩
theorem post_fail {α : Type} (c : Nat) (P : α → Prop) : Post (failT c : PM α) P := fun l a r _ h => by cases h
theorem post_err {α : Type} (e : Flt) (P : α → Prop) : Post (fun _ => .error e : PM α) P := fun l a r _ h => by cases h
theorem post_want (x : List UInt8) : Post (wantT x) (fun _ => True) := fun l a r hv h => by
  unfold wantT at h
  cases hi : isT x l with
  | false => rw [hi] at h; cases h
  | true =>
    rw [hi, if_pos rfl] at h
    injection h with h
    injection h with _ h
    subst h
    cases l with
    | nil => exact ⟨hv, trivial⟩
    | cons t l => exact ⟨vld_tail hv, trivial⟩
theorem post_take (k : Nat) : Post (takeT k) (fun t => t.kind = k ∧ (k = 3 → validL t.text = true)) := fun l a r hv h => by
  cases l with
  | nil => cases h
  | cons t l =>
    rw [takeT_cons] at h
    by_cases hk : t.kind = k
    · rw [if_pos hk] at h
      injection h with h
      injection h with h1 h2
      subst h1 h2
      exact ⟨vld_tail hv, hk, fun h3 => hv t List.mem_cons_self (hk.trans h3)⟩
    · rw [if_neg hk] at h; cases h
theorem post_num (most : Nat) : Post (numT most) (fun n => n ≤ most) := fun l a r hv h => by
  unfold numT at h
  cases hx : takeT 2 l with
  | error e => rw [hx] at h; cases h
  | ok x =>
    obtain ⟨t, s⟩ := x
    rw [hx] at h
    simp only at h
    by_cases hn : t.val ≤ most
    · rw [if_pos hn] at h
      injection h with h
      injection h with h1 h2
      subst h1 h2
      exact ⟨(post_take 2 l t s hv hx).1, hn⟩
    · rw [if_neg hn] at h; cases h
theorem post_field (w : List UInt8) (n : Nat) : Post (fieldT w n) (fun x => x ≤ n) := post_bind (post_want w) fun _ _ => post_bind (post_num n) fun _ hn => post_bind (post_want _) fun _ _ => post_pure hn
theorem post_choice (a b : List UInt8) : Post (choiceT a b) (fun _ => True) := fun l x r hv h => by
  unfold choiceT at h
  cases hi : isT b l with
  | true => rw [hi, if_pos rfl] at h; exact post_bind (Q := fun _ => True) (post_want b) (fun _ _ => post_bind (post_want _) fun _ _ => post_pure trivial) l x r hv h
  | false => rw [hi, if_neg (by simp)] at h; exact post_bind (Q := fun _ => True) (post_want a) (fun _ _ => post_bind (post_want _) fun _ _ => post_pure trivial) l x r hv h
theorem post_rights : Post rightsT (fun r => r ≤ 7) := post_bind (post_take 1) fun t _ => by
  cases h : rightsN t.text with
  | none => exact post_err _ _
  | some r => exact post_pure (word_rights h).1
theorem post_dests : ∀ f links, Post (destsT f links) (fun d => links + d.length ≤ 1024)
  | 0, _ => post_fail 4 _
  | f + 1, links => fun l a r hv h => by
    unfold destsT at h
    cases hx : numT 65535 l with
    | error e => rw [hx] at h; cases h
    | ok x =>
      obtain ⟨n, s⟩ := x
      rw [hx] at h
      have hs := (post_num 65535 l n s hv hx).1
      simp only at h
      by_cases hl : 1024 ≤ links
      · rw [if_pos hl] at h; cases h
      · rw [if_neg hl] at h
        cases hi : isT [44] s with
        | false =>
          rw [hi, if_neg (by simp)] at h
          injection h with h
          injection h with h1 h2
          subst h1 h2
          exact ⟨hs, by simp; omega⟩
        | true =>
          rw [hi, if_pos rfl] at h
          cases hd : destsT f (links + 1) s.tail with
          | error e => rw [hd] at h; cases h
          | ok y =>
            obtain ⟨ns, r2⟩ := y
            rw [hd] at h
            simp only at h
            injection h with h
            injection h with h1 h2
            subst h1 h2
            have hs2 : Vld s.tail := fun u hu => hs u (List.mem_of_mem_tail hu)
            obtain ⟨g1, g2⟩ := post_dests f (links + 1) s.tail ns r2 hs2 hd
            exact ⟨g1, by simp; omega⟩
theorem post_to (links : Nat) (h0 : links ≤ 1024) : Post (toT links) (fun d => links + d.length ≤ 1024) := post_bind (post_want _) fun _ _ l a r hv h => by
  by_cases hi : isT [59] l = true
  · rw [if_pos hi] at h
    injection h with h
    injection h with h1 h2
    subst h1 h2
    exact ⟨hv, by simpa using h0⟩
  · rw [if_neg hi] at h
    exact post_dests _ _ l a r hv h
structure LimC (c : PC) : Prop where
  parts : c.parts.length ≤ 64
  wins : c.wins.length ≤ 1024
  regs : c.regs.length ≤ 1024
  ports : c.ports.length ≤ 1024
  chans : c.chans.length ≤ 512
  links : linksK c.chans ≤ 1024
  names : ∀ x ∈ c.parts, validS x.name = true
  nameq : ∀ x ∈ c.ports, validS x.name = true
  rights : ∀ x ∈ c.regs, x.rights ≤ 7
theorem nameB_valid {l : List UInt8} (h : validL l = true) : validS (nameB l) = true := by unfold validS nameB; simpa using h
theorem mem_snoc {α : Type} {P : α → Prop} {l : List α} {a : α} (h : ∀ x ∈ l, P x) (ha : P a) : ∀ x ∈ l ++ [a], P x := fun x hx => by
  rcases List.mem_append.1 hx with hx | hx
  · exact h x hx
  · rw [List.mem_singleton] at hx; subst hx; exact ha
theorem post_part {c : PC} (h : LimC c) (hl : c.parts.length < 64) : Post (partT c) LimC := post_bind (post_num _) fun _ _ => post_bind (post_take 3) fun t ht => post_bind (post_want _) fun _ _ => post_bind (post_field _ _) fun _ _ => post_bind (post_field _ _) fun _ _ => post_pure
  ⟨by simp; omega, h.wins, h.regs, h.ports, h.chans, h.links, mem_snoc h.names (nameB_valid (ht.2 rfl)), h.nameq, h.rights⟩
theorem post_win {c : PC} (h : LimC c) (hl : c.wins.length < 1024) : Post (winT c) LimC := post_bind (post_num _) fun _ _ => post_bind (post_want _) fun _ _ => post_bind (post_field _ _) fun _ _ => post_bind (post_field _ _) fun _ _ => post_pure
  ⟨h.parts, by simp; omega, h.regs, h.ports, h.chans, h.links, h.names, h.nameq, h.rights⟩
theorem post_shared : Post sharedT (fun _ => True) := fun l a r hv h => by
  unfold sharedT at h
  by_cases hi : isT [115, 104, 97, 114, 101, 100] l = true
  · rw [if_pos hi] at h
    exact post_bind (Q := fun _ => True) (post_want _) (fun _ _ => post_bind (post_want _) fun _ _ => post_pure trivial) l a r hv h
  · rw [if_neg hi] at h
    injection h with h
    injection h with h1 h2
    subst h1 h2
    exact ⟨hv, trivial⟩
theorem post_reg {c : PC} (h : LimC c) (hl : c.regs.length < 1024) : Post (regT c) LimC := post_bind (post_num _) fun _ _ => post_bind (post_want _) fun _ _ => post_bind (post_field _ _) fun _ _ => post_bind (post_field _ _) fun _ _ => post_bind (post_want _) fun _ _ => post_bind post_rights fun _ hr => post_bind (post_want _) fun _ _ => post_bind post_shared fun _ _ => post_pure
  ⟨h.parts, h.wins, by simp; omega, h.ports, h.chans, h.links, h.names, h.nameq, mem_snoc h.rights hr⟩
theorem post_port {c : PC} (h : LimC c) (hl : c.ports.length < 1024) : Post (portT c) LimC := post_bind (post_num _) fun _ _ => post_bind (post_take 3) fun t ht => post_bind (post_want _) fun _ _ => post_bind (post_field _ _) fun _ _ => post_bind (post_choice _ _) fun _ _ => post_bind (post_choice _ _) fun _ _ => post_bind (post_field _ _) fun _ _ => post_pure
  ⟨h.parts, h.wins, h.regs, by simp; omega, h.chans, h.links, h.names, mem_snoc h.nameq (nameB_valid (ht.2 rfl)), h.rights⟩
theorem post_chan {c : PC} (h : LimC c) (hl : c.chans.length < 512) : Post (chanT c) LimC := post_bind (post_num _) fun _ _ => post_bind (post_want _) fun _ _ => post_bind (post_field _ _) fun _ _ => post_bind (post_to _ h.links) fun d hd => post_bind (post_want _) fun _ _ => post_pure
  ⟨h.parts, h.wins, h.regs, h.ports, by simp; omega, by unfold linksK at hd ⊢; simp; omega, h.names, h.nameq, h.rights⟩
theorem post_record {c : PC} (h : LimC c) {k : Nat} (h1 : 1 ≤ k) (h5 : k ≤ 5) : Post (recordT k c) LimC := post_bind (post_take 1) fun t _ => by
  by_cases hl : limN k ≤ cntK c k
  · rw [if_pos hl]; exact post_err _ _
  · rw [if_neg hl]
    refine post_bind (P := LimC) ?_ fun _ h2 => post_bind (post_want _) fun _ _ => post_pure h2
    rcases (show k = 1 ∨ k = 2 ∨ k = 3 ∨ k = 4 ∨ k = 5 by omega) with rfl | rfl | rfl | rfl | rfl
    · exact post_part h (by have : ¬ 64 ≤ c.parts.length := hl; omega)
    · exact post_win h (by have : ¬ 1024 ≤ c.wins.length := hl; omega)
    · exact post_reg h (by have : ¬ 1024 ≤ c.regs.length := hl; omega)
    · exact post_port h (by have : ¬ 1024 ≤ c.ports.length := hl; omega)
    · exact post_chan h (by have : ¬ 512 ≤ c.chans.length := hl; omega)
theorem sect_le (w : List UInt8) : sectN w ≤ 5 := by
  unfold sectN
  repeat (split; omega)
  omega
theorem post_records : ∀ f {c : PC}, LimC c → Post (recordsT f c) LimC
  | 0, c, h => post_pure h
  | f + 1, c, h => fun l a r hv e => by
    cases l with
    | nil =>
      rw [recordsT] at e
      injection e with e
      injection e with e1 e2
      subst e1 e2
      exact ⟨hv, h⟩
    | cons t l =>
      rw [recordsT] at e
      simp only at e
      by_cases hk : t.kind = 1 ∧ 0 < sectN t.text
      · rw [if_pos hk] at e
        cases hx : recordT (sectN t.text) c (t :: l) with
        | error e2 => rw [hx] at e; cases e
        | ok x =>
          obtain ⟨c2, s⟩ := x
          rw [hx] at e
          obtain ⟨h1, h2⟩ := post_record h hk.2 (sect_le _) (t :: l) c2 s hv hx
          exact post_records f h2 s a r h1 e
      · rw [if_neg hk] at e
        injection e with e
        injection e with e1 e2
        subst e1 e2
        exact ⟨hv, h⟩
theorem lim_zero (n : Nat) : LimC { zeroPC with frame := n } := ⟨by simp [zeroPC], by simp [zeroPC], by simp [zeroPC], by simp [zeroPC], by simp [zeroPC], by simp [zeroPC, linksK], by simp [zeroPC], by simp [zeroPC], by simp [zeroPC]⟩
theorem post_all {c : PC} (h : LimC c) : Post (allRecT c) LimC := fun l a r hv e => post_records l.length h l a r hv e
theorem post_module : Post moduleT LimC := post_bind (post_want _) fun _ _ => post_bind (post_want _) fun _ _ => post_bind (post_field _ _) fun n _ => post_bind (post_all (lim_zero n)) fun _ h => post_bind (post_want _) fun _ _ => post_pure h
/-- ParseLimits: what a text denotes lies within limits. -/
theorem parse_lim {l : List Token} (hv : Vld l) {c : PC} (h : parseT l = .ok c) : LimC c := by
  unfold parseT endT at h
  cases hx : moduleT l with
  | error e => rw [hx] at h; cases h
  | ok x =>
    obtain ⟨a, r⟩ := x
    rw [hx] at h
    simp only at h
    have h1 := (post_module l a r hv hx).2
    cases hy : takeT 0 r with
    | error e => rw [hy] at h; cases h
    | ok y =>
      rw [hy] at h
      injection h with h
      subst h
      exact h1
end Go.Proofs.YtdpieljopelkhaaGreatDoor
namespace Go.Proofs.YtdpieljopelkhaaGreatDoor
open Go.Lib
set_option linter.unusedVariables false

theorem endL_snoc {t : Token} (ht : t.kind = 0) : ∀ N : List Token, EndL (N ++ [t])
  | [] => ht
  | u :: N => by
    have := endL_snoc ht N
    cases N with
    | nil => exact ht
    | cons v M => exact this
theorem endL_of {l : List Token} {N : List (Nat × List UInt8 × Nat)} (h : l.map un = N ++ [(0, [], 0)]) : EndL l := by
  have hne : l ≠ [] := by intro e; subst e; cases N <;> cases h
  have hl := List.dropLast_concat_getLast hne
  rw [← hl]
  refine endL_snoc ?_ _
  have h2 : (l.map un).getLast? = some (0, [], 0) := by rw [h]; simp
  rw [List.getLast?_map, List.getLast?_eq_some_getLast hne] at h2
  have h3 : un (l.getLast hne) = (0, [], 0) := by simpa using h2
  exact congrArg (·.1) h3
theorem out_toks {s : ByteArray} {l : List Token} (h : outOf s = .ok l) : s.size ≤ 1048576 ∧ toks s (s.size + 1) 0 = .ok l := by
  unfold outOf at h
  by_cases hs : s.size ≤ 1048576
  · rw [if_pos hs] at h; exact ⟨hs, h⟩
  · rw [if_neg hs] at h; cases h
theorem out_facts {s : ByteArray} {l : List Token} (h : outOf s = .ok l) : EndL l ∧ Tsz l ∧ Vld l := by
  obtain ⟨hs, h⟩ := out_toks h
  have h3 := toks_tkL s (s.size + 1) 0
  rw [h, List.drop_zero] at h3
  obtain ⟨N, h4, h5⟩ := tkL_last (s.size + 1) s.data.toList (l.map un) (by rw [Lib.size_eq]; omega) h3.symm
  obtain ⟨_, _, _, _, hv⟩ := tkL_join (s.size + 1) s.data.toList (l.map un) (by rw [Lib.size_eq]; omega) h3.symm
  have hV : Vld l := fun t ht hk => hv (un t) (List.mem_map_of_mem ht) hk
  refine ⟨endL_of h4, fun t ht hk => ?_, hV⟩
  have := hV t ht hk
  unfold validL at this
  simp only [Bool.and_eq_true, decide_eq_true_eq] at this
  exact this.1.2
theorem tokAt_codeP {s : ByteArray} {k c : Nat} (h : tokAt s k = .bad c) : 0 < c := by
  unfold tokAt at h
  split at h
  · cases h
  · split at h
    · cases h
    · split at h
      · split at h
        · cases h
        · injection h with h; omega
      · split at h
        · split at h
          · cases h
          · injection h with h; omega
        · split at h
          · cases h
          · injection h with h; omega
theorem toks_code (s : ByteArray) : ∀ (f k c i j : Nat), toks s f k = .bad c i j → 0 < c
  | 0, k, c, i, j, h => by cases h
  | f + 1, k, c, i, j, h => by
    rw [toks] at h
    split at h
    · rename_i e he
      injection h with h1 h2 h3
      subst h1
      exact tokAt_codeP he
    · split at h
      · cases h
      · rename_i kind text v stop _ _
        cases hr : toks s f stop with
        | ok l => rw [hr] at h; cases h
        | bad c2 i2 j2 =>
          rw [hr] at h
          injection h with h1 h2 h3
          subst h1
          exact toks_code s f stop c2 i2 j2 hr
theorem out_code {s : ByteArray} {c i j : Nat} (h : outOf s = .bad c i j) : 0 < c := by
  unfold outOf at h
  by_cases hs : s.size ≤ 1048576
  · rw [if_pos hs] at h; exact toks_code s _ _ c i j h
  · rw [if_neg hs] at h; injection h with h; omega
/-- What a text denotes: the tokens, then their readers. -/
def parseO (s : ByteArray) : Except Flt PC := match outOf s with
  | .bad c i j => .error (c, i, j)
  | .ok l => parseT l
def parseRO (s : ByteArray) : Except Flt PC := match outOf s with
  | .bad c i j => .error (c, i, j)
  | .ok l => parseRecT l
theorem Lf.post {α : Type} {m : PM α} {s s' : RS} {a : α} {P : α → Prop} (h : Lf m s a s') (hp : PostO m P) (he : s'.err = none) (hz : s.err = none → Tsz s.l) : s.err = none ∧ Tsz s'.l ∧ P a := by
  have h0 : s.err = none := by
    cases h0 : s.err with
    | none => rfl
    | some f => have := h.dead f h0; rw [he] at this; cases this
  cases hm : m s.l with
  | error f => have := h.bad h0 f hm; rw [he] at this; cases this
  | ok x =>
    obtain ⟨a0, r⟩ := x
    obtain ⟨e1, e2, _⟩ := h.ok h0 a0 r hm
    obtain ⟨h1, h2⟩ := hp s.l a0 r (hz h0) hm
    rw [e1, e2]
    exact ⟨h0, h1, h2⟩
end Go.Proofs.YtdpieljopelkhaaGreatDoor
namespace Go.Proofs.YtdpieljopelkhaaGreatDoor
open Go.RowKit Go.Lib Go.Maps
set_option linter.unusedVariables false

open Classical in
/-- How a function of a table reads: its number. -/
noncomputable def fnR (vs : Nat → Value) (v : Value) : Option (DataW Unit × List MemPlace) :=
  if h : ∃ i, vs i = v then some (.lit (.int .i64 ((Classical.choose h : Nat) : Int)), []) else none
noncomputable def fnD (vs : Nat → Value) (i : Nat) : DataW Unit := .lit (.int .i64 ((Classical.choose (⟨i, rfl⟩ : ∃ j, vs j = vs i) : Nat) : Int))
theorem fnR_at (vs : Nat → Value) (i : Nat) : fnR vs (vs i) = some (fnD vs i, []) := by
  unfold fnR fnD
  rw [dif_pos ⟨i, rfl⟩]
theorem fnR_inj {vs : Nat → Value} {v : Value} {i : Nat} {ps : List MemPlace} (h : fnR vs v = some (fnD vs i, ps)) : v = vs i := by
  unfold fnR fnD at h
  by_cases hv : ∃ j, vs j = v
  · rw [dif_pos hv] at h
    injection h with h
    injection h with h _
    injection h with h
    injection h with _ h
    have h2 : Classical.choose hv = Classical.choose (⟨i, rfl⟩ : ∃ j, vs j = vs i) := by omega
    have h3 := Classical.choose_spec hv
    have h4 := Classical.choose_spec (⟨i, rfl⟩ : ∃ j, vs j = vs i)
    rw [← h3, h2, h4]
  · rw [dif_neg hv] at h; cases h
def sectW : Nat → List UInt8
  | 1 => [112, 97, 114, 116, 105, 116, 105, 111, 110]
  | 2 => [119, 105, 110, 100, 111, 119]
  | 3 => [114, 101, 103, 105, 111, 110]
  | 4 => [112, 111, 114, 116]
  | _ => [99, 104, 97, 110, 110, 101, 108]
noncomputable def tabD (vs : Nat → Value) : DataW Unit :=
  (((((DataW.map []).put (.string (sectW 1)) (fnD vs 1)).put (.string (sectW 2)) (fnD vs 2)).put (.string (sectW 3)) (fnD vs 3)).put (.string (sectW 4)) (fnD vs 4)).put (.string (sectW 5)) (fnD vs 5)
theorem tab_look (vs : Nat → Value) (t : List UInt8) : (∀ z, (tabD vs).atKey (.string t) z = if sectN t = 0 then z else fnD vs (sectN t)) ∧ Maps.has (tabD vs) (.string t) = decide (0 < sectN t) := by
  have ky : ∀ x : List UInt8, WideAt.IsKeyLit (.string x) := fun x => by simp [WideAt.IsKeyLit]
  have m0 : IsMap (DataW.map [] : DataW Unit) := ⟨[], rfl⟩
  have m1 := m0.put (.string (sectW 1)) (fnD vs 1)
  have m2 := m1.put (.string (sectW 2)) (fnD vs 2)
  have m3 := m2.put (.string (sectW 3)) (fnD vs 3)
  have m4 := m3.put (.string (sectW 4)) (fnD vs 4)
  have ne : ∀ {x y : List UInt8}, x ≠ y → (Lit.string x) ≠ .string y := fun h e => h (by injection e)
  by_cases h5 : t = sectW 5
  · subst h5
    have hs : sectN (sectW 5) = 5 := by decide
    rw [hs]
    exact ⟨fun z => atKey_put_same m4 (ky _) _ z, has_put_same m4 (ky _) _⟩
  by_cases h4 : t = sectW 4
  · subst h4
    have hs : sectN (sectW 4) = 4 := by decide
    rw [hs]
    unfold tabD
    refine ⟨fun z => ?_, ?_⟩
    · rw [atKey_put_other (ne h5)]; exact atKey_put_same m3 (ky _) _ z
    · rw [has_put_other (ne h5)]; exact has_put_same m3 (ky _) _
  by_cases h3 : t = sectW 3
  · subst h3
    have hs : sectN (sectW 3) = 3 := by decide
    rw [hs]
    unfold tabD
    refine ⟨fun z => ?_, ?_⟩
    · rw [atKey_put_other (ne h5), atKey_put_other (ne h4)]; exact atKey_put_same m2 (ky _) _ z
    · rw [has_put_other (ne h5), has_put_other (ne h4)]; exact has_put_same m2 (ky _) _
  by_cases h2 : t = sectW 2
  · subst h2
    have hs : sectN (sectW 2) = 2 := by decide
    rw [hs]
    unfold tabD
    refine ⟨fun z => ?_, ?_⟩
    · rw [atKey_put_other (ne h5), atKey_put_other (ne h4), atKey_put_other (ne h3)]; exact atKey_put_same m1 (ky _) _ z
    · rw [has_put_other (ne h5), has_put_other (ne h4), has_put_other (ne h3)]; exact has_put_same m1 (ky _) _
  by_cases h1 : t = sectW 1
  · subst h1
    have hs : sectN (sectW 1) = 1 := by decide
    rw [hs]
    unfold tabD
    refine ⟨fun z => ?_, ?_⟩
    · rw [atKey_put_other (ne h5), atKey_put_other (ne h4), atKey_put_other (ne h3), atKey_put_other (ne h2)]; exact atKey_put_same m0 (ky _) _ z
    · rw [has_put_other (ne h5), has_put_other (ne h4), has_put_other (ne h3), has_put_other (ne h2)]; exact has_put_same m0 (ky _) _
  have hs : sectN t = 0 := by
    show (if t = sectW 1 then 1 else if t = sectW 2 then 2 else if t = sectW 3 then 3 else if t = sectW 4 then 4 else if t = sectW 5 then 5 else 0) = 0
    rw [if_neg h1, if_neg h2, if_neg h3, if_neg h4, if_neg h5]
  rw [hs]
  unfold tabD
  refine ⟨fun z => ?_, ?_⟩
  · rw [atKey_put_other (ne h5), atKey_put_other (ne h4), atKey_put_other (ne h3), atKey_put_other (ne h2), atKey_put_other (ne h1)]; rfl
  · rw [has_put_other (ne h5), has_put_other (ne h4), has_put_other (ne h3), has_put_other (ne h2), has_put_other (ne h1)]; rfl
section
variable {H : Type} {P : Program} {w : World} {ops : Array Oper} {rest : List Oper} {o : Oper} {a : Act} {Q : Exit → Act → World → Prop}
end
end Go.Proofs.YtdpieljopelkhaaGreatDoor
namespace Go.Proofs.YtdpieljopelkhaaGreatDoor
open Go.Lib
set_option linter.unusedVariables false

def SufO {α : Type} (m : PM α) : Prop := ∀ l a r, m l = .ok (a, r) → r <:+ l
theorem suf_bind {α β : Type} {m : PM α} {f : α → PM β} (hm : SufO m) (hf : ∀ a, SufO (f a)) : SufO (bindT m f) := fun l b r h => by
  unfold bindT at h
  cases hx : m l with
  | error e => rw [hx] at h; cases h
  | ok x =>
    obtain ⟨a, s⟩ := x
    rw [hx] at h
    exact (hf a s b r h).trans (hm l a s hx)
theorem suf_pure {α : Type} (a : α) : SufO (pureT a) := fun l b r e => by
  unfold pureT at e
  injection e with e
  injection e with e1 e2
  subst e2
  exact List.suffix_refl _
theorem suf_fail {α : Type} (c : Nat) : SufO (failT c : PM α) := fun l a r h => by cases h
theorem suf_err {α : Type} (e : Flt) : SufO (fun _ => .error e : PM α) := fun l a r h => by cases h
theorem suf_want (x : List UInt8) : SufO (wantT x) := fun l a r h => by
  unfold wantT at h
  cases hi : isT x l with
  | false => rw [hi] at h; cases h
  | true =>
    rw [hi, if_pos rfl] at h
    injection h with h
    injection h with _ h
    subst h
    exact List.tail_suffix l
theorem suf_take (k : Nat) : SufO (takeT k) := fun l a r h => by
  cases l with
  | nil => cases h
  | cons t l =>
    unfold takeT at h
    simp only at h
    by_cases hk : t.kind = k
    · rw [if_pos hk] at h
      injection h with h
      injection h with h1 h2
      subst h2
      exact List.suffix_cons _ _
    · rw [if_neg hk] at h; cases h
theorem suf_num (most : Nat) : SufO (numT most) := fun l a r h => by
  unfold numT at h
  cases hx : takeT 2 l with
  | error e => rw [hx] at h; cases h
  | ok x =>
    obtain ⟨t, s⟩ := x
    rw [hx] at h
    simp only at h
    by_cases hn : t.val ≤ most
    · rw [if_pos hn] at h
      injection h with h
      injection h with h1 h2
      subst h2
      exact suf_take 2 l t s hx
    · rw [if_neg hn] at h; cases h
theorem suf_field (w : List UInt8) (n : Nat) : SufO (fieldT w n) := suf_bind (suf_want w) fun _ => suf_bind (suf_num n) fun _ => suf_bind (suf_want _) fun _ => suf_pure _
theorem suf_choice (a b : List UInt8) : SufO (choiceT a b) := fun l x r h => by
  unfold choiceT at h
  cases hi : isT b l with
  | true => rw [hi, if_pos rfl] at h; exact suf_bind (suf_want b) (fun _ => suf_bind (suf_want _) fun _ => suf_pure _) l x r h
  | false => rw [hi, if_neg (by simp)] at h; exact suf_bind (suf_want a) (fun _ => suf_bind (suf_want _) fun _ => suf_pure _) l x r h
theorem suf_rights : SufO rightsT := suf_bind (suf_take 1) fun t => by
  cases h : rightsN t.text with
  | none => exact suf_err _
  | some r => exact suf_pure _
theorem suf_shared : SufO sharedT := fun l x r h => by
  unfold sharedT at h
  cases hi : isT [115, 104, 97, 114, 101, 100] l with
  | true => rw [hi, if_pos rfl] at h; exact suf_bind (suf_want _) (fun _ => suf_bind (suf_want _) fun _ => suf_pure _) l x r h
  | false =>
    rw [hi, if_neg (by simp)] at h
    injection h with h
    injection h with _ h
    subst h
    exact List.suffix_refl _
theorem suf_dests : ∀ f links, SufO (destsT f links)
  | 0, _ => suf_fail 4
  | f + 1, links => fun l a r h => by
    unfold destsT at h
    cases hx : numT 65535 l with
    | error e => rw [hx] at h; cases h
    | ok x =>
      obtain ⟨n, s⟩ := x
      rw [hx] at h
      have hs := suf_num 65535 l n s hx
      simp only at h
      by_cases hl : 1024 ≤ links
      · rw [if_pos hl] at h; cases h
      · rw [if_neg hl] at h
        cases hi : isT [44] s with
        | false =>
          rw [hi, if_neg (by simp)] at h
          injection h with h
          injection h with h1 h2
          subst h2
          exact hs
        | true =>
          rw [hi, if_pos rfl] at h
          cases hd : destsT f (links + 1) s.tail with
          | error e => rw [hd] at h; cases h
          | ok y =>
            obtain ⟨ns, r2⟩ := y
            rw [hd] at h
            simp only at h
            injection h with h
            injection h with h1 h2
            subst h2
            exact ((suf_dests f (links + 1) s.tail ns r2 hd).trans (List.tail_suffix s)).trans hs
theorem suf_to (links : Nat) : SufO (toT links) := suf_bind (suf_want _) fun _ l a r h => by
  by_cases hi : isT [59] l = true
  · rw [if_pos hi] at h
    injection h with h
    injection h with h1 h2
    subst h2
    exact List.suffix_refl _
  · rw [if_neg hi] at h
    exact suf_dests _ _ l a r h
theorem suf_body (k : Nat) (c : PC) : SufO (bodyT k c) := by
  unfold bodyT
  by_cases h1 : k = 1
  · rw [if_pos h1]; exact suf_bind (suf_num _) fun _ => suf_bind (suf_take _) fun _ => suf_bind (suf_want _) fun _ => suf_bind (suf_field _ _) fun _ => suf_bind (suf_field _ _) fun _ => suf_pure _
  rw [if_neg h1]
  by_cases h2 : k = 2
  · rw [if_pos h2]; exact suf_bind (suf_num _) fun _ => suf_bind (suf_want _) fun _ => suf_bind (suf_field _ _) fun _ => suf_bind (suf_field _ _) fun _ => suf_pure _
  rw [if_neg h2]
  by_cases h3 : k = 3
  · rw [if_pos h3]; exact suf_bind (suf_num _) fun _ => suf_bind (suf_want _) fun _ => suf_bind (suf_field _ _) fun _ => suf_bind (suf_field _ _) fun _ => suf_bind (suf_want _) fun _ => suf_bind suf_rights fun _ => suf_bind (suf_want _) fun _ => suf_bind suf_shared fun _ => suf_pure _
  rw [if_neg h3]
  by_cases h4 : k = 4
  · rw [if_pos h4]; exact suf_bind (suf_num _) fun _ => suf_bind (suf_take _) fun _ => suf_bind (suf_want _) fun _ => suf_bind (suf_field _ _) fun _ => suf_bind (suf_choice _ _) fun _ => suf_bind (suf_choice _ _) fun _ => suf_bind (suf_field _ _) fun _ => suf_pure _
  rw [if_neg h4]
  exact suf_bind (suf_num _) fun _ => suf_bind (suf_want _) fun _ => suf_bind (suf_field _ _) fun _ => suf_bind (suf_to _) fun _ => suf_bind (suf_want _) fun _ => suf_pure _
/-- A bound on every token's text goes on to what is left. -/
def TxtLe (l : List Token) : Prop := ∀ t ∈ l, t.text.length ≤ 9223372036854775807
theorem TxtLe.suf {l r : List Token} (h : TxtLe l) (hs : r <:+ l) : TxtLe r := fun t ht => h t (hs.subset ht)
end Go.Proofs.YtdpieljopelkhaaGreatDoor
namespace Go.Proofs.YtdpieljopelkhaaGreatDoor
open Go.Lib
set_option linter.unusedVariables false

theorem tokAt_len {s : ByteArray} {k kind v stop : Nat} {text : List UInt8} (h : tokAt s k = .tok kind text v stop) (hk : kind ≠ 3) : text.length ≤ s.size + 1 := by
  have hz := Lib.size_eq s
  have hd : (s.data.toList.drop k).length ≤ s.size := by rw [List.length_drop]; omega
  unfold tokAt at h
  split at h
  · injection h with h1 h2; subst h2; simp
  · rename_i c r hcr
    rw [hcr] at hd
    have ht : ∀ n, ((c :: r).take n).length ≤ s.size + 1 := fun n => by rw [List.length_take]; omega
    split at h
    · injection h with h1 h2; subst h2; exact ht _
    · split at h
      · split at h
        · injection h with h1 h2; subst h2; exact ht _
        · cases h
      · split at h
        · split at h
          · injection h with h1 h2; exact absurd h1.symm hk
          · cases h
        · split at h
          · injection h with h1 h2; subst h2; simp
          · cases h
theorem toks_len (s : ByteArray) : ∀ f k l, toks s f k = .ok l → ∀ t ∈ l, t.kind ≠ 3 → t.text.length ≤ s.size + 1
  | 0, k, l, h => by unfold toks at h; injection h with h; subst h; intro t ht; cases ht
  | f + 1, k, l, h => by
    unfold toks at h
    cases hT : tokAt s (skipAt s k) with
    | bad e => rw [hT] at h; cases h
    | tok kind text v stop =>
      rw [hT] at h
      simp only at h
      have h1 : ∀ J, (mkTok s J kind text v).kind ≠ 3 → (mkTok s J kind text v).text.length ≤ s.size + 1 := fun J hk => tokAt_len hT hk
      by_cases hk : kind = 0
      · rw [if_pos hk] at h
        injection h with h
        subst h
        intro t ht h3
        rw [List.mem_singleton] at ht
        subst ht
        exact h1 _ h3
      · rw [if_neg hk] at h
        cases hr : toks s f stop with
        | bad a b c => rw [hr] at h; cases h
        | ok r =>
          rw [hr] at h
          have h : Out.ok (mkTok s (skipAt s k) kind text v :: r) = .ok l := h
          injection h with h
          subst h
          intro t ht h3
          rcases List.mem_cons.1 ht with rfl | ht
          · exact h1 _ h3
          · exact toks_len s f stop r hr t ht h3
theorem out_txt {s : ByteArray} {l : List Token} (h : outOf s = .ok l) : TxtLe l := fun t ht => by
  obtain ⟨_, hz, _⟩ := out_facts h
  obtain ⟨hs, h2⟩ := out_toks h
  by_cases hk : t.kind = 3
  · have := hz t ht hk; omega
  · have := toks_len s _ _ l h2 t ht hk; omega
end Go.Proofs.YtdpieljopelkhaaGreatDoor
namespace Go.Proofs.YtdpieljopelkhaaGreatDoor
open Go.Lib
set_option linter.unusedVariables false

def alive7 : ByteArray := ⟨#[109, 111, 100, 117, 108, 101, 32, 123, 32, 102, 114, 97, 109, 101, 32, 49, 48, 59, 32, 119, 105, 110, 100, 111, 119, 32, 49, 32, 123, 32, 115, 116, 97, 114, 116, 32, 48, 59, 32, 108, 101, 110, 103, 116, 104, 32, 53, 59, 32, 125, 32, 125]⟩
set_option maxRecDepth 100000 in
theorem alive7_ok : parseO alive7 = .ok ⟨10, [], [⟨0, 5, 1⟩], [], [], []⟩ := by kernel_rfl
end Go.Proofs.YtdpieljopelkhaaGreatDoor
namespace Go.Proofs.YtdpieljopelkhaaGreatDoor
open Go.Lib
set_option linter.unusedVariables false

theorem spc_take : ∀ (l : List UInt8) (b : Bool), spc b (l.take (spc b l)) = spc b l
  | [], b => by cases b <;> rfl
  | c :: r, false => by
    simp only [spc]
    by_cases h : c = 35
    · rw [if_pos h, Nat.add_comm, List.take_succ_cons]
      simp only [spc]
      rw [if_pos h, spc_take r true, Nat.add_comm]
    · rw [if_neg h]
      by_cases h2 : isSp c = true
      · rw [if_pos h2, Nat.add_comm, List.take_succ_cons]
        simp only [spc]
        rw [if_neg h, if_pos h2, spc_take r false, Nat.add_comm]
      · rw [if_neg h2, List.take_zero]; rfl
  | c :: r, true => by
    simp only [spc]
    by_cases h : c = 10
    · rw [if_pos h, Nat.add_comm, List.take_succ_cons]
      simp only [spc]
      rw [if_pos h, spc_take r false, Nat.add_comm]
    · rw [if_neg h, Nat.add_comm, List.take_succ_cons]
      simp only [spc]
      rw [if_neg h, spc_take r true, Nat.add_comm]
/-- A longer piece has the same gap, where what follows is no spacing. -/
theorem spc_more : ∀ (l : List UInt8) (b : Bool) (m : Nat), spc b l ≤ m → spc b (l.take m) = spc b l
  | [], b, m, _ => by rw [List.take_nil]
  | c :: r, false, 0, h => by
    simp only [spc] at h ⊢
    by_cases h1 : c = 35
    · rw [if_pos h1] at h; omega
    · rw [if_neg h1] at h ⊢
      by_cases h2 : isSp c = true
      · rw [if_pos h2] at h; omega
      · rw [if_neg h2]; rfl
  | c :: r, true, 0, h => by
    simp only [spc] at h
    split at h <;> omega
  | c :: r, false, m + 1, h => by
    rw [List.take_succ_cons]
    simp only [spc] at h ⊢
    by_cases h1 : c = 35
    · rw [if_pos h1] at h ⊢; rw [if_pos h1, spc_more r true m (by omega)]
    · rw [if_neg h1] at h ⊢
      rw [if_neg h1]
      by_cases h2 : isSp c = true
      · rw [if_pos h2] at h ⊢; rw [if_pos h2, spc_more r false m (by omega)]
      · rw [if_neg h2, if_neg h2]
  | c :: r, true, m + 1, h => by
    rw [List.take_succ_cons]
    simp only [spc] at h ⊢
    by_cases h1 : c = 10
    · rw [if_pos h1] at h ⊢; rw [if_pos h1, spc_more r false m (by omega)]
    · rw [if_neg h1] at h ⊢; rw [if_neg h1, spc_more r true m (by omega)]
theorem run_more (p : UInt8 → Bool) : ∀ (l : List UInt8) (m : Nat), runLen p l ≤ m → runLen p (l.take m) = runLen p l
  | [], m, _ => by rw [List.take_nil]
  | c :: r, 0, h => by
    simp only [runLen] at h ⊢
    by_cases h1 : p c = true
    · rw [if_pos h1] at h; omega
    · rw [if_neg h1]; rfl
  | c :: r, m + 1, h => by
    rw [List.take_succ_cons]
    simp only [runLen] at h ⊢
    by_cases h1 : p c = true
    · rw [if_pos h1] at h; rw [if_pos h1, if_pos h1, run_more p r m (by omega)]
    · rw [if_neg h1, if_neg h1]
theorem run_takes (p : UInt8 → Bool) (l : List UInt8) (m : Nat) (h : runLen p l ≤ m) : (l.take m).take (runLen p (l.take m)) = l.take (runLen p l) := by
  rw [run_more p l m h, List.take_take, Nat.min_eq_left h]
theorem goL_take : ∀ (l : List UInt8) (e o : Bool) (a n : List UInt8) (k : Bool) (j m : Nat), goL e o a l = some (n, k, j) → j ≤ m → goL e o a (l.take m) = some (n, k, j)
  | [], e, o, a, n, k, j, m, h, _ => by cases h
  | c :: l, e, o, a, n, k, j, m, h, hm => by
    have hj := goL_count (c :: l) e o a n k j h
    obtain ⟨m, rfl⟩ : ∃ m', m = m' + 1 := ⟨m - 1, by omega⟩
    have step : ∀ (e' o' : Bool) (a' : List UInt8), (goL e' o' a' l).map (fun x => (x.1, x.2.1, x.2.2 + 1)) = some (n, k, j) → (goL e' o' a' (l.take m)).map (fun x => (x.1, x.2.1, x.2.2 + 1)) = some (n, k, j) := by
      intro e' o' a' h
      cases hg : goL e' o' a' l with
      | none => rw [hg] at h; cases h
      | some y =>
        obtain ⟨y1, y2, y3⟩ := y
        rw [hg] at h
        have h' := Option.some.inj h
        have h5 : y3 + 1 = j := congrArg (fun x => x.2.2) h'
        rw [goL_take l e' o' a' y1 y2 y3 m hg (by omega)]
        exact h
    rw [List.take_succ_cons]
    rw [goL] at h ⊢
    split at h
    · rename_i h1; rw [if_pos h1]; exact step _ _ _ h
    · rename_i h1
      rw [if_neg h1]
      split at h
      · rename_i h2; rw [if_pos h2]; exact h
      · rename_i h2
        rw [if_neg h2]
        split at h
        · rename_i h3; rw [if_pos h3]; exact step _ _ _ h
        · rename_i h3; rw [if_neg h3]; exact step _ _ _ h
/-- A token at the head is read of every piece that holds it. -/
theorem tokL_take {c : UInt8} {r : List UInt8} {kind v n m : Nat} {text : List UInt8} (h : tokL (c :: r) = .tok kind text v n) (hm : n ≤ m) : tokL ((c :: r).take m) = .tok kind text v n := by
  have hn : 1 ≤ n := (tokL_fine c r kind v n text h).2.2.2.1
  obtain ⟨m, rfl⟩ : ∃ m', m = m' + 1 := ⟨m - 1, by omega⟩
  have ec : (c :: r).take (m + 1) = c :: r.take m := rfl
  have hcons : ∀ (c : UInt8) (r : List UInt8), tokL (c :: r) = if isLet c = true then .tok 1 ((c :: r).take (runLen isLet (c :: r))) 0 (runLen isLet (c :: r))
    else if isDig c = true then
      match parseN ((c :: r).take (runLen isAl (c :: r))) with
      | some v => .tok 2 ((c :: r).take (runLen isAl (c :: r))) v (runLen isAl (c :: r))
      | none => .bad 5
    else if c = 34 then
      match goL false true [] r with
      | some (n, ok, m) => if (ok && validL n) = true then .tok 3 n 0 (1 + m) else .bad 6
      | none => .bad 6
    else if isSign c = true then .tok 4 [c] 0 1
    else .bad 3 := fun _ _ => rfl
  rw [hcons] at h
  rw [ec, hcons]
  by_cases h1 : isLet c = true
  · rw [if_pos h1] at h ⊢
    injection h with e1 e2 e3 e4
    have hl : runLen isLet (c :: r) ≤ m + 1 := by omega
    rw [← ec, run_takes isLet (c :: r) (m + 1) hl, run_more isLet (c :: r) (m + 1) hl, e1, e2, e3, e4]
  · rw [if_neg h1] at h ⊢
    by_cases h2 : isDig c = true
    · rw [if_pos h2] at h ⊢
      cases hp : parseN ((c :: r).take (runLen isAl (c :: r))) with
      | none => rw [hp] at h; cases h
      | some v' =>
        rw [hp] at h
        injection h with e1 e2 e3 e4
        have hl : runLen isAl (c :: r) ≤ m + 1 := by omega
        rw [← ec, run_takes isAl (c :: r) (m + 1) hl, run_more isAl (c :: r) (m + 1) hl, hp]
        simp only
        rw [e1, e2, e3, e4]
    · rw [if_neg h2] at h ⊢
      by_cases h3 : c = 34
      · rw [if_pos h3] at h ⊢
        cases hg : goL false true [] r with
        | none => rw [hg] at h; cases h
        | some y =>
          obtain ⟨y1, y2, y3⟩ := y
          rw [hg] at h
          simp only at h
          by_cases h4 : (y2 && validL y1) = true
          · rw [if_pos h4] at h
            injection h with e1 e2 e3 e4
            rw [goL_take r false true [] y1 y2 y3 m hg (by omega)]
            simp only
            rw [if_pos h4, e1, e2, e3, e4]
          · rw [if_neg h4] at h; cases h
      · rw [if_neg h3] at h ⊢
        by_cases h4 : isSign c = true
        · rw [if_pos h4] at h ⊢; exact h
        · rw [if_neg h4] at h; cases h
/-- How many bytes lie ahead of the i-th token. -/
def startL : Nat → List UInt8 → Nat
  | 0, l => spc false l
  | i + 1, l => match tokL (l.drop (spc false l)) with
    | .tok _ _ _ n => spc false l + n + startL i ((l.drop (spc false l)).drop n)
    | .bad _ => spc false l
/-- The tokens of a piece that ends ahead of the i-th token. -/
theorem tkL_cut : ∀ (f i : Nat) (l : List UInt8) (M : List (Nat × List UInt8 × Nat)), tkL f l = some M → i < M.length → i < f → (∀ x ∈ M.take i, x.1 ≠ 0) → tkL f (l.take (startL i l)) = some (M.take i ++ [(0, [], 0)])
  | 0, i, l, M, h, _, hf, _ => by omega
  | f + 1, 0, l, M, h, hi, _, _ => by
    have e : tkL (f + 1) (l.take (spc false l)) = some [(0, [], 0)] := by
      rw [tkL, spc_take, List.drop_eq_nil_of_le (by rw [List.length_take]; omega)]
      rfl
    exact e
  | f + 1, i + 1, l, M, h, hi, hf, hk => by
    rw [tkL] at h
    cases hT : tokL (l.drop (spc false l)) with
    | bad c => rw [hT] at h; cases h
    | tok kind text v n =>
      rw [hT] at h
      simp only at h
      by_cases h0 : kind = 0
      · rw [if_pos h0] at h
        injection h with h
        subst h
        simp at hi
      · rw [if_neg h0] at h
        cases hr : tkL f ((l.drop (spc false l)).drop n) with
        | none => rw [hr] at h; cases h
        | some N =>
          rw [hr] at h
          injection h with h
          subst h
          have ih := tkL_cut f i ((l.drop (spc false l)).drop n) N hr (by simpa using hi) (by omega) (fun x hx => hk x (by rw [List.take_succ_cons]; exact List.mem_cons_of_mem _ hx))
          have hs : startL (i + 1) l = spc false l + n + startL i ((l.drop (spc false l)).drop n) := by
            conv => lhs; unfold startL
            rw [hT]
          rw [hs]
          have ed : (l.take (spc false l + n + startL i ((l.drop (spc false l)).drop n))).drop (spc false l) = (l.drop (spc false l)).take (n + startL i ((l.drop (spc false l)).drop n)) := by
            rw [List.drop_take]; congr 1; omega
          have es : spc false (l.take (spc false l + n + startL i ((l.drop (spc false l)).drop n))) = spc false l := spc_more l false _ (by omega)
          cases hd : l.drop (spc false l) with
          | nil => rw [hd] at hT; injection hT with e1 _; exact absurd e1.symm h0
          | cons c r =>
            rw [hd] at hT ed ih es
            have ht := tokL_take hT (m := n + startL i ((c :: r).drop n)) (by omega)
            have e2 : ((c :: r).take (n + startL i ((c :: r).drop n))).drop n = ((c :: r).drop n).take (startL i ((c :: r).drop n)) := by
              rw [List.drop_take]; congr 1; omega
            rw [tkL, es, ed, ht]
            simp only
            rw [if_neg h0, e2, ih]
            rfl
/-! ### The law -/
theorem tkL_len : ∀ (f : Nat) (l : List UInt8) (M : List (Nat × List UInt8 × Nat)), tkL f l = some M → M.length ≤ f
  | 0, l, M, h => by
    rw [tkL] at h
    injection h with h
    subst h; simp
  | f + 1, l, M, h => by
    rw [tkL] at h
    cases hT : tokL (l.drop (spc false l)) with
    | bad c => rw [hT] at h; cases h
    | tok kind text v n =>
      rw [hT] at h
      simp only at h
      by_cases h0 : kind = 0
      · rw [if_pos h0] at h
        injection h with h
        subst h; simp
      · rw [if_neg h0] at h
        cases hr : tkL f ((l.drop (spc false l)).drop n) with
        | none => rw [hr] at h; cases h
        | some N =>
          rw [hr] at h
          injection h with h
          subst h
          have := tkL_len f _ N hr
          simp; omega
theorem tkL_kinds : ∀ (f : Nat) (l : List UInt8) (M : List (Nat × List UInt8 × Nat)), tkL f l = some M → ∀ i, i + 1 ≤ M.length → ∀ x ∈ M.take i, x.1 ≠ 0
  | 0, l, M, h, i, hi, x, hx => by
    rw [tkL] at h
    injection h with h
    subst h; simp at hi
  | f + 1, l, M, h, i, hi, x, hx => by
    rw [tkL] at h
    cases hT : tokL (l.drop (spc false l)) with
    | bad c => rw [hT] at h; cases h
    | tok kind text v n =>
      rw [hT] at h
      simp only at h
      by_cases h0 : kind = 0
      · rw [if_pos h0] at h
        injection h with h
        subst h
        have : i = 0 := by simp at hi; omega
        subst this
        cases hx
      · rw [if_neg h0] at h
        cases hr : tkL f ((l.drop (spc false l)).drop n) with
        | none => rw [hr] at h; cases h
        | some N =>
          rw [hr] at h
          injection h with h
          subst h
          cases i with
          | zero => cases hx
          | succ i =>
            rw [List.take_succ_cons] at hx
            rcases List.mem_cons.1 hx with rfl | hx
            · exact h0
            · exact tkL_kinds f _ N hr i (by simp at hi; omega) x hx
theorem parse_like_err {l k : List Token} (h : LikeL l k) {e : Flt} (he : parseT l = .error e) : ∃ f, parseT k = .error f ∧ f.1 = e.1 := by
  unfold parseT endT at he ⊢
  have h1 := like_module l k h
  revert he h1
  cases moduleT l with
  | error e1 => cases moduleT k with
    | error e2 =>
      intro he h1
      injection he with he
      subst he
      exact ⟨e2, rfl, Eq.symm h1⟩
    | ok y => intro _ h; exact h.elim
  | ok x => cases moduleT k with
    | error e2 => intro _ h; exact h.elim
    | ok y =>
      obtain ⟨a, r⟩ := x
      obtain ⟨b, s⟩ := y
      rintro he ⟨h1, h2⟩
      simp only at he ⊢
      rcases like_take 0 h2 with ⟨t, r', u, s', e1, e2, _⟩ | ⟨e3, f3, e1, e2, h3, h4⟩
      · rw [e1] at he; cases he
      · rw [e1] at he
        injection he with he
        subst he
        rw [e2]
        exact ⟨f3, rfl, h4.trans h3.symm⟩
/-- ParseBreaks: a text with a configuration that is cut off ahead of its i-th token. -/
theorem break_law {s s' : ByteArray} {L : List Token} {i : Nat} {c : PC} (h : toks s (s.size + 1) 0 = .ok L) (hc : parseT L = .ok c) (hi : i + 1 < L.length) (hs : s'.data.toList = s.data.toList.take (startL i s.data.toList)) :
    ∃ L', toks s' (s'.size + 1) 0 = .ok L' ∧ L'.map un = (L.take i).map un ++ [(0, [], 0)] ∧ ∃ e, parseT L' = .error e ∧ e.1 = 4 := by
  have h1 := toks_tkL s (s.size + 1) 0
  rw [h, List.drop_zero] at h1
  have h2 : tkL (s.size + 1) s.data.toList = some (L.map un) := h1.symm
  have hl := tkL_len _ _ _ h2
  rw [List.length_map] at hl
  have hk := tkL_kinds _ _ _ h2
  have hcut := tkL_cut (s.size + 1) i s.data.toList (L.map un) h2 (by rw [List.length_map]; omega) (by omega) (hk i (by rw [List.length_map]; omega))
  have hsz : s'.size ≤ s.size := by
    rw [Lib.size_eq, Lib.size_eq, hs, List.length_take]
    exact Nat.min_le_right _ _
  have hf := toks_fuel s' (s'.size + 1) (s.size + 1) 0 (Nat.zero_le _) (by omega) (by omega)
  have h3 := toks_tkL s' (s.size + 1) 0
  rw [List.drop_zero, hs, hcut, ← hf] at h3
  cases ho : toks s' (s'.size + 1) 0 with
  | bad a b d => rw [ho] at h3; cases h3
  | ok L' =>
    rw [ho] at h3
    have h4 : L'.map un = (L.map un).take i ++ [(0, [], 0)] := Option.some.inj h3
    rw [← List.map_take] at h4
    refine ⟨L', rfl, h4, ?_⟩
    have hd : L = L.take i ++ L[i] :: L.drop (i + 1) := by
      rw [List.getElem_cons_drop, List.take_append_drop]
    have ht : L[i].kind ≠ 0 := by
      have := hk (i + 1) (by rw [List.length_map]; omega) (un L[i]) (by rw [← List.map_take]; exact List.mem_map_of_mem (by rw [List.mem_take_iff_getElem]; exact ⟨i, by omega, rfl⟩))
      exact this
    have hp : ∀ u ∈ L.take i, u.kind ≠ 0 := fun u hu => hk i (by rw [List.length_map]; omega) (un u) (by rw [← List.map_take]; exact List.mem_map_of_mem hu)
    rw [hd] at hc
    obtain ⟨e, k1, k2⟩ := parse_brk (E := ⟨0, [], 0, 0, 0⟩) rfl ht hp hc
    have hlike : LikeL (L.take i ++ [⟨0, [], 0, 0, 0⟩]) L' := by
      unfold LikeL
      rw [h4, List.map_append]; rfl
    obtain ⟨f, g1, g2⟩ := parse_like_err hlike k1
    exact ⟨f, g1, g2.trans k2⟩
end Go.Proofs.YtdpieljopelkhaaGreatDoor
namespace Go.Proofs.YtdpieljopelkhaaGreatDoor
open Go.Lib
set_option linter.unusedVariables false

/-- A place ahead of another one. -/
def ltP (p q : Nat × Nat) : Prop := p.1 < q.1 ∨ (p.1 = q.1 ∧ p.2 < q.2)
theorem ltP_trans {p q r : Nat × Nat} (h : ltP p q) (k : ltP q r) : ltP p r := by
  unfold ltP at *; omega
theorem pass_lt (p : Nat × Nat) (c : UInt8) : ltP p (pass p c) := by
  unfold pass ltP
  by_cases h : c = 10
  · rw [if_pos h]; left; show p.1 < p.1 + 1; omega
  · rw [if_neg h]; right; exact ⟨rfl, Nat.lt_succ_self _⟩
theorem place_lt : ∀ (l : List UInt8) (p : Nat × Nat), l ≠ [] → ltP p (placeFrom p l)
  | [], p, h => absurd rfl h
  | [c], p, _ => pass_lt p c
  | c :: d :: l, p, _ => ltP_trans (pass_lt p c) (place_lt (d :: l) (pass p c) (by simp))
theorem placeAt_lt (s : ByteArray) {a b : Nat} (h : a < b) (hb : b ≤ s.size) : ltP (placeAt s a) (placeAt s b) := by
  unfold placeAt
  have e : s.data.toList.take b = s.data.toList.take a ++ (s.data.toList.drop a).take (b - a) := by
    have : b = a + (b - a) := by omega
    conv => lhs; rw [this]
    exact List.take_add
  rw [e, placeFrom_append]
  refine place_lt _ _ ?_
  intro h0
  have := congrArg List.length h0
  have hs := Lib.size_eq s
  rw [List.length_take, List.length_drop, List.length_nil] at this
  omega
/-- The place of the i-th token. -/
theorem toks_place (s : ByteArray) : ∀ (f k i : Nat) (L : List Token) (hi : i < L.length), toks s f k = .ok L → (L[i].line, L[i].col) = placeAt s (k + startL i (s.data.toList.drop k))
  | 0, k, i, L, hi, h => by
    rw [toks] at h
    injection h with h
    subst h; simp at hi
  | f + 1, k, i, L, hi, h => by
    have e : (s.data.toList.drop k).drop (spc false (s.data.toList.drop k)) = s.data.toList.drop (skipAt s k) := by
      unfold skipAt; rw [List.drop_drop]
    rw [toks, tokAt_tokL] at h
    cases hT : tokL (s.data.toList.drop (skipAt s k)) with
    | bad c => rw [hT] at h; cases h
    | tok kind text v n =>
      rw [hT] at h
      simp only [Tk.shift] at h
      by_cases h0 : kind = 0
      · rw [if_pos h0] at h
        injection h with h
        subst h
        have hz : i = 0 := by simp at hi; omega
        subst hz
        rfl
      · rw [if_neg h0] at h
        cases hr : toks s f (skipAt s k + n) with
        | bad a b d => rw [hr] at h; cases h
        | ok N =>
          rw [hr] at h
          injection h with h
          subst h
          cases i with
          | zero => rfl
          | succ i =>
            have hi2 : i < N.length := by simpa using hi
            have ih := toks_place s f (skipAt s k + n) i N hi2 hr
            have hs : startL (i + 1) (s.data.toList.drop k) = spc false (s.data.toList.drop k) + n + startL i (s.data.toList.drop (skipAt s k + n)) := by
              conv => lhs; unfold startL
              rw [e, hT]
              show spc false (s.data.toList.drop k) + n + startL i ((s.data.toList.drop (skipAt s k)).drop n) = _
              rw [List.drop_drop]
            rw [hs]
            show (N[i].line, N[i].col) = _
            rw [ih]
            congr 1
            unfold skipAt
            omega
end Go.Proofs.YtdpieljopelkhaaGreatDoor
