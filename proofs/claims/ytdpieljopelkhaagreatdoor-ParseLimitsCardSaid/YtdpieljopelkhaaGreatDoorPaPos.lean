/- The code of a fault is not 0 (chapter 07). No program in sight. -/
import Derived.Test.YtdpieljopelkhaaGreatDoorMPaLike
namespace Go.Proofs.YtdpieljopelkhaaGreatDoor
open Go.Lib
set_option linter.unusedVariables false

def Pos {α : Type} (m : PM α) : Prop := ∀ l e, m l = .error e → 0 < e.1
theorem pos_bind {α β : Type} {m : PM α} {f : α → PM β} (hm : Pos m) (hf : ∀ a, Pos (f a)) : Pos (bindT m f) := fun l e h => by
  unfold bindT at h
  cases hx : m l with
  | error e0 =>
    rw [hx] at h
    injection h with h
    subst h
    exact hm l _ hx
  | ok x =>
    obtain ⟨a, r⟩ := x
    rw [hx] at h
    exact hf a r e h
theorem pos_pure {α : Type} (a : α) : Pos (pureT a) := fun l e h => by cases h
theorem pos_fail {α : Type} {c : Nat} (hc : 0 < c) : Pos (failT c : PM α) := fun l e h => by
  unfold failT at h
  injection h with h
  subst h
  exact hc
theorem pos_err {α : Type} {e0 : Flt} (h0 : 0 < e0.1) : Pos (fun _ => .error e0 : PM α) := fun l e h => by
  injection h with h
  subst h
  exact h0
theorem pos_want (x : List UInt8) : Pos (wantT x) := fun l e h => by
  unfold wantT at h
  cases hi : isT x l with
  | true => rw [hi, if_pos rfl] at h; cases h
  | false => rw [hi, if_neg (by simp)] at h; exact pos_fail (by omega) l e h
theorem pos_take (k : Nat) : Pos (takeT k) := fun l e h => by
  unfold takeT at h
  cases l with
  | nil => exact pos_fail (α := Token) (c := 4) (by omega) [] e h
  | cons t r =>
    simp only at h
    by_cases hk : t.kind = k
    · rw [if_pos hk] at h; cases h
    · rw [if_neg hk] at h
      injection h with h
      subst h
      exact Nat.zero_lt_succ _
theorem pos_num (most : Nat) : Pos (numT most) := fun l e h => by
  unfold numT at h
  cases hx : takeT 2 l with
  | error e0 =>
    rw [hx] at h
    injection h with h
    subst h
    exact pos_take 2 l _ hx
  | ok x =>
    obtain ⟨t, r⟩ := x
    rw [hx] at h
    simp only at h
    by_cases hv : t.val ≤ most
    · rw [if_pos hv] at h; cases h
    · rw [if_neg hv] at h
      injection h with h
      subst h
      exact Nat.zero_lt_succ _
theorem pos_field (w : List UInt8) (n : Nat) : Pos (fieldT w n) := pos_bind (pos_want w) fun _ => pos_bind (pos_num n) fun _ => pos_bind (pos_want _) fun _ => pos_pure _
theorem pos_choice (a b : List UInt8) : Pos (choiceT a b) := fun l e h => by
  unfold choiceT at h
  cases hi : isT b l with
  | true => rw [hi, if_pos rfl] at h; exact pos_bind (pos_want b) (fun _ => pos_bind (pos_want _) fun _ => pos_pure true) l e h
  | false => rw [hi, if_neg (by simp)] at h; exact pos_bind (pos_want a) (fun _ => pos_bind (pos_want _) fun _ => pos_pure false) l e h
theorem pos_rights : Pos rightsT := pos_bind (pos_take 1) fun t => by
  cases h : rightsN t.text with
  | none => exact pos_err (Nat.zero_lt_succ _)
  | some r => exact pos_pure _
theorem pos_dests : ∀ f links, Pos (destsT f links)
  | 0, _ => pos_fail (by omega)
  | f + 1, links => fun l e h => by
    unfold destsT at h
    cases hx : numT 65535 l with
    | error e0 =>
      rw [hx] at h
      injection h with h
      subst h
      exact pos_num _ l _ hx
    | ok x =>
      obtain ⟨n, s⟩ := x
      rw [hx] at h
      simp only at h
      by_cases hl : 1024 ≤ links
      · rw [if_pos hl] at h; exact pos_fail (α := List Nat) (c := 7) (by omega) l e h
      · rw [if_neg hl] at h
        cases hi : isT [44] s with
        | false => rw [hi, if_neg (by simp)] at h; cases h
        | true =>
          rw [hi, if_pos rfl] at h
          cases hd : destsT f (links + 1) s.tail with
          | error e0 =>
            rw [hd] at h
            injection h with h
            subst h
            exact pos_dests f _ _ _ hd
          | ok y => rw [hd] at h; cases h
theorem pos_to (links : Nat) : Pos (toT links) := pos_bind (pos_want _) fun _ l e h => by
  cases hi : isT [59] l with
  | true => rw [hi, if_pos rfl] at h; cases h
  | false => rw [hi, if_neg (by simp)] at h; exact pos_dests _ _ l e h
theorem pos_shared : Pos sharedT := fun l e h => by
  unfold sharedT at h
  cases hi : isT [115, 104, 97, 114, 101, 100] l with
  | true => rw [hi, if_pos rfl] at h; exact pos_bind (pos_want _) (fun _ => pos_bind (pos_want _) fun _ => pos_pure true) l e h
  | false => rw [hi, if_neg (by simp)] at h; cases h
theorem pos_body (k : Nat) (c : PC) : Pos (bodyT k c) := by
  unfold bodyT
  split
  · exact pos_bind (pos_num _) fun _ => pos_bind (pos_take 3) fun _ => pos_bind (pos_want _) fun _ => pos_bind (pos_field _ _) fun _ => pos_bind (pos_field _ _) fun _ => pos_pure _
  · split
    · exact pos_bind (pos_num _) fun _ => pos_bind (pos_want _) fun _ => pos_bind (pos_field _ _) fun _ => pos_bind (pos_field _ _) fun _ => pos_pure _
    · split
      · exact pos_bind (pos_num _) fun _ => pos_bind (pos_want _) fun _ => pos_bind (pos_field _ _) fun _ => pos_bind (pos_field _ _) fun _ => pos_bind (pos_want _) fun _ => pos_bind pos_rights fun _ => pos_bind (pos_want _) fun _ => pos_bind pos_shared fun _ => pos_pure _
      · split
        · exact pos_bind (pos_num _) fun _ => pos_bind (pos_take 3) fun _ => pos_bind (pos_want _) fun _ => pos_bind (pos_field _ _) fun _ => pos_bind (pos_choice _ _) fun _ => pos_bind (pos_choice _ _) fun _ => pos_bind (pos_field _ _) fun _ => pos_pure _
        · exact pos_bind (pos_num _) fun _ => pos_bind (pos_want _) fun _ => pos_bind (pos_field _ _) fun _ => pos_bind (pos_to _) fun _ => pos_bind (pos_want _) fun _ => pos_pure _
theorem pos_record (k : Nat) (c : PC) : Pos (recordT k c) := pos_bind (pos_take 1) fun t => by
  by_cases hl : limN k ≤ cntK c k
  · rw [if_pos hl]; exact pos_err (Nat.zero_lt_succ _)
  · rw [if_neg hl]; exact pos_bind (pos_body k c) fun _ => pos_bind (pos_want _) fun _ => pos_pure _
theorem pos_records : ∀ f c, Pos (recordsT f c)
  | 0, c => pos_pure c
  | f + 1, c => fun l e h => by
    unfold recordsT at h
    cases l with
    | nil => cases h
    | cons t r =>
      simp only at h
      by_cases hk : t.kind = 1 ∧ 0 < sectN t.text
      · rw [if_pos hk] at h
        cases hx : recordT (sectN t.text) c (t :: r) with
        | error e0 =>
          rw [hx] at h
          injection h with h
          subst h
          exact pos_record _ _ _ _ hx
        | ok x =>
          obtain ⟨c2, s⟩ := x
          rw [hx] at h
          exact pos_records f c2 s e h
      · rw [if_neg hk] at h; cases h
theorem pos_all (c : PC) : Pos (allRecT c) := fun l e h => pos_records l.length c l e h
theorem pos_module : Pos moduleT := pos_bind (pos_want _) fun _ => pos_bind (pos_want _) fun _ => pos_bind (pos_field _ _) fun n => pos_bind (pos_all _) fun _ => pos_bind (pos_want _) fun _ => pos_pure _
theorem endT_pos {m : PM PC} (hm : Pos m) {l : List Token} {e : Flt} (h : endT m l = .error e) : 0 < e.1 := by
  unfold endT at h
  cases hx : m l with
  | error e0 =>
    rw [hx] at h
    injection h with h
    subst h
    exact hm l _ hx
  | ok x =>
    obtain ⟨a, r⟩ := x
    rw [hx] at h
    simp only at h
    cases hy : takeT 0 r with
    | error e0 =>
      rw [hy] at h
      injection h with h
      subst h
      exact pos_take 0 r _ hy
    | ok y => rw [hy] at h; cases h
theorem parseO_pos {x : ByteArray} {f : Flt} (h : parseO x = .error f) : 0 < f.1 := by
  unfold parseO at h
  cases ho : outOf x with
  | bad c i j =>
    rw [ho] at h
    injection h with h
    subst h
    exact out_code ho
  | ok l => rw [ho] at h; exact endT_pos pos_module h
theorem parseRO_pos {x : ByteArray} {f : Flt} (h : parseRO x = .error f) : 0 < f.1 := by
  unfold parseRO at h
  cases ho : outOf x with
  | bad c i j =>
    rw [ho] at h
    injection h with h
    subst h
    exact out_code ho
  | ok l => rw [ho] at h; exact endT_pos (pos_all _) h
end Go.Proofs.YtdpieljopelkhaaGreatDoor
