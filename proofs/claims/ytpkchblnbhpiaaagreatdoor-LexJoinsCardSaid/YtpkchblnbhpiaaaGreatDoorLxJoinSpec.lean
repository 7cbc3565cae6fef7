/- The tokens of a joined text, in plain words (chapter 06). No program in sight. -/
import Derived.Test.YtpkchblnbhpiaaaGreatDoorLxSpaceSpec
namespace Go.Proofs.YtpkchblnbhpiaaaGreatDoor
open Go.Lib

def un (t : Token) : Nat × List UInt8 × Nat := (t.kind, t.text, t.val)
def wordOf (kind : Nat) (text : List UInt8) : List UInt8 := if kind = 3 then 34 :: (quoteL text ++ [34]) else text
/-- The tokens of a list of bytes, without their places. -/
def tkL : Nat → List UInt8 → Option (List (Nat × List UInt8 × Nat))
  | 0, _ => some []
  | f + 1, l =>
    match tokL (l.drop (spc false l)) with
    | .bad _ => none
    | .tok kind text v n => if kind = 0 then some [(kind, text, v)] else (tkL f ((l.drop (spc false l)).drop n)).map fun M => (kind, text, v) :: M
def okM : Out → Option (List (Nat × List UInt8 × Nat))
  | .ok l => some (l.map un)
  | .bad _ _ _ => none
theorem okM_cons (t : Token) (o : Out) : okM (Out.cons t o) = (okM o).map fun M => un t :: M := by
  cases o <;> rfl
theorem toks_tkL (s : ByteArray) : ∀ (f k : Nat), okM (toks s f k) = tkL f (s.data.toList.drop k) := by
  intro f
  induction f with
  | zero => intro k; rfl
  | succ f ih =>
    intro k
    have e : (s.data.toList.drop k).drop (spc false (s.data.toList.drop k)) = s.data.toList.drop (skipAt s k) := by
      unfold skipAt; rw [List.drop_drop]
    rw [toks, tkL, tokAt_tokL, e]
    cases hT : tokL (s.data.toList.drop (skipAt s k)) with
    | bad c => rfl
    | tok kind text v n =>
      show okM (if kind = 0 then _ else _) = _
      simp only
      by_cases h : kind = 0
      · rw [if_pos h, if_pos h]; rfl
      · rw [if_neg h, if_neg h, okM_cons, ih, List.drop_drop]
        rfl

theorem runLen_take (p : UInt8 → Bool) (d : UInt8) (hd : p d = false) : ∀ (l q : List UInt8), runLen p (l.take (runLen p l) ++ d :: q) = runLen p l := by
  intro l q
  induction l with
  | nil => show runLen p (d :: q) = 0; exact runLen_cons_no p d q hd
  | cons c l ih =>
    by_cases h : p c = true
    · rw [runLen_cons_yes p c l h, Nat.add_comm, List.take_succ_cons, List.cons_append, runLen_cons_yes p c _ h, ih, Nat.add_comm]
    · rw [runLen_cons_no p c l (by simpa using h), List.take_zero, List.nil_append, runLen_cons_no p d q hd]
theorem take_len (p : UInt8 → Bool) (l : List UInt8) : (l.take (runLen p l)).length = runLen p l := by
  rw [List.length_take]; have := runLen_le p l; omega
theorem goL_quote2 (q : List UInt8) : ∀ (l acc : List UInt8) (ok : Bool), goL false ok acc (quoteL l ++ 34 :: q) = some (acc ++ l, ok, (quoteL l).length + 1)
  | [], acc, ok => by
    show goL false ok acc (34 :: q) = _
    rw [goL, if_neg (by decide), if_pos rfl, List.append_nil]; rfl
  | c :: l, acc, ok => by
    have e : quoteL (c :: l) = quoteB c ++ quoteL l := rfl
    rw [e, quoteB]
    by_cases hx : c = 34 ∨ c = 92
    · rw [if_pos hx]
      show goL false ok acc (92 :: c :: (quoteL l ++ 34 :: q)) = _
      have he : isEsc c = true := by rcases hx with h | h <;> (rw [h]; decide)
      rw [goL, if_neg (by decide), if_neg (by decide), if_pos rfl, goL, if_pos rfl, he, Bool.and_true, goL_quote2 q l]
      simp
    · rw [if_neg hx]
      have h34 : ¬ c = 34 := fun h => hx (.inl h)
      have h92 : ¬ c = 92 := fun h => hx (.inr h)
      show goL false ok acc (c :: (quoteL l ++ 34 :: q)) = _
      rw [goL, if_neg (by decide), if_neg h34, if_neg h92, goL_quote2 q l]
      simp
/-- How many bytes were read for a name that was read well: as many as its quoted form has. -/
theorem goL_len : ∀ (l : List UInt8) (e : Bool) (a n : List UInt8) (m : Nat), goL e true a l = some (n, true, m) →
    ∃ x, n = a ++ x ∧ (quoteL x).length + 1 ≤ m + (if e = true then 1 else 0) := by
  intro l
  induction l with
  | nil => intro e a n m h; cases h
  | cons c l ih =>
    intro e a n m h
    rw [goL] at h
    cases e
    · rw [if_neg (by decide)] at h
      by_cases h34 : c = 34
      · rw [if_pos h34] at h
        injection h with h
        injection h with h1 h2
        injection h2 with _ h3
        exact ⟨[], by rw [← h1, List.append_nil], by rw [← h3]; exact Nat.le_refl _⟩
      · rw [if_neg h34] at h
        by_cases h92 : c = 92
        · rw [if_pos h92] at h
          cases hg : goL true true a l with
          | none => rw [hg] at h; cases h
          | some y =>
            obtain ⟨n2, o2, m2⟩ := y
            rw [hg] at h
            injection h with h
            injection h with h1 h2
            injection h2 with h2 h3
            simp only at h1 h2 h3
            subst h1 h2 h3
            obtain ⟨x, hx, hl⟩ := ih true a n2 m2 hg
            rw [if_pos rfl] at hl
            exact ⟨x, hx, by simpa using hl⟩
        · rw [if_neg h92] at h
          cases hg : goL false true (a ++ [c]) l with
          | none => rw [hg] at h; cases h
          | some y =>
            obtain ⟨n2, o2, m2⟩ := y
            rw [hg] at h
            injection h with h
            injection h with h1 h2
            injection h2 with h2 h3
            simp only at h1 h2 h3
            subst h1 h2 h3
            obtain ⟨x, hx, hl⟩ := ih false _ n2 m2 hg
            refine ⟨c :: x, by rw [hx]; simp, ?_⟩
            have e : quoteL (c :: x) = quoteB c ++ quoteL x := rfl
            rw [e, quoteB, if_neg (by rintro (h | h); exact h34 h; exact h92 h)]
            simp at hl ⊢; omega
    · rw [if_pos rfl, Bool.true_and] at h
      by_cases he : isEsc c = true
      · rw [he] at h
        cases hg : goL false true (a ++ [c]) l with
        | none => rw [hg] at h; cases h
        | some y =>
          obtain ⟨n2, o2, m2⟩ := y
          rw [hg] at h
          injection h with h
          injection h with h1 h2
          injection h2 with h2 h3
          simp only at h1 h2 h3
          subst h1 h2 h3
          obtain ⟨x, hx, hl⟩ := ih false _ n2 m2 hg
          refine ⟨c :: x, by rw [hx]; simp, ?_⟩
          have e : quoteL (c :: x) = quoteB c ++ quoteL x := rfl
          have hb : (quoteB c).length ≤ 2 := by unfold quoteB; split <;> simp
          rw [e, List.length_append]
          simp at hl ⊢; omega
      · exfalso
        have he : isEsc c = false := by simpa using he
        rw [he] at h
        have hf := goL_false l false (a ++ [c]) 0
        cases hg : goL false false (a ++ [c]) l with
        | none => rw [hg] at h; cases h
        | some y =>
          obtain ⟨n2, o2, m2⟩ := y
          have hno : ∀ (l : List UInt8) (e : Bool) (a n : List UInt8) (o : Bool) (m : Nat), goL e false a l = some (n, o, m) → o = false := by
            intro l
            induction l with
            | nil => intro e a n o m h; cases h
            | cons d l ih2 =>
              intro e a n o m h
              have step : ∀ (e' : Bool) (a' : List UInt8), (goL e' false a' l).map (fun x => (x.1, x.2.1, x.2.2 + 1)) = some (n, o, m) → o = false := by
                intro e' a' h
                cases hg : goL e' false a' l with
                | none => rw [hg] at h; cases h
                | some y =>
                  obtain ⟨n2, o2, m2⟩ := y
                  rw [hg] at h
                  injection h with h
                  injection h with h1 h2
                  injection h2 with h2 h3
                  simp only at h2
                  rw [← h2]
                  exact ih2 _ _ _ _ _ hg
              rw [goL] at h
              split at h
              · rw [Bool.false_and] at h; exact step _ _ h
              · split at h
                · injection h with h
                  injection h with h1 h2
                  injection h2 with h2 h3
                  exact h2.symm
                · split at h
                  · exact step _ _ h
                  · exact step _ _ h
          have ho := hno l false _ _ _ _ hg
          rw [hg] at h
          injection h with h
          injection h with h1 h2
          injection h2 with h2 h3
          simp only at h2
          rw [ho] at h2
          cases h2

/-- A word that is a token of its own, whatever stands behind a space. -/
structure Fine (kind : Nat) (text : List UInt8) (v : Nat) : Prop where
  tok : ∀ q, tokL (wordOf kind text ++ 32 :: q) = .tok kind text v (wordOf kind text).length
  spc : ∀ q, spc false (wordOf kind text ++ 32 :: q) = 0
  len : 1 ≤ (wordOf kind text).length
  val : kind = 3 → validL text = true
theorem spc_head (c : UInt8) (r : List UInt8) (h : isLet c = true ∨ isDig c = true ∨ c = 34 ∨ isSign c = true) : spc false (c :: r) = 0 := by
  have h2 : ∀ c : UInt8, isLet c = true ∨ isDig c = true ∨ c = 34 ∨ isSign c = true → c ≠ 35 ∧ isSp c = false := by
    intro c h
    refine ⟨?_, ?_⟩
    · rintro rfl
      revert h; decide
    · cases hs : isSp c with
      | false => rfl
      | true =>
        unfold isSp at hs
        simp only [Bool.or_eq_true, beq_iff_eq] at hs
        exfalso
        rcases hs with ((hs | hs) | hs) | hs <;> (subst hs; revert h; decide)
  exact spc_stop c r (h2 c h).1 (h2 c h).2
theorem tokL_fine (c : UInt8) (r : List UInt8) (kind v n : Nat) (text : List UInt8) (h : tokL (c :: r) = .tok kind text v n) :
    kind ≠ 0 ∧ Fine kind text v ∧ (wordOf kind text).length ≤ n ∧ 1 ≤ n ∧ n ≤ (c :: r).length := by
  have hk : kind ≠ 0 := fun e => tokL_kind c r text v n (by rw [h, e])
  refine ⟨hk, ?_⟩
  simp only [tokL] at h
  by_cases h1 : isLet c = true
  · rw [if_pos h1] at h
    injection h with e1 e2 e3 e4
    subst e1 e2 e3 e4
    have hr := runLen_cons_yes isLet c r h1
    have ht : (c :: r).take (runLen isLet (c :: r)) = c :: r.take (runLen isLet r) := by rw [hr, Nat.add_comm, List.take_succ_cons]
    have hw : wordOf 1 ((c :: r).take (runLen isLet (c :: r))) = (c :: r).take (runLen isLet (c :: r)) := rfl
    have hl := take_len isLet (c :: r)
    refine ⟨⟨fun q => ?_, fun q => ?_, by rw [hw, hl, hr]; omega, fun e => by omega⟩, by rw [hw, hl]; exact Nat.le_refl _, by rw [hr]; omega, runLen_le _ _⟩
    · have e1 := runLen_take isLet 32 (by decide) (c :: r) q
      have e2 : ((c :: r).take (runLen isLet (c :: r)) ++ 32 :: q).take (runLen isLet (c :: r)) = (c :: r).take (runLen isLet (c :: r)) := by
        rw [List.take_append_of_le_length (by rw [hl]; exact Nat.le_refl _), List.take_of_length_le (by rw [hl]; exact Nat.le_refl _)]
      rw [hw, hl]
      rw [ht, List.cons_append] at e1 e2 ⊢
      simp only [tokL]
      rw [if_pos h1, e1, e2]
    · rw [hw, ht, List.cons_append]
      exact spc_head c _ (.inl h1)
  · rw [if_neg h1] at h
    by_cases h2 : isDig c = true
    · rw [if_pos h2] at h
      have hal : isAl c = true := by unfold isAl; rw [h2]; simp
      cases hp : parseN ((c :: r).take (runLen isAl (c :: r))) with
      | none => rw [hp] at h; cases h
      | some v' =>
        rw [hp] at h
        injection h with e1 e2 e3 e4
        subst e1 e2 e3 e4
        have hr := runLen_cons_yes isAl c r hal
        have ht : (c :: r).take (runLen isAl (c :: r)) = c :: r.take (runLen isAl r) := by rw [hr, Nat.add_comm, List.take_succ_cons]
        have hw : wordOf 2 ((c :: r).take (runLen isAl (c :: r))) = (c :: r).take (runLen isAl (c :: r)) := rfl
        have hl := take_len isAl (c :: r)
        refine ⟨⟨fun q => ?_, fun q => ?_, by rw [hw, hl, hr]; omega, fun e => by omega⟩, by rw [hw, hl]; exact Nat.le_refl _, by rw [hr]; omega, runLen_le _ _⟩
        · have e1 := runLen_take isAl 32 (by decide) (c :: r) q
          have e2 : ((c :: r).take (runLen isAl (c :: r)) ++ 32 :: q).take (runLen isAl (c :: r)) = (c :: r).take (runLen isAl (c :: r)) := by
            rw [List.take_append_of_le_length (by rw [hl]; exact Nat.le_refl _), List.take_of_length_le (by rw [hl]; exact Nat.le_refl _)]
          rw [hw, hl]
          rw [ht] at hp
          rw [ht, List.cons_append] at e1 e2 ⊢
          simp only [tokL]
          rw [if_neg h1, if_pos h2, e1, e2, hp]
        · rw [hw, ht, List.cons_append]
          exact spc_head c _ (.inr (.inl h2))
    · rw [if_neg h2] at h
      by_cases h3 : c = 34
      · rw [if_pos h3] at h
        cases hg : goL false true [] r with
        | none => rw [hg] at h; cases h
        | some y =>
          obtain ⟨nm, ok, m⟩ := y
          rw [hg] at h
          simp only at h
          by_cases hv : (ok && validL nm) = true
          · rw [if_pos hv] at h
            injection h with e1 e2 e3 e4
            subst e1 e2 e3 e4
            have hok : ok = true := by simp only [Bool.and_eq_true] at hv; exact hv.1
            have hvl : validL nm = true := by simp only [Bool.and_eq_true] at hv; exact hv.2
            subst hok
            obtain ⟨x, hx, hxl⟩ := goL_len r false [] nm m hg
            rw [List.nil_append] at hx
            subst hx
            have hm := goL_count r false true [] nm true m hg
            have hw : wordOf 3 nm = 34 :: (quoteL nm ++ [34]) := rfl
            have hwl : (wordOf 3 nm).length = 1 + ((quoteL nm).length + 1) := by rw [hw]; simp; omega
            have hwq : ∀ q, wordOf 3 nm ++ 32 :: q = 34 :: (quoteL nm ++ 34 :: 32 :: q) := by intro q; rw [hw]; simp
            refine ⟨⟨fun q => ?_, fun q => ?_, by rw [hwl]; omega, fun _ => hvl⟩, by rw [hwl]; simp at hxl; omega, by omega, by simp; omega⟩
            · rw [hwq, hwl]
              simp only [tokL]
              rw [if_neg (by decide), if_neg (by decide), if_pos trivial, goL_quote2]
              simp only [List.nil_append]
              rw [if_pos (by rw [hvl]; rfl)]
            · rw [hwq]
              exact spc_head 34 _ (.inr (.inr (.inl rfl)))
          · rw [if_neg hv] at h; cases h
      · rw [if_neg h3] at h
        by_cases h4 : isSign c = true
        · rw [if_pos h4] at h
          injection h with e1 e2 e3 e4
          subst e1 e2 e3 e4
          have hw : wordOf 4 [c] = [c] := rfl
          refine ⟨⟨fun q => ?_, fun q => ?_, by rw [hw]; exact Nat.le_refl _, fun e => by omega⟩, by rw [hw]; exact Nat.le_refl _, Nat.le_refl _, by simp⟩
          · rw [hw]
            show tokL (c :: 32 :: q) = _
            simp only [tokL]
            rw [if_neg h1, if_neg h2, if_neg h3, if_pos h4]
            rfl
          · rw [hw]
            exact spc_head c _ (.inr (.inr (.inr h4)))
        · rw [if_neg h4] at h; cases h
def joinT : List (Nat × List UInt8 × Nat) → List UInt8
  | [] => []
  | [t] => wordOf t.1 t.2.1
  | t :: u :: r => wordOf t.1 t.2.1 ++ 32 :: joinT (u :: r)
theorem tkL_space (g : Nat) (X : List UInt8) : tkL (g + 1) (32 :: X) = tkL (g + 1) X := by
  have e : spc false (32 :: X) = 1 + spc false X := by
    simp only [spc]; rw [if_neg (by decide), if_pos (by decide)]
  rw [tkL, tkL, e, Nat.add_comm, List.drop_succ_cons]
theorem tkL_join : ∀ (f : Nat) (l : List UInt8) (M : List (Nat × List UInt8 × Nat)), l.length < f → tkL f l = some M →
    M ≠ [] ∧ (∀ g, M.length ≤ g → tkL g (joinT M) = some M) ∧ (joinT M).length ≤ 2 * l.length ∧ M.length ≤ (joinT M).length + 1 ∧ ∀ t ∈ M, t.1 = 3 → validL t.2.1 = true := by
  intro f
  induction f with
  | zero => intro l M h; omega
  | succ f ih =>
    intro l M hl h
    rw [tkL] at h
    have hsp := spc_le l false
    have hdl : (l.drop (spc false l)).length ≤ l.length := by rw [List.length_drop]; omega
    generalize l.drop (spc false l) = d at h hdl
    cases d with
    | nil =>
      have e : tokL [] = .tok 0 [] 0 0 := rfl
      rw [e] at h
      simp only at h
      rw [if_pos trivial] at h
      injection h with h
      subst h
      refine ⟨by simp, fun g hg => ?_, by simp [joinT, wordOf], by simp, fun t ht h3 => ?_⟩
      · obtain ⟨g, rfl⟩ : ∃ g', g = g' + 1 := ⟨g - 1, by simp at hg; omega⟩
        rfl
      · rw [List.mem_singleton] at ht; rw [ht] at h3; simp at h3
    | cons c r =>
      cases hT : tokL (c :: r) with
      | bad e => rw [hT] at h; cases h
      | tok kind text v n =>
        obtain ⟨hk, hF, hwn, hn1, hn2⟩ := tokL_fine c r kind v n text hT
        rw [hT] at h
        simp only at h
        rw [if_neg hk] at h
        cases hr : tkL f ((c :: r).drop n) with
        | none => rw [hr] at h; cases h
        | some M' =>
          rw [hr] at h
          injection h with h
          subst h
          obtain ⟨h1, h2, h3, h4, h5⟩ := ih ((c :: r).drop n) M' (by rw [List.length_drop]; omega) hr
          obtain ⟨u, R, rfl⟩ : ∃ u R, M' = u :: R := by
            cases M' with
            | nil => exact absurd rfl h1
            | cons u R => exact ⟨u, R, rfl⟩
          have hj : joinT ((kind, text, v) :: u :: R) = wordOf kind text ++ 32 :: joinT (u :: R) := rfl
          rw [List.length_drop] at h3
          have hw1 := hF.len
          refine ⟨by simp, fun g hg => ?_, ?_, ?_, fun t ht e3 => ?_⟩
          · obtain ⟨g, rfl⟩ : ∃ g', g = g' + 1 := ⟨g - 1, by simp at hg; omega⟩
            rw [hj, tkL, hF.spc, List.drop_zero, hF.tok]
            simp only
            rw [if_neg hk, List.drop_append_of_le_length (Nat.le_refl _), List.drop_length, List.nil_append]
            obtain ⟨g, rfl⟩ : ∃ g', g = g' + 1 := ⟨g - 1, by simp at hg; omega⟩
            rw [tkL_space, h2 (g + 1) (by simp at hg ⊢; omega)]
            rfl
          · rw [hj, List.length_append, List.length_cons]; omega
          · rw [hj, List.length_append, List.length_cons]
            simp at h4 ⊢; omega
          · rcases List.mem_cons.1 ht with rfl | ht
            · exact hF.val e3
            · exact h5 t ht e3
def outOf' (s : ByteArray) : Out := toks s (s.size + 1) 0
/-- The tokens of the joined text are those of the text, but for their places. -/
theorem out_joinT (s J : ByteArray) (L : List Token) (hs : s.size ≤ 2000) (h : outOf' s = .ok L) (hJ : J.data.toList = joinT (L.map un)) :
    J.size ≤ 4000 ∧ (∃ L', outOf' J = .ok L' ∧ L'.map un = L.map un) ∧ ∀ t ∈ L, t.kind = 3 → validL t.text = true := by
  have hsz := Lib.size_eq s
  have hJz := Lib.size_eq J
  have h1 := toks_tkL s (s.size + 1) 0
  unfold outOf' at h
  rw [h, List.drop_zero] at h1
  obtain ⟨a1, a2, a3, a4, a5⟩ := tkL_join (s.size + 1) s.data.toList (L.map un) (by omega) h1.symm
  have hJ4 : J.size ≤ 4000 := by rw [hJz, hJ]; omega
  refine ⟨hJ4, ?_, fun t ht e => a5 (un t) (List.mem_map_of_mem ht) e⟩
  have h2 := toks_tkL J (J.size + 1) 0
  rw [List.drop_zero, hJ, a2 (J.size + 1) (by rw [hJz, hJ]; exact a4)] at h2
  cases ho : toks J (J.size + 1) 0 with
  | ok L' =>
    rw [ho] at h2
    exact ⟨L', ho, Option.some.inj h2⟩
  | bad c i j => rw [ho] at h2; cases h2
end Go.Proofs.YtpkchblnbhpiaaaGreatDoor
