/- ParseBreaks, the plain law: where the loop stops, what the piece denotes (chapter 07). No program in sight. -/
import Derived.Test.YtdpieljopelkhaaGreatDoorMPaLike
namespace Go.Proofs.YtdpieljopelkhaaGreatDoor
open Go.Lib
set_option linter.unusedVariables false

theorem startL_le : ∀ (i : Nat) (l : List UInt8), startL i l ≤ l.length
  | 0, l => spc_le l false
  | i + 1, l => by
    have h := spc_le l false
    have hdl : (l.drop (spc false l)).length = l.length - spc false l := List.length_drop
    unfold startL
    cases hd : l.drop (spc false l) with
    | nil =>
      rw [hd] at hdl
      have e : tokL [] = .tok 0 [] 0 0 := rfl
      rw [e]
      simp only
      have ih := startL_le i (([] : List UInt8).drop 0)
      simp at ih hdl ⊢
      omega
    | cons c r =>
      rw [hd] at hdl
      cases hT : tokL (c :: r) with
      | bad e => exact h
      | tok kind text v n =>
        simp only
        have hn := (tokL_fine c r kind v n text hT).2.2.2.2
        have ih := startL_le i ((c :: r).drop n)
        rw [List.length_drop] at ih
        omega
theorem parse_two {L : List Token} {pc : PC} (hE : EndL L) (h : parseT L = .ok pc) : 2 ≤ L.length := by
  cases L with
  | nil => exact absurd hE (by simp [EndL])
  | cons t r =>
    cases r with
    | cons u r => simp
    | nil =>
      exfalso
      have hk : t.kind = 0 := hE
      have hi : isT [109, 111, 100, 117, 108, 101] [t] = false := by unfold isT; simp [hk]
      unfold parseT endT moduleT at h
      have hb : wantT [109, 111, 100, 117, 108, 101] [t] = .error (4, t.line, t.col) := by
        unfold wantT
        rw [hi, if_neg (by simp)]
        rfl
      unfold bindT at h
      rw [hb] at h
      cases h
/-- What ParseBreaks reads: the tokens, where the loop stops, and what the piece up to there denotes. -/
theorem breaks_law {x : ByteArray} {pc : PC} (h : parseO x = .ok pc) : ∃ L, outOf x = .ok L ∧ 2 ≤ L.length ∧ L.length ≤ x.size + 1 ∧
    ∀ (i : Nat) (hi : i + 1 < L.length), ∃ S, S ≤ x.size ∧ (L[i].line, L[i].col) = placeAt x S ∧ ∀ s' : ByteArray, s'.data.toList = x.data.toList.take S → ∃ f2 f3, parseO s' = .error (4, f2, f3) := by
  unfold parseO at h
  cases ho : outOf x with
  | bad c i j => rw [ho] at h; cases h
  | ok L =>
    rw [ho] at h
    have hE := (out_facts ho).1
    have hT := (out_toks ho).2
    have hx1 := (out_toks ho).1
    have hl : L.length ≤ x.size + 1 := by
      have h1 := toks_tkL x (x.size + 1) 0
      rw [hT, List.drop_zero] at h1
      have := tkL_len _ _ _ h1.symm
      rw [List.length_map] at this
      exact this
    refine ⟨L, rfl, parse_two hE h, hl, fun i hi => ?_⟩
    refine ⟨startL i x.data.toList, by have := startL_le i x.data.toList; rw [← Lib.size_eq] at this; exact this, ?_, fun s' hs => ?_⟩
    · have := toks_place x (x.size + 1) 0 i L (by omega) hT
      rw [List.drop_zero, Nat.zero_add] at this
      exact this
    · obtain ⟨L', h1, _, e, h3, h4⟩ := break_law hT h hi hs
      have hsz : s'.size ≤ 1048576 := by
        have e1 := Lib.size_eq s'
        rw [hs, List.length_take] at e1
        have := Lib.size_eq x
        omega
      obtain ⟨e1, e2, e3⟩ := e
      simp only at h4
      subst h4
      refine ⟨e2, e3, ?_⟩
      unfold parseO outOf
      rw [if_pos hsz, h1]
      exact h3
theorem place_stopB (x : ByteArray) {k S : Nat} (hk : k < S) (hS : S ≤ x.size) : (placeAt x k).1 < (placeAt x S).1 ∨ ((placeAt x k).1 = (placeAt x S).1 ∧ (placeAt x k).2 < (placeAt x S).2) := placeAt_lt x hk hS
theorem place_nextB (x : ByteArray) (k : Nat) (hk : k < x.size) : placeAt x (k + 1) = pass (placeAt x k) x[k] := by
  unfold placeAt
  have hkl : k < x.data.toList.length := by rw [← Lib.size_eq]; exact hk
  rw [List.take_succ_eq_append_getElem hkl, placeFrom_append]
  rfl
theorem place_boundB (x : ByteArray) (k : Nat) : (placeAt x k).1 ≤ 1 + x.size ∧ (placeAt x k).2 ≤ 2 + x.size := by
  have h := placeFrom_le (x.data.toList.take k) (1, 1)
  have hl : (x.data.toList.take k).length ≤ x.size := by rw [List.length_take, Lib.size_eq]; exact Nat.min_le_right _ _
  unfold placeAt
  constructor
  · have := h.1; simp only at this; omega
  · have := h.2; simp only at this; omega
end Go.Proofs.YtdpieljopelkhaaGreatDoor
