/- The first window that overlaps an earlier one, in plain words (chapter 15). -/
import Derived.Test.YthccadabblkalaaGreatFrRef3
import Derived.Test.YthccadabblkalaaGreatSwFirst
namespace Go.Proofs.YthccadabblkalaaGreat
open Go.RowKit Go.Sort
set_option linter.unusedVariables false

theorem wLast_ok {s : Nat × Nat} (h : okSpan s) : lastW s = s.1 + s.2 - 1 ∧ s.1 ≤ lastW s := last_ok (x := ⟨s.1, s.2, 0⟩) h
theorem meetB_ok {a b : Nat × Nat} (ha : okSpan a) (hb : okSpan b) : meetB a b = meetS a b := by
  obtain ⟨h1, h2⟩ := wLast_ok ha
  obtain ⟨h3, h4⟩ := wLast_ok hb
  unfold meetB meetS hasB hasS lastS
  rw [h1, h3]
theorem fold_min : ∀ (ps : List (Nat × Nat)) (f : Int × Int), (f.2 < 0 ∧ ps = [] ∧ (ps.foldl (firstStep (fun _ => false)) f).2 = f.2) ∨
    (0 ≤ (ps.foldl (firstStep (fun _ => false)) f).2 ∧ (∀ p ∈ ps, (ps.foldl (firstStep (fun _ => false)) f).2 ≤ (p.2 : Int)) ∧ (0 ≤ f.2 → (ps.foldl (firstStep (fun _ => false)) f).2 ≤ f.2) ∧ ((∃ p ∈ ps, (ps.foldl (firstStep (fun _ => false)) f).2 = (p.2 : Int)) ∨ (ps.foldl (firstStep (fun _ => false)) f).2 = f.2)) := by
  intro ps
  induction ps with
  | nil =>
    intro f
    by_cases hf : f.2 < 0
    · exact .inl ⟨hf, rfl, rfl⟩
    · exact .inr ⟨by simpa using hf, fun p hp => (by cases hp), fun _ => Int.le_refl _, .inr rfl⟩
  | cons p ps ih =>
    intro f
    rw [List.foldl_cons]
    have e : firstStep (fun _ => false) f p = if f.2 < 0 ∨ (p.2 : Int) < f.2 then ((p.1 : Int), (p.2 : Int)) else f := by unfold firstStep; rw [if_neg (by simp)]
    have hs : 0 ≤ (firstStep (fun _ => false) f p).2 ∧ (firstStep (fun _ => false) f p).2 ≤ (p.2 : Int) ∧ (0 ≤ f.2 → (firstStep (fun _ => false) f p).2 ≤ f.2) ∧ ((firstStep (fun _ => false) f p).2 = (p.2 : Int) ∨ (firstStep (fun _ => false) f p).2 = f.2) := by
      rw [e]
      split
      · rename_i h
        exact ⟨by simp, by simp, fun h0 => by simp; omega, .inl rfl⟩
      · rename_i h
        exact ⟨by omega, by omega, fun _ => Int.le_refl _, .inr rfl⟩
    generalize firstStep (fun _ => false) f p = g at *
    obtain ⟨h1, h2, h3, h4⟩ := hs
    rcases ih g with ⟨h5, _, _⟩ | ⟨h5, h6, h7, h8⟩
    · omega
    · refine .inr ⟨h5, fun q hq => ?_, fun h0 => Int.le_trans (h7 h1) (h3 h0), ?_⟩
      · rcases List.mem_cons.1 hq with rfl | hq
        · exact Int.le_trans (h7 h1) h2
        · exact h6 q hq
      · rcases h8 with ⟨q, hq, e8⟩ | e8
        · exact .inl ⟨q, List.mem_cons_of_mem _ hq, e8⟩
        · rcases h4 with h4 | h4
          · exact .inl ⟨p, by simp, by rw [e8, h4]⟩
          · exact .inr (by rw [e8, h4])
theorem overAt_ex {l : List WinR} {j : Nat} (hj : j < l.length) (h : overAt l j = true) : ∃ i, ∃ hi : i < j, meetB (wsp (l[i]'(by omega))) (wsp l[j]) = true := by
  unfold overAt at h
  rw [List.getElem?_eq_getElem hj, List.any_eq_true] at h
  obtain ⟨x, hx, he⟩ := h
  rw [List.mem_take_iff_getElem] at hx
  obtain ⟨i, hi, rfl⟩ := hx
  exact ⟨i, by omega, he⟩
theorem over_eq (l : List WinR) (hok : ∀ s ∈ l.map wsp, okSpan s) : (firstOf (fun _ => false) (pairsR (l.map wsp))).2 = match firstOver l with | some j => (j : Int) | none => -1 := by
  have hget : ∀ i, (hi : i < l.length) → (l.map wsp)[i]! = wsp l[i] := fun i hi => by rw [getElem!_pos _ i (by simpa using hi), List.getElem_map]
  have hmb : ∀ i j, (hi : i < l.length) → (hj : j < l.length) → meetB (wsp l[i]) (wsp l[j]) = meetS (l.map wsp)[i]! (l.map wsp)[j]! := fun i j hi hj => by
    rw [hget i hi, hget j hj]
    exact meetB_ok (hok _ (List.mem_map_of_mem (List.getElem_mem _))) (hok _ (List.mem_map_of_mem (List.getElem_mem _)))
  have hmem : ∀ i j, (hi : i < j) → (hj : j < l.length) → meetB (wsp (l[i]'(by omega))) (wsp l[j]) = true → (i, j) ∈ pairsR (l.map wsp) := fun i j hi hj hm => by
    rw [mem_pairsR]
    exact ⟨hi, by simpa using hj, by rw [← hmb i j (by omega) hj]; exact hm⟩
  unfold firstOf
  rcases fold_min (pairsR (l.map wsp)) (-1, -1) with ⟨_, h0, h1⟩ | ⟨h1, h2, _, h3⟩
  · have hn : firstOver l = none := firstOver_none (fun j hj => overAt_no hj (fun i hi => by
      cases hm : meetB (wsp (l[i]'(by omega))) (wsp l[j]) with
      | false => rfl
      | true => have := hmem i j hi hj hm; rw [h0] at this; cases this))
    rw [hn, h1]
  · rcases h3 with ⟨⟨i, j⟩, hp, e⟩ | e
    · rw [e] at h2 ⊢
      rw [mem_pairsR] at hp
      obtain ⟨hij, hjl, hm⟩ := hp
      have hjl' : j < l.length := by simpa using hjl
      have hs : firstOver l = some j := firstOver_some hjl' (fun a ha => by
        cases ho : overAt l a with
        | false => rfl
        | true =>
          obtain ⟨i', hi', hm'⟩ := overAt_ex (by omega) ho
          have := h2 _ (hmem i' a hi' (by omega) hm')
          simp only at this
          omega) (overAt_yes hjl' hij (by rw [hmb i j (by omega) hjl']; exact hm))
      rw [hs]
    · simp only at e h1
      omega
end Go.Proofs.YthccadabblkalaaGreat
