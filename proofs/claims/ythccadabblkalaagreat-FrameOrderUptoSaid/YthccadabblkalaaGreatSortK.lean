/- slices.SortFunc's words and the words of rows, brought together: elements of k cells. -/
import Derived.Test.YthccadabblkalaaGreatBut
import Derived.Shelf.SlSortCmp.NoneTotal
namespace Go.Proofs.YthccadabblkalaaGreat
open Go.RowKit Go.Sort
set_option linter.unusedVariables false

theorem own_block {w : World} {base size n : Nat} {e : TypeId} {v : Value} {xs : List Value} (h : w.ownsRow base e size v n xs) : ∀ k, v.ownBlock = some k → base ≤ k ∧ k < w.heap.size := by
  intro k hk
  rcases h.2 with ⟨h0, _⟩ | ⟨r, cap, cur, hv, hbs, hg, _⟩
  · rw [h0] at hk; cases hk
  · have hg' : Blk w r e cur := hg
    rw [hv] at hk
    have : r = k := by simpa [Value.ownBlock] using hk
    subst this
    exact ⟨hbs, hg'.lt⟩
section
variable {α : Type} [Inhabited α] {enc : α → List Value} {k : Nat} {w : World} {base g n cap : Nat} {e : TypeId} {l : List α}
theorem holdsK_of_own (hk : ∀ x, (enc x).length = k) (h : w.ownsRow base e k (.slice (some ⟨g, 0, none⟩) n cap) n (l.flatMap enc)) (hl : l.length = n) : HoldsK enc k w g 0 l.toArray := by
  intro t ht
  rw [size_flatK, List.size_toArray] at ht
  have hk0 : 0 < k := by
    rcases Nat.eq_zero_or_pos k with h0 | h0
    · rw [h0, Nat.mul_zero] at ht; omega
    · exact h0
  have hi : t / k < l.length := by rw [Nat.div_lt_iff_lt_mul hk0]; exact ht
  have hj := Nat.mod_lt t hk0
  obtain ⟨g', e1, _, _, _, hc⟩ := own_cells hk h hl (t / k) hi
  injection e1 with e1
  injection e1 with e1
  subst e1
  have e2 : t / k * k + t % k = t := by have := Nat.div_add_mod t k; rw [Nat.mul_comm] at this; omega
  have h3 := hc (t % k) hj
  rw [e2] at h3
  rw [Nat.zero_add, get_flatK _ _ _ _ (by rw [List.size_toArray]; exact ht), h3]
  have e3 : (l.toArray)[t / k]! = l[t / k] := by rw [getElem!_pos _ _ (by rw [List.size_toArray]; exact hi)]; simp
  rw [e3]
  refine ⟨?_, ?_⟩
  · rw [List.getElem?_eq_getElem (by rw [hk]; exact hj), getElem!_pos _ _ (by rw [hk]; exact hj)]
    rfl
  · rcases h.2 with ⟨h0, _⟩ | ⟨r, cap', cur, hv, hbs, hg, _⟩
    · cases h0
    · injection hv with e4
      injection e4 with e4
      injection e4 with e4
      subst e4
      have hg' : Blk w g e cur := hg
      exact hg'.frozen _
theorem own_sorted (hk : ∀ x, (enc x).length = k) (h : w.ownsRow base e k (.slice (some ⟨g, 0, none⟩) n cap) n (l.flatMap enc)) (hl : l.length = n) (l' : List α) (hl' : l'.length = n) (m : Nat) (os : Array Obj) :
    (sortWorldK enc k w g 0 m l'.toArray os).ownsRow base e k (.slice (some ⟨g, 0, none⟩) n cap) n (l'.flatMap enc) ∧ But (· = g) w (sortWorldK enc k w g 0 m l'.toArray os) := by
  rcases h.2 with ⟨h0, _⟩ | ⟨r, cap', cur, hv, hbs, hg, h1, h2, h3, h4⟩
  · cases h0
  · injection hv with e1 e2 e3
    injection e1 with e1
    injection e1 with e1
    subst e1 e3
    have hg' : Blk w g e cur := hg
    have hlt := hg'.lt
    have hb : But (· = g) w (sortWorldK enc k w g 0 m l'.toArray os) := by
      refine ⟨rfl, rfl, rfl, ?_, fun i hi hn => ?_⟩
      · simp [sortWorldK, grow, putRowK, putRow, mapBlock, Sort.ahead]
      · simp only [sortWorldK, grow, putRowK, putRow, mapBlock, Sort.ahead]
        rw [Array.getElem?_append_left (by simpa using hi), Array.getElem?_modify, if_neg (fun h => hn h.symm)]
    refine ⟨⟨by rw [flat_len enc k hk, hl'], .inr ⟨g, cap, putCells id 0 (flatK enc k l'.toArray) cur, rfl, hbs, ?_, h1, h2, by simpa [putCells] using h3, ?_⟩⟩, hb⟩
    · simp only [sortWorldK, grow, putRowK, putRow, mapBlock, Sort.ahead]
      rw [Array.getElem?_append_left (by simpa using hlt), Array.getElem?_modify, if_pos rfl]
      have hg2 : w.heap[g]? = some (.cells cur e (0, 0)) := hg
      rw [hg2]; rfl
    · apply List.ext_getElem?
      intro t
      by_cases ht : t < n * k
      · have hk0 : 0 < k := by
          rcases Nat.eq_zero_or_pos k with h0 | h0
          · rw [h0, Nat.mul_zero] at ht; omega
          · exact h0
        have hi : t / k < l'.length := by rw [Nat.div_lt_iff_lt_mul hk0, hl']; exact ht
        have hj := Nat.mod_lt t hk0
        have e2 : t / k * k + t % k = t := by have := Nat.div_add_mod t k; rw [Nat.mul_comm] at this; omega
        have h5 := flat_get enc k hk l' (t / k) (t % k) hi hj
        rw [e2] at h5
        have hcs : t < cur.size := by rw [h3]; exact Nat.lt_of_lt_of_le ht (Nat.mul_le_mul_right _ h1)
        rw [List.getElem?_take, if_pos ht, h5, Array.getElem?_toList]
        simp only [putCells, Array.getElem?_mapIdx, Array.getElem?_eq_getElem hcs, Option.map_some]
        rw [if_pos (by simp [hl']; exact ht), Nat.sub_zero, get_flatK _ _ _ _ (by rw [List.size_toArray, hl']; exact ht)]
        have e3 : (l'.toArray)[t / k]! = l'[t / k] := by rw [getElem!_pos _ _ (by rw [List.size_toArray]; exact hi)]; simp
        rw [e3, List.getElem?_eq_getElem (by rw [hk]; exact hj), getElem!_pos _ _ (by rw [hk]; exact hj)]
        rfl
      · rw [List.getElem?_eq_none (by rw [List.length_take]; omega), List.getElem?_eq_none (by rw [flat_len enc k hk, hl']; omega)]
end
end Go.Proofs.YthccadabblkalaaGreat
