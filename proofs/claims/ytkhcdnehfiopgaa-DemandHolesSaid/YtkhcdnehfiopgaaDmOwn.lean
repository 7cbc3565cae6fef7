/- A row of windows of the call's own: an element is set, the tail is cleared (chapter 16). -/
import Derived.Test.YtkhcdnehfiopgaaFrWins
import Derived.Laws.IdiomCopy
namespace Go.Proofs.Ytkhcdnehfiopgaa
open Go.RowKit Go.Sort
set_option linter.unusedVariables false

theorem rowL_take {α : Type} {enc : α → List Value} {k : Nat} (hk : ∀ x, (enc x).length = k) {cs : Array Value} {l : List α} :
    (∀ i, (hi : i < l.length) → ∀ j, j < k → cs[i * k + j]? = (enc l[i])[j]?) ↔ cs.toList.take (l.length * k) = l.flatMap enc := by
  have hlen : (l.flatMap enc).length = l.length * k := flat_len enc k hk l
  constructor
  · intro h
    apply List.ext_getElem?
    intro m
    by_cases hm : m < l.length * k
    · have hk0 : 0 < k := by
        rcases Nat.eq_zero_or_pos k with h0 | h0
        · rw [h0, Nat.mul_zero] at hm; omega
        · exact h0
      have e : m = m / k * k + m % k := by have := Nat.div_add_mod m k; rw [Nat.mul_comm] at this; omega
      have hi : m / k < l.length := by rw [Nat.div_lt_iff_lt_mul hk0]; exact hm
      have hj := Nat.mod_lt m hk0
      have h1 := h (m / k) hi (m % k) hj
      have h2 := flat_get enc k hk l (m / k) (m % k) hi hj
      rw [← e] at h1 h2
      rw [List.getElem?_take, if_pos hm, h2, Array.getElem?_toList, h1]
    · rw [List.getElem?_eq_none (by rw [List.length_take]; omega), List.getElem?_eq_none (by rw [hlen]; omega)]
  · intro h i hi j hj
    have hm : i * k + j < l.length * k := by
      have : (i + 1) * k ≤ l.length * k := Nat.mul_le_mul_right _ hi
      rw [Nat.succ_mul] at this; omega
    have h2 := flat_get enc k hk l i j hi hj
    rw [← h, List.getElem?_take, if_pos hm, Array.getElem?_toList] at h2
    exact h2
section
variable {w : World} {base n g c : Nat} {e : TypeId} {M : List WinR}
/-- One element more is known. -/
theorem own_setW (h : w.ownsRow base e 3 (.slice (some ⟨g, 0, none⟩) n c) n (M.flatMap winL)) (hM : M.length = n) {i : Nat} (hi : i < n) (x : WinR) :
    (((w.setCell ⟨g, i * 3, none⟩ (.int .u64 (x.st : Int))).setCell ⟨g, i * 3 + 1, none⟩ (.int .u64 (x.len : Int))).setCell ⟨g, i * 3 + 2, none⟩ (.int .u16 (x.part : Int))).ownsRow base e 3 (.slice (some ⟨g, 0, none⟩) n c) n ((M.set i x).flatMap winL) := by
  rcases h.2 with ⟨h0, _⟩ | ⟨r, cap, cur, hv, hbs, hg, h1, h2, h3, h4⟩
  · cases h0
  · injection hv with e1 e2 e3
    injection e1 with e1
    injection e1 with e1
    subst e1 e3
    have hg' : Blk w g e cur := hg
    have hb := (((hg'.set_ (i * 3) (.int .u64 (x.st : Int))).set_ (i * 3 + 1) (.int .u64 (x.len : Int))).set_ (i * 3 + 2) (.int .u16 (x.part : Int)))
    have hl : (M.set i x).length = n := by rw [List.length_set]; exact hM
    have hms : i * 3 + 2 < cur.size := by rw [h3]; have : (i + 1) * 3 ≤ c * 3 := Nat.mul_le_mul_right _ (by omega); omega
    refine ⟨by rw [flat_len winL 3 winL_len, hl], .inr ⟨g, c, _, rfl, hbs, hb, h1, h2, by simpa using h3, ?_⟩⟩
    rw [← hl]
    refine (rowL_take winL_len).1 (fun q hq j hj => ?_)
    rw [hl] at hq
    have h5 := (rowL_take winL_len).2 (by rw [hM]; exact h4) q (by omega) j hj
    rw [Array.getElem?_setIfInBounds, Array.getElem?_setIfInBounds, Array.getElem?_setIfInBounds, List.getElem_set]
    by_cases e : i = q
    · subst e
      rw [if_pos rfl]
      rcases (show j = 0 ∨ j = 1 ∨ j = 2 by omega) with rfl | rfl | rfl
      · rw [if_neg (by omega), if_neg (by omega), if_pos (Nat.add_zero _).symm, if_pos (by omega)]; rfl
      · rw [if_neg (by omega), if_pos rfl, if_pos (by simp; omega)]; rfl
      · rw [if_pos rfl, if_pos (by simp; omega)]; rfl
    · rw [if_neg e, if_neg (by omega), if_neg (by omega), if_neg (by omega), h5]
theorem blk_setCells : ∀ (vs : List Value) (o : Nat) {w : World} {g : Nat} {t : TypeId} {cs : Array Value}, Blk w g t cs → ∃ cs', Blk (w.setCells g o vs) g t cs' ∧ cs'.size = cs.size ∧ ∀ i, i < o → cs'[i]? = cs[i]?
  | [], o, w, g, t, cs, h => ⟨cs, h, rfl, fun _ _ => rfl⟩
  | v :: r, o, w, g, t, cs, h => by
    obtain ⟨cs', h1, h2, h3⟩ := blk_setCells r (o + 1) (h.set_ o v)
    refine ⟨cs', h1, by rw [h2]; simp, fun i hi => ?_⟩
    rw [h3 i (by omega), Array.getElem?_setIfInBounds, if_neg (by omega)]
theorem but_setCells (g : Nat) : ∀ (vs : List Value) (o : Nat) (w : World), But (· = g) w (w.setCells g o vs)
  | [], _, w => But.refl _ w
  | v :: r, o, w => ((But.refl (· = g) w).setCell (p := ⟨g, o, none⟩) (.inl rfl) v).trans (but_setCells g r (o + 1) _)
/-- The first elements of a row whose other cells are overwritten. -/
theorem own_cutW (h : w.ownsRow base e 3 (.slice (some ⟨g, 0, none⟩) n c) n (M.flatMap winL)) (hM : M.length = n) {i : Nat} (hi : i ≤ n) (vs : List Value) :
    (w.setCells g (i * 3) vs).ownsRow base e 3 (.slice (some ⟨g, 0, none⟩) i c) i ((M.take i).flatMap winL) := by
  rcases h.2 with ⟨h0, _⟩ | ⟨r, cap, cur, hv, hbs, hg, h1, h2, h3, h4⟩
  · cases h0
  · injection hv with e1 e2 e3
    injection e1 with e1
    injection e1 with e1
    subst e1 e3
    have hg' : Blk w g e cur := hg
    obtain ⟨cs', hb, hs, hlow⟩ := blk_setCells vs (i * 3) hg'
    have hl : (M.take i).length = i := by rw [List.length_take]; omega
    refine ⟨by rw [flat_len winL 3 winL_len, hl], .inr ⟨g, c, cs', rfl, hbs, hb, by omega, h2, by rw [hs]; exact h3, ?_⟩⟩
    conv => lhs; rw [← hl]
    refine (rowL_take winL_len).1 (fun q hq j hj => ?_)
    rw [hl] at hq
    have h5 := (rowL_take winL_len).2 (by rw [hM]; exact h4) q (by omega) j hj
    rw [hlow _ (by omega), h5, List.getElem_take]
end
/-- What DeleteFunc has done up to j: the list that lies in the row. -/
structure DelI (p : WinR → Bool) (L M : List WinR) (i j : Nat) : Prop where
  len : M.length = L.length
  lt : i < j
  le : j ≤ L.length
  low : M.take i = (L.take j).filter fun x => !p x
  high : M.drop j = L.drop j
theorem DelI.start {p : WinR → Bool} {L : List WinR} {k : Nat} (hk : k < L.length) (h : ∀ x ∈ L.take k, p x = false) (hp : p L[k] = true) : DelI p L L k (k + 1) := by
  refine ⟨rfl, by omega, by omega, ?_, rfl⟩
  rw [List.take_succ_eq_append_getElem hk, List.filter_append, List.filter_eq_self.2 (fun x hx => by simp [h x hx]), List.filter_cons_of_neg (by simp [hp])]
  simp
theorem DelI.get {p : WinR → Bool} {L M : List WinR} {i j : Nat} (h : DelI p L M i j) (hj : j < L.length) : ∃ hj2 : j < M.length, M[j] = L[j] := by
  have h1 := h.high
  have hl := h.len
  refine ⟨by omega, ?_⟩
  have h2 : (M.drop j)[0]? = (L.drop j)[0]? := by rw [h1]
  rw [List.getElem?_drop, List.getElem?_drop, Nat.add_zero, List.getElem?_eq_getElem hj, List.getElem?_eq_getElem (by omega)] at h2
  injection h2
theorem DelI.drop_succ {p : WinR → Bool} {L M : List WinR} {i j : Nat} (h : DelI p L M i j) : M.drop (j + 1) = L.drop (j + 1) := by
  rw [← List.drop_drop, ← List.drop_drop, h.high]
theorem DelI.skip {p : WinR → Bool} {L M : List WinR} {i j : Nat} (h : DelI p L M i j) (hj : j < L.length) (hp : p L[j] = true) : DelI p L M i (j + 1) := by
  refine ⟨h.len, by have := h.lt; omega, by omega, ?_, h.drop_succ⟩
  rw [h.low, List.take_succ_eq_append_getElem hj, List.filter_append, List.filter_cons_of_neg (by simp [hp])]
  simp
theorem DelI.keep {p : WinR → Bool} {L M : List WinR} {i j : Nat} (h : DelI p L M i j) (hj : j < L.length) (hp : p L[j] = false) : DelI p L (M.set i L[j]) (i + 1) (j + 1) := by
  have hl := h.len
  have hlt := h.lt
  refine ⟨by rw [List.length_set]; exact hl, by omega, by omega, ?_, ?_⟩
  · rw [List.take_succ_eq_append_getElem (by rw [List.length_set]; omega), List.take_set, List.getElem_set_self, List.set_eq_of_length_le (by rw [List.length_take]; omega), h.low, List.take_succ_eq_append_getElem hj, List.filter_append, List.filter_cons_of_pos (by simp [hp])]
    simp
  · rw [List.drop_set_of_lt (by omega)]
    exact h.drop_succ
end Go.Proofs.Ytkhcdnehfiopgaa
