/- What 'visit' passes to its function, in plain words, and the depth and the pairs that come of it (chapter 14). No program in sight. -/
import Derived.Test.YthccadabblkalaaGreatSwHeap
namespace Go.Proofs.YthccadabblkalaaGreat
open Go.Sort

/-- 'for open.Len() > 0 && open.items[0].last() < lo { heap.Pop(open) }', so many rounds at most. -/
def drain (lo : Nat) : Nat → Array Itm → Array Itm
  | 0, O => O
  | f + 1, O => if 0 < O.size ∧ lastI O[0]! < lo then drain lo f (hpop lastI O) else O
theorem drain_step (lo f : Nat) (O : Array Itm) (h0 : 0 < O.size) (h : lastI O[0]! < lo) : drain lo (f + 1) O = drain lo f (hpop lastI O) := by
  rw [drain, if_pos ⟨h0, h⟩]
theorem drain_stop (lo f : Nat) (O : Array Itm) (h : O.size = 0 ∨ lo ≤ lastI O[0]!) : drain lo f O = O := by
  cases f with
  | zero => rfl
  | succ f => rw [drain, if_neg (by omega)]
theorem drain_spec (lo : Nat) : ∀ (f : Nat) (O : Array Itm), O.size ≤ f → IsHeap lastI O.size O →
    IsHeap lastI (drain lo f O).size (drain lo f O) ∧ (drain lo f O).toList.Perm (O.toList.filter fun y => decide (lo ≤ lastI y)) := by
  intro f
  induction f with
  | zero =>
    intro O h hh
    have h0 : O = #[] := Array.eq_empty_of_size_eq_zero (by omega)
    subst h0
    exact ⟨hh, List.Perm.refl _⟩
  | succ f ih =>
    intro O h hh
    by_cases h0 : 0 < O.size
    · by_cases hl : lastI O[0]! < lo
      · rw [drain_step lo f O h0 hl]
        obtain ⟨p1, p2, p3⟩ := hpop_spec lastI O hh h0
        obtain ⟨q1, q2⟩ := ih (hpop lastI O) (by omega) p2
        refine ⟨q1, q2.trans ?_⟩
        have := p3.filter fun y => decide (lo ≤ lastI y)
        rw [List.filter_cons_of_neg (by simp; omega)] at this
        exact this
      · rw [drain_stop lo (f + 1) O (.inr (by omega))]
        refine ⟨hh, ?_⟩
        rw [List.filter_eq_self.2]
        intro y hy
        obtain ⟨i, hi, rfl⟩ := List.getElem_of_mem hy
        rw [Array.length_toList] at hi
        have := hh.root i hi
        rw [getElem!_pos O i hi] at this
        simp only [Array.getElem_toList, decide_eq_true_eq]; omega
    · have h0 : O = #[] := Array.eq_empty_of_size_eq_zero (by omega)
      subst h0
      rw [drain_stop lo (f + 1) #[] (.inl rfl)]
      exact ⟨hh, List.Perm.refl _⟩

def visitR : Nat → Array Itm → Array Itm → List (Itm × Array Itm)
  | 0, _, _ => []
  | n + 1, W, O => (W[0]!, drain W[0]!.lo O.size O) :: visitR n (hpop Itm.lo W) (hpush lastI (drain W[0]!.lo O.size O) W[0]!)
/-- Each open list holds, of the items before, those that reach the item. -/
def Vis : List Itm → List (Itm × Array Itm) → Prop
  | _, [] => True
  | seen, (x, O) :: r => O.toList.Perm (seen.filter fun y => decide (x.lo ≤ lastI y)) ∧ Vis (seen ++ [x]) r
theorem visitR_spec : ∀ (n : Nat) (W O : Array Itm) (seen : List Itm) (t : Nat), W.size = n → IsHeap Itm.lo W.size W → IsHeap lastI O.size O →
    O.toList.Perm (seen.filter fun y => decide (t ≤ lastI y)) → (∀ y ∈ W.toList, t ≤ y.lo ∧ y.lo ≤ lastI y) →
    Vis seen (visitR n W O) ∧ ((visitR n W O).map Prod.fst).Perm W.toList ∧ ((visitR n W O).map Prod.fst).Pairwise (fun a b => a.lo ≤ b.lo) := by
  intro n
  induction n with
  | zero =>
    intro W O seen t hn _ _ _ _
    have h0 : W = #[] := Array.eq_empty_of_size_eq_zero hn
    subst h0
    exact ⟨trivial, List.Perm.refl _, List.Pairwise.nil⟩
  | succ n ih =>
    intro W O seen t hn hW hO hp hb
    have h0 : 0 < W.size := by omega
    obtain ⟨p1, p2, p3⟩ := hpop_spec Itm.lo W hW h0
    have hx := hb W[0]! (p3.subset (List.mem_cons_self ..))
    obtain ⟨d1, d2⟩ := drain_spec W[0]!.lo O.size O (Nat.le_refl _) hO
    obtain ⟨q1, q2, q3⟩ := hpush_spec lastI (drain W[0]!.lo O.size O) W[0]! d1
    have hmin : ∀ y ∈ (hpop Itm.lo W).toList, W[0]!.lo ≤ y.lo := by
      intro y hy
      have hyW := p3.subset (List.mem_cons_of_mem _ hy)
      obtain ⟨i, hi, rfl⟩ := List.getElem_of_mem hyW
      rw [Array.length_toList] at hi
      have := hW.root i hi
      rw [getElem!_pos W i hi] at this
      simpa using this
    have hd : (drain W[0]!.lo O.size O).toList.Perm (seen.filter fun y => decide (W[0]!.lo ≤ lastI y)) := by
      refine d2.trans ((hp.filter _).trans ?_)
      rw [List.filter_filter]
      refine List.Perm.of_eq (List.filter_congr fun y _ => ?_)
      have := hx.1
      by_cases h : W[0]!.lo ≤ lastI y
      · simp [h]; omega
      · simp [h]
    obtain ⟨r1, r2, r3⟩ := ih (hpop Itm.lo W) (hpush lastI (drain W[0]!.lo O.size O) W[0]!) (seen ++ [W[0]!]) W[0]!.lo (by omega) p2 q2
      (q3.trans (by rw [List.filter_append, List.filter_cons_of_pos (by simpa using hx.2), List.filter_nil]; exact hd.append_right _))
      (fun y hy => ⟨hmin y hy, (hb y (p3.subset (List.mem_cons_of_mem _ hy))).2⟩)
    refine ⟨⟨hd, r1⟩, ?_, ?_⟩
    · rw [visitR, List.map_cons]
      exact (r2.cons _).trans p3
    · rw [visitR, List.map_cons]
      exact List.Pairwise.cons (fun y hy => hmin y (r2.subset hy)) r3
def itemsL (l : List (Nat × Nat)) : List Itm := l.mapIdx fun i s => ⟨s.1, s.2, i⟩
def visitL (l : List (Nat × Nat)) : List (Itm × Array Itm) := visitR l.length (hinit Itm.lo (itemsL l).toArray) #[]
/-- A span that is valid. -/
def okSpan (s : Nat × Nat) : Prop := 1 ≤ s.2 ∧ s.1 + s.2 ≤ 18446744073709551616
def lastS (s : Nat × Nat) : Nat := s.1 + s.2 - 1
theorem itemsL_length (l : List (Nat × Nat)) : (itemsL l).length = l.length := by simp [itemsL]
theorem itemsL_get (l : List (Nat × Nat)) (i : Nat) (h : i < (itemsL l).length) : (itemsL l)[i] = ⟨(l[i]'(by rw [itemsL_length] at h; exact h)).1, (l[i]'(by rw [itemsL_length] at h; exact h)).2, i⟩ := by
  simp [itemsL]
theorem last_ok {x : Itm} (h : okSpan (x.lo, x.len)) : lastI x = x.lo + x.len - 1 ∧ x.lo ≤ lastI x := by
  unfold okSpan at h
  simp only at h
  unfold lastI
  have e : (x.lo + x.len + 18446744073709551615) % 18446744073709551616 = x.lo + x.len - 1 := by omega
  rw [e]; omega
theorem items_ok {l : List (Nat × Nat)} (h : ∀ s ∈ l, okSpan s) : ∀ x ∈ itemsL l, okSpan (x.lo, x.len) ∧ ∃ hi : x.idx < l.length, l[x.idx] = (x.lo, x.len) := by
  intro x hx
  obtain ⟨i, hi, rfl⟩ := List.getElem_of_mem hx
  rw [itemsL_get]
  rw [itemsL_length] at hi
  exact ⟨h _ (List.getElem_mem hi), hi, rfl⟩
theorem visitL_spec (l : List (Nat × Nat)) (h : ∀ s ∈ l, okSpan s) :
    Vis [] (visitL l) ∧ ((visitL l).map Prod.fst).Perm (itemsL l) ∧ ((visitL l).map Prod.fst).Pairwise (fun a b => a.lo ≤ b.lo) := by
  obtain ⟨h1, h2, h3⟩ := hinit_heap Itm.lo (itemsL l).toArray
  have hsz : (itemsL l).toArray.size = l.length := by simp [itemsL]
  obtain ⟨r1, r2, r3⟩ := visitR_spec l.length (hinit Itm.lo (itemsL l).toArray) #[] [] 0 (by rw [h3, hsz]) (by rw [h3]; exact h1) (fun i hi => by simp at hi) (List.Perm.refl _)
    (fun y hy => by
      have := h2.subset hy
      simp only at this
      exact ⟨Nat.zero_le _, (last_ok (items_ok h y (by simpa using this)).1).2⟩)
  exact ⟨r1, r2.trans (by simpa using h2), r3⟩
end Go.Proofs.YthccadabblkalaaGreat
