/- The depth and the pairs of spans: what comes of the visits is what the reference says (chapter 14). No program in sight. -/
import Derived.Test.YthccadabblkalaaGreatSwVisit
namespace Go.Proofs.YthccadabblkalaaGreat
open Go.Sort

def maxOf {α : Type} (f : α → Nat) (l : List α) : Nat := l.foldl (fun m x => max m (f x)) 0
theorem maxOf_snoc {α : Type} (f : α → Nat) (l : List α) (x : α) : maxOf f (l ++ [x]) = max (maxOf f l) (f x) := by
  unfold maxOf; rw [List.foldl_append]; rfl
theorem foldl_max_ge {α : Type} (f : α → Nat) : ∀ (l : List α) (m : Nat), m ≤ l.foldl (fun m x => max m (f x)) m ∧ ∀ x ∈ l, f x ≤ l.foldl (fun m x => max m (f x)) m := by
  intro l
  induction l with
  | nil => intro m; exact ⟨Nat.le_refl _, fun x hx => by cases hx⟩
  | cons y l ih =>
    intro m
    obtain ⟨h1, h2⟩ := ih (max m (f y))
    refine ⟨by rw [List.foldl_cons]; omega, fun x hx => ?_⟩
    rw [List.foldl_cons]
    rcases List.mem_cons.1 hx with rfl | hx
    · omega
    · exact h2 x hx
theorem foldl_max_le {α : Type} (f : α → Nat) (n : Nat) : ∀ (l : List α) (m : Nat), m ≤ n → (∀ x ∈ l, f x ≤ n) → l.foldl (fun m x => max m (f x)) m ≤ n := by
  intro l
  induction l with
  | nil => intro m h _; exact h
  | cons y l ih =>
    intro m h hx
    rw [List.foldl_cons]
    exact ih _ (by have := hx y (List.mem_cons_self ..); omega) (fun x h => hx x (List.mem_cons_of_mem _ h))
theorem le_maxOf {α : Type} (f : α → Nat) {l : List α} {x : α} (h : x ∈ l) : f x ≤ maxOf f l := (foldl_max_ge f l 0).2 x h
theorem maxOf_le {α : Type} (f : α → Nat) {l : List α} {n : Nat} (h : ∀ x ∈ l, f x ≤ n) : maxOf f l ≤ n := foldl_max_le f n l 0 (Nat.zero_le _) h

def hasS (s : Nat × Nat) (t : Nat) : Bool := decide (s.1 ≤ t) && decide (t ≤ lastS s)
def countAt (l : List (Nat × Nat)) (t : Nat) : Nat := l.countP fun s => hasS s t
def depthR (l : List (Nat × Nat)) : Nat := maxOf (fun s => countAt l s.1) l
def depthV (V : List (Itm × Array Itm)) : Nat := maxOf (fun p => p.2.size + 1) V

theorem Vis_at : ∀ (pre : List (Itm × Array Itm)) (seen : List Itm) (x : Itm) (O : Array Itm) (post : List (Itm × Array Itm)), Vis seen (pre ++ (x, O) :: post) →
    O.toList.Perm ((seen ++ pre.map Prod.fst).filter fun y => decide (x.lo ≤ lastI y)) := by
  intro pre
  induction pre with
  | nil => intro seen x O post h; rw [List.map_nil, List.append_nil]; exact h.1
  | cons p pre ih =>
    intro seen x O post h
    have := ih (seen ++ [p.1]) x O post h.2
    rw [List.map_cons, ← List.singleton_append, ← List.append_assoc]
    exact this
theorem last_split {α : Type} (P : α → Bool) : ∀ (l : List α), (∃ x ∈ l, P x = true) → ∃ pre x post, l = pre ++ x :: post ∧ P x = true ∧ ∀ z ∈ post, P z = false := by
  intro l
  induction l with
  | nil => rintro ⟨x, hx, _⟩; cases hx
  | cons y l ih =>
    rintro ⟨x, hx, hp⟩
    by_cases h : ∃ z ∈ l, P z = true
    · obtain ⟨pre, z, post, rfl, h1, h2⟩ := ih h
      exact ⟨y :: pre, z, post, rfl, h1, h2⟩
    · have hx : x = y := by
        rcases List.mem_cons.1 hx with rfl | hx
        · rfl
        · exact absurd ⟨x, hx, hp⟩ h
      subst hx
      exact ⟨[], x, l, rfl, hp, fun z hz => by
        cases hz2 : P z with
        | false => rfl
        | true => exact absurd ⟨z, hz, hz2⟩ h⟩
def hasI (y : Itm) (t : Nat) : Bool := hasS (y.lo, y.len) t
theorem countAt_items (l : List (Nat × Nat)) (t : Nat) : countAt l t = (itemsL l).countP fun y => hasI y t := by
  unfold countAt
  have e : l = (itemsL l).map fun y => (y.lo, y.len) := by
    apply List.ext_getElem
    · simp [itemsL]
    · intro i h1 h2
      simp [itemsL]
  conv => lhs; rw [e]
  rw [List.countP_map]
  rfl
section
variable {l : List (Nat × Nat)} (h : ∀ s ∈ l, okSpan s)
include h
theorem fst_ok : ∀ p ∈ visitL l, okSpan (p.1.lo, p.1.len) ∧ p.1 ∈ itemsL l := by
  intro p hp
  have hm := (visitL_spec l h).2.1.subset (List.mem_map_of_mem hp)
  exact ⟨(items_ok h _ hm).1, hm⟩
theorem open_ok {pre post : List (Itm × Array Itm)} {x : Itm} {O : Array Itm} (e : visitL l = pre ++ (x, O) :: post) :
    O.toList.Perm ((pre.map Prod.fst).filter fun y => decide (x.lo ≤ lastI y)) ∧ (∀ p ∈ pre, p.1.lo ≤ x.lo) ∧ ∀ p ∈ post, x.lo ≤ p.1.lo := by
  obtain ⟨h1, h2, h3⟩ := visitL_spec l h
  rw [e] at h1 h3
  have := Vis_at pre [] x O post h1
  rw [List.nil_append] at this
  rw [List.map_append, List.map_cons, List.pairwise_append] at h3
  refine ⟨this, fun p hp => h3.2.2 _ (List.mem_map_of_mem hp) _ (List.mem_cons_self ..), fun p hp => ?_⟩
  exact (List.pairwise_cons.1 h3.2.1).1 _ (List.mem_map_of_mem hp)
theorem count_split {pre post : List (Itm × Array Itm)} {x : Itm} {O : Array Itm} (e : visitL l = pre ++ (x, O) :: post) :
    countAt l x.lo = O.size + 1 + (post.map Prod.fst).countP fun y => hasI y x.lo := by
  obtain ⟨h1, h2, h3⟩ := open_ok h e
  have hp := (visitL_spec l h).2.1
  rw [countAt_items, ← hp.countP_eq, e, List.map_append, List.map_cons, List.countP_append, List.countP_cons]
  have hx := (fst_ok h (x, O) (by rw [e]; simp)).1
  have hxx : hasI x x.lo = true := by
    have := last_ok hx
    unfold hasI hasS lastS
    unfold okSpan at hx
    simp only at hx ⊢
    simp; omega
  rw [hxx]
  have hO : O.size = (pre.map Prod.fst).countP fun y => hasI y x.lo := by
    rw [← Array.length_toList, h1.length_eq, ← List.countP_eq_length_filter]
    refine List.countP_congr fun y hy => ?_
    obtain ⟨p, hp, rfl⟩ := List.mem_map.1 hy
    have hok := (fst_ok h p (by rw [e]; exact List.mem_append_left _ hp)).1
    have hl := (last_ok hok).1
    have h5 := h2 p hp
    unfold hasI hasS lastS
    rw [hl]
    simp; omega
  rw [hO]
  simp; omega
theorem depth_eq : depthV (visitL l) = depthR l := by
  apply Nat.le_antisymm
  · refine maxOf_le _ fun p hp => ?_
    obtain ⟨x, O⟩ := p
    obtain ⟨pre, post, e⟩ := List.append_of_mem hp
    have h1 := count_split h e
    obtain ⟨hok, hm⟩ := fst_ok h (x, O) hp
    obtain ⟨_, hi, hg⟩ := items_ok h x hm
    have h2 := le_maxOf (fun s => countAt l s.1) (List.getElem_mem hi)
    rw [hg] at h2
    show O.size + 1 ≤ _
    unfold depthR
    simp only at h2
    omega
  · refine maxOf_le _ fun s hs => ?_
    obtain ⟨i, hi, rfl⟩ := List.getElem_of_mem hs
    have hx0 : (⟨l[i].1, l[i].2, i⟩ : Itm) ∈ (visitL l).map Prod.fst := by
      refine (visitL_spec l h).2.1.symm.subset ?_
      have := List.getElem_mem (l := itemsL l) (n := i) (by rw [itemsL_length]; exact hi)
      rwa [itemsL_get] at this
    obtain ⟨p0, hp0, e0⟩ := List.mem_map.1 hx0
    obtain ⟨pre, ⟨x, O⟩, post, e, hP, hN⟩ := last_split (fun p : Itm × Array Itm => decide (p.1.lo ≤ l[i].1)) (visitL l) ⟨p0, hp0, by rw [e0]; simp⟩
    obtain ⟨h1, h2, h3⟩ := open_ok h e
    have hlo : x.lo = l[i].1 := by
      have h4 : x.lo ≤ l[i].1 := by simpa using hP
      have h5 : p0 ∈ pre ++ (x, O) :: post := by rw [← e]; exact hp0
      have e1 : p0.1.lo = l[i].1 := by rw [e0]
      rcases List.mem_append.1 h5 with h5 | h5
      · have := h2 p0 h5; omega
      · rcases List.mem_cons.1 h5 with rfl | h5
        · exact e1
        · have := hN p0 h5
          simp only [decide_eq_false_iff_not] at this
          omega
    have hc := count_split h e
    have hz : ((post.map Prod.fst).countP fun y => hasI y x.lo) = 0 := by
      rw [List.countP_eq_zero]
      intro y hy
      obtain ⟨p, hp, rfl⟩ := List.mem_map.1 hy
      have := hN p hp
      simp only [decide_eq_false_iff_not] at this
      unfold hasI hasS
      simp; omega
    have h6 : (x, O) ∈ visitL l := by rw [e]; simp
    have h7 := le_maxOf (fun p : Itm × Array Itm => p.2.size + 1) h6
    rw [hlo] at hc
    rw [hlo] at hz
    show countAt l l[i].1 ≤ _
    unfold depthV
    simp only at h7
    omega
end

/-! ### Pairs -/
def pairOf (x y : Itm) : Nat × Nat := (min x.idx y.idx, max x.idx y.idx)
def pairsV (V : List (Itm × Array Itm)) : List (Nat × Nat) := V.flatMap fun p => p.2.toList.map (pairOf p.1)
def meetS (a b : Nat × Nat) : Bool := hasS a b.1 || hasS b a.1
def rowR (l : List (Nat × Nat)) (i m : Nat) : List (Nat × Nat) := ((List.range m).filter fun j => decide (i < j) && meetS l[i]! l[j]!).map fun j => (i, j)
def pairsR (l : List (Nat × Nat)) : List (Nat × Nat) := (List.range l.length).flatMap fun i => rowR l i l.length
theorem mem_pairsR (l : List (Nat × Nat)) (i j : Nat) : (i, j) ∈ pairsR l ↔ i < j ∧ j < l.length ∧ meetS l[i]! l[j]! = true := by
  unfold pairsR rowR
  simp only [List.mem_flatMap, List.mem_range, List.mem_map, List.mem_filter, Bool.and_eq_true, decide_eq_true_eq, Prod.mk.injEq]
  constructor
  · rintro ⟨i', _, j', ⟨h1, h2, h3⟩, rfl, rfl⟩
    exact ⟨h2, h1, h3⟩
  · rintro ⟨h1, h2, h3⟩
    exact ⟨i, by omega, j, ⟨h2, h1, h3⟩, rfl, rfl⟩
/-- One pair before another. -/
def pairLt (a b : Nat × Nat) : Prop := a.1 < b.1 ∨ a.1 = b.1 ∧ a.2 < b.2
theorem range_lt (n : Nat) : (List.range n).Pairwise (fun a b => a < b) := List.pairwise_lt_range
theorem pairsR_sorted (l : List (Nat × Nat)) : (pairsR l).Pairwise pairLt := by
  unfold pairsR
  rw [List.pairwise_flatMap]
  refine ⟨fun i _ => ?_, (range_lt _).imp ?_⟩
  · unfold rowR
    rw [List.pairwise_map]
    exact ((range_lt _).filter _).imp fun h => .inr ⟨rfl, h⟩
  · intro a b hab x hx y hy
    unfold rowR at hx hy
    obtain ⟨j, _, rfl⟩ := List.mem_map.1 hx
    obtain ⟨k, _, rfl⟩ := List.mem_map.1 hy
    exact .inl hab
theorem nodup_of_lt {L : List (Nat × Nat)} (h : L.Pairwise pairLt) : L.Nodup := h.imp fun {a b} hab e => by
  subst e
  unfold pairLt at hab
  omega
section
variable {l : List (Nat × Nat)} (h : ∀ s ∈ l, okSpan s)
include h
theorem idx_nodup : ((visitL l).map fun p => p.1.idx).Nodup := by
  have h1 := (visitL_spec l h).2.1.map Itm.idx
  rw [List.map_map] at h1
  refine (h1.nodup_iff).2 ?_
  have e : (itemsL l).map Itm.idx = List.range l.length := by
    apply List.ext_getElem
    · simp [itemsL]
    · intro i h1 h2
      simp [itemsL]
  rw [e]
  exact List.nodup_range
theorem meet_items (x : Itm) (hx : x ∈ itemsL l) : l[x.idx]! = (x.lo, x.len) ∧ x.idx < l.length ∧ okSpan (x.lo, x.len) := by
  obtain ⟨h1, h2, h3⟩ := items_ok h x hx
  exact ⟨by rw [getElem!_pos l _ h2]; exact h3, h2, h1⟩
/-- An item before another, in the order of the visits: they meet exactly if the first one reaches the second. -/
theorem meet_later {x y : Itm} (hx : x ∈ itemsL l) (hy : y ∈ itemsL l) (hle : y.lo ≤ x.lo) : (meetS l[x.idx]! l[y.idx]! = true ↔ x.lo ≤ lastI y) ∧ (meetS l[y.idx]! l[x.idx]! = true ↔ x.lo ≤ lastI y) := by
  obtain ⟨e1, _, o1⟩ := meet_items h x hx
  obtain ⟨e2, _, o2⟩ := meet_items h y hy
  obtain ⟨l1, m1⟩ := last_ok o1
  obtain ⟨l2, m2⟩ := last_ok o2
  rw [e1, e2]
  unfold meetS hasS lastS
  simp only [Bool.or_eq_true, Bool.and_eq_true, decide_eq_true_eq]
  omega
theorem mem_pairsV (a : Nat × Nat) : a ∈ pairsV (visitL l) ↔ a ∈ pairsR l := by
  obtain ⟨i, j⟩ := a
  rw [mem_pairsR]
  have hnd := idx_nodup h
  constructor
  · intro ha
    unfold pairsV at ha
    obtain ⟨⟨x, O⟩, hp, hy⟩ := List.mem_flatMap.1 ha
    obtain ⟨y, hy, e⟩ := List.mem_map.1 hy
    obtain ⟨pre, post, hV⟩ := List.append_of_mem hp
    obtain ⟨h1, h2, h3⟩ := open_ok h hV
    have hy2 := h1.subset hy
    obtain ⟨hy3, hy4⟩ := List.mem_filter.1 hy2
    obtain ⟨q, hq, rfl⟩ := List.mem_map.1 hy3
    have hxi := (fst_ok h (x, O) hp).2
    have hyi := (fst_ok h q (by rw [hV]; exact List.mem_append_left _ hq)).2
    have hne : q.1.idx ≠ x.idx := by
      rw [hV, List.map_append, List.map_cons, List.nodup_append] at hnd
      exact hnd.2.2 _ (List.mem_map_of_mem (f := fun p : Itm × Array Itm => p.1.idx) hq) _ (List.mem_cons_self ..)
    have hm := meet_later h hxi hyi (h2 q hq)
    have hr : x.lo ≤ lastI q.1 := by simpa using hy4
    obtain ⟨_, b1, _⟩ := meet_items h x hxi
    obtain ⟨_, b2, _⟩ := meet_items h q.1 hyi
    unfold pairOf at e
    simp only [Prod.mk.injEq] at e
    obtain ⟨e1, e2⟩ := e
    rcases Nat.lt_or_ge x.idx q.1.idx with hlt | hge
    · rw [Nat.min_eq_left (by omega)] at e1
      rw [Nat.max_eq_right (by omega)] at e2
      subst e1 e2
      exact ⟨hlt, b2, hm.1.2 hr⟩
    · rw [Nat.min_eq_right (by omega)] at e1
      rw [Nat.max_eq_left (by omega)] at e2
      subst e1 e2
      exact ⟨by omega, b1, hm.2.2 hr⟩
  · rintro ⟨hij, hj, hm⟩
    have key : ∀ k (hk : k < l.length), ∃ p ∈ visitL l, p.1 = ⟨l[k].1, l[k].2, k⟩ := by
      intro k hk
      have hx0 : (⟨l[k].1, l[k].2, k⟩ : Itm) ∈ (visitL l).map Prod.fst := by
        refine (visitL_spec l h).2.1.symm.subset ?_
        have := List.getElem_mem (l := itemsL l) (n := k) (by rw [itemsL_length]; exact hk)
        rwa [itemsL_get] at this
      obtain ⟨p, hp, e⟩ := List.mem_map.1 hx0
      exact ⟨p, hp, e⟩
    obtain ⟨p, hp, ep⟩ := key i (by omega)
    obtain ⟨q, hq, eq⟩ := key j hj
    have hpq : p.1.idx = i ∧ q.1.idx = j := by rw [ep, eq]; exact ⟨rfl, rfl⟩
    -- the later one of two
    have done : ∀ (p q : Itm × Array Itm) (pre post : List (Itm × Array Itm)), visitL l = pre ++ p :: post → q ∈ pre → (meetS l[p.1.idx]! l[q.1.idx]! = true ∨ meetS l[q.1.idx]! l[p.1.idx]! = true) →
        pairOf p.1 q.1 ∈ pairsV (visitL l) := by
      rintro ⟨x, O⟩ q pre post hV hq hm
      obtain ⟨h1, h2, h3⟩ := open_ok h hV
      have hxi := (fst_ok h (x, O) (by rw [hV]; simp)).2
      have hyi := (fst_ok h q (by rw [hV]; exact List.mem_append_left _ hq)).2
      have hml := meet_later h hxi hyi (h2 q hq)
      have hr : x.lo ≤ lastI q.1 := by
        rcases hm with hm | hm
        · exact hml.1.1 hm
        · exact hml.2.1 hm
      unfold pairsV
      refine List.mem_flatMap.2 ⟨(x, O), by rw [hV]; simp, List.mem_map_of_mem (h1.symm.subset (List.mem_filter.2 ⟨List.mem_map_of_mem hq, by simpa using hr⟩))⟩
    obtain ⟨pre, post, hV⟩ := List.append_of_mem hp
    have hq2 := hq
    rw [hV] at hq2
    rcases List.mem_append.1 hq2 with hq3 | hq3
    · have := done p q pre post hV hq3 (.inl (by rw [hpq.1, hpq.2]; exact hm))
      unfold pairOf at this
      rw [hpq.1, hpq.2, Nat.min_eq_left (by omega), Nat.max_eq_right (by omega)] at this
      exact this
    · rcases List.mem_cons.1 hq3 with rfl | hq3
      · omega
      · obtain ⟨a, b, rfl⟩ := List.append_of_mem hq3
        have := done q p (pre ++ p :: a) b (by rw [hV]; simp) (by simp) (.inr (by rw [hpq.1, hpq.2]; exact hm))
        unfold pairOf at this
        rw [hpq.1, hpq.2, Nat.min_eq_right (by omega), Nat.max_eq_left (by omega)] at this
        exact this
theorem pairsV_nodup : (pairsV (visitL l)).Nodup := by
  have hnd := idx_nodup h
  have gen : ∀ (post pre : List (Itm × Array Itm)), visitL l = pre ++ post → (pairsV post).Nodup ∧ ∀ a ∈ pairsV post, ∃ p ∈ post, a.1 = p.1.idx ∨ a.2 = p.1.idx := by
    intro post
    induction post with
    | nil => intro pre _; exact ⟨List.nodup_nil, fun a ha => by cases ha⟩
    | cons p post ih =>
      intro pre hV
      obtain ⟨x, O⟩ := p
      obtain ⟨i1, i2⟩ := ih (pre ++ [(x, O)]) (by rw [hV]; simp)
      obtain ⟨h1, h2, h3⟩ := open_ok h hV
      have hnd2 := hnd
      rw [hV, List.map_append, List.map_cons, List.nodup_append, List.nodup_cons] at hnd2
      obtain ⟨n1, ⟨n2, n3⟩, n4⟩ := hnd2
      have hpost : ∀ y ∈ O.toList, y.idx ≠ x.idx ∧ ∀ q ∈ post, q.1.idx ≠ y.idx := by
        intro y hy
        obtain ⟨hy3, _⟩ := List.mem_filter.1 (h1.subset hy)
        obtain ⟨q, hq, rfl⟩ := List.mem_map.1 hy3
        refine ⟨n4 _ (List.mem_map_of_mem (f := fun p : Itm × Array Itm => p.1.idx) hq) _ (List.mem_cons_self ..), fun r hr => ?_⟩
        exact (n4 _ (List.mem_map_of_mem (f := fun p : Itm × Array Itm => p.1.idx) hq) _ (List.mem_cons_of_mem _ (List.mem_map_of_mem (f := fun p : Itm × Array Itm => p.1.idx) hr))).symm
      have hxp : ∀ q ∈ post, q.1.idx ≠ x.idx := by
        intro q hq e
        exact n2 (by rw [← e]; exact List.mem_map_of_mem (f := fun p : Itm × Array Itm => p.1.idx) hq)
      have hOn : (O.toList.map (pairOf x)).Nodup := by
        have h5 : (O.toList.map Itm.idx).Nodup := by
          have h6 : ((pre.map Prod.fst).filter fun y => decide (x.lo ≤ lastI y)).map Itm.idx |>.Nodup := by
            have h7 : ((pre.map Prod.fst).map Itm.idx).Nodup := by rw [List.map_map]; exact n1
            exact h7.sublist (List.filter_sublist.map _)
          exact ((h1.map Itm.idx).nodup_iff).2 h6
        unfold List.Nodup at h5 ⊢
        rw [List.pairwise_map] at h5 ⊢
        refine h5.imp_of_mem fun {a b} ha hb hab e => ?_
        have ha := (hpost a ha).1
        have hb := (hpost b hb).1
        unfold pairOf at e
        simp only [Prod.mk.injEq] at e
        omega
      have e : pairsV ((x, O) :: post) = O.toList.map (pairOf x) ++ pairsV post := rfl
      rw [e]
      refine ⟨List.nodup_append.2 ⟨hOn, i1, fun a ha b hb hab => ?_⟩, fun a ha => ?_⟩
      · subst hab
        obtain ⟨y, hy, rfl⟩ := List.mem_map.1 ha
        obtain ⟨q, hq, hqa⟩ := i2 _ hb
        have h8 := (hpost y hy).2 q hq
        have h9 := hxp q hq
        unfold pairOf at hqa
        simp only at hqa
        omega
      · rcases List.mem_append.1 ha with ha | ha
        · obtain ⟨y, hy, rfl⟩ := List.mem_map.1 ha
          refine ⟨(x, O), List.mem_cons_self .., ?_⟩
          unfold pairOf
          simp only
          omega
        · obtain ⟨q, hq, hqa⟩ := i2 a ha
          exact ⟨q, List.mem_cons_of_mem _ hq, hqa⟩
  exact (gen (visitL l) [] rfl).1
theorem pairs_perm : (pairsV (visitL l)).Perm (pairsR l) :=
  (List.perm_ext_iff_of_nodup (pairsV_nodup h) (nodup_of_lt (pairsR_sorted l))).2 (mem_pairsV h)
end
theorem maxOf_pos (V : List (Itm × Array Itm)) : (depthV V ≤ 1) ↔ pairsV V = [] := by
  unfold depthV pairsV
  rw [List.flatMap_eq_nil_iff]
  constructor
  · intro hle p hp
    have h1 : p.2.size + 1 ≤ maxOf (fun p : Itm × Array Itm => p.2.size + 1) V := le_maxOf (fun p : Itm × Array Itm => p.2.size + 1) hp
    have h0 : p.2.size = 0 := by omega
    rw [List.map_eq_nil_iff]
    exact List.eq_nil_of_length_eq_zero (by rw [Array.length_toList]; exact h0)
  · intro hn
    refine maxOf_le _ fun p hp => ?_
    have := hn p hp
    rw [List.map_eq_nil_iff] at this
    have h0 : p.2.size = 0 := by rw [← Array.length_toList, this]; rfl
    show p.2.size + 1 ≤ 1
    omega
/-- No depth beyond 1 exactly if no two spans overlap. -/
theorem depth_pairs {l : List (Nat × Nat)} (h : ∀ s ∈ l, okSpan s) : (depthR l ≤ 1) ↔ (pairsR l).length = 0 := by
  rw [← depth_eq h, maxOf_pos, ← (pairs_perm h).length_eq]
  exact ⟨fun e => by rw [e]; rfl, fun e => List.eq_nil_of_length_eq_zero e⟩
end Go.Proofs.YthccadabblkalaaGreat
