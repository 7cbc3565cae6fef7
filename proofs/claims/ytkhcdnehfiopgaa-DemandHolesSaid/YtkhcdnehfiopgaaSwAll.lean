/- The walks of the queue's methods Len, Less, Swap (chapter 14). The walk of the queue's Swap (chapter 14). The walks of the queue's Push and Pop (chapter 14). The walks of container/heap's down and up at the queue (chapter 14). The walks of container/heap's up, Init, Pop, Fix at the queue (chapter 14). The walk of container/heap's Init at the queue (chapter 14). What 'visit' passes to its function, in plain words, and the depth and the pairs that come of it (chapter 14). No program in sight. The walk of sweep.visit (chapter 14): the first half: the items are laid, the heap is made. The walk of sweep.visit (chapter 14): the items, the visits. The depth and the pairs of spans: what comes of the visits is what the reference says (chapter 14). No program in sight. The gaps between spans: what comes of the visits is what the reference says (chapter 14). No program in sight. The walk of sweep.Gaps (chapter 14). The walk of the function that sweep.Pairs hands to visit (chapter 14). The order of pairs, as sweep.Pairs hands it to the sort (chapter 14). The walk of sweep.First (chapter 14). The first window that overlaps an earlier one, in plain words (chapter 15). -/
import Derived.Test.YtkhcdnehfiopgaaSwHeapW
import Derived.Deep.AppendLies
import Derived.Deep.RegionLaw
import Derived.Test.YtkhcdnehfiopgaaSwHeap
import Derived.Shelf.Abstract
import Derived.Lib.MinMax
import Derived.Laws.EntriesVeiled
import Derived.Test.YtkhcdnehfiopgaaSwRef1
import Derived.Test.YtkhcdnehfiopgaaWvA
import Derived.Test.YtkhcdnehfiopgaaShelf
import Derived.Handy
import Derived.StillTactics
import Derived.Test.YtkhcdnehfiopgaaFrRef3
namespace Go.Proofs.Ytkhcdnehfiopgaa
open Go.RowKit

end Go.Proofs.Ytkhcdnehfiopgaa
namespace Go.Proofs.Ytkhcdnehfiopgaa
open Go.RowKit Go.Sort

def put3 (cs : Array Value) (i : Nat) (x : Itm) : Array Value := ((cs.setIfInBounds (i * 3) (.int .u64 (x.lo : Int))).setIfInBounds (i * 3 + 1) (.int .u64 (x.len : Int))).setIfInBounds (i * 3 + 2) (.int .i64 (x.idx : Int))
theorem put3_size (cs : Array Value) (i : Nat) (x : Itm) : (put3 cs i x).size = cs.size := by simp [put3]
theorem put3_get (cs : Array Value) (i k m : Nat) (x : Itm) (hi : i * 3 + 2 < cs.size) (hm : m < 3) : (put3 cs i x)[k * 3 + m]? = if k = i then (itL x)[m]? else cs[k * 3 + m]? := by
  unfold put3
  simp only [Array.getElem?_setIfInBounds, Array.size_setIfInBounds]
  by_cases hk : k = i
  · subst hk
    rw [if_pos rfl]
    match m, hm with
    | 0, _ => rw [if_neg (by omega), if_neg (by omega), if_pos (by omega), if_pos (by omega)]; rfl
    | 1, _ => rw [if_neg (by omega), if_pos (by omega), if_pos (by omega)]; rfl
    | 2, _ => rw [if_pos (by omega), if_pos (by omega)]; rfl
  · rw [if_neg hk, if_neg (by omega), if_neg (by omega), if_neg (by omega)]
theorem swp_get (d : Array Itm) (i j k : Nat) (hi : i < d.size) (hj : j < d.size) : (swp d i j)[k]! = if k = j then d[i]! else if k = i then d[j]! else d[k]! := by
  by_cases h1 : k = j
  · subst h1; rw [if_pos rfl, swp_right d i k hj]
  · rw [if_neg h1]
    by_cases h2 : k = i
    · subst h2; rw [if_pos rfl, swp_left d k j hi h1]
    · rw [if_neg h2, swp_other d i j k h2 h1]
end Go.Proofs.Ytkhcdnehfiopgaa
namespace Go.Proofs.Ytkhcdnehfiopgaa
open Go.RowKit Go.Sort

theorem own_row {w : World} {base : Nat} {e : TypeId} {size g n cap : Nat} {xs : List Value} (h : w.ownsRow base e size (.slice (some ⟨g, 0, none⟩) n cap) n xs) :
    ∃ cs, Blk w g e cs ∧ cs.size = cap * size ∧ n ≤ cap ∧ cap ≤ maxLen ∧ cs.toList.take (n * size) = xs := by
  rcases h.2 with ⟨h0, _⟩ | ⟨g', cap', cur, hv, hb, hg, h1, h2, h3, h4⟩
  · cases h0
  · injection hv with e1 e2 e3
    injection e1 with e1
    injection e1 with e1
    subst e1 e3
    exact ⟨cur, hg, h3, h1, h2, h4⟩
section
variable {w : World} {Q fn : Nat} {R : Option Nat} {d : Array Itm}
end
theorem it_cells (w : World) (x : Itm) (t : TypeId) : ∀ j u, (itL x)[j]? = some u → (w.alloc (.cells (itA x) t)).cell? ((⟨w.heap.size, 0, none⟩ : Addr).add j) = some u := by
  intro j u hu
  have h := (Blk.new w t (itA x)).cell j
  have e : ((⟨w.heap.size, 0, none⟩ : Addr).add j) = ⟨w.heap.size, j, none⟩ := by unfold Addr.add; split <;> simp_all
  have e2 : itA x = (itL x).toArray := rfl
  rw [e, h, ← hu, e2]
  simp
theorem it_one (x : Itm) : ∀ u ∈ itL x, u.oneCell' = true := by
  intro u hu
  simp only [itL, List.mem_cons, List.not_mem_nil, or_false] at hu
  rcases hu with rfl | rfl | rfl <;> rfl
end Go.Proofs.Ytkhcdnehfiopgaa
namespace Go.Proofs.Ytkhcdnehfiopgaa
open Go.RowKit Go.Sort

end Go.Proofs.Ytkhcdnehfiopgaa
namespace Go.Proofs.Ytkhcdnehfiopgaa
open Go.RowKit Go.Sort

end Go.Proofs.Ytkhcdnehfiopgaa
namespace Go.Proofs.Ytkhcdnehfiopgaa
open Go.RowKit Go.Sort

theorem build_step (key : Itm → Nat) (n k : Nat) (d : Array Itm) : heapBuild (ltK key) n 0 (k + 1) d = heapBuild (ltK key) n 0 k (hdown key n k d) := rfl
end Go.Proofs.Ytkhcdnehfiopgaa
namespace Go.Proofs.Ytkhcdnehfiopgaa
open Go.Sort

/-- 'for open.Len() > 0 && open.items[0].last() < lo { heap.Pop(open) }', so many rounds at most. -/
def drain (lo : Nat) : Nat → Array Itm → Array Itm
  | 0, O => O
  | f + 1, O => if 0 < O.size ∧ lastI O[0]! < lo then drain lo f (hpop lastI O) else O
theorem drain_step (lo f : Nat) (O : Array Itm) (h0 : 0 < O.size) (h : lastI O[0]! < lo) : drain lo (f + 1) O = drain lo f (hpop lastI O) := by
  rw [drain, if_pos ⟨h0, h⟩]
theorem drain_stop (lo f : Nat) (O : Array Itm) (h : O.size = 0 ∨ lo ≤ lastI O[0]!) : drain lo f O = O := by
  cases f with
  | zero => rfl
  | succ f => rw [drain, if_neg (by omega)]
theorem drain_spec (lo : Nat) : ∀ (f : Nat) (O : Array Itm), O.size ≤ f → IsHeap lastI O.size O →
    IsHeap lastI (drain lo f O).size (drain lo f O) ∧ (drain lo f O).toList.Perm (O.toList.filter fun y => decide (lo ≤ lastI y)) := by
  intro f
  induction f with
  | zero =>
    intro O h hh
    have h0 : O = #[] := Array.eq_empty_of_size_eq_zero (by omega)
    subst h0
    exact ⟨hh, List.Perm.refl _⟩
  | succ f ih =>
    intro O h hh
    by_cases h0 : 0 < O.size
    · by_cases hl : lastI O[0]! < lo
      · rw [drain_step lo f O h0 hl]
        obtain ⟨p1, p2, p3⟩ := hpop_spec lastI O hh h0
        obtain ⟨q1, q2⟩ := ih (hpop lastI O) (by omega) p2
        refine ⟨q1, q2.trans ?_⟩
        have := p3.filter fun y => decide (lo ≤ lastI y)
        rw [List.filter_cons_of_neg (by simp; omega)] at this
        exact this
      · rw [drain_stop lo (f + 1) O (.inr (by omega))]
        refine ⟨hh, ?_⟩
        rw [List.filter_eq_self.2]
        intro y hy
        obtain ⟨i, hi, rfl⟩ := List.getElem_of_mem hy
        rw [Array.length_toList] at hi
        have := hh.root i hi
        rw [getElem!_pos O i hi] at this
        simp only [Array.getElem_toList, decide_eq_true_eq]; omega
    · have h0 : O = #[] := Array.eq_empty_of_size_eq_zero (by omega)
      subst h0
      rw [drain_stop lo (f + 1) #[] (.inl rfl)]
      exact ⟨hh, List.Perm.refl _⟩

def visitR : Nat → Array Itm → Array Itm → List (Itm × Array Itm)
  | 0, _, _ => []
  | n + 1, W, O => (W[0]!, drain W[0]!.lo O.size O) :: visitR n (hpop Itm.lo W) (hpush lastI (drain W[0]!.lo O.size O) W[0]!)
/-- Each open list holds, of the items before, those that reach the item. -/
def Vis : List Itm → List (Itm × Array Itm) → Prop
  | _, [] => True
  | seen, (x, O) :: r => O.toList.Perm (seen.filter fun y => decide (x.lo ≤ lastI y)) ∧ Vis (seen ++ [x]) r
theorem visitR_spec : ∀ (n : Nat) (W O : Array Itm) (seen : List Itm) (t : Nat), W.size = n → IsHeap Itm.lo W.size W → IsHeap lastI O.size O →
    O.toList.Perm (seen.filter fun y => decide (t ≤ lastI y)) → (∀ y ∈ W.toList, t ≤ y.lo ∧ y.lo ≤ lastI y) →
    Vis seen (visitR n W O) ∧ ((visitR n W O).map Prod.fst).Perm W.toList ∧ ((visitR n W O).map Prod.fst).Pairwise (fun a b => a.lo ≤ b.lo) := by
  intro n
  induction n with
  | zero =>
    intro W O seen t hn _ _ _ _
    have h0 : W = #[] := Array.eq_empty_of_size_eq_zero hn
    subst h0
    exact ⟨trivial, List.Perm.refl _, List.Pairwise.nil⟩
  | succ n ih =>
    intro W O seen t hn hW hO hp hb
    have h0 : 0 < W.size := by omega
    obtain ⟨p1, p2, p3⟩ := hpop_spec Itm.lo W hW h0
    have hx := hb W[0]! (p3.subset (List.mem_cons_self ..))
    obtain ⟨d1, d2⟩ := drain_spec W[0]!.lo O.size O (Nat.le_refl _) hO
    obtain ⟨q1, q2, q3⟩ := hpush_spec lastI (drain W[0]!.lo O.size O) W[0]! d1
    have hmin : ∀ y ∈ (hpop Itm.lo W).toList, W[0]!.lo ≤ y.lo := by
      intro y hy
      have hyW := p3.subset (List.mem_cons_of_mem _ hy)
      obtain ⟨i, hi, rfl⟩ := List.getElem_of_mem hyW
      rw [Array.length_toList] at hi
      have := hW.root i hi
      rw [getElem!_pos W i hi] at this
      simpa using this
    have hd : (drain W[0]!.lo O.size O).toList.Perm (seen.filter fun y => decide (W[0]!.lo ≤ lastI y)) := by
      refine d2.trans ((hp.filter _).trans ?_)
      rw [List.filter_filter]
      refine List.Perm.of_eq (List.filter_congr fun y _ => ?_)
      have := hx.1
      by_cases h : W[0]!.lo ≤ lastI y
      · simp [h]; omega
      · simp [h]
    obtain ⟨r1, r2, r3⟩ := ih (hpop Itm.lo W) (hpush lastI (drain W[0]!.lo O.size O) W[0]!) (seen ++ [W[0]!]) W[0]!.lo (by omega) p2 q2
      (q3.trans (by rw [List.filter_append, List.filter_cons_of_pos (by simpa using hx.2), List.filter_nil]; exact hd.append_right _))
      (fun y hy => ⟨hmin y hy, (hb y (p3.subset (List.mem_cons_of_mem _ hy))).2⟩)
    refine ⟨⟨hd, r1⟩, ?_, ?_⟩
    · rw [visitR, List.map_cons]
      exact (r2.cons _).trans p3
    · rw [visitR, List.map_cons]
      exact List.Pairwise.cons (fun y hy => hmin y (r2.subset hy)) r3
def itemsL (l : List (Nat × Nat)) : List Itm := l.mapIdx fun i s => ⟨s.1, s.2, i⟩
def visitL (l : List (Nat × Nat)) : List (Itm × Array Itm) := visitR l.length (hinit Itm.lo (itemsL l).toArray) #[]
/-- A span that is valid. -/
def okSpan (s : Nat × Nat) : Prop := 1 ≤ s.2 ∧ s.1 + s.2 ≤ 18446744073709551616
def lastS (s : Nat × Nat) : Nat := s.1 + s.2 - 1
theorem itemsL_length (l : List (Nat × Nat)) : (itemsL l).length = l.length := by simp [itemsL]
theorem itemsL_get (l : List (Nat × Nat)) (i : Nat) (h : i < (itemsL l).length) : (itemsL l)[i] = ⟨(l[i]'(by rw [itemsL_length] at h; exact h)).1, (l[i]'(by rw [itemsL_length] at h; exact h)).2, i⟩ := by
  simp [itemsL]
theorem last_ok {x : Itm} (h : okSpan (x.lo, x.len)) : lastI x = x.lo + x.len - 1 ∧ x.lo ≤ lastI x := by
  unfold okSpan at h
  simp only at h
  unfold lastI
  have e : (x.lo + x.len + 18446744073709551615) % 18446744073709551616 = x.lo + x.len - 1 := by omega
  rw [e]; omega
theorem items_ok {l : List (Nat × Nat)} (h : ∀ s ∈ l, okSpan s) : ∀ x ∈ itemsL l, okSpan (x.lo, x.len) ∧ ∃ hi : x.idx < l.length, l[x.idx] = (x.lo, x.len) := by
  intro x hx
  obtain ⟨i, hi, rfl⟩ := List.getElem_of_mem hx
  rw [itemsL_get]
  rw [itemsL_length] at hi
  exact ⟨h _ (List.getElem_mem hi), hi, rfl⟩
theorem visitL_spec (l : List (Nat × Nat)) (h : ∀ s ∈ l, okSpan s) :
    Vis [] (visitL l) ∧ ((visitL l).map Prod.fst).Perm (itemsL l) ∧ ((visitL l).map Prod.fst).Pairwise (fun a b => a.lo ≤ b.lo) := by
  obtain ⟨h1, h2, h3⟩ := hinit_heap Itm.lo (itemsL l).toArray
  have hsz : (itemsL l).toArray.size = l.length := by simp [itemsL]
  obtain ⟨r1, r2, r3⟩ := visitR_spec l.length (hinit Itm.lo (itemsL l).toArray) #[] [] 0 (by rw [h3, hsz]) (by rw [h3]; exact h1) (fun i hi => by simp at hi) (List.Perm.refl _)
    (fun y hy => by
      have := h2.subset hy
      simp only at this
      exact ⟨Nat.zero_le _, (last_ok (items_ok h y (by simpa using this)).1).2⟩)
  exact ⟨r1, r2.trans (by simpa using h2), r3⟩
end Go.Proofs.Ytkhcdnehfiopgaa
namespace Go.Proofs.Ytkhcdnehfiopgaa
open Go.RowKit Go.Sort

def spL (s : Nat × Nat) : List Value := [.int .u64 (s.1 : Int), .int .u64 (s.2 : Int)]
theorem spL_len (s : Nat × Nat) : (spL s).length = 2 := rfl
theorem items_snoc (l : List (Nat × Nat)) (k : Nat) (hk : k < l.length) : itemsL (l.take (k + 1)) = itemsL (l.take k) ++ [⟨l[k].1, l[k].2, k⟩] := by
  unfold itemsL
  rw [List.take_succ_eq_append_getElem hk, List.mapIdx_append]
  simp [List.length_take, Nat.min_eq_left (Nat.le_of_lt hk)]
theorem items_push (l : List (Nat × Nat)) (k : Nat) (hk : k < l.length) : (itemsL (l.take (k + 1))).toArray = (itemsL (l.take k)).toArray.push ⟨l[k].1, l[k].2, k⟩ := by
  rw [items_snoc l k hk]; simp
/-- A slice of spans: the cells of an element. -/
theorem span_cell {w : World} {base e n : Nat} {A : Option Addr} {c : Nat} {l : List (Nat × Nat)} (h : w.ownsRow base e 2 (.slice A n c) l.length (l.flatMap spL)) (i : Nat) (hi : i < l.length) :
    ∃ g, A = some ⟨g, 0, none⟩ ∧ n ≤ c ∧ g < w.heap.size ∧ w.cell? ⟨g, i * 2, none⟩ = some (.int .u64 (l[i].1 : Int)) ∧ w.cell? ⟨g, i * 2 + 1, none⟩ = some (.int .u64 (l[i].2 : Int)) := by
  rcases h.2 with ⟨_, h0⟩ | ⟨g, cap, cur, hv, hb, hg, h1, h2, h3, h4⟩
  · omega
  · injection hv with e1 e2 e3
    have hg' : Blk w g e cur := hg
    have hlen := h.1
    have key : ∀ j, j < 2 → w.cell? ⟨g, i * 2 + j, none⟩ = (spL l[i])[j]? := by
      intro j hj
      have h5 := flat_get spL 2 spL_len l i j hi hj
      rw [← h4, List.getElem?_take, if_pos (by omega), Array.getElem?_toList] at h5
      rw [hg'.cell, h5]
    exact ⟨g, e1, by omega, hg'.lt, key 0 (by omega), key 1 (by omega)⟩
def opnV (R : Option Nat) (cap : Nat) (d : Array Itm) : Value := .slice (R.map fun g => ⟨g, 0, none⟩) d.size cap
section
variable {I : List (Itm × Array Itm) → (Nat → Prop) → World → Prop} {F : Nat} {caps : Array Value} {w0 w w' : World} {S0 S S' M : Nat → Prop} {R1 R2 R2' : Option Nat} {pre : List (Itm × Array Itm)} {W O W' O' : Array Itm}
end
section
variable {I : List (Itm × Array Itm) → (Nat → Prop) → World → Prop} {F X : Nat} {x : Itm} {caps : Array Value} {w0 w w' : World} {S0 S S' M : Nat → Prop} {R1 R2 R2' : Option Nat} {pre : List (Itm × Array Itm)} {W O W' O' : Array Itm}
end
end Go.Proofs.Ytkhcdnehfiopgaa
namespace Go.Proofs.Ytkhcdnehfiopgaa
open Go.RowKit Go.Sort
set_option linter.unusedVariables false

/-- How many items a queue holds, read off memory. -/
def qlen (w : World) (Q : Nat) : Nat := match w.cell? ⟨Q, 0, none⟩ with | some (.slice _ n _) => n | _ => 0
theorem visitR_length : ∀ (n : Nat) (W O : Array Itm), (visitR n W O).length = n := by
  intro n
  induction n with
  | zero => intro W O; rfl
  | succ n ih => intro W O; rw [visitR, List.length_cons, ih]
theorem visitL_length (l : List (Nat × Nat)) : (visitL l).length = l.length := visitR_length _ _ _
/-- What the test of the inner loop reads. -/
def TestS (Q X g2 p cap : Nat) (lo ylo ylen : Nat) (wi w' : World) : Prop :=
  w'.cell? ⟨Q, 0, none⟩ = some (.slice (some ⟨g2, 0, none⟩) (p + 1) cap) ∧ w'.cell? ⟨g2, 0, none⟩ = some (.int .u64 (ylo : Int)) ∧ w'.cell? ⟨g2, 1, none⟩ = some (.int .u64 (ylen : Int)) ∧ w'.cell? ⟨X, 0, none⟩ = some (.int .u64 (lo : Int)) ∧ Below wi.heap.size wi w'
theorem TestS.keep {Q X g2 p cap lo ylo ylen : Nat} {wi w1 w2 : World} (hb : Below w1.heap.size w1 w2) (h : TestS Q X g2 p cap lo ylo ylen wi w1) : TestS Q X g2 p cap lo ylo ylen wi w2 := by
  obtain ⟨h1, h2, h3, h4, h5⟩ := h
  exact ⟨(hb.cell (p := ⟨Q, 0, none⟩) (cell_lt h1)).trans h1, (hb.cell (p := ⟨g2, 0, none⟩) (cell_lt h2)).trans h2, (hb.cell (p := ⟨g2, 1, none⟩) (cell_lt h3)).trans h3, (hb.cell (p := ⟨X, 0, none⟩) (cell_lt h4)).trans h4, h5.trans (hb.mono h5.size)⟩
end Go.Proofs.Ytkhcdnehfiopgaa
namespace Go.Proofs.Ytkhcdnehfiopgaa
open Go.Sort

def maxOf {α : Type} (f : α → Nat) (l : List α) : Nat := l.foldl (fun m x => max m (f x)) 0
theorem maxOf_snoc {α : Type} (f : α → Nat) (l : List α) (x : α) : maxOf f (l ++ [x]) = max (maxOf f l) (f x) := by
  unfold maxOf; rw [List.foldl_append]; rfl
theorem foldl_max_ge {α : Type} (f : α → Nat) : ∀ (l : List α) (m : Nat), m ≤ l.foldl (fun m x => max m (f x)) m ∧ ∀ x ∈ l, f x ≤ l.foldl (fun m x => max m (f x)) m := by
  intro l
  induction l with
  | nil => intro m; exact ⟨Nat.le_refl _, fun x hx => by cases hx⟩
  | cons y l ih =>
    intro m
    obtain ⟨h1, h2⟩ := ih (max m (f y))
    refine ⟨by rw [List.foldl_cons]; omega, fun x hx => ?_⟩
    rw [List.foldl_cons]
    rcases List.mem_cons.1 hx with rfl | hx
    · omega
    · exact h2 x hx
theorem foldl_max_le {α : Type} (f : α → Nat) (n : Nat) : ∀ (l : List α) (m : Nat), m ≤ n → (∀ x ∈ l, f x ≤ n) → l.foldl (fun m x => max m (f x)) m ≤ n := by
  intro l
  induction l with
  | nil => intro m h _; exact h
  | cons y l ih =>
    intro m h hx
    rw [List.foldl_cons]
    exact ih _ (by have := hx y (List.mem_cons_self ..); omega) (fun x h => hx x (List.mem_cons_of_mem _ h))
theorem le_maxOf {α : Type} (f : α → Nat) {l : List α} {x : α} (h : x ∈ l) : f x ≤ maxOf f l := (foldl_max_ge f l 0).2 x h
theorem maxOf_le {α : Type} (f : α → Nat) {l : List α} {n : Nat} (h : ∀ x ∈ l, f x ≤ n) : maxOf f l ≤ n := foldl_max_le f n l 0 (Nat.zero_le _) h

def hasS (s : Nat × Nat) (t : Nat) : Bool := decide (s.1 ≤ t) && decide (t ≤ lastS s)
def countAt (l : List (Nat × Nat)) (t : Nat) : Nat := l.countP fun s => hasS s t
def depthR (l : List (Nat × Nat)) : Nat := maxOf (fun s => countAt l s.1) l
def depthV (V : List (Itm × Array Itm)) : Nat := maxOf (fun p => p.2.size + 1) V

theorem Vis_at : ∀ (pre : List (Itm × Array Itm)) (seen : List Itm) (x : Itm) (O : Array Itm) (post : List (Itm × Array Itm)), Vis seen (pre ++ (x, O) :: post) →
    O.toList.Perm ((seen ++ pre.map Prod.fst).filter fun y => decide (x.lo ≤ lastI y)) := by
  intro pre
  induction pre with
  | nil => intro seen x O post h; rw [List.map_nil, List.append_nil]; exact h.1
  | cons p pre ih =>
    intro seen x O post h
    have := ih (seen ++ [p.1]) x O post h.2
    rw [List.map_cons, ← List.singleton_append, ← List.append_assoc]
    exact this
theorem last_split {α : Type} (P : α → Bool) : ∀ (l : List α), (∃ x ∈ l, P x = true) → ∃ pre x post, l = pre ++ x :: post ∧ P x = true ∧ ∀ z ∈ post, P z = false := by
  intro l
  induction l with
  | nil => rintro ⟨x, hx, _⟩; cases hx
  | cons y l ih =>
    rintro ⟨x, hx, hp⟩
    by_cases h : ∃ z ∈ l, P z = true
    · obtain ⟨pre, z, post, rfl, h1, h2⟩ := ih h
      exact ⟨y :: pre, z, post, rfl, h1, h2⟩
    · have hx : x = y := by
        rcases List.mem_cons.1 hx with rfl | hx
        · rfl
        · exact absurd ⟨x, hx, hp⟩ h
      subst hx
      exact ⟨[], x, l, rfl, hp, fun z hz => by
        cases hz2 : P z with
        | false => rfl
        | true => exact absurd ⟨z, hz, hz2⟩ h⟩
def hasI (y : Itm) (t : Nat) : Bool := hasS (y.lo, y.len) t
theorem countAt_items (l : List (Nat × Nat)) (t : Nat) : countAt l t = (itemsL l).countP fun y => hasI y t := by
  unfold countAt
  have e : l = (itemsL l).map fun y => (y.lo, y.len) := by
    apply List.ext_getElem
    · simp [itemsL]
    · intro i h1 h2
      simp [itemsL]
  conv => lhs; rw [e]
  rw [List.countP_map]
  rfl
section
variable {l : List (Nat × Nat)} (h : ∀ s ∈ l, okSpan s)
include h
theorem fst_ok : ∀ p ∈ visitL l, okSpan (p.1.lo, p.1.len) ∧ p.1 ∈ itemsL l := by
  intro p hp
  have hm := (visitL_spec l h).2.1.subset (List.mem_map_of_mem hp)
  exact ⟨(items_ok h _ hm).1, hm⟩
theorem open_ok {pre post : List (Itm × Array Itm)} {x : Itm} {O : Array Itm} (e : visitL l = pre ++ (x, O) :: post) :
    O.toList.Perm ((pre.map Prod.fst).filter fun y => decide (x.lo ≤ lastI y)) ∧ (∀ p ∈ pre, p.1.lo ≤ x.lo) ∧ ∀ p ∈ post, x.lo ≤ p.1.lo := by
  obtain ⟨h1, h2, h3⟩ := visitL_spec l h
  rw [e] at h1 h3
  have := Vis_at pre [] x O post h1
  rw [List.nil_append] at this
  rw [List.map_append, List.map_cons, List.pairwise_append] at h3
  refine ⟨this, fun p hp => h3.2.2 _ (List.mem_map_of_mem hp) _ (List.mem_cons_self ..), fun p hp => ?_⟩
  exact (List.pairwise_cons.1 h3.2.1).1 _ (List.mem_map_of_mem hp)
theorem count_split {pre post : List (Itm × Array Itm)} {x : Itm} {O : Array Itm} (e : visitL l = pre ++ (x, O) :: post) :
    countAt l x.lo = O.size + 1 + (post.map Prod.fst).countP fun y => hasI y x.lo := by
  obtain ⟨h1, h2, h3⟩ := open_ok h e
  have hp := (visitL_spec l h).2.1
  rw [countAt_items, ← hp.countP_eq, e, List.map_append, List.map_cons, List.countP_append, List.countP_cons]
  have hx := (fst_ok h (x, O) (by rw [e]; simp)).1
  have hxx : hasI x x.lo = true := by
    have := last_ok hx
    unfold hasI hasS lastS
    unfold okSpan at hx
    simp only at hx ⊢
    simp; omega
  rw [hxx]
  have hO : O.size = (pre.map Prod.fst).countP fun y => hasI y x.lo := by
    rw [← Array.length_toList, h1.length_eq, ← List.countP_eq_length_filter]
    refine List.countP_congr fun y hy => ?_
    obtain ⟨p, hp, rfl⟩ := List.mem_map.1 hy
    have hok := (fst_ok h p (by rw [e]; exact List.mem_append_left _ hp)).1
    have hl := (last_ok hok).1
    have h5 := h2 p hp
    unfold hasI hasS lastS
    rw [hl]
    simp; omega
  rw [hO]
  simp; omega
theorem depth_eq : depthV (visitL l) = depthR l := by
  apply Nat.le_antisymm
  · refine maxOf_le _ fun p hp => ?_
    obtain ⟨x, O⟩ := p
    obtain ⟨pre, post, e⟩ := List.append_of_mem hp
    have h1 := count_split h e
    obtain ⟨hok, hm⟩ := fst_ok h (x, O) hp
    obtain ⟨_, hi, hg⟩ := items_ok h x hm
    have h2 := le_maxOf (fun s => countAt l s.1) (List.getElem_mem hi)
    rw [hg] at h2
    show O.size + 1 ≤ _
    unfold depthR
    simp only at h2
    omega
  · refine maxOf_le _ fun s hs => ?_
    obtain ⟨i, hi, rfl⟩ := List.getElem_of_mem hs
    have hx0 : (⟨l[i].1, l[i].2, i⟩ : Itm) ∈ (visitL l).map Prod.fst := by
      refine (visitL_spec l h).2.1.symm.subset ?_
      have := List.getElem_mem (l := itemsL l) (n := i) (by rw [itemsL_length]; exact hi)
      rwa [itemsL_get] at this
    obtain ⟨p0, hp0, e0⟩ := List.mem_map.1 hx0
    obtain ⟨pre, ⟨x, O⟩, post, e, hP, hN⟩ := last_split (fun p : Itm × Array Itm => decide (p.1.lo ≤ l[i].1)) (visitL l) ⟨p0, hp0, by rw [e0]; simp⟩
    obtain ⟨h1, h2, h3⟩ := open_ok h e
    have hlo : x.lo = l[i].1 := by
      have h4 : x.lo ≤ l[i].1 := by simpa using hP
      have h5 : p0 ∈ pre ++ (x, O) :: post := by rw [← e]; exact hp0
      have e1 : p0.1.lo = l[i].1 := by rw [e0]
      rcases List.mem_append.1 h5 with h5 | h5
      · have := h2 p0 h5; omega
      · rcases List.mem_cons.1 h5 with rfl | h5
        · exact e1
        · have := hN p0 h5
          simp only [decide_eq_false_iff_not] at this
          omega
    have hc := count_split h e
    have hz : ((post.map Prod.fst).countP fun y => hasI y x.lo) = 0 := by
      rw [List.countP_eq_zero]
      intro y hy
      obtain ⟨p, hp, rfl⟩ := List.mem_map.1 hy
      have := hN p hp
      simp only [decide_eq_false_iff_not] at this
      unfold hasI hasS
      simp; omega
    have h6 : (x, O) ∈ visitL l := by rw [e]; simp
    have h7 := le_maxOf (fun p : Itm × Array Itm => p.2.size + 1) h6
    rw [hlo] at hc
    rw [hlo] at hz
    show countAt l l[i].1 ≤ _
    unfold depthV
    simp only at h7
    omega
end

/-! ### Pairs -/
def pairOf (x y : Itm) : Nat × Nat := (min x.idx y.idx, max x.idx y.idx)
def pairsV (V : List (Itm × Array Itm)) : List (Nat × Nat) := V.flatMap fun p => p.2.toList.map (pairOf p.1)
def meetS (a b : Nat × Nat) : Bool := hasS a b.1 || hasS b a.1
def rowR (l : List (Nat × Nat)) (i m : Nat) : List (Nat × Nat) := ((List.range m).filter fun j => decide (i < j) && meetS l[i]! l[j]!).map fun j => (i, j)
def pairsR (l : List (Nat × Nat)) : List (Nat × Nat) := (List.range l.length).flatMap fun i => rowR l i l.length
theorem mem_pairsR (l : List (Nat × Nat)) (i j : Nat) : (i, j) ∈ pairsR l ↔ i < j ∧ j < l.length ∧ meetS l[i]! l[j]! = true := by
  unfold pairsR rowR
  simp only [List.mem_flatMap, List.mem_range, List.mem_map, List.mem_filter, Bool.and_eq_true, decide_eq_true_eq, Prod.mk.injEq]
  constructor
  · rintro ⟨i', _, j', ⟨h1, h2, h3⟩, rfl, rfl⟩
    exact ⟨h2, h1, h3⟩
  · rintro ⟨h1, h2, h3⟩
    exact ⟨i, by omega, j, ⟨h2, h1, h3⟩, rfl, rfl⟩
/-- One pair before another. -/
def pairLt (a b : Nat × Nat) : Prop := a.1 < b.1 ∨ a.1 = b.1 ∧ a.2 < b.2
theorem range_lt (n : Nat) : (List.range n).Pairwise (fun a b => a < b) := List.pairwise_lt_range
theorem pairsR_sorted (l : List (Nat × Nat)) : (pairsR l).Pairwise pairLt := by
  unfold pairsR
  rw [List.pairwise_flatMap]
  refine ⟨fun i _ => ?_, (range_lt _).imp ?_⟩
  · unfold rowR
    rw [List.pairwise_map]
    exact ((range_lt _).filter _).imp fun h => .inr ⟨rfl, h⟩
  · intro a b hab x hx y hy
    unfold rowR at hx hy
    obtain ⟨j, _, rfl⟩ := List.mem_map.1 hx
    obtain ⟨k, _, rfl⟩ := List.mem_map.1 hy
    exact .inl hab
theorem nodup_of_lt {L : List (Nat × Nat)} (h : L.Pairwise pairLt) : L.Nodup := h.imp fun {a b} hab e => by
  subst e
  unfold pairLt at hab
  omega
section
variable {l : List (Nat × Nat)} (h : ∀ s ∈ l, okSpan s)
include h
theorem idx_nodup : ((visitL l).map fun p => p.1.idx).Nodup := by
  have h1 := (visitL_spec l h).2.1.map Itm.idx
  rw [List.map_map] at h1
  refine (h1.nodup_iff).2 ?_
  have e : (itemsL l).map Itm.idx = List.range l.length := by
    apply List.ext_getElem
    · simp [itemsL]
    · intro i h1 h2
      simp [itemsL]
  rw [e]
  exact List.nodup_range
theorem meet_items (x : Itm) (hx : x ∈ itemsL l) : l[x.idx]! = (x.lo, x.len) ∧ x.idx < l.length ∧ okSpan (x.lo, x.len) := by
  obtain ⟨h1, h2, h3⟩ := items_ok h x hx
  exact ⟨by rw [getElem!_pos l _ h2]; exact h3, h2, h1⟩
/-- An item before another, in the order of the visits: they meet exactly if the first one reaches the second. -/
theorem meet_later {x y : Itm} (hx : x ∈ itemsL l) (hy : y ∈ itemsL l) (hle : y.lo ≤ x.lo) : (meetS l[x.idx]! l[y.idx]! = true ↔ x.lo ≤ lastI y) ∧ (meetS l[y.idx]! l[x.idx]! = true ↔ x.lo ≤ lastI y) := by
  obtain ⟨e1, _, o1⟩ := meet_items h x hx
  obtain ⟨e2, _, o2⟩ := meet_items h y hy
  obtain ⟨l1, m1⟩ := last_ok o1
  obtain ⟨l2, m2⟩ := last_ok o2
  rw [e1, e2]
  unfold meetS hasS lastS
  simp only [Bool.or_eq_true, Bool.and_eq_true, decide_eq_true_eq]
  omega
theorem mem_pairsV (a : Nat × Nat) : a ∈ pairsV (visitL l) ↔ a ∈ pairsR l := by
  obtain ⟨i, j⟩ := a
  rw [mem_pairsR]
  have hnd := idx_nodup h
  constructor
  · intro ha
    unfold pairsV at ha
    obtain ⟨⟨x, O⟩, hp, hy⟩ := List.mem_flatMap.1 ha
    obtain ⟨y, hy, e⟩ := List.mem_map.1 hy
    obtain ⟨pre, post, hV⟩ := List.append_of_mem hp
    obtain ⟨h1, h2, h3⟩ := open_ok h hV
    have hy2 := h1.subset hy
    obtain ⟨hy3, hy4⟩ := List.mem_filter.1 hy2
    obtain ⟨q, hq, rfl⟩ := List.mem_map.1 hy3
    have hxi := (fst_ok h (x, O) hp).2
    have hyi := (fst_ok h q (by rw [hV]; exact List.mem_append_left _ hq)).2
    have hne : q.1.idx ≠ x.idx := by
      rw [hV, List.map_append, List.map_cons, List.nodup_append] at hnd
      exact hnd.2.2 _ (List.mem_map_of_mem (f := fun p : Itm × Array Itm => p.1.idx) hq) _ (List.mem_cons_self ..)
    have hm := meet_later h hxi hyi (h2 q hq)
    have hr : x.lo ≤ lastI q.1 := by simpa using hy4
    obtain ⟨_, b1, _⟩ := meet_items h x hxi
    obtain ⟨_, b2, _⟩ := meet_items h q.1 hyi
    unfold pairOf at e
    simp only [Prod.mk.injEq] at e
    obtain ⟨e1, e2⟩ := e
    rcases Nat.lt_or_ge x.idx q.1.idx with hlt | hge
    · rw [Nat.min_eq_left (by omega)] at e1
      rw [Nat.max_eq_right (by omega)] at e2
      subst e1 e2
      exact ⟨hlt, b2, hm.1.2 hr⟩
    · rw [Nat.min_eq_right (by omega)] at e1
      rw [Nat.max_eq_left (by omega)] at e2
      subst e1 e2
      exact ⟨by omega, b1, hm.2.2 hr⟩
  · rintro ⟨hij, hj, hm⟩
    have key : ∀ k (hk : k < l.length), ∃ p ∈ visitL l, p.1 = ⟨l[k].1, l[k].2, k⟩ := by
      intro k hk
      have hx0 : (⟨l[k].1, l[k].2, k⟩ : Itm) ∈ (visitL l).map Prod.fst := by
        refine (visitL_spec l h).2.1.symm.subset ?_
        have := List.getElem_mem (l := itemsL l) (n := k) (by rw [itemsL_length]; exact hk)
        rwa [itemsL_get] at this
      obtain ⟨p, hp, e⟩ := List.mem_map.1 hx0
      exact ⟨p, hp, e⟩
    obtain ⟨p, hp, ep⟩ := key i (by omega)
    obtain ⟨q, hq, eq⟩ := key j hj
    have hpq : p.1.idx = i ∧ q.1.idx = j := by rw [ep, eq]; exact ⟨rfl, rfl⟩
    -- the later one of two
    have done : ∀ (p q : Itm × Array Itm) (pre post : List (Itm × Array Itm)), visitL l = pre ++ p :: post → q ∈ pre → (meetS l[p.1.idx]! l[q.1.idx]! = true ∨ meetS l[q.1.idx]! l[p.1.idx]! = true) →
        pairOf p.1 q.1 ∈ pairsV (visitL l) := by
      rintro ⟨x, O⟩ q pre post hV hq hm
      obtain ⟨h1, h2, h3⟩ := open_ok h hV
      have hxi := (fst_ok h (x, O) (by rw [hV]; simp)).2
      have hyi := (fst_ok h q (by rw [hV]; exact List.mem_append_left _ hq)).2
      have hml := meet_later h hxi hyi (h2 q hq)
      have hr : x.lo ≤ lastI q.1 := by
        rcases hm with hm | hm
        · exact hml.1.1 hm
        · exact hml.2.1 hm
      unfold pairsV
      refine List.mem_flatMap.2 ⟨(x, O), by rw [hV]; simp, List.mem_map_of_mem (h1.symm.subset (List.mem_filter.2 ⟨List.mem_map_of_mem hq, by simpa using hr⟩))⟩
    obtain ⟨pre, post, hV⟩ := List.append_of_mem hp
    have hq2 := hq
    rw [hV] at hq2
    rcases List.mem_append.1 hq2 with hq3 | hq3
    · have := done p q pre post hV hq3 (.inl (by rw [hpq.1, hpq.2]; exact hm))
      unfold pairOf at this
      rw [hpq.1, hpq.2, Nat.min_eq_left (by omega), Nat.max_eq_right (by omega)] at this
      exact this
    · rcases List.mem_cons.1 hq3 with rfl | hq3
      · omega
      · obtain ⟨a, b, rfl⟩ := List.append_of_mem hq3
        have := done q p (pre ++ p :: a) b (by rw [hV]; simp) (by simp) (.inr (by rw [hpq.1, hpq.2]; exact hm))
        unfold pairOf at this
        rw [hpq.1, hpq.2, Nat.min_eq_right (by omega), Nat.max_eq_left (by omega)] at this
        exact this
theorem pairsV_nodup : (pairsV (visitL l)).Nodup := by
  have hnd := idx_nodup h
  have gen : ∀ (post pre : List (Itm × Array Itm)), visitL l = pre ++ post → (pairsV post).Nodup ∧ ∀ a ∈ pairsV post, ∃ p ∈ post, a.1 = p.1.idx ∨ a.2 = p.1.idx := by
    intro post
    induction post with
    | nil => intro pre _; exact ⟨List.nodup_nil, fun a ha => by cases ha⟩
    | cons p post ih =>
      intro pre hV
      obtain ⟨x, O⟩ := p
      obtain ⟨i1, i2⟩ := ih (pre ++ [(x, O)]) (by rw [hV]; simp)
      obtain ⟨h1, h2, h3⟩ := open_ok h hV
      have hnd2 := hnd
      rw [hV, List.map_append, List.map_cons, List.nodup_append, List.nodup_cons] at hnd2
      obtain ⟨n1, ⟨n2, n3⟩, n4⟩ := hnd2
      have hpost : ∀ y ∈ O.toList, y.idx ≠ x.idx ∧ ∀ q ∈ post, q.1.idx ≠ y.idx := by
        intro y hy
        obtain ⟨hy3, _⟩ := List.mem_filter.1 (h1.subset hy)
        obtain ⟨q, hq, rfl⟩ := List.mem_map.1 hy3
        refine ⟨n4 _ (List.mem_map_of_mem (f := fun p : Itm × Array Itm => p.1.idx) hq) _ (List.mem_cons_self ..), fun r hr => ?_⟩
        exact (n4 _ (List.mem_map_of_mem (f := fun p : Itm × Array Itm => p.1.idx) hq) _ (List.mem_cons_of_mem _ (List.mem_map_of_mem (f := fun p : Itm × Array Itm => p.1.idx) hr))).symm
      have hxp : ∀ q ∈ post, q.1.idx ≠ x.idx := by
        intro q hq e
        exact n2 (by rw [← e]; exact List.mem_map_of_mem (f := fun p : Itm × Array Itm => p.1.idx) hq)
      have hOn : (O.toList.map (pairOf x)).Nodup := by
        have h5 : (O.toList.map Itm.idx).Nodup := by
          have h6 : ((pre.map Prod.fst).filter fun y => decide (x.lo ≤ lastI y)).map Itm.idx |>.Nodup := by
            have h7 : ((pre.map Prod.fst).map Itm.idx).Nodup := by rw [List.map_map]; exact n1
            exact h7.sublist (List.filter_sublist.map _)
          exact ((h1.map Itm.idx).nodup_iff).2 h6
        unfold List.Nodup at h5 ⊢
        rw [List.pairwise_map] at h5 ⊢
        refine h5.imp_of_mem fun {a b} ha hb hab e => ?_
        have ha := (hpost a ha).1
        have hb := (hpost b hb).1
        unfold pairOf at e
        simp only [Prod.mk.injEq] at e
        omega
      have e : pairsV ((x, O) :: post) = O.toList.map (pairOf x) ++ pairsV post := rfl
      rw [e]
      refine ⟨List.nodup_append.2 ⟨hOn, i1, fun a ha b hb hab => ?_⟩, fun a ha => ?_⟩
      · subst hab
        obtain ⟨y, hy, rfl⟩ := List.mem_map.1 ha
        obtain ⟨q, hq, hqa⟩ := i2 _ hb
        have h8 := (hpost y hy).2 q hq
        have h9 := hxp q hq
        unfold pairOf at hqa
        simp only at hqa
        omega
      · rcases List.mem_append.1 ha with ha | ha
        · obtain ⟨y, hy, rfl⟩ := List.mem_map.1 ha
          refine ⟨(x, O), List.mem_cons_self .., ?_⟩
          unfold pairOf
          simp only
          omega
        · obtain ⟨q, hq, hqa⟩ := i2 a ha
          exact ⟨q, List.mem_cons_of_mem _ hq, hqa⟩
  exact (gen (visitL l) [] rfl).1
theorem pairs_perm : (pairsV (visitL l)).Perm (pairsR l) :=
  (List.perm_ext_iff_of_nodup (pairsV_nodup h) (nodup_of_lt (pairsR_sorted l))).2 (mem_pairsV h)
end
theorem maxOf_pos (V : List (Itm × Array Itm)) : (depthV V ≤ 1) ↔ pairsV V = [] := by
  unfold depthV pairsV
  rw [List.flatMap_eq_nil_iff]
  constructor
  · intro hle p hp
    have h1 : p.2.size + 1 ≤ maxOf (fun p : Itm × Array Itm => p.2.size + 1) V := le_maxOf (fun p : Itm × Array Itm => p.2.size + 1) hp
    have h0 : p.2.size = 0 := by omega
    rw [List.map_eq_nil_iff]
    exact List.eq_nil_of_length_eq_zero (by rw [Array.length_toList]; exact h0)
  · intro hn
    refine maxOf_le _ fun p hp => ?_
    have := hn p hp
    rw [List.map_eq_nil_iff] at this
    have h0 : p.2.size = 0 := by rw [← Array.length_toList, this]; rfl
    show p.2.size + 1 ≤ 1
    omega
/-- No depth beyond 1 exactly if no two spans overlap. -/
theorem depth_pairs {l : List (Nat × Nat)} (h : ∀ s ∈ l, okSpan s) : (depthR l ≤ 1) ↔ (pairsR l).length = 0 := by
  rw [← depth_eq h, maxOf_pos, ← (pairs_perm h).length_eq]
  exact ⟨fun e => by rw [e]; rfl, fun e => List.eq_nil_of_length_eq_zero e⟩
end Go.Proofs.Ytkhcdnehfiopgaa
namespace Go.Proofs.Ytkhcdnehfiopgaa
open Go.Sort

def inS (s : Nat × Nat) (t : Nat) : Prop := s.1 ≤ t ∧ t < s.1 + s.2
def covL (L : List (Nat × Nat)) (t : Nat) : Prop := ∃ s ∈ L, inS s t
/-- Spans apart from each other, in ascending order. -/
def Apart (L : List (Nat × Nat)) : Prop := L.Pairwise (fun a b => a.1 + a.2 < b.1) ∧ ∀ s ∈ L, 1 ≤ s.2
theorem apart_unique : ∀ (L M : List (Nat × Nat)), Apart L → Apart M → (∀ t, covL L t ↔ covL M t) → L = M := by
  intro L
  induction L with
  | nil =>
    intro M _ hM h
    cases M with
    | nil => rfl
    | cons b M =>
      obtain ⟨s, hs, _⟩ := (h b.1).2 ⟨b, List.mem_cons_self .., Nat.le_refl _, by have := hM.2 b (List.mem_cons_self ..); omega⟩
      cases hs
  | cons a L ih =>
    intro M hL hM h
    cases M with
    | nil =>
      obtain ⟨s, hs, _⟩ := (h a.1).1 ⟨a, List.mem_cons_self .., Nat.le_refl _, by have := hL.2 a (List.mem_cons_self ..); omega⟩
      cases hs
    | cons b M =>
      have la := hL.2 a (List.mem_cons_self ..)
      have lb := hM.2 b (List.mem_cons_self ..)
      obtain ⟨pa, pL⟩ := List.pairwise_cons.1 hL.1
      obtain ⟨pb, pM⟩ := List.pairwise_cons.1 hM.1
      have e1 : a.1 = b.1 := by
        obtain ⟨s, hs, h1, h2⟩ := (h a.1).1 ⟨a, List.mem_cons_self .., Nat.le_refl _, by omega⟩
        obtain ⟨r, hr, h3, h4⟩ := (h b.1).2 ⟨b, List.mem_cons_self .., Nat.le_refl _, by omega⟩
        have k1 : b.1 ≤ s.1 := by
          rcases List.mem_cons.1 hs with rfl | hs
          · exact Nat.le_refl _
          · have := pb s hs; omega
        have k2 : a.1 ≤ r.1 := by
          rcases List.mem_cons.1 hr with rfl | hr
          · exact Nat.le_refl _
          · have := pa r hr; omega
        omega
      have e2 : a.2 = b.2 := by
        rcases Nat.lt_trichotomy a.2 b.2 with hlt | he | hgt
        · obtain ⟨s, hs, h1, h2⟩ := (h (a.1 + a.2)).2 ⟨b, List.mem_cons_self .., by omega, by omega⟩
          rcases List.mem_cons.1 hs with rfl | hs
          · omega
          · have := pa s hs; omega
        · exact he
        · obtain ⟨s, hs, h1, h2⟩ := (h (b.1 + b.2)).1 ⟨a, List.mem_cons_self .., by omega, by omega⟩
          rcases List.mem_cons.1 hs with rfl | hs
          · omega
          · have := pb s hs; omega
      have e : a = b := Prod.ext e1 e2
      subst e
      rw [ih M ⟨pL, fun s hs => hL.2 s (List.mem_cons_of_mem _ hs)⟩ ⟨pM, fun s hs => hM.2 s (List.mem_cons_of_mem _ hs)⟩ ?_]
      intro t
      constructor
      · rintro ⟨s, hs, h1, h2⟩
        obtain ⟨r, hr, h3, h4⟩ := (h t).1 ⟨s, List.mem_cons_of_mem _ hs, h1, h2⟩
        rcases List.mem_cons.1 hr with rfl | hr
        · have := pa s hs; omega
        · exact ⟨r, hr, h3, h4⟩
      · rintro ⟨s, hs, h1, h2⟩
        obtain ⟨r, hr, h3, h4⟩ := (h t).2 ⟨s, List.mem_cons_of_mem _ hs, h1, h2⟩
        rcases List.mem_cons.1 hr with rfl | hr
        · have := pb s hs; omega
        · exact ⟨r, hr, h3, h4⟩

/-! ### The program's -/
structure GSt where
  out : List (Nat × Nat)
  next : Nat
  full : Bool
def gadd (e : Nat) (g : GSt) : GSt := if g.full = false ∧ g.next < e then { g with out := g.out ++ [(g.next, e - g.next)] } else g
def gstep (total : Nat) (g : GSt) (x : Itm) : GSt :=
  if lastI x = 18446744073709551615 then { gadd (min x.lo total) g with full := true }
  else { gadd (min x.lo total) g with next := max g.next (lastI x + 1) }
def gaps0 (total : Nat) (V : List Itm) : GSt := V.foldl (gstep total) ⟨[], 0, false⟩
def gapsV (total : Nat) (V : List Itm) : List (Nat × Nat) := (gadd total (gaps0 total V)).out
theorem gaps0_snoc (total : Nat) (V : List Itm) (x : Itm) : gaps0 total (V ++ [x]) = gstep total (gaps0 total V) x := by
  unfold gaps0; rw [List.foldl_append, List.foldl_cons, List.foldl_nil]
def covI (V : List Itm) (t : Nat) : Prop := ∃ x ∈ V, x.lo ≤ t ∧ t ≤ lastI x
theorem covI_snoc (V : List Itm) (x : Itm) (t : Nat) : covI (V ++ [x]) t ↔ covI V t ∨ (x.lo ≤ t ∧ t ≤ lastI x) := by
  unfold covI
  constructor
  · rintro ⟨y, hy, h⟩
    rcases List.mem_append.1 hy with hy | hy
    · exact .inl ⟨y, hy, h⟩
    · rw [List.mem_singleton] at hy; subst hy; exact .inr h
  · rintro (⟨y, hy, h⟩ | h)
    · exact ⟨y, List.mem_append_left _ hy, h⟩
    · exact ⟨x, by simp, h⟩
theorem covL_snoc (L : List (Nat × Nat)) (s : Nat × Nat) (t : Nat) : covL (L ++ [s]) t ↔ covL L t ∨ inS s t := by
  unfold covL
  constructor
  · rintro ⟨y, hy, h⟩
    rcases List.mem_append.1 hy with hy | hy
    · exact .inl ⟨y, hy, h⟩
    · rw [List.mem_singleton] at hy; subst hy; exact .inr h
  · rintro (⟨y, hy, h⟩ | h)
    · exact ⟨y, List.mem_append_left _ hy, h⟩
    · exact ⟨s, by simp, h⟩
theorem apart_snoc {L : List (Nat × Nat)} {s : Nat × Nat} (h : Apart L) (h1 : 1 ≤ s.2) (h2 : ∀ a ∈ L, a.1 + a.2 < s.1) : Apart (L ++ [s]) := by
  refine ⟨List.pairwise_append.2 ⟨h.1, List.pairwise_singleton _ _, fun a ha b hb => ?_⟩, fun a ha => ?_⟩
  · rw [List.mem_singleton] at hb; subst hb; exact h2 a ha
  · rcases List.mem_append.1 ha with ha | ha
    · exact h.2 a ha
    · rw [List.mem_singleton] at ha; subst ha; exact h1
/-- What holds after some visits. -/
structure GInv (total : Nat) (V : List Itm) (g : GSt) : Prop where
  apart : Apart g.out
  small : ∀ s ∈ g.out, s.1 + s.2 ≤ total
  top : g.full = false → ∀ x ∈ V, lastI x + 1 ≤ g.next
  has : g.full = false → g.next = 0 ∨ ∃ y ∈ V, lastI y + 1 = g.next
  below : g.full = false → ∀ s ∈ g.out, s.1 + s.2 < g.next
  set_ : g.full = false → ∀ t, covL g.out t ↔ t < total ∧ ¬ covI V t ∧ t < g.next
  fin : g.full = true → (∃ y ∈ V, lastI y = 18446744073709551615) ∧ ∀ t, t < 18446744073709551616 → (covL g.out t ↔ t < total ∧ ¬ covI V t)
theorem lastI_lt (x : Itm) : lastI x < 18446744073709551616 := by unfold lastI; omega
theorem gadd_full {g : GSt} (e : Nat) (h : g.full = true) : gadd e g = g := by unfold gadd; rw [if_neg (by rw [h]; simp)]
theorem gadd_next (e : Nat) (g : GSt) : (gadd e g).next = g.next ∧ (gadd e g).full = g.full := by unfold gadd; split <;> exact ⟨rfl, rfl⟩
/-- Behind an 'add' at a number not less than all spans' beginnings: everything below it is known. -/
theorem gadd_set {total : Nat} {V : List Itm} {g : GSt} (h : GInv total V g) (hf : g.full = false) (e : Nat) :
    Apart (gadd (min e total) g).out ∧ (∀ s ∈ (gadd (min e total) g).out, s.1 + s.2 ≤ total) ∧ (∀ s ∈ (gadd (min e total) g).out, s.1 + s.2 < g.next ∨ g.next < min e total ∧ s.1 + s.2 = min e total) ∧
      ∀ t, covL (gadd (min e total) g).out t ↔ t < total ∧ ¬ covI V t ∧ (t < g.next ∨ t < e) := by
  have hn : ∀ t, g.next ≤ t → ¬ covI V t := by
    rintro t ht ⟨x, hx, h1, h2⟩
    have := h.top hf x hx
    omega
  unfold gadd
  by_cases hc : g.full = false ∧ g.next < min e total
  · rw [if_pos hc]
    refine ⟨apart_snoc h.apart (by simp only; omega) (fun a ha => h.below hf a ha), fun s hs => ?_, fun s hs => ?_, fun t => ?_⟩
    · rcases List.mem_append.1 hs with hs | hs
      · exact h.small s hs
      · rw [List.mem_singleton] at hs; subst hs; simp only; omega
    · rcases List.mem_append.1 hs with hs | hs
      · exact .inl (h.below hf s hs)
      · rw [List.mem_singleton] at hs; subst hs; simp only; omega
    · rw [covL_snoc, h.set_ hf]
      unfold inS
      simp only
      constructor
      · rintro (⟨h1, h2, h3⟩ | h1)
        · exact ⟨h1, h2, .inl h3⟩
        · exact ⟨by omega, hn t (by omega), by omega⟩
      · rintro ⟨h1, h2, h3⟩
        by_cases h4 : t < g.next
        · exact .inl ⟨h1, h2, h4⟩
        · exact .inr (by omega)
  · rw [if_neg hc]
    have hc2 : min e total ≤ g.next := by
      rcases Nat.lt_or_ge g.next (min e total) with h1 | h1
      · exact absurd ⟨hf, h1⟩ hc
      · exact h1
    refine ⟨h.apart, h.small, fun s hs => .inl (h.below hf s hs), fun t => ?_⟩
    rw [h.set_ hf]
    constructor
    · rintro ⟨h1, h2, h3⟩; exact ⟨h1, h2, .inl h3⟩
    · rintro ⟨h1, h2, h3⟩; exact ⟨h1, h2, by omega⟩
theorem gstep_inv {total : Nat} {V : List Itm} {g : GSt} (h : GInv total V g) (x : Itm) (hx : x.lo ≤ lastI x) (hV : ∀ y ∈ V, y.lo ≤ x.lo) : GInv total (V ++ [x]) (gstep total g x) := by
  have hlt := lastI_lt x
  cases hf : g.full with
  | true =>
    obtain ⟨⟨y, hy, hl⟩, hs⟩ := h.fin hf
    have hcov : ∀ t, t < 18446744073709551616 → (covI (V ++ [x]) t ↔ covI V t) := by
      intro t ht
      rw [covI_snoc]
      constructor
      · rintro (h1 | ⟨h1, h2⟩)
        · exact h1
        · exact ⟨y, hy, by have := hV y hy; omega, by omega⟩
      · exact .inl
    have e : (gstep total g x).full = true ∧ (gstep total g x).out = g.out := by
      unfold gstep
      rw [gadd_full _ hf]
      split
      · exact ⟨rfl, rfl⟩
      · exact ⟨hf, rfl⟩
    have nf : (gstep total g x).full = false → False := by rw [e.1]; simp
    refine ⟨by rw [e.2]; exact h.apart, by rw [e.2]; exact h.small, fun h => (nf h).elim, fun h => (nf h).elim, fun h => (nf h).elim, fun h => (nf h).elim, fun _ => ⟨⟨y, List.mem_append_left _ hy, hl⟩, fun t ht => ?_⟩⟩
    rw [e.2, hs t ht, hcov t ht]
  | false =>
    obtain ⟨s1, s0, s2, s3⟩ := gadd_set h hf x.lo
    have htop := h.top hf
    have hhas := h.has hf
    obtain ⟨n1, n2⟩ := gadd_next (min x.lo total) g
    unfold gstep
    by_cases hl : lastI x = 18446744073709551615
    · rw [if_pos hl]
      refine ⟨s1, s0, fun h => by simp at h, fun h => by simp at h, fun h => by simp at h, fun h => by simp at h, fun _ => ⟨⟨x, by simp, hl⟩, fun t ht => ?_⟩⟩
      show covL (gadd (min x.lo total) g).out t ↔ _
      rw [s3, covI_snoc]
      constructor
      · rintro ⟨h1, h2, h3⟩
        refine ⟨h1, ?_⟩
        rintro (h4 | ⟨h4, h5⟩)
        · exact h2 h4
        · rcases hhas with h0 | ⟨y, hy, hyl⟩
          · omega
          · exact h2 ⟨y, hy, by have := hV y hy; omega, by omega⟩
      · rintro ⟨h1, h2⟩
        refine ⟨h1, fun h3 => h2 (.inl h3), ?_⟩
        by_cases h4 : t < x.lo
        · exact .inr h4
        · exact absurd (.inr ⟨by omega, by omega⟩) h2
    · rw [if_neg hl]
      refine ⟨s1, s0, fun _ y hy => ?_, fun _ => ?_, fun _ s hs => ?_, fun _ t => ?_, fun h1 => ?_⟩
      · show lastI y + 1 ≤ max g.next (lastI x + 1)
        rcases List.mem_append.1 hy with hy | hy
        · have := htop y hy; omega
        · rw [List.mem_singleton] at hy; subst hy; omega
      · show max g.next (lastI x + 1) = 0 ∨ ∃ y ∈ V ++ [x], lastI y + 1 = max g.next (lastI x + 1)
        refine .inr ?_
        by_cases hm : g.next ≤ lastI x + 1
        · exact ⟨x, by simp, by omega⟩
        · rcases hhas with h0 | ⟨y, hy, hyl⟩
          · omega
          · exact ⟨y, List.mem_append_left _ hy, by omega⟩
      · show s.1 + s.2 < max g.next (lastI x + 1)
        rcases s2 s hs with h1 | h1 <;> omega
      · show covL (gadd (min x.lo total) g).out t ↔ t < total ∧ ¬ covI (V ++ [x]) t ∧ t < max g.next (lastI x + 1)
        rw [s3, covI_snoc]
        constructor
        · rintro ⟨h1, h2, h3⟩
          refine ⟨h1, ?_, by omega⟩
          rintro (h4 | ⟨h4, h5⟩)
          · exact h2 h4
          · rcases hhas with h0 | ⟨y, hy, hyl⟩
            · omega
            · exact h2 ⟨y, hy, by have := hV y hy; omega, by omega⟩
        · rintro ⟨h1, h2, h3⟩
          refine ⟨h1, fun h3 => h2 (.inl h3), ?_⟩
          by_cases h4 : t < x.lo
          · exact .inr h4
          · by_cases h5 : t ≤ lastI x
            · exact absurd (.inr ⟨by omega, h5⟩) h2
            · exact .inl (by omega)
      · have : g.full = true := by rw [← n2]; exact h1
        rw [hf] at this; cases this
theorem gaps0_inv (total : Nat) : ∀ (V : List Itm), (∀ x ∈ V, x.lo ≤ lastI x) → V.Pairwise (fun a b => a.lo ≤ b.lo) → GInv total V (gaps0 total V) := by
  have gen : ∀ (W V : List Itm), (∀ x ∈ V ++ W, x.lo ≤ lastI x) → (V ++ W).Pairwise (fun a b => a.lo ≤ b.lo) → GInv total V (gaps0 total V) → GInv total (V ++ W) (gaps0 total (V ++ W)) := by
    intro W
    induction W with
    | nil => intro V _ _ h; rw [List.append_nil]; exact h
    | cons x W ih =>
      intro V h1 h2 h3
      have e : V ++ x :: W = (V ++ [x]) ++ W := by simp
      rw [e] at h1 h2 ⊢
      refine ih (V ++ [x]) h1 h2 ?_
      rw [gaps0_snoc]
      refine gstep_inv h3 x (h1 x (by simp)) fun y hy => ?_
      exact ((List.pairwise_append.1 (List.pairwise_append.1 h2).1).2.2) y hy x (List.mem_singleton.2 rfl)
  intro V h1 h2
  have := gen V [] (by simpa using h1) (by simpa using h2) ⟨⟨List.Pairwise.nil, fun s hs => (by cases hs)⟩, fun s hs => (by cases hs), fun _ x hx => (by cases hx), fun _ => .inl rfl, fun _ s hs => (by cases hs), fun _ t => ⟨fun ⟨s, hs, _⟩ => (by cases hs), fun h => (by have := h.2.2; simp [gaps0] at this)⟩, fun h => by simp [gaps0] at h⟩
  simpa using this
theorem gapsV_spec (total : Nat) (ht : total < 18446744073709551616) (V : List Itm) (h1 : ∀ x ∈ V, x.lo ≤ lastI x) (h2 : V.Pairwise (fun a b => a.lo ≤ b.lo)) :
    Apart (gapsV total V) ∧ ∀ t, covL (gapsV total V) t ↔ t < total ∧ ¬ covI V t := by
  have h := gaps0_inv total V h1 h2
  unfold gapsV
  cases hf : (gaps0 total V).full with
  | true =>
    rw [gadd_full _ hf]
    refine ⟨h.apart, fun t => ?_⟩
    by_cases h3 : t < 18446744073709551616
    · exact (h.fin hf).2 t h3
    · constructor
      · rintro ⟨s, hs, h4, h5⟩
        have := h.small s hs
        omega
      · rintro ⟨h4, _⟩; omega
  | false =>
    have := gadd_set h hf total
    rw [Nat.min_self] at this
    refine ⟨this.1, fun t => ?_⟩
    rw [this.2.2.2 t]
    constructor
    · rintro ⟨h3, h4, _⟩; exact ⟨h3, h4⟩
    · rintro ⟨h3, h4⟩; exact ⟨h3, h4, .inr h3⟩

/-! ### The reference's -/
def cut1 (s x : Nat × Nat) : List (Nat × Nat) :=
  if meetS x s then (if x.1 < s.1 then [(x.1, s.1 - x.1)] else []) ++ (if lastS s < lastS x then [(lastS s + 1, lastS x - lastS s)] else []) else [x]
def cutR (L : List (Nat × Nat)) (s : Nat × Nat) : List (Nat × Nat) := L.flatMap (cut1 s)
def gapsR (total : Nat) (l : List (Nat × Nat)) : List (Nat × Nat) := if total = 0 then [] else l.foldl cutR [(0, total)]
/-- The parts of a span that a second one leaves. -/
theorem cut1_in {s x : Nat × Nat} (hs : 1 ≤ s.2) (hx : 1 ≤ x.2) : Apart (cut1 s x) ∧ (∀ y ∈ cut1 s x, x.1 ≤ y.1 ∧ y.1 + y.2 ≤ x.1 + x.2) ∧ ∀ t, covL (cut1 s x) t ↔ inS x t ∧ ¬ inS s t := by
  obtain ⟨a, m⟩ := s
  obtain ⟨b, n⟩ := x
  unfold cut1 meetS hasS lastS
  simp only at hs hx
  by_cases hm : (decide (b ≤ a) && decide (a ≤ b + n - 1) || decide (a ≤ b) && decide (b ≤ a + m - 1)) = true
  · simp only [hm, if_true]
    simp only [Bool.or_eq_true, Bool.and_eq_true, decide_eq_true_eq] at hm
    by_cases h1 : b < a
    · rw [if_pos h1]
      by_cases h2 : a + m - 1 < b + n - 1
      · rw [if_pos h2]
        refine ⟨⟨by simp; omega, by simp; omega⟩, by simp; omega, fun t => ?_⟩
        unfold covL inS
        simp
        omega
      · rw [if_neg h2]
        refine ⟨⟨by simp, by simp; omega⟩, by simp; omega, fun t => ?_⟩
        unfold covL inS
        simp
        omega
    · rw [if_neg h1]
      by_cases h2 : a + m - 1 < b + n - 1
      · rw [if_pos h2]
        refine ⟨⟨by simp, by simp; omega⟩, by simp; omega, fun t => ?_⟩
        unfold covL inS
        simp
        omega
      · rw [if_neg h2]
        refine ⟨⟨by simp, by simp⟩, by simp, fun t => ?_⟩
        unfold covL inS
        simp
        omega
  · rw [if_neg hm]
    simp only [Bool.or_eq_true, Bool.and_eq_true, decide_eq_true_eq] at hm
    refine ⟨⟨by simp, by simp; omega⟩, by simp, fun t => ?_⟩
    unfold covL inS
    simp
    omega
theorem cutR_in {L : List (Nat × Nat)} {s : Nat × Nat} (hs : 1 ≤ s.2) (hL : Apart L) : Apart (cutR L s) ∧ ∀ t, covL (cutR L s) t ↔ covL L t ∧ ¬ inS s t := by
  refine ⟨⟨?_, ?_⟩, fun t => ?_⟩
  · unfold cutR
    rw [List.pairwise_flatMap]
    refine ⟨fun x hx => (cut1_in hs (hL.2 x hx)).1.1, hL.1.imp_of_mem fun {a b} ha hb hab x hx y hy => ?_⟩
    have h1 := (cut1_in hs (hL.2 a ha)).2.1 x hx
    have h2 := (cut1_in hs (hL.2 b hb)).2.1 y hy
    omega
  · intro y hy
    obtain ⟨x, hx, hy⟩ := List.mem_flatMap.1 hy
    exact (cut1_in hs (hL.2 x hx)).1.2 y hy
  · constructor
    · rintro ⟨y, hy, ht⟩
      obtain ⟨x, hx, hy⟩ := List.mem_flatMap.1 hy
      have := ((cut1_in hs (hL.2 x hx)).2.2 t).1 ⟨y, hy, ht⟩
      exact ⟨⟨x, hx, this.1⟩, this.2⟩
    · rintro ⟨⟨x, hx, h1⟩, h2⟩
      obtain ⟨y, hy, ht⟩ := ((cut1_in hs (hL.2 x hx)).2.2 t).2 ⟨h1, h2⟩
      exact ⟨y, List.mem_flatMap.2 ⟨x, hx, hy⟩, ht⟩
theorem cuts_in : ∀ (l L : List (Nat × Nat)), (∀ s ∈ l, 1 ≤ s.2) → Apart L → Apart (l.foldl cutR L) ∧ ∀ t, covL (l.foldl cutR L) t ↔ covL L t ∧ ¬ covL l t := by
  intro l
  induction l with
  | nil => intro L _ hL; exact ⟨hL, fun t => ⟨fun h => ⟨h, fun ⟨s, hs, _⟩ => (by cases hs)⟩, fun h => h.1⟩⟩
  | cons s l ih =>
    intro L hl hL
    obtain ⟨h1, h2⟩ := cutR_in (hl s (List.mem_cons_self ..)) hL
    obtain ⟨h3, h4⟩ := ih (cutR L s) (fun x hx => hl x (List.mem_cons_of_mem _ hx)) h1
    rw [List.foldl_cons]
    refine ⟨h3, fun t => ?_⟩
    rw [h4, h2]
    constructor
    · rintro ⟨⟨a, b⟩, c⟩
      refine ⟨a, ?_⟩
      rintro ⟨x, hx, hxt⟩
      rcases List.mem_cons.1 hx with rfl | hx
      · exact b hxt
      · exact c ⟨x, hx, hxt⟩
    · rintro ⟨a, b⟩
      exact ⟨⟨a, fun h => b ⟨s, List.mem_cons_self .., h⟩⟩, fun ⟨x, hx, hxt⟩ => b ⟨x, List.mem_cons_of_mem _ hx, hxt⟩⟩
theorem gapsR_spec (total : Nat) (l : List (Nat × Nat)) (hl : ∀ s ∈ l, 1 ≤ s.2) : Apart (gapsR total l) ∧ ∀ t, covL (gapsR total l) t ↔ t < total ∧ ¬ covL l t := by
  unfold gapsR
  by_cases h0 : total = 0
  · rw [if_pos h0]
    exact ⟨⟨List.Pairwise.nil, fun s hs => (by cases hs)⟩, fun t => ⟨fun ⟨s, hs, _⟩ => (by cases hs), fun h => by omega⟩⟩
  · rw [if_neg h0]
    obtain ⟨h1, h2⟩ := cuts_in l [(0, total)] hl ⟨by simp, by simp; omega⟩
    refine ⟨h1, fun t => ?_⟩
    rw [h2]
    have : covL [(0, total)] t ↔ t < total := by unfold covL inS; simp
    rw [this]
theorem gaps_eq (total : Nat) (ht : total < 18446744073709551616) {l : List (Nat × Nat)} (h : ∀ s ∈ l, okSpan s) : gapsV total ((visitL l).map Prod.fst) = gapsR total l := by
  obtain ⟨_, h2, h3⟩ := visitL_spec l h
  have hlo : ∀ x ∈ (visitL l).map Prod.fst, x.lo ≤ lastI x := fun x hx => (last_ok (items_ok h x (h2.subset hx)).1).2
  obtain ⟨a1, a2⟩ := gapsV_spec total ht _ hlo h3
  obtain ⟨b1, b2⟩ := gapsR_spec total l fun s hs => (h s hs).1
  refine apart_unique _ _ a1 b1 fun t => ?_
  rw [a2, b2]
  have : covI ((visitL l).map Prod.fst) t ↔ covL l t := by
    constructor
    · rintro ⟨x, hx, h4, h5⟩
      obtain ⟨h6, h7, h8⟩ := items_ok h x (h2.subset hx)
      have := last_ok h6
      refine ⟨l[x.idx], List.getElem_mem h7, ?_⟩
      rw [h8]
      unfold inS
      unfold okSpan at h6
      simp only at h6 ⊢
      omega
    · rintro ⟨s, hs, h4, h5⟩
      obtain ⟨i, hi, rfl⟩ := List.getElem_of_mem hs
      have hm := List.getElem_mem (l := itemsL l) (n := i) (by rw [itemsL_length]; exact hi)
      have hok := (items_ok h _ hm).1
      refine ⟨_, h2.symm.subset hm, ?_⟩
      have := last_ok hok
      rw [itemsL_get] at hok this ⊢
      unfold okSpan at hok
      simp only at hok this ⊢
      omega
  rw [this]
/-- No gap overlaps a span. -/
theorem gaps_clear (total : Nat) {l : List (Nat × Nat)} (h : ∀ s ∈ l, okSpan s) (g s : Nat × Nat) (hg : g ∈ gapsR total l) (hs : s ∈ l) : meetS g s = false := by
  obtain ⟨b1, b2⟩ := gapsR_spec total l fun s hs => (h s hs).1
  have hg2 := b1.2 g hg
  have hs2 := (h s hs).1
  cases hm : meetS g s with
  | false => rfl
  | true =>
    unfold meetS hasS lastS at hm
    simp only [Bool.or_eq_true, Bool.and_eq_true, decide_eq_true_eq] at hm
    have := ((b2 (max g.1 s.1)).1 ⟨g, hg, by unfold inS; omega⟩).2
    exact absurd ⟨s, hs, by unfold inS; omega⟩ this
theorem gapsR_ok (total : Nat) {l : List (Nat × Nat)} (h : ∀ s ∈ l, okSpan s) : ∀ g ∈ gapsR total l, 1 ≤ g.2 ∧ g.1 + g.2 ≤ total := by
  obtain ⟨b1, b2⟩ := gapsR_spec total l fun s hs => (h s hs).1
  intro g hg
  have := b1.2 g hg
  refine ⟨this, ?_⟩
  have := ((b2 (g.1 + g.2 - 1)).1 ⟨g, hg, by unfold inS; omega⟩).1
  omega
/-- The order of the spans does not matter. -/
theorem gapsR_perm (total : Nat) {l m : List (Nat × Nat)} (h : ∀ s ∈ l, okSpan s) (hp : l.Perm m) : gapsR total l = gapsR total m := by
  obtain ⟨a1, a2⟩ := gapsR_spec total l fun s hs => (h s hs).1
  obtain ⟨b1, b2⟩ := gapsR_spec total m fun s hs => (h s (hp.symm.subset hs)).1
  refine apart_unique _ _ a1 b1 fun t => ?_
  rw [a2, b2]
  have : covL l t ↔ covL m t := ⟨fun ⟨s, hs, x⟩ => ⟨s, hp.subset hs, x⟩, fun ⟨s, hs, x⟩ => ⟨s, hp.symm.subset hs, x⟩⟩
  rw [this]
theorem countAt_perm {l m : List (Nat × Nat)} (hp : l.Perm m) (t : Nat) : countAt l t = countAt m t := hp.countP_eq _
theorem depthR_perm {l m : List (Nat × Nat)} (hp : l.Perm m) : depthR l = depthR m := by
  apply Nat.le_antisymm
  · refine maxOf_le _ fun s hs => ?_
    rw [countAt_perm hp]
    exact le_maxOf (fun s => countAt m s.1) (hp.subset hs)
  · refine maxOf_le _ fun s hs => ?_
    rw [← countAt_perm hp]
    exact le_maxOf (fun s => countAt l s.1) (hp.symm.subset hs)
end Go.Proofs.Ytkhcdnehfiopgaa
namespace Go.Proofs.Ytkhcdnehfiopgaa
open Go.RowKit Go.Sort
set_option linter.unusedVariables false

def gset (B : Nat) (R : Option Nat) (k : Nat) : Prop := (B ≤ k ∧ k < B + 5) ∨ R = some k
section
variable {B total : Nat} {g : GSt} {R : Option Nat} {w w' : World} {M : Nat → Prop}
end
theorem sp_one (s : Nat × Nat) : ∀ u ∈ spL s, u.oneCell' = true := by
  intro u hu
  simp only [spL, List.mem_cons, List.not_mem_nil, or_false] at hu
  rcases hu with rfl | rfl <;> rfl
theorem sp_cells (w : World) (s : Nat × Nat) (t : TypeId) : ∀ j u, (spL s)[j]? = some u → (w.alloc (.cells #[.int .u64 (s.1 : Int), .int .u64 (s.2 : Int)] t)).cell? ((⟨w.heap.size, 0, none⟩ : Addr).add j) = some u := by
  intro j u h
  have e : ((⟨w.heap.size, 0, none⟩ : Addr).add j) = ⟨w.heap.size, j, none⟩ := by unfold Addr.add; split <;> simp_all
  rw [e, (Blk.new w t _).cell j, ← Array.getElem?_toList]
  exact h
theorem wrap_succ (L : Nat) (h : L < 18446744073709551615) : IntKind.u64.wrap ((L : Int) + 1) = ((L + 1 : Nat) : Int) := by
  simp only [IntKind.wrap, IntKind.bits, IntKind.signed]; simp; omega
theorem gadd_len (e : Nat) (g : GSt) : (gadd e g).out.length ≤ g.out.length + 1 := by
  unfold gadd; split <;> simp
theorem gstep_small (total : Nat) (g : GSt) (x : Itm) (h : g.next < 18446744073709551616) : (gstep total g x).out.length ≤ g.out.length + 1 ∧ (gstep total g x).next < 18446744073709551616 := by
  have h1 := gadd_len (min x.lo total) g
  have h2 := (gadd_next (min x.lo total) g).1
  have h3 := lastI_lt x
  unfold gstep
  split
  · exact ⟨h1, by show (gadd (min x.lo total) g).next < _; rw [h2]; exact h⟩
  · exact ⟨h1, by show max g.next (lastI x + 1) < _; omega⟩
theorem gfold_small (total : Nat) : ∀ (V : List Itm) (g : GSt), g.next < 18446744073709551616 → (V.foldl (gstep total) g).out.length ≤ g.out.length + V.length ∧ (V.foldl (gstep total) g).next < 18446744073709551616 := by
  intro V
  induction V with
  | nil => intro g h; exact ⟨Nat.le_refl _, h⟩
  | cons x V ih =>
    intro g h
    obtain ⟨h1, h2⟩ := gstep_small total g x h
    obtain ⟨h3, h4⟩ := ih _ h2
    rw [List.foldl_cons, List.length_cons]
    exact ⟨by omega, h4⟩
theorem gaps0_small (total : Nat) (V : List Itm) : (gaps0 total V).out.length ≤ V.length ∧ (gaps0 total V).next < 18446744073709551616 := by
  have := gfold_small total V ⟨[], 0, false⟩ (by show 0 < _; omega)
  simpa [gaps0] using this
end Go.Proofs.Ytkhcdnehfiopgaa
namespace Go.Proofs.Ytkhcdnehfiopgaa
open Go.RowKit Go.Sort
set_option linter.unusedVariables false

def prL (p : Nat × Nat) : List Value := [.int .i64 (p.1 : Int), .int .i64 (p.2 : Int)]
theorem prL_len (p : Nat × Nat) : (prL p).length = 2 := rfl
def pset (B : Nat) (R : Option Nat) (k : Nat) : Prop := k = B ∨ R = some k
section
variable {B : Nat} {ps : List (Nat × Nat)} {R : Option Nat} {w w' : World} {M : Nat → Prop}
end
theorem pr_one (s : Nat × Nat) : ∀ u ∈ prL s, u.oneCell' = true := by
  intro u hu
  simp only [prL, List.mem_cons, List.not_mem_nil, or_false] at hu
  rcases hu with rfl | rfl <;> rfl
theorem pr_cells (w : World) (s : Nat × Nat) (t : TypeId) (g : Nat) (hg : g = w.heap.size) : ∀ j u, (prL s)[j]? = some u → (w.alloc (.cells #[.int .i64 (s.1 : Int), .int .i64 (s.2 : Int)] t)).cell? ((⟨g, 0, none⟩ : Addr).add j) = some u := by
  intro j u h
  subst hg
  have e : ((⟨w.heap.size, 0, none⟩ : Addr).add j) = ⟨w.heap.size, j, none⟩ := by unfold Addr.add; split <;> simp_all
  rw [e, (Blk.new w t _).cell j, ← Array.getElem?_toList]
  exact h
end Go.Proofs.Ytkhcdnehfiopgaa
namespace Go.Proofs.Ytkhcdnehfiopgaa
open Go.RowKit Go.Sort
set_option linter.unusedVariables false

def orI (a b : Int) : Int := if a = 0 then b else a
def cfP (x y : Nat × Nat) : Int := orI (Lib.compareInt (x.1 : Int) (y.1 : Int)) (Lib.compareInt (x.2 : Int) (y.2 : Int))
theorem ltP (x y : Nat × Nat) : ltOf cfP x y = decide (x.1 < y.1 ∨ x.1 = y.1 ∧ x.2 < y.2) := by
  unfold ltOf cfP orI Lib.compareInt
  rw [Bool.eq_iff_iff]
  simp only [decide_eq_true_eq]
  by_cases h1 : (x.1 : Int) < y.1
  · simp [h1]; omega
  · by_cases h2 : (y.1 : Int) < x.1
    · simp [h1, h2]; omega
    · by_cases h3 : (x.2 : Int) < y.2
      · simp [h1, h2, h3]; omega
      · by_cases h4 : (y.2 : Int) < x.2 <;> simp [h1, h2, h3, h4] <;> omega
theorem swoP : SWO (ltOf cfP) where
  irrefl x := by rw [ltP]; simp
  trans x y z h1 h2 := by rw [ltP] at *; simp at *; omega
  ntrans x y z h1 h2 := by rw [ltP] at *; simp at *; omega
theorem totP (x y : Nat × Nat) (h1 : ltOf cfP x y = false) (h2 : ltOf cfP y x = false) : x = y := by
  rw [ltP] at *; simp at h1 h2
  exact Prod.ext (by omega) (by omega)
theorem pairsV_snoc (V : List (Itm × Array Itm)) (x : Itm) (O : Array Itm) : pairsV (V ++ [(x, O)]) = pairsV V ++ O.toList.map (pairOf x) := by
  unfold pairsV; rw [List.flatMap_append]; simp
theorem pairsV_len (V : List (Itm × Array Itm)) (h : ∀ p ∈ V, p.2.size ≤ 1000000) : (pairsV V).length ≤ V.length * 1000000 := by
  induction V with
  | nil => simp [pairsV]
  | cons p V ih =>
    have h1 := ih (fun q hq => h q (List.mem_cons_of_mem _ hq))
    have h2 := h p (List.mem_cons_self ..)
    have e : pairsV (p :: V) = p.2.toList.map (pairOf p.1) ++ pairsV V := rfl
    rw [e, List.length_append, List.length_map, Array.length_toList, List.length_cons]
    omega
/-- One sorted list. -/
theorem sorted_one : ∀ (L M : List (Nat × Nat)), L.Pairwise pairLt → M.Pairwise (fun a b => (!ltOf cfP b a) = true) → M.Perm L → M = L := by
  intro L
  induction L with
  | nil => intro M _ _ h; exact h.eq_nil
  | cons a L ih =>
    intro M hL hM hp
    cases M with
    | nil => exact absurd hp.symm.eq_nil (by simp)
    | cons b M =>
      rw [List.pairwise_cons] at hL hM
      have hab : b = a := by
        have h1 : b ∈ a :: L := hp.subset (List.mem_cons_self ..)
        have h2 : a ∈ b :: M := hp.symm.subset (List.mem_cons_self ..)
        rcases List.mem_cons.1 h1 with h1 | h1
        · exact h1
        · rcases List.mem_cons.1 h2 with h2 | h2
          · exact h2.symm
          · have h3 := hL.1 b h1
            have h4 := hM.1 a h2
            rw [ltP] at h4
            unfold pairLt at h3
            simp at h4
            omega
      subst hab
      rw [ih M hL.2 hM.2 ((List.perm_cons _).1 hp)]
theorem pairs_sorted {l : List (Nat × Nat)} (h : ∀ s ∈ l, okSpan s) : ((pairsV (visitL l)).mergeSort fun x y => !ltOf cfP y x) = pairsR l := by
  refine sorted_one _ _ (pairsR_sorted l) (List.pairwise_mergeSort ?_ ?_ _) ((List.mergeSort_perm _ _).trans (pairs_perm h))
  · intro a b c h1 h2
    rw [ltP] at *
    simp at *
    omega
  · intro a b
    rw [ltP, ltP]
    simp
    omega
end Go.Proofs.Ytkhcdnehfiopgaa
namespace Go.Proofs.Ytkhcdnehfiopgaa
open Go.RowKit Go.Sort
set_option linter.unusedVariables false

def firstStep (al : Nat × Nat → Bool) (f : Int × Int) (p : Nat × Nat) : Int × Int := if al p = true then f else if f.2 < 0 ∨ (p.2 : Int) < f.2 then ((p.1 : Int), (p.2 : Int)) else f
def firstOf (al : Nat × Nat → Bool) (ps : List (Nat × Nat)) : Int × Int := ps.foldl (firstStep al) (-1, -1)
theorem firstOf_succ (al : Nat × Nat → Bool) (ps : List (Nat × Nat)) (k : Nat) (h : k < ps.length) : firstOf al (ps.take (k + 1)) = firstStep al (firstOf al (ps.take k)) ps[k] := by
  unfold firstOf; rw [List.take_succ_eq_append_getElem h, List.foldl_append]; rfl
theorem pairsR_len (l : List (Nat × Nat)) : (pairsR l).length ≤ l.length * l.length := by
  have h1 : ∀ i m, (rowR l i m).length ≤ m := by
    intro i m
    unfold rowR
    rw [List.length_map]
    exact Nat.le_trans (List.length_filter_le _ _) (by rw [List.length_range]; exact Nat.le_refl _)
  have h2 : ∀ k, ((List.range k).flatMap fun i => rowR l i l.length).length ≤ k * l.length := by
    intro k
    induction k with
    | zero => simp
    | succ k ih =>
      rw [List.range_succ, List.flatMap_append, List.length_append]
      have := h1 k l.length
      rw [Nat.succ_mul]
      simp only [List.flatMap_cons, List.flatMap_nil, List.append_nil]
      omega
  exact h2 l.length
end Go.Proofs.Ytkhcdnehfiopgaa
namespace Go.Proofs.Ytkhcdnehfiopgaa
open Go.RowKit Go.Sort
set_option linter.unusedVariables false

theorem wLast_ok {s : Nat × Nat} (h : okSpan s) : lastW s = s.1 + s.2 - 1 ∧ s.1 ≤ lastW s := last_ok (x := ⟨s.1, s.2, 0⟩) h
theorem meetB_ok {a b : Nat × Nat} (ha : okSpan a) (hb : okSpan b) : meetB a b = meetS a b := by
  obtain ⟨h1, h2⟩ := wLast_ok ha
  obtain ⟨h3, h4⟩ := wLast_ok hb
  unfold meetB meetS hasB hasS lastS
  rw [h1, h3]
theorem fold_min : ∀ (ps : List (Nat × Nat)) (f : Int × Int), (f.2 < 0 ∧ ps = [] ∧ (ps.foldl (firstStep (fun _ => false)) f).2 = f.2) ∨
    (0 ≤ (ps.foldl (firstStep (fun _ => false)) f).2 ∧ (∀ p ∈ ps, (ps.foldl (firstStep (fun _ => false)) f).2 ≤ (p.2 : Int)) ∧ (0 ≤ f.2 → (ps.foldl (firstStep (fun _ => false)) f).2 ≤ f.2) ∧ ((∃ p ∈ ps, (ps.foldl (firstStep (fun _ => false)) f).2 = (p.2 : Int)) ∨ (ps.foldl (firstStep (fun _ => false)) f).2 = f.2)) := by
  intro ps
  induction ps with
  | nil =>
    intro f
    by_cases hf : f.2 < 0
    · exact .inl ⟨hf, rfl, rfl⟩
    · exact .inr ⟨by simpa using hf, fun p hp => (by cases hp), fun _ => Int.le_refl _, .inr rfl⟩
  | cons p ps ih =>
    intro f
    rw [List.foldl_cons]
    have e : firstStep (fun _ => false) f p = if f.2 < 0 ∨ (p.2 : Int) < f.2 then ((p.1 : Int), (p.2 : Int)) else f := by unfold firstStep; rw [if_neg (by simp)]
    have hs : 0 ≤ (firstStep (fun _ => false) f p).2 ∧ (firstStep (fun _ => false) f p).2 ≤ (p.2 : Int) ∧ (0 ≤ f.2 → (firstStep (fun _ => false) f p).2 ≤ f.2) ∧ ((firstStep (fun _ => false) f p).2 = (p.2 : Int) ∨ (firstStep (fun _ => false) f p).2 = f.2) := by
      rw [e]
      split
      · rename_i h
        exact ⟨by simp, by simp, fun h0 => by simp; omega, .inl rfl⟩
      · rename_i h
        exact ⟨by omega, by omega, fun _ => Int.le_refl _, .inr rfl⟩
    generalize firstStep (fun _ => false) f p = g at *
    obtain ⟨h1, h2, h3, h4⟩ := hs
    rcases ih g with ⟨h5, _, _⟩ | ⟨h5, h6, h7, h8⟩
    · omega
    · refine .inr ⟨h5, fun q hq => ?_, fun h0 => Int.le_trans (h7 h1) (h3 h0), ?_⟩
      · rcases List.mem_cons.1 hq with rfl | hq
        · exact Int.le_trans (h7 h1) h2
        · exact h6 q hq
      · rcases h8 with ⟨q, hq, e8⟩ | e8
        · exact .inl ⟨q, List.mem_cons_of_mem _ hq, e8⟩
        · rcases h4 with h4 | h4
          · exact .inl ⟨p, by simp, by rw [e8, h4]⟩
          · exact .inr (by rw [e8, h4])
theorem overAt_ex {l : List WinR} {j : Nat} (hj : j < l.length) (h : overAt l j = true) : ∃ i, ∃ hi : i < j, meetB (wsp (l[i]'(by omega))) (wsp l[j]) = true := by
  unfold overAt at h
  rw [List.getElem?_eq_getElem hj, List.any_eq_true] at h
  obtain ⟨x, hx, he⟩ := h
  rw [List.mem_take_iff_getElem] at hx
  obtain ⟨i, hi, rfl⟩ := hx
  exact ⟨i, by omega, he⟩
theorem over_eq (l : List WinR) (hok : ∀ s ∈ l.map wsp, okSpan s) : (firstOf (fun _ => false) (pairsR (l.map wsp))).2 = match firstOver l with | some j => (j : Int) | none => -1 := by
  have hget : ∀ i, (hi : i < l.length) → (l.map wsp)[i]! = wsp l[i] := fun i hi => by rw [getElem!_pos _ i (by simpa using hi), List.getElem_map]
  have hmb : ∀ i j, (hi : i < l.length) → (hj : j < l.length) → meetB (wsp l[i]) (wsp l[j]) = meetS (l.map wsp)[i]! (l.map wsp)[j]! := fun i j hi hj => by
    rw [hget i hi, hget j hj]
    exact meetB_ok (hok _ (List.mem_map_of_mem (List.getElem_mem _))) (hok _ (List.mem_map_of_mem (List.getElem_mem _)))
  have hmem : ∀ i j, (hi : i < j) → (hj : j < l.length) → meetB (wsp (l[i]'(by omega))) (wsp l[j]) = true → (i, j) ∈ pairsR (l.map wsp) := fun i j hi hj hm => by
    rw [mem_pairsR]
    exact ⟨hi, by simpa using hj, by rw [← hmb i j (by omega) hj]; exact hm⟩
  unfold firstOf
  rcases fold_min (pairsR (l.map wsp)) (-1, -1) with ⟨_, h0, h1⟩ | ⟨h1, h2, _, h3⟩
  · have hn : firstOver l = none := firstOver_none (fun j hj => overAt_no hj (fun i hi => by
      cases hm : meetB (wsp (l[i]'(by omega))) (wsp l[j]) with
      | false => rfl
      | true => have := hmem i j hi hj hm; rw [h0] at this; cases this))
    rw [hn, h1]
  · rcases h3 with ⟨⟨i, j⟩, hp, e⟩ | e
    · rw [e] at h2 ⊢
      rw [mem_pairsR] at hp
      obtain ⟨hij, hjl, hm⟩ := hp
      have hjl' : j < l.length := by simpa using hjl
      have hs : firstOver l = some j := firstOver_some hjl' (fun a ha => by
        cases ho : overAt l a with
        | false => rfl
        | true =>
          obtain ⟨i', hi', hm'⟩ := overAt_ex (by omega) ho
          have := h2 _ (hmem i' a hi' (by omega) hm')
          simp only at this
          omega) (overAt_yes hjl' hij (by rw [hmb i j (by omega) hjl']; exact hm))
      rw [hs]
    · simp only at e h1
      omega
end Go.Proofs.Ytkhcdnehfiopgaa
