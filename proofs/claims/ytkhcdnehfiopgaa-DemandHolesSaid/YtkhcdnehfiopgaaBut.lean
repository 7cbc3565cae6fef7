/- But for a set of blocks nothing has turned; elements of several cells. -/
import Derived.Test.YtkhcdnehfiopgaaMem
namespace Go.Proofs.Ytkhcdnehfiopgaa
open Go.RowKit Go.WideShapes Go.ChangeShapes

/-- But for a set of blocks, nothing that was there has turned. -/
structure But (M : Nat → Prop) (w w' : World) : Prop where
  os : w'.os = w.os
  tape : w'.tape = w.tape
  output : w'.output = w.output
  size : w.heap.size ≤ w'.heap.size
  block : ∀ k, k < w.heap.size → ¬ M k → w'.heap[k]? = w.heap[k]?
section
variable {M M' : Nat → Prop} {a b c w w' : World} {g : Nat} {t : TypeId} {cs : Array Value}
theorem But.refl (M : Nat → Prop) (w : World) : But M w w := ⟨rfl, rfl, rfl, Nat.le_refl _, fun _ _ _ => rfl⟩
theorem But.trans (h : But M a b) (k : But M b c) : But M a c :=
  ⟨k.os.trans h.os, k.tape.trans h.tape, k.output.trans h.output, Nat.le_trans h.size k.size, fun i hi hn => (k.block i (Nat.lt_of_lt_of_le hi h.size) hn).trans (h.block i hi hn)⟩
theorem But.mono (h : But M a b) (hs : ∀ k, k < a.heap.size → M k → M' k) : But M' a b := ⟨h.os, h.tape, h.output, h.size, fun k hk hn => h.block k hk fun hm => hn (hs k hk hm)⟩
/-- The second step may turn blocks that are newer than the first world. -/
theorem But.then (h : But M a b) (k : But M' b c) (hs : ∀ i, i < a.heap.size → M' i → M i) : But M a c :=
  ⟨k.os.trans h.os, k.tape.trans h.tape, k.output.trans h.output, Nat.le_trans h.size k.size, fun i hi hn => (k.block i (Nat.lt_of_lt_of_le hi h.size) (fun hm => hn (hs i hi hm))).trans (h.block i hi hn)⟩
theorem But.of_below (h : Below a.heap.size a b) : But M a b := ⟨h.os, h.tape, h.output, h.size, fun k hk _ => h.block k hk⟩
theorem But.below {B : Nat} (h : But M a b) (hB : B ≤ a.heap.size) (hM : ∀ k, k < B → ¬ M k) : Below B a b := ⟨h.os, h.tape, h.output, h.size, fun k hk => h.block k (Nat.lt_of_lt_of_le hk hB) (hM k hk)⟩
theorem But.drew (h : But M a b) : But M a b.drew := ⟨h.os, h.tape, h.output, h.size, h.block⟩
theorem But.drewN (h : But M a b) (n : Nat) : But M a (b.drewN n) := ⟨h.os, h.tape, h.output, h.size, h.block⟩
theorem But.alloc (h : But M a b) (o : Obj) : But M a (b.alloc o) :=
  ⟨h.os, h.tape, h.output, Nat.le_trans h.size (by simp), fun k hk hn => (Below.heap_alloc b o k (Nat.lt_of_lt_of_le hk h.size)).trans (h.block k hk hn)⟩
theorem But.setCell (h : But M a b) {p : Addr} (hp : M p.block ∨ a.heap.size ≤ p.block) (u : Value) : But M a (b.setCell p u) :=
  ⟨h.os, h.tape, h.output, by simpa [World.setCell] using h.size, fun k hk hn => (Below.heap_setCell b p u k (by
    rintro rfl
    rcases hp with hp | hp
    · exact hn hp
    · omega)).trans (h.block k hk hn)⟩
theorem But.grown {row : Option Nat} (h : But M a b) (k : b.grownBy c row) (hr : ∀ r, row = some r → M r ∨ a.heap.size ≤ r) : But M a c :=
  ⟨k.os.trans h.os, k.tape.trans h.tape, k.output.trans h.output, Nat.le_trans h.size k.size, fun i hi hn => (k.block i (Nat.lt_of_lt_of_le hi h.size) (by
    intro e
    rcases hr i e.symm with h1 | h1
    · exact hn h1
    · omega)).trans (h.block i hi hn)⟩
theorem But.blk (h : But M w w') (hb : Blk w g t cs) (hn : ¬ M g) : Blk w' g t cs := (h.block g hb.lt hn).trans hb
end

/-! ### Elements of several cells -/
theorem flat_get {α : Type} (enc : α → List Value) (k : Nat) (hk : ∀ x, (enc x).length = k) : ∀ (l : List α) (i j : Nat) (hi : i < l.length), j < k → (l.flatMap enc)[i * k + j]? = (enc l[i])[j]? := by
  intro l
  induction l with
  | nil => intro i j hi; simp at hi
  | cons x l ih =>
    intro i j hi hj
    rw [List.flatMap_cons]
    cases i with
    | zero => rw [Nat.zero_mul, Nat.zero_add, List.getElem?_append_left (by rw [hk]; exact hj)]; rfl
    | succ i =>
      rw [List.getElem?_append_right (by rw [hk, Nat.succ_mul]; omega), hk]
      have e : (i + 1) * k + j - k = i * k + j := by rw [Nat.succ_mul]; omega
      rw [e, ih i j (by simpa using hi) hj]; rfl
theorem flat_len {α : Type} (enc : α → List Value) (k : Nat) (hk : ∀ x, (enc x).length = k) (l : List α) : (l.flatMap enc).length = l.length * k := by
  induction l with
  | nil => simp
  | cons x l ih => rw [List.flatMap_cons, List.length_append, ih, hk, List.length_cons, Nat.succ_mul]; omega
theorem own_slice {w : World} {base : Nat} {e : TypeId} {size : Nat} {v : Value} {n : Nat} {xs : List Value} (h : w.ownsRow base e size v n xs) : ∃ a c, v = .slice a n c := by
  rcases h.2 with ⟨rfl, h0⟩ | ⟨g, cap, cur, rfl, _⟩
  · rw [h0]; exact ⟨_, _, rfl⟩
  · exact ⟨_, _, rfl⟩
theorem own_base {w : World} {B B' : Nat} {e : TypeId} {size : Nat} {v : Value} {n : Nat} {xs : List Value} (h : w.ownsRow B e size v n xs) (hB : B' ≤ B) : w.ownsRow B' e size v n xs := by
  refine ⟨h.1, ?_⟩
  rcases h.2 with h0 | ⟨g, cap, cur, hv, hb, hr⟩
  · exact .inl h0
  · exact .inr ⟨g, cap, cur, hv, by omega, hr⟩
theorem own_lt {w : World} {base size n g cap : Nat} {e : TypeId} {xs : List Value} (h : w.ownsRow base e size (.slice (some ⟨g, 0, none⟩) n cap) n xs) : base ≤ g ∧ g < w.heap.size ∧ n ≤ cap ∧ cap ≤ maxLen := by
  rcases h.2 with ⟨h0, _⟩ | ⟨r, cap', cur, hv, hbs, hg, h1, h2, _⟩
  · cases h0
  · have hg' : Blk w r e cur := hg
    injection hv with e1 e2 e3
    injection e1 with e1
    injection e1 with e1
    subst e1 e3
    exact ⟨hbs, hg'.lt, h1, h2⟩
theorem own_but {M : Nat → Prop} {w w' : World} {base size n : Nat} {e : TypeId} {v : Value} {xs : List Value} (h : w.ownsRow base e size v n xs) (hb : But M w w') (hM : ∀ k, v.ownBlock = some k → ¬ M k) : w'.ownsRow base e size v n xs := by
  refine ⟨h.1, ?_⟩
  rcases h.2 with h0 | ⟨r, cap, cur, hv, hbs, hg, h4, h5, h6, h7⟩
  · exact .inl h0
  · have hg' : Blk w r e cur := hg
    refine .inr ⟨r, cap, cur, hv, hbs, hb.blk hg' (hM r ?_), h4, h5, h6, h7⟩
    rw [hv]; rfl
/-- A row of elements of k cells: the cells of an element. -/
theorem own_cells {α : Type} {enc : α → List Value} {k : Nat} (hk : ∀ x, (enc x).length = k) {w : World} {base e n : Nat} {A : Option Addr} {c : Nat} {l : List α} (h : w.ownsRow base e k (.slice A n c) n (l.flatMap enc)) (hl : l.length = n) (i : Nat) (hi : i < l.length) :
    ∃ g, A = some ⟨g, 0, none⟩ ∧ base ≤ g ∧ n ≤ c ∧ g < w.heap.size ∧ ∀ j, j < k → w.cell? ⟨g, i * k + j, none⟩ = (enc l[i])[j]? := by
  rcases h.2 with ⟨_, h0⟩ | ⟨g, cap, cur, hv, hb, hg, h1, h2, h3, h4⟩
  · omega
  · injection hv with e1 e2 e3
    have hg' : Blk w g e cur := hg
    refine ⟨g, e1, hb, by omega, hg'.lt, fun j hj => ?_⟩
    have h5 := flat_get enc k hk l i j hi hj
    have hm : i * k + j < n * k := by
      have : (i + 1) * k ≤ n * k := Nat.mul_le_mul_right _ (by omega)
      rw [Nat.succ_mul] at this; omega
    rw [← h4, List.getElem?_take, if_pos hm, Array.getElem?_toList] at h5
    rw [hg'.cell, h5]
end Go.Proofs.Ytkhcdnehfiopgaa
