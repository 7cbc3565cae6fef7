/- The walk of sweep.visit (chapter 14): the first half: the items are laid, the heap is made. -/
import Derived.Test.YthccadabblkalaaSwInit
import Derived.Test.YthccadabblkalaaSwVisit
import Derived.Shelf.Abstract
namespace Go.Proofs.Ythccadabblkalaa
open Go.RowKit Go.Sort

def spL (s : Nat × Nat) : List Value := [.int .u64 (s.1 : Int), .int .u64 (s.2 : Int)]
theorem spL_len (s : Nat × Nat) : (spL s).length = 2 := rfl
theorem items_snoc (l : List (Nat × Nat)) (k : Nat) (hk : k < l.length) : itemsL (l.take (k + 1)) = itemsL (l.take k) ++ [⟨l[k].1, l[k].2, k⟩] := by
  unfold itemsL
  rw [List.take_succ_eq_append_getElem hk, List.mapIdx_append]
  simp [List.length_take, Nat.min_eq_left (Nat.le_of_lt hk)]
theorem items_push (l : List (Nat × Nat)) (k : Nat) (hk : k < l.length) : (itemsL (l.take (k + 1))).toArray = (itemsL (l.take k)).toArray.push ⟨l[k].1, l[k].2, k⟩ := by
  rw [items_snoc l k hk]; simp
theorem Init_any (Q fn : Nat) (R : Option Nat) (key : Itm → Nat) (d : Array Itm) (w : World) (hf : Known fn key) (h : Que w Q fn R d) (hsz : d.size ≤ 1000000) :
    Calls Try.prog 64 #[hq Q] w fun e w' => e = .returned (.tuple #[]) ∧ Que w' Q fn R (hinit key d) ∧ But (qset Q R) w w' := by
  cases R with
  | some g =>
    refine (Init_some Q fn g key d w hf h hsz).mono ?_
    rintro e w' ⟨rfl, h1, h2⟩
    exact ⟨rfl, h1, h2.mono (fun k _ e => .inr (by rw [e]))⟩
  | none =>
    have h0 : d = #[] := by
      obtain ⟨cap, _, h1, _, h2⟩ := h
      exact Array.eq_empty_of_size_eq_zero (by omega)
    subst h0
    refine (Init_none Q fn w h).mono ?_
    rintro e w' ⟨rfl, rfl⟩
    exact ⟨rfl, h, But.refl _ _⟩
/-- A slice of spans: the cells of an element. -/
theorem span_cell {w : World} {base e n : Nat} {A : Option Addr} {c : Nat} {l : List (Nat × Nat)} (h : w.ownsRow base e 2 (.slice A n c) l.length (l.flatMap spL)) (i : Nat) (hi : i < l.length) :
    ∃ g, A = some ⟨g, 0, none⟩ ∧ n ≤ c ∧ g < w.heap.size ∧ w.cell? ⟨g, i * 2, none⟩ = some (.int .u64 (l[i].1 : Int)) ∧ w.cell? ⟨g, i * 2 + 1, none⟩ = some (.int .u64 (l[i].2 : Int)) := by
  rcases h.2 with ⟨_, h0⟩ | ⟨g, cap, cur, hv, hb, hg, h1, h2, h3, h4⟩
  · omega
  · injection hv with e1 e2 e3
    have hg' : Blk w g e cur := hg
    have hlen := h.1
    have key : ∀ j, j < 2 → w.cell? ⟨g, i * 2 + j, none⟩ = (spL l[i])[j]? := by
      intro j hj
      have h5 := flat_get spL 2 spL_len l i j hi hj
      rw [← h4, List.getElem?_take, if_pos (by omega), Array.getElem?_toList] at h5
      rw [hg'.cell, h5]
    exact ⟨g, e1, by omega, hg'.lt, key 0 (by omega), key 1 (by omega)⟩
def LayR (w : World) (l : List (Nat × Nat)) (k : Nat) (wr : World) : Prop :=
  ∃ R, Que wr w.heap.size 62 R (itemsL (l.take k)).toArray ∧ Que wr (w.heap.size + 1) 63 none #[] ∧ Below w.heap.size w wr ∧ w.heap.size + 2 ≤ wr.heap.size ∧ ∀ g, R = some g → w.heap.size + 2 ≤ g

/-- An open list, as it is handed to a function. -/
def Opn (w : World) (R : Option Nat) (cap : Nat) (d : Array Itm) : Prop :=
  d.size ≤ cap ∧ cap ≤ maxLen ∧ match R with
    | none => d = #[]
    | some g => ∃ cs, Blk w g 110 cs ∧ cs.size = cap * 3 ∧ RowK itL 3 cs d
def opnV (R : Option Nat) (cap : Nat) (d : Array Itm) : Value := .slice (R.map fun g => ⟨g, 0, none⟩) d.size cap
theorem Que.opn {w : World} {Q fn : Nat} {R : Option Nat} {d : Array Itm} (h : Que w Q fn R d) : ∃ cap, w.cell? ⟨Q, 0, none⟩ = some (opnV R cap d) ∧ Opn w R cap d := by
  obtain ⟨cap, hb, h1, h2, h3⟩ := h
  refine ⟨cap, hb.cell 0, h1, h2, ?_⟩
  cases R with
  | none => exact Array.eq_empty_of_size_eq_zero (by simp only at h3; omega)
  | some g => obtain ⟨_, cs, a, b, c⟩ := h3; exact ⟨cs, a, b, c⟩
/-- What is asked of the function that 'visit' is given: it holds I, which speaks of the blocks S. -/
structure CB (F : Nat) (caps : Array Value) (I : List (Itm × Array Itm) → (Nat → Prop) → World → Prop) : Prop where
  keep : ∀ {pre S M w w'}, I pre S w → But M w w' → (∀ k, S k → ¬ M k) → I pre S w'
  lt : ∀ {pre S w}, I pre S w → ∀ k, S k → k < w.heap.size
  call : ∀ {pre S w} (x : Itm) (R : Option Nat) (cap : Nat) (O : Array Itm), I pre S w → Opn w R cap O → (∀ g, R = some g → ¬ S g) → O.size ≤ 1000000 → pre.length ≤ 1000 →
    Calls Try.prog F (#[.agg (itA x), opnV R cap O] ++ caps) w fun e w' => e = .returned (.tuple #[]) ∧ ∃ S', I (pre ++ [(x, O)]) S' w' ∧ But S w w' ∧ ∀ k, S' k → S k ∨ w.heap.size ≤ k
/-- How memory lies between two steps of 'visit'. -/
structure VR (I : List (Itm × Array Itm) → (Nat → Prop) → World → Prop) (w0 : World) (S0 : Nat → Prop) (R1 : Option Nat) (pre : List (Itm × Array Itm)) (S : Nat → Prop) (R2 : Option Nat) (W O : Array Itm) (w : World) : Prop where
  q1 : Que w w0.heap.size 62 R1 W
  q2 : Que w (w0.heap.size + 1) 63 R2 O
  inv : I pre S w
  but : But S0 w0 w
  sub : ∀ k, S k → S0 k ∨ w0.heap.size ≤ k
  s1 : ∀ k, S k → ¬ qset w0.heap.size R1 k
  s2 : ∀ k, S k → ¬ qset (w0.heap.size + 1) R2 k
  r12 : ∀ k, qset w0.heap.size R1 k → ¬ qset (w0.heap.size + 1) R2 k
  up1 : ∀ k, qset w0.heap.size R1 k → w0.heap.size ≤ k
  up2 : ∀ k, qset (w0.heap.size + 1) R2 k → w0.heap.size ≤ k
section
variable {I : List (Itm × Array Itm) → (Nat → Prop) → World → Prop} {F : Nat} {caps : Array Value} {w0 w w' : World} {S0 S S' M : Nat → Prop} {R1 R2 R2' : Option Nat} {pre : List (Itm × Array Itm)} {W O W' O' : Array Itm}
theorem VR.lt1 (h : VR I w0 S0 R1 pre S R2 W O w) : ∀ k, qset w0.heap.size R1 k → k < w.heap.size := by
  rintro k (rfl | hk)
  · exact h.q1.lt
  · exact h.q1.row_lt k hk
theorem VR.lt2 (h : VR I w0 S0 R1 pre S R2 W O w) : ∀ k, qset (w0.heap.size + 1) R2 k → k < w.heap.size := by
  rintro k (rfl | hk)
  · exact h.q2.lt
  · exact h.q2.row_lt k hk
theorem VR.below (hc : CB F caps I) (h : VR I w0 S0 R1 pre S R2 W O w) (hb : Below w.heap.size w w') : VR I w0 S0 R1 pre S R2 W O w' :=
  ⟨h.q1.below hb, h.q2.below hb, hc.keep h.inv (But.of_below (M := fun _ => False) hb) (fun _ _ h => h), h.but.trans (But.of_below hb), h.sub, h.s1, h.s2, h.r12, h.up1, h.up2⟩
theorem VR.one (hc : CB F caps I) (h : VR I w0 S0 R1 pre S R2 W O w) (hq : Que w' w0.heap.size 62 R1 W') (hb : But (qset w0.heap.size R1) w w') : VR I w0 S0 R1 pre S R2 W' O w' :=
  ⟨hq, h.q2.but hb (fun k hk hk2 => h.r12 k hk2 hk), hc.keep h.inv hb h.s1, h.but.then hb (fun i hi hM => absurd (h.up1 i hM) (by omega)), h.sub, h.s1, h.s2, h.r12, h.up1, h.up2⟩
theorem VR.two (hc : CB F caps I) (h : VR I w0 S0 R1 pre S R2 W O w) (hq : Que w' (w0.heap.size + 1) 63 R2' O') (hb : But (qset (w0.heap.size + 1) R2) w w')
    (hn : ∀ g, R2' = some g → R2 = some g ∨ w.heap.size ≤ g) : VR I w0 S0 R1 pre S R2' W O' w' := by
  have hlt := hc.lt h.inv
  have hs0 := h.but.size
  refine ⟨h.q1.but hb h.r12, hq, hc.keep h.inv hb h.s2, h.but.then hb (fun i hi hM => absurd (h.up2 i hM) (by omega)), h.sub, h.s1, ?_, ?_, h.up1, ?_⟩
  · rintro k hk (rfl | hR)
    · exact h.s2 _ hk (.inl rfl)
    · rcases hn k hR with h1 | h1
      · exact h.s2 k hk (.inr h1)
      · have := hlt k hk; omega
  · rintro k hk (rfl | hR)
    · exact h.r12 _ hk (.inl rfl)
    · rcases hn k hR with h1 | h1
      · exact h.r12 k hk (.inr h1)
      · have := h.lt1 k hk; omega
  · rintro k (rfl | hR)
    · omega
    · rcases hn k hR with h1 | h1
      · exact h.up2 k (.inr h1)
      · omega
theorem VR.call {p : Itm × Array Itm} (h : VR I w0 S0 R1 pre S R2 W O w) (hi : I (pre ++ [p]) S' w') (hb : But S w w') (hn : ∀ k, S' k → S k ∨ w.heap.size ≤ k) : VR I w0 S0 R1 (pre ++ [p]) S' R2 W O w' := by
  have hs0 := h.but.size
  refine ⟨h.q1.but hb (fun k hk hS => h.s1 k hS hk), h.q2.but hb (fun k hk hS => h.s2 k hS hk), hi, h.but.then hb (fun i hi hM => ?_), ?_, ?_, ?_, h.r12, h.up1, h.up2⟩
  · rcases h.sub i hM with h1 | h1
    · exact h1
    · omega
  · intro k hk
    rcases hn k hk with h1 | h1
    · exact h.sub k h1
    · exact .inr (by omega)
  · intro k hk hq
    rcases hn k hk with h1 | h1
    · exact h.s1 k h1 hq
    · have := h.lt1 k hq; omega
  · intro k hk hq
    rcases hn k hk with h1 | h1
    · exact h.s2 k h1 hq
    · have := h.lt2 k hq; omega
end
/-- .. and a block X that holds an item. -/
structure VX (I : List (Itm × Array Itm) → (Nat → Prop) → World → Prop) (w0 : World) (S0 : Nat → Prop) (R1 : Option Nat) (X : Nat) (x : Itm) (pre : List (Itm × Array Itm)) (S : Nat → Prop) (R2 : Option Nat) (W O : Array Itm) (w : World) : Prop where
  vr : VR I w0 S0 R1 pre S R2 W O w
  blk : Blk w X 110 (itA x)
  nS : ¬ S X
  n2 : ¬ qset (w0.heap.size + 1) R2 X
section
variable {I : List (Itm × Array Itm) → (Nat → Prop) → World → Prop} {F X : Nat} {x : Itm} {caps : Array Value} {w0 w w' : World} {S0 S S' M : Nat → Prop} {R1 R2 R2' : Option Nat} {pre : List (Itm × Array Itm)} {W O W' O' : Array Itm}
theorem VX.new (hc : CB F caps I) (h : VR I w0 S0 R1 pre S R2 W O w) (x : Itm) : VX I w0 S0 R1 w.heap.size x pre S R2 W O (w.alloc (.cells (itA x) 110)) :=
  ⟨h.below hc ((Below.refl _ w).alloc (Nat.le_refl _) _), Blk.new w _ _, fun hS => by have := hc.lt h.inv _ hS; omega, fun hq => by have := h.lt2 _ hq; omega⟩
theorem VX.below (hc : CB F caps I) (h : VX I w0 S0 R1 X x pre S R2 W O w) (hb : Below w.heap.size w w') : VX I w0 S0 R1 X x pre S R2 W O w' :=
  ⟨h.vr.below hc hb, (hb.block X h.blk.lt).trans h.blk, h.nS, h.n2⟩
theorem VX.two (hc : CB F caps I) (h : VX I w0 S0 R1 X x pre S R2 W O w) (hq : Que w' (w0.heap.size + 1) 63 R2' O') (hb : But (qset (w0.heap.size + 1) R2) w w')
    (hn : ∀ g, R2' = some g → R2 = some g ∨ w.heap.size ≤ g) : VX I w0 S0 R1 X x pre S R2' W O' w' := by
  refine ⟨h.vr.two hc hq hb hn, (hb.block X h.blk.lt h.n2).trans h.blk, h.nS, ?_⟩
  rintro (e | hR)
  · exact h.n2 (.inl e)
  · rcases hn X hR with h1 | h1
    · exact h.n2 (.inr h1)
    · have := h.blk.lt; omega
theorem VX.call {p : Itm × Array Itm} (h : VX I w0 S0 R1 X x pre S R2 W O w) (hi : I (pre ++ [p]) S' w') (hb : But S w w') (hn : ∀ k, S' k → S k ∨ w.heap.size ≤ k) : VX I w0 S0 R1 X x (pre ++ [p]) S' R2 W O w' := by
  refine ⟨h.vr.call hi hb hn, (hb.block X h.blk.lt h.nS).trans h.blk, fun hS => ?_, h.n2⟩
  rcases hn X hS with h1 | h1
  · exact h.nS h1
  · have := h.blk.lt; omega
theorem VX.cells (h : VX I w0 S0 R1 X x pre S R2 W O w) : w.cell? ⟨X, 0, none⟩ = some (.int .u64 (x.lo : Int)) ∧ w.cell? ⟨X, 1, none⟩ = some (.int .u64 (x.len : Int)) ∧ w.cell? ⟨X, 2, none⟩ = some (.int .i64 (x.idx : Int)) :=
  ⟨h.blk.cell 0, h.blk.cell 1, h.blk.cell 2⟩
end
end Go.Proofs.Ythccadabblkalaa
