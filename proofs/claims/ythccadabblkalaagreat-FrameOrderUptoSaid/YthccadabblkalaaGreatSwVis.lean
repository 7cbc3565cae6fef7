/- The walk of sweep.visit (chapter 14): the first half: the items are laid, the heap is made. The walk of sweep.visit (chapter 14): the items, the visits. -/
import Derived.Test.YthccadabblkalaaGreatSwInit
import Derived.Test.YthccadabblkalaaGreatSwVisit
import Derived.Shelf.Abstract
namespace Go.Proofs.YthccadabblkalaaGreat
open Go.RowKit Go.Sort

def spL (s : Nat × Nat) : List Value := [.int .u64 (s.1 : Int), .int .u64 (s.2 : Int)]
theorem spL_len (s : Nat × Nat) : (spL s).length = 2 := rfl
theorem items_snoc (l : List (Nat × Nat)) (k : Nat) (hk : k < l.length) : itemsL (l.take (k + 1)) = itemsL (l.take k) ++ [⟨l[k].1, l[k].2, k⟩] := by
  unfold itemsL
  rw [List.take_succ_eq_append_getElem hk, List.mapIdx_append]
  simp [List.length_take, Nat.min_eq_left (Nat.le_of_lt hk)]
theorem items_push (l : List (Nat × Nat)) (k : Nat) (hk : k < l.length) : (itemsL (l.take (k + 1))).toArray = (itemsL (l.take k)).toArray.push ⟨l[k].1, l[k].2, k⟩ := by
  rw [items_snoc l k hk]; simp
theorem Init_any (Q fn : Nat) (R : Option Nat) (key : Itm → Nat) (d : Array Itm) (w : World) (hf : Known fn key) (h : Que w Q fn R d) (hsz : d.size ≤ 1000000) :
    Calls Tryz.prog 59 #[hq Q] w fun e w' => e = .returned (.tuple #[]) ∧ Que w' Q fn R (hinit key d) ∧ But (qset Q R) w w' := by
  cases R with
  | some g =>
    refine (Init_some Q fn g key d w hf h hsz).mono ?_
    rintro e w' ⟨rfl, h1, h2⟩
    exact ⟨rfl, h1, h2.mono (fun k _ e => .inr (by rw [e]))⟩
  | none =>
    have h0 : d = #[] := by
      obtain ⟨cap, _, h1, _, h2⟩ := h
      exact Array.eq_empty_of_size_eq_zero (by omega)
    subst h0
    refine (Init_none Q fn w h).mono ?_
    rintro e w' ⟨rfl, rfl⟩
    exact ⟨rfl, h, But.refl _ _⟩
/-- A slice of spans: the cells of an element. -/
theorem span_cell {w : World} {base e n : Nat} {A : Option Addr} {c : Nat} {l : List (Nat × Nat)} (h : w.ownsRow base e 2 (.slice A n c) l.length (l.flatMap spL)) (i : Nat) (hi : i < l.length) :
    ∃ g, A = some ⟨g, 0, none⟩ ∧ n ≤ c ∧ g < w.heap.size ∧ w.cell? ⟨g, i * 2, none⟩ = some (.int .u64 (l[i].1 : Int)) ∧ w.cell? ⟨g, i * 2 + 1, none⟩ = some (.int .u64 (l[i].2 : Int)) := by
  rcases h.2 with ⟨_, h0⟩ | ⟨g, cap, cur, hv, hb, hg, h1, h2, h3, h4⟩
  · omega
  · injection hv with e1 e2 e3
    have hg' : Blk w g e cur := hg
    have hlen := h.1
    have key : ∀ j, j < 2 → w.cell? ⟨g, i * 2 + j, none⟩ = (spL l[i])[j]? := by
      intro j hj
      have h5 := flat_get spL 2 spL_len l i j hi hj
      rw [← h4, List.getElem?_take, if_pos (by omega), Array.getElem?_toList] at h5
      rw [hg'.cell, h5]
    exact ⟨g, e1, by omega, hg'.lt, key 0 (by omega), key 1 (by omega)⟩
def LayR (w : World) (l : List (Nat × Nat)) (k : Nat) (wr : World) : Prop :=
  ∃ R, Que wr w.heap.size 57 R (itemsL (l.take k)).toArray ∧ Que wr (w.heap.size + 1) 58 none #[] ∧ Below w.heap.size w wr ∧ w.heap.size + 2 ≤ wr.heap.size ∧ ∀ g, R = some g → w.heap.size + 2 ≤ g

/-- An open list, as it is handed to a function. -/
def Opn (w : World) (R : Option Nat) (cap : Nat) (d : Array Itm) : Prop :=
  d.size ≤ cap ∧ cap ≤ maxLen ∧ match R with
    | none => d = #[]
    | some g => ∃ cs, Blk w g 81 cs ∧ cs.size = cap * 3 ∧ RowK itL 3 cs d
def opnV (R : Option Nat) (cap : Nat) (d : Array Itm) : Value := .slice (R.map fun g => ⟨g, 0, none⟩) d.size cap
theorem Que.opn {w : World} {Q fn : Nat} {R : Option Nat} {d : Array Itm} (h : Que w Q fn R d) : ∃ cap, w.cell? ⟨Q, 0, none⟩ = some (opnV R cap d) ∧ Opn w R cap d := by
  obtain ⟨cap, hb, h1, h2, h3⟩ := h
  refine ⟨cap, hb.cell 0, h1, h2, ?_⟩
  cases R with
  | none => exact Array.eq_empty_of_size_eq_zero (by simp only at h3; omega)
  | some g => obtain ⟨_, cs, a, b, c⟩ := h3; exact ⟨cs, a, b, c⟩
/-- What is asked of the function that 'visit' is given: it holds I, which speaks of the blocks S. -/
structure CB (F : Nat) (caps : Array Value) (I : List (Itm × Array Itm) → (Nat → Prop) → World → Prop) : Prop where
  keep : ∀ {pre S M w w'}, I pre S w → But M w w' → (∀ k, S k → ¬ M k) → I pre S w'
  lt : ∀ {pre S w}, I pre S w → ∀ k, S k → k < w.heap.size
  call : ∀ {pre S w} (x : Itm) (R : Option Nat) (cap : Nat) (O : Array Itm), I pre S w → Opn w R cap O → (∀ g, R = some g → ¬ S g) → O.size ≤ 1000000 → pre.length ≤ 1000 →
    Calls Tryz.prog F (#[.agg (itA x), opnV R cap O] ++ caps) w fun e w' => e = .returned (.tuple #[]) ∧ ∃ S', I (pre ++ [(x, O)]) S' w' ∧ But S w w' ∧ ∀ k, S' k → S k ∨ w.heap.size ≤ k
/-- How memory lies between two steps of 'visit'. -/
structure VR (I : List (Itm × Array Itm) → (Nat → Prop) → World → Prop) (w0 : World) (S0 : Nat → Prop) (R1 : Option Nat) (pre : List (Itm × Array Itm)) (S : Nat → Prop) (R2 : Option Nat) (W O : Array Itm) (w : World) : Prop where
  q1 : Que w w0.heap.size 57 R1 W
  q2 : Que w (w0.heap.size + 1) 58 R2 O
  inv : I pre S w
  but : But S0 w0 w
  sub : ∀ k, S k → S0 k ∨ w0.heap.size ≤ k
  s1 : ∀ k, S k → ¬ qset w0.heap.size R1 k
  s2 : ∀ k, S k → ¬ qset (w0.heap.size + 1) R2 k
  r12 : ∀ k, qset w0.heap.size R1 k → ¬ qset (w0.heap.size + 1) R2 k
  up1 : ∀ k, qset w0.heap.size R1 k → w0.heap.size ≤ k
  up2 : ∀ k, qset (w0.heap.size + 1) R2 k → w0.heap.size ≤ k
section
variable {I : List (Itm × Array Itm) → (Nat → Prop) → World → Prop} {F : Nat} {caps : Array Value} {w0 w w' : World} {S0 S S' M : Nat → Prop} {R1 R2 R2' : Option Nat} {pre : List (Itm × Array Itm)} {W O W' O' : Array Itm}
theorem VR.lt1 (h : VR I w0 S0 R1 pre S R2 W O w) : ∀ k, qset w0.heap.size R1 k → k < w.heap.size := by
  rintro k (rfl | hk)
  · exact h.q1.lt
  · exact h.q1.row_lt k hk
theorem VR.lt2 (h : VR I w0 S0 R1 pre S R2 W O w) : ∀ k, qset (w0.heap.size + 1) R2 k → k < w.heap.size := by
  rintro k (rfl | hk)
  · exact h.q2.lt
  · exact h.q2.row_lt k hk
theorem VR.below (hc : CB F caps I) (h : VR I w0 S0 R1 pre S R2 W O w) (hb : Below w.heap.size w w') : VR I w0 S0 R1 pre S R2 W O w' :=
  ⟨h.q1.below hb, h.q2.below hb, hc.keep h.inv (But.of_below (M := fun _ => False) hb) (fun _ _ h => h), h.but.trans (But.of_below hb), h.sub, h.s1, h.s2, h.r12, h.up1, h.up2⟩
theorem VR.one (hc : CB F caps I) (h : VR I w0 S0 R1 pre S R2 W O w) (hq : Que w' w0.heap.size 57 R1 W') (hb : But (qset w0.heap.size R1) w w') : VR I w0 S0 R1 pre S R2 W' O w' :=
  ⟨hq, h.q2.but hb (fun k hk hk2 => h.r12 k hk2 hk), hc.keep h.inv hb h.s1, h.but.then hb (fun i hi hM => absurd (h.up1 i hM) (by omega)), h.sub, h.s1, h.s2, h.r12, h.up1, h.up2⟩
theorem VR.two (hc : CB F caps I) (h : VR I w0 S0 R1 pre S R2 W O w) (hq : Que w' (w0.heap.size + 1) 58 R2' O') (hb : But (qset (w0.heap.size + 1) R2) w w')
    (hn : ∀ g, R2' = some g → R2 = some g ∨ w.heap.size ≤ g) : VR I w0 S0 R1 pre S R2' W O' w' := by
  have hlt := hc.lt h.inv
  have hs0 := h.but.size
  refine ⟨h.q1.but hb h.r12, hq, hc.keep h.inv hb h.s2, h.but.then hb (fun i hi hM => absurd (h.up2 i hM) (by omega)), h.sub, h.s1, ?_, ?_, h.up1, ?_⟩
  · rintro k hk (rfl | hR)
    · exact h.s2 _ hk (.inl rfl)
    · rcases hn k hR with h1 | h1
      · exact h.s2 k hk (.inr h1)
      · have := hlt k hk; omega
  · rintro k hk (rfl | hR)
    · exact h.r12 _ hk (.inl rfl)
    · rcases hn k hR with h1 | h1
      · exact h.r12 k hk (.inr h1)
      · have := h.lt1 k hk; omega
  · rintro k (rfl | hR)
    · omega
    · rcases hn k hR with h1 | h1
      · exact h.up2 k (.inr h1)
      · omega
theorem VR.call {p : Itm × Array Itm} (h : VR I w0 S0 R1 pre S R2 W O w) (hi : I (pre ++ [p]) S' w') (hb : But S w w') (hn : ∀ k, S' k → S k ∨ w.heap.size ≤ k) : VR I w0 S0 R1 (pre ++ [p]) S' R2 W O w' := by
  have hs0 := h.but.size
  refine ⟨h.q1.but hb (fun k hk hS => h.s1 k hS hk), h.q2.but hb (fun k hk hS => h.s2 k hS hk), hi, h.but.then hb (fun i hi hM => ?_), ?_, ?_, ?_, h.r12, h.up1, h.up2⟩
  · rcases h.sub i hM with h1 | h1
    · exact h1
    · omega
  · intro k hk
    rcases hn k hk with h1 | h1
    · exact h.sub k h1
    · exact .inr (by omega)
  · intro k hk hq
    rcases hn k hk with h1 | h1
    · exact h.s1 k h1 hq
    · have := h.lt1 k hq; omega
  · intro k hk hq
    rcases hn k hk with h1 | h1
    · exact h.s2 k h1 hq
    · have := h.lt2 k hq; omega
end
/-- .. and a block X that holds an item. -/
structure VX (I : List (Itm × Array Itm) → (Nat → Prop) → World → Prop) (w0 : World) (S0 : Nat → Prop) (R1 : Option Nat) (X : Nat) (x : Itm) (pre : List (Itm × Array Itm)) (S : Nat → Prop) (R2 : Option Nat) (W O : Array Itm) (w : World) : Prop where
  vr : VR I w0 S0 R1 pre S R2 W O w
  blk : Blk w X 81 (itA x)
  nS : ¬ S X
  n2 : ¬ qset (w0.heap.size + 1) R2 X
section
variable {I : List (Itm × Array Itm) → (Nat → Prop) → World → Prop} {F X : Nat} {x : Itm} {caps : Array Value} {w0 w w' : World} {S0 S S' M : Nat → Prop} {R1 R2 R2' : Option Nat} {pre : List (Itm × Array Itm)} {W O W' O' : Array Itm}
theorem VX.new (hc : CB F caps I) (h : VR I w0 S0 R1 pre S R2 W O w) (x : Itm) : VX I w0 S0 R1 w.heap.size x pre S R2 W O (w.alloc (.cells (itA x) 81)) :=
  ⟨h.below hc ((Below.refl _ w).alloc (Nat.le_refl _) _), Blk.new w _ _, fun hS => by have := hc.lt h.inv _ hS; omega, fun hq => by have := h.lt2 _ hq; omega⟩
theorem VX.below (hc : CB F caps I) (h : VX I w0 S0 R1 X x pre S R2 W O w) (hb : Below w.heap.size w w') : VX I w0 S0 R1 X x pre S R2 W O w' :=
  ⟨h.vr.below hc hb, (hb.block X h.blk.lt).trans h.blk, h.nS, h.n2⟩
theorem VX.two (hc : CB F caps I) (h : VX I w0 S0 R1 X x pre S R2 W O w) (hq : Que w' (w0.heap.size + 1) 58 R2' O') (hb : But (qset (w0.heap.size + 1) R2) w w')
    (hn : ∀ g, R2' = some g → R2 = some g ∨ w.heap.size ≤ g) : VX I w0 S0 R1 X x pre S R2' W O' w' := by
  refine ⟨h.vr.two hc hq hb hn, (hb.block X h.blk.lt h.n2).trans h.blk, h.nS, ?_⟩
  rintro (e | hR)
  · exact h.n2 (.inl e)
  · rcases hn X hR with h1 | h1
    · exact h.n2 (.inr h1)
    · have := h.blk.lt; omega
theorem VX.call {p : Itm × Array Itm} (h : VX I w0 S0 R1 X x pre S R2 W O w) (hi : I (pre ++ [p]) S' w') (hb : But S w w') (hn : ∀ k, S' k → S k ∨ w.heap.size ≤ k) : VX I w0 S0 R1 X x (pre ++ [p]) S' R2 W O w' := by
  refine ⟨h.vr.call hi hb hn, (hb.block X h.blk.lt h.nS).trans h.blk, fun hS => ?_, h.n2⟩
  rcases hn X hS with h1 | h1
  · exact h.nS h1
  · have := h.blk.lt; omega
theorem VX.cells (h : VX I w0 S0 R1 X x pre S R2 W O w) : w.cell? ⟨X, 0, none⟩ = some (.int .u64 (x.lo : Int)) ∧ w.cell? ⟨X, 1, none⟩ = some (.int .u64 (x.len : Int)) ∧ w.cell? ⟨X, 2, none⟩ = some (.int .i64 (x.idx : Int)) :=
  ⟨h.blk.cell 0, h.blk.cell 1, h.blk.cell 2⟩
end
end Go.Proofs.YthccadabblkalaaGreat
namespace Go.Proofs.YthccadabblkalaaGreat
open Go.RowKit Go.Sort
set_option linter.unusedVariables false

/-- How many items a queue holds, read off memory. -/
def qlen (w : World) (Q : Nat) : Nat := match w.cell? ⟨Q, 0, none⟩ with | some (.slice _ n _) => n | _ => 0
theorem Que.qlen {w : World} {Q fn : Nat} {R : Option Nat} {d : Array Itm} (h : Que w Q fn R d) : qlen w Q = d.size := by
  obtain ⟨cap, hb, _⟩ := h
  have := hb.cell 0
  unfold Go.Proofs.YthccadabblkalaaGreat.qlen
  rw [this]; rfl
theorem Que.none_ {w : World} {Q fn : Nat} (h : Blk w Q 125 #[.slice none 0 0, .func (.func fn) #[] #[]]) : Que w Q fn none #[] := ⟨0, h, Nat.le_refl _, by decide, rfl⟩
theorem LayR.start (w : World) (l : List (Nat × Nat)) : LayR w l 0 ((w.alloc (.cells #[.slice none 0 0, .func (.func 57) #[] #[]] 125)).alloc (.cells #[.slice none 0 0, .func (.func 58) #[] #[]] 125)) := by
  refine ⟨none, ?_, ?_, ((Below.refl _ w).alloc (Nat.le_refl _) _).alloc (by simp) _, by simp, fun g hg => by cases hg⟩
  · exact Que.none_ ((Blk.new w _ _).alloc _)
  · have := Blk.new (w.alloc (.cells #[.slice none 0 0, .func (.func 57) #[] #[]] 125)) 125 #[.slice none 0 0, .func (.func 58) #[] #[]]
    rw [show (w.alloc (.cells #[.slice none 0 0, .func (.func 57) #[] #[]] 125)).heap.size = w.heap.size + 1 by simp] at this
    exact Que.none_ this
/-- Behind an append to a queue's field. -/
theorem push_close {w W4 : World} {Q fn g cap' : Nat} {R : Option Nat} {d : Array Itm} {x : Itm} {a : Value}
    (hB4 : Blk W4 Q 125 #[a, .func (.func fn) #[] #[]]) (ho4 : W4.ownsRow 0 81 3 (.slice (some ⟨g, 0, none⟩) (d.size + 1) cap') (d.size + 1) (d.toList.flatMap itL ++ itL x))
    (hg4 : But (qset Q R) w W4) :
    Que (W4.setCell ⟨Q, 0, none⟩ (.slice (some ⟨g, 0, none⟩) (d.size + 1) cap')) Q fn (some g) (d.push x) ∧ But (qset Q R) w (W4.setCell ⟨Q, 0, none⟩ (.slice (some ⟨g, 0, none⟩) (d.size + 1) cap')) := by
  have hne : g ≠ Q := fun e => own_blk_ne (t := 125) ho4 hB4 (by decide) (by rw [e]; rfl)
  have hsp : (d.push x).size = d.size + 1 := by simp
  have hlp : (d.push x).toList.flatMap itL = d.toList.flatMap itL ++ itL x := by simp
  refine ⟨Que.of_own (cap := cap') ?_ hne ?_, hg4.setCell (.inl (.inl rfl)) _⟩
  · rw [hsp]; exact hB4.set_ 0 _
  · rw [hsp, hlp]
    exact ownsRow_setCell_other ho4 (by intro e; injection e with e; exact hne e) _
theorem lay_next {w W W' : World} {l : List (Nat × Nat)} {k g : Nat} {R : Option Nat} (hk : k < l.length)
    (hq1 : Que W w.heap.size 57 R (itemsL (l.take k)).toArray) (hq2 : Que W (w.heap.size + 1) 58 none #[]) (hb : Below w.heap.size w W) (hs : w.heap.size + 2 ≤ W.heap.size)
    (hR : ∀ g, R = some g → w.heap.size + 2 ≤ g) (h1 : Que W' w.heap.size 57 (some g) ((itemsL (l.take k)).toArray.push ⟨l[k].1, l[k].2, k⟩)) (h2 : But (qset w.heap.size R) W W')
    (h3 : R = some g ∨ W.heap.size ≤ g) : LayR w l (k + 1) W' := by
  refine ⟨some g, by rw [items_push l k hk]; exact h1, hq2.but h2 ?_, hb.trans (h2.below hb.size ?_), Nat.le_trans hs h2.size, ?_⟩
  · intro i h5 h6
    rcases h6 with h | h <;> rcases h5 with h5 | h5
    · omega
    · cases h5
    · have := hR _ h; omega
    · cases h5
  · rintro i hi (h | h)
    · omega
    · have := hR _ h; omega
  · intro g' hg'
    injection hg' with hg'
    subst hg'
    rcases h3 with h3 | h3
    · exact hR _ h3
    · omega
theorem visitR_length : ∀ (n : Nat) (W O : Array Itm), (visitR n W O).length = n := by
  intro n
  induction n with
  | zero => intro W O; rfl
  | succ n ih => intro W O; rw [visitR, List.length_cons, ih]
theorem visitL_length (l : List (Nat × Nat)) : (visitL l).length = l.length := visitR_length _ _ _
/-- Between two visits. -/
def VisR (I : List (Itm × Array Itm) → (Nat → Prop) → World → Prop) (w : World) (S0 : Nat → Prop) (R1 : Option Nat) (l : List (Nat × Nat)) (wr : World) : Prop :=
  ∃ pre S R2 W O, VR I w S0 R1 pre S R2 W O wr ∧ visitL l = pre ++ visitR W.size W O ∧ IsHeap Itm.lo W.size W ∧ IsHeap lastI O.size O ∧ W.size + O.size ≤ 1000
theorem VisR.start {F : Nat} {caps : Array Value} {I : List (Itm × Array Itm) → (Nat → Prop) → World → Prop} (hc : CB F caps I) {w wr W : World} {S0 : Nat → Prop} {R : Option Nat} {l : List (Nat × Nat)} (h0 : I [] S0 w)
    (hq2 : Que wr (w.heap.size + 1) 58 none #[]) (hb : Below w.heap.size w wr) (hs : w.heap.size + 2 ≤ wr.heap.size) (hR : ∀ g, R = some g → w.heap.size + 2 ≤ g)
    (hq : Que W w.heap.size 57 R (hinit Itm.lo (itemsL l).toArray)) (hbt : But (qset w.heap.size R) wr W) (hn : l.length ≤ 1000) : VisR I w S0 R l W := by
  obtain ⟨h1, h2, h3⟩ := hinit_heap Itm.lo (itemsL l).toArray
  have hsz : (itemsL l).toArray.size = l.length := by simp [itemsL]
  have hup : ∀ k, qset w.heap.size R k → w.heap.size ≤ k := by
    rintro k (h | h)
    · omega
    · have := hR _ h; omega
  have hbW : Below w.heap.size w W := hb.trans (hbt.below hb.size (fun k hk hq => by have := hup k hq; omega))
  have hlt := hc.lt h0
  refine ⟨[], S0, none, hinit Itm.lo (itemsL l).toArray, #[], ⟨hq, hq2.but hbt ?_, hc.keep h0 (But.of_below (M := fun _ => False) hbW) (fun _ _ h => h), But.of_below hbW, fun _ h => .inl h, ?_, ?_, ?_, hup, ?_⟩, ?_, ?_, fun i hi => by simp at hi, ?_⟩
  · intro k h5 h6
    rcases h5 with h5 | h5
    · rcases h6 with h6 | h6
      · omega
      · have := hR _ h6; omega
    · cases h5
  · intro k hk hq; have := hlt k hk; have := hup k hq; omega
  · intro k hk hq
    have := hlt k hk
    rcases hq with hq | hq
    · omega
    · cases hq
  · intro k h6 h5
    rcases h5 with h5 | h5
    · rcases h6 with h6 | h6
      · omega
      · have := hR _ h6; omega
    · cases h5
  · intro k h5
    rcases h5 with h5 | h5
    · omega
    · cases h5
  · rw [List.nil_append, h3, hsz]; rfl
  · rw [h3]; exact h1
  · rw [h3, hsz]; simp; exact hn
theorem Opn.drew {w : World} {R : Option Nat} {cap : Nat} {d : Array Itm} (h : Opn w R cap d) : Opn w.drew R cap d := h
theorem CB.drewI {F : Nat} {caps : Array Value} {I : List (Itm × Array Itm) → (Nat → Prop) → World → Prop} (hc : CB F caps I) {pre : List (Itm × Array Itm)} {S : Nat → Prop} {w : World} (h : I pre S w) : I pre S w.drew :=
  hc.keep h (M := fun _ => False) ((But.refl _ w).drew) (fun _ _ h => h)
/-- Between two pops of the open queue. -/
def DrR (I : List (Itm × Array Itm) → (Nat → Prop) → World → Prop) (w : World) (S0 : Nat → Prop) (g1 X : Nat) (x : Itm) (pre : List (Itm × Array Itm)) (S : Nat → Prop) (W1 O : Array Itm) (wi : World) : Prop :=
  ∃ R2 O', VX I w S0 (some g1) X x pre S R2 W1 O' wi ∧ drain x.lo O.size O = drain x.lo O'.size O' ∧ IsHeap lastI O'.size O' ∧ O'.size ≤ O.size
theorem Len_cell (Q n c : Nat) (a : Option Addr) (w : World) (h : w.cell? ⟨Q, 0, none⟩ = some (.slice a n c)) :
    Calls Tryz.prog 61 #[.pointer (some ⟨Q, 0, none⟩)] w fun e w' => e = .returned (.int .i64 (n : Int)) ∧ w' = w := by
  go_enter Tryz.func61, Tryz.ntmps61
  go_wp2
  go_ret
  exact ⟨rfl, rfl⟩
/-- What the test of the inner loop reads. -/
def TestS (Q X g2 p cap : Nat) (lo ylo ylen : Nat) (wi w' : World) : Prop :=
  w'.cell? ⟨Q, 0, none⟩ = some (.slice (some ⟨g2, 0, none⟩) (p + 1) cap) ∧ w'.cell? ⟨g2, 0, none⟩ = some (.int .u64 (ylo : Int)) ∧ w'.cell? ⟨g2, 1, none⟩ = some (.int .u64 (ylen : Int)) ∧ w'.cell? ⟨X, 0, none⟩ = some (.int .u64 (lo : Int)) ∧ Below wi.heap.size wi w'
theorem TestS.keep {Q X g2 p cap lo ylo ylen : Nat} {wi w1 w2 : World} (hb : Below w1.heap.size w1 w2) (h : TestS Q X g2 p cap lo ylo ylen wi w1) : TestS Q X g2 p cap lo ylo ylen wi w2 := by
  obtain ⟨h1, h2, h3, h4, h5⟩ := h
  exact ⟨(hb.cell (p := ⟨Q, 0, none⟩) (cell_lt h1)).trans h1, (hb.cell (p := ⟨g2, 0, none⟩) (cell_lt h2)).trans h2, (hb.cell (p := ⟨g2, 1, none⟩) (cell_lt h3)).trans h3, (hb.cell (p := ⟨X, 0, none⟩) (cell_lt h4)).trans h4, h5.trans (hb.mono h5.size)⟩
theorem VX.test {I : List (Itm × Array Itm) → (Nat → Prop) → World → Prop} {w0 w : World} {S0 S : Nat → Prop} {g1 X g2 p : Nat} {x : Itm} {pre : List (Itm × Array Itm)} {W O : Array Itm}
    (h : VX I w0 S0 (some g1) X x pre S (some g2) W O w) (hp : O.size = p + 1) : ∃ cap, TestS (w0.heap.size + 1) X g2 p cap x.lo O[0]!.lo O[0]!.len w w.drew ∧ p + 1 ≤ cap := by
  obtain ⟨cap, hb, h1, h2, hn, cs, hg, hs, hr⟩ := h.vr.q2
  have i0 := hr 0 (by omega)
  rw [three, Nat.zero_mul] at i0
  refine ⟨cap, ⟨?_, (hg.cell _).trans i0.1, (hg.cell _).trans i0.2.1, h.cells.1, (Below.refl _ w).drew⟩, by omega⟩
  have := hb.cell 0
  rw [hp] at this
  exact this
set_option maxRecDepth 100000 in
set_option maxHeartbeats 8000000 in
theorem visit_calls {F : Nat} {caps : Array Value} {I : List (Itm × Array Itm) → (Nat → Prop) → World → Prop} (hc : CB F caps I) (eF : ∀ args w, (callFunc F args).run Tryz.prog w = .ok (.enter F args) w)
    (l : List (Nat × Nat)) (base c : Nat) (A : Option Addr) (w : World) (S0 : Nat → Prop) (h0 : I [] S0 w) (hl : w.ownsRow base 53 2 (.slice A l.length c) l.length (l.flatMap spL)) (hn : l.length ≤ 1000) :
    Calls Tryz.prog 33 #[.slice A l.length c, .func (.func F) #[] caps] w fun e w' => e = .returned (.tuple #[]) ∧ ∃ S, I (visitL l) S w' ∧ But S0 w w' ∧ ∀ k, S k → S0 k ∨ w.heap.size ≤ k := by
  have HC := hide hc
  have HI := hide h0
  have HL := hide (fun i hi => span_cell hl i hi)
  have hmf : ∀ (fn : Fn) (first cap : Array Value) (w : World), (Instr.makeFunc fn first cap).run Tryz.prog w = .ok (.func fn first cap) w := fun _ _ _ _ => rfl
  obtain ⟨i0, hi, hz0, hz1, hz2⟩ := info_parts item_info3
  have HII := hide hi
  obtain ⟨n, hnn⟩ : ∃ n, n = l.length := ⟨_, rfl⟩
  have hnb : (n : Int) ≤ 1000 := by omega
  have HS := hide (LayR.start w l)
  have HNN := hide hnn
  rw [← hnn]
  clear hc h0 hl hn hnn hi
  go_enter Tryz.func33, Tryz.ntmps33
  go_wp2
  go_loopw [16] (fun i wr => ∃ k : Nat, k ≤ n ∧ i = .int .i64 (k : Int) ∧ Hid (LayR w l k wr)) (fun i _ => n - (intOf i).toNat)
  case atStart => exact ⟨0, Nat.zero_le _, rfl, HS⟩
  case round =>
    obtain ⟨k, hk, rfl, hrel⟩ := hrel
    by_cases hlt : k < n
    · have hkl : k < l.length := by have := HNN.out; omega
      obtain ⟨g, rfl, hnc, hgl, c0, c1⟩ := HL.out k hkl
      obtain ⟨R, hq1, hq2, hb, hs, hR⟩ := hrel.out
      have d0 := (hb.cell (p := ⟨g, k * 2, none⟩) hgl).trans c0
      have d1 := (hb.cell (p := ⟨g, k * 2 + 1, none⟩) hgl).trans c1
      have hlt2 : (k : Int) < (n : Int) := by omega
      obtain ⟨lo, hlo⟩ : ∃ lo, lo = l[k].1 := ⟨_, rfl⟩
      obtain ⟨len, hlen⟩ : ∃ len, len = l[k].2 := ⟨_, rfl⟩
      rw [← hlo] at d0
      rw [← hlen] at d1
      have HX : Hid ((⟨lo, len, k⟩ : Itm) = ⟨l[k].1, l[k].2, k⟩) := hide (by rw [hlo, hlen])
      have hbW : Below wr.heap.size wr (wr.alloc (.cells #[.int .u64 (lo : Int), .int .u64 (len : Int)] 53)) := (Below.refl _ wr).alloc (Nat.le_refl _) _
      have HW : Hid (Que (wr.alloc (.cells #[.int .u64 (lo : Int), .int .u64 (len : Int)] 53)) w.heap.size 57 R (itemsL (l.take k)).toArray ∧
        Que (wr.alloc (.cells #[.int .u64 (lo : Int), .int .u64 (len : Int)] 53)) (w.heap.size + 1) 58 none #[] ∧
        Below w.heap.size w (wr.alloc (.cells #[.int .u64 (lo : Int), .int .u64 (len : Int)] 53)) ∧ w.heap.size + 2 ≤ (wr.alloc (.cells #[.int .u64 (lo : Int), .int .u64 (len : Int)] 53)).heap.size ∧ (∀ g, R = some g → w.heap.size + 2 ≤ g)) :=
        hide ⟨hq1.below hbW, hq2.below hbW, hb.trans (hbW.mono hb.size), Nat.le_trans hs hbW.size, hR⟩
      have hbs := hbW.size
      clear hq1 hq2 hb hs hR hlo hlen c0 c1 hgl hbW
      have hB0 := Blk.new wr 53 #[.int .u64 (lo : Int), .int .u64 (len : Int)]
      have sp0 : (wr.alloc (.cells #[.int .u64 (lo : Int), .int .u64 (len : Int)] 53)).cell? ⟨wr.heap.size, 0, none⟩ = some (.int .u64 (lo : Int)) := hB0.cell 0
      have sp1 : (wr.alloc (.cells #[.int .u64 (lo : Int), .int .u64 (len : Int)] 53)).cell? ⟨wr.heap.size, 1, none⟩ = some (.int .u64 (len : Int)) := hB0.cell 1
      clear hB0
      go_wp2_with fail
      generalize hWd : wr.alloc (.cells #[.int .u64 (lo : Int), .int .u64 (len : Int)] 53) = W at *
      clear hWd d0 d1
      obtain ⟨cap, hbq, hown, hob, hRQ⟩ := HW.out.1.own
      have hds : (itemsL (l.take k)).toArray.size ≤ 1000 := by simp only [List.size_toArray, itemsL_length, List.length_take]; omega
      obtain ⟨d, hd⟩ : ∃ d, d = (itemsL (l.take k)).toArray := ⟨_, rfl⟩
      rw [← hd] at hbq hown hob hds
      have hQ := hbq.lt
      generalize hv : Value.slice (R.map fun g => (⟨g, 0, none⟩ : Addr)) d.size cap = v at *
      have hvs : ∃ a n c, v = .slice a n c := ⟨_, _, _, hv.symm⟩
      obtain ⟨a, n', c', rfl⟩ := hvs
      have k0 : W.cell? ⟨w.heap.size, 0, none⟩ = some (.slice a n' c') := hbq.cell 0
      have kf := fun i => hbq.frozen i
      have HB := hide hbq
      have HO := hide hown
      have HOB := hide hob
      have HDD := hide hd
      have HRQ := hide hRQ
      have HCX := hide (it_cells W ⟨lo, len, k⟩ 81)
      have H1 := hide (it_one ⟨lo, len, k⟩)
      clear hbq hown hob hv hRQ hd
      go_region_law (refine step_append_lies _ rfl (.tmp 25) (.tmp 29) 82 rfl 0 81 i0 _ 3 24 Tryz.underlying82 HII.out hz0 hz1 hz2 rfl (by decide) (.slice a n' c') d.size (d.toList.flatMap itL) (by simp [Act.eval]) (HO.out.alloc _) ⟨W.heap.size, 0, none⟩ 1 1 (itL ⟨lo, len, k⟩) (by simp [Act.eval]) rfl HCX.out H1.out (by decide) (by simp only [maxLen]; omega) (by omega) (Nat.zero_le _) (W.heap.size + 1) (by simp) ?_; intro g' cap' w4 ho4 hg4 hgg hg4l; have hB4 := Blk.grown ((HB.out.alloc (.cells (itA ⟨lo, len, k⟩) 81)).drew) hg4 (by rw [HOB.out]; exact fun e => HRQ.out e.symm); have q0 : w4.cell? ⟨w.heap.size, 0, none⟩ = some (.slice a n' c') := hB4.cell 0; have qf := fun i => hB4.frozen i; have HB4 := hide hB4; have HO4 := hide ho4; have HG4 := hide (((But.refl (qset w.heap.size R) W).alloc (.cells (itA ⟨lo, len, k⟩) 81)).drew.grown hg4 (fun r hr => by rw [HOB.out] at hr; exact .inl (.inr hr))); have HGG := hide hgg; clear ho4 hg4 hgg hB4)
      all_goals
        go_wp2
        go_roundw
        case rel =>
          obtain ⟨p1, p2⟩ := push_close HB4.out HO4.out HG4.out
          refine ⟨k + 1, by omega, by go_num, hide (lay_next hkl (by rw [← HDD.out]; exact HDD.out ▸ HW.out.1) HW.out.2.1 HW.out.2.2.1 HW.out.2.2.2.1 HW.out.2.2.2.2 (by rw [← HX.out, ← HDD.out]; exact p1) p2 ?_)⟩
          have h9 := HGG.out
          rw [HOB.out] at h9
          rcases h9 with h9 | h9
          · exact .inl h9
          · exact .inr (by omega)
        case measure => simp [intOf]; omega
    · have hkn : k = n := by omega
      subst hkn
      obtain ⟨R, hq1, hq2, hb, hs, hR⟩ := hrel.out
      rw [List.take_of_length_le (by rw [HNN.out]; exact Nat.le_refl _)] at hq1
      have HIN := hide (Init_any w.heap.size 57 R Itm.lo _ wr (.inl ⟨rfl, rfl⟩) hq1 (by have := HNN.out; simp only [List.size_toArray, itemsL_length]; omega))
      unfold hq at HIN
      have HST := hide (fun W (hqn : Que W w.heap.size 57 R (hinit Itm.lo (itemsL l).toArray)) (hbn : But (qset w.heap.size R) wr W) => VisR.start HC.out HI.out hq2 hb hs hR hqn hbn (by have := HNN.out; omega))
      clear hq1 hq2 hb hs hR hrel hlt hk i0 hz0 hz1 hz2 HII HL HS HI
      go_wp2_with (go_at_call 59; refine HIN.out.mono ?_; rintro e w2 ⟨rfl, hq3, hb3⟩; have HV := hide (HST.out _ hq3 hb3); clear hq3 hb3)
      clear HIN HST
      go_loopw [40] (fun _ wv => Hid (VisR I w S0 R l wv)) (fun _ wv => qlen wv w.heap.size)
      case atStart => exact HV
      case round =>
        obtain ⟨pre, S, R2, W, O, hvr, hvl, hW, hO, hsz⟩ := hrel.out
        have hql := hvr.q1.qlen
        by_cases hm : W.size = 0
        · have HLN := hide (Len_at w.heap.size 57 R W 0 hm.symm _ hvr.q1)
          go_wp2_with (go_at_call 61; refine HLN.out.mono ?_; rintro e w1 ⟨rfl, rfl⟩)
          have HE : Hid (∃ S, I (visitL l) S wr ∧ But S0 w wr ∧ ∀ (k : Nat), S k → S0 k ∨ w.heap.size ≤ k) := by
            refine hide ⟨S, ?_, hvr.but, hvr.sub⟩
            rw [hvl, hm]
            have : pre ++ visitR 0 W O = pre := by rw [visitR, List.append_nil]
            rw [this]; exact hvr.inv
          go_end0
          exact ⟨rfl, HE.out⟩
        · obtain ⟨m, hm2⟩ : ∃ m, m + 1 = W.size := ⟨W.size - 1, by omega⟩
          cases hR1 : R with
          | none =>
            have := hvr.q1
            rw [hR1] at this
            obtain ⟨cap, _, h1, _, h2⟩ := this
            simp only at h2
            omega
          | some g1 =>
          rw [hR1] at hvr
          have HPP := hide (HPop_calls w.heap.size 57 g1 Itm.lo W wr (.inl ⟨rfl, rfl⟩) hvr.q1 hW (by omega) (by omega))
          have HLN := hide (Len_at w.heap.size 57 (some g1) W (m + 1) hm2 _ hvr.q1)
          have HNX := hide (fun W' (hq : Que W' w.heap.size 57 (some g1) (hpop Itm.lo W)) (hb : But (qset w.heap.size (some g1)) wr W') => VX.new HC.out (hvr.one HC.out hq hb) W[0]!)
          have HMS := hide (hpop_spec Itm.lo W hW (by omega))
          have HVL : Hid (visitL l = pre ++ (W[0]!, drain W[0]!.lo O.size O) :: visitR m (hpop Itm.lo W) (hpush lastI (drain W[0]!.lo O.size O) W[0]!)) := by
            refine hide ?_
            rw [hvl, ← hm2, visitR]
          unfold hq at HPP
          obtain ⟨x, hx⟩ : ∃ x, x = W[0]! := ⟨_, rfl⟩
          rw [← hx] at HPP HNX HVL
          have HQL : Hid (qlen wr w.heap.size = m + 1) := hide (by rw [hql, hm2])
          have HHO := hide hO
          have HSZ := hide hsz
          have hmI : (m : Int) ≤ 1000 := by omega
          have HM2 := hide hm2
          have HR1 := hide hR1
          clear hm hvl hql hW hO hsz hm2 hvr hx hrel hR1
          obtain ⟨xlo, xlen, xi⟩ := x
          have hxa : itA ⟨xlo, xlen, xi⟩ = #[.int .u64 (xlo : Int), .int .u64 (xlen : Int), .int .i64 (xi : Int)] := rfl
          rw [hxa] at HPP HNX
          clear hxa
          have ha := fun xt v W => assert_item xt v W
          go_wp2_with (first
            | (go_at_call 61; refine HLN.out.mono ?_; rintro e w1 ⟨rfl, rfl⟩)
            | (go_at_call 62; refine HPP.out.mono ?_; rintro e w1 ⟨rfl, hq3, hb3⟩; have HX := hide (HNX.out _ hq3 hb3); clear hq3 hb3))
          generalize hw3 : w1.alloc (.cells #[.int .u64 (xlo : Int), .int .u64 (xlen : Int), .int .i64 (xi : Int)] 81) = w3 at *
          obtain ⟨X, hX⟩ : ∃ X, X = w1.heap.size := ⟨_, rfl⟩
          rw [← hX] at HX ⊢
          clear hw3 hX HPP HNX HLN
          have HDR : Hid (DrR I w S0 g1 X ⟨xlo, xlen, xi⟩ pre S (hpop Itm.lo W) O w3) := hide ⟨R2, O, HX.out, rfl, HHO.out, Nat.le_refl _⟩
          clear HX
          obtain ⟨wo, rfl⟩ : ∃ wo : World, wo = wr := ⟨_, rfl⟩
          go_loopw [46] (fun _ wi => Hid (DrR I w S0 g1 X ⟨xlo, xlen, xi⟩ pre S (hpop Itm.lo W) O wi)) (fun _ wi => qlen wi (w.heap.size + 1))
          case atStart => exact HDR
          case round =>
            obtain ⟨R3, O', hvx, hdr, hO', hOz⟩ := hrel.out
            have hql := hvx.vr.q2.qlen
            rcases Nat.eq_zero_or_pos O'.size with h0 | h0
            · have hq2 := hvx.vr.q2
              obtain ⟨cap0, hb0, -⟩ := hq2
              have hc0 := hb0.cell 0
              rw [h0] at hc0
              have HLQ := hide (fun k => Len_cell (w.heap.size + 1) 0 cap0 _ (wr.drewN k) hc0)
              have HVX := hide hvx
              have HD : Hid (drain xlo O.size O = O') := hide (by rw [hdr]; exact drain_stop _ _ _ (.inl h0))
              have HOZ := hide (And.intro hO' hOz)
              clear hb0 hc0 hvx hdr hO' hOz hql h0 hrel
              go_wp2_with fail
              go_quiet ((go_at_call 61; exact Calls.quiet_of_same (HLQ.out _)))
              have HX := hide (HVX.out.below HC.out (below_drewN (Below.refl wr.heap.size wr) nq))
              generalize wr.drewN nq = w5 at *
              obtain ⟨R5, rfl⟩ : ∃ R5, R5 = R3 := ⟨_, rfl⟩
              clear HLQ HVX
              obtain ⟨cap2, kq, hop⟩ := HX.out.vr.q2.opn
              obtain ⟨a2, n2, c2, hv2⟩ : ∃ a n c, opnV R5 cap2 O' = .slice a n c := ⟨_, _, _, rfl⟩
              have HF := hide (HC.out.call ⟨xlo, xlen, xi⟩ R5 cap2 O' (HC.out.drewI HX.out.vr.inv) (hop.drew) (fun g hg hS => HX.out.vr.s2 g hS (.inr hg)) (by have := HOZ.out.2; have := HSZ.out; omega) (by have h5 := congrArg List.length HVL.out; rw [visitL_length, List.length_append] at h5; have := HNN.out; omega))
              have hxa : itA ⟨xlo, xlen, xi⟩ = #[.int .u64 (xlo : Int), .int .u64 (xlen : Int), .int .i64 (xi : Int)] := rfl
              rw [hv2, hxa] at HF
              rw [hv2] at kq
              obtain ⟨x0, x1, x2⟩ := HX.out.cells
              clear hop hv2 hxa
              go_wp2_with fail
              go_still_tail 6, (by kernel_rfl)
              change wpList _ _ _ _ _ w5.drew
              go_wp2_with fail
              have eS : O'.size = O'.size := rfl
              refine HF.out.mono ?_
              rintro e w6 ⟨rfl, S', hI6, hb6, hn6⟩
              have HX6 := hide ((HX.out.below HC.out ((Below.refl _ w5).drew)).call hI6 hb6 hn6)
              clear hI6 hb6 hn6 HX HF kq x0 x1 x2
              obtain ⟨x0, x1, x2⟩ := HX6.out.cells
              have HPU := hide (Push_calls (w.heap.size + 1) 58 R5 O' ⟨xlo, xlen, xi⟩ w6 HX6.out.vr.q2 (by have := HOZ.out.2; have := HSZ.out; omega))
              have hxa : itA ⟨xlo, xlen, xi⟩ = #[.int .u64 (xlo : Int), .int .u64 (xlen : Int), .int .i64 (xi : Int)] := rfl
              rw [hxa] at HPU
              clear hxa
              have HFX := hide (fun g W (hq : Que W (w.heap.size + 1) 58 (some g) (O'.push ⟨xlo, xlen, xi⟩)) => Fix_calls (w.heap.size + 1) 58 g lastI (O'.push ⟨xlo, xlen, xi⟩) W (.inr ⟨rfl, rfl⟩) hq O'.size (by simp) (by have := HOZ.out.2; have := HSZ.out; simp; omega))
              have HLN := hide (fun g W (hq : Que W (w.heap.size + 1) 58 (some g) (O'.push ⟨xlo, xlen, xi⟩)) => Len_at (w.heap.size + 1) 58 (some g) (O'.push ⟨xlo, xlen, xi⟩) (O'.size + 1) (by simp) W hq)
              unfold UpV hq at HFX
              have hoI : (O'.size : Int) ≤ 1000 := by have := HOZ.out.2; have := HSZ.out; omega
              go_wp2_with (first
                | (go_at_call 60; refine HPU.out.mono ?_; rintro e w7 ⟨rfl, g7, hq7, hr7, hb7⟩; have HQ7 := hide hq7; have HX7 := hide (HX6.out.two HC.out hq7 hb7 (fun g hg => by injection hg with hg; subst hg; exact hr7)); clear hq7 hr7 hb7 x0 x1 x2)
                | (go_at_call 61; refine (HLN.out _ _ HQ7.out).mono ?_; rintro e w8 ⟨rfl, rfl⟩)
                | (go_at_call 63; refine (HFX.out _ _ HQ7.out).mono ?_; rintro e w9 ⟨rfl, hq9, hb9⟩; have HX9 := hide (HX7.out.two HC.out hq9 (hb9.mono (fun k _ h => .inr (by rw [h]))) (fun g hg => .inl hg)); clear hq9 hb9))
              refine ⟨hide ⟨pre ++ [(⟨xlo, xlen, xi⟩, O')], S', some g7, hpop Itm.lo W, hpush lastI O' ⟨xlo, xlen, xi⟩, HX9.out.vr, ?_, HMS.out.2.1, ?_, ?_⟩, ?_⟩
              · have e1 : (hpop Itm.lo W).size = m := by have := HMS.out.1; have := HM2.out; omega
                rw [HVL.out, e1, HD.out]; simp
              · exact (hpush_spec lastI O' ⟨xlo, xlen, xi⟩ HOZ.out.1).2.1
              · have := (hpush_spec lastI O' ⟨xlo, xlen, xi⟩ HOZ.out.1).1
                have := HMS.out.1
                have := HM2.out
                have := HOZ.out.2
                have := HSZ.out
                omega
              · have := HX9.out.vr.q1.qlen
                have := HMS.out.1
                have := HM2.out
                have := HQL.out
                omega
            · obtain ⟨p, hp⟩ : ∃ p, O'.size = p + 1 := ⟨O'.size - 1, by omega⟩
              cases hR3 : R3 with
              | none =>
                have := hvx.vr.q2
                rw [hR3] at this
                obtain ⟨cap, _, h1, _, h2⟩ := this
                simp only at h2
                omega
              | some g2 =>
              rw [hR3] at hvx
              obtain ⟨cap, HTS, hpc⟩ := hvx.test hp
              have HVX := hide hvx
              have HOZ := hide (And.intro hO' hOz)
              have HP := hide hp
              obtain ⟨y, hy⟩ : ∃ y, y = O'[0]! := ⟨_, rfl⟩
              have HY := hide hy
              rw [← hy] at HTS
              have HLQ := hide (fun W (h : TestS (w.heap.size + 1) X g2 p cap xlo y.lo y.len wr W) => Len_cell (w.heap.size + 1) (p + 1) cap _ W h.1)
              have HLA := hide (fun W => last_calls y.lo y.len W)
              have ey : lastI ⟨y.lo, y.len, 0⟩ = lastI y := rfl
              rw [ey] at HLA
              have hpI : (p : Int) ≤ 1000 := by have := HSZ.out; omega
              have HDR := hide hdr
              have HQI := hide hql
              by_cases hgo : lastI y < xlo
              · have hdg : decide ((lastI y : Int) < (xlo : Int)) = true := by simpa using hgo
                have HGO := hide hgo
                unfold TestS at HTS HLQ
                generalize y.lo = ylo at *
                generalize y.len = ylen at *
                have HTS2 := hide HTS
                clear hvx hdr hO' hOz hql h0 hrel hp hy ey hR3 hgo HTS
                go_wp2_with fail
                go_region_held3 (fun W => W.cell? ⟨w.heap.size + 1, 0, none⟩ = some (.slice (some ⟨g2, 0, none⟩) (p + 1) cap) ∧ W.cell? ⟨g2, 0, none⟩ = some (.int .u64 (ylo : Int)) ∧ W.cell? ⟨g2, 1, none⟩ = some (.int .u64 (ylen : Int)) ∧ W.cell? ⟨X, 0, none⟩ = some (.int .u64 (xlo : Int)) ∧ Below wr.heap.size wr W)
                  (first | assumption | exact HTS2.out | exact TestS.keep hbx (by assumption))
                  (first | (go_at_call 61; refine (HLQ.out _ (by assumption)).mono ?_; rintro e w5 ⟨rfl, rfl⟩) | (go_at_call 35; refine (HLA.out _).mono ?_; rintro e w5 ⟨rfl, hbx⟩))
                have HX := hide (HVX.out.below HC.out (by assumption : _ ∧ _ ∧ _ ∧ _ ∧ Below wr.heap.size wr w5).2.2.2.2)
                have HPO := hide (HPop_calls (w.heap.size + 1) 58 g2 lastI O' w5 (.inr ⟨rfl, rfl⟩) HX.out.vr.q2 HOZ.out.1 (by have := HP.out; omega) (by have := HSZ.out; have := HOZ.out.2; omega))
                have HPS := hide (hpop_spec lastI O' HOZ.out.1 (by have := HP.out; omega))
                unfold hq at HPO
                clear HTS2 HVX HLQ HLA
                go_wp2_with (go_at_call 62; refine HPO.out.mono ?_; rintro e w6 ⟨rfl, hq3, hb3⟩; have HX6 := hide (HX.out.two HC.out hq3 hb3 (fun g hg => .inl hg)); clear hq3 hb3)
                go_roundw
                case rel =>
                  refine hide ⟨some g2, hpop lastI O', HX6.out, ?_, HPS.out.2.1, by have := HPS.out.1; have := HOZ.out.2; omega⟩
                  rw [HDR.out, HP.out, drain_step _ _ _ (by have := HP.out; omega) (by rw [← HY.out]; exact HGO.out), HPS.out.1, HP.out]
                  rfl
                case measure =>
                  have := HX6.out.vr.q2.qlen
                  have h1 := HQI.out
                  have h2 := HPS.out.1
                  have h3 := HP.out
                  omega
              · have hdg : decide ((lastI y : Int) < (xlo : Int)) = false := by simp; omega
                have hdg2 : decide (lastI y < xlo) = false := by simp; omega
                have HD : Hid (drain xlo O.size O = O') := hide (by rw [hdr]; exact drain_stop _ _ _ (.inr (by rw [← hy]; show xlo ≤ _; omega)))
                unfold TestS at HTS HLQ
                generalize y.lo = ylo at *
                generalize y.len = ylen at *
                have HTS2 := hide HTS
                clear hvx hdr hO' hOz hql h0 hrel hp hy ey hR3 hgo HTS
                go_wp2_with fail
                go_region_held3 (fun W => W.cell? ⟨w.heap.size + 1, 0, none⟩ = some (.slice (some ⟨g2, 0, none⟩) (p + 1) cap) ∧ W.cell? ⟨g2, 0, none⟩ = some (.int .u64 (ylo : Int)) ∧ W.cell? ⟨g2, 1, none⟩ = some (.int .u64 (ylen : Int)) ∧ W.cell? ⟨X, 0, none⟩ = some (.int .u64 (xlo : Int)) ∧ Below wr.heap.size wr W)
                  (first | assumption | exact HTS2.out | exact TestS.keep hbx (by assumption))
                  (first | (go_at_call 61; refine (HLQ.out _ (by assumption)).mono ?_; rintro e w5 ⟨rfl, rfl⟩) | (go_at_call 35; refine (HLA.out _).mono ?_; rintro e w5 ⟨rfl, hbx⟩))
                have HX := hide (HVX.out.below HC.out (by assumption : _ ∧ _ ∧ _ ∧ _ ∧ Below wr.heap.size wr w5).2.2.2.2)
                obtain ⟨R5, hR5⟩ : ∃ R5, R5 = some g2 := ⟨_, rfl⟩
                rw [← hR5] at HX
                rename_i hHeld5
                clear HTS2 HVX HLQ HLA hR5 HY hHeld5 hbx hpc HDR HQI HP hpI
                obtain ⟨cap2, kq, hop⟩ := HX.out.vr.q2.opn
                obtain ⟨a2, n2, c2, hv2⟩ : ∃ a n c, opnV R5 cap2 O' = .slice a n c := ⟨_, _, _, rfl⟩
                have HF := hide (HC.out.call ⟨xlo, xlen, xi⟩ R5 cap2 O' (HC.out.drewI HX.out.vr.inv) (hop.drew) (fun g hg hS => HX.out.vr.s2 g hS (.inr hg)) (by have := HOZ.out.2; have := HSZ.out; omega) (by have h5 := congrArg List.length HVL.out; rw [visitL_length, List.length_append] at h5; have := HNN.out; omega))
                have hxa : itA ⟨xlo, xlen, xi⟩ = #[.int .u64 (xlo : Int), .int .u64 (xlen : Int), .int .i64 (xi : Int)] := rfl
                rw [hv2, hxa] at HF
                rw [hv2] at kq
                obtain ⟨x0, x1, x2⟩ := HX.out.cells
                clear hop hv2 hxa
                go_wp2_with fail
                go_still_tail 6, (by kernel_rfl)
                change wpList _ _ _ _ _ w5.drew
                go_wp2_with fail
                have eS : O'.size = O'.size := rfl
                refine HF.out.mono ?_
                rintro e w6 ⟨rfl, S', hI6, hb6, hn6⟩
                have HX6 := hide ((HX.out.below HC.out ((Below.refl _ w5).drew)).call hI6 hb6 hn6)
                clear hI6 hb6 hn6 HX HF kq x0 x1 x2
                obtain ⟨x0, x1, x2⟩ := HX6.out.cells
                have HPU := hide (Push_calls (w.heap.size + 1) 58 R5 O' ⟨xlo, xlen, xi⟩ w6 HX6.out.vr.q2 (by have := HOZ.out.2; have := HSZ.out; omega))
                have hxa : itA ⟨xlo, xlen, xi⟩ = #[.int .u64 (xlo : Int), .int .u64 (xlen : Int), .int .i64 (xi : Int)] := rfl
                rw [hxa] at HPU
                clear hxa
                have HFX := hide (fun g W (hq : Que W (w.heap.size + 1) 58 (some g) (O'.push ⟨xlo, xlen, xi⟩)) => Fix_calls (w.heap.size + 1) 58 g lastI (O'.push ⟨xlo, xlen, xi⟩) W (.inr ⟨rfl, rfl⟩) hq O'.size (by simp) (by have := HOZ.out.2; have := HSZ.out; simp; omega))
                have HLN := hide (fun g W (hq : Que W (w.heap.size + 1) 58 (some g) (O'.push ⟨xlo, xlen, xi⟩)) => Len_at (w.heap.size + 1) 58 (some g) (O'.push ⟨xlo, xlen, xi⟩) (O'.size + 1) (by simp) W hq)
                unfold UpV hq at HFX
                have hoI : (O'.size : Int) ≤ 1000 := by have := HOZ.out.2; have := HSZ.out; omega
                go_wp2_with (first
                  | (go_at_call 60; refine HPU.out.mono ?_; rintro e w7 ⟨rfl, g7, hq7, hr7, hb7⟩; have HQ7 := hide hq7; have HX7 := hide (HX6.out.two HC.out hq7 hb7 (fun g hg => by injection hg with hg; subst hg; exact hr7)); clear hq7 hr7 hb7 x0 x1 x2)
                  | (go_at_call 61; refine (HLN.out _ _ HQ7.out).mono ?_; rintro e w8 ⟨rfl, rfl⟩)
                  | (go_at_call 63; refine (HFX.out _ _ HQ7.out).mono ?_; rintro e w9 ⟨rfl, hq9, hb9⟩; have HX9 := hide (HX7.out.two HC.out hq9 (hb9.mono (fun k _ h => .inr (by rw [h]))) (fun g hg => .inl hg)); clear hq9 hb9))
                refine ⟨hide ⟨pre ++ [(⟨xlo, xlen, xi⟩, O')], S', some g7, hpop Itm.lo W, hpush lastI O' ⟨xlo, xlen, xi⟩, HX9.out.vr, ?_, HMS.out.2.1, ?_, ?_⟩, ?_⟩
                · have e1 : (hpop Itm.lo W).size = m := by have := HMS.out.1; have := HM2.out; omega
                  rw [HVL.out, e1, HD.out]; simp
                · exact (hpush_spec lastI O' ⟨xlo, xlen, xi⟩ HOZ.out.1).2.1
                · have := (hpush_spec lastI O' ⟨xlo, xlen, xi⟩ HOZ.out.1).1
                  have := HMS.out.1
                  have := HM2.out
                  have := HOZ.out.2
                  have := HSZ.out
                  omega
                · have := HX9.out.vr.q1.qlen
                  have := HMS.out.1
                  have := HM2.out
                  have := HQL.out
                  omega
end Go.Proofs.YthccadabblkalaaGreat
