/- A range over a function whose iterator keeps cells of its own from round to round: the body turns nothing that is newer than the call of the iterator. -/
import Derived.Test.YtkhcdnehfiopgaaRf
namespace Go.Proofs.Ytkhcdnehfiopgaa
open Go.RowKit
set_option linter.unusedVariables false

/-- The blocks that an iterator may turn: what it has captured, and all that it lays. -/
def mineK (cap : Nat → Prop) (B : Nat) (i : Nat) : Prop := cap i ∨ B ≤ i
/-- The iterator's word: for every loop body that turns blocks R alone, all older than the iterator's call. -/
def SeqK {α : Type} (P : Program) (g : Nat) (lb : Array Value) (encs : α → Array Value) (cap : Nat → Prop) (n0 : Nat) (S Sp : List α → Prop) (N : Nat) (w : World) : Prop :=
  ∀ (l : Nat) (R : Nat → Prop) (J Jx : List α → World → Prop) (W : World), Below w.heap.size w W →
    (∀ i, R i → n0 ≤ i ∧ ¬ cap i ∧ i < W.heap.size) →
    (∀ s A B, J s A → But (mineK cap W.heap.size) A B → J s B) → (∀ s A B, Jx s A → But (mineK cap W.heap.size) A B → Jx s B) →
    (∀ m pre x W1, J pre W1 → W.heap.size ≤ W1.heap.size → pre.length < N → YieldAt Fence.wide m P l (encs x) W1 fun e W' =>
      (e = .returned (.bool true) ∧ J (pre ++ [x]) W' ∧ But R W1 W') ∨ (e = .returned (.bool false) ∧ Jx (pre ++ [x]) W' ∧ But R W1 W')) →
    J [] W →
    Calls P g (#[.func (.yield l) #[] #[]] ++ lb) W fun e W' => (∃ v, e = .returned v) ∧ ((∃ xs, S xs ∧ J xs W') ∨ (∃ pre, Sp pre ∧ Jx pre W'))
/-- The statement. R: what the body may turn; I: what holds between two rounds. -/
theorem wp_range_ownK {α : Type} {P : Program} {n : Nat} {g : Operand} {ps : Array Tmp} {assign body : Code} {Q : Exit → Act → World → Prop} {a : Act} {w : World}
    {gf : Nat} {lb : Array Value} (hg : a.eval g = .func (.func gf) #[] lb) (eg : ∀ args w, (callFunc gf args).run P w = .ok (.enter gf args) w)
    {encs : α → Array Value} {cap : Nat → Prop} {n0 : Nat} {S Sp : List α → Prop} {N : Nat} {w0 : World} (hseq : SeqK P gf lb encs cap n0 S Sp N w0) (hb0 : Below w0.heap.size w0 w) (hps : ∀ x, (encs x).size = ps.size)
    (hcap : ∀ i, cap i → i < w.heap.size) (hn0 : n0 ≤ w.heap.size)
    (R : Nat → Prop) (hR : ∀ i, R i → n0 ≤ i ∧ ¬ cap i ∧ i < w.heap.size)
    (I : List α → World → Prop) (Ix : Code → List α → World → Prop)
    (hI : ∀ s A B, I s A → But (mineK cap w.heap.size) A B → I s B) (hIx : ∀ c s A B, Ix c s A → But (mineK cap w.heap.size) A B → Ix c s B) (h0 : I [] w)
    (Ax : α → Act → World → Prop) (hAx : ∀ x a' A B, Ax x a' A → But (mineK cap w.heap.size) A B → Ax x a' B)
    (hassign : ∀ (l : Nat) (pre : List α) (x : α) (W : World), I pre W → w.heap.size + 2 ≤ W.heap.size → ∀ (K : Act → World → Prop), (∀ a' W', Ax x a' W' → But R W W' → I pre W' → K a' W') →
      assign.wpIn (Fence.wide.inRound l) (n - 1 - 1) P (Exit.then K (fun _ _ _ => False)) { tmps := (ps.zip (encs x)).foldl (fun t (p, v) => t.setIfInBounds p v) a.tmps, defers := [] } W)
    (hbody : ∀ (l : Nat) (pre : List α) (x : α) (a' : Act) (W : World), I pre W → Ax x a' W → w.heap.size + 2 ≤ W.heap.size → pre.length < N → body.wpIn (Fence.wide.inRound l) (n - 1 - 1) P (mPost R I Ix (pre ++ [x]) W) a' W)
    (hdone : ∀ (D : Nat) (xs : List α) (W : World), w.heap.size ≤ D → D < w.heap.size + 2 → S xs → I xs W → W.heap[D]? = some (.deferred (some [])) → Q .normal { a with defers := { target := .collected D, args := #[] } :: a.defers } W)
    (hstop : ∀ (D : Nat) (c : Code) (pre : List α) (W : World), w.heap.size ≤ D → D < w.heap.size + 2 → Sp pre → Ix c pre W → W.heap[D]? = some (.deferred (some [])) → c.wpIn Fence.wide n P Q { a with defers := { target := .collected D, args := #[] } :: a.defers } W) :
    (Code.rangeFunc g ps assign body).wpIn Fence.wide n P Q a w := by
  refine wpIn_rangeFunc (fun fn hfn => ?_)
  obtain ⟨B, hB⟩ : ∃ B, B = w.heap.size := ⟨_, rfl⟩
  obtain ⟨rec, hrec⟩ : ∃ rec : LoopState → Option Code → Loop, rec = fun st pe => { state := st, pending := pe, fn, tmps := a.tmps, params := ps, assign, body, defers := w.heap.size } := ⟨_, rfl⟩
  obtain ⟨W1, hW1⟩ : ∃ W1, (w.alloc (.deferred (some []))).alloc (.loop (rec .ready none)) = W1 := ⟨_, rfl⟩
  have hz1 : W1.heap.size = B + 2 := by rw [← hW1, hB]; simp
  have hL1 : W1.heap[B + 1]? = some (.loop (rec .ready none)) := by
    have := World.alloc_heap_new (w.alloc (.deferred (some []))) (.loop (rec .ready none))
    rw [World.size_alloc, hW1] at this
    rw [hB]; exact this
  have hK1 : W1.heap[B]? = some (.deferred (some [])) := by
    rw [← hW1, hB]; exact (Below.heap_alloc _ _ _ (by simp)).trans (World.alloc_heap_new w _)
  have hbut1 : But (mineK cap w.heap.size) w W1 := by rw [← hW1]; exact ((But.refl _ w).alloc _).alloc _
  have hb1 : Below w0.heap.size w0 W1 := by
    rw [← hW1]; exact hb0.trans ((((Below.refl _ w).alloc (Nat.le_refl _) _).alloc (by simp) _).mono hb0.size)
  -- the book-keeping's turns
  have hbk : ∀ (W : World) (o : Obj), But (mineK cap w.heap.size) W (W.putObj (B + 1) o) := fun W o => (But.refl _ W).putObj o (.inl (.inr (by omega)))
  refine ⟨B + 1, [{ target := .collected B, args := #[] }], W1, { target := .fn (.func gf) lb, args := #[.func (.yield (B + 1)) #[] #[]] }, W1, gf, #[.func (.yield (B + 1)) #[] #[]] ++ lb, W1, ?_, ?_, fun f' _ => trivial, ?_, (fun h => by cases h), callsIn_wide.2 ?_⟩
  · rw [← hW1, hrec, hB]; exact run_enterLoop_outer _ _ _ _ _
  · simp only [resolve, hg]
    simp [go_sem]
  · simp [invoke, go_sem, eg]
  · refine (hseq (B + 1) (fun i => R i ∨ i = B ∨ i = B + 1)
      (fun pre W => I pre W ∧ W.heap[B + 1]? = some (.loop (rec .ready none)) ∧ W.heap[B]? = some (.deferred (some [])))
      (fun pre W => ∃ c, Ix c pre W ∧ W.heap[B + 1]? = some (.loop (rec .done (some c))) ∧ W.heap[B]? = some (.deferred (some [])))
      W1 hb1 ?_ ?_ ?_ ?_ ⟨hI _ _ _ h0 hbut1, hL1, hK1⟩).mono ?_
    · rintro i (h | rfl | rfl)
      · obtain ⟨h1, h2, h3⟩ := hR i h
        exact ⟨h1, h2, by rw [hz1]; omega⟩
      · exact ⟨by omega, fun h => by have := hcap _ h; omega, by rw [hz1]; omega⟩
      · exact ⟨by omega, fun h => by have := hcap _ h; omega, by rw [hz1]; omega⟩
    · rintro s X Y ⟨h1, h2, h3⟩ hXY
      have hnl : ∀ j, j < B + 2 → B ≤ j → ¬ mineK cap W1.heap.size j := by
        rintro j hj hBj (h | h)
        · have := hcap _ h; omega
        · rw [hz1] at h; omega
      exact ⟨hI s X Y h1 (hXY.mono fun i _ hi => hi.imp id (fun h => by rw [hz1] at h; omega)), (hXY.block _ (Array.getElem?_eq_some_iff.1 h2).1 (hnl _ (by omega) (by omega))).trans h2, (hXY.block _ (Array.getElem?_eq_some_iff.1 h3).1 (hnl _ (by omega) (by omega))).trans h3⟩
    · rintro s X Y ⟨c, h1, h2, h3⟩ hXY
      have hnl : ∀ j, j < B + 2 → B ≤ j → ¬ mineK cap W1.heap.size j := by
        rintro j hj hBj (h | h)
        · have := hcap _ h; omega
        · rw [hz1] at h; omega
      exact ⟨c, hIx c s X Y h1 (hXY.mono fun i _ hi => hi.imp id (fun h => by rw [hz1] at h; omega)), (hXY.block _ (Array.getElem?_eq_some_iff.1 h2).1 (hnl _ (by omega) (by omega))).trans h2, (hXY.block _ (Array.getElem?_eq_some_iff.1 h3).1 (hnl _ (by omega) (by omega))).trans h3⟩
    · -- one round
      rintro m pre x W ⟨hi, hl, hk⟩ hsz hlen
      rw [hz1] at hsz
      refine yield_any (m := n - 1 - 1) m ?_
      have hy := run_yield (P := P) (args := encs x) hl (by rw [hrec]; exact hps x)
      rw [hrec] at hy
      refine ⟨fn, _, assign, body, hy, roundIn_of_wpIn hfn (hassign _ pre x W hi (by omega) _ (fun a' W2 hax hRW hi2 => ?_))⟩
      have hRn : ∀ j, j < B + 2 → B ≤ j → ¬ R j := fun j hj hBj h => by have := (hR j h).2.2; omega
      have hl2 : W2.heap[B + 1]? = some (.loop (rec .ready none)) := (hRW.block _ (Array.getElem?_eq_some_iff.1 hl).1 (hRn _ (by omega) (by omega))).trans hl
      have hk2 : W2.heap[B]? = some (.deferred (some [])) := (hRW.block _ (Array.getElem?_eq_some_iff.1 hk).1 (hRn _ (by omega) (by omega))).trans hk
      refine ⟨_, run_beginRound hl2 (by rw [hrec]), ?_⟩
      have hs2 := hRW.size
      have hl3 : (W2.putObj (B + 1) (.loop { rec .ready none with state := .busy })).heap[B + 1]? = some (.loop { rec .ready none with state := .busy }) := World.putObj_heap_same (Array.getElem?_eq_some_iff.1 hl2).1
      have hk3 : (W2.putObj (B + 1) (.loop { rec .ready none with state := .busy })).heap[B]? = some (.deferred (some [])) := (World.putObj_heap_other (by omega)).trans hk2
      refine wpIn_mono (hbody _ pre x a' _ (hI _ _ _ hi2 (hbk _ _)) (hAx _ _ _ _ hax (hbk _ _)) (by rw [size_putObj]; omega) hlen) ?_
      have fin : ∀ (jump : Option Code) (W3 : World), But R (W2.putObj (B + 1) (.loop { rec .ready none with state := .busy })) W3 →
          (Instr.endRound (B + 1) jump).run P W3 = .ok (.bool jump.isNone) (W3.putObj (B + 1) (.loop (rec (if jump.isNone then .ready else .done) jump))) ∧
          (W3.putObj (B + 1) (.loop (rec (if jump.isNone then .ready else .done) jump))).heap[B + 1]? = some (.loop (rec (if jump.isNone then .ready else .done) jump)) ∧
          (W3.putObj (B + 1) (.loop (rec (if jump.isNone then .ready else .done) jump))).heap[B]? = some (.deferred (some [])) ∧
          But (fun i => R i ∨ i = B ∨ i = B + 1) W (W3.putObj (B + 1) (.loop (rec (if jump.isNone then .ready else .done) jump))) := fun jump W3 hr3 => by
        have hl4 := (hr3.block _ (Array.getElem?_eq_some_iff.1 hl3).1 (hRn _ (by omega) (by omega))).trans hl3
        have hk4 := (hr3.block _ (Array.getElem?_eq_some_iff.1 hk3).1 (hRn _ (by omega) (by omega))).trans hk3
        have := run_endRound (P := P) jump hl4
        rw [hrec] at this ⊢
        refine ⟨this, World.putObj_heap_same (Array.getElem?_eq_some_iff.1 hl4).1, (World.putObj_heap_other (by omega)).trans hk4, ?_⟩
        exact (((hRW.mono fun _ _ h => .inl h).putObj _ (.inl (.inr (.inr rfl)))).trans (hr3.mono fun _ _ h => .inl h)).putObj _ (.inl (.inr (.inr rfl)))
      rintro e a3 W3 hp
      cases e with
      | normal =>
        obtain ⟨hr3, hi3⟩ := hp
        obtain ⟨hr, hl4, hk4, hR4⟩ := fin none W3 hr3
        exact ⟨_, _, hr, .inl ⟨rfl, ⟨hI _ _ _ hi3 (hbk _ _), hl4, hk4⟩, hR4⟩⟩
      | ret =>
        obtain ⟨hr3, hi3⟩ := hp
        obtain ⟨hr, hl4, hk4, hR4⟩ := fin (some .ret) W3 hr3
        exact ⟨_, _, hr, .inr ⟨rfl, ⟨.ret, hIx _ _ _ _ hi3 (hbk _ _), hl4, hk4⟩, hR4⟩⟩
      | exit id =>
        obtain ⟨hr3, hi3⟩ := hp
        obtain ⟨hr, hl4, hk4, hR4⟩ := fin (some (.exit id)) W3 hr3
        exact ⟨_, _, hr, .inr ⟨rfl, ⟨.exit id, hIx _ _ _ _ hi3 (hbk _ _), hl4, hk4⟩, hR4⟩⟩
      | goto t =>
        obtain ⟨hr3, hi3⟩ := hp
        obtain ⟨hr, hl4, hk4, hR4⟩ := fin (some (.goto t)) W3 hr3
        exact ⟨_, _, hr, .inr ⟨rfl, ⟨.goto t, hIx _ _ _ _ hi3 (hbk _ _), hl4, hk4⟩, hR4⟩⟩
      | panic ch => exact hp.elim
      | outgrown => exact hp.elim
    · -- behind the iterator
      rintro e W2 ⟨⟨v, rfl⟩, (⟨xs, hS, hi, hl, hk⟩ | ⟨pre, hSp, c, hi, hl, hk⟩)⟩
      · refine ⟨none, _, by have := run_endLoop (P := P) hl (by rw [hrec]; simp); rw [hrec] at this; exact this, ?_⟩
        exact hdone B xs _ (by omega) (by omega) hS (hI _ _ _ hi (hbk _ _)) ((World.putObj_heap_other (by omega)).trans hk)
      · refine ⟨some c, _, by have := run_endLoop (P := P) hl (by rw [hrec]; simp); rw [hrec] at this; exact this, ?_⟩
        exact hstop B c pre _ (by omega) (by omega) hSp (hIx _ _ _ _ hi (hbk _ _)) ((World.putObj_heap_other (by omega)).trans hk)
/-- The statement, where the loop's variables lie in slots: what they are behind the assignment is f. -/
theorem wp_range_actK {α : Type} {P : Program} {n : Nat} {g : Operand} {ps : Array Tmp} {assign body : Code} {Q : Exit → Act → World → Prop} {a : Act} {w : World}
    {gf : Nat} {lb : Array Value} (hg : a.eval g = .func (.func gf) #[] lb) (eg : ∀ args w, (callFunc gf args).run P w = .ok (.enter gf args) w)
    {encs : α → Array Value} {cap : Nat → Prop} {n0 : Nat} {S Sp : List α → Prop} {N : Nat} {w0 : World} (hseq : SeqK P gf lb encs cap n0 S Sp N w0) (hb0 : Below w0.heap.size w0 w) (hps : ∀ x, (encs x).size = ps.size)
    (hcap : ∀ i, cap i → i < w.heap.size) (hn0 : n0 ≤ w.heap.size)
    (R : Nat → Prop) (hR : ∀ i, R i → n0 ≤ i ∧ ¬ cap i ∧ i < w.heap.size)
    (I : List α → World → Prop) (Ix : Code → List α → World → Prop)
    (hI : ∀ s A B, I s A → But (mineK cap w.heap.size) A B → I s B) (hIx : ∀ c s A B, Ix c s A → But (mineK cap w.heap.size) A B → Ix c s B) (h0 : I [] w)
    (f : α → Act)
    (hassign : ∀ (l : Nat) (x : α) (W : World) (K : Act → World → Prop), K (f x) W →
      assign.wpIn (Fence.wide.inRound l) (n - 1 - 1) P (Exit.then K (fun _ _ _ => False)) { tmps := (ps.zip (encs x)).foldl (fun t (p, v) => t.setIfInBounds p v) a.tmps, defers := [] } W)
    (hbody : ∀ (l : Nat) (pre : List α) (x : α) (W : World), I pre W → w.heap.size + 2 ≤ W.heap.size → pre.length < N → body.wpIn (Fence.wide.inRound l) (n - 1 - 1) P (mPost R I Ix (pre ++ [x]) W) (f x) W)
    (hdone : ∀ (D : Nat) (xs : List α) (W : World), w.heap.size ≤ D → D < w.heap.size + 2 → S xs → I xs W → W.heap[D]? = some (.deferred (some [])) → Q .normal { a with defers := { target := .collected D, args := #[] } :: a.defers } W)
    (hstop : ∀ (D : Nat) (c : Code) (pre : List α) (W : World), w.heap.size ≤ D → D < w.heap.size + 2 → Sp pre → Ix c pre W → W.heap[D]? = some (.deferred (some [])) → c.wpIn Fence.wide n P Q { a with defers := { target := .collected D, args := #[] } :: a.defers } W) :
    (Code.rangeFunc g ps assign body).wpIn Fence.wide n P Q a w :=
  wp_range_ownK hg eg hseq hb0 hps hcap hn0 R hR I Ix hI hIx h0 (fun x a' _ => a' = f x) (fun _ _ _ _ h _ => h)
    (fun l pre x W hi _ K hK => hassign l x W K (hK _ _ rfl (But.refl _ _) hi)) (fun l pre x a' W hi ha hsz hlen => by subst ha; exact hbody l pre x W hi hsz hlen) hdone hstop
end Go.Proofs.Ytkhcdnehfiopgaa
