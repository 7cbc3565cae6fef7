/- A range over a function whose iterator writes cells of its own: the iterator's word and the law of the statement, at the wide fence. -/
import Derived.Test.YtkhcdnehfiopgaaBut
import Derived.RangeFuncWrites
import Derived.RangeFuncLeaves
import Derived.RangeFuncCalls
import Derived.Sort.BigQuietIn
namespace Go.Proofs.Ytkhcdnehfiopgaa
open Go.RowKit
set_option linter.unusedVariables false

/-- The blocks that an iterator may turn: what it has captured, and the k blocks that it lays first. -/
def mine (cap : Nat → Prop) (k B : Nat) (i : Nat) : Prop := cap i ∨ (B ≤ i ∧ i < B + k)
/-- The iterator's word: for every loop body that turns blocks R alone. -/
def SeqM {α : Type} (P : Program) (g : Nat) (lb : Array Value) (encs : α → Array Value) (cap : Nat → Prop) (k n0 : Nat) (S Sp : List α → Prop) (N : Nat) (w : World) : Prop :=
  ∀ (l : Nat) (R : Nat → Prop) (J Jx : List α → World → Prop) (W : World), Below w.heap.size w W →
    (∀ i, R i → n0 ≤ i ∧ ¬ cap i ∧ (i < W.heap.size ∨ W.heap.size + k ≤ i)) →
    (∀ s A B, J s A → But (mine cap k W.heap.size) A B → J s B) → (∀ s A B, Jx s A → But (mine cap k W.heap.size) A B → Jx s B) →
    (∀ m pre x W1, J pre W1 → W.heap.size + k ≤ W1.heap.size → pre.length < N → YieldAt Fence.wide m P l (encs x) W1 fun e W' =>
      (e = .returned (.bool true) ∧ J (pre ++ [x]) W' ∧ But R W1 W') ∨ (e = .returned (.bool false) ∧ Jx (pre ++ [x]) W' ∧ But R W1 W')) →
    J [] W →
    Calls P g (#[.func (.yield l) #[] #[]] ++ lb) W fun e W' => (∃ v, e = .returned v) ∧ ((∃ xs, S xs ∧ J xs W') ∨ (∃ pre, Sp pre ∧ Jx pre W'))

/-- How the body of a round may be left. -/
def mPost {α : Type} (R : Nat → Prop) (I : List α → World → Prop) (Ix : Code → List α → World → Prop) (xs : List α) (W : World) : Exit → Act → World → Prop
  | .normal, _, W' => But R W W' ∧ I xs W'
  | .ret, _, W' => But R W W' ∧ Ix .ret xs W'
  | .exit id, _, W' => But R W W' ∧ Ix (.exit id) xs W'
  | .goto t, _, W' => But R W W' ∧ Ix (.goto t) xs W'
  | .panic _, _, _ => False
  | .outgrown, _, _ => False

theorem round_any {m m' : Nat} {P : Program} {l : Nat} {f : FuncId} {tmps : Array Value} {assign body : Code} {w : World} {R : Ending → World → Prop}
    (h : RoundIn Fence.wide m P l f tmps assign body w R) : RoundIn Fence.wide m' P l f tmps assign body w R := ⟨h.1, fun c cs _ => h.2 c cs (fun d hd => by cases hd)⟩
theorem yield_any {m : Nat} (m' : Nat) {P : Program} {l : Nat} {args : Array Value} {W : World} {R : Ending → World → Prop} (h : YieldAt Fence.wide m P l args W R) : YieldAt Fence.wide m' P l args W R := by
  obtain ⟨fn, tmps, assign, body, hy, hR⟩ := h
  exact ⟨fn, tmps, assign, body, hy, round_any hR⟩
theorem But.putObj {M : Nat → Prop} {a b : World} {l : Nat} (h : But M a b) (o : Obj) (hl : M l ∨ a.heap.size ≤ l) : But M a (b.putObj l o) :=
  h.grown (grownBy_putObj' b l o) (fun r e => by cases e; exact hl)

theorem size_putObj (W : World) (l : Nat) (o : Obj) : (W.putObj l o).heap.size = W.heap.size := by simp

/-- The statement. R: what the body may turn; I: what holds between two rounds. -/
theorem wp_range_own {α : Type} {P : Program} {n : Nat} {g : Operand} {ps : Array Tmp} {assign body : Code} {Q : Exit → Act → World → Prop} {a : Act} {w : World}
    {gf : Nat} {lb : Array Value} (hg : a.eval g = .func (.func gf) #[] lb) (eg : ∀ args w, (callFunc gf args).run P w = .ok (.enter gf args) w)
    {encs : α → Array Value} {cap : Nat → Prop} {k n0 : Nat} {S Sp : List α → Prop} {N : Nat} {w0 : World} (hseq : SeqM P gf lb encs cap k n0 S Sp N w0) (hb0 : Below w0.heap.size w0 w) (hps : ∀ x, (encs x).size = ps.size)
    (hcap : ∀ i, cap i → i < w.heap.size) (hn0 : n0 ≤ w.heap.size)
    (R : Nat → Prop) (hR : ∀ i, R i → n0 ≤ i ∧ ¬ cap i ∧ (i < w.heap.size ∨ w.heap.size + 2 + k ≤ i))
    (I : List α → World → Prop) (Ix : Code → List α → World → Prop)
    (hI : ∀ s A B, I s A → But (mine cap (2 + k) w.heap.size) A B → I s B) (hIx : ∀ c s A B, Ix c s A → But (mine cap (2 + k) w.heap.size) A B → Ix c s B) (h0 : I [] w)
    (Ax : α → Act → World → Prop) (hAx : ∀ x a' A B, Ax x a' A → But (mine cap (2 + k) w.heap.size) A B → Ax x a' B)
    (hassign : ∀ (l : Nat) (pre : List α) (x : α) (W : World), I pre W → w.heap.size + 2 + k ≤ W.heap.size → ∀ (K : Act → World → Prop), (∀ a' W', Ax x a' W' → But R W W' → I pre W' → K a' W') →
      assign.wpIn (Fence.wide.inRound l) (n - 1 - 1) P (Exit.then K (fun _ _ _ => False)) { tmps := (ps.zip (encs x)).foldl (fun t (p, v) => t.setIfInBounds p v) a.tmps, defers := [] } W)
    (hbody : ∀ (l : Nat) (pre : List α) (x : α) (a' : Act) (W : World), I pre W → Ax x a' W → w.heap.size + 2 + k ≤ W.heap.size → pre.length < N → body.wpIn (Fence.wide.inRound l) (n - 1 - 1) P (mPost R I Ix (pre ++ [x]) W) a' W)
    (hdone : ∀ (D : Nat) (xs : List α) (W : World), w.heap.size ≤ D → D < w.heap.size + 2 → S xs → I xs W → W.heap[D]? = some (.deferred (some [])) → Q .normal { a with defers := { target := .collected D, args := #[] } :: a.defers } W)
    (hstop : ∀ (D : Nat) (c : Code) (pre : List α) (W : World), w.heap.size ≤ D → D < w.heap.size + 2 → Sp pre → Ix c pre W → W.heap[D]? = some (.deferred (some [])) → c.wpIn Fence.wide n P Q { a with defers := { target := .collected D, args := #[] } :: a.defers } W) :
    (Code.rangeFunc g ps assign body).wpIn Fence.wide n P Q a w := by
  refine wpIn_rangeFunc (fun fn hfn => ?_)
  obtain ⟨B, hB⟩ : ∃ B, B = w.heap.size := ⟨_, rfl⟩
  obtain ⟨rec, hrec⟩ : ∃ rec : LoopState → Option Code → Loop, rec = fun st pe => { state := st, pending := pe, fn, tmps := a.tmps, params := ps, assign, body, defers := w.heap.size } := ⟨_, rfl⟩
  obtain ⟨W1, hW1⟩ : ∃ W1, (w.alloc (.deferred (some []))).alloc (.loop (rec .ready none)) = W1 := ⟨_, rfl⟩
  have hz1 : W1.heap.size = B + 2 := by rw [← hW1, hB]; simp
  have hL1 : W1.heap[B + 1]? = some (.loop (rec .ready none)) := by
    have := World.alloc_heap_new (w.alloc (.deferred (some []))) (.loop (rec .ready none))
    rw [World.size_alloc, hW1] at this
    rw [hB]; exact this
  have hK1 : W1.heap[B]? = some (.deferred (some [])) := by
    rw [← hW1, hB]; exact (Below.heap_alloc _ _ _ (by simp)).trans (World.alloc_heap_new w _)
  have hbut1 : But (mine cap (2 + k) w.heap.size) w W1 := by rw [← hW1]; exact ((But.refl _ w).alloc _).alloc _
  have hb1 : Below w0.heap.size w0 W1 := by
    rw [← hW1]; exact hb0.trans ((((Below.refl _ w).alloc (Nat.le_refl _) _).alloc (by simp) _).mono hb0.size)
  -- the book-keeping's turns
  have hbk : ∀ (W : World) (o : Obj), But (mine cap (2 + k) w.heap.size) W (W.putObj (B + 1) o) := fun W o => (But.refl _ W).putObj o (.inl (.inr ⟨by omega, by omega⟩))
  refine ⟨B + 1, [{ target := .collected B, args := #[] }], W1, { target := .fn (.func gf) lb, args := #[.func (.yield (B + 1)) #[] #[]] }, W1, gf, #[.func (.yield (B + 1)) #[] #[]] ++ lb, W1, ?_, ?_, fun f' _ => trivial, ?_, (fun h => by cases h), callsIn_wide.2 ?_⟩
  · rw [← hW1, hrec, hB]; exact run_enterLoop_outer _ _ _ _ _
  · simp only [resolve, hg]
    simp [go_sem]
  · simp [invoke, go_sem, eg]
  · refine (hseq (B + 1) (fun i => R i ∨ i = B ∨ i = B + 1)
      (fun pre W => I pre W ∧ W.heap[B + 1]? = some (.loop (rec .ready none)) ∧ W.heap[B]? = some (.deferred (some [])))
      (fun pre W => ∃ c, Ix c pre W ∧ W.heap[B + 1]? = some (.loop (rec .done (some c))) ∧ W.heap[B]? = some (.deferred (some [])))
      W1 hb1 ?_ ?_ ?_ ?_ ⟨hI _ _ _ h0 hbut1, hL1, hK1⟩).mono ?_
    · rintro i (h | rfl | rfl)
      · obtain ⟨h1, h2, h3⟩ := hR i h
        exact ⟨h1, h2, by rw [hz1]; omega⟩
      · exact ⟨by omega, fun h => by have := hcap _ h; omega, by rw [hz1]; omega⟩
      · exact ⟨by omega, fun h => by have := hcap _ h; omega, by rw [hz1]; omega⟩
    · rintro s X Y ⟨h1, h2, h3⟩ hXY
      have hnl : ∀ j, j < B + 2 → B ≤ j → ¬ mine cap k W1.heap.size j := by
        rintro j hj hBj (h | h)
        · have := hcap _ h; omega
        · rw [hz1] at h; omega
      exact ⟨hI s X Y h1 (hXY.mono fun i _ hi => hi.imp id (fun h => by rw [hz1] at h; omega)), (hXY.block _ (Array.getElem?_eq_some_iff.1 h2).1 (hnl _ (by omega) (by omega))).trans h2, (hXY.block _ (Array.getElem?_eq_some_iff.1 h3).1 (hnl _ (by omega) (by omega))).trans h3⟩
    · rintro s X Y ⟨c, h1, h2, h3⟩ hXY
      have hnl : ∀ j, j < B + 2 → B ≤ j → ¬ mine cap k W1.heap.size j := by
        rintro j hj hBj (h | h)
        · have := hcap _ h; omega
        · rw [hz1] at h; omega
      exact ⟨c, hIx c s X Y h1 (hXY.mono fun i _ hi => hi.imp id (fun h => by rw [hz1] at h; omega)), (hXY.block _ (Array.getElem?_eq_some_iff.1 h2).1 (hnl _ (by omega) (by omega))).trans h2, (hXY.block _ (Array.getElem?_eq_some_iff.1 h3).1 (hnl _ (by omega) (by omega))).trans h3⟩
    · -- one round
      rintro m pre x W ⟨hi, hl, hk⟩ hsz hlen
      rw [hz1] at hsz
      refine yield_any (m := n - 1 - 1) m ?_
      have hy := run_yield (P := P) (args := encs x) hl (by rw [hrec]; exact hps x)
      rw [hrec] at hy
      refine ⟨fn, _, assign, body, hy, roundIn_of_wpIn hfn (hassign _ pre x W hi (by omega) _ (fun a' W2 hax hRW hi2 => ?_))⟩
      have hRn : ∀ j, j < B + 2 → B ≤ j → ¬ R j := fun j hj hBj h => by have := (hR j h).2.2; omega
      have hl2 : W2.heap[B + 1]? = some (.loop (rec .ready none)) := (hRW.block _ (Array.getElem?_eq_some_iff.1 hl).1 (hRn _ (by omega) (by omega))).trans hl
      have hk2 : W2.heap[B]? = some (.deferred (some [])) := (hRW.block _ (Array.getElem?_eq_some_iff.1 hk).1 (hRn _ (by omega) (by omega))).trans hk
      refine ⟨_, run_beginRound hl2 (by rw [hrec]), ?_⟩
      have hs2 := hRW.size
      have hl3 : (W2.putObj (B + 1) (.loop { rec .ready none with state := .busy })).heap[B + 1]? = some (.loop { rec .ready none with state := .busy }) := World.putObj_heap_same (Array.getElem?_eq_some_iff.1 hl2).1
      have hk3 : (W2.putObj (B + 1) (.loop { rec .ready none with state := .busy })).heap[B]? = some (.deferred (some [])) := (World.putObj_heap_other (by omega)).trans hk2
      refine wpIn_mono (hbody _ pre x a' _ (hI _ _ _ hi2 (hbk _ _)) (hAx _ _ _ _ hax (hbk _ _)) (by rw [size_putObj]; omega) hlen) ?_
      have fin : ∀ (jump : Option Code) (W3 : World), But R (W2.putObj (B + 1) (.loop { rec .ready none with state := .busy })) W3 →
          (Instr.endRound (B + 1) jump).run P W3 = .ok (.bool jump.isNone) (W3.putObj (B + 1) (.loop (rec (if jump.isNone then .ready else .done) jump))) ∧
          (W3.putObj (B + 1) (.loop (rec (if jump.isNone then .ready else .done) jump))).heap[B + 1]? = some (.loop (rec (if jump.isNone then .ready else .done) jump)) ∧
          (W3.putObj (B + 1) (.loop (rec (if jump.isNone then .ready else .done) jump))).heap[B]? = some (.deferred (some [])) ∧
          But (fun i => R i ∨ i = B ∨ i = B + 1) W (W3.putObj (B + 1) (.loop (rec (if jump.isNone then .ready else .done) jump))) := fun jump W3 hr3 => by
        have hl4 := (hr3.block _ (Array.getElem?_eq_some_iff.1 hl3).1 (hRn _ (by omega) (by omega))).trans hl3
        have hk4 := (hr3.block _ (Array.getElem?_eq_some_iff.1 hk3).1 (hRn _ (by omega) (by omega))).trans hk3
        have := run_endRound (P := P) jump hl4
        rw [hrec] at this ⊢
        refine ⟨this, World.putObj_heap_same (Array.getElem?_eq_some_iff.1 hl4).1, (World.putObj_heap_other (by omega)).trans hk4, ?_⟩
        exact (((hRW.mono fun _ _ h => .inl h).putObj _ (.inl (.inr (.inr rfl)))).trans (hr3.mono fun _ _ h => .inl h)).putObj _ (.inl (.inr (.inr rfl)))
      rintro e a3 W3 hp
      cases e with
      | normal =>
        obtain ⟨hr3, hi3⟩ := hp
        obtain ⟨hr, hl4, hk4, hR4⟩ := fin none W3 hr3
        exact ⟨_, _, hr, .inl ⟨rfl, ⟨hI _ _ _ hi3 (hbk _ _), hl4, hk4⟩, hR4⟩⟩
      | ret =>
        obtain ⟨hr3, hi3⟩ := hp
        obtain ⟨hr, hl4, hk4, hR4⟩ := fin (some .ret) W3 hr3
        exact ⟨_, _, hr, .inr ⟨rfl, ⟨.ret, hIx _ _ _ _ hi3 (hbk _ _), hl4, hk4⟩, hR4⟩⟩
      | exit id =>
        obtain ⟨hr3, hi3⟩ := hp
        obtain ⟨hr, hl4, hk4, hR4⟩ := fin (some (.exit id)) W3 hr3
        exact ⟨_, _, hr, .inr ⟨rfl, ⟨.exit id, hIx _ _ _ _ hi3 (hbk _ _), hl4, hk4⟩, hR4⟩⟩
      | goto t =>
        obtain ⟨hr3, hi3⟩ := hp
        obtain ⟨hr, hl4, hk4, hR4⟩ := fin (some (.goto t)) W3 hr3
        exact ⟨_, _, hr, .inr ⟨rfl, ⟨.goto t, hIx _ _ _ _ hi3 (hbk _ _), hl4, hk4⟩, hR4⟩⟩
      | panic ch => exact hp.elim
      | outgrown => exact hp.elim
    · -- behind the iterator
      rintro e W2 ⟨⟨v, rfl⟩, (⟨xs, hS, hi, hl, hk⟩ | ⟨pre, hSp, c, hi, hl, hk⟩)⟩
      · refine ⟨none, _, by have := run_endLoop (P := P) hl (by rw [hrec]; simp); rw [hrec] at this; exact this, ?_⟩
        exact hdone B xs _ (by omega) (by omega) hS (hI _ _ _ hi (hbk _ _)) ((World.putObj_heap_other (by omega)).trans hk)
      · refine ⟨some c, _, by have := run_endLoop (P := P) hl (by rw [hrec]; simp); rw [hrec] at this; exact this, ?_⟩
        exact hstop B c pre _ (by omega) (by omega) hSp (hIx _ _ _ _ hi (hbk _ _)) ((World.putObj_heap_other (by omega)).trans hk)
/-- The statement, where the loop's variables lie in slots: what they are behind the assignment is f. -/
theorem wp_range_act {α : Type} {P : Program} {n : Nat} {g : Operand} {ps : Array Tmp} {assign body : Code} {Q : Exit → Act → World → Prop} {a : Act} {w : World}
    {gf : Nat} {lb : Array Value} (hg : a.eval g = .func (.func gf) #[] lb) (eg : ∀ args w, (callFunc gf args).run P w = .ok (.enter gf args) w)
    {encs : α → Array Value} {cap : Nat → Prop} {k n0 : Nat} {S Sp : List α → Prop} {N : Nat} {w0 : World} (hseq : SeqM P gf lb encs cap k n0 S Sp N w0) (hb0 : Below w0.heap.size w0 w) (hps : ∀ x, (encs x).size = ps.size)
    (hcap : ∀ i, cap i → i < w.heap.size) (hn0 : n0 ≤ w.heap.size)
    (R : Nat → Prop) (hR : ∀ i, R i → n0 ≤ i ∧ ¬ cap i ∧ (i < w.heap.size ∨ w.heap.size + 2 + k ≤ i))
    (I : List α → World → Prop) (Ix : Code → List α → World → Prop)
    (hI : ∀ s A B, I s A → But (mine cap (2 + k) w.heap.size) A B → I s B) (hIx : ∀ c s A B, Ix c s A → But (mine cap (2 + k) w.heap.size) A B → Ix c s B) (h0 : I [] w)
    (f : α → Act)
    (hassign : ∀ (l : Nat) (x : α) (W : World) (K : Act → World → Prop), K (f x) W →
      assign.wpIn (Fence.wide.inRound l) (n - 1 - 1) P (Exit.then K (fun _ _ _ => False)) { tmps := (ps.zip (encs x)).foldl (fun t (p, v) => t.setIfInBounds p v) a.tmps, defers := [] } W)
    (hbody : ∀ (l : Nat) (pre : List α) (x : α) (W : World), I pre W → w.heap.size + 2 + k ≤ W.heap.size → pre.length < N → body.wpIn (Fence.wide.inRound l) (n - 1 - 1) P (mPost R I Ix (pre ++ [x]) W) (f x) W)
    (hdone : ∀ (D : Nat) (xs : List α) (W : World), w.heap.size ≤ D → D < w.heap.size + 2 → S xs → I xs W → W.heap[D]? = some (.deferred (some [])) → Q .normal { a with defers := { target := .collected D, args := #[] } :: a.defers } W)
    (hstop : ∀ (D : Nat) (c : Code) (pre : List α) (W : World), w.heap.size ≤ D → D < w.heap.size + 2 → Sp pre → Ix c pre W → W.heap[D]? = some (.deferred (some [])) → c.wpIn Fence.wide n P Q { a with defers := { target := .collected D, args := #[] } :: a.defers } W) :
    (Code.rangeFunc g ps assign body).wpIn Fence.wide n P Q a w :=
  wp_range_own hg eg hseq hb0 hps hcap hn0 R hR I Ix hI hIx h0 (fun x a' _ => a' = f x) (fun _ _ _ _ h _ => h)
    (fun l pre x W hi _ K hK => hassign l x W K (hK _ _ rfl (But.refl _ _) hi)) (fun l pre x a' W hi ha hsz hlen => by subst ha; exact hbody l pre x W hi hsz hlen) hdone hstop
/-! ### A region in a round that reads and calls quietly: one walk serves every order -/
def noDefer (l : List Oper) : Bool := l.all fun o => match o.op with | .defer _ => false | _ => true
theorem noDefer_at {l : List Oper} (h : noDefer l = true) {i : Nat} {o : Oper} (hi : l.toArray[i]? = some o) : ∀ c, o.op ≠ .defer c := by
  intro c e
  have hm : o ∈ l := by
    rw [List.getElem?_toArray] at hi
    exact List.mem_of_getElem? hi
  have := List.all_eq_true.1 h o hm
  rw [e] at this
  cases this
theorem wpAny_round {n : Nat} {P : Program} {md : Region.Mode} {ls : List Oper} {Q : Exit → Act → World → Prop} (l : Nat) (hd : noDefer ls = true) : ∀ (fuel : Nat) (listed : Array Bool) (a : Act) (w : World),
    wpAnyIn Fence.wide n P md ls.toArray Q fuel listed a w → wpAnyIn (Fence.wide.inRound l) n P md ls.toArray Q fuel listed a w
  | 0, _, _, _, h => h
  | fuel + 1, listed, a, w, h => by
    refine ⟨h.1, fun i hi => ?_⟩
    have h2 := h.2 i hi
    unfold wpOpIn at h2 ⊢
    cases ho : ls.toArray[i]? with
    | none =>
      rw [ho] at h2
      exact wpAny_round l hd fuel _ a w h2
    | some o =>
      rw [ho] at h2
      simp only at h2 ⊢
      split
      · rename_i hw
        rw [if_pos hw] at h2
        have h3 := Oper.wpIn_mono (fun a' w' => wpAny_round l hd fuel (listed.setIfInBounds i true) a' w') h2
        unfold Oper.wpIn at h3 ⊢
        have e1 := Oper.semAt_eq Fence.wide.round a.eval o (noDefer_at hd ho)
        have e2 := Oper.semAt_eq (Fence.wide.inRound l).round a.eval o (noDefer_at hd ho)
        rw [e1] at h3
        rw [e2]
        exact h3
      · rename_i hw
        rw [if_neg hw] at h2
        exact ⟨h2.1, wpAny_round l hd fuel _ _ w h2.2⟩
theorem wp_round_quiet_lit {l n : Nat} {P : Program} {id : Nat} {Q : Exit → Act → World → Prop} {a : Act} {w : World} {ls : List Oper} (hm : P.follows .mixedOrders = true) (hB : Region.lexB .any ls.toArray = true) (hd : noDefer ls = true)
    (h : wpQuietIn Fence.wide n P ls.toArray (fun w' => ∃ n, w' = w.drewN n) (fun a' => ∀ w', (∃ n, w' = w.drewN n) → Q .normal a' w') ls a) : (Code.region id ls.toArray true).wpIn (Fence.wide.inRound l) n P Q a w := by
  simp only [Region.lexB, Bool.and_eq_true] at hB
  refine wpIn_region_any hm (wpAny_round l hd _ _ _ _ (wpAnyIn_of_quiet (C := fun w' => ∃ n, w' = w.drewN n) (Q := fun a' => ∀ w', (∃ n, w' = w.drewN n) → Q .normal a' w') rfl (fun _ w' hw' h => h w' hw') _ _ _ _ ⟨1, rfl⟩ ?_))
  have := wpAnyQIn_lex (F := Fence.wide) (n := n) (C := fun w' => ∃ n, w' = w.drewN n) (md := .any) hB.1 ls 0 (Array.replicate ls.toArray.size false) a (by simp) (by simpa using hB.2) h
  simpa using this
end Go.Proofs.Ytkhcdnehfiopgaa
