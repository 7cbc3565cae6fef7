/- slices.SortFunc's words and the words of rows, brought together: elements of k cells. slices.Values at windows, AppendSeq and Collect: an iterator over a slice that lay before. slices.SortFunc at windows by their Start; SortedFunc over Values. -/
import Derived.Test.YtkhcdnehfiopgaaBut
import Derived.Shelf.SlSortCmp.NoneTotal
import Derived.Test.YtkhcdnehfiopgaaFrWins
import Derived.Test.YtkhcdnehfiopgaaRf
import Derived.Test.YtkhcdnehfiopgaaShelf
import Derived.Handy
import Derived.StillTactics
import Derived.RangeFuncNested
import Derived.RangeFuncBound
import Derived.Shelf.Abstract
import Derived.Shelf.RegionOpen
import Derived.OwnWalkIn
import Derived.TacticsInMore
import Derived.LoopNIn
import Derived.LoopIn
import Derived.Maps.OwnIn
import Derived.Test.YtkhcdnehfiopgaaSwHeap
import Derived.Deep.QuietTactic
import Derived.BigQuiet
namespace Go.Proofs.Ytkhcdnehfiopgaa
open Go.RowKit Go.Sort
set_option linter.unusedVariables false

theorem own_block {w : World} {base size n : Nat} {e : TypeId} {v : Value} {xs : List Value} (h : w.ownsRow base e size v n xs) : ∀ k, v.ownBlock = some k → base ≤ k ∧ k < w.heap.size := by
  intro k hk
  rcases h.2 with ⟨h0, _⟩ | ⟨r, cap, cur, hv, hbs, hg, _⟩
  · rw [h0] at hk; cases hk
  · have hg' : Blk w r e cur := hg
    rw [hv] at hk
    have : r = k := by simpa [Value.ownBlock] using hk
    subst this
    exact ⟨hbs, hg'.lt⟩
section
variable {α : Type} [Inhabited α] {enc : α → List Value} {k : Nat} {w : World} {base g n cap : Nat} {e : TypeId} {l : List α}
theorem holdsK_of_own (hk : ∀ x, (enc x).length = k) (h : w.ownsRow base e k (.slice (some ⟨g, 0, none⟩) n cap) n (l.flatMap enc)) (hl : l.length = n) : HoldsK enc k w g 0 l.toArray := by
  intro t ht
  rw [size_flatK, List.size_toArray] at ht
  have hk0 : 0 < k := by
    rcases Nat.eq_zero_or_pos k with h0 | h0
    · rw [h0, Nat.mul_zero] at ht; omega
    · exact h0
  have hi : t / k < l.length := by rw [Nat.div_lt_iff_lt_mul hk0]; exact ht
  have hj := Nat.mod_lt t hk0
  obtain ⟨g', e1, _, _, _, hc⟩ := own_cells hk h hl (t / k) hi
  injection e1 with e1
  injection e1 with e1
  subst e1
  have e2 : t / k * k + t % k = t := by have := Nat.div_add_mod t k; rw [Nat.mul_comm] at this; omega
  have h3 := hc (t % k) hj
  rw [e2] at h3
  rw [Nat.zero_add, get_flatK _ _ _ _ (by rw [List.size_toArray]; exact ht), h3]
  have e3 : (l.toArray)[t / k]! = l[t / k] := by rw [getElem!_pos _ _ (by rw [List.size_toArray]; exact hi)]; simp
  rw [e3]
  refine ⟨?_, ?_⟩
  · rw [List.getElem?_eq_getElem (by rw [hk]; exact hj), getElem!_pos _ _ (by rw [hk]; exact hj)]
    rfl
  · rcases h.2 with ⟨h0, _⟩ | ⟨r, cap', cur, hv, hbs, hg, _⟩
    · cases h0
    · injection hv with e4
      injection e4 with e4
      injection e4 with e4
      subst e4
      have hg' : Blk w g e cur := hg
      exact hg'.frozen _
theorem own_sorted (hk : ∀ x, (enc x).length = k) (h : w.ownsRow base e k (.slice (some ⟨g, 0, none⟩) n cap) n (l.flatMap enc)) (hl : l.length = n) (l' : List α) (hl' : l'.length = n) (m : Nat) (os : Array Obj) :
    (sortWorldK enc k w g 0 m l'.toArray os).ownsRow base e k (.slice (some ⟨g, 0, none⟩) n cap) n (l'.flatMap enc) ∧ But (· = g) w (sortWorldK enc k w g 0 m l'.toArray os) := by
  rcases h.2 with ⟨h0, _⟩ | ⟨r, cap', cur, hv, hbs, hg, h1, h2, h3, h4⟩
  · cases h0
  · injection hv with e1 e2 e3
    injection e1 with e1
    injection e1 with e1
    subst e1 e3
    have hg' : Blk w g e cur := hg
    have hlt := hg'.lt
    have hb : But (· = g) w (sortWorldK enc k w g 0 m l'.toArray os) := by
      refine ⟨rfl, rfl, rfl, ?_, fun i hi hn => ?_⟩
      · simp [sortWorldK, grow, putRowK, putRow, mapBlock, Sort.ahead]
      · simp only [sortWorldK, grow, putRowK, putRow, mapBlock, Sort.ahead]
        rw [Array.getElem?_append_left (by simpa using hi), Array.getElem?_modify, if_neg (fun h => hn h.symm)]
    refine ⟨⟨by rw [flat_len enc k hk, hl'], .inr ⟨g, cap, putCells id 0 (flatK enc k l'.toArray) cur, rfl, hbs, ?_, h1, h2, by simpa [putCells] using h3, ?_⟩⟩, hb⟩
    · simp only [sortWorldK, grow, putRowK, putRow, mapBlock, Sort.ahead]
      rw [Array.getElem?_append_left (by simpa using hlt), Array.getElem?_modify, if_pos rfl]
      have hg2 : w.heap[g]? = some (.cells cur e (0, 0)) := hg
      rw [hg2]; rfl
    · apply List.ext_getElem?
      intro t
      by_cases ht : t < n * k
      · have hk0 : 0 < k := by
          rcases Nat.eq_zero_or_pos k with h0 | h0
          · rw [h0, Nat.mul_zero] at ht; omega
          · exact h0
        have hi : t / k < l'.length := by rw [Nat.div_lt_iff_lt_mul hk0, hl']; exact ht
        have hj := Nat.mod_lt t hk0
        have e2 : t / k * k + t % k = t := by have := Nat.div_add_mod t k; rw [Nat.mul_comm] at this; omega
        have h5 := flat_get enc k hk l' (t / k) (t % k) hi hj
        rw [e2] at h5
        have hcs : t < cur.size := by rw [h3]; exact Nat.lt_of_lt_of_le ht (Nat.mul_le_mul_right _ h1)
        rw [List.getElem?_take, if_pos ht, h5, Array.getElem?_toList]
        simp only [putCells, Array.getElem?_mapIdx, Array.getElem?_eq_getElem hcs, Option.map_some]
        rw [if_pos (by simp [hl']; exact ht), Nat.sub_zero, get_flatK _ _ _ _ (by rw [List.size_toArray, hl']; exact ht)]
        have e3 : (l'.toArray)[t / k]! = l'[t / k] := by rw [getElem!_pos _ _ (by rw [List.size_toArray]; exact hi)]; simp
        rw [e3, List.getElem?_eq_getElem (by rw [hk]; exact hj), getElem!_pos _ _ (by rw [hk]; exact hj)]
        rfl
      · rw [List.getElem?_eq_none (by rw [List.length_take]; omega), List.getElem?_eq_none (by rw [flat_len enc k hk, hl']; omega)]
end
end Go.Proofs.Ytkhcdnehfiopgaa
namespace Go.Proofs.Ytkhcdnehfiopgaa
open Go.RowKit Go.Sort Go.Shelf
attribute [local go_sem] Oper.semAt_some
set_option linter.unusedVariables false

instance : Inhabited WinR := ⟨⟨0, 0, 0⟩⟩
def encsV (x : WinR) : Array Value := #[.agg #[.int .u64 (x.st : Int), .int .u64 (x.len : Int), .int .u16 (x.part : Int)]]
/-- What the iterator needs. -/
structure VaEnv (n0 B : Nat) (r : Row WinR) (w : World) : Prop where
  lt : B < n0
  row : RowAt winL 3 n0 r w
  box : Blk w B 24 #[.slice r.a r.l.length r.c]
theorem VaEnv.but {M : Nat → Prop} {n0 B : Nat} {r : Row WinR} {w w' : World} (h : VaEnv n0 B r w) (hb : But M w w') (hn : n0 ≤ w.heap.size) (hM : ∀ i, M i → n0 ≤ i) : VaEnv n0 B r w' :=
  ⟨h.lt, h.row.below (hb.below hn (fun k hk hm => by have := hM k hm; omega)), hb.blk h.box (fun hm => by have := hM _ hm; have := h.lt; omega)⟩
theorem take_pre {α : Type} (l : List α) (k : Nat) : l.take k <+: l := List.take_prefix k l
/-- The row that AppendSeq grows. -/
def ApI (w : World) (pre : List WinR) (W : World) : Prop :=
  ∃ a c, Blk W w.heap.size 24 #[.slice a pre.length c] ∧ W.ownsRow w.heap.size 49 3 (.slice a pre.length c) pre.length (pre.flatMap winL) ∧ (∀ r, (Value.slice a pre.length c).ownBlock = some r → w.heap.size + 3 ≤ r) ∧ Below w.heap.size w W
theorem zip1 (p : Tmp) (a : Value) (T : Array Value) : ((#[p] : Array Tmp).zip #[a]).foldl (fun t (x : Tmp × Value) => t.setIfInBounds x.1 x.2) T = T.setIfInBounds p a := by simp
theorem ApI.but {M : Nat → Prop} {w W W' : World} {pre : List WinR} (h : ApI w pre W) (hb : But M W W') (hM : ∀ i, M i → w.heap.size < i ∧ i < w.heap.size + 3) : ApI w pre W' := by
  obtain ⟨a, c, h1, h2, h3, h4⟩ := h
  exact ⟨a, c, hb.blk h1 (fun hm => by have := hM _ hm; omega), own_but h2 hb (fun k hk hm => by have := hM _ hm; have := h3 k hk; omega), h3, h4.trans (hb.below h4.size (fun k hk hm => by have := hM _ hm; omega))⟩
end Go.Proofs.Ytkhcdnehfiopgaa
namespace Go.Proofs.Ytkhcdnehfiopgaa
open Go.RowKit Go.Sort Go.Shelf
set_option linter.unusedVariables false

set_option maxHeartbeats 1000000 in
theorem NaN_calls (a : Nat) (w : World) : Calls Try.prog 63 #[.int .u64 (a : Int)] w fun e w' => e = .returned (.bool false) ∧ w = w' := by
  have e0 : ((a : Int) != (a : Int)) = false := by simp
  go_enter Try.func63, Try.ntmps63
  go_wp2
  go_ret
  exact ⟨rfl, rfl⟩
set_option maxHeartbeats 1000000 in
theorem Cmp64_calls (a b : Nat) (w : World) : Calls Try.prog 49 #[.int .u64 (a : Int), .int .u64 (b : Int)] w fun e w' => e = .returned (.int .i64 (Lib.compareInt (a : Int) (b : Int))) ∧ w' = w := by
  have HN := hide (fun a W => NaN_calls a W)
  unfold Lib.compareInt
  by_cases h1 : (a : Int) < (b : Int)
  · rw [if_pos h1]
    go_enter Try.func49, Try.ntmps49
    go_wp2_with (go_at_call 63; refine (HN.out _ _).mono ?_; rintro e w1 ⟨rfl, rfl⟩)
    go_ret
    exact ⟨rfl, rfl⟩
  · rw [if_neg h1]
    by_cases h2 : (b : Int) < (a : Int)
    · rw [if_pos h2]
      go_enter Try.func49, Try.ntmps49
      go_wp2_with (go_at_call 63; refine (HN.out _ _).mono ?_; rintro e w1 ⟨rfl, rfl⟩)
      go_ret
      exact ⟨rfl, rfl⟩
    · rw [if_neg h2]
      go_enter Try.func49, Try.ntmps49
      go_wp2_with (go_at_call 63; refine (HN.out _ _).mono ?_; rintro e w1 ⟨rfl, rfl⟩)
      go_ret
      exact ⟨rfl, rfl⟩
def cfW (x y : WinR) : Int := Lib.compareInt (x.st : Int) (y.st : Int)
theorem ltW (x y : WinR) : ltOf cfW x y = decide (x.st < y.st) := by
  unfold ltOf cfW Lib.compareInt
  rw [Bool.eq_iff_iff]
  simp only [decide_eq_true_eq]
  by_cases h1 : (x.st : Int) < y.st
  · simp [h1]; omega
  · by_cases h2 : (y.st : Int) < x.st <;> simp [h1, h2] <;> omega
theorem swoW : SWO (ltOf cfW) where
  irrefl x := by rw [ltW]; simp
  trans x y z h1 h2 := by rw [ltW] at *; simp at *; omega
  ntrans x y z h1 h2 := by rw [ltW] at *; simp at *; omega
set_option maxRecDepth 100000 in
set_option maxHeartbeats 2000000 in
theorem CmpW_calls (x y : WinR) (w : World) : Calls Try.prog 48 #[.agg (winL x).toArray, .agg (winL y).toArray] w fun e w' => e = .returned (.int .i64 (cfW x y)) ∧ ∃ q os', w' = grow (w.drewN q) os' := by
  obtain ⟨x1, x2, x3⟩ := x
  obtain ⟨y1, y2, y3⟩ := y
  have hC := fun W => Cmp64_calls x1 y1 W
  show Calls Try.prog 48 #[.agg #[.int .u64 (x1 : Int), .int .u64 (x2 : Int), .int .u16 (x3 : Int)], .agg #[.int .u64 (y1 : Int), .int .u64 (y2 : Int), .int .u16 (y3 : Int)]] w fun e w' => e = .returned (.int .i64 (Lib.compareInt (x1 : Int) (y1 : Int))) ∧ ∃ q os', w' = grow (w.drewN q) os'
  generalize Lib.compareInt (x1 : Int) (y1 : Int) = r1 at *
  have HC := hide hC
  have HG := hide (((Gr.refl w).alloc (.cells #[.int .u64 (x1 : Int), .int .u64 (x2 : Int), .int .u16 (x3 : Int)] 49)).alloc (.cells #[.int .u64 (y1 : Int), .int .u64 (y2 : Int), .int .u16 (y3 : Int)] 49))
  clear hC
  go_enter Try.func48, Try.ntmps48
  go_wp2_with (go_at_call 49; refine (HC.out _).mono ?_; rintro e w1 ⟨rfl, rfl⟩)
  go_ret
  exact ⟨rfl, HG.out⟩
theorem permIn_all {α : Type} [Inhabited α] {d d' : Array α} (h : PermIn 0 d.size d d') : d'.toList.Perm d.toList := by
  have h1 := h.2.2
  have e1 : d.extract 0 d.size = d := by simp
  have e2 : d'.extract 0 d.size = d' := by rw [← h.1]; simp
  rwa [e1, e2] at h1
theorem sorted_asc {l : List WinR} (h : SortedIn (ltOf cfW) 0 l.length l.toArray) : AscW l := by
  unfold AscW
  rw [List.pairwise_iff_getElem]
  intro i j hi hj hij
  have := h i j (Nat.zero_le _) hij hj
  rw [getElem!_pos _ _ (by simpa using hj), getElem!_pos _ _ (by simpa using hi), ltW] at this
  simpa using this
theorem SortW_calls (B : Nat) (ps : List WinR) (a : Option Addr) (c : Nat) (w : World) (own : w.ownsRow B 49 3 (.slice a ps.length c) ps.length (ps.flatMap winL)) (hl : ps.length ≤ 1000000000) :
    Calls Try.prog 47 #[.slice a ps.length c, .func (.func 48) #[] #[]] w fun e w' => e = .returned (.tuple #[]) ∧
      ∃ out : List WinR, out.Perm ps ∧ AscW out ∧ w'.ownsRow B 49 3 (.slice a ps.length c) ps.length (out.flatMap winL) ∧ But (fun k => (Value.slice a ps.length c).ownBlock = some k) w w' := by
  rcases own.2 with ⟨h0, h1⟩ | ⟨g, cap, cur, hv, hbs, hg, h1, h2, h3, h4⟩
  · have hps : ps = [] := List.eq_nil_of_length_eq_zero h1
    subst hps
    have hS := AnyF.slices_SortFunc_none (P := Try.prog) (ρ := Try.sortW_ren) { Try.sortW with } a c (.func (.func 48) #[] #[]) w
    change Calls Try.prog 47 _ _ _ at hS
    refine hS.mono ?_
    rintro e w' ⟨rfl, rfl⟩
    exact ⟨rfl, [], List.Perm.refl _, List.Pairwise.nil, own, But.refl _ _⟩
  · injection hv with e1 e2 e3
    subst e1 e3
    have hl' := own_lt own
    have eg : ∀ args w, (callFunc 48 args).run Try.prog w = .ok (.enter 48 args) w := enters_of Try.func48 (by kernel_rfl) rfl
    have hS := AnyQ.slices_SortFunc Try.sortW 3 Try.isAgg49 Try.sizeOf49 winL winL_len wn_one cfW swoW 48 #[] g 0 c ps.toArray w eg
      (fun _ _ _ _ x y => CmpW_calls x y _) (holdsK_of_own winL_len own rfl) hl'.2.1 (by rw [List.size_toArray]; omega)
    change Calls Try.prog 47 _ _ _ at hS
    rw [List.size_toArray] at hS
    refine hS.mono ?_
    rintro e w' ⟨rfl, d', m, os, hp, hso, rfl⟩
    have hp2 := permIn_all (d := ps.toArray) (by rw [List.size_toArray]; exact hp)
    have hlen : d'.toList.length = ps.length := by rw [hp2.length_eq]
    obtain ⟨q1, q2⟩ := own_sorted winL_len own rfl d'.toList hlen m os
    rw [Array.toArray_toList] at q1 q2
    exact ⟨rfl, d'.toList, hp2, sorted_asc (by rw [hlen, Array.toArray_toList]; exact hso), q1, q2.mono (fun k _ hk => by rw [hk]; rfl)⟩
/-- The windows in the order of their Start. -/
def ByStart (r : Row WinR) (w : World) (e : Ending) (w' : World) : Prop := ∃ out : List WinR, out.Perm r.l ∧ AscW out ∧ WinsV out w e w'
end Go.Proofs.Ytkhcdnehfiopgaa
