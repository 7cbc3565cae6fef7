/- The walk of sweep.Depth (chapter 14). -/
import Derived.Test.YtakehbljldjndaaSwVis2
import Derived.Test.YtakehbljldjndaaSwDepth
namespace Go.Proofs.Ytakehbljldjndaa
open Go.RowKit Go.Sort
set_option linter.unusedVariables false

/-- One cell that a function captured. -/
def One (B : Nat) (t : TypeId) (v : List (Itm × Array Itm) → Value) (pre : List (Itm × Array Itm)) (S : Nat → Prop) (w : World) : Prop := Blk w B t #[v pre] ∧ ∀ k, S k ↔ k = B
theorem depthV_snoc (V : List (Itm × Array Itm)) (x : Itm) (O : Array Itm) : depthV (V ++ [(x, O)]) = max (depthV V) (O.size + 1) := by
  unfold depthV; rw [maxOf_snoc]
def depI (B : Nat) : List (Itm × Array Itm) → (Nat → Prop) → World → Prop := One B 3 (fun pre => .int .i64 (depthV pre : Int))
set_option maxHeartbeats 1000000 in
theorem Depth1_calls (B n c : Nat) (a : Option Addr) (x : Itm) (m : Nat) (w : World) (hb : w.cell? ⟨B, 0, none⟩ = some (.int .i64 (m : Int))) (hf : w.frozen? ⟨B, 0, none⟩ = false) (hm : m ≤ 1000001) (hn : n ≤ 1000000) :
    Calls Try.prog 34 #[.agg (itA x), .slice a n c, .pointer (some ⟨B, 0, none⟩)] w fun e w' => e = .returned (.tuple #[]) ∧
      w' = (w.setCell ⟨B, 0, none⟩ (.int .i64 ((max m (n + 1) : Nat) : Int))).alloc (.cells (itA x) 54) := by
  have hxa : itA x = #[.int .u64 (x.lo : Int), .int .u64 (x.len : Int), .int .i64 (x.idx : Int)] := rfl
  rw [hxa]
  clear hxa
  have hB := cell_lt hb
  have hmI : (m : Int) ≤ 1000001 := by omega
  have hnI : (n : Int) ≤ 1000000 := by omega
  obtain ⟨M, hM⟩ : ∃ M : Int, M = ((max m (n + 1) : Nat) : Int) := ⟨_, rfl⟩
  rw [← hM]
  have HM := hide hM
  clear hM
  by_cases h : (n : Int) + 1 < (m : Int)
  · have hMe : M = (m : Int) := by rw [HM.out]; omega
    subst hMe
    go_enter Try.func34, Try.ntmps34
    go_wp2
    go_end0
    exact ⟨rfl, rfl⟩
  · have hMe : M = (n : Int) + 1 := by rw [HM.out]; omega
    subst hMe
    rcases Nat.lt_or_ge m (n + 1) with h2 | h2
    · have h3 : (m : Int) < (n : Int) + 1 := by omega
      clear h h2
      go_enter Try.func34, Try.ntmps34
      go_wp2
      go_end0
      exact ⟨rfl, rfl⟩
    · obtain rfl : m = n + 1 := by omega
      clear h h2
      go_enter Try.func34, Try.ntmps34
      go_wp2
      go_end0
      exact ⟨rfl, rfl⟩
theorem dep_CB (B : Nat) : CB 34 #[.pointer (some ⟨B, 0, none⟩)] (fun pre S w => depI B pre S w ∧ ∀ p ∈ pre, p.2.size ≤ 1000000) where
  keep := fun {pre S M w w'} h hb hM => ⟨⟨hb.blk h.1.1 (hM B ((h.1.2 B).2 rfl)), h.1.2⟩, h.2⟩
  lt := fun {pre S w} h k hk => by
    have := (h.1.2 k).1 hk
    subst this
    exact h.1.1.lt
  call := fun {pre S w} x R cap O h ho hS hO _ => by
    have hle : depthV pre ≤ 1000001 := maxOf_le _ fun p hp => by have := h.2 p hp; omega
    have e := Depth1_calls B O.size cap (R.map fun g => ⟨g, 0, none⟩) x (depthV pre) w (h.1.1.cell 0) (h.1.1.frozen 0) hle hO
    refine e.mono ?_
    rintro e w' ⟨rfl, rfl⟩
    refine ⟨rfl, S, ⟨⟨?_, h.1.2⟩, ?_⟩, ?_, fun k hk => .inl hk⟩
    · have := (h.1.1.set_ 0 (.int .i64 ((max (depthV pre) (O.size + 1) : Nat) : Int))).alloc (.cells (itA x) 54)
      show Blk _ B 3 #[.int .i64 ((depthV (pre ++ [(x, O)]) : Nat) : Int)]
      rw [depthV_snoc]
      exact this
    · intro p hp
      rcases List.mem_append.1 hp with hp | hp
      · exact h.2 p hp
      · rw [List.mem_singleton] at hp; subst hp; exact hO
    · exact ((But.refl S w).setCell (p := ⟨B, 0, none⟩) (.inl ((h.1.2 B).2 rfl)) _).alloc _
set_option maxHeartbeats 1000000 in
theorem Depth_calls (l : List (Nat × Nat)) (base c : Nat) (A : Option Addr) (w : World) (hl : w.ownsRow base 38 2 (.slice A l.length c) l.length (l.flatMap spL)) (hn : l.length ≤ 1000) :
    Calls Try.prog 15 #[.slice A l.length c] w fun e w' => e = .returned (.int .i64 (depthV (visitL l) : Int)) ∧ Below w.heap.size w w' := by
  have hB := Blk.new w 3 #[.int .i64 0]
  have hV := visit_calls (dep_CB w.heap.size) (enters_of Try.func34 (by kernel_rfl) rfl) l base c A (w.alloc (.cells #[.int .i64 0] 3)) (fun k => k = w.heap.size) ⟨⟨hB, fun k => Iff.rfl⟩, fun p hp => by cases hp⟩ (hl.alloc _) hn
  have HV := hide hV
  clear hV hB hl hn
  have hmf : ∀ (fn : Fn) (first cap : Array Value) (w : World), (Instr.makeFunc fn first cap).run Try.prog w = .ok (.func fn first cap) w := fun _ _ _ _ => rfl
  generalize l.length = n at *
  go_enter Try.func15, Try.ntmps15
  go_wp2_with (go_at_call 28; refine HV.out.mono ?_; rintro e w1 ⟨rfl, S, h1, h2, h3⟩; have c0 : w1.cell? ⟨w.heap.size, 0, none⟩ = _ := h1.1.1.cell 0; simp only [List.getElem?_toArray, List.getElem?_cons_zero] at c0; have HB1 := hide h2; clear h1 h2 h3)
  go_ret
  refine ⟨rfl, ?_⟩
  exact ((Below.refl _ w).alloc (Nat.le_refl _) _).trans (HB1.out.below (by simp) (fun k hk h => by omega))
end Go.Proofs.Ytakehbljldjndaa
