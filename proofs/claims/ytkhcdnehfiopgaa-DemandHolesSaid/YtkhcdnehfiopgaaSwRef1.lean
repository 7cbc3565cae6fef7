/- The walks of the reference's Last, Valid, Has, Meet and of the program's Valid and Meet (chapter 14). -/
import Derived.Test.YtkhcdnehfiopgaaSwHeapW
import Derived.Shelf.SlSortCmp.QuietGrown
namespace Go.Proofs.Ytkhcdnehfiopgaa
open Go.RowKit Go.Sort
set_option linter.unusedVariables false

/-- Draws and new blocks, nothing else. -/
def Gr (w w' : World) : Prop := ∃ q os', w' = grow (w.drewN q) os'
theorem Gr.refl (w : World) : Gr w w := ⟨0, #[], by rw [grow_empty]; rfl⟩
theorem Gr.trans {a b c : World} (h : Gr a b) (k : Gr b c) : Gr a c := by
  obtain ⟨q, os, rfl⟩ := h
  obtain ⟨q2, os2, rfl⟩ := k
  exact ⟨q + q2, os ++ os2, by show grow (grow ((a.drewN q).drewN q2) os) os2 = _; rw [grow_grow, World.drewN_drewN]⟩
theorem Gr.alloc {a b : World} (h : Gr a b) (o : Obj) : Gr a (b.alloc o) := h.trans ⟨0, #[o], by rw [alloc_eq_grow]; rfl⟩
theorem Gr.drew {a b : World} (h : Gr a b) : Gr a b.drew := h.trans ⟨1, #[], by rw [grow_empty]; rfl⟩
theorem Gr.below {a b : World} (h : Gr a b) : Below a.heap.size a b := by
  obtain ⟨q, os, rfl⟩ := h
  refine ⟨rfl, rfl, rfl, by simp [grow], fun k hk => ?_⟩
  show (a.heap ++ os)[k]? = _
  rw [Array.getElem?_append_left hk]
theorem mixed_prog : Try.prog.follows .mixedOrders = true := by kernel_rfl

theorem ret_b {a b : Bool} (h : a = b) : Ending.returned (.bool a) = .returned (.bool b) := by rw [h]
def lastW (s : Nat × Nat) : Nat := lastI ⟨s.1, s.2, 0⟩
def spA (s : Nat × Nat) : Array Value := #[.int .u64 (s.1 : Int), .int .u64 (s.2 : Int)]
theorem last_wrap2 (lo len : Nat) : ∃ S : Int, IntKind.u64.wrap ((len : Int) - 1) = S ∧ IntKind.u64.wrap ((lo : Int) + S) = (((lo + len + 18446744073709551615) % 18446744073709551616 : Nat) : Int) := by
  refine ⟨_, rfl, ?_⟩
  simp only [IntKind.wrap, IntKind.bits, IntKind.signed]
  simp
  omega
set_option maxHeartbeats 1000000 in
theorem RLast_gr (s : Nat × Nat) (w : World) : Calls Try.prog 83 #[.agg #[.int .u64 (s.1 : Int), .int .u64 (s.2 : Int)]] w
    fun e w' => e = .returned (.int .u64 ((lastW s : Nat) : Int)) ∧ ∃ q os', w' = grow (w.drewN q) os' := by
  obtain ⟨lo, len⟩ := s
  obtain ⟨S, e1, e2⟩ := last_wrap2 lo len
  obtain ⟨L, hL⟩ : ∃ L : Int, L = ((lastW (lo, len) : Nat) : Int) := ⟨_, rfl⟩
  have e3 : IntKind.u64.wrap ((lo : Int) + S) = L := by rw [e2, hL]; rfl
  rw [← hL]
  have HL := hide hL
  clear hL e2 HL
  go_enter Try.func83, Try.ntmps83
  go_wp2
  go_ret
  exact ⟨rfl, (Gr.refl w).alloc _⟩
def vldB (s : Nat × Nat) : Bool := decide (1 ≤ s.2) && decide (s.1 ≤ lastW s)
def hasB (s : Nat × Nat) (x : Nat) : Bool := decide (s.1 ≤ x) && decide (x ≤ lastW s)
def meetB (a b : Nat × Nat) : Bool := hasB a b.1 || hasB b a.1
def meetP (a b : Nat × Nat) : Bool := decide (a.1 ≤ lastW b) && decide (b.1 ≤ lastW a)
/-- A span in a new block, in the worlds of a region that only grows. -/
theorem span_gr (w : World) (t : TypeId) (lo len : Nat) (n : Nat) (os : Array Obj) :
    (grow ((w.alloc (.cells #[.int .u64 (lo : Int), .int .u64 (len : Int)] t)).drewN n) os).cell? ⟨w.heap.size, 0, none⟩ = some (.int .u64 (lo : Int)) ∧
    (grow ((w.alloc (.cells #[.int .u64 (lo : Int), .int .u64 (len : Int)] t)).drewN n) os).cell? ⟨w.heap.size, 1, none⟩ = some (.int .u64 (len : Int)) := by
  have hb := Blk.new w t #[.int .u64 (lo : Int), .int .u64 (len : Int)]
  exact ⟨cell_grown (by simp) (hb.cell 0) n os, cell_grown (by simp) (hb.cell 1) n os⟩
set_option maxRecDepth 100000 in
set_option maxHeartbeats 2000000 in
theorem RHas_gr (s : Nat × Nat) (x : Nat) (w : World) : Calls Try.prog 70 #[.agg #[.int .u64 (s.1 : Int), .int .u64 (s.2 : Int)], .int .u64 (x : Int)] w
    fun e w' => e = .returned (.bool (hasB s x)) ∧ ∃ q os', w' = grow (w.drewN q) os' := by
  have hL := fun W => RLast_gr s W
  have hV : hasB s x = (decide (s.1 ≤ x) && decide (x ≤ lastW s)) := rfl
  obtain ⟨lo, len⟩ := s
  simp only at hL hV ⊢
  generalize lastW (lo, len) = L at *
  have HL := hide hL
  have HG := hide ((Gr.refl w).alloc (.cells #[.int .u64 (lo : Int), .int .u64 (len : Int)] 92))
  clear hL
  by_cases h1 : lo ≤ x
  · have d1 : decide ((lo : Int) ≤ (x : Int)) = true := by simp; omega
    have d2 : decide (lo ≤ x) = true := by simp; omega
    rw [d2, Bool.true_and] at hV
    have HV := hide hV
    clear hV h1
    go_enter Try.func70, Try.ntmps70
    go_wp2_with (go_at_call 83; refine (HL.out _).mono ?_; rintro e w1 ⟨rfl, hg⟩; have HG2 := hide hg; clear hg)
    go_ret
    exact ⟨by rw [HV.out]; simp, HG.out.trans HG2.out⟩
  · have d1 : decide ((lo : Int) ≤ (x : Int)) = false := by simp; omega
    have d2 : decide (lo ≤ x) = false := by simp; omega
    rw [d2, Bool.false_and] at hV
    have HV := hide hV
    clear hV h1
    go_enter Try.func70, Try.ntmps70
    go_wp2
    go_ret
    exact ⟨ret_b HV.out.symm, HG.out⟩
theorem two_spans (w : World) (t : TypeId) (a b c d : Nat) (n : Nat) (os : Array Obj) :
    (grow (((w.alloc (.cells #[.int .u64 (a : Int), .int .u64 (b : Int)] t)).alloc (.cells #[.int .u64 (c : Int), .int .u64 (d : Int)] t)).drewN n) os).cell? ⟨w.heap.size, 0, none⟩ = some (.int .u64 (a : Int)) ∧
    (grow (((w.alloc (.cells #[.int .u64 (a : Int), .int .u64 (b : Int)] t)).alloc (.cells #[.int .u64 (c : Int), .int .u64 (d : Int)] t)).drewN n) os).cell? ⟨w.heap.size, 1, none⟩ = some (.int .u64 (b : Int)) ∧
    (grow (((w.alloc (.cells #[.int .u64 (a : Int), .int .u64 (b : Int)] t)).alloc (.cells #[.int .u64 (c : Int), .int .u64 (d : Int)] t)).drewN n) os).cell? ⟨w.heap.size + 1, 0, none⟩ = some (.int .u64 (c : Int)) ∧
    (grow (((w.alloc (.cells #[.int .u64 (a : Int), .int .u64 (b : Int)] t)).alloc (.cells #[.int .u64 (c : Int), .int .u64 (d : Int)] t)).drewN n) os).cell? ⟨w.heap.size + 1, 1, none⟩ = some (.int .u64 (d : Int)) := by
  have hb := (Blk.new w t #[.int .u64 (a : Int), .int .u64 (b : Int)]).alloc (.cells #[.int .u64 (c : Int), .int .u64 (d : Int)] t)
  have hc := Blk.new (w.alloc (.cells #[.int .u64 (a : Int), .int .u64 (b : Int)] t)) t #[.int .u64 (c : Int), .int .u64 (d : Int)]
  rw [World.size_alloc] at hc
  exact ⟨cell_grown (by simp; omega) (hb.cell 0) n os, cell_grown (by simp; omega) (hb.cell 1) n os, cell_grown (by simp) (hc.cell 0) n os, cell_grown (by simp) (hc.cell 1) n os⟩
set_option maxRecDepth 100000 in
set_option maxHeartbeats 2000000 in
theorem RMeet_gr (a b : Nat × Nat) (w : World) : Calls Try.prog 58 #[.agg #[.int .u64 (a.1 : Int), .int .u64 (a.2 : Int)], .agg #[.int .u64 (b.1 : Int), .int .u64 (b.2 : Int)]] w
    fun e w' => e = .returned (.bool (meetB a b)) ∧ ∃ q os', w' = grow (w.drewN q) os' := by
  have hLa := fun W => RHas_gr a b.1 W
  have hLb := fun W => RHas_gr b a.1 W
  have hV : meetB a b = (hasB a b.1 || hasB b a.1) := rfl
  have hb := (Blk.new w 92 #[.int .u64 (a.1 : Int), .int .u64 (a.2 : Int)]).alloc (.cells #[.int .u64 (b.1 : Int), .int .u64 (b.2 : Int)] 92)
  have hc := Blk.new (w.alloc (.cells #[.int .u64 (a.1 : Int), .int .u64 (a.2 : Int)] 92)) 92 #[.int .u64 (b.1 : Int), .int .u64 (b.2 : Int)]
  rw [World.size_alloc] at hc
  generalize meetB a b = m at *
  obtain ⟨lo, len⟩ := a
  obtain ⟨lp, lem⟩ := b
  simp only at hLa hLb hV hb hc ⊢
  generalize hasB (lo, len) lp = x at *
  generalize hasB (lp, lem) lo = y at *
  have HA := hide hLa
  have HB := hide hLb
  have HBB := hide hb
  have HCC := hide hc
  have HV := hide hV
  have HG := hide (((Gr.refl w).alloc (.cells #[.int .u64 (lo : Int), .int .u64 (len : Int)] 92)).alloc (.cells #[.int .u64 (lp : Int), .int .u64 (lem : Int)] 92))
  clear hLa hLb hV hb hc
  cases x
  · go_enter Try.func58, Try.ntmps58
    go_wp2_with (first
      | (go_at_call 70; ((with_reducible refine (HA.out _).mono ?_); rintro e w1 ⟨rfl, hg⟩; have hb1 := hg; have hbb := Gr.below hb1; have s0 := (HBB.out.below hbb (by simp; omega)).cell 0; have s1 := (HBB.out.below hbb (by simp; omega)).cell 1; have s2 := (HCC.out.below hbb (by simp)).cell 0; have s3 := (HCC.out.below hbb (by simp)).cell 1; have HG2 := hide hg; clear hg hb1 hbb))
      | (go_at_call 70; refine (HB.out _).mono ?_; rintro e w2 ⟨rfl, hg⟩; have HG3 := hide hg; clear hg))
    go_ret
    exact ⟨by rw [HV.out]; simp, HG.out.trans (Gr.trans HG2.out HG3.out)⟩
  · go_enter Try.func58, Try.ntmps58
    go_wp2_with (go_at_call 70; ((with_reducible refine (HA.out _).mono ?_); rintro e w1 ⟨rfl, hg⟩; have HG2 := hide hg; clear hg))
    go_ret
    exact ⟨by rw [HV.out]; simp, HG.out.trans HG2.out⟩
end Go.Proofs.Ytkhcdnehfiopgaa
