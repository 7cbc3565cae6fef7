/- The example of chapter 15 holds; equality of faults. -/
import Derived.Test.YthccadabblkalaaGreatFrIdle
import Derived.Test.YthccadabblkalaaGreatFrRef4
import Derived.Stop.BytesEq
namespace Go.Proofs.YthccadabblkalaaGreat
open Go.RowKit Go.Sort
set_option linter.unusedVariables false

theorem fault_eql (c i j c2 i2 j2 : Int) (w : World) : (binOp .eql 46 (.agg #[.int .i64 c, .int .i64 i, .int .i64 j]) (.agg #[.int .i64 c2, .int .i64 i2, .int .i64 j2])).run Tryz.prog w = .ok (.bool (c == c2 && (i == i2 && j == j2))) w := by
  have hf : Tryz.prog.underlying 46 = some (.struct (Tryz.prog.fieldsOf 46)) := by kernel_rfl
  have hp : Tryz.prog.stoodInHeld 46 = false := by kernel_rfl
  rw [run_eql_struct, run_equalIn_agg w 9999 _ _ _ hf hp]
  unfold Program.fieldsOf
  rw [Tryz.underlying46]
  simp [Op.eqFields, part, run_equalIn_int]
  by_cases h1 : c = c2 <;> by_cases h2 : i = i2 <;> by_cases h3 : j = j2 <;> simp [h1, h2, h3]
theorem fault_guard (o : BinOp) (x y : Operand) (xs ys : Array Value) (w : World) : (eqGuard o 46 x y (.agg xs) (.agg ys)).run Tryz.prog w = .ok () w :=
  run_eqGuard_agg w _ _ _ _ _ _ (by kernel_rfl)
def exC (B : Nat) : Cfg := ⟨100, ⟨[⟨1, ⟨#[97]⟩, 0, 0⟩], some ⟨B, 0, none⟩, 1⟩, ⟨[⟨50, 10, 1⟩, ⟨10, 20, 1⟩], some ⟨B + 1, 0, none⟩, 2⟩, ⟨[], none, 0⟩, ⟨[], none, 0⟩, ⟨[], none, 0⟩⟩
theorem exC_check (B : Nat) : checkR (exC B) = (0, 0, 0) := by rfl
theorem exC_wo (B : Nat) : wo (exC B).wins.l 1 = [(50, 60), (10, 30)] := by show wo [⟨50, 10, 1⟩, ⟨10, 20, 1⟩] 1 = _; decide +kernel
theorem ex_busy : busyL [(50, 60), (10, 30)] = 30 := by decide +kernel
theorem ex_used : usedL 25 55 [(50, 60), (10, 30)] = 10 := by decide +kernel
theorem exC_gaps (B : Nat) : gapsR (exC B).frame ((exC B).wins.l.map wsp) = [(0, 10), (30, 20), (60, 40)] := by show gapsR 100 [(50, 10), (10, 20)] = _; decide +kernel
theorem exC_ok (B : Nat) : (exC B).Ok := by
  refine ⟨by simp [exC], ?_, ?_, ?_, ?_, ?_⟩
  · intro x hx; simp [exC] at hx; subst hx; exact ⟨by decide, by decide, by decide, by decide⟩
  · intro x hx; simp [exC] at hx; rcases hx with rfl | rfl <;> exact ⟨by decide, by decide, by decide⟩
  · intro x hx; simp [exC] at hx
  · intro x hx; simp [exC] at hx
  · intro x hx; simp [exC] at hx
theorem exC_sp (B : Nat) : ∀ s ∈ (exC B).wins.l.map wsp, okSpan s := by
  intro s hs; simp [exC, wsp] at hs; rcases hs with rfl | rfl <;> exact ⟨by decide, by decide⟩
theorem exC_small (B : Nat) : (exC B).Small := by unfold Cfg.Small; simp [exC, linksN]
/-- The example in memory. -/
def ExE (w W : World) : Prop := Below w.heap.size w W ∧ CfgAt W.heap.size (exC w.heap.size) W ∧ Blk W (w.heap.size + 2) 29 #[.int .u64 100, .slice (some ⟨w.heap.size, 0, none⟩) 1 1, .slice (some ⟨w.heap.size + 1, 0, none⟩) 2 2, .slice none 0 0, .slice none 0 0, .slice none 0 0]
theorem ExE.below {w W W' : World} (h : ExE w W) (hb : Below W.heap.size W W') : ExE w W' := ⟨h.1.trans (hb.mono h.1.size), CfgAt.more (h.2.1.below hb) hb.size, h.2.2.below hb h.2.2.lt⟩
theorem nil_row {α : Type} {enc : α → List Value} {k B : Nat} {w : World} : RowAt enc k B ⟨[], none, 0⟩ w := ⟨⟨by simp, fun h => absurd h (by simp)⟩, Nat.le_refl _, Nat.zero_le _⟩
theorem reads_blk {w : World} {g B size n : Nat} {t : TypeId} {cs : Array Value} {xs : List Value} (h : Blk w g t cs) (hB : g < B) (hx : cs.toList = xs) (hl : xs.length = n * size) : Reads w B size (some ⟨g, 0, none⟩) n xs :=
  ⟨hl, fun _ => ⟨_, rfl, hB, fun j u hu => by rw [addr_plain, Nat.zero_add, h.cell, ← Array.getElem?_toList, hx]; exact hu⟩⟩
theorem ExE.start (w : World) : ExE w (((w.alloc (.cells #[.int .u16 1, .string ⟨#[97]⟩, .int .u64 0, .int .u64 0] 41)).alloc (.cells #[.int .u64 50, .int .u64 10, .int .u16 1, .int .u64 10, .int .u64 20, .int .u16 1] 36)).alloc (.cells #[.int .u64 100, .slice (some ⟨w.heap.size, 0, none⟩) 1 1, .slice (some ⟨w.heap.size + 1, 0, none⟩) 2 2, .slice none 0 0, .slice none 0 0, .slice none 0 0] 29)) := by
  have h1 := ((Blk.new w 41 #[.int .u16 1, .string ⟨#[97]⟩, .int .u64 0, .int .u64 0]).alloc (.cells #[.int .u64 50, .int .u64 10, .int .u16 1, .int .u64 10, .int .u64 20, .int .u16 1] 36)).alloc (.cells #[.int .u64 100, .slice (some ⟨w.heap.size, 0, none⟩) 1 1, .slice (some ⟨w.heap.size + 1, 0, none⟩) 2 2, .slice none 0 0, .slice none 0 0, .slice none 0 0] 29)
  have h2 := (Blk.new (w.alloc (.cells #[.int .u16 1, .string ⟨#[97]⟩, .int .u64 0, .int .u64 0] 41)) 36 #[.int .u64 50, .int .u64 10, .int .u16 1, .int .u64 10, .int .u64 20, .int .u16 1]).alloc (.cells #[.int .u64 100, .slice (some ⟨w.heap.size, 0, none⟩) 1 1, .slice (some ⟨w.heap.size + 1, 0, none⟩) 2 2, .slice none 0 0, .slice none 0 0, .slice none 0 0] 29)
  have h3 := Blk.new ((w.alloc (.cells #[.int .u16 1, .string ⟨#[97]⟩, .int .u64 0, .int .u64 0] 41)).alloc (.cells #[.int .u64 50, .int .u64 10, .int .u16 1, .int .u64 10, .int .u64 20, .int .u16 1] 36)) 29 #[.int .u64 100, .slice (some ⟨w.heap.size, 0, none⟩) 1 1, .slice (some ⟨w.heap.size + 1, 0, none⟩) 2 2, .slice none 0 0, .slice none 0 0, .slice none 0 0]
  simp only [World.size_alloc, Nat.add_assoc, Nat.reduceAdd] at h2 h3
  refine ⟨(((Below.refl _ w).alloc (Nat.le_refl _) _).alloc (by simp) _).alloc (by simp; omega) _, ?_, h3⟩
  refine ⟨⟨reads_blk h1 h1.lt rfl rfl, by simp [exC], by simp [exC]⟩, ⟨reads_blk h2 h2.lt rfl rfl, by simp [exC], by simp [exC]⟩, nil_row, nil_row, nil_row, fun x hx => by simp [exC] at hx⟩
set_option maxRecDepth 100000 in
set_option maxHeartbeats 4000000 in
theorem alive_calls (w : World) : Calls Tryz.prog 6 #[] w fun e w' => e = .returned (.bool true) ∧ Below w.heap.size w w' := by
  have hI : ∀ W, ExE w W → Calls Tryz.prog 7 #[.agg #[.int .u64 100, .slice (some ⟨w.heap.size, 0, none⟩) 1 1, .slice (some ⟨w.heap.size + 1, 0, none⟩) 2 2, .slice none 0 0, .slice none 0 0, .slice none 0 0]] W (WinsV [⟨0, 10, 0⟩, ⟨30, 20, 0⟩, ⟨60, 40, 0⟩] W) := fun W h => by
    have := Idle_calls (exC w.heap.size) W h.2.1 (exC_ok _) (by simp [exC]) (exC_sp _) (by rw [exC_gaps]; decide)
    rw [exC_gaps] at this
    exact this
  have hC : ∀ W, ExE w W → Calls Tryz.prog 16 #[.agg #[.int .u64 100, .slice (some ⟨w.heap.size, 0, none⟩) 1 1, .slice (some ⟨w.heap.size + 1, 0, none⟩) 2 2, .slice none 0 0, .slice none 0 0, .slice none 0 0]] W fun e w' => e = .returned (.agg #[.int .i64 0, .int .i64 0, .int .i64 0]) ∧ Below W.heap.size W w' := fun W h => by
    have := FCheck_calls (exC w.heap.size) W h.2.1 (exC_ok _) (exC_small _) (by simp [exC])
    rw [exC_check] at this
    exact this
  have hB : ∀ W, ExE w W → Calls Tryz.prog 18 #[.agg #[.int .u64 100, .slice (some ⟨w.heap.size, 0, none⟩) 1 1, .slice (some ⟨w.heap.size + 1, 0, none⟩) 2 2, .slice none 0 0, .slice none 0 0, .slice none 0 0], .int .u16 1] W fun e w' => e = .returned (.int .u64 30) ∧ Below W.heap.size W w' := fun W h => by
    have := Busy_calls (exC w.heap.size) 1 W h.2.1 (exC_small _)
    rw [exC_wo, ex_busy] at this
    exact this
  have hU : ∀ W, ExE w W → Calls Tryz.prog 13 #[.agg #[.int .u64 100, .slice (some ⟨w.heap.size, 0, none⟩) 1 1, .slice (some ⟨w.heap.size + 1, 0, none⟩) 2 2, .slice none 0 0, .slice none 0 0, .slice none 0 0], .int .u16 1, .int .u64 25, .int .u64 55] W fun e w' => e = .returned (.int .u64 10) ∧ Below W.heap.size W w' := fun W h => by
    have := Used_calls (exC w.heap.size) 1 25 55 W h.2.1 (exC_small _) (by decide)
    rw [exC_wo, ex_used] at this
    exact this
  have HI := hide hI
  have HC := hide hC
  have HB := hide hB
  have HU := hide hU
  have HE0 := hide (ExE.start w)
  have fe := fun W => fault_eql 0 0 0 0 0 0 W
  have fg := fun o x y xs ys W => fault_guard o x y xs ys W
  have nb : ((0 : Int) == 0 && ((0 : Int) == 0 && (0 : Int) == 0)) = true := by rfl
  rw [nb] at fe
  have hxc : ∀ W, ExE w W → W.cell? ⟨w.heap.size + 2, 0, none⟩ = some (.int .u64 100) ∧ W.cell? ⟨w.heap.size + 2, 1, none⟩ = some (.slice (some ⟨w.heap.size, 0, none⟩) 1 1) ∧ W.cell? ⟨w.heap.size + 2, 2, none⟩ = some (.slice (some ⟨w.heap.size + 1, 0, none⟩) 2 2) ∧ W.cell? ⟨w.heap.size + 2, 3, none⟩ = some (.slice none 0 0) ∧ W.cell? ⟨w.heap.size + 2, 4, none⟩ = some (.slice none 0 0) ∧ W.cell? ⟨w.heap.size + 2, 5, none⟩ = some (.slice none 0 0) := fun W h => cfg_cells h.2.2
  have HXC := hide hxc
  clear hI hC hB hU nb hxc
  go_enter Tryz.func6, Tryz.ntmps6
  go_wp2_with (first
    | (go_at_call 7; refine (HI.out _ HE0.out).mono ?_; rintro e w1 ⟨a1, c1, rfl, ho, hb⟩; have HE1 := hide (HE0.out.below hb); obtain ⟨g, rfl, _, hcc, _, _⟩ := own_cells winL_len ho rfl 1 (by decide); have HO1 := hide (own_base ho (Nat.zero_le _)); clear ho hb hcc; obtain ⟨b0, b1, b2, b3, b4, b5⟩ := HXC.out _ HE1.out)
    | (go_at_call 16; refine (HC.out _ HE1.out).mono ?_; rintro e w2 ⟨rfl, hb⟩; have HE2 := hide (HE1.out.below hb); have HO2 := hide (own_below HO1.out hb); clear hb; obtain ⟨b0, b1, b2, b3, b4, b5⟩ := HXC.out _ HE2.out)
    | (go_at_call 18; refine (HB.out _ HE2.out).mono ?_; rintro e w3 ⟨rfl, hb⟩; have HE3 := hide (HE2.out.below hb); have HO3 := hide (own_below HO2.out hb); clear hb; obtain ⟨b0, b1, b2, b3, b4, b5⟩ := HXC.out _ HE3.out)
    | (go_at_call 13; refine (HU.out _ HE3.out).mono ?_; rintro e w4 ⟨rfl, hb⟩; have HE4 := hide (HE3.out.below hb); obtain ⟨g', eg, _, hc2, _, hcell⟩ := own_cells winL_len (own_below HO3.out hb) rfl 1 (by decide); obtain ⟨g2, eg2, _, _, _, hcell2⟩ := own_cells winL_len (own_below HO3.out hb) rfl 2 (by decide); obtain rfl : g' = g := (by simpa using eg.symm); obtain rfl : g2 = g' := (by simpa using eg2.symm); have x1 : w4.cell? ⟨g2, 3, none⟩ = some (.int .u64 30) := hcell 0 (by omega); have x2 : w4.cell? ⟨g2, 6, none⟩ = some (.int .u64 60) := hcell2 0 (by omega); have hcI : (3 : Int) ≤ (c1 : Int) := (by have h3 : 3 ≤ c1 := hc2; omega); clear hb hcell hcell2; obtain ⟨b0, b1, b2, b3, b4, b5⟩ := HXC.out _ HE4.out))
  go_ret
  exact ⟨by rfl, HE4.out.1⟩
end Go.Proofs.YthccadabblkalaaGreat
