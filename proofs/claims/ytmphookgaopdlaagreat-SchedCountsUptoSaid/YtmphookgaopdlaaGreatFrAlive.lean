/- The example of chapter 15 holds; equality of faults. -/
import Derived.Test.YtmphookgaopdlaaGreatFrIdle
import Derived.Test.YtmphookgaopdlaaGreatFrRef4
import Derived.Stop.BytesEq
namespace Go.Proofs.YtmphookgaopdlaaGreat
open Go.RowKit Go.Sort
set_option linter.unusedVariables false

theorem fault_eql (c i j c2 i2 j2 : Int) (w : World) : (binOp .eql 68 (.agg #[.int .i64 c, .int .i64 i, .int .i64 j]) (.agg #[.int .i64 c2, .int .i64 i2, .int .i64 j2])).run Tryz.prog w = .ok (.bool (c == c2 && (i == i2 && j == j2))) w := by
  have hf : Tryz.prog.underlying 68 = some (.struct (Tryz.prog.fieldsOf 68)) := by kernel_rfl
  have hp : Tryz.prog.stoodInHeld 68 = false := by kernel_rfl
  rw [run_eql_struct, run_equalIn_agg w 9999 _ _ _ hf hp]
  unfold Program.fieldsOf
  rw [Tryz.underlying68]
  simp [Op.eqFields, part, run_equalIn_int]
  by_cases h1 : c = c2 <;> by_cases h2 : i = i2 <;> by_cases h3 : j = j2 <;> simp [h1, h2, h3]
theorem fault_guard (o : BinOp) (x y : Operand) (xs ys : Array Value) (w : World) : (eqGuard o 68 x y (.agg xs) (.agg ys)).run Tryz.prog w = .ok () w :=
  run_eqGuard_agg w _ _ _ _ _ _ (by kernel_rfl)
def exC (B : Nat) : Cfg := ⟨100, ⟨[⟨1, ⟨#[97]⟩, 0, 0⟩], some ⟨B, 0, none⟩, 1⟩, ⟨[⟨50, 10, 1⟩, ⟨10, 20, 1⟩], some ⟨B + 1, 0, none⟩, 2⟩, ⟨[], none, 0⟩, ⟨[], none, 0⟩, ⟨[], none, 0⟩⟩
theorem exC_check (B : Nat) : checkR (exC B) = (0, 0, 0) := by rfl
theorem exC_wo (B : Nat) : wo (exC B).wins.l 1 = [(50, 60), (10, 30)] := by show wo [⟨50, 10, 1⟩, ⟨10, 20, 1⟩] 1 = _; decide +kernel
theorem ex_busy : busyL [(50, 60), (10, 30)] = 30 := by decide +kernel
theorem ex_used : usedL 25 55 [(50, 60), (10, 30)] = 10 := by decide +kernel
theorem exC_gaps (B : Nat) : gapsR (exC B).frame ((exC B).wins.l.map wsp) = [(0, 10), (30, 20), (60, 40)] := by show gapsR 100 [(50, 10), (10, 20)] = _; decide +kernel
theorem exC_ok (B : Nat) : (exC B).Ok := by
  refine ⟨by simp [exC], ?_, ?_, ?_, ?_, ?_⟩
  · intro x hx; simp [exC] at hx; subst hx; exact ⟨by decide, by decide, by decide, by decide⟩
  · intro x hx; simp [exC] at hx; rcases hx with rfl | rfl <;> exact ⟨by decide, by decide, by decide⟩
  · intro x hx; simp [exC] at hx
  · intro x hx; simp [exC] at hx
  · intro x hx; simp [exC] at hx
theorem exC_sp (B : Nat) : ∀ s ∈ (exC B).wins.l.map wsp, okSpan s := by
  intro s hs; simp [exC, wsp] at hs; rcases hs with rfl | rfl <;> exact ⟨by decide, by decide⟩
theorem exC_small (B : Nat) : (exC B).Small := by unfold Cfg.Small; simp [exC, linksN]
/-- The example in memory. -/
def ExE (w W : World) : Prop := Below w.heap.size w W ∧ CfgAt W.heap.size (exC w.heap.size) W ∧ Blk W (w.heap.size + 2) 29 #[.int .u64 100, .slice (some ⟨w.heap.size, 0, none⟩) 1 1, .slice (some ⟨w.heap.size + 1, 0, none⟩) 2 2, .slice none 0 0, .slice none 0 0, .slice none 0 0]
theorem ExE.below {w W W' : World} (h : ExE w W) (hb : Below W.heap.size W W') : ExE w W' := ⟨h.1.trans (hb.mono h.1.size), CfgAt.more (h.2.1.below hb) hb.size, h.2.2.below hb h.2.2.lt⟩
theorem nil_row {α : Type} {enc : α → List Value} {k B : Nat} {w : World} : RowAt enc k B ⟨[], none, 0⟩ w := ⟨⟨by simp, fun h => absurd h (by simp)⟩, Nat.le_refl _, Nat.zero_le _⟩
theorem reads_blk {w : World} {g B size n : Nat} {t : TypeId} {cs : Array Value} {xs : List Value} (h : Blk w g t cs) (hB : g < B) (hx : cs.toList = xs) (hl : xs.length = n * size) : Reads w B size (some ⟨g, 0, none⟩) n xs :=
  ⟨hl, fun _ => ⟨_, rfl, hB, fun j u hu => by rw [addr_plain, Nat.zero_add, h.cell, ← Array.getElem?_toList, hx]; exact hu⟩⟩
theorem ExE.start (w : World) : ExE w (((w.alloc (.cells #[.int .u16 1, .string ⟨#[97]⟩, .int .u64 0, .int .u64 0] 53)).alloc (.cells #[.int .u64 50, .int .u64 10, .int .u16 1, .int .u64 10, .int .u64 20, .int .u16 1] 38)).alloc (.cells #[.int .u64 100, .slice (some ⟨w.heap.size, 0, none⟩) 1 1, .slice (some ⟨w.heap.size + 1, 0, none⟩) 2 2, .slice none 0 0, .slice none 0 0, .slice none 0 0] 29)) := by
  have h1 := ((Blk.new w 53 #[.int .u16 1, .string ⟨#[97]⟩, .int .u64 0, .int .u64 0]).alloc (.cells #[.int .u64 50, .int .u64 10, .int .u16 1, .int .u64 10, .int .u64 20, .int .u16 1] 38)).alloc (.cells #[.int .u64 100, .slice (some ⟨w.heap.size, 0, none⟩) 1 1, .slice (some ⟨w.heap.size + 1, 0, none⟩) 2 2, .slice none 0 0, .slice none 0 0, .slice none 0 0] 29)
  have h2 := (Blk.new (w.alloc (.cells #[.int .u16 1, .string ⟨#[97]⟩, .int .u64 0, .int .u64 0] 53)) 38 #[.int .u64 50, .int .u64 10, .int .u16 1, .int .u64 10, .int .u64 20, .int .u16 1]).alloc (.cells #[.int .u64 100, .slice (some ⟨w.heap.size, 0, none⟩) 1 1, .slice (some ⟨w.heap.size + 1, 0, none⟩) 2 2, .slice none 0 0, .slice none 0 0, .slice none 0 0] 29)
  have h3 := Blk.new ((w.alloc (.cells #[.int .u16 1, .string ⟨#[97]⟩, .int .u64 0, .int .u64 0] 53)).alloc (.cells #[.int .u64 50, .int .u64 10, .int .u16 1, .int .u64 10, .int .u64 20, .int .u16 1] 38)) 29 #[.int .u64 100, .slice (some ⟨w.heap.size, 0, none⟩) 1 1, .slice (some ⟨w.heap.size + 1, 0, none⟩) 2 2, .slice none 0 0, .slice none 0 0, .slice none 0 0]
  simp only [World.size_alloc, Nat.add_assoc, Nat.reduceAdd] at h2 h3
  refine ⟨(((Below.refl _ w).alloc (Nat.le_refl _) _).alloc (by simp) _).alloc (by simp; omega) _, ?_, h3⟩
  refine ⟨⟨reads_blk h1 h1.lt rfl rfl, by simp [exC], by simp [exC]⟩, ⟨reads_blk h2 h2.lt rfl rfl, by simp [exC], by simp [exC]⟩, nil_row, nil_row, nil_row, fun x hx => by simp [exC] at hx⟩
end Go.Proofs.YtmphookgaopdlaaGreat
