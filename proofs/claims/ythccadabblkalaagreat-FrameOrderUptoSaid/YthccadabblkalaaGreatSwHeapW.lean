/- The walks of the queue's methods (chapter 14). -/
import Derived.Test.YthccadabblkalaaGreatSwMem
namespace Go.Proofs.YthccadabblkalaaGreat
open Go.RowKit

/-- The last number, as the machine reckons it: two equations for the walk. -/
theorem last_wrap (lo len : Nat) : ∃ S : Int, IntKind.u64.wrap ((lo : Int) + (len : Int)) = S ∧ IntKind.u64.wrap (S - 1) = (((lo + len + 18446744073709551615) % 18446744073709551616 : Nat) : Int) := by
  refine ⟨_, rfl, ?_⟩
  simp only [IntKind.wrap, IntKind.bits, IntKind.signed]
  simp
  omega
set_option maxHeartbeats 1000000 in
theorem last_calls (lo len : Nat) (w : World) : Calls Tryz.prog 35 #[.agg #[.int .u64 (lo : Int), .int .u64 (len : Int)]] w
    fun e w' => e = .returned (.int .u64 ((lastI ⟨lo, len, 0⟩ : Nat) : Int)) ∧ Below w.heap.size w w' := by
  obtain ⟨S, e1, e2⟩ := last_wrap lo len
  obtain ⟨L, hL⟩ : ∃ L : Int, L = ((lastI ⟨lo, len, 0⟩ : Nat) : Int) := ⟨_, rfl⟩
  have e3 : IntKind.u64.wrap (S - 1) = L := by rw [e2, hL]; rfl
  rw [← hL]
  have HL := hide hL
  clear hL e2 HL
  go_enter Tryz.func35, Tryz.ntmps35
  go_wp2
  go_ret
  exact ⟨rfl, (Below.refl _ w).alloc (Nat.le_refl _) _⟩
def itA (x : Itm) : Array Value := #[.int .u64 (x.lo : Int), .int .u64 (x.len : Int), .int .i64 (x.idx : Int)]
/-- An order's contract. -/
def Order (fn : Nat) (key : Itm → Nat) : Prop := ∀ (x y : Itm) (w : World), Calls Tryz.prog fn #[.agg (itA x), .agg (itA y)] w
    fun e w' => e = .returned (.bool (decide (key x < key y))) ∧ Below w.heap.size w w'
theorem byLo_calls : Order 57 Itm.lo := by
  intro x y w
  obtain ⟨xlo, xlen, xi⟩ := x
  obtain ⟨ylo, ylen, yi⟩ := y
  show Calls Tryz.prog 57 #[.agg #[.int .u64 (xlo : Int), .int .u64 (xlen : Int), .int .i64 (xi : Int)], .agg #[.int .u64 (ylo : Int), .int .u64 (ylen : Int), .int .i64 (yi : Int)]] w _
  go_enter Tryz.func57, Tryz.ntmps57
  go_wp2
  go_ret
  exact ⟨by simp, ((Below.refl _ w).alloc (Nat.le_refl _) _).alloc (by simp) _⟩
theorem two_kept {w W W' : World} {g h : Nat} {a b c d : Value} (hb : Below W.heap.size W W') (hs : W.cell? ⟨g, 0, none⟩ = some a ∧ W.cell? ⟨g, 1, none⟩ = some b ∧ W.cell? ⟨h, 0, none⟩ = some c ∧ W.cell? ⟨h, 1, none⟩ = some d ∧ Below w.heap.size w W) :
    W'.cell? ⟨g, 0, none⟩ = some a ∧ W'.cell? ⟨g, 1, none⟩ = some b ∧ W'.cell? ⟨h, 0, none⟩ = some c ∧ W'.cell? ⟨h, 1, none⟩ = some d ∧ Below w.heap.size w W' := by
  obtain ⟨h1, h2, h3, h4, h5⟩ := hs
  exact ⟨(hb.cell (p := ⟨g, 0, none⟩) (cell_lt h1)).trans h1, (hb.cell (p := ⟨g, 1, none⟩) (cell_lt h2)).trans h2, (hb.cell (p := ⟨h, 0, none⟩) (cell_lt h3)).trans h3, (hb.cell (p := ⟨h, 1, none⟩) (cell_lt h4)).trans h4, h5.trans (hb.mono h5.size)⟩
theorem two_new (w : World) (t : TypeId) (x y : Array Value) (a b c d : Value) (hx : x[0]? = some a ∧ x[1]? = some b) (hy : y[0]? = some c ∧ y[1]? = some d) :
    ((w.alloc (.cells x t)).alloc (.cells y t)).cell? ⟨w.heap.size, 0, none⟩ = some a ∧ ((w.alloc (.cells x t)).alloc (.cells y t)).cell? ⟨w.heap.size, 1, none⟩ = some b ∧
      ((w.alloc (.cells x t)).alloc (.cells y t)).cell? ⟨w.heap.size + 1, 0, none⟩ = some c ∧ ((w.alloc (.cells x t)).alloc (.cells y t)).cell? ⟨w.heap.size + 1, 1, none⟩ = some d ∧ Below w.heap.size w ((w.alloc (.cells x t)).alloc (.cells y t)) := by
  have h1 := (Blk.new w t x).alloc (.cells y t)
  have h2 : Blk ((w.alloc (.cells x t)).alloc (.cells y t)) (w.heap.size + 1) t y := by have := Blk.new (w.alloc (.cells x t)) t y; simpa using this
  exact ⟨(h1.cell 0).trans hx.1, (h1.cell 1).trans hx.2, (h2.cell 0).trans hy.1, (h2.cell 1).trans hy.2, ((Below.refl _ w).alloc (Nat.le_refl _) _).alloc (by simp) _⟩
theorem drew5 {w W : World} {p q r s : Addr} {a b c d : Value} (h : W.cell? p = some a ∧ W.cell? q = some b ∧ W.cell? r = some c ∧ W.cell? s = some d ∧ Below w.heap.size w W) :
    W.drew.cell? p = some a ∧ W.drew.cell? q = some b ∧ W.drew.cell? r = some c ∧ W.drew.cell? s = some d ∧ Below w.heap.size w W.drew :=
  ⟨h.1, h.2.1, h.2.2.1, h.2.2.2.1, h.2.2.2.2.drew⟩
set_option maxHeartbeats 2000000 in
theorem byLast_calls : Order 58 lastI := by
  intro x y w
  obtain ⟨xlo, xlen, xi⟩ := x
  obtain ⟨ylo, ylen, yi⟩ := y
  show Calls Tryz.prog 58 #[.agg #[.int .u64 (xlo : Int), .int .u64 (xlen : Int), .int .i64 (xi : Int)], .agg #[.int .u64 (ylo : Int), .int .u64 (ylen : Int), .int .i64 (yi : Int)]] w _
  have hx := fun W => last_calls xlo xlen W
  have hy := fun W => last_calls ylo ylen W
  obtain ⟨a, ha⟩ : ∃ a, a = lastI ⟨xlo, xlen, 0⟩ := ⟨_, rfl⟩
  obtain ⟨b, hb⟩ : ∃ b, b = lastI ⟨ylo, ylen, 0⟩ := ⟨_, rfl⟩
  have ea : lastI ⟨xlo, xlen, xi⟩ = a := ha.symm
  have eb : lastI ⟨ylo, ylen, yi⟩ = b := hb.symm
  rw [← ha] at hx
  rw [← hb] at hy
  rw [ea, eb]
  have HX := hide hx
  have HY := hide hy
  have HS := hide (two_new w 81 #[.int .u64 (xlo : Int), .int .u64 (xlen : Int), .int .i64 (xi : Int)] #[.int .u64 (ylo : Int), .int .u64 (ylen : Int), .int .i64 (yi : Int)] _ _ _ _ ⟨rfl, rfl⟩ ⟨rfl, rfl⟩)
  clear hx hy ha hb ea eb
  go_enter Tryz.func58, Tryz.ntmps58
  go_wp2_with fail
  go_region_held3 (fun w' => w'.cell? ⟨w.heap.size, 0, none⟩ = some (.int .u64 (xlo : Int)) ∧ w'.cell? ⟨w.heap.size, 1, none⟩ = some (.int .u64 (xlen : Int)) ∧ w'.cell? ⟨w.heap.size + 1, 0, none⟩ = some (.int .u64 (ylo : Int)) ∧ w'.cell? ⟨w.heap.size + 1, 1, none⟩ = some (.int .u64 (ylen : Int)) ∧ Below w.heap.size w w')
    (first | assumption | exact drew5 HS.out | exact two_kept hbx (by assumption))
    (first | (go_at_call 35; ((with_reducible refine (HX.out _).mono ?_); rintro e w2 ⟨rfl, hbx⟩)) | (go_at_call 35; ((with_reducible refine (HY.out _).mono ?_); rintro e w2 ⟨rfl, hbx⟩)))
  go_wp2
  go_ret
  exact ⟨by simp, (by assumption : _ ∧ _ ∧ _ ∧ _ ∧ Below w.heap.size w _).2.2.2.2⟩
end Go.Proofs.YthccadabblkalaaGreat
