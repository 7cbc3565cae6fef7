/- The walks of the queue's methods Len, Less, Swap (chapter 14). -/
import Derived.Test.YthccadabblkalaaSwHeapW
namespace Go.Proofs.Ythccadabblkalaa
open Go.RowKit

theorem Len_calls (Q fn : Nat) (R : Option Nat) (d : Array Itm) (w : World) (h : Que w Q fn R d) :
    Calls Try.prog 66 #[.pointer (some ⟨Q, 0, none⟩)] w fun e w' => e = .returned (.int .i64 (d.size : Int)) ∧ w = w' := by
  obtain ⟨cap, hb, _, _, _⟩ := h
  have c0 : w.cell? ⟨Q, 0, none⟩ = some (.slice (R.map fun g => ⟨g, 0, none⟩) d.size cap) := hb.cell 0
  clear hb
  generalize R.map (fun g => (⟨g, 0, none⟩ : Addr)) = ra at *
  generalize d.size = n at *
  go_enter Try.func66, Try.ntmps66
  go_wp2
  go_ret
  exact ⟨rfl, rfl⟩
set_option maxHeartbeats 2000000 in
set_option maxRecDepth 100000 in
theorem Less_calls (Q fn g : Nat) (key : Itm → Nat) (d : Array Itm) (w : World) (h : Que w Q fn (some g) d) (hf : (fn = 62 ∧ key = Itm.lo) ∨ (fn = 63 ∧ key = lastI))
    (i j : Nat) (hi : i < d.size) (hj : j < d.size) :
    Calls Try.prog 111 #[.pointer (some ⟨Q, 0, none⟩), .int .i64 (i : Int), .int .i64 (j : Int)] w fun e w' => e = .returned (.bool (decide (key d[i]! < key d[j]!))) ∧ Below w.heap.size w w' := by
  obtain ⟨cap, hb, hc1, hc2, hn, cs, hg, hsz, hr⟩ := h
  have i0 := hr i hi
  have j0 := hr j hj
  rw [three] at i0 j0
  obtain ⟨x, hx⟩ : ∃ x, x = d[i]! := ⟨_, rfl⟩
  obtain ⟨y, hy⟩ : ∃ y, y = d[j]! := ⟨_, rfl⟩
  rw [← hx] at i0 ⊢
  rw [← hy] at j0 ⊢
  clear hx hy
  obtain ⟨a1, a2, a3⟩ := i0
  obtain ⟨b1, b2, b3⟩ := j0
  obtain ⟨xlo, xlen, xi⟩ := x
  obtain ⟨ylo, ylen, yi⟩ := y
  have q0 : w.cell? ⟨Q, 0, none⟩ = some (.slice (some ⟨g, 0, none⟩) d.size cap) := hb.cell 0
  have q1 : w.cell? ⟨Q, 1, none⟩ = some (.func (.func fn) #[] #[]) := hb.cell 1
  have p0 : w.cell? ⟨g, i * 3, none⟩ = some (.int .u64 (xlo : Int)) := (hg.cell _).trans a1
  have p1 : w.cell? ⟨g, i * 3 + 1, none⟩ = some (.int .u64 (xlen : Int)) := (hg.cell _).trans a2
  have p2 : w.cell? ⟨g, i * 3 + 2, none⟩ = some (.int .i64 (xi : Int)) := (hg.cell _).trans a3
  have r0 : w.cell? ⟨g, j * 3, none⟩ = some (.int .u64 (ylo : Int)) := (hg.cell _).trans b1
  have r1 : w.cell? ⟨g, j * 3 + 1, none⟩ = some (.int .u64 (ylen : Int)) := (hg.cell _).trans b2
  have r2 : w.cell? ⟨g, j * 3 + 2, none⟩ = some (.int .i64 (yi : Int)) := (hg.cell _).trans b3
  have hii : (i : Int) < (d.size : Int) := by omega
  have hjj : (j : Int) < (d.size : Int) := by omega
  generalize d.size = n at *
  have hL : fn = 62 ∧ key = Itm.lo ∨ fn = 63 ∧ key = lastI := hf
  clear hb hg hr a1 a2 a3 b1 b2 b3 hsz hf hi hj hc1 hc2
  rcases hL with ⟨rfl, rfl⟩ | ⟨rfl, rfl⟩
  · have HL := hide (byLo_calls ⟨xlo, xlen, xi⟩ ⟨ylo, ylen, yi⟩)
    go_enter Try.func111, Try.ntmps111
    go_wp2_with fail
    go_still_tail 18, (by kernel_rfl)
    change wpList _ _ _ _ _ w.drew
    generalize hw2 : w.drew = w2
    have hb2 : Below w.heap.size w w2 := by rw [← hw2]; exact (Below.refl _ w).drew
    have hs2 : w2.heap.size = w.heap.size := by rw [← hw2]; rfl
    go_wp2_with (go_at_call 62; refine (HL.out _).mono ?_; rintro e w3 ⟨rfl, hb3⟩)
    go_ret
    exact ⟨rfl, hb2.trans (by rw [← hs2]; exact hb3)⟩
  · have HL := hide (byLast_calls ⟨xlo, xlen, xi⟩ ⟨ylo, ylen, yi⟩)
    go_enter Try.func111, Try.ntmps111
    go_wp2_with fail
    go_still_tail 18, (by kernel_rfl)
    change wpList _ _ _ _ _ w.drew
    generalize hw2 : w.drew = w2
    have hb2 : Below w.heap.size w w2 := by rw [← hw2]; exact (Below.refl _ w).drew
    have hs2 : w2.heap.size = w.heap.size := by rw [← hw2]; rfl
    go_wp2_with (go_at_call 63; refine (HL.out _).mono ?_; rintro e w3 ⟨rfl, hb3⟩)
    go_ret
    exact ⟨rfl, hb2.trans (by rw [← hs2]; exact hb3)⟩
end Go.Proofs.Ythccadabblkalaa
