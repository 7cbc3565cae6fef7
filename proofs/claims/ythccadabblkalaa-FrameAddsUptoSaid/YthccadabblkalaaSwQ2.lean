/- The walk of the queue's Swap (chapter 14). -/
import Derived.Test.YthccadabblkalaaSwQ
namespace Go.Proofs.Ythccadabblkalaa
open Go.RowKit Go.Sort

set_option maxRecDepth 100000 in
set_option maxHeartbeats 4000000 in
theorem Swap_raw (Q g n cap i j : Nat) (x y : Itm) (w : World)
    (q0 : w.cell? ⟨Q, 0, none⟩ = some (.slice (some ⟨g, 0, none⟩) n cap))
    (p0 : w.cell? ⟨g, i * 3, none⟩ = some (.int .u64 (x.lo : Int))) (p1 : w.cell? ⟨g, i * 3 + 1, none⟩ = some (.int .u64 (x.len : Int))) (p2 : w.cell? ⟨g, i * 3 + 2, none⟩ = some (.int .i64 (x.idx : Int)))
    (r0 : w.cell? ⟨g, j * 3, none⟩ = some (.int .u64 (y.lo : Int))) (r1 : w.cell? ⟨g, j * 3 + 1, none⟩ = some (.int .u64 (y.len : Int))) (r2 : w.cell? ⟨g, j * 3 + 2, none⟩ = some (.int .i64 (y.idx : Int)))
    (hf : ∀ k, w.frozen? ⟨g, k, none⟩ = false) (hii : (i : Int) < (n : Int)) (hjj : (j : Int) < (n : Int)) (hij : i ≠ j) :
    Calls Try.prog 113 #[.pointer (some ⟨Q, 0, none⟩), .int .i64 (i : Int), .int .i64 (j : Int)] w fun e w' => e = .returned (.tuple #[]) ∧ 
      w' = ((((((w.setCell ⟨g, i * 3, none⟩ (.int .u64 (y.lo : Int))).setCell ⟨g, i * 3 + 1, none⟩ (.int .u64 (y.len : Int))).setCell ⟨g, i * 3 + 2, none⟩ (.int .i64 (y.idx : Int))).setCell ⟨g, j * 3, none⟩ (.int .u64 (x.lo : Int))).setCell ⟨g, j * 3 + 1, none⟩ (.int .u64 (x.len : Int))).setCell ⟨g, j * 3 + 2, none⟩ (.int .i64 (x.idx : Int))).drew := by
  obtain ⟨xlo, xlen, xi⟩ := x
  obtain ⟨ylo, ylen, yi⟩ := y
  simp only at p0 p1 p2 r0 r1 r2
  go_enter Try.func113, Try.ntmps113
  go_wp2_with fail
  go_region
  go_wp2
  go_end0
  exact ⟨rfl, rfl⟩

set_option maxRecDepth 100000 in
set_option maxHeartbeats 4000000 in
theorem Swap_raw1 (Q g n cap i : Nat) (x : Itm) (w : World)
    (q0 : w.cell? ⟨Q, 0, none⟩ = some (.slice (some ⟨g, 0, none⟩) n cap))
    (p0 : w.cell? ⟨g, i * 3, none⟩ = some (.int .u64 (x.lo : Int))) (p1 : w.cell? ⟨g, i * 3 + 1, none⟩ = some (.int .u64 (x.len : Int))) (p2 : w.cell? ⟨g, i * 3 + 2, none⟩ = some (.int .i64 (x.idx : Int)))
    (hf : ∀ k, w.frozen? ⟨g, k, none⟩ = false) (hii : (i : Int) < (n : Int)) :
    Calls Try.prog 113 #[.pointer (some ⟨Q, 0, none⟩), .int .i64 (i : Int), .int .i64 (i : Int)] w fun e w' => e = .returned (.tuple #[]) ∧ 
      w' = ((((((w.setCell ⟨g, i * 3, none⟩ (.int .u64 (x.lo : Int))).setCell ⟨g, i * 3 + 1, none⟩ (.int .u64 (x.len : Int))).setCell ⟨g, i * 3 + 2, none⟩ (.int .i64 (x.idx : Int))).setCell ⟨g, i * 3, none⟩ (.int .u64 (x.lo : Int))).setCell ⟨g, i * 3 + 1, none⟩ (.int .u64 (x.len : Int))).setCell ⟨g, i * 3 + 2, none⟩ (.int .i64 (x.idx : Int))).drew := by
  obtain ⟨xlo, xlen, xi⟩ := x
  simp only at p0 p1 p2
  have s0 : ∀ a b c, (((w.setCell ⟨g, i * 3, none⟩ a).setCell ⟨g, i * 3 + 1, none⟩ b).setCell ⟨g, i * 3 + 2, none⟩ c).cell? ⟨g, i * 3, none⟩ = some a := by
    intro a b c
    rw [World.cell?_setCell_other _ _ _ _ (by simp), World.cell?_setCell_other _ _ _ _ (by simp), World.cell?_setCell_same' _ _ _ (by rw [p0]; rfl)]
  have s1 : ∀ a b c, (((w.setCell ⟨g, i * 3, none⟩ a).setCell ⟨g, i * 3 + 1, none⟩ b).setCell ⟨g, i * 3 + 2, none⟩ c).cell? ⟨g, i * 3 + 1, none⟩ = some b := by
    intro a b c
    rw [World.cell?_setCell_other _ _ _ _ (by simp), World.cell?_setCell_same' _ _ _ (by rw [World.cell?_setCell_other _ _ _ _ (by simp), p1]; rfl)]
  have s2 : ∀ a b c, (((w.setCell ⟨g, i * 3, none⟩ a).setCell ⟨g, i * 3 + 1, none⟩ b).setCell ⟨g, i * 3 + 2, none⟩ c).cell? ⟨g, i * 3 + 2, none⟩ = some c := by
    intro a b c
    rw [World.cell?_setCell_same' _ _ _ (by rw [World.cell?_setCell_other _ _ _ _ (by simp), World.cell?_setCell_other _ _ _ _ (by simp), p2]; rfl)]
  go_enter Try.func113, Try.ntmps113
  go_wp2_with fail
  go_region
  go_wp2
  go_end0
  exact ⟨rfl, rfl⟩
def put3 (cs : Array Value) (i : Nat) (x : Itm) : Array Value := ((cs.setIfInBounds (i * 3) (.int .u64 (x.lo : Int))).setIfInBounds (i * 3 + 1) (.int .u64 (x.len : Int))).setIfInBounds (i * 3 + 2) (.int .i64 (x.idx : Int))
theorem put3_size (cs : Array Value) (i : Nat) (x : Itm) : (put3 cs i x).size = cs.size := by simp [put3]
theorem put3_get (cs : Array Value) (i k m : Nat) (x : Itm) (hi : i * 3 + 2 < cs.size) (hm : m < 3) : (put3 cs i x)[k * 3 + m]? = if k = i then (itL x)[m]? else cs[k * 3 + m]? := by
  unfold put3
  simp only [Array.getElem?_setIfInBounds, Array.size_setIfInBounds]
  by_cases hk : k = i
  · subst hk
    rw [if_pos rfl]
    match m, hm with
    | 0, _ => rw [if_neg (by omega), if_neg (by omega), if_pos (by omega), if_pos (by omega)]; rfl
    | 1, _ => rw [if_neg (by omega), if_pos (by omega), if_pos (by omega)]; rfl
    | 2, _ => rw [if_pos (by omega), if_pos (by omega)]; rfl
  · rw [if_neg hk, if_neg (by omega), if_neg (by omega), if_neg (by omega)]
theorem swp_get (d : Array Itm) (i j k : Nat) (hi : i < d.size) (hj : j < d.size) : (swp d i j)[k]! = if k = j then d[i]! else if k = i then d[j]! else d[k]! := by
  by_cases h1 : k = j
  · subst h1; rw [if_pos rfl, swp_right d i k hj]
  · rw [if_neg h1]
    by_cases h2 : k = i
    · subst h2; rw [if_pos rfl, swp_left d k j hi h1]
    · rw [if_neg h2, swp_other d i j k h2 h1]
theorem Swap_calls (Q fn g : Nat) (d : Array Itm) (w : World) (h : Que w Q fn (some g) d) (i j : Nat) (hi : i < d.size) (hj : j < d.size) :
    Calls Try.prog 113 #[.pointer (some ⟨Q, 0, none⟩), .int .i64 (i : Int), .int .i64 (j : Int)] w fun e w' => e = .returned (.tuple #[]) ∧
      Que w' Q fn (some g) (swp d i j) ∧ But (· = g) w w' := by
  obtain ⟨cap, hb, hc1, hc2, hn, cs, hg, hsz, hr⟩ := h
  have i0 := hr i hi
  have j0 := hr j hj
  rw [three] at i0 j0
  have hc : Calls Try.prog 113 #[.pointer (some ⟨Q, 0, none⟩), .int .i64 (i : Int), .int .i64 (j : Int)] w fun e w' => e = .returned (.tuple #[]) ∧
      w' = ((((((w.setCell ⟨g, i * 3, none⟩ (.int .u64 (d[j]!.lo : Int))).setCell ⟨g, i * 3 + 1, none⟩ (.int .u64 (d[j]!.len : Int))).setCell ⟨g, i * 3 + 2, none⟩ (.int .i64 (d[j]!.idx : Int))).setCell ⟨g, j * 3, none⟩ (.int .u64 (d[i]!.lo : Int))).setCell ⟨g, j * 3 + 1, none⟩ (.int .u64 (d[i]!.len : Int))).setCell ⟨g, j * 3 + 2, none⟩ (.int .i64 (d[i]!.idx : Int))).drew := by
    by_cases hij : i = j
    · subst hij
      exact Swap_raw1 Q g d.size cap i d[i]! w (hb.cell 0) ((hg.cell _).trans i0.1) ((hg.cell _).trans i0.2.1) ((hg.cell _).trans i0.2.2) (fun k => hg.frozen k) (by omega)
    · exact Swap_raw Q g d.size cap i j d[i]! d[j]! w (hb.cell 0) ((hg.cell _).trans i0.1) ((hg.cell _).trans i0.2.1) ((hg.cell _).trans i0.2.2) ((hg.cell _).trans j0.1) ((hg.cell _).trans j0.2.1) ((hg.cell _).trans j0.2.2) (fun k => hg.frozen k) (by omega) (by omega) hij
  refine hc.mono ?_
  rintro e w' ⟨rfl, rfl⟩
  have hQg : Q ≠ g := fun e => hn e.symm
  have hb2 := (((((((But.refl (· = g) w).setCell (p := ⟨g, i * 3, none⟩) (.inl rfl) (.int .u64 (d[j]!.lo : Int))).setCell (p := ⟨g, i * 3 + 1, none⟩) (.inl rfl) (.int .u64 (d[j]!.len : Int))).setCell (p := ⟨g, i * 3 + 2, none⟩) (.inl rfl) (.int .i64 (d[j]!.idx : Int))).setCell (p := ⟨g, j * 3, none⟩) (.inl rfl) (.int .u64 (d[i]!.lo : Int))).setCell (p := ⟨g, j * 3 + 1, none⟩) (.inl rfl) (.int .u64 (d[i]!.len : Int))).setCell (p := ⟨g, j * 3 + 2, none⟩) (.inl rfl) (.int .i64 (d[i]!.idx : Int))).drew
  have hg2 := ((((((hg.set_ (i * 3) (.int .u64 (d[j]!.lo : Int))).set_ (i * 3 + 1) (.int .u64 (d[j]!.len : Int))).set_ (i * 3 + 2) (.int .i64 (d[j]!.idx : Int))).set_ (j * 3) (.int .u64 (d[i]!.lo : Int))).set_ (j * 3 + 1) (.int .u64 (d[i]!.len : Int))).set_ (j * 3 + 2) (.int .i64 (d[i]!.idx : Int))).drew
  refine ⟨rfl, ⟨cap, ?_, by rw [size_swp]; exact hc1, hc2, hn, put3 (put3 cs i d[j]!) j d[i]!, hg2, by rw [put3_size, put3_size, hsz], ?_⟩, hb2⟩
  · rw [size_swp]
    exact hb2.blk hb hQg
  · intro k hk m hm
    rw [size_swp] at hk
    rw [put3_get _ j k m _ (by rw [put3_size]; omega) hm, put3_get _ i k m _ (by omega) hm, swp_get d i j k hi hj]
    by_cases h1 : k = j
    · rw [if_pos h1, if_pos h1]
    · rw [if_neg h1, if_neg h1]
      by_cases h2 : k = i
      · rw [if_pos h2, if_pos h2]
      · rw [if_neg h2, if_neg h2]; exact hr k hk m hm
end Go.Proofs.Ythccadabblkalaa
