/- The walks of the queue's methods Len, Less, Swap (chapter 14). The walk of the queue's Swap (chapter 14). The walks of the queue's Push and Pop (chapter 14). -/
import Derived.Test.YthccadabblkalaaGreatSwHeapW
import Derived.Deep.AppendLies
import Derived.Deep.RegionLaw
namespace Go.Proofs.YthccadabblkalaaGreat
open Go.RowKit

theorem Len_calls (Q fn : Nat) (R : Option Nat) (d : Array Itm) (w : World) (h : Que w Q fn R d) :
    Calls Tryz.prog 61 #[.pointer (some ⟨Q, 0, none⟩)] w fun e w' => e = .returned (.int .i64 (d.size : Int)) ∧ w = w' := by
  obtain ⟨cap, hb, _, _, _⟩ := h
  have c0 : w.cell? ⟨Q, 0, none⟩ = some (.slice (R.map fun g => ⟨g, 0, none⟩) d.size cap) := hb.cell 0
  clear hb
  generalize R.map (fun g => (⟨g, 0, none⟩ : Addr)) = ra at *
  generalize d.size = n at *
  go_enter Tryz.func61, Tryz.ntmps61
  go_wp2
  go_ret
  exact ⟨rfl, rfl⟩
set_option maxHeartbeats 2000000 in
set_option maxRecDepth 100000 in
theorem Less_calls (Q fn g : Nat) (key : Itm → Nat) (d : Array Itm) (w : World) (h : Que w Q fn (some g) d) (hf : (fn = 57 ∧ key = Itm.lo) ∨ (fn = 58 ∧ key = lastI))
    (i j : Nat) (hi : i < d.size) (hj : j < d.size) :
    Calls Tryz.prog 129 #[.pointer (some ⟨Q, 0, none⟩), .int .i64 (i : Int), .int .i64 (j : Int)] w fun e w' => e = .returned (.bool (decide (key d[i]! < key d[j]!))) ∧ Below w.heap.size w w' := by
  obtain ⟨cap, hb, hc1, hc2, hn, cs, hg, hsz, hr⟩ := h
  have i0 := hr i hi
  have j0 := hr j hj
  rw [three] at i0 j0
  obtain ⟨x, hx⟩ : ∃ x, x = d[i]! := ⟨_, rfl⟩
  obtain ⟨y, hy⟩ : ∃ y, y = d[j]! := ⟨_, rfl⟩
  rw [← hx] at i0 ⊢
  rw [← hy] at j0 ⊢
  clear hx hy
  obtain ⟨a1, a2, a3⟩ := i0
  obtain ⟨b1, b2, b3⟩ := j0
  obtain ⟨xlo, xlen, xi⟩ := x
  obtain ⟨ylo, ylen, yi⟩ := y
  have q0 : w.cell? ⟨Q, 0, none⟩ = some (.slice (some ⟨g, 0, none⟩) d.size cap) := hb.cell 0
  have q1 : w.cell? ⟨Q, 1, none⟩ = some (.func (.func fn) #[] #[]) := hb.cell 1
  have p0 : w.cell? ⟨g, i * 3, none⟩ = some (.int .u64 (xlo : Int)) := (hg.cell _).trans a1
  have p1 : w.cell? ⟨g, i * 3 + 1, none⟩ = some (.int .u64 (xlen : Int)) := (hg.cell _).trans a2
  have p2 : w.cell? ⟨g, i * 3 + 2, none⟩ = some (.int .i64 (xi : Int)) := (hg.cell _).trans a3
  have r0 : w.cell? ⟨g, j * 3, none⟩ = some (.int .u64 (ylo : Int)) := (hg.cell _).trans b1
  have r1 : w.cell? ⟨g, j * 3 + 1, none⟩ = some (.int .u64 (ylen : Int)) := (hg.cell _).trans b2
  have r2 : w.cell? ⟨g, j * 3 + 2, none⟩ = some (.int .i64 (yi : Int)) := (hg.cell _).trans b3
  have hii : (i : Int) < (d.size : Int) := by omega
  have hjj : (j : Int) < (d.size : Int) := by omega
  generalize d.size = n at *
  have hL : fn = 57 ∧ key = Itm.lo ∨ fn = 58 ∧ key = lastI := hf
  clear hb hg hr a1 a2 a3 b1 b2 b3 hsz hf hi hj hc1 hc2
  rcases hL with ⟨rfl, rfl⟩ | ⟨rfl, rfl⟩
  · have HL := hide (byLo_calls ⟨xlo, xlen, xi⟩ ⟨ylo, ylen, yi⟩)
    go_enter Tryz.func129, Tryz.ntmps129
    go_wp2_with fail
    go_still_tail 18, (by kernel_rfl)
    change wpList _ _ _ _ _ w.drew
    generalize hw2 : w.drew = w2
    have hb2 : Below w.heap.size w w2 := by rw [← hw2]; exact (Below.refl _ w).drew
    have hs2 : w2.heap.size = w.heap.size := by rw [← hw2]; rfl
    go_wp2_with (go_at_call 57; refine (HL.out _).mono ?_; rintro e w3 ⟨rfl, hb3⟩)
    go_ret
    exact ⟨rfl, hb2.trans (by rw [← hs2]; exact hb3)⟩
  · have HL := hide (byLast_calls ⟨xlo, xlen, xi⟩ ⟨ylo, ylen, yi⟩)
    go_enter Tryz.func129, Tryz.ntmps129
    go_wp2_with fail
    go_still_tail 18, (by kernel_rfl)
    change wpList _ _ _ _ _ w.drew
    generalize hw2 : w.drew = w2
    have hb2 : Below w.heap.size w w2 := by rw [← hw2]; exact (Below.refl _ w).drew
    have hs2 : w2.heap.size = w.heap.size := by rw [← hw2]; rfl
    go_wp2_with (go_at_call 58; refine (HL.out _).mono ?_; rintro e w3 ⟨rfl, hb3⟩)
    go_ret
    exact ⟨rfl, hb2.trans (by rw [← hs2]; exact hb3)⟩
end Go.Proofs.YthccadabblkalaaGreat
namespace Go.Proofs.YthccadabblkalaaGreat
open Go.RowKit Go.Sort

set_option maxRecDepth 100000 in
set_option maxHeartbeats 4000000 in
theorem Swap_raw (Q g n cap i j : Nat) (x y : Itm) (w : World)
    (q0 : w.cell? ⟨Q, 0, none⟩ = some (.slice (some ⟨g, 0, none⟩) n cap))
    (p0 : w.cell? ⟨g, i * 3, none⟩ = some (.int .u64 (x.lo : Int))) (p1 : w.cell? ⟨g, i * 3 + 1, none⟩ = some (.int .u64 (x.len : Int))) (p2 : w.cell? ⟨g, i * 3 + 2, none⟩ = some (.int .i64 (x.idx : Int)))
    (r0 : w.cell? ⟨g, j * 3, none⟩ = some (.int .u64 (y.lo : Int))) (r1 : w.cell? ⟨g, j * 3 + 1, none⟩ = some (.int .u64 (y.len : Int))) (r2 : w.cell? ⟨g, j * 3 + 2, none⟩ = some (.int .i64 (y.idx : Int)))
    (hf : ∀ k, w.frozen? ⟨g, k, none⟩ = false) (hii : (i : Int) < (n : Int)) (hjj : (j : Int) < (n : Int)) (hij : i ≠ j) :
    Calls Tryz.prog 131 #[.pointer (some ⟨Q, 0, none⟩), .int .i64 (i : Int), .int .i64 (j : Int)] w fun e w' => e = .returned (.tuple #[]) ∧ 
      w' = ((((((w.setCell ⟨g, i * 3, none⟩ (.int .u64 (y.lo : Int))).setCell ⟨g, i * 3 + 1, none⟩ (.int .u64 (y.len : Int))).setCell ⟨g, i * 3 + 2, none⟩ (.int .i64 (y.idx : Int))).setCell ⟨g, j * 3, none⟩ (.int .u64 (x.lo : Int))).setCell ⟨g, j * 3 + 1, none⟩ (.int .u64 (x.len : Int))).setCell ⟨g, j * 3 + 2, none⟩ (.int .i64 (x.idx : Int))).drew := by
  obtain ⟨xlo, xlen, xi⟩ := x
  obtain ⟨ylo, ylen, yi⟩ := y
  simp only at p0 p1 p2 r0 r1 r2
  go_enter Tryz.func131, Tryz.ntmps131
  go_wp2_with fail
  go_region
  go_wp2
  go_end0
  exact ⟨rfl, rfl⟩

set_option maxRecDepth 100000 in
set_option maxHeartbeats 4000000 in
theorem Swap_raw1 (Q g n cap i : Nat) (x : Itm) (w : World)
    (q0 : w.cell? ⟨Q, 0, none⟩ = some (.slice (some ⟨g, 0, none⟩) n cap))
    (p0 : w.cell? ⟨g, i * 3, none⟩ = some (.int .u64 (x.lo : Int))) (p1 : w.cell? ⟨g, i * 3 + 1, none⟩ = some (.int .u64 (x.len : Int))) (p2 : w.cell? ⟨g, i * 3 + 2, none⟩ = some (.int .i64 (x.idx : Int)))
    (hf : ∀ k, w.frozen? ⟨g, k, none⟩ = false) (hii : (i : Int) < (n : Int)) :
    Calls Tryz.prog 131 #[.pointer (some ⟨Q, 0, none⟩), .int .i64 (i : Int), .int .i64 (i : Int)] w fun e w' => e = .returned (.tuple #[]) ∧ 
      w' = ((((((w.setCell ⟨g, i * 3, none⟩ (.int .u64 (x.lo : Int))).setCell ⟨g, i * 3 + 1, none⟩ (.int .u64 (x.len : Int))).setCell ⟨g, i * 3 + 2, none⟩ (.int .i64 (x.idx : Int))).setCell ⟨g, i * 3, none⟩ (.int .u64 (x.lo : Int))).setCell ⟨g, i * 3 + 1, none⟩ (.int .u64 (x.len : Int))).setCell ⟨g, i * 3 + 2, none⟩ (.int .i64 (x.idx : Int))).drew := by
  obtain ⟨xlo, xlen, xi⟩ := x
  simp only at p0 p1 p2
  have s0 : ∀ a b c, (((w.setCell ⟨g, i * 3, none⟩ a).setCell ⟨g, i * 3 + 1, none⟩ b).setCell ⟨g, i * 3 + 2, none⟩ c).cell? ⟨g, i * 3, none⟩ = some a := by
    intro a b c
    rw [World.cell?_setCell_other _ _ _ _ (by simp), World.cell?_setCell_other _ _ _ _ (by simp), World.cell?_setCell_same' _ _ _ (by rw [p0]; rfl)]
  have s1 : ∀ a b c, (((w.setCell ⟨g, i * 3, none⟩ a).setCell ⟨g, i * 3 + 1, none⟩ b).setCell ⟨g, i * 3 + 2, none⟩ c).cell? ⟨g, i * 3 + 1, none⟩ = some b := by
    intro a b c
    rw [World.cell?_setCell_other _ _ _ _ (by simp), World.cell?_setCell_same' _ _ _ (by rw [World.cell?_setCell_other _ _ _ _ (by simp), p1]; rfl)]
  have s2 : ∀ a b c, (((w.setCell ⟨g, i * 3, none⟩ a).setCell ⟨g, i * 3 + 1, none⟩ b).setCell ⟨g, i * 3 + 2, none⟩ c).cell? ⟨g, i * 3 + 2, none⟩ = some c := by
    intro a b c
    rw [World.cell?_setCell_same' _ _ _ (by rw [World.cell?_setCell_other _ _ _ _ (by simp), World.cell?_setCell_other _ _ _ _ (by simp), p2]; rfl)]
  go_enter Tryz.func131, Tryz.ntmps131
  go_wp2_with fail
  go_region
  go_wp2
  go_end0
  exact ⟨rfl, rfl⟩
def put3 (cs : Array Value) (i : Nat) (x : Itm) : Array Value := ((cs.setIfInBounds (i * 3) (.int .u64 (x.lo : Int))).setIfInBounds (i * 3 + 1) (.int .u64 (x.len : Int))).setIfInBounds (i * 3 + 2) (.int .i64 (x.idx : Int))
theorem put3_size (cs : Array Value) (i : Nat) (x : Itm) : (put3 cs i x).size = cs.size := by simp [put3]
theorem put3_get (cs : Array Value) (i k m : Nat) (x : Itm) (hi : i * 3 + 2 < cs.size) (hm : m < 3) : (put3 cs i x)[k * 3 + m]? = if k = i then (itL x)[m]? else cs[k * 3 + m]? := by
  unfold put3
  simp only [Array.getElem?_setIfInBounds, Array.size_setIfInBounds]
  by_cases hk : k = i
  · subst hk
    rw [if_pos rfl]
    match m, hm with
    | 0, _ => rw [if_neg (by omega), if_neg (by omega), if_pos (by omega), if_pos (by omega)]; rfl
    | 1, _ => rw [if_neg (by omega), if_pos (by omega), if_pos (by omega)]; rfl
    | 2, _ => rw [if_pos (by omega), if_pos (by omega)]; rfl
  · rw [if_neg hk, if_neg (by omega), if_neg (by omega), if_neg (by omega)]
theorem swp_get (d : Array Itm) (i j k : Nat) (hi : i < d.size) (hj : j < d.size) : (swp d i j)[k]! = if k = j then d[i]! else if k = i then d[j]! else d[k]! := by
  by_cases h1 : k = j
  · subst h1; rw [if_pos rfl, swp_right d i k hj]
  · rw [if_neg h1]
    by_cases h2 : k = i
    · subst h2; rw [if_pos rfl, swp_left d k j hi h1]
    · rw [if_neg h2, swp_other d i j k h2 h1]
theorem Swap_calls (Q fn g : Nat) (d : Array Itm) (w : World) (h : Que w Q fn (some g) d) (i j : Nat) (hi : i < d.size) (hj : j < d.size) :
    Calls Tryz.prog 131 #[.pointer (some ⟨Q, 0, none⟩), .int .i64 (i : Int), .int .i64 (j : Int)] w fun e w' => e = .returned (.tuple #[]) ∧
      Que w' Q fn (some g) (swp d i j) ∧ But (· = g) w w' := by
  obtain ⟨cap, hb, hc1, hc2, hn, cs, hg, hsz, hr⟩ := h
  have i0 := hr i hi
  have j0 := hr j hj
  rw [three] at i0 j0
  have hc : Calls Tryz.prog 131 #[.pointer (some ⟨Q, 0, none⟩), .int .i64 (i : Int), .int .i64 (j : Int)] w fun e w' => e = .returned (.tuple #[]) ∧
      w' = ((((((w.setCell ⟨g, i * 3, none⟩ (.int .u64 (d[j]!.lo : Int))).setCell ⟨g, i * 3 + 1, none⟩ (.int .u64 (d[j]!.len : Int))).setCell ⟨g, i * 3 + 2, none⟩ (.int .i64 (d[j]!.idx : Int))).setCell ⟨g, j * 3, none⟩ (.int .u64 (d[i]!.lo : Int))).setCell ⟨g, j * 3 + 1, none⟩ (.int .u64 (d[i]!.len : Int))).setCell ⟨g, j * 3 + 2, none⟩ (.int .i64 (d[i]!.idx : Int))).drew := by
    by_cases hij : i = j
    · subst hij
      exact Swap_raw1 Q g d.size cap i d[i]! w (hb.cell 0) ((hg.cell _).trans i0.1) ((hg.cell _).trans i0.2.1) ((hg.cell _).trans i0.2.2) (fun k => hg.frozen k) (by omega)
    · exact Swap_raw Q g d.size cap i j d[i]! d[j]! w (hb.cell 0) ((hg.cell _).trans i0.1) ((hg.cell _).trans i0.2.1) ((hg.cell _).trans i0.2.2) ((hg.cell _).trans j0.1) ((hg.cell _).trans j0.2.1) ((hg.cell _).trans j0.2.2) (fun k => hg.frozen k) (by omega) (by omega) hij
  refine hc.mono ?_
  rintro e w' ⟨rfl, rfl⟩
  have hQg : Q ≠ g := fun e => hn e.symm
  have hb2 := (((((((But.refl (· = g) w).setCell (p := ⟨g, i * 3, none⟩) (.inl rfl) (.int .u64 (d[j]!.lo : Int))).setCell (p := ⟨g, i * 3 + 1, none⟩) (.inl rfl) (.int .u64 (d[j]!.len : Int))).setCell (p := ⟨g, i * 3 + 2, none⟩) (.inl rfl) (.int .i64 (d[j]!.idx : Int))).setCell (p := ⟨g, j * 3, none⟩) (.inl rfl) (.int .u64 (d[i]!.lo : Int))).setCell (p := ⟨g, j * 3 + 1, none⟩) (.inl rfl) (.int .u64 (d[i]!.len : Int))).setCell (p := ⟨g, j * 3 + 2, none⟩) (.inl rfl) (.int .i64 (d[i]!.idx : Int))).drew
  have hg2 := ((((((hg.set_ (i * 3) (.int .u64 (d[j]!.lo : Int))).set_ (i * 3 + 1) (.int .u64 (d[j]!.len : Int))).set_ (i * 3 + 2) (.int .i64 (d[j]!.idx : Int))).set_ (j * 3) (.int .u64 (d[i]!.lo : Int))).set_ (j * 3 + 1) (.int .u64 (d[i]!.len : Int))).set_ (j * 3 + 2) (.int .i64 (d[i]!.idx : Int))).drew
  refine ⟨rfl, ⟨cap, ?_, by rw [size_swp]; exact hc1, hc2, hn, put3 (put3 cs i d[j]!) j d[i]!, hg2, by rw [put3_size, put3_size, hsz], ?_⟩, hb2⟩
  · rw [size_swp]
    exact hb2.blk hb hQg
  · intro k hk m hm
    rw [size_swp] at hk
    rw [put3_get _ j k m _ (by rw [put3_size]; omega) hm, put3_get _ i k m _ (by omega) hm, swp_get d i j k hi hj]
    by_cases h1 : k = j
    · rw [if_pos h1, if_pos h1]
    · rw [if_neg h1, if_neg h1]
      by_cases h2 : k = i
      · rw [if_pos h2, if_pos h2]
      · rw [if_neg h2, if_neg h2]; exact hr k hk m hm
end Go.Proofs.YthccadabblkalaaGreat
namespace Go.Proofs.YthccadabblkalaaGreat
open Go.RowKit Go.Sort

theorem item_info3 : (Tryz.prog.info? 81).map (fun i => (i.zero, i.size, i.bytes)) = some (some (.agg #[.int .u64 0, .int .u64 0, .int .i64 0]), 3, 24) := by kernel_rfl
theorem own_row {w : World} {base : Nat} {e : TypeId} {size g n cap : Nat} {xs : List Value} (h : w.ownsRow base e size (.slice (some ⟨g, 0, none⟩) n cap) n xs) :
    ∃ cs, Blk w g e cs ∧ cs.size = cap * size ∧ n ≤ cap ∧ cap ≤ maxLen ∧ cs.toList.take (n * size) = xs := by
  rcases h.2 with ⟨h0, _⟩ | ⟨g', cap', cur, hv, hb, hg, h1, h2, h3, h4⟩
  · cases h0
  · injection hv with e1 e2 e3
    injection e1 with e1
    injection e1 with e1
    subst e1 e3
    exact ⟨cur, hg, h3, h1, h2, h4⟩
section
variable {w : World} {Q fn : Nat} {R : Option Nat} {d : Array Itm}
theorem Que.own (h : Que w Q fn R d) : ∃ cap, Blk w Q 125 #[.slice (R.map fun g => ⟨g, 0, none⟩) d.size cap, .func (.func fn) #[] #[]] ∧
    w.ownsRow 0 81 3 (.slice (R.map fun g => ⟨g, 0, none⟩) d.size cap) d.size (d.toList.flatMap itL) ∧ (Value.slice (R.map fun g => ⟨g, 0, none⟩) d.size cap).ownBlock = R ∧ R ≠ some Q := by
  obtain ⟨cap, hb, h1, h2, h3⟩ := h
  have hl : (d.toList.flatMap itL).length = d.size * 3 := (flat_len itL 3 itL_len d.toList).trans (by rw [Array.length_toList])
  refine ⟨cap, hb, ?_⟩
  cases R with
  | none =>
    subst h3
    have h0 : d.size = 0 := by omega
    refine ⟨⟨hl, .inl ⟨by rw [h0]; rfl, h0⟩⟩, rfl, by simp⟩
  | some g =>
    obtain ⟨hn, cs, hg, hs, hr⟩ := h3
    refine ⟨⟨hl, .inr ⟨g, cap, cs, rfl, Nat.zero_le _, hg, h1, h2, hs, ?_⟩⟩, rfl, by intro e; injection e with e; exact hn e⟩
    exact (rowK_take itL_len).1 hr
end
theorem Que.of_own {w : World} {Q fn g cap : Nat} {d : Array Itm} (hb : Blk w Q 125 #[.slice (some ⟨g, 0, none⟩) d.size cap, .func (.func fn) #[] #[]]) (hn : g ≠ Q)
    (h : w.ownsRow 0 81 3 (.slice (some ⟨g, 0, none⟩) d.size cap) d.size (d.toList.flatMap itL)) : Que w Q fn (some g) d := by
  obtain ⟨cs, h1, h2, h3, h4, h5⟩ := own_row h
  exact ⟨cap, hb, h3, h4, hn, cs, h1, h2, (rowK_take itL_len).2 h5⟩
theorem it_cells (w : World) (x : Itm) (t : TypeId) : ∀ j u, (itL x)[j]? = some u → (w.alloc (.cells (itA x) t)).cell? ((⟨w.heap.size, 0, none⟩ : Addr).add j) = some u := by
  intro j u hu
  have h := (Blk.new w t (itA x)).cell j
  have e : ((⟨w.heap.size, 0, none⟩ : Addr).add j) = ⟨w.heap.size, j, none⟩ := by unfold Addr.add; split <;> simp_all
  have e2 : itA x = (itL x).toArray := rfl
  rw [e, h, ← hu, e2]
  simp
theorem it_one (x : Itm) : ∀ u ∈ itL x, u.oneCell' = true := by
  intro u hu
  simp only [itL, List.mem_cons, List.not_mem_nil, or_false] at hu
  rcases hu with rfl | rfl | rfl <;> rfl
theorem assert_item (xt : TypeId) (v : Value) (w : World) : (Instr.typeAssert (.iface 81 v) xt 81 false).run Tryz.prog w = .ok v w := by
  simp [Instr.typeAssert, go_sem]
set_option maxRecDepth 100000 in
set_option maxHeartbeats 4000000 in
theorem Push_calls (Q fn : Nat) (R : Option Nat) (d : Array Itm) (x : Itm) (w : World) (h : Que w Q fn R d) (hsz : d.size ≤ 1000000) :
    Calls Tryz.prog 60 #[.pointer (some ⟨Q, 0, none⟩), .iface 81 (.agg (itA x))] w fun e w' => e = .returned (.tuple #[]) ∧
      ∃ g, Que w' Q fn (some g) (d.push x) ∧ (R = some g ∨ w.heap.size ≤ g) ∧ But (qset Q R) w w' := by
  obtain ⟨cap, hb, hown, hob, hRQ⟩ := h.own
  obtain ⟨i0, hi, hz0, hz1, hz2⟩ := info_parts item_info3
  have hQ := hb.lt
  generalize hv : Value.slice (R.map fun g => (⟨g, 0, none⟩ : Addr)) d.size cap = v at *
  have hvs : ∃ a n c, v = .slice a n c := ⟨_, _, _, hv.symm⟩
  obtain ⟨a, n, c, rfl⟩ := hvs
  have k0 : w.cell? ⟨Q, 0, none⟩ = some (.slice a n c) := hb.cell 0
  have kf := fun i => hb.frozen i
  have hxx : itA x = #[.int .u64 (x.lo : Int), .int .u64 (x.len : Int), .int .i64 (x.idx : Int)] := rfl
  have HX := hide hxx
  have HB := hide hb
  have HO := hide hown
  have HOB := hide hob
  have HC := hide (it_cells w x 81)
  have H1 := hide (it_one x)
  have HRQ := hide hRQ
  have ha := fun xt v W => assert_item xt v W
  rw [hxx]
  clear hb hown hob hv h hxx hRQ
  go_enter Tryz.func60, Tryz.ntmps60
  go_wp2_with fail
  go_region_law (refine step_append_lies _ rfl (.tmp 8) (.tmp 11) 82 rfl 0 81 i0 _ 3 24 Tryz.underlying82 hi hz0 hz1 hz2 rfl (by decide) (.slice a n c) d.size (d.toList.flatMap itL) (by simp [Act.eval]) (HO.out.alloc _) ⟨w.heap.size, 0, none⟩ 1 1 (itL x) (by simp [Act.eval]) rfl HC.out H1.out (by decide) (by simp only [maxLen]; omega) (by omega) (Nat.zero_le _) (w.heap.size + 1) (by simp) ?_; intro g cap' w4 ho4 hg4 hgg hg4l; have hB4 := Blk.grown ((HB.out.alloc (.cells (itA x) 81)).drew) hg4 (by rw [HOB.out]; exact fun e => HRQ.out e.symm); have q0 : w4.cell? ⟨Q, 0, none⟩ = some (.slice a n c) := hB4.cell 0; have qf := fun i => hB4.frozen i; have HB4 := hide hB4; have HO4 := hide ho4; have HG4 := hide (((But.refl (qset Q R) w).alloc (.cells (itA x) 81)).drew.grown hg4 (fun r hr => by rw [HOB.out] at hr; exact .inl (.inr hr))); have HGG := hide hgg; clear ho4 hg4 hgg hB4)
  all_goals
    go_end0
    have hne : g ≠ Q := fun e => own_blk_ne (t := 125) HO4.out HB4.out (by decide) (by rw [e]; rfl)
    have hsp : (d.push x).size = d.size + 1 := by simp
    have hlp : (d.push x).toList.flatMap itL = d.toList.flatMap itL ++ itL x := by simp
    refine ⟨rfl, g, Que.of_own (cap := cap') ?_ hne ?_, ?_, ?_⟩
    · rw [hsp]; exact HB4.out.set_ 0 _
    · rw [hsp, hlp]
      exact ownsRow_setCell_other HO4.out (by intro e; injection e with e; exact hne e) _
    · have h9 := HGG.out
      rw [HOB.out] at h9
      rcases h9 with h9 | h9
      · exact .inl h9
      · exact .inr (by omega)
    · exact HG4.out.setCell (.inl (.inl rfl)) _

set_option maxRecDepth 100000 in
set_option maxHeartbeats 4000000 in
theorem QPop_calls (Q fn g : Nat) (d : Array Itm) (w : World) (h : Que w Q fn (some g) d) (h0 : 0 < d.size) (hsz : d.size ≤ 1000000) :
    Calls Tryz.prog 130 #[.pointer (some ⟨Q, 0, none⟩)] w fun e w' => e = .returned (.iface 81 (.agg (itA d[d.size - 1]!))) ∧
      Que w' Q fn (some g) d.pop ∧ But (· = Q) w w' := by
  obtain ⟨cap, hb, hc1, hc2, hn, cs, hg, hs, hr⟩ := h
  obtain ⟨m, hm⟩ : ∃ m, d.size = m + 1 := ⟨d.size - 1, by omega⟩
  have i0 := hr m (by omega)
  rw [three] at i0
  have hm1 : d.size - 1 = m := by omega
  rw [hm1]
  obtain ⟨x, hx⟩ : ∃ x, x = d[m]! := ⟨_, rfl⟩
  rw [← hx] at i0 ⊢
  clear hx
  obtain ⟨xlo, xlen, xi⟩ := x
  rw [hm] at hb
  have k0 : w.cell? ⟨Q, 0, none⟩ = some (.slice (some ⟨g, 0, none⟩) (m + 1) cap) := hb.cell 0
  have kf := fun i => hb.frozen i
  have p0 : w.cell? ⟨g, m * 3, none⟩ = some (.int .u64 (xlo : Int)) := (hg.cell _).trans i0.1
  have p1 : w.cell? ⟨g, m * 3 + 1, none⟩ = some (.int .u64 (xlen : Int)) := (hg.cell _).trans i0.2.1
  have p2 : w.cell? ⟨g, m * 3 + 2, none⟩ = some (.int .i64 (xi : Int)) := (hg.cell _).trans i0.2.2
  have hcap : m + 1 ≤ cap := by omega
  have hmb : (m : Int) ≤ 1000000 := by omega
  have hQ := hb.lt
  have hgl := hg.lt
  have HB := hide hb
  have HG := hide hg
  have HR := hide (And.intro hs hr)
  have HM := hide hm
  have HC := hide hc2
  show Calls Tryz.prog 130 #[.pointer (some ⟨Q, 0, none⟩)] w fun e w' => e = .returned (.iface 81 (.agg #[.int .u64 (xlo : Int), .int .u64 (xlen : Int), .int .i64 (xi : Int)])) ∧ _
  clear hb hg hr hs hm hc1 hc2 hm1 i0 hsz h0
  go_enter Tryz.func130, Tryz.ntmps130
  go_wp2
  go_ret
  have hB2 := ((HB.out.set_ 0 (.slice (some ⟨g, 0, none⟩) m cap)).alloc (.cells #[.int .u64 (xlo : Int), .int .u64 (xlen : Int), .int .i64 (xi : Int)] 81))
  have hbt := ((But.refl (· = Q) w).setCell (p := ⟨Q, 0, none⟩) (.inl rfl) (.slice (some ⟨g, 0, none⟩) m cap)).alloc (.cells #[.int .u64 (xlo : Int), .int .u64 (xlen : Int), .int .i64 (xi : Int)] 81)
  have hsp : d.pop.size = m := by rw [Array.size_pop, HM.out]; rfl
  refine ⟨rfl, ⟨cap, by rw [hsp]; exact hB2, by omega, HC.out, hn, cs, hbt.blk HG.out hn, HR.out.1, ?_⟩, hbt⟩
  intro k hk j hj
  rw [hsp] at hk
  have := HR.out.2 k (by have := HM.out; omega) j hj
  rw [pop_get d k (by have := HM.out; omega)]
  exact this
end Go.Proofs.YthccadabblkalaaGreat
