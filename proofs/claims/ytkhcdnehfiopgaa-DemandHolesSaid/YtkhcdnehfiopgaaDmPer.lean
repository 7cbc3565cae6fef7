/- demand: the iterator of periods (chapter 16). -/
import Derived.Test.YtkhcdnehfiopgaaFrWin
import Derived.Test.YtkhcdnehfiopgaaRfK
import Derived.Test.YtkhcdnehfiopgaaDmL
namespace Go.Proofs.Ytkhcdnehfiopgaa
open Go.RowKit Go.Sort Go.Shelf
attribute [local go_sem] Oper.semAt_some
set_option linter.unusedVariables false

/-- A partition with its frame and its windows. -/
def pwC (x : PartR) (F : Nat) (r : Row WinR) : Array Value := #[.int .u16 (x.id : Int), .string x.name, .int .u64 (x.per : Int), .int .u64 (x.dur : Int), .int .u64 (F : Int), .slice r.a r.l.length r.c]
structure PerEnv (n0 Bp : Nat) (x : PartR) (F : Nat) (r : Row WinR) (w : World) : Prop where
  box : Blk w Bp 58 (pwC x F r)
  row : RowAt winL 3 n0 r w
structure PerM (n0 Bp B lp : Nat) (x : PartR) (F : Nat) (r : Row WinR) (nx tk : Nat) (w : World) : Prop where
  env : PerEnv n0 Bp x F r w
  yb : Blk w B 61 #[.func (.yield lp) #[] #[]]
  bn : Blk w (B + 1) 22 #[.int .u64 (nx : Int)]
  bt : Blk w (B + 2) 22 #[.int .u64 (tk : Int)]
section
variable {n0 Bp B lp : Nat} {x : PartR} {F : Nat} {r : Row WinR} {nx tk : Nat} {w w' : World}
theorem PerEnv.but {M : Nat → Prop} (h : PerEnv n0 Bp x F r w) (hb : But M w w') (hn : n0 ≤ w.heap.size) (hM : ∀ i, M i → n0 ≤ i ∧ i ≠ Bp) : PerEnv n0 Bp x F r w' :=
  ⟨hb.blk h.box (fun hm => (hM _ hm).2 rfl), h.row.below (hb.below hn (fun k hk hm => by have := (hM k hm).1; omega))⟩
theorem PerM.but {M : Nat → Prop} (h : PerM n0 Bp B lp x F r nx tk w) (hb : But M w w') (hn : n0 ≤ B) (hM : ∀ i, M i → n0 ≤ i ∧ i ≠ Bp ∧ (i < B ∨ B + 3 ≤ i)) : PerM n0 Bp B lp x F r nx tk w' :=
  ⟨h.env.but hb (Nat.le_trans hn (Nat.le_of_lt h.yb.lt)) (fun i hi => ⟨(hM i hi).1, (hM i hi).2.1⟩), hb.blk h.yb (fun hm => by have := (hM _ hm).2.2; omega), hb.blk h.bn (fun hm => by have := (hM _ hm).2.2; omega), hb.blk h.bt (fun hm => by have := (hM _ hm).2.2; omega)⟩
theorem PerM.size (h : PerM n0 Bp B lp x F r nx tk w) : B + 3 ≤ w.heap.size := by have := h.bt.lt; omega
theorem PerM.alloc (h : PerM n0 Bp B lp x F r nx tk w) (hn : n0 ≤ B) (o : Obj) : PerM n0 Bp B lp x F r nx tk (w.alloc o) := h.but (M := fun _ => False) ((But.refl _ w).alloc o) hn (fun i hi => hi.elim)
theorem PerM.drewN (h : PerM n0 Bp B lp x F r nx tk w) (hn : n0 ≤ B) (k : Nat) : PerM n0 Bp B lp x F r nx tk (w.drewN k) := h.but (M := fun _ => False) ((But.refl _ w).drewN k) hn (fun i hi => hi.elim)
theorem PerM.drew (h : PerM n0 Bp B lp x F r nx tk w) (hn : n0 ≤ B) : PerM n0 Bp B lp x F r nx tk w.drew := h.but (M := fun _ => False) ((But.refl _ w).drew) hn (fun i hi => hi.elim)
theorem PerM.setN (h : PerM n0 Bp B lp x F r nx tk w) (hn : n0 ≤ B) (hp : Bp < B) (n2 : Nat) : PerM n0 Bp B lp x F r n2 tk (w.setCell ⟨B + 1, 0, none⟩ (.int .u64 (n2 : Int))) := by
  refine ⟨h.env.but (M := fun i => i = B + 1) ((But.refl (fun i => i = B + 1) w).setCell (p := ⟨B + 1, 0, none⟩) (.inl rfl) _) (Nat.le_trans hn (Nat.le_of_lt h.yb.lt)) (fun i hi => by subst hi; omega), h.yb.far (p := ⟨B + 1, 0, none⟩) (by simp) _, ?_, h.bt.far (p := ⟨B + 1, 0, none⟩) (by simp) _⟩
  have := h.bn.set_ 0 (.int .u64 (n2 : Int))
  simpa using this
theorem PerM.setT (h : PerM n0 Bp B lp x F r nx tk w) (hn : n0 ≤ B) (hp : Bp < B) (t2 : Nat) : PerM n0 Bp B lp x F r nx t2 (w.setCell ⟨B + 2, 0, none⟩ (.int .u64 (t2 : Int))) := by
  refine ⟨h.env.but (M := fun i => i = B + 2) ((But.refl (fun i => i = B + 2) w).setCell (p := ⟨B + 2, 0, none⟩) (.inl rfl) _) (Nat.le_trans hn (Nat.le_of_lt h.yb.lt)) (fun i hi => by subst hi; omega), h.yb.far (p := ⟨B + 2, 0, none⟩) (by simp) _, h.bn.far (p := ⟨B + 2, 0, none⟩) (by simp) _, ?_⟩
  have := h.bt.set_ 0 (.int .u64 (t2 : Int))
  simpa using this
end
/-- How done ends. -/
def DoneV (n0 Bp B lp : Nat) (x : PartR) (F : Nat) (r : Row WinR) (R : Nat → Prop) (J Jx : List (Nat × Nat) → World → Prop) (ys : List (Nat × Nat)) (k v k1 : Nat) (W : World) (e : Ending) (W' : World) : Prop :=
  (e = .returned (.bool false) ∧ J (ys ++ [(k, v)]) W' ∧ PerM n0 Bp B lp x F r k1 0 W' ∧ But (fun i => R i ∨ i = B + 1 ∨ i = B + 2) W W') ∨ (e = .returned (.bool true) ∧ Jx (ys ++ [(k, v)]) W')
set_option maxRecDepth 100000 in
set_option maxHeartbeats 2000000 in
theorem done_calls (n0 Bp B lp : Nat) (x : PartR) (F : Nat) (r : Row WinR) (Z : List (Nat × Nat)) (R : Nat → Prop) (J Jx : List (Nat × Nat) → World → Prop)
    (hR : ∀ i, R i → n0 ≤ i ∧ i ≠ Bp ∧ i < B) (hBp : Bp < B) (hn : n0 ≤ B)
    (hJ : ∀ s A A', J s A → But (mineK (fun i => i = Bp) B) A A' → J s A')
    (hY : ∀ m pre y W1, J pre W1 → B ≤ W1.heap.size → pre.length < Z.length → YieldAt Fence.wide m Try.prog lp (encsW y) W1 fun e W' =>
      (e = .returned (.bool true) ∧ J (pre ++ [y]) W' ∧ But R W1 W') ∨ (e = .returned (.bool false) ∧ Jx (pre ++ [y]) W' ∧ But R W1 W'))
    (ys : List (Nat × Nat)) (k v nx tk k1 : Nat) (W : World) (hM : PerM n0 Bp B lp x F r nx tk W) (hj : J ys W) (hp : (ys ++ [(k, v)]) <+: Z) (hk : k1 = k + 1) (hk1 : k1 < 18446744073709551616) :
    Calls Try.prog 66 #[.int .u64 (k : Int), .int .u64 (v : Int), .pointer (some ⟨B + 1, 0, none⟩), .pointer (some ⟨B + 2, 0, none⟩), .pointer (some ⟨B, 0, none⟩)] W (DoneV n0 Bp B lp x F r R J Jx ys k v k1 W) := by
  have hadd : IntKind.u64.wrap ((k : Int) + 1) = (k1 : Int) := by
    have e : (k : Int) + 1 = (k1 : Int) := by omega
    have e2 : (k1 : Int) < 18446744073709551616 := by omega
    rw [e]
    simp only [IntKind.wrap, IntKind.bits, IntKind.signed]
    simp
    omega
  have hM2 : PerM n0 Bp B lp x F r k1 0 ((W.setCell ⟨B + 1, 0, none⟩ (.int .u64 (k1 : Int))).setCell ⟨B + 2, 0, none⟩ (.int .u64 0)) := (hM.setN hn hBp k1).setT hn hBp 0
  have hj2 := hJ _ _ _ hj (((But.refl (mineK (fun i => i = Bp) B) W).setCell (p := ⟨B + 1, 0, none⟩) (.inl (.inr (by simp))) (.int .u64 (k1 : Int))).setCell (p := ⟨B + 2, 0, none⟩) (.inl (.inr (by simp))) (.int .u64 0))
  have hlen : ys.length < Z.length := by have := hp.length_le; rw [List.length_append] at this; simp at this; omega
  obtain ⟨fn, tmps, assign, body, hy, hRd⟩ := hY 2 ys (k, v) _ hj2 (Nat.le_trans (Nat.le_add_right _ _) hM2.size) hlen
  have HRD := hide hRd
  have c1 : W.cell? ⟨B + 1, 0, none⟩ = some (.int .u64 (nx : Int)) := hM.bn.cell 0
  have c2 : W.cell? ⟨B + 2, 0, none⟩ = some (.int .u64 (tk : Int)) := hM.bt.cell 0
  have c3 : W.cell? ⟨B, 0, none⟩ = some (.func (.yield lp) #[] #[]) := hM.yb.cell 0
  have f1 : W.frozen? ⟨B + 1, 0, none⟩ = false := hM.bn.frozen 0
  have f2 : W.frozen? ⟨B + 2, 0, none⟩ = false := hM.bt.frozen 0
  have z0 : B < W.heap.size := hM.yb.lt
  have z1 : B + 1 < W.heap.size := hM.bn.lt
  have z2 : B + 2 < W.heap.size := hM.bt.lt
  have HM2 := hide hM2
  have HBT := hide (fun W' hb => hM2.but (M := R) (w' := W') hb hn (fun i hi => ⟨(hR i hi).1, (hR i hi).2.1, .inl (hR i hi).2.2⟩))
  have hbt2 : But (fun i => R i ∨ i = B + 1 ∨ i = B + 2) W ((W.setCell ⟨B + 1, 0, none⟩ (.int .u64 (k1 : Int))).setCell ⟨B + 2, 0, none⟩ (.int .u64 0)) := ((But.refl (fun i => R i ∨ i = B + 1 ∨ i = B + 2) W).setCell (p := ⟨B + 1, 0, none⟩) (.inl (.inr (.inl rfl))) _).setCell (p := ⟨B + 2, 0, none⟩) (.inl (.inr (.inr rfl))) _
  have HB2 := hide hbt2
  dsimp only [encsW] at hy
  refine callsIn_wide (n := 3) |>.1 (callsIn_of_wp Try.func66 rfl trivial ?_ rfl)
  clear hM hj hM2 hj2 hbt2 hRd hY hJ hR hp hlen hk hk1
  simp only [Try.ntmps66, List.size_toArray, List.length_cons, List.length_nil, Nat.reduceAdd, Nat.reduceSub, Array.replicate_succ, Array.replicate_zero, List.push_toArray, List.append_toArray, List.nil_append, List.cons_append]
  gi_wp2
  refine HRD.out.mono ?_
  rintro e W' (⟨rfl, hJ', hbut⟩ | ⟨rfl, hJx', hbut⟩)
  · have HM3 := hide (HBT.out W' hbut)
    have HB3 := hide (HB2.out.trans (hbut.mono (fun i _ hi => .inl hi)))
    clear hbut hy
    gi_wp2
    go_ret
    exact .inl ⟨rfl, hJ', HM3.out, HB3.out⟩
  · clear hbut hy
    gi_wp2
    go_ret
    exact .inr ⟨rfl, hJx'⟩
end Go.Proofs.Ytkhcdnehfiopgaa
