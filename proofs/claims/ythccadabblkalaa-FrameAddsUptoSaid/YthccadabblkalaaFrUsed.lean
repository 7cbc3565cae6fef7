/- frame.Used and frame.Busy (chapter 15). -/
import Derived.Test.YthccadabblkalaaFrWin
namespace Go.Proofs.Ythccadabblkalaa
open Go.RowKit Go.Sort Go.Shelf
attribute [local go_sem] Oper.semAt_some
set_option linter.unusedVariables false

def usedF (f t : Nat) (n : Nat) (x : Nat × Nat) : Nat := if max x.1 f < min x.2 t then (n + (min x.2 t - max x.1 f)) % 18446744073709551616 else n
def usedL (f t : Nat) (l : List (Nat × Nat)) : Nat := l.foldl (usedF f t) 0
theorem usedL_snoc (f t : Nat) (l : List (Nat × Nat)) (x : Nat × Nat) : usedL f t (l ++ [x]) = usedF f t (usedL f t l) x := by unfold usedL; rw [List.foldl_append]; rfl
set_option maxHeartbeats 1000000 in
theorem windowsOf_calls (c : Cfg) (p : Nat) (w : World) :
    Calls Try.prog 29 #[cfgV c, .int .u16 (p : Int)] w fun e w' => e = .returned (.func (.func 48) #[] #[.pointer (some ⟨w.heap.size, 0, none⟩), .pointer (some ⟨w.heap.size + 1, 0, none⟩)]) ∧ w' = (w.alloc (.cells (cfgC c) 29)).alloc (.cells #[.int .u16 (p : Int)] 38) := by
  unfold cfgV cfgC
  go_enter Try.func29, Try.ntmps29
  go_wp2
  go_ret
  exact ⟨rfl, rfl⟩
theorem zip2 (p q : Tmp) (a b : Value) (T : Array Value) : ((#[p, q] : Array Tmp).zip #[a, b]).foldl (fun t (x : Tmp × Value) => t.setIfInBounds x.1 x.2) T = (T.setIfInBounds p a).setIfInBounds q b := by simp
/-- Three boxes of the call's own. -/
def Box3 (B f t n : Nat) (w W : World) : Prop := Below w.heap.size w W ∧ Blk W (B + 1) 22 #[.int .u64 (f : Int)] ∧ Blk W (B + 2) 22 #[.int .u64 (t : Int)] ∧ Blk W (B + 3) 22 #[.int .u64 (n : Int)]
theorem Box3.drewN {B f t n : Nat} {w W : World} (h : Box3 B f t n w W) (k : Nat) : Box3 B f t n w (W.drewN k) := ⟨below_drewN h.1 k, h.2⟩
theorem Box3.set_ {f t n : Nat} {w W : World} (h : Box3 w.heap.size f t n w W) (n2 : Nat) : Box3 w.heap.size f t n2 w (W.setCell ⟨w.heap.size + 3, 0, none⟩ (.int .u64 (n2 : Int))) := by
  refine ⟨h.1.setCell (p := ⟨w.heap.size + 3, 0, none⟩) (by simp) _, h.2.1.far (p := ⟨w.heap.size + 3, 0, none⟩) (by simp) _, h.2.2.1.far (p := ⟨w.heap.size + 3, 0, none⟩) (by simp) _, ?_⟩
  have := h.2.2.2.set_ 0 (.int .u64 (n2 : Int))
  simpa using this
theorem Box3.but {M : Nat → Prop} {B f t n : Nat} {w W W' : World} (h : Box3 B f t n w W) (hb : But M W W') (hM : ∀ i, M i → w.heap.size ≤ i ∧ i ≠ B + 1 ∧ i ≠ B + 2 ∧ i ≠ B + 3) : Box3 B f t n w W' :=
  ⟨h.1.trans (hb.below h.1.size (fun k hk hm => by have := (hM k hm).1; omega)), hb.blk h.2.1 (fun hm => (hM _ hm).2.1 rfl), hb.blk h.2.2.1 (fun hm => (hM _ hm).2.2.1 rfl), hb.blk h.2.2.2 (fun hm => (hM _ hm).2.2.2 rfl)⟩
set_option maxRecDepth 100000 in
set_option maxHeartbeats 4000000 in
theorem Used_calls (c : Cfg) (p f t : Nat) (w : World) (h : CfgAt w.heap.size c w) (hsm : c.Small) (ht : t < 18446744073709551616) :
    Calls Try.prog 12 #[cfgV c, .int .u16 (p : Int), .int .u64 (f : Int), .int .u64 (t : Int)] w fun e w' => e = .returned (.int .u64 ((usedL f t (wo c.wins.l p) : Nat) : Int)) ∧ Below w.heap.size w w' := by
  have HWO := hide (fun W => windowsOf_calls c p W)
  have HSM := hide hsm
  have HH := hide h
  clear h hsm
  refine callsIn_wide (n := 3) |>.1 (callsIn_of_wp_marks Try.func12 rfl trivial ?_ rfl)
  simp only [Try.ntmps12, List.size_toArray, List.length_cons, List.length_nil, Nat.reduceAdd, Nat.reduceSub, Array.replicate_succ, Array.replicate_zero, List.push_toArray, List.append_toArray, List.nil_append, List.cons_append]
  unfold cfgV at HWO ⊢
  have hbx : Box3 w.heap.size f t 0 w ((((((w.alloc (.cells #[.int .u64 (c.frame : Int), .slice c.parts.a c.parts.l.length c.parts.c, .slice c.wins.a c.wins.l.length c.wins.c, .slice c.regs.a c.regs.l.length c.regs.c, .slice c.ports.a c.ports.l.length c.ports.c, .slice c.chans.a c.chans.l.length c.chans.c] 29)).alloc (.cells #[.int .u64 (f : Int)] 22)).alloc (.cells #[.int .u64 (t : Int)] 22)).alloc (.cells #[.int .u64 0] 22)).alloc (.cells (cfgC c) 29)).alloc (.cells #[.int .u16 (p : Int)] 38)) := by
    refine ⟨((((((Below.refl _ w).alloc (Nat.le_refl _) _).alloc (by simp) _).alloc (by simp; omega) _).alloc (by simp; omega) _).alloc (by simp; omega) _).alloc (by simp; omega) _, ?_, ?_, ?_⟩
    · have := Blk.new (w.alloc (.cells #[.int .u64 (c.frame : Int), .slice c.parts.a c.parts.l.length c.parts.c, .slice c.wins.a c.wins.l.length c.wins.c, .slice c.regs.a c.regs.l.length c.regs.c, .slice c.ports.a c.ports.l.length c.ports.c, .slice c.chans.a c.chans.l.length c.chans.c] 29)) 22 #[.int .u64 (f : Int)]
      rw [World.size_alloc] at this
      exact (((this.alloc _).alloc _).alloc _).alloc _
    · have := Blk.new ((w.alloc (.cells #[.int .u64 (c.frame : Int), .slice c.parts.a c.parts.l.length c.parts.c, .slice c.wins.a c.wins.l.length c.wins.c, .slice c.regs.a c.regs.l.length c.regs.c, .slice c.ports.a c.ports.l.length c.ports.c, .slice c.chans.a c.chans.l.length c.chans.c] 29)).alloc (.cells #[.int .u64 (f : Int)] 22)) 22 #[.int .u64 (t : Int)]
      rw [World.size_alloc, World.size_alloc] at this
      exact ((this.alloc _).alloc _).alloc _
    · have := Blk.new (((w.alloc (.cells #[.int .u64 (c.frame : Int), .slice c.parts.a c.parts.l.length c.parts.c, .slice c.wins.a c.wins.l.length c.wins.c, .slice c.regs.a c.regs.l.length c.regs.c, .slice c.ports.a c.ports.l.length c.ports.c, .slice c.chans.a c.chans.l.length c.chans.c] 29)).alloc (.cells #[.int .u64 (f : Int)] 22)).alloc (.cells #[.int .u64 (t : Int)] 22)) 22 #[.int .u64 0]
      rw [World.size_alloc, World.size_alloc, World.size_alloc] at this
      exact (this.alloc _).alloc _
  have hwo : WoEnv w.heap.size (w.heap.size + 4) (w.heap.size + 5) c p ((((((w.alloc (.cells #[.int .u64 (c.frame : Int), .slice c.parts.a c.parts.l.length c.parts.c, .slice c.wins.a c.wins.l.length c.wins.c, .slice c.regs.a c.regs.l.length c.regs.c, .slice c.ports.a c.ports.l.length c.ports.c, .slice c.chans.a c.chans.l.length c.chans.c] 29)).alloc (.cells #[.int .u64 (f : Int)] 22)).alloc (.cells #[.int .u64 (t : Int)] 22)).alloc (.cells #[.int .u64 0] 22)).alloc (.cells (cfgC c) 29)).alloc (.cells #[.int .u16 (p : Int)] 38)) := by
    refine ⟨HH.out.below hbx.1, ?_, ?_⟩
    · have := Blk.new ((((w.alloc (.cells #[.int .u64 (c.frame : Int), .slice c.parts.a c.parts.l.length c.parts.c, .slice c.wins.a c.wins.l.length c.wins.c, .slice c.regs.a c.regs.l.length c.regs.c, .slice c.ports.a c.ports.l.length c.ports.c, .slice c.chans.a c.chans.l.length c.chans.c] 29)).alloc (.cells #[.int .u64 (f : Int)] 22)).alloc (.cells #[.int .u64 (t : Int)] 22)).alloc (.cells #[.int .u64 0] 22)) 29 (cfgC c)
      rw [World.size_alloc, World.size_alloc, World.size_alloc, World.size_alloc] at this
      exact this.alloc _
    · have := Blk.new (((((w.alloc (.cells #[.int .u64 (c.frame : Int), .slice c.parts.a c.parts.l.length c.parts.c, .slice c.wins.a c.wins.l.length c.wins.c, .slice c.regs.a c.regs.l.length c.regs.c, .slice c.ports.a c.ports.l.length c.ports.c, .slice c.chans.a c.chans.l.length c.chans.c] 29)).alloc (.cells #[.int .u64 (f : Int)] 22)).alloc (.cells #[.int .u64 (t : Int)] 22)).alloc (.cells #[.int .u64 0] 22)).alloc (.cells (cfgC c) 29)) 38 #[.int .u16 (p : Int)]
      rw [World.size_alloc, World.size_alloc, World.size_alloc, World.size_alloc, World.size_alloc] at this
      exact this
  have hsz : ((((((w.alloc (.cells #[.int .u64 (c.frame : Int), .slice c.parts.a c.parts.l.length c.parts.c, .slice c.wins.a c.wins.l.length c.wins.c, .slice c.regs.a c.regs.l.length c.regs.c, .slice c.ports.a c.ports.l.length c.ports.c, .slice c.chans.a c.chans.l.length c.chans.c] 29)).alloc (.cells #[.int .u64 (f : Int)] 22)).alloc (.cells #[.int .u64 (t : Int)] 22)).alloc (.cells #[.int .u64 0] 22)).alloc (.cells (cfgC c) 29)).alloc (.cells #[.int .u16 (p : Int)] 38)).heap.size = w.heap.size + 6 := by simp
  have HBX := hide hbx
  have HWE := hide hwo
  have HSZ := hide hsz
  clear hbx hwo hsz
  gi_wp2_with (refine ⟨trivial, ?_⟩; gi_at_call 29; refine (callsIn_wide.2 (HWO.out _)).mono ?_; rintro e w1 ⟨rfl, rfl⟩)
  generalize ((((((w.alloc (.cells #[.int .u64 (c.frame : Int), .slice c.parts.a c.parts.l.length c.parts.c, .slice c.wins.a c.wins.l.length c.wins.c, .slice c.regs.a c.regs.l.length c.regs.c, .slice c.ports.a c.ports.l.length c.ports.c, .slice c.chans.a c.chans.l.length c.chans.c] 29)).alloc (.cells #[.int .u64 (f : Int)] 22)).alloc (.cells #[.int .u64 (t : Int)] 22)).alloc (.cells #[.int .u64 0] 22)).alloc (.cells (cfgC c) 29)).alloc (.cells #[.int .u16 (p : Int)] 38)) = W0 at *
  simp only [Nat.add_assoc, Nat.reduceAdd]
  refine wp_range_act (gf := 48) (lb := #[.pointer (some ⟨w.heap.size + 4, 0, none⟩), .pointer (some ⟨w.heap.size + 5, 0, none⟩)]) rfl (enters_of Try.func48 (by kernel_rfl) rfl) (wo_seq w.heap.size (w.heap.size + 4) (w.heap.size + 5) c p W0 HWE.out (by rw [HSZ.out]; omega) HSM.out) (Below.refl _ _) (fun _ => rfl)
    (by rintro i (rfl | rfl) <;> (rw [HSZ.out]; omega)) (by rw [HSZ.out]; omega)
    (fun i => i = w.heap.size + 3 ∨ w.heap.size + 8 ≤ i) (by rintro i (rfl | hi) <;> rw [HSZ.out] <;> refine ⟨by omega, ?_, by omega⟩ <;> rintro (h | h) <;> omega)
    (fun pre W => Box3 w.heap.size f t (usedL f t pre) w W) (fun _ _ _ => False)
    (fun s A B hs hb => hs.but hb (by rintro i ((rfl | rfl) | hi); omega; omega; (rw [HSZ.out] at hi; omega))) (fun _ _ _ _ hs _ => hs) HBX.out
    ?f ?assign ?body ?done ?stop
  case assign =>
    intro l x W K hK
    simp only [encsW, zip2, List.setIfInBounds_toArray, List.set_cons_succ, List.set_cons_zero]
    gi_wp2
    exact hK
  case body =>
    rintro l pre x W hi hsz hlen
    obtain ⟨lo, hi2⟩ := x
    have hsn := usedL_snoc f t pre (lo, hi2)
    unfold usedF at hsn
    simp only at hsn
    have hmax : max (lo : Int) (f : Int) = ((max lo f : Nat) : Int) := by omega
    have hmin : min (hi2 : Int) (t : Int) = ((min hi2 t : Nat) : Int) := by omega
    have hmt : min hi2 t < 18446744073709551616 := by omega
    have mixed := mixed_prog
    have b1 : W.cell? ⟨w.heap.size + 1, 0, none⟩ = some (.int .u64 (f : Int)) := hi.2.1.cell 0
    have b2 : W.cell? ⟨w.heap.size + 2, 0, none⟩ = some (.int .u64 (t : Int)) := hi.2.2.1.cell 0
    have b3 : W.cell? ⟨w.heap.size + 3, 0, none⟩ = some (.int .u64 ((usedL f t pre : Nat) : Int)) := hi.2.2.2.cell 0
    have b4 : W.frozen? ⟨w.heap.size + 3, 0, none⟩ = false := hi.2.2.2.frozen 0
    have hz3 : w.heap.size + 3 < W.heap.size := hi.2.2.2.lt
    generalize max lo f = M at *
    generalize min hi2 t = m at *
    by_cases hlt : M < m
    · rw [if_pos hlt] at hsn
      have hsub := wrap_sub m M (by omega) hmt
      have hadd := wrap_add (usedL f t pre) (m - M)
      have e0 : decide ((M : Int) < (m : Int)) = true := by simpa using hlt
      have e1 : decide (M < m) = true := by simpa using hlt
      rw [← hsn] at hadd
      generalize m - M = d at *
      have HI := hide hi
      obtain ⟨n2, hn2⟩ : ∃ n, n = usedL f t (pre ++ [(lo, hi2)]) := ⟨_, rfl⟩
      have HN2 := hide hn2
      rw [← hn2] at hadd
      clear hn2
      generalize usedL f t pre = n1 at *
      clear hlt hmt hsn hi
      gi_wp2
      refine wp_round_quiet_lit (by kernel_rfl) (by kernel_rfl) (by kernel_rfl) ?_
      repeat (gi_big_quiet_step (fail))
      refine wpQuietIn_nil ?_
      rintro _ ⟨nq, rfl⟩
      gi_wp2
      all_goals exact ⟨((But.refl _ W).drewN nq).setCell (p := ⟨w.heap.size + 3, 0, none⟩) (Or.inl (Or.inl rfl)) _, by show Box3 _ _ _ (usedL f t (pre ++ [(lo, hi2)])) _ _; rw [← HN2.out]; exact (HI.out.drewN nq).set_ n2⟩
    · rw [if_neg hlt] at hsn
      have e0 : decide ((M : Int) < (m : Int)) = false := by simpa using hlt
      have e1 : decide (M < m) = false := by simpa using hlt
      have HI := hide hi
      have HSN : Hid (usedL f t (pre ++ [(lo, hi2)]) = usedL f t pre) := hide hsn
      generalize usedL f t pre = n1 at *
      clear hlt hmt hsn hi
      gi_wp2
      refine wp_round_quiet_lit (by kernel_rfl) (by kernel_rfl) (by kernel_rfl) ?_
      repeat (gi_big_quiet_step (fail))
      refine wpQuietIn_nil ?_
      rintro _ ⟨nq, rfl⟩
      gi_wp2
      all_goals exact ⟨(But.refl _ W).drewN nq, by show Box3 _ _ _ (usedL f t (pre ++ [(lo, hi2)])) _ _; rw [HSN.out]; exact HI.out.drewN nq⟩
  case done =>
    rintro D xs W hD hD2 rfl hi hK
    have b3 : W.cell? ⟨w.heap.size + 3, 0, none⟩ = some (.int .u64 ((usedL f t (wo c.wins.l p) : Nat) : Int)) := hi.2.2.2.cell 0
    gi_wp2
    refine ⟨by simp, .inl ⟨_, _, rfl, run_takeDeferred hK, ?_⟩⟩
    refine ⟨_, results_tmp rfl _ _ _, rfl, ?_⟩
    exact hi.1.trans (belowK_b (w := w) (Nat.le_refl _) W D _ _ (by rw [HSZ.out] at hD; omega) hK rfl rfl)
  case stop =>
    rintro D c pre W _ _ _ h _
    exact h.elim
end Go.Proofs.Ythccadabblkalaa
