/- frame.Busy (chapter 15). -/
import Derived.Test.YthccadabblkalaaFrUsed
import Derived.Laws.EntriesVeiled
namespace Go.Proofs.Ythccadabblkalaa
open Go.RowKit Go.Sort Go.Shelf
attribute [local go_sem] Oper.semAt_some
set_option linter.unusedVariables false

def subW (a b : Nat) : Nat := (((a : Int) - (b : Int)) % 18446744073709551616).toNat
theorem wrap_subW (a b : Nat) : IntKind.u64.wrap ((a : Int) - (b : Int)) = ((subW a b : Nat) : Int) := by
  unfold subW
  simp only [IntKind.wrap, IntKind.bits, IntKind.signed]
  simp
  omega
theorem subW_le {a b : Nat} (h : b ≤ a) (ha : a < 18446744073709551616) : subW a b = a - b := by
  unfold subW; omega
def busyN (n lo hi : Nat) : Nat := (n + subW hi lo) % 18446744073709551616
theorem busyN_wrap (n lo hi : Nat) : IntKind.u64.wrap ((n : Int) + ((subW hi lo : Nat) : Int)) = ((busyN n lo hi : Nat) : Int) := wrap_add n (subW hi lo)
def busyF (n : Nat) (x : Nat × Nat) : Nat := busyN n x.1 x.2
def busyL (l : List (Nat × Nat)) : Nat := l.foldl busyF 0
theorem busyL_snoc (l : List (Nat × Nat)) (x : Nat × Nat) : busyL (l ++ [x]) = busyF (busyL l) x := by unfold busyL; rw [List.foldl_append]; rfl
set_option maxHeartbeats 1000000 in
theorem BusyAdd0 (B n lo hi d m : Nat) (w : World) (h : Blk w B 22 #[.int .u64 (n : Int)]) (h1 : IntKind.u64.wrap ((hi : Int) - (lo : Int)) = ((d : Nat) : Int)) (h2 : IntKind.u64.wrap ((n : Int) + (d : Int)) = ((m : Nat) : Int)) :
    Calls Try.prog 30 #[.int .u64 (lo : Int), .int .u64 (hi : Int), .pointer (some ⟨B, 0, none⟩)] w fun e w' => (∃ v, e = .returned v) ∧ w' = w.setCell ⟨B, 0, none⟩ (.int .u64 ((m : Nat) : Int)) := by
  have b3 : w.cell? ⟨B, 0, none⟩ = some (.int .u64 (n : Int)) := h.cell 0
  have b4 : w.frozen? ⟨B, 0, none⟩ = false := h.frozen 0
  clear h
  go_enter Try.func30, Try.ntmps30
  go_wp2
  go_end0
  exact ⟨⟨_, rfl⟩, rfl⟩
theorem BusyAdd_calls (B n lo hi : Nat) (w : World) (h : Blk w B 22 #[.int .u64 (n : Int)]) :
    Calls Try.prog 30 #[.int .u64 (lo : Int), .int .u64 (hi : Int), .pointer (some ⟨B, 0, none⟩)] w fun e w' => (∃ v, e = .returned v) ∧ w' = w.setCell ⟨B, 0, none⟩ (.int .u64 ((busyN n lo hi : Nat) : Int)) :=
  BusyAdd0 B n lo hi _ _ w h (wrap_subW hi lo) (busyN_wrap n lo hi)
/-- Two boxes of the call's own. -/
def Box2 (n : Nat) (w W : World) : Prop := Below w.heap.size w W ∧ Blk W (w.heap.size + 1) 22 #[.int .u64 (n : Int)] ∧ Blk W (w.heap.size + 2) 73 #[.func (.func 30) #[] #[.pointer (some ⟨w.heap.size + 1, 0, none⟩)]]
theorem Box2.but {M : Nat → Prop} {n : Nat} {w W W' : World} (h : Box2 n w W) (hb : But M W W') (hM : ∀ i, M i → w.heap.size ≤ i ∧ i ≠ w.heap.size + 1 ∧ i ≠ w.heap.size + 2) : Box2 n w W' :=
  ⟨h.1.trans (hb.below h.1.size (fun k hk hm => by have := (hM k hm).1; omega)), hb.blk h.2.1 (fun hm => (hM _ hm).2.1 rfl), hb.blk h.2.2 (fun hm => (hM _ hm).2.2 rfl)⟩
theorem Box2.set_ {n : Nat} {w W : World} (h : Box2 n w W) (n2 : Nat) : Box2 n2 w (W.setCell ⟨w.heap.size + 1, 0, none⟩ (.int .u64 (n2 : Int))) := by
  refine ⟨h.1.setCell (p := ⟨w.heap.size + 1, 0, none⟩) (by simp) _, ?_, h.2.2.far (p := ⟨w.heap.size + 1, 0, none⟩) (by simp) _⟩
  have := h.2.1.set_ 0 (.int .u64 (n2 : Int))
  simpa using this
set_option maxRecDepth 100000 in
set_option maxHeartbeats 4000000 in
theorem Busy_calls (c : Cfg) (p : Nat) (w : World) (h : CfgAt w.heap.size c w) (hsm : c.Small) :
    Calls Try.prog 14 #[cfgV c, .int .u16 (p : Int)] w fun e w' => e = .returned (.int .u64 ((busyL (wo c.wins.l p) : Nat) : Int)) ∧ Below w.heap.size w w' := by
  have HWO := hide (fun W => windowsOf_calls c p W)
  have HSM := hide hsm
  have HH := hide h
  have eF : ∀ args w, (callFunc 30 args).run Try.prog w = .ok (.enter 30 args) w := enters_of Try.func30 (by kernel_rfl) rfl
  clear h hsm
  refine callsIn_wide (n := 3) |>.1 (callsIn_of_wp_marks Try.func14 rfl trivial ?_ rfl)
  simp only [Try.ntmps14, List.size_toArray, List.length_cons, List.length_nil, Nat.reduceAdd, Nat.reduceSub, Array.replicate_succ, Array.replicate_zero, List.push_toArray, List.append_toArray, List.nil_append, List.cons_append]
  unfold cfgV at HWO ⊢
  have hbx : Box2 0 w (((((w.alloc (.cells #[.int .u64 (c.frame : Int), .slice c.parts.a c.parts.l.length c.parts.c, .slice c.wins.a c.wins.l.length c.wins.c, .slice c.regs.a c.regs.l.length c.regs.c, .slice c.ports.a c.ports.l.length c.ports.c, .slice c.chans.a c.chans.l.length c.chans.c] 29)).alloc (.cells #[.int .u64 0] 22)).alloc (.cells #[.func (.func 30) #[] #[.pointer (some ⟨w.heap.size + 1, 0, none⟩)]] 73)).alloc (.cells (cfgC c) 29)).alloc (.cells #[.int .u16 (p : Int)] 38)) := by
    refine ⟨(((((Below.refl _ w).alloc (Nat.le_refl _) _).alloc (by simp) _).alloc (by simp; omega) _).alloc (by simp; omega) _).alloc (by simp; omega) _, ?_, ?_⟩
    · have := Blk.new (w.alloc (.cells #[.int .u64 (c.frame : Int), .slice c.parts.a c.parts.l.length c.parts.c, .slice c.wins.a c.wins.l.length c.wins.c, .slice c.regs.a c.regs.l.length c.regs.c, .slice c.ports.a c.ports.l.length c.ports.c, .slice c.chans.a c.chans.l.length c.chans.c] 29)) 22 #[.int .u64 0]
      rw [World.size_alloc] at this
      exact ((this.alloc _).alloc _).alloc _
    · have := Blk.new ((w.alloc (.cells #[.int .u64 (c.frame : Int), .slice c.parts.a c.parts.l.length c.parts.c, .slice c.wins.a c.wins.l.length c.wins.c, .slice c.regs.a c.regs.l.length c.regs.c, .slice c.ports.a c.ports.l.length c.ports.c, .slice c.chans.a c.chans.l.length c.chans.c] 29)).alloc (.cells #[.int .u64 0] 22)) 73 #[.func (.func 30) #[] #[.pointer (some ⟨w.heap.size + 1, 0, none⟩)]]
      rw [World.size_alloc, World.size_alloc] at this
      exact (this.alloc _).alloc _
  have hwo : WoEnv w.heap.size (w.heap.size + 3) (w.heap.size + 4) c p (((((w.alloc (.cells #[.int .u64 (c.frame : Int), .slice c.parts.a c.parts.l.length c.parts.c, .slice c.wins.a c.wins.l.length c.wins.c, .slice c.regs.a c.regs.l.length c.regs.c, .slice c.ports.a c.ports.l.length c.ports.c, .slice c.chans.a c.chans.l.length c.chans.c] 29)).alloc (.cells #[.int .u64 0] 22)).alloc (.cells #[.func (.func 30) #[] #[.pointer (some ⟨w.heap.size + 1, 0, none⟩)]] 73)).alloc (.cells (cfgC c) 29)).alloc (.cells #[.int .u16 (p : Int)] 38)) := by
    refine ⟨HH.out.below hbx.1, ?_, ?_⟩
    · have := Blk.new (((w.alloc (.cells #[.int .u64 (c.frame : Int), .slice c.parts.a c.parts.l.length c.parts.c, .slice c.wins.a c.wins.l.length c.wins.c, .slice c.regs.a c.regs.l.length c.regs.c, .slice c.ports.a c.ports.l.length c.ports.c, .slice c.chans.a c.chans.l.length c.chans.c] 29)).alloc (.cells #[.int .u64 0] 22)).alloc (.cells #[.func (.func 30) #[] #[.pointer (some ⟨w.heap.size + 1, 0, none⟩)]] 73)) 29 (cfgC c)
      rw [World.size_alloc, World.size_alloc, World.size_alloc] at this
      exact this.alloc _
    · have := Blk.new ((((w.alloc (.cells #[.int .u64 (c.frame : Int), .slice c.parts.a c.parts.l.length c.parts.c, .slice c.wins.a c.wins.l.length c.wins.c, .slice c.regs.a c.regs.l.length c.regs.c, .slice c.ports.a c.ports.l.length c.ports.c, .slice c.chans.a c.chans.l.length c.chans.c] 29)).alloc (.cells #[.int .u64 0] 22)).alloc (.cells #[.func (.func 30) #[] #[.pointer (some ⟨w.heap.size + 1, 0, none⟩)]] 73)).alloc (.cells (cfgC c) 29)) 38 #[.int .u16 (p : Int)]
      rw [World.size_alloc, World.size_alloc, World.size_alloc, World.size_alloc] at this
      exact this
  have hsz : (((((w.alloc (.cells #[.int .u64 (c.frame : Int), .slice c.parts.a c.parts.l.length c.parts.c, .slice c.wins.a c.wins.l.length c.wins.c, .slice c.regs.a c.regs.l.length c.regs.c, .slice c.ports.a c.ports.l.length c.ports.c, .slice c.chans.a c.chans.l.length c.chans.c] 29)).alloc (.cells #[.int .u64 0] 22)).alloc (.cells #[.func (.func 30) #[] #[.pointer (some ⟨w.heap.size + 1, 0, none⟩)]] 73)).alloc (.cells (cfgC c) 29)).alloc (.cells #[.int .u16 (p : Int)] 38)).heap.size = w.heap.size + 5 := by simp
  have HBX := hide hbx
  have HWE := hide hwo
  have HSZ := hide hsz
  clear hbx hwo hsz
  gi_wp2_with (refine ⟨trivial, ?_⟩; gi_at_call 29; refine (callsIn_wide.2 (HWO.out _)).mono ?_; rintro e w1 ⟨rfl, rfl⟩)
  generalize (((((w.alloc (.cells #[.int .u64 (c.frame : Int), .slice c.parts.a c.parts.l.length c.parts.c, .slice c.wins.a c.wins.l.length c.wins.c, .slice c.regs.a c.regs.l.length c.regs.c, .slice c.ports.a c.ports.l.length c.ports.c, .slice c.chans.a c.chans.l.length c.chans.c] 29)).alloc (.cells #[.int .u64 0] 22)).alloc (.cells #[.func (.func 30) #[] #[.pointer (some ⟨w.heap.size + 1, 0, none⟩)]] 73)).alloc (.cells (cfgC c) 29)).alloc (.cells #[.int .u16 (p : Int)] 38)) = W0 at *
  simp only [Nat.add_assoc, Nat.reduceAdd]
  refine wp_range_act (gf := 48) (lb := #[.pointer (some ⟨w.heap.size + 3, 0, none⟩), .pointer (some ⟨w.heap.size + 4, 0, none⟩)]) rfl (enters_of Try.func48 (by kernel_rfl) rfl) (wo_seq w.heap.size (w.heap.size + 3) (w.heap.size + 4) c p W0 HWE.out (by rw [HSZ.out]; omega) HSM.out) (Below.refl _ _) (fun _ => rfl)
    (by rintro i (rfl | rfl) <;> (rw [HSZ.out]; omega)) (by rw [HSZ.out]; omega)
    (fun i => i = w.heap.size + 1 ∨ w.heap.size + 7 ≤ i) (by rintro i (rfl | hi) <;> rw [HSZ.out] <;> refine ⟨by omega, ?_, by omega⟩ <;> rintro (h | h) <;> omega)
    (fun pre W => Box2 (busyL pre) w W) (fun _ _ _ => False)
    (fun s A B hs hb => hs.but hb (by rintro i ((rfl | rfl) | hi); omega; omega; (rw [HSZ.out] at hi; omega))) (fun _ _ _ _ hs _ => hs) HBX.out
    ?f ?assign ?body ?done ?stop
  case assign =>
    intro l x W K hK
    simp only [encsW, zip2, List.setIfInBounds_toArray, List.set_cons_succ, List.set_cons_zero]
    gi_wp2
    exact hK
  case body =>
    rintro l pre x W hi hsz hlen
    obtain ⟨lo, hi2⟩ := x
    have b5 : W.cell? ⟨w.heap.size + 2, 0, none⟩ = some (.func (.func 30) #[] #[.pointer (some ⟨w.heap.size + 1, 0, none⟩)]) := hi.2.2.cell 0
    have HI := hide hi
    have HSN : Hid (busyL (pre ++ [(lo, hi2)]) = busyN (busyL pre) lo hi2) := hide (busyL_snoc pre (lo, hi2))
    have HAD := hide (BusyAdd_calls (w.heap.size + 1) (busyL pre) lo hi2 W hi.2.1)
    generalize busyL pre = n1 at *
    clear hi hlen
    gi_wp2_with (refine ⟨trivial, ?_⟩; gi_at_call 30; refine (CallsIn.inRound l (callsIn_wide.2 HAD.out)).mono ?_; rintro e w' ⟨⟨v, rfl⟩, rfl⟩)
    exact ⟨(But.refl _ W).setCell (p := ⟨w.heap.size + 1, 0, none⟩) (Or.inl (Or.inl rfl)) _, by show Box2 (busyL (pre ++ [(lo, hi2)])) _ _; rw [HSN.out]; exact HI.out.set_ _⟩
  case done =>
    rintro D xs W hD hD2 rfl hi hK
    have b3 : W.cell? ⟨w.heap.size + 1, 0, none⟩ = some (.int .u64 ((busyL (wo c.wins.l p) : Nat) : Int)) := hi.2.1.cell 0
    gi_wp2
    refine ⟨by simp, .inl ⟨_, _, rfl, run_takeDeferred hK, ?_⟩⟩
    refine ⟨_, results_tmp rfl _ _ _, rfl, ?_⟩
    exact hi.1.trans (belowK_b (w := w) (Nat.le_refl _) W D _ _ (by rw [HSZ.out] at hD; omega) hK rfl rfl)
  case stop =>
    rintro D c pre W _ _ _ h _
    exact h.elim
end Go.Proofs.Ythccadabblkalaa
