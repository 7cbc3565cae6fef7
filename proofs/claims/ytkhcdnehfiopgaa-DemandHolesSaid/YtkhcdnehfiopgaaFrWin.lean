/- frame.windowsOf and its iterator; frame.Used (chapter 15). frame.Used and frame.Busy (chapter 15). frame.Busy (chapter 15). -/
import Derived.Test.YtkhcdnehfiopgaaFrRef3
import Derived.Test.YtkhcdnehfiopgaaRf
import Derived.RangeFuncNested
import Derived.RangeFuncBound
import Derived.Shelf.Abstract
import Derived.Shelf.RegionOpen
import Derived.OwnWalkIn
import Derived.TacticsInMore
import Derived.LoopNIn
import Derived.LoopIn
import Derived.Lib.MinMax
import Derived.Laws.EntriesVeiled
namespace Go.Proofs.Ytkhcdnehfiopgaa
open Go.RowKit Go.Sort Go.Shelf
attribute [local go_sem] Oper.semAt_some
set_option linter.unusedVariables false

def hiW (x : WinR) : Nat := (x.st + x.len) % 18446744073709551616
theorem wrap_add (a b : Nat) : IntKind.u64.wrap ((a : Int) + (b : Int)) = (((a + b) % 18446744073709551616 : Nat) : Int) := by
  simp only [IntKind.wrap, IntKind.bits, IntKind.signed]
  simp
def wo (l : List WinR) (p : Nat) : List (Nat × Nat) := (l.filter fun x => decide (x.part = p)).map fun x => (x.st, hiW x)
theorem wo_yes {l : List WinR} {p k : Nat} (h : k < l.length) (he : l[k].part = p) : wo (l.take (k + 1)) p = wo (l.take k) p ++ [(l[k].st, hiW l[k])] := by
  unfold wo
  rw [List.take_succ_eq_append_getElem h, List.filter_append, List.map_append, List.filter_cons_of_pos (by simpa using he)]; rfl
theorem wo_no {l : List WinR} {p k : Nat} (h : k < l.length) (he : ¬ l[k].part = p) : wo (l.take (k + 1)) p = wo (l.take k) p := by
  unfold wo
  rw [List.take_succ_eq_append_getElem h, List.filter_append, List.map_append, List.filter_cons_of_neg (by simpa using he)]; simp
theorem wo_pre (l : List WinR) (p k : Nat) : wo (l.take k) p <+: wo l p := by
  refine ⟨wo (l.drop k) p, ?_⟩
  unfold wo
  rw [← List.map_append, ← List.filter_append, List.take_append_drop]
theorem wo_len (l : List WinR) (p : Nat) : (wo l p).length ≤ l.length := by
  unfold wo; rw [List.length_map]; exact List.length_filter_le _ _
def encsW (x : Nat × Nat) : Array Value := #[.int .u64 (x.1 : Int), .int .u64 (x.2 : Int)]
/-- What the iterator needs. -/
structure WoEnv (n0 Bc Bp : Nat) (c : Cfg) (p : Nat) (w : World) : Prop where
  cfg : CfgAt n0 c w
  bc : Blk w Bc 29 (cfgC c)
  bp : Blk w Bp 38 #[.int .u16 (p : Int)]
theorem WoEnv.but {M : Nat → Prop} {n0 Bc Bp : Nat} {c : Cfg} {p : Nat} {w w' : World} (h : WoEnv n0 Bc Bp c p w) (hb : But M w w') (hn : n0 ≤ w.heap.size) (hM : ∀ i, M i → n0 ≤ i ∧ i ≠ Bc ∧ i ≠ Bp) : WoEnv n0 Bc Bp c p w' :=
  ⟨h.cfg.below (hb.below hn (fun k hk hm => by have := (hM k hm).1; omega)), hb.blk h.bc (fun hm => (hM _ hm).2.1 rfl), hb.blk h.bp (fun hm => (hM _ hm).2.2 rfl)⟩
set_option maxRecDepth 100000 in
set_option maxHeartbeats 4000000 in
theorem wo_seq (n0 Bc Bp : Nat) (c : Cfg) (p : Nat) (w : World) (h : WoEnv n0 Bc Bp c p w) (hn0 : n0 ≤ w.heap.size) (hsm : c.Small) :
    SeqM Try.prog 54 #[.pointer (some ⟨Bc, 0, none⟩), .pointer (some ⟨Bp, 0, none⟩)] encsW (fun i => i = Bc ∨ i = Bp) 0 n0 (fun xs => xs = wo c.wins.l p) (fun pre => pre <+: wo c.wins.l p) (wo c.wins.l p).length w := by
  intro l R J Jx W hW hR hJ hJx hY h0
  have hE : WoEnv n0 Bc Bp c p W := h.but (But.of_below (M := fun _ => False) hW) hn0 (fun i hi => hi.elim)
  have hR2 : ∀ i, R i → n0 ≤ i ∧ i ≠ Bc ∧ i ≠ Bp := fun i hi => by
    obtain ⟨h1, h2, _⟩ := hR i hi
    exact ⟨h1, fun e => h2 (.inl e), fun e => h2 (.inr e)⟩
  have hnW : n0 ≤ W.heap.size := Nat.le_trans hn0 hW.size
  have HENV := hide (fun wr (hb : But R W wr) => hE.but hb hnW hR2)
  have hcap := hE.cfg.wins.2
  obtain ⟨n, hn⟩ : ∃ n, n = c.wins.l.length := ⟨_, rfl⟩
  obtain ⟨wa, hwa⟩ : ∃ a, a = c.wins.a := ⟨_, rfl⟩
  have hnI : (n : Int) ≤ 1048576 := by unfold Cfg.Small at hsm; omega
  have hcI : (n : Int) ≤ (c.wins.c : Int) := by omega
  have HN := hide hn
  have HWA := hide hwa
  have HBC := hide (fun W (hW : WoEnv n0 Bc Bp c p W) => (cfg_cells hW.bc).2.2.1)
  rw [← hn, ← hwa] at HBC
  have HBP := hide (fun W (hW : WoEnv n0 Bc Bp c p W) => (hW.bp.cell 0 : W.cell? ⟨Bp, 0, none⟩ = some (.int .u16 (p : Int))))
  have HY := hide hY
  have HJ := hide hJ
  have H0 := hide h0
  have hb2 := HBC.out W hE
  refine callsIn_wide (n := 3) |>.1 (callsIn_of_wp Try.func54 rfl trivial ?_ rfl)
  clear h hn0 hsm hW hR hJ hJx hY h0 hE hR2 hnW hcap hn hwa
  simp only [Try.ntmps54, List.size_toArray, List.length_cons, List.length_nil, Nat.reduceAdd, Nat.reduceSub, Array.replicate_succ, Array.replicate_zero, List.push_toArray, List.append_toArray, List.nil_append, List.cons_append]
  gi_wp2
  gi_loopw [9] (fun v wr => ∃ k : Nat, k ≤ n ∧ v = .int .i64 (k : Int) ∧ Hid (J (wo (c.wins.l.take k) p) wr ∧ But R W wr)) (fun v _ => n - (intOf v).toNat)
  case atStart => exact ⟨0, Nat.zero_le _, rfl, hide ⟨H0.out, But.refl _ _⟩⟩
  case round =>
    obtain ⟨k, hk, rfl, hrel⟩ := hrel
    have hE := HENV.out wr hrel.out.2
    by_cases hlt : k < n
    · have hlt2 : (k : Int) < (n : Int) := by omega
      have hkl : k < c.wins.l.length := by have := HN.out; omega
      obtain ⟨b, o, ha, hab, x0, x1, x2⟩ := win_at hE.cfg.wins k hkl
      obtain rfl : wa = some ⟨b, o, none⟩ := HWA.out.trans ha
      have hbp := HBP.out wr hE
      have hpz : Bp < wr.heap.size := hE.bp.lt
      have hbz : b < wr.heap.size := cell_lt x0
      have HJ1 : Hid (J (wo (c.wins.l.take k) p) (wr.alloc (.cells (winC c.wins.l[k]) 49)) ∧ But R W (wr.alloc (.cells (winC c.wins.l[k]) 49))) := hide ⟨HJ.out _ _ _ hrel.out.1 ((But.refl _ wr).alloc _), hrel.out.2.alloc _⟩
      have HNX := hide ha
      by_cases he : c.wins.l[k].part = p
      · have e0 : ((c.wins.l[k].part : Int) == (p : Int)) = true := by rw [he]; exact beq_self_eq_true _
        have hpre := wo_pre c.wins.l p (k + 1)
        have hlen : (wo (c.wins.l.take k) p).length < (wo c.wins.l p).length := by
          have h1 := hpre.length_le
          rw [wo_yes hkl he, List.length_append] at h1
          simp at h1; omega
        obtain ⟨fn, tmps, assign, body, hy, hRd⟩ := HY.out 2 (wo (c.wins.l.take k) p) (c.wins.l[k].st, hiW c.wins.l[k]) _ HJ1.out.1 (by have := HJ1.out.2.size; omega) hlen
        rw [← wo_yes hkl he] at hRd
        have HRD := hide hRd
        have HPRE := hide hpre
        have hw : IntKind.u64.wrap ((c.wins.l[k].st : Int) + (c.wins.l[k].len : Int)) = ((hiW c.wins.l[k] : Nat) : Int) := wrap_add _ _
        unfold winC at hy HRD HJ1
        dsimp only [encsW] at hy
        generalize hiW c.wins.l[k] = hi at *
        generalize c.wins.l[k] = x at *
        clear he hpre hlen hRd hrel hE ha hab
        gi_wp2
        refine HRD.out.mono ?_
        rintro e W' (⟨rfl, hJ', hbut⟩ | ⟨rfl, hJx', hbut⟩)
        · have HJ2 : Hid (J (wo (c.wins.l.take (k + 1)) p) W' ∧ But R W W') := hide ⟨hJ', HJ1.out.2.trans hbut⟩
          clear hJ' hbut
          gi_wp2
          go_roundw
          case rel => exact ⟨k + 1, by omega, by go_num, HJ2⟩
          case measure => simp [intOf]; omega
        · gi_wp2
          refine bodyPost_ret (results_none rfl _ _ _) rfl ?_
          exact ⟨⟨_, rfl⟩, .inr ⟨_, HPRE.out, hJx'⟩⟩
      · have e0 : ((c.wins.l[k].part : Int) == (p : Int)) = false := by rw [beq_eq_false_iff_ne]; exact fun h => he (by exact_mod_cast h)
        have HW : Hid (wo (c.wins.l.take (k + 1)) p = wo (c.wins.l.take k) p) := hide (wo_no hkl he)
        unfold winC at HJ1
        generalize c.wins.l[k] = x at *
        clear he hrel hE ha hab
        gi_wp2
        refine ⟨fun _ h => (by cases h), ?_⟩
        gi_wp2
        go_roundw
        case rel => exact ⟨k + 1, by omega, by go_num, hide (by rw [HW.out]; exact HJ1.out)⟩
        case measure => simp [intOf]; omega
    · have hkn : k = n := by omega
      subst hkn
      have HF : Hid (J (wo c.wins.l p) wr) := hide (by have := hrel.out.1; rwa [List.take_of_length_le (by rw [HN.out]; exact Nat.le_refl _)] at this)
      clear hlt hk hrel hE
      gi_wp2
      go_end0
      exact ⟨⟨_, rfl⟩, .inl ⟨_, rfl, HF.out⟩⟩
end Go.Proofs.Ytkhcdnehfiopgaa
namespace Go.Proofs.Ytkhcdnehfiopgaa
open Go.RowKit Go.Sort Go.Shelf
attribute [local go_sem] Oper.semAt_some
set_option linter.unusedVariables false

def usedF (f t : Nat) (n : Nat) (x : Nat × Nat) : Nat := if max x.1 f < min x.2 t then (n + (min x.2 t - max x.1 f)) % 18446744073709551616 else n
def usedL (f t : Nat) (l : List (Nat × Nat)) : Nat := l.foldl (usedF f t) 0
theorem usedL_snoc (f t : Nat) (l : List (Nat × Nat)) (x : Nat × Nat) : usedL f t (l ++ [x]) = usedF f t (usedL f t l) x := by unfold usedL; rw [List.foldl_append]; rfl
set_option maxHeartbeats 1000000 in
theorem windowsOf_calls (c : Cfg) (p : Nat) (w : World) :
    Calls Try.prog 39 #[cfgV c, .int .u16 (p : Int)] w fun e w' => e = .returned (.func (.func 54) #[] #[.pointer (some ⟨w.heap.size, 0, none⟩), .pointer (some ⟨w.heap.size + 1, 0, none⟩)]) ∧ w' = (w.alloc (.cells (cfgC c) 29)).alloc (.cells #[.int .u16 (p : Int)] 38) := by
  unfold cfgV cfgC
  go_enter Try.func39, Try.ntmps39
  go_wp2
  go_ret
  exact ⟨rfl, rfl⟩
theorem zip2 (p q : Tmp) (a b : Value) (T : Array Value) : ((#[p, q] : Array Tmp).zip #[a, b]).foldl (fun t (x : Tmp × Value) => t.setIfInBounds x.1 x.2) T = (T.setIfInBounds p a).setIfInBounds q b := by simp
/-- Three boxes of the call's own. -/
def Box3 (B f t n : Nat) (w W : World) : Prop := Below w.heap.size w W ∧ Blk W (B + 1) 22 #[.int .u64 (f : Int)] ∧ Blk W (B + 2) 22 #[.int .u64 (t : Int)] ∧ Blk W (B + 3) 22 #[.int .u64 (n : Int)]
theorem Box3.drewN {B f t n : Nat} {w W : World} (h : Box3 B f t n w W) (k : Nat) : Box3 B f t n w (W.drewN k) := ⟨below_drewN h.1 k, h.2⟩
theorem Box3.set_ {f t n : Nat} {w W : World} (h : Box3 w.heap.size f t n w W) (n2 : Nat) : Box3 w.heap.size f t n2 w (W.setCell ⟨w.heap.size + 3, 0, none⟩ (.int .u64 (n2 : Int))) := by
  refine ⟨h.1.setCell (p := ⟨w.heap.size + 3, 0, none⟩) (by simp) _, h.2.1.far (p := ⟨w.heap.size + 3, 0, none⟩) (by simp) _, h.2.2.1.far (p := ⟨w.heap.size + 3, 0, none⟩) (by simp) _, ?_⟩
  have := h.2.2.2.set_ 0 (.int .u64 (n2 : Int))
  simpa using this
theorem Box3.but {M : Nat → Prop} {B f t n : Nat} {w W W' : World} (h : Box3 B f t n w W) (hb : But M W W') (hM : ∀ i, M i → w.heap.size ≤ i ∧ i ≠ B + 1 ∧ i ≠ B + 2 ∧ i ≠ B + 3) : Box3 B f t n w W' :=
  ⟨h.1.trans (hb.below h.1.size (fun k hk hm => by have := (hM k hm).1; omega)), hb.blk h.2.1 (fun hm => (hM _ hm).2.1 rfl), hb.blk h.2.2.1 (fun hm => (hM _ hm).2.2.1 rfl), hb.blk h.2.2.2 (fun hm => (hM _ hm).2.2.2 rfl)⟩
end Go.Proofs.Ytkhcdnehfiopgaa
namespace Go.Proofs.Ytkhcdnehfiopgaa
open Go.RowKit Go.Sort Go.Shelf
attribute [local go_sem] Oper.semAt_some
set_option linter.unusedVariables false

def subW (a b : Nat) : Nat := (((a : Int) - (b : Int)) % 18446744073709551616).toNat
theorem wrap_subW (a b : Nat) : IntKind.u64.wrap ((a : Int) - (b : Int)) = ((subW a b : Nat) : Int) := by
  unfold subW
  simp only [IntKind.wrap, IntKind.bits, IntKind.signed]
  simp
  omega
theorem subW_le {a b : Nat} (h : b ≤ a) (ha : a < 18446744073709551616) : subW a b = a - b := by
  unfold subW; omega
def busyN (n lo hi : Nat) : Nat := (n + subW hi lo) % 18446744073709551616
theorem busyN_wrap (n lo hi : Nat) : IntKind.u64.wrap ((n : Int) + ((subW hi lo : Nat) : Int)) = ((busyN n lo hi : Nat) : Int) := wrap_add n (subW hi lo)
def busyF (n : Nat) (x : Nat × Nat) : Nat := busyN n x.1 x.2
def busyL (l : List (Nat × Nat)) : Nat := l.foldl busyF 0
theorem busyL_snoc (l : List (Nat × Nat)) (x : Nat × Nat) : busyL (l ++ [x]) = busyF (busyL l) x := by unfold busyL; rw [List.foldl_append]; rfl
set_option maxHeartbeats 1000000 in
theorem BusyAdd0 (B n lo hi d m : Nat) (w : World) (h : Blk w B 22 #[.int .u64 (n : Int)]) (h1 : IntKind.u64.wrap ((hi : Int) - (lo : Int)) = ((d : Nat) : Int)) (h2 : IntKind.u64.wrap ((n : Int) + (d : Int)) = ((m : Nat) : Int)) :
    Calls Try.prog 38 #[.int .u64 (lo : Int), .int .u64 (hi : Int), .pointer (some ⟨B, 0, none⟩)] w fun e w' => (∃ v, e = .returned v) ∧ w' = w.setCell ⟨B, 0, none⟩ (.int .u64 ((m : Nat) : Int)) := by
  have b3 : w.cell? ⟨B, 0, none⟩ = some (.int .u64 (n : Int)) := h.cell 0
  have b4 : w.frozen? ⟨B, 0, none⟩ = false := h.frozen 0
  clear h
  go_enter Try.func38, Try.ntmps38
  go_wp2
  go_end0
  exact ⟨⟨_, rfl⟩, rfl⟩
theorem BusyAdd_calls (B n lo hi : Nat) (w : World) (h : Blk w B 22 #[.int .u64 (n : Int)]) :
    Calls Try.prog 38 #[.int .u64 (lo : Int), .int .u64 (hi : Int), .pointer (some ⟨B, 0, none⟩)] w fun e w' => (∃ v, e = .returned v) ∧ w' = w.setCell ⟨B, 0, none⟩ (.int .u64 ((busyN n lo hi : Nat) : Int)) :=
  BusyAdd0 B n lo hi _ _ w h (wrap_subW hi lo) (busyN_wrap n lo hi)
/-- Two boxes of the call's own. -/
def Box2 (n : Nat) (w W : World) : Prop := Below w.heap.size w W ∧ Blk W (w.heap.size + 1) 22 #[.int .u64 (n : Int)] ∧ Blk W (w.heap.size + 2) 65 #[.func (.func 38) #[] #[.pointer (some ⟨w.heap.size + 1, 0, none⟩)]]
theorem Box2.but {M : Nat → Prop} {n : Nat} {w W W' : World} (h : Box2 n w W) (hb : But M W W') (hM : ∀ i, M i → w.heap.size ≤ i ∧ i ≠ w.heap.size + 1 ∧ i ≠ w.heap.size + 2) : Box2 n w W' :=
  ⟨h.1.trans (hb.below h.1.size (fun k hk hm => by have := (hM k hm).1; omega)), hb.blk h.2.1 (fun hm => (hM _ hm).2.1 rfl), hb.blk h.2.2 (fun hm => (hM _ hm).2.2 rfl)⟩
theorem Box2.set_ {n : Nat} {w W : World} (h : Box2 n w W) (n2 : Nat) : Box2 n2 w (W.setCell ⟨w.heap.size + 1, 0, none⟩ (.int .u64 (n2 : Int))) := by
  refine ⟨h.1.setCell (p := ⟨w.heap.size + 1, 0, none⟩) (by simp) _, ?_, h.2.2.far (p := ⟨w.heap.size + 1, 0, none⟩) (by simp) _⟩
  have := h.2.1.set_ 0 (.int .u64 (n2 : Int))
  simpa using this
set_option maxRecDepth 100000 in
set_option maxHeartbeats 4000000 in
theorem Busy_calls (c : Cfg) (p : Nat) (w : World) (h : CfgAt w.heap.size c w) (hsm : c.Small) :
    Calls Try.prog 22 #[cfgV c, .int .u16 (p : Int)] w fun e w' => e = .returned (.int .u64 ((busyL (wo c.wins.l p) : Nat) : Int)) ∧ Below w.heap.size w w' := by
  have HWO := hide (fun W => windowsOf_calls c p W)
  have HSM := hide hsm
  have HH := hide h
  have eF : ∀ args w, (callFunc 38 args).run Try.prog w = .ok (.enter 38 args) w := enters_of Try.func38 (by kernel_rfl) rfl
  clear h hsm
  refine callsIn_wide (n := 3) |>.1 (callsIn_of_wp_marks Try.func22 rfl trivial ?_ rfl)
  simp only [Try.ntmps22, List.size_toArray, List.length_cons, List.length_nil, Nat.reduceAdd, Nat.reduceSub, Array.replicate_succ, Array.replicate_zero, List.push_toArray, List.append_toArray, List.nil_append, List.cons_append]
  unfold cfgV at HWO ⊢
  have hbx : Box2 0 w (((((w.alloc (.cells #[.int .u64 (c.frame : Int), .slice c.parts.a c.parts.l.length c.parts.c, .slice c.wins.a c.wins.l.length c.wins.c, .slice c.regs.a c.regs.l.length c.regs.c, .slice c.ports.a c.ports.l.length c.ports.c, .slice c.chans.a c.chans.l.length c.chans.c] 29)).alloc (.cells #[.int .u64 0] 22)).alloc (.cells #[.func (.func 38) #[] #[.pointer (some ⟨w.heap.size + 1, 0, none⟩)]] 65)).alloc (.cells (cfgC c) 29)).alloc (.cells #[.int .u16 (p : Int)] 38)) := by
    refine ⟨(((((Below.refl _ w).alloc (Nat.le_refl _) _).alloc (by simp) _).alloc (by simp; omega) _).alloc (by simp; omega) _).alloc (by simp; omega) _, ?_, ?_⟩
    · have := Blk.new (w.alloc (.cells #[.int .u64 (c.frame : Int), .slice c.parts.a c.parts.l.length c.parts.c, .slice c.wins.a c.wins.l.length c.wins.c, .slice c.regs.a c.regs.l.length c.regs.c, .slice c.ports.a c.ports.l.length c.ports.c, .slice c.chans.a c.chans.l.length c.chans.c] 29)) 22 #[.int .u64 0]
      rw [World.size_alloc] at this
      exact ((this.alloc _).alloc _).alloc _
    · have := Blk.new ((w.alloc (.cells #[.int .u64 (c.frame : Int), .slice c.parts.a c.parts.l.length c.parts.c, .slice c.wins.a c.wins.l.length c.wins.c, .slice c.regs.a c.regs.l.length c.regs.c, .slice c.ports.a c.ports.l.length c.ports.c, .slice c.chans.a c.chans.l.length c.chans.c] 29)).alloc (.cells #[.int .u64 0] 22)) 65 #[.func (.func 38) #[] #[.pointer (some ⟨w.heap.size + 1, 0, none⟩)]]
      rw [World.size_alloc, World.size_alloc] at this
      exact (this.alloc _).alloc _
  have hwo : WoEnv w.heap.size (w.heap.size + 3) (w.heap.size + 4) c p (((((w.alloc (.cells #[.int .u64 (c.frame : Int), .slice c.parts.a c.parts.l.length c.parts.c, .slice c.wins.a c.wins.l.length c.wins.c, .slice c.regs.a c.regs.l.length c.regs.c, .slice c.ports.a c.ports.l.length c.ports.c, .slice c.chans.a c.chans.l.length c.chans.c] 29)).alloc (.cells #[.int .u64 0] 22)).alloc (.cells #[.func (.func 38) #[] #[.pointer (some ⟨w.heap.size + 1, 0, none⟩)]] 65)).alloc (.cells (cfgC c) 29)).alloc (.cells #[.int .u16 (p : Int)] 38)) := by
    refine ⟨HH.out.below hbx.1, ?_, ?_⟩
    · have := Blk.new (((w.alloc (.cells #[.int .u64 (c.frame : Int), .slice c.parts.a c.parts.l.length c.parts.c, .slice c.wins.a c.wins.l.length c.wins.c, .slice c.regs.a c.regs.l.length c.regs.c, .slice c.ports.a c.ports.l.length c.ports.c, .slice c.chans.a c.chans.l.length c.chans.c] 29)).alloc (.cells #[.int .u64 0] 22)).alloc (.cells #[.func (.func 38) #[] #[.pointer (some ⟨w.heap.size + 1, 0, none⟩)]] 65)) 29 (cfgC c)
      rw [World.size_alloc, World.size_alloc, World.size_alloc] at this
      exact this.alloc _
    · have := Blk.new ((((w.alloc (.cells #[.int .u64 (c.frame : Int), .slice c.parts.a c.parts.l.length c.parts.c, .slice c.wins.a c.wins.l.length c.wins.c, .slice c.regs.a c.regs.l.length c.regs.c, .slice c.ports.a c.ports.l.length c.ports.c, .slice c.chans.a c.chans.l.length c.chans.c] 29)).alloc (.cells #[.int .u64 0] 22)).alloc (.cells #[.func (.func 38) #[] #[.pointer (some ⟨w.heap.size + 1, 0, none⟩)]] 65)).alloc (.cells (cfgC c) 29)) 38 #[.int .u16 (p : Int)]
      rw [World.size_alloc, World.size_alloc, World.size_alloc, World.size_alloc] at this
      exact this
  have hsz : (((((w.alloc (.cells #[.int .u64 (c.frame : Int), .slice c.parts.a c.parts.l.length c.parts.c, .slice c.wins.a c.wins.l.length c.wins.c, .slice c.regs.a c.regs.l.length c.regs.c, .slice c.ports.a c.ports.l.length c.ports.c, .slice c.chans.a c.chans.l.length c.chans.c] 29)).alloc (.cells #[.int .u64 0] 22)).alloc (.cells #[.func (.func 38) #[] #[.pointer (some ⟨w.heap.size + 1, 0, none⟩)]] 65)).alloc (.cells (cfgC c) 29)).alloc (.cells #[.int .u16 (p : Int)] 38)).heap.size = w.heap.size + 5 := by simp
  have HBX := hide hbx
  have HWE := hide hwo
  have HSZ := hide hsz
  clear hbx hwo hsz
  gi_wp2_with (refine ⟨trivial, ?_⟩; gi_at_call 39; refine (callsIn_wide.2 (HWO.out _)).mono ?_; rintro e w1 ⟨rfl, rfl⟩)
  generalize (((((w.alloc (.cells #[.int .u64 (c.frame : Int), .slice c.parts.a c.parts.l.length c.parts.c, .slice c.wins.a c.wins.l.length c.wins.c, .slice c.regs.a c.regs.l.length c.regs.c, .slice c.ports.a c.ports.l.length c.ports.c, .slice c.chans.a c.chans.l.length c.chans.c] 29)).alloc (.cells #[.int .u64 0] 22)).alloc (.cells #[.func (.func 38) #[] #[.pointer (some ⟨w.heap.size + 1, 0, none⟩)]] 65)).alloc (.cells (cfgC c) 29)).alloc (.cells #[.int .u16 (p : Int)] 38)) = W0 at *
  simp only [Nat.add_assoc, Nat.reduceAdd]
  refine wp_range_act (gf := 54) (lb := #[.pointer (some ⟨w.heap.size + 3, 0, none⟩), .pointer (some ⟨w.heap.size + 4, 0, none⟩)]) rfl (enters_of Try.func54 (by kernel_rfl) rfl) (wo_seq w.heap.size (w.heap.size + 3) (w.heap.size + 4) c p W0 HWE.out (by rw [HSZ.out]; omega) HSM.out) (Below.refl _ _) (fun _ => rfl)
    (by rintro i (rfl | rfl) <;> (rw [HSZ.out]; omega)) (by rw [HSZ.out]; omega)
    (fun i => i = w.heap.size + 1 ∨ w.heap.size + 7 ≤ i) (by rintro i (rfl | hi) <;> rw [HSZ.out] <;> refine ⟨by omega, ?_, by omega⟩ <;> rintro (h | h) <;> omega)
    (fun pre W => Box2 (busyL pre) w W) (fun _ _ _ => False)
    (fun s A B hs hb => hs.but hb (by rintro i ((rfl | rfl) | hi); omega; omega; (rw [HSZ.out] at hi; omega))) (fun _ _ _ _ hs _ => hs) HBX.out
    ?f ?assign ?body ?done ?stop
  case assign =>
    intro l x W K hK
    simp only [encsW, zip2, List.setIfInBounds_toArray, List.set_cons_succ, List.set_cons_zero]
    gi_wp2
    exact hK
  case body =>
    rintro l pre x W hi hsz hlen
    obtain ⟨lo, hi2⟩ := x
    have b5 : W.cell? ⟨w.heap.size + 2, 0, none⟩ = some (.func (.func 38) #[] #[.pointer (some ⟨w.heap.size + 1, 0, none⟩)]) := hi.2.2.cell 0
    have HI := hide hi
    have HSN : Hid (busyL (pre ++ [(lo, hi2)]) = busyN (busyL pre) lo hi2) := hide (busyL_snoc pre (lo, hi2))
    have HAD := hide (BusyAdd_calls (w.heap.size + 1) (busyL pre) lo hi2 W hi.2.1)
    generalize busyL pre = n1 at *
    clear hi hlen
    gi_wp2_with (refine ⟨trivial, ?_⟩; gi_at_call 38; refine (CallsIn.inRound l (callsIn_wide.2 HAD.out)).mono ?_; rintro e w' ⟨⟨v, rfl⟩, rfl⟩)
    exact ⟨(But.refl _ W).setCell (p := ⟨w.heap.size + 1, 0, none⟩) (Or.inl (Or.inl rfl)) _, by show Box2 (busyL (pre ++ [(lo, hi2)])) _ _; rw [HSN.out]; exact HI.out.set_ _⟩
  case done =>
    rintro D xs W hD hD2 rfl hi hK
    have b3 : W.cell? ⟨w.heap.size + 1, 0, none⟩ = some (.int .u64 ((busyL (wo c.wins.l p) : Nat) : Int)) := hi.2.1.cell 0
    gi_wp2
    refine ⟨by simp, .inl ⟨_, _, rfl, run_takeDeferred hK, ?_⟩⟩
    refine ⟨_, results_tmp rfl _ _ _, rfl, ?_⟩
    exact hi.1.trans (belowK_b (w := w) (Nat.le_refl _) W D _ _ (by rw [HSZ.out] at hD; omega) hK rfl rfl)
  case stop =>
    rintro D c pre W _ _ _ h _
    exact h.elim
end Go.Proofs.Ytkhcdnehfiopgaa
