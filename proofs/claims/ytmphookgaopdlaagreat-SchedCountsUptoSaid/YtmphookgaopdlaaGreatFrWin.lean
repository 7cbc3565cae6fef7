/- frame.windowsOf and its iterator; frame.Used (chapter 15). frame.Used and frame.Busy (chapter 15). frame.Busy (chapter 15). -/
import Derived.Test.YtmphookgaopdlaaGreatFrRef3
import Derived.Test.YtmphookgaopdlaaGreatRf
import Derived.RangeFuncNested
import Derived.RangeFuncBound
import Derived.Shelf.Abstract
import Derived.Shelf.RegionOpen
import Derived.OwnWalkIn
import Derived.TacticsInMore
import Derived.LoopNIn
import Derived.LoopIn
import Derived.Lib.MinMax
import Derived.Laws.EntriesVeiled
namespace Go.Proofs.YtmphookgaopdlaaGreat
open Go.RowKit Go.Sort Go.Shelf
attribute [local go_sem] Oper.semAt_some
set_option linter.unusedVariables false

def hiW (x : WinR) : Nat := (x.st + x.len) % 18446744073709551616
theorem wrap_add (a b : Nat) : IntKind.u64.wrap ((a : Int) + (b : Int)) = (((a + b) % 18446744073709551616 : Nat) : Int) := by
  simp only [IntKind.wrap, IntKind.bits, IntKind.signed]
  simp
def wo (l : List WinR) (p : Nat) : List (Nat × Nat) := (l.filter fun x => decide (x.part = p)).map fun x => (x.st, hiW x)
theorem wo_yes {l : List WinR} {p k : Nat} (h : k < l.length) (he : l[k].part = p) : wo (l.take (k + 1)) p = wo (l.take k) p ++ [(l[k].st, hiW l[k])] := by
  unfold wo
  rw [List.take_succ_eq_append_getElem h, List.filter_append, List.map_append, List.filter_cons_of_pos (by simpa using he)]; rfl
theorem wo_no {l : List WinR} {p k : Nat} (h : k < l.length) (he : ¬ l[k].part = p) : wo (l.take (k + 1)) p = wo (l.take k) p := by
  unfold wo
  rw [List.take_succ_eq_append_getElem h, List.filter_append, List.map_append, List.filter_cons_of_neg (by simpa using he)]; simp
theorem wo_pre (l : List WinR) (p k : Nat) : wo (l.take k) p <+: wo l p := by
  refine ⟨wo (l.drop k) p, ?_⟩
  unfold wo
  rw [← List.map_append, ← List.filter_append, List.take_append_drop]
theorem wo_len (l : List WinR) (p : Nat) : (wo l p).length ≤ l.length := by
  unfold wo; rw [List.length_map]; exact List.length_filter_le _ _
def encsW (x : Nat × Nat) : Array Value := #[.int .u64 (x.1 : Int), .int .u64 (x.2 : Int)]
/-- What the iterator needs. -/
structure WoEnv (n0 Bc Bp : Nat) (c : Cfg) (p : Nat) (w : World) : Prop where
  cfg : CfgAt n0 c w
  bc : Blk w Bc 29 (cfgC c)
  bp : Blk w Bp 34 #[.int .u16 (p : Int)]
theorem WoEnv.but {M : Nat → Prop} {n0 Bc Bp : Nat} {c : Cfg} {p : Nat} {w w' : World} (h : WoEnv n0 Bc Bp c p w) (hb : But M w w') (hn : n0 ≤ w.heap.size) (hM : ∀ i, M i → n0 ≤ i ∧ i ≠ Bc ∧ i ≠ Bp) : WoEnv n0 Bc Bp c p w' :=
  ⟨h.cfg.below (hb.below hn (fun k hk hm => by have := (hM k hm).1; omega)), hb.blk h.bc (fun hm => (hM _ hm).2.1 rfl), hb.blk h.bp (fun hm => (hM _ hm).2.2 rfl)⟩
end Go.Proofs.YtmphookgaopdlaaGreat
namespace Go.Proofs.YtmphookgaopdlaaGreat
open Go.RowKit Go.Sort Go.Shelf
attribute [local go_sem] Oper.semAt_some
set_option linter.unusedVariables false

def usedF (f t : Nat) (n : Nat) (x : Nat × Nat) : Nat := if max x.1 f < min x.2 t then (n + (min x.2 t - max x.1 f)) % 18446744073709551616 else n
def usedL (f t : Nat) (l : List (Nat × Nat)) : Nat := l.foldl (usedF f t) 0
theorem usedL_snoc (f t : Nat) (l : List (Nat × Nat)) (x : Nat × Nat) : usedL f t (l ++ [x]) = usedF f t (usedL f t l) x := by unfold usedL; rw [List.foldl_append]; rfl
theorem zip2 (p q : Tmp) (a b : Value) (T : Array Value) : ((#[p, q] : Array Tmp).zip #[a, b]).foldl (fun t (x : Tmp × Value) => t.setIfInBounds x.1 x.2) T = (T.setIfInBounds p a).setIfInBounds q b := by simp
/-- Three boxes of the call's own. -/
def Box3 (B f t n : Nat) (w W : World) : Prop := Below w.heap.size w W ∧ Blk W (B + 1) 22 #[.int .u64 (f : Int)] ∧ Blk W (B + 2) 22 #[.int .u64 (t : Int)] ∧ Blk W (B + 3) 22 #[.int .u64 (n : Int)]
theorem Box3.drewN {B f t n : Nat} {w W : World} (h : Box3 B f t n w W) (k : Nat) : Box3 B f t n w (W.drewN k) := ⟨below_drewN h.1 k, h.2⟩
theorem Box3.set_ {f t n : Nat} {w W : World} (h : Box3 w.heap.size f t n w W) (n2 : Nat) : Box3 w.heap.size f t n2 w (W.setCell ⟨w.heap.size + 3, 0, none⟩ (.int .u64 (n2 : Int))) := by
  refine ⟨h.1.setCell (p := ⟨w.heap.size + 3, 0, none⟩) (by simp) _, h.2.1.far (p := ⟨w.heap.size + 3, 0, none⟩) (by simp) _, h.2.2.1.far (p := ⟨w.heap.size + 3, 0, none⟩) (by simp) _, ?_⟩
  have := h.2.2.2.set_ 0 (.int .u64 (n2 : Int))
  simpa using this
theorem Box3.but {M : Nat → Prop} {B f t n : Nat} {w W W' : World} (h : Box3 B f t n w W) (hb : But M W W') (hM : ∀ i, M i → w.heap.size ≤ i ∧ i ≠ B + 1 ∧ i ≠ B + 2 ∧ i ≠ B + 3) : Box3 B f t n w W' :=
  ⟨h.1.trans (hb.below h.1.size (fun k hk hm => by have := (hM k hm).1; omega)), hb.blk h.2.1 (fun hm => (hM _ hm).2.1 rfl), hb.blk h.2.2.1 (fun hm => (hM _ hm).2.2.1 rfl), hb.blk h.2.2.2 (fun hm => (hM _ hm).2.2.2 rfl)⟩
end Go.Proofs.YtmphookgaopdlaaGreat
namespace Go.Proofs.YtmphookgaopdlaaGreat
open Go.RowKit Go.Sort Go.Shelf
attribute [local go_sem] Oper.semAt_some
set_option linter.unusedVariables false

def subW (a b : Nat) : Nat := (((a : Int) - (b : Int)) % 18446744073709551616).toNat
theorem wrap_subW (a b : Nat) : IntKind.u64.wrap ((a : Int) - (b : Int)) = ((subW a b : Nat) : Int) := by
  unfold subW
  simp only [IntKind.wrap, IntKind.bits, IntKind.signed]
  simp
  omega
theorem subW_le {a b : Nat} (h : b ≤ a) (ha : a < 18446744073709551616) : subW a b = a - b := by
  unfold subW; omega
def busyN (n lo hi : Nat) : Nat := (n + subW hi lo) % 18446744073709551616
theorem busyN_wrap (n lo hi : Nat) : IntKind.u64.wrap ((n : Int) + ((subW hi lo : Nat) : Int)) = ((busyN n lo hi : Nat) : Int) := wrap_add n (subW hi lo)
def busyF (n : Nat) (x : Nat × Nat) : Nat := busyN n x.1 x.2
def busyL (l : List (Nat × Nat)) : Nat := l.foldl busyF 0
theorem busyL_snoc (l : List (Nat × Nat)) (x : Nat × Nat) : busyL (l ++ [x]) = busyF (busyL l) x := by unfold busyL; rw [List.foldl_append]; rfl
end Go.Proofs.YtmphookgaopdlaaGreat
