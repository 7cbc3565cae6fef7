/- The replacer of the library for two bytes, in memory: what its block holds while it is built. -/
import Derived.Test.YtgjdhndlbhbjhaaGreatMem
import Derived.Test.YtgjdhndlbhbjhaaGreatProg
import Derived.Deep.WholeRow
import Derived.Laws.IdiomStrings
import Derived.KernelRfl
namespace Go.Proofs.YtgjdhndlbhbjhaaGreat
open Go.RowKit

/-- A fresh byteStringReplacer: 256 nil slices, and the list of bytes. -/
noncomputable def bsr0 (q : Value) : Array Value := Tryz.zeroCells100.setIfInBounds 256 q
attribute [irreducible] bsr0
theorem zc_size : Tryz.zeroCells100.size = 257 := by kernel_rfl
theorem bsr0_size (q : Value) : (bsr0 q).size = 257 := by
  unfold bsr0; rw [Array.size_setIfInBounds, zc_size]
theorem zc_take : Tryz.zeroCells100.toList.take 256 = List.replicate 256 (.slice none 0 0) := by kernel_rfl
theorem zc_one : Tryz.zeroCells100.all (·.oneCell') = true := by kernel_rfl
theorem zc_info : (Tryz.prog.info? 100).map (·.size) = some 257 := by kernel_rfl
theorem bsr0_at (q : Value) (i : Nat) (hi : i < 256) : (bsr0 q)[i]? = some (.slice none 0 0) := by
  unfold bsr0
  rw [Array.getElem?_setIfInBounds_ne (by omega)]
  have h := congrArg (fun l => l[i]?) zc_take
  simp only [List.getElem?_take_of_lt hi, List.getElem?_replicate_of_lt hi] at h
  rw [← h, Array.getElem?_toList]
theorem bsr0_last (q : Value) : (bsr0 q)[256]? = some q := by
  unfold bsr0
  rw [Array.getElem?_setIfInBounds_self_of_lt]
  rw [zc_size]; omega
theorem bsr0_at' (q : Value) (i : Nat) (hi : i < 256) (h : i < (bsr0 q).size) : (bsr0 q)[i]'h = .slice none 0 0 := Array.getElem_eq_iff.2 (bsr0_at q i hi)
theorem bsr0_last' (q : Value) (h : 256 < (bsr0 q).size) : (bsr0 q)[256]'h = q := Array.getElem_eq_iff.2 (bsr0_last q)
theorem bsr0_list (q : Value) : (bsr0 q).toList = Tryz.zeroCells100.toList.set 256 q := by unfold bsr0; exact Array.toList_setIfInBounds
theorem bsr0_one (n c : Nat) : (bsr0 (.slice (some ⟨n, 0, none⟩) 0 c)).all (·.oneCell') = true := by
  rw [← Array.all_toList, bsr0_list, List.all_eq_true]
  intro x hx
  rcases List.mem_or_eq_of_mem_set hx with h | h
  · have := zc_one
    rw [← Array.all_toList, List.all_eq_true] at this
    exact this x h
  · rw [h]; rfl
theorem bsr0_store (w : World) (n c : Nat) :
    (storeCells ⟨w.heap.size, 0, none⟩ (Tryz.zeroCells100.toList.set 256 (.slice (some ⟨n, 0, none⟩) 0 c))).run Tryz.prog (w.alloc (.cells Tryz.zeroCells100 100)) =
      .ok () (w.alloc (.cells (bsr0 (.slice (some ⟨n, 0, none⟩) 0 c)) 100)) := by
  have h := run_storeCells_new (P := Tryz.prog) w 100 Tryz.zeroCells100 (bsr0 (.slice (some ⟨n, 0, none⟩) 0 c)) (by rw [bsr0_size, zc_info]) (by rw [bsr0_size, zc_size]) (bsr0_one n c)
  rw [bsr0_list] at h
  exact h

/-- A string as new bytes: the capacity, the new block. -/
noncomputable def bytesCap (w : World) (n : Nat) : Nat := grownCap w n 0 5
noncomputable def bytesArr (w : World) (s : ByteArray) : Array Value := bytesRow s (grownCap w s.size 0 5)
theorem conv_run (s : ByteArray) (w : World) : (convert 9 40 (.string s)).run Tryz.prog w = .ok (.slice (some ⟨w.heap.size, 0, none⟩) s.size (bytesCap w s.size)) (w.drew.alloc (.cells (bytesArr w s) 5 ((bytesArr w s).size, (bytesArr w s).size + 1))) :=
  run_bytes_of_string w 9 40 5 s Tryz.underlying9 Tryz.underlying40 Tryz.underlying5
theorem conv_back (c : UInt8) (k : Nat) (W : World) (h : W.cell? ⟨k, 0, none⟩ = some (.int .u8 (c.toNat : Int))) : (convert 40 9 (.slice (some ⟨k, 0, none⟩) 1 1)).run Tryz.prog W = .ok (.string ⟨#[c]⟩) W := by
  have := run_convert_bytes_back (P := Tryz.prog) W 40 9 5 ⟨k, 0, none⟩ 1 [c] Tryz.underlying40 Tryz.underlying5 Tryz.underlying9 (by
    intro j hj
    obtain rfl : j = 0 := by simp at hj; exact hj
    exact h)
  exact this

/-- The bytes of a replacement lie in memory. -/
def RepAt (w : World) (b0 : Nat) (cs : Array Value) (i : Nat) (l : List UInt8) : Prop :=
  ∃ g c, b0 < g ∧ g < w.heap.size ∧ cs[i]? = some (.slice (some ⟨g, 0, none⟩) l.length c) ∧ ∀ j (h : j < l.length), w.cell? ⟨g, j, none⟩ = some (.int .u8 (l[j].toNat : Int))

/-- What the replacer's block holds when the loop stands at i = 2 - 2 * k. -/
structure Stage (B : Nat) (w : World) (k : Nat) (cs : Array Value) (s0 s1 : Value) : Prop where
  row : Blk w B 9 #[s0, s1]
  blk : Blk w (B + 1) 100 cs
  size : cs.size = 257
  last : cs[256]? = some (.slice (some ⟨B, 0, none⟩) k 2)
  plain : ∀ i, i < 256 → ¬ i = 34 → ¬ i = 92 → cs[i]? = some (.slice none 0 0)
  quot : if 1 ≤ k then RepAt w (B + 1) cs 34 [92, 34] else cs[34]? = some (.slice none 0 0)
  back : if 2 ≤ k then RepAt w (B + 1) cs 92 [92, 92] else cs[92]? = some (.slice none 0 0)
  first : 1 ≤ k → s0 = .string ⟨#[34]⟩
  second : 2 ≤ k → s1 = .string ⟨#[92]⟩

theorem bytesArr_at (w : World) (s : ByteArray) (j : Nat) (hj : j < s.data.size) : (bytesArr w s)[j]? = some (.int .u8 (s.data[j].toNat : Int)) := bytesRow_at s _ j hj

theorem RepAt.keep {w w' : World} {b0 : Nat} {cs cs' : Array Value} {i : Nat} {l : List UInt8} (h : RepAt w b0 cs i l) (hs : w.heap.size ≤ w'.heap.size)
    (hc : cs'[i]? = cs[i]?) (hk : ∀ g, b0 < g → g < w.heap.size → w'.heap[g]? = w.heap[g]?) : RepAt w' b0 cs' i l := by
  obtain ⟨g, c, h0, h1, h2, h3⟩ := h
  exact ⟨g, c, h0, by omega, hc.trans h2, fun j hj => (World.cell?_of_block (w := w) (hk g h0 h1)).trans (h3 j hj)⟩

theorem stage_start (w : World) :
    Stage w.heap.size ((w.alloc (.cells #[.string ⟨#[]⟩, .string ⟨#[]⟩] 9)).alloc (.cells (bsr0 (.slice (some ⟨w.heap.size, 0, none⟩) 0 2)) 100)) 0
      (bsr0 (.slice (some ⟨w.heap.size, 0, none⟩) 0 2)) (.string ⟨#[]⟩) (.string ⟨#[]⟩) where
  row := (Blk.new w _ _).alloc _
  blk := by
    have := Blk.new (w.alloc (.cells #[.string ⟨#[]⟩, .string ⟨#[]⟩] 9)) 100 (bsr0 (.slice (some ⟨w.heap.size, 0, none⟩) 0 2))
    rwa [World.size_alloc] at this
  size := bsr0_size _
  last := bsr0_last _
  plain := fun i hi _ _ => bsr0_at _ i hi
  quot := bsr0_at _ 34 (by omega)
  back := bsr0_at _ 92 (by omega)
  first := by omega
  second := by omega

theorem stage0 {B : Nat} {w : World} {cs : Array Value} {s0 s1 : Value} (hS : Stage B w 0 cs s0 s1) (o1 o2 : Obj) (W : World) (c : Nat) (mk : Nat × Nat) :
    Stage B (((((((w.setCell ⟨B, 0, none⟩ (.string ⟨#[34]⟩)).setCell ⟨B + 1, 256, none⟩ (.slice (some ⟨B, 0, none⟩) 1 2)).setCell ⟨B + 1, 34, none⟩ (.slice (some ⟨w.heap.size + 1 + 1, 0, none⟩) 2 c)).alloc o1).alloc o2).alloc (.cells (bytesArr W ⟨#[92, 34]⟩) 5 mk)).drew) 1
      ((cs.setIfInBounds 256 (.slice (some ⟨B, 0, none⟩) 1 2)).setIfInBounds 34 (.slice (some ⟨w.heap.size + 1 + 1, 0, none⟩) 2 c)) (.string ⟨#[34]⟩) s1 where
  row := ((((((hS.row.set_ 0 _).far (p := ⟨B + 1, 256, none⟩) (by simp) _).far (p := ⟨B + 1, 34, none⟩) (by simp) _).alloc o1).alloc o2).alloc _).drew
  blk := ((((((hS.blk.far (p := ⟨B, 0, none⟩) (by simp) _).set_ 256 _).set_ 34 _).alloc o1).alloc o2).alloc _).drew
  size := by simp [hS.size]
  last := by
    rw [Array.getElem?_setIfInBounds_ne (by omega), Array.getElem?_setIfInBounds_self_of_lt (by rw [hS.size]; omega)]
  plain := fun i hi h1 h2 => by
    rw [Array.getElem?_setIfInBounds_ne (by omega), Array.getElem?_setIfInBounds_ne (by omega)]
    exact hS.plain i hi h1 h2
  quot := by
    rw [if_pos (by omega)]
    refine ⟨w.heap.size + 1 + 1, c, by have := hS.blk.lt; omega, by simp, ?_, fun j hj => ?_⟩
    · rw [Array.getElem?_setIfInBounds_self_of_lt (by simp [hS.size])]; rfl
    · have hc := World.cell?_alloc_mark ((((((w.setCell ⟨B, 0, none⟩ (.string ⟨#[34]⟩)).setCell ⟨B + 1, 256, none⟩ (.slice (some ⟨B, 0, none⟩) 1 2)).setCell ⟨B + 1, 34, none⟩ (.slice (some ⟨w.heap.size + 1 + 1, 0, none⟩) 2 c)).alloc o1).alloc o2)) (bytesArr W ⟨#[92, 34]⟩) 5 mk j
      have hsz : ((((((w.setCell ⟨B, 0, none⟩ (.string ⟨#[34]⟩)).setCell ⟨B + 1, 256, none⟩ (.slice (some ⟨B, 0, none⟩) 1 2)).setCell ⟨B + 1, 34, none⟩ (.slice (some ⟨w.heap.size + 1 + 1, 0, none⟩) 2 c)).alloc o1).alloc o2)).heap.size = w.heap.size + 1 + 1 := by simp [World.setCell]
      rw [hsz] at hc
      exact hc.trans (bytesArr_at W ⟨#[92, 34]⟩ j hj)
  back := by
    rw [if_neg (by omega), Array.getElem?_setIfInBounds_ne (by omega), Array.getElem?_setIfInBounds_ne (by omega)]
    have := hS.back
    rwa [if_neg (by omega)] at this
  first := fun _ => rfl
  second := by omega

theorem stage1 {B : Nat} {w : World} {cs : Array Value} {s0 s1 : Value} (hS : Stage B w 1 cs s0 s1) (o1 o2 : Obj) (W : World) (c : Nat) (mk : Nat × Nat) :
    ∃ cs', Stage B (((((((w.setCell ⟨B, 1, none⟩ (.string ⟨#[92]⟩)).setCell ⟨B + 1, 256, none⟩ (.slice (some ⟨B, 0, none⟩) 2 2)).setCell ⟨B + 1, 92, none⟩ (.slice (some ⟨w.heap.size + 1 + 1, 0, none⟩) 2 c)).alloc o1).alloc o2).alloc (.cells (bytesArr W ⟨#[92, 92]⟩) 5 mk)).drew) 2
      cs' s0 (.string ⟨#[92]⟩) := by
  have hB := hS.blk.lt
  refine ⟨(cs.setIfInBounds 256 (.slice (some ⟨B, 0, none⟩) 2 2)).setIfInBounds 92 (.slice (some ⟨w.heap.size + 1 + 1, 0, none⟩) 2 c), ?_⟩
  exact {
    row := ((((((hS.row.set_ 1 _).far (p := ⟨B + 1, 256, none⟩) (by simp) _).far (p := ⟨B + 1, 92, none⟩) (by simp) _).alloc o1).alloc o2).alloc _).drew
    blk := ((((((hS.blk.far (p := ⟨B, 1, none⟩) (by simp) _).set_ 256 _).set_ 92 _).alloc o1).alloc o2).alloc _).drew
    size := by simp [hS.size]
    last := by
      rw [Array.getElem?_setIfInBounds_ne (by omega), Array.getElem?_setIfInBounds_self_of_lt (by rw [hS.size]; omega)]
    plain := fun i hi h1 h2 => by
      rw [Array.getElem?_setIfInBounds_ne (by omega), Array.getElem?_setIfInBounds_ne (by omega)]
      exact hS.plain i hi h1 h2
    quot := by
      have hq := hS.quot
      rw [if_pos (by omega)] at hq ⊢
      refine hq.keep (by simp [World.setCell]; omega) (by rw [Array.getElem?_setIfInBounds_ne (by omega), Array.getElem?_setIfInBounds_ne (by omega)]) (fun g hg hl => ?_)
      show ((((((w.setCell ⟨B, 1, none⟩ (.string ⟨#[92]⟩)).setCell ⟨B + 1, 256, none⟩ (.slice (some ⟨B, 0, none⟩) 2 2)).setCell ⟨B + 1, 92, none⟩ (.slice (some ⟨w.heap.size + 1 + 1, 0, none⟩) 2 c)).alloc o1).alloc o2).alloc _).heap[g]? = _
      rw [Below.heap_alloc _ _ _ (by simp [World.setCell]; omega), Below.heap_alloc _ _ _ (by simp [World.setCell]; omega), Below.heap_alloc _ _ _ (by simp [World.setCell]; omega),
        Below.heap_setCell _ _ _ _ (by simp; omega), Below.heap_setCell _ _ _ _ (by simp; omega), Below.heap_setCell _ _ _ _ (by simp; omega)]
    back := by
      rw [if_pos (by omega)]
      refine ⟨w.heap.size + 1 + 1, c, by have := hS.blk.lt; omega, by simp, ?_, fun j hj => ?_⟩
      · rw [Array.getElem?_setIfInBounds_self_of_lt (by simp [hS.size])]; rfl
      · have hc := World.cell?_alloc_mark ((((((w.setCell ⟨B, 1, none⟩ (.string ⟨#[92]⟩)).setCell ⟨B + 1, 256, none⟩ (.slice (some ⟨B, 0, none⟩) 2 2)).setCell ⟨B + 1, 92, none⟩ (.slice (some ⟨w.heap.size + 1 + 1, 0, none⟩) 2 c)).alloc o1).alloc o2)) (bytesArr W ⟨#[92, 92]⟩) 5 mk j
        have hsz : ((((((w.setCell ⟨B, 1, none⟩ (.string ⟨#[92]⟩)).setCell ⟨B + 1, 256, none⟩ (.slice (some ⟨B, 0, none⟩) 2 2)).setCell ⟨B + 1, 92, none⟩ (.slice (some ⟨w.heap.size + 1 + 1, 0, none⟩) 2 c)).alloc o1).alloc o2)).heap.size = w.heap.size + 1 + 1 := by simp [World.setCell]
        rw [hsz] at hc
        exact hc.trans (bytesArr_at W ⟨#[92, 92]⟩ j hj)
    first := fun _ => hS.first (by omega)
    second := fun _ => rfl }
/-- A store into an older block than the replacer's. -/
theorem Stage.far {B : Nat} {w : World} {k : Nat} {cs : Array Value} {s0 s1 : Value} (hS : Stage B w k cs s0 s1) {p : Addr} (hp : p.block < B) (u : Value) : Stage B (w.setCell p u) k cs s0 s1 where
  row := hS.row.far (by omega) _
  blk := hS.blk.far (by omega) _
  size := hS.size
  last := hS.last
  plain := hS.plain
  quot := by
    have := hS.quot
    split at this
    · rw [if_pos (by assumption)]
      exact this.keep (by simp [World.setCell]) rfl (fun g hg _ => Below.heap_setCell _ _ _ _ (by omega))
    · rw [if_neg (by assumption)]; exact this
  back := by
    have := hS.back
    split at this
    · rw [if_pos (by assumption)]
      exact this.keep (by simp [World.setCell]) rfl (fun g hg _ => Below.heap_setCell _ _ _ _ (by omega))
    · rw [if_neg (by assumption)]; exact this
  first := hS.first
  second := hS.second
end Go.Proofs.YtgjdhndlbhbjhaaGreat
