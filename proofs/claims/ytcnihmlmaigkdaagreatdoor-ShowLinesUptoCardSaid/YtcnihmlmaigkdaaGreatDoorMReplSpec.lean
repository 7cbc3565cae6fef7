/- The replacer of the library for two bytes, in memory: what its block holds while it is built. The library's lock and once, as far as the replacer needs them: one goroutine, the lock free, not yet done. -/
import Derived.Test.YtcnihmlmaigkdaaGreatDoorMMem
import Derived.Test.YtcnihmlmaigkdaaGreatDoorProg
import Derived.Deep.WholeRow
import Derived.Laws.IdiomStrings
import Derived.KernelRfl
import Derived.Test.YtcnihmlmaigkdaaGreatDoorMNmSpec
import Derived.Test.YtcnihmlmaigkdaaGreatDoorChecked
import Derived.WalkKit
import Derived.BigGuardPart
import Derived.WalkSpells
import Derived.WalkLawsBesides
import Derived.Handy
import Derived.Outline
import Derived.Lib.SliceRun
import Derived.Test.YtcnihmlmaigkdaaGreatDoorLock
import Derived.Defers
namespace Go.Proofs.YtcnihmlmaigkdaaGreatDoor
open Go.RowKit

/-- A fresh byteStringReplacer: 256 nil slices, and the list of bytes. -/
noncomputable def bsr0 (q : Value) : Array Value := Tryz.zeroCells396.setIfInBounds 256 q
attribute [irreducible] bsr0
theorem zc_size : Tryz.zeroCells396.size = 257 := by kernel_rfl
theorem bsr0_size (q : Value) : (bsr0 q).size = 257 := by
  unfold bsr0; rw [Array.size_setIfInBounds, zc_size]
theorem zc_take : Tryz.zeroCells396.toList.take 256 = List.replicate 256 (.slice none 0 0) := by kernel_rfl
theorem zc_one : Tryz.zeroCells396.all (·.oneCell') = true := by kernel_rfl
theorem zc_info : (Tryz.prog.info? 396).map (·.size) = some 257 := by kernel_rfl
theorem bsr0_at (q : Value) (i : Nat) (hi : i < 256) : (bsr0 q)[i]? = some (.slice none 0 0) := by
  unfold bsr0
  rw [Array.getElem?_setIfInBounds_ne (by omega)]
  have h := congrArg (fun l => l[i]?) zc_take
  simp only [List.getElem?_take_of_lt hi, List.getElem?_replicate_of_lt hi] at h
  rw [← h, Array.getElem?_toList]
theorem bsr0_last (q : Value) : (bsr0 q)[256]? = some q := by
  unfold bsr0
  rw [Array.getElem?_setIfInBounds_self_of_lt]
  rw [zc_size]; omega
theorem bsr0_list (q : Value) : (bsr0 q).toList = Tryz.zeroCells396.toList.set 256 q := by unfold bsr0; exact Array.toList_setIfInBounds
theorem bsr0_one (n c : Nat) : (bsr0 (.slice (some ⟨n, 0, none⟩) 0 c)).all (·.oneCell') = true := by
  rw [← Array.all_toList, bsr0_list, List.all_eq_true]
  intro x hx
  rcases List.mem_or_eq_of_mem_set hx with h | h
  · have := zc_one
    rw [← Array.all_toList, List.all_eq_true] at this
    exact this x h
  · rw [h]; rfl
theorem bsr0_store (w : World) (n c : Nat) :
    (storeCells ⟨w.heap.size, 0, none⟩ (Tryz.zeroCells396.toList.set 256 (.slice (some ⟨n, 0, none⟩) 0 c))).run Tryz.prog (w.alloc (.cells Tryz.zeroCells396 396)) =
      .ok () (w.alloc (.cells (bsr0 (.slice (some ⟨n, 0, none⟩) 0 c)) 396)) := by
  have h := run_storeCells_new (P := Tryz.prog) w 396 Tryz.zeroCells396 (bsr0 (.slice (some ⟨n, 0, none⟩) 0 c)) (by rw [bsr0_size, zc_info]) (by rw [bsr0_size, zc_size]) (bsr0_one n c)
  rw [bsr0_list] at h
  exact h

/-- A string as new bytes: the capacity, the new block. -/
noncomputable def bytesCap (w : World) (n : Nat) : Nat := grownCap w n 0 5
noncomputable def bytesArr (w : World) (s : ByteArray) : Array Value := bytesRow s (grownCap w s.size 0 5)
theorem conv_run (s : ByteArray) (w : World) : (convert 9 97 (.string s)).run Tryz.prog w = .ok (.slice (some ⟨w.heap.size, 0, none⟩) s.size (bytesCap w s.size)) (w.drew.alloc (.cells (bytesArr w s) 5 ((bytesArr w s).size, (bytesArr w s).size + 1))) :=
  run_bytes_of_string w 9 97 5 s Tryz.underlying9 Tryz.underlying97 Tryz.underlying5
theorem conv_back (c : UInt8) (k : Nat) (W : World) (h : W.cell? ⟨k, 0, none⟩ = some (.int .u8 (c.toNat : Int))) : (convert 97 9 (.slice (some ⟨k, 0, none⟩) 1 1)).run Tryz.prog W = .ok (.string ⟨#[c]⟩) W := by
  have := run_convert_bytes_back (P := Tryz.prog) W 97 9 5 ⟨k, 0, none⟩ 1 [c] Tryz.underlying97 Tryz.underlying5 Tryz.underlying9 (by
    intro j hj
    obtain rfl : j = 0 := by simp at hj; exact hj
    exact h)
  exact this

/-- The bytes of a replacement lie in memory. -/
def RepAt (w : World) (b0 : Nat) (cs : Array Value) (i : Nat) (l : List UInt8) : Prop :=
  ∃ g c, b0 < g ∧ g < w.heap.size ∧ cs[i]? = some (.slice (some ⟨g, 0, none⟩) l.length c) ∧ ∀ j (h : j < l.length), w.cell? ⟨g, j, none⟩ = some (.int .u8 (l[j].toNat : Int))

/-- What the replacer's block holds when the loop stands at i = 2 - 2 * k. -/
structure Stage (B : Nat) (w : World) (k : Nat) (cs : Array Value) (s0 s1 : Value) : Prop where
  row : Blk w B 9 #[s0, s1]
  blk : Blk w (B + 1) 396 cs
  size : cs.size = 257
  last : cs[256]? = some (.slice (some ⟨B, 0, none⟩) k 2)
  plain : ∀ i, i < 256 → ¬ i = 34 → ¬ i = 92 → cs[i]? = some (.slice none 0 0)
  quot : if 1 ≤ k then RepAt w (B + 1) cs 34 [92, 34] else cs[34]? = some (.slice none 0 0)
  back : if 2 ≤ k then RepAt w (B + 1) cs 92 [92, 92] else cs[92]? = some (.slice none 0 0)
  first : 1 ≤ k → s0 = .string ⟨#[34]⟩
  second : 2 ≤ k → s1 = .string ⟨#[92]⟩

theorem bytesArr_at (w : World) (s : ByteArray) (j : Nat) (hj : j < s.data.size) : (bytesArr w s)[j]? = some (.int .u8 (s.data[j].toNat : Int)) := bytesRow_at s _ j hj

theorem RepAt.keep {w w' : World} {b0 : Nat} {cs cs' : Array Value} {i : Nat} {l : List UInt8} (h : RepAt w b0 cs i l) (hs : w.heap.size ≤ w'.heap.size)
    (hc : cs'[i]? = cs[i]?) (hk : ∀ g, b0 < g → g < w.heap.size → w'.heap[g]? = w.heap[g]?) : RepAt w' b0 cs' i l := by
  obtain ⟨g, c, h0, h1, h2, h3⟩ := h
  exact ⟨g, c, h0, by omega, hc.trans h2, fun j hj => (World.cell?_of_block (w := w) (hk g h0 h1)).trans (h3 j hj)⟩

theorem stage_start (w : World) :
    Stage w.heap.size ((w.alloc (.cells #[.string ⟨#[]⟩, .string ⟨#[]⟩] 9)).alloc (.cells (bsr0 (.slice (some ⟨w.heap.size, 0, none⟩) 0 2)) 396)) 0
      (bsr0 (.slice (some ⟨w.heap.size, 0, none⟩) 0 2)) (.string ⟨#[]⟩) (.string ⟨#[]⟩) where
  row := (Blk.new w _ _).alloc _
  blk := by
    have := Blk.new (w.alloc (.cells #[.string ⟨#[]⟩, .string ⟨#[]⟩] 9)) 396 (bsr0 (.slice (some ⟨w.heap.size, 0, none⟩) 0 2))
    rwa [World.size_alloc] at this
  size := bsr0_size _
  last := bsr0_last _
  plain := fun i hi _ _ => bsr0_at _ i hi
  quot := bsr0_at _ 34 (by omega)
  back := bsr0_at _ 92 (by omega)
  first := by omega
  second := by omega

theorem stage0 {B : Nat} {w : World} {cs : Array Value} {s0 s1 : Value} (hS : Stage B w 0 cs s0 s1) (o1 o2 : Obj) (W : World) (c : Nat) (mk : Nat × Nat) :
    Stage B (((((((w.setCell ⟨B, 0, none⟩ (.string ⟨#[34]⟩)).setCell ⟨B + 1, 256, none⟩ (.slice (some ⟨B, 0, none⟩) 1 2)).setCell ⟨B + 1, 34, none⟩ (.slice (some ⟨w.heap.size + 1 + 1, 0, none⟩) 2 c)).alloc o1).alloc o2).alloc (.cells (bytesArr W ⟨#[92, 34]⟩) 5 mk)).drew) 1
      ((cs.setIfInBounds 256 (.slice (some ⟨B, 0, none⟩) 1 2)).setIfInBounds 34 (.slice (some ⟨w.heap.size + 1 + 1, 0, none⟩) 2 c)) (.string ⟨#[34]⟩) s1 where
  row := ((((((hS.row.set_ 0 _).far (p := ⟨B + 1, 256, none⟩) (by simp) _).far (p := ⟨B + 1, 34, none⟩) (by simp) _).alloc o1).alloc o2).alloc _).drew
  blk := ((((((hS.blk.far (p := ⟨B, 0, none⟩) (by simp) _).set_ 256 _).set_ 34 _).alloc o1).alloc o2).alloc _).drew
  size := by simp [hS.size]
  last := by
    rw [Array.getElem?_setIfInBounds_ne (by omega), Array.getElem?_setIfInBounds_self_of_lt (by rw [hS.size]; omega)]
  plain := fun i hi h1 h2 => by
    rw [Array.getElem?_setIfInBounds_ne (by omega), Array.getElem?_setIfInBounds_ne (by omega)]
    exact hS.plain i hi h1 h2
  quot := by
    rw [if_pos (by omega)]
    refine ⟨w.heap.size + 1 + 1, c, by have := hS.blk.lt; omega, by simp, ?_, fun j hj => ?_⟩
    · rw [Array.getElem?_setIfInBounds_self_of_lt (by simp [hS.size])]; rfl
    · have hc := World.cell?_alloc_mark ((((((w.setCell ⟨B, 0, none⟩ (.string ⟨#[34]⟩)).setCell ⟨B + 1, 256, none⟩ (.slice (some ⟨B, 0, none⟩) 1 2)).setCell ⟨B + 1, 34, none⟩ (.slice (some ⟨w.heap.size + 1 + 1, 0, none⟩) 2 c)).alloc o1).alloc o2)) (bytesArr W ⟨#[92, 34]⟩) 5 mk j
      have hsz : ((((((w.setCell ⟨B, 0, none⟩ (.string ⟨#[34]⟩)).setCell ⟨B + 1, 256, none⟩ (.slice (some ⟨B, 0, none⟩) 1 2)).setCell ⟨B + 1, 34, none⟩ (.slice (some ⟨w.heap.size + 1 + 1, 0, none⟩) 2 c)).alloc o1).alloc o2)).heap.size = w.heap.size + 1 + 1 := by simp [World.setCell]
      rw [hsz] at hc
      exact hc.trans (bytesArr_at W ⟨#[92, 34]⟩ j hj)
  back := by
    rw [if_neg (by omega), Array.getElem?_setIfInBounds_ne (by omega), Array.getElem?_setIfInBounds_ne (by omega)]
    have := hS.back
    rwa [if_neg (by omega)] at this
  first := fun _ => rfl
  second := by omega

theorem stage1 {B : Nat} {w : World} {cs : Array Value} {s0 s1 : Value} (hS : Stage B w 1 cs s0 s1) (o1 o2 : Obj) (W : World) (c : Nat) (mk : Nat × Nat) :
    ∃ cs', Stage B (((((((w.setCell ⟨B, 1, none⟩ (.string ⟨#[92]⟩)).setCell ⟨B + 1, 256, none⟩ (.slice (some ⟨B, 0, none⟩) 2 2)).setCell ⟨B + 1, 92, none⟩ (.slice (some ⟨w.heap.size + 1 + 1, 0, none⟩) 2 c)).alloc o1).alloc o2).alloc (.cells (bytesArr W ⟨#[92, 92]⟩) 5 mk)).drew) 2
      cs' s0 (.string ⟨#[92]⟩) := by
  have hB := hS.blk.lt
  refine ⟨(cs.setIfInBounds 256 (.slice (some ⟨B, 0, none⟩) 2 2)).setIfInBounds 92 (.slice (some ⟨w.heap.size + 1 + 1, 0, none⟩) 2 c), ?_⟩
  exact {
    row := ((((((hS.row.set_ 1 _).far (p := ⟨B + 1, 256, none⟩) (by simp) _).far (p := ⟨B + 1, 92, none⟩) (by simp) _).alloc o1).alloc o2).alloc _).drew
    blk := ((((((hS.blk.far (p := ⟨B, 1, none⟩) (by simp) _).set_ 256 _).set_ 92 _).alloc o1).alloc o2).alloc _).drew
    size := by simp [hS.size]
    last := by
      rw [Array.getElem?_setIfInBounds_ne (by omega), Array.getElem?_setIfInBounds_self_of_lt (by rw [hS.size]; omega)]
    plain := fun i hi h1 h2 => by
      rw [Array.getElem?_setIfInBounds_ne (by omega), Array.getElem?_setIfInBounds_ne (by omega)]
      exact hS.plain i hi h1 h2
    quot := by
      have hq := hS.quot
      rw [if_pos (by omega)] at hq ⊢
      refine hq.keep (by simp [World.setCell]; omega) (by rw [Array.getElem?_setIfInBounds_ne (by omega), Array.getElem?_setIfInBounds_ne (by omega)]) (fun g hg hl => ?_)
      show ((((((w.setCell ⟨B, 1, none⟩ (.string ⟨#[92]⟩)).setCell ⟨B + 1, 256, none⟩ (.slice (some ⟨B, 0, none⟩) 2 2)).setCell ⟨B + 1, 92, none⟩ (.slice (some ⟨w.heap.size + 1 + 1, 0, none⟩) 2 c)).alloc o1).alloc o2).alloc _).heap[g]? = _
      rw [Below.heap_alloc _ _ _ (by simp [World.setCell]; omega), Below.heap_alloc _ _ _ (by simp [World.setCell]; omega), Below.heap_alloc _ _ _ (by simp [World.setCell]; omega),
        Below.heap_setCell _ _ _ _ (by simp; omega), Below.heap_setCell _ _ _ _ (by simp; omega), Below.heap_setCell _ _ _ _ (by simp; omega)]
    back := by
      rw [if_pos (by omega)]
      refine ⟨w.heap.size + 1 + 1, c, by have := hS.blk.lt; omega, by simp, ?_, fun j hj => ?_⟩
      · rw [Array.getElem?_setIfInBounds_self_of_lt (by simp [hS.size])]; rfl
      · have hc := World.cell?_alloc_mark ((((((w.setCell ⟨B, 1, none⟩ (.string ⟨#[92]⟩)).setCell ⟨B + 1, 256, none⟩ (.slice (some ⟨B, 0, none⟩) 2 2)).setCell ⟨B + 1, 92, none⟩ (.slice (some ⟨w.heap.size + 1 + 1, 0, none⟩) 2 c)).alloc o1).alloc o2)) (bytesArr W ⟨#[92, 92]⟩) 5 mk j
        have hsz : ((((((w.setCell ⟨B, 1, none⟩ (.string ⟨#[92]⟩)).setCell ⟨B + 1, 256, none⟩ (.slice (some ⟨B, 0, none⟩) 2 2)).setCell ⟨B + 1, 92, none⟩ (.slice (some ⟨w.heap.size + 1 + 1, 0, none⟩) 2 c)).alloc o1).alloc o2)).heap.size = w.heap.size + 1 + 1 := by simp [World.setCell]
        rw [hsz] at hc
        exact hc.trans (bytesArr_at W ⟨#[92, 92]⟩ j hj)
    first := fun _ => hS.first (by omega)
    second := fun _ => rfl }
/-- A store into an older block than the replacer's. -/
theorem Stage.far {B : Nat} {w : World} {k : Nat} {cs : Array Value} {s0 s1 : Value} (hS : Stage B w k cs s0 s1) {p : Addr} (hp : p.block < B) (u : Value) : Stage B (w.setCell p u) k cs s0 s1 where
  row := hS.row.far (by omega) _
  blk := hS.blk.far (by omega) _
  size := hS.size
  last := hS.last
  plain := hS.plain
  quot := by
    have := hS.quot
    split at this
    · rw [if_pos (by assumption)]
      exact this.keep (by simp [World.setCell]) rfl (fun g hg _ => Below.heap_setCell _ _ _ _ (by omega))
    · rw [if_neg (by assumption)]; exact this
  back := by
    have := hS.back
    split at this
    · rw [if_pos (by assumption)]
      exact this.keep (by simp [World.setCell]) rfl (fun g hg _ => Below.heap_setCell _ _ _ _ (by omega))
    · rw [if_neg (by assumption)]; exact this
  first := hS.first
  second := hS.second
end Go.Proofs.YtcnihmlmaigkdaaGreatDoor
namespace Go.Proofs.YtcnihmlmaigkdaaGreatDoor
open Go.RowKit Go.Lib

set_option maxRecDepth 100000 in
set_option maxHeartbeats 1000000 in
theorem build_calls (b o c : Nat) (w : World) (ho : o < w.heap.size) (h4 : w.cell? ⟨b, 4, none⟩ = some (.slice (some ⟨o, 0, none⟩) 4 c))
    (g0 : w.cell? ⟨o, 0, none⟩ = some (.string ⟨#[92]⟩)) (g1 : w.cell? ⟨o, 1, none⟩ = some (.string ⟨#[92, 92]⟩))
    (g2 : w.cell? ⟨o, 2, none⟩ = some (.string ⟨#[34]⟩)) (g3 : w.cell? ⟨o, 3, none⟩ = some (.string ⟨#[92, 34]⟩)) :
    Calls Tryz.prog 273 #[.pointer (some ⟨b, 0, none⟩)] w fun e w' =>
      e = .returned (.iface 397 (.pointer (some ⟨w.heap.size + 1, 0, none⟩))) ∧ Below w.heap.size w w' ∧ ∃ cs s0 s1, Stage w.heap.size w' 2 cs s0 s1 := by
  have hmk : ∀ w, (Instr.makeSlice 34 (.int .i64 0) (.int .i64 2)).run Tryz.prog w = .ok (.slice (some ⟨w.heap.size, 0, none⟩) 0 2) (w.alloc (.cells #[.string ⟨#[]⟩, .string ⟨#[]⟩] 9)) := fun _ => by kernel_rfl
  have hst := bsr0_store (w.alloc (.cells #[.string ⟨#[]⟩, .string ⟨#[]⟩] 9)) w.heap.size 2
  rw [World.size_alloc] at hst
  have x34 : ∀ h, ((⟨#[34]⟩ : ByteArray)[0]'h).toNat = 34 := fun _ => rfl
  have x92 : ∀ h, ((⟨#[92]⟩ : ByteArray)[0]'h).toNat = 92 := fun _ => rfl
  have hnil := fun (a : Option Addr) (n c : Nat) (W : World) => Lib.run_eql_slice_nil (P := Tryz.prog) W 97 5 a n c 0 0 Tryz.underlying97
  have hcv := conv_run
  have hcv2 := conv_back 34
  have hcv3 := conv_back 92
  have e34 : ((34 : UInt8).toNat : Int) = 34 := rfl
  have e92 : ((92 : UInt8).toNat : Int) = 92 := rfl
  rw [e34] at hcv2
  rw [e92] at hcv3
  clear e34 e92
  go_enter Tryz.func273, Tryz.ntmps273
  go_wp2_with fail
  go_rounds 3
  go_wp2_with fail
  clear hst hmk h4
  go_loopw [12, 13, 14] (fun i _ _ wr => Below w.heap.size w wr ∧ ∃ (k : Nat) (cs : Array Value) (s0 s1 : Value), k ≤ 2 ∧ i = .int .i64 (2 - 2 * (k : Int)) ∧ Stage w.heap.size wr k cs s0 s1) (fun i _ _ _ => (intOf i + 2).toNat)
  case atStart =>
    exact ⟨((Below.refl _ _).alloc (Nat.le_refl _) _).alloc (by simp) _, 0, _, _, _, by omega, rfl, stage_start w⟩
  case round =>
    obtain ⟨hb, k, cs, s0, s1, hk, rfl, hS⟩ := hrel
    have c0 : wr.cell? ⟨o, 0, none⟩ = some (.string ⟨#[92]⟩) := (hb.cell (p := ⟨o, 0, none⟩) ho).trans g0
    have c1 : wr.cell? ⟨o, 1, none⟩ = some (.string ⟨#[92, 92]⟩) := (hb.cell (p := ⟨o, 1, none⟩) ho).trans g1
    have c2 : wr.cell? ⟨o, 2, none⟩ = some (.string ⟨#[34]⟩) := (hb.cell (p := ⟨o, 2, none⟩) ho).trans g2
    have c3 : wr.cell? ⟨o, 3, none⟩ = some (.string ⟨#[92, 34]⟩) := (hb.cell (p := ⟨o, 3, none⟩) ho).trans g3
    clear g0 g1 g2 g3
    have z1 := hS.blk.lt
    have z0 : w.heap.size < wr.heap.size := by omega
    have ho' : o < wr.heap.size := by omega
    have f0 := fun i => hS.row.frozen i
    have f1 := fun i => hS.blk.frozen i
    have hS' := hide hS
    have hb' := hide hb
    clear hb
    obtain rfl | rfl | rfl : k = 0 ∨ k = 1 ∨ k = 2 := by omega
    · have r0 : wr.cell? ⟨w.heap.size, 0, none⟩ = some s0 := hS.row.cell 0
      have r1 := (hS.blk.cell 34).trans hS.quot
      have r2 := (hS.blk.cell 256).trans hS.last
      clear hS
      go_wp2
      refine ⟨⟨?_, 1, _, _, _, by omega, rfl, stage0 hS'.out _ _ _ _ _⟩, by decide⟩
      exact (((((((hb'.out.setCell (p := ⟨w.heap.size, 0, none⟩) (Nat.le_refl _) _).setCell (p := ⟨w.heap.size + 1, 256, none⟩) (by simp) _).setCell (p := ⟨w.heap.size + 1, 34, none⟩) (by simp) _).alloc (by simp [World.setCell]; omega) _).alloc (by simp [World.setCell]; omega) _).alloc (by simp [World.setCell]; omega) _).drew)
    · have r0 : wr.cell? ⟨w.heap.size, 1, none⟩ = some s1 := hS.row.cell 1
      have r1 := (hS.blk.cell 92).trans hS.back
      have r2 := (hS.blk.cell 256).trans hS.last
      clear hS
      go_wp2
      obtain ⟨cs', h1⟩ := stage1 hS'.out (.cells #[.int .u8 92] 5) (.cells #[.string ⟨#[92]⟩] 9) _ _ _
      refine ⟨⟨?_, 2, _, _, _, by omega, rfl, h1⟩, by decide⟩
      exact (((((((hb'.out.setCell (p := ⟨w.heap.size, 1, none⟩) (Nat.le_refl _) _).setCell (p := ⟨w.heap.size + 1, 256, none⟩) (by simp) _).setCell (p := ⟨w.heap.size + 1, 92, none⟩) (by simp) _).alloc (by simp [World.setCell]; omega) _).alloc (by simp [World.setCell]; omega) _).alloc (by simp [World.setCell]; omega) _).drew)
    · clear hS
      go_wp2
      go_ret
      exact ⟨rfl, hb'.out, _, _, _, hS'.out⟩
end Go.Proofs.YtcnihmlmaigkdaaGreatDoor
namespace Go.Proofs.YtcnihmlmaigkdaaGreatDoor
open Go.RowKit Go.Lib

/-- What lies behind 'buildOnce' in the replacer's own block, and the replacer for bytes that it points to. -/
def Built (w : World) (b : Nat) (d s : Int) : Prop :=
  ∃ G cs s0 s1, b < G ∧ Blk w b 323 #[.int .u32 d, .int .i32 s, .int .u32 0, .iface 397 (.pointer (some ⟨G + 1, 0, none⟩)), .slice none 0 0] ∧ Stage G w 2 cs s0 s1

set_option maxHeartbeats 1000000 in
theorem buildOnce_calls (b o c : Nat) (s : Int) (w : World)
    (hB : Blk w b 323 #[.int .u32 0, .int .i32 s, .int .u32 0, .nilIface, .slice (some ⟨o, 0, none⟩) 4 c])
    (g0 : w.cell? ⟨o, 0, none⟩ = some (.string ⟨#[92]⟩)) (g1 : w.cell? ⟨o, 1, none⟩ = some (.string ⟨#[92, 92]⟩))
    (g2 : w.cell? ⟨o, 2, none⟩ = some (.string ⟨#[34]⟩)) (g3 : w.cell? ⟨o, 3, none⟩ = some (.string ⟨#[92, 34]⟩)) :
    Calls Tryz.prog 236 #[.pointer (some ⟨b, 0, none⟩)] w fun e w' => e = .returned (.tuple #[]) ∧ w.grownBy w' (some b) ∧ Built w' b 0 s := by
  have hc := build_calls b o c w (cell_lt g0) (hB.cell 4) g0 g1 g2 g3
  have hb := hB.lt
  have r0 : w.cell? ⟨b, 0, none⟩ = some (.int .u32 0) := hB.cell 0
  go_enter Tryz.func236, Tryz.ntmps236
  clear g0 g1 g2 g3
  have H := hide hc
  clear hc
  go_wp2_with (go_at_call 273; refine H.out.mono ?_; rintro e w1 ⟨rfl, hb1, cs, s0, s1, hS⟩; have hB1 := hB.below hb1 hb; have k3 : w1.cell? ⟨b, 3, none⟩ = some .nilIface := hB1.cell 3; have k4 : w1.cell? ⟨b, 4, none⟩ = some (.slice (some ⟨o, 0, none⟩) 4 c) := hB1.cell 4; have kf := fun i => hB1.frozen i)
  go_end0
  refine ⟨rfl, only_setCell (p := ⟨b, 4, none⟩) (only_setCell (p := ⟨b, 3, none⟩) (only_of_below hb1 _) (.inl rfl) _) (.inl rfl) _, w.heap.size, cs, s0, s1, hb, (hB1.set_ 3 _).set_ 4 _, ?_⟩
  exact (hS.far (p := ⟨b, 3, none⟩) hb _).far (p := ⟨b, 4, none⟩) hb _
theorem Built.done {w : World} {b : Nat} {d s : Int} (h : Built w b d s) (x : Int) : Built (w.setCell ⟨b, 0, none⟩ (.int .u32 x)) b x s := by
  obtain ⟨G, cs, s0, s1, hG, hB, hS⟩ := h
  exact ⟨G, cs, s0, s1, hG, hB.set_ 0 _, hS.far (p := ⟨b, 0, none⟩) hG _⟩
theorem Built.state {w : World} {b : Nat} {d s : Int} (h : Built w b d s) (x : Int) : Built (w.setCell ⟨b, 1, none⟩ (.int .i32 x)) b d x := by
  obtain ⟨G, cs, s0, s1, hG, hB, hS⟩ := h
  exact ⟨G, cs, s0, s1, hG, hB.set_ 1 _, hS.far (p := ⟨b, 1, none⟩) hG _⟩
theorem Built.drew {w : World} {b : Nat} {d s : Int} (h : Built w b d s) : Built w.drew b d s := by
  obtain ⟨G, cs, s0, s1, hG, hB, hS⟩ := h
  exact ⟨G, cs, s0, s1, hG, hB, ⟨hS.row, hS.blk, hS.size, hS.last, hS.plain, hS.quot, hS.back, hS.first, hS.second⟩⟩
theorem Built.cells {w : World} {b : Nat} {d s : Int} (h : Built w b d s) :
    w.cell? ⟨b, 0, none⟩ = some (.int .u32 d) ∧ w.cell? ⟨b, 1, none⟩ = some (.int .i32 s) ∧ ∀ i, w.frozen? ⟨b, i, none⟩ = false := by
  obtain ⟨G, cs, s0, s1, hG, hB, hS⟩ := h
  exact ⟨hB.cell 0, hB.cell 1, fun i => hB.frozen i⟩

set_option maxRecDepth 100000 in
set_option maxHeartbeats 1600000 in
theorem doSlow_calls (b o c : Nat) (w : World)
    (hB : Blk w b 323 #[.int .u32 0, .int .i32 0, .int .u32 0, .nilIface, .slice (some ⟨o, 0, none⟩) 4 c]) (hbo : b ≠ o)
    (g0 : w.cell? ⟨o, 0, none⟩ = some (.string ⟨#[92]⟩)) (g1 : w.cell? ⟨o, 1, none⟩ = some (.string ⟨#[92, 92]⟩))
    (g2 : w.cell? ⟨o, 2, none⟩ = some (.string ⟨#[34]⟩)) (g3 : w.cell? ⟨o, 3, none⟩ = some (.string ⟨#[92, 34]⟩)) :
    Calls Tryz.prog 272 #[.pointer (some ⟨b, 0, none⟩), .func (.func 236) #[.pointer (some ⟨b, 0, none⟩)] #[]] w
      fun e w' => e = .returned (.tuple #[]) ∧ w.grownBy w' (some b) ∧ Built w' b 1 0 := by
  have ne : ∀ j, (⟨b, 1, none⟩ : Addr) ≠ ⟨o, j, none⟩ := fun j h => hbo (congrArg Addr.block h)
  have hB1 : Blk (w.setCell ⟨b, 1, none⟩ (.int .i32 1)) b 323 #[.int .u32 0, .int .i32 1, .int .u32 0, .nilIface, .slice (some ⟨o, 0, none⟩) 4 c] := hB.set_ 1 _
  have hc := buildOnce_calls b o c 1 (w.setCell ⟨b, 1, none⟩ (.int .i32 1)) hB1
    ((World.cell?_setCell_other _ _ _ _ (ne 0)).trans g0) ((World.cell?_setCell_other _ _ _ _ (ne 1)).trans g1) ((World.cell?_setCell_other _ _ _ _ (ne 2)).trans g2) ((World.cell?_setCell_other _ _ _ _ (ne 3)).trans g3)
  have H := hide hc
  have k0 : w.cell? ⟨b, 0, none⟩ = some (.int .u32 0) := hB.cell 0
  have k1 : w.cell? ⟨b, 1, none⟩ = some (.int .i32 0) := hB.cell 1
  have f1 : w.frozen? ⟨b, 1, none⟩ = false := hB.frozen 1
  have hl := run_call_load (P := Tryz.prog) Tryz.func323 (by kernel_rfl) (by kernel_rfl) (by kernel_rfl) .u32 (by kernel_rfl) (w := w.setCell ⟨b, 1, none⟩ (.int .i32 1)) (a := ⟨b, 0, none⟩) (x := 0) (hB1.cell 0)
  have hnot : ∀ (x : Bool) (w : World), (Op.unary .not (.bool x)).run Tryz.prog w = .ok (.bool (!x)) w := fun _ _ => rfl
  have hgr := only_setCell (a := w) (p := ⟨b, 1, none⟩) (only_of_below (Below.refl w.heap.size w) (some b)) (.inl rfl) (.int .i32 1)
  clear hc g0 g1 g2 g3 hB hB1 ne
  go_enter_defers Tryz.func272, Tryz.ntmps272
  go_wp2_with (first | (go_at_call 324; refine (lock_free ⟨b, 1, none⟩ _ k1 f1).mono ?_; rintro e w' ⟨rfl, rfl⟩) | (go_at_call 271; go_in) | (go_at_call 236; refine H.out.mono ?_; rintro e w2 ⟨rfl, hg2, hb2⟩))
  obtain ⟨q0, q1, qf⟩ := hb2.cells
  refine leaves_cons (f := 326) (args := #[.pointer (some ⟨b, 0, none⟩), .bool true]) (by simp) (by simp [go_sem]) ?_
  refine (store_deferred ⟨b, 0, none⟩ (.int .u32 0) .returning _ q0 (qf 0)).mono ?_
  rintro e u' w'' ⟨rfl, rfl, rfl⟩
  have hb3 := hb2.drew.done 1
  obtain ⟨r0, r1, rf⟩ := hb3.cells
  refine leaves_cons (f := 325) (args := #[.pointer (some ⟨b, 1, none⟩)]) (by simp [settle]) (by simp [go_sem]) ?_
  refine (unlock_deferred ⟨b, 1, none⟩ _ _ r1 (rf 1)).mono ?_
  rintro e u' w'' ⟨rfl, rfl, rfl⟩
  have hb4 := hb3.state 0
  have hgr2 := only_setCell (p := ⟨b, 1, none⟩) (only_setCell (p := ⟨b, 0, none⟩) (only_drew (hgr.trans hg2)) (.inl rfl) (.int .u32 1)) (.inl rfl) (.int .i32 0)
  simp [Leaves, settle, results, Tryz.results272]
  exact ⟨hgr2, hb4⟩

theorem Do_calls (b o c : Nat) (w : World)
    (hB : Blk w b 323 #[.int .u32 0, .int .i32 0, .int .u32 0, .nilIface, .slice (some ⟨o, 0, none⟩) 4 c]) (hbo : b ≠ o)
    (g0 : w.cell? ⟨o, 0, none⟩ = some (.string ⟨#[92]⟩)) (g1 : w.cell? ⟨o, 1, none⟩ = some (.string ⟨#[92, 92]⟩))
    (g2 : w.cell? ⟨o, 2, none⟩ = some (.string ⟨#[34]⟩)) (g3 : w.cell? ⟨o, 3, none⟩ = some (.string ⟨#[92, 34]⟩)) :
    Calls Tryz.prog 235 #[.pointer (some ⟨b, 0, none⟩), .func (.func 236) #[.pointer (some ⟨b, 0, none⟩)] #[]] w
      fun e w' => e = .returned (.tuple #[]) ∧ w.grownBy w' (some b) ∧ Built w' b 1 0 := by
  have H := hide (doSlow_calls b o c w hB hbo g0 g1 g2 g3)
  have k0 : w.cell? ⟨b, 0, none⟩ = some (.int .u32 0) := hB.cell 0
  have hl := run_call_load (P := Tryz.prog) Tryz.func323 (by kernel_rfl) (by kernel_rfl) (by kernel_rfl) .u32 (by kernel_rfl) (w := w) (a := ⟨b, 0, none⟩) (x := 0) k0
  have hnot : ∀ (x : Bool) (w : World), (Op.unary .not (.bool x)).run Tryz.prog w = .ok (.bool (!x)) w := fun _ _ => rfl
  clear g0 g1 g2 g3 hB
  go_enter Tryz.func235, Tryz.ntmps235
  go_wp2_with (first | (go_at_call 272; refine H.out.mono ?_; rintro e w2 ⟨rfl, hg2, hb2⟩) | (go_at_call 271; go_in))
  go_end0
  exact ⟨rfl, hg2, hb2⟩
end Go.Proofs.YtcnihmlmaigkdaaGreatDoor
