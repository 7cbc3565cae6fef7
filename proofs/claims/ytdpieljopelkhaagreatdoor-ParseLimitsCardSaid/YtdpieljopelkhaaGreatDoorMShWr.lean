/- show: the writer of lines in memory, id and line (chapter 08). parse.Word (chapter 07). parse.Rights (chapter 07). -/
import Derived.Test.YtdpieljopelkhaaGreatDoorMShSpec
import Derived.Test.YtdpieljopelkhaaGreatDoorNuFmt10
import Derived.Test.YtdpieljopelkhaaGreatDoorMReplSpec2
import Derived.Test.YtdpieljopelkhaaGreatDoorMMem
import Derived.Deep.RegionHeld3
import Derived.BigQuiet
import Derived.Test.YtdpieljopelkhaaGreatDoorBld
import Derived.Handy
import Derived.WalkLawsBesides
import Derived.WalkSpells
namespace Go.Proofs.YtdpieljopelkhaaGreatDoor
open Go.RowKit Go.Lib
set_option linter.unusedVariables false

def ofL (l : List UInt8) : ByteArray := ⟨l.toArray⟩
theorem ret_s {a b : ByteArray} (h : a = b) : Ending.returned (.string a) = .returned (.string b) := by rw [h]
section
variable {B C C' g : Nat} {L : List ByteArray} {w w' : World}
end
end Go.Proofs.YtdpieljopelkhaaGreatDoor
namespace Go.Proofs.YtdpieljopelkhaaGreatDoor
open Go.RowKit Go.Lib
set_option linter.unusedVariables false

set_option maxRecDepth 100000 in
set_option maxHeartbeats 4000000 in
theorem Word_high (r : Nat) (hr : 7 < r) (hr2 : r < 256) (w : World) :
    Calls Tryz.prog 16 #[.int .u8 (r : Int)] w fun e w' => e = .returned (.string (ofL [])) ∧ Below w.heap.size w w' := by
  have h1 : (7 : Int) < (r : Int) := by omega
  go_enter Tryz.func16, Tryz.ntmps16
  go_wp2
  go_ret
  exact ⟨rfl, Below.refl _ _⟩
def letsTo (r k : Nat) : List UInt8 := (if 0 < k ∧ r % 2 = 1 then [114] else []) ++ (if 1 < k ∧ r / 2 % 2 = 1 then [119] else []) ++ (if 2 < k ∧ r / 4 % 2 = 1 then [120] else [])
def setIter (W : World) (g : Nat) (s : ByteArray) (p : Nat) : World := { W with heap := W.heap.setIfInBounds g (.stringIter s p) }
theorem run_next_at {P : Program} (W : World) (g : Nat) (s : ByteArray) (pos : Nat) (ty : TypeId) (hg : W.heap[g]? = some (.stringIter s pos)) (h : pos < s.size) (ha : (s[pos]'h).toNat < 128) :
    (Instr.next (.pointer (some ⟨g, 0, none⟩)) true ty).run P W = .ok (.tuple #[.bool true, .int .i64 pos, .int .i32 (s[pos]'h).toNat]) (setIter W g s (pos + 1)) := by
  simp only [Instr.next, getObj, setObj, Sem.run_bind, Sem.run, hg, Result.andThen, h, if_true, decode_ascii s pos h ha]
  simp [goInt, setIter]
theorem run_next_over {P : Program} (W : World) (g : Nat) (s : ByteArray) (pos : Nat) (ty : TypeId) (hg : W.heap[g]? = some (.stringIter s pos)) (h : ¬ pos < s.size) :
    (Instr.next (.pointer (some ⟨g, 0, none⟩)) true ty).run P W = .ok (.tuple #[.bool false]) W := by
  simp [Instr.next, getObj, Sem.run, hg, h]
theorem setIter_at (W : World) (g : Nat) (s : ByteArray) (p : Nat) (hg : g < W.heap.size) : (setIter W g s p).heap[g]? = some (.stringIter s p) := by simp [setIter, hg]
theorem setIter_far (W : World) (g : Nat) (s : ByteArray) (p i : Nat) (hi : i ≠ g) : (setIter W g s p).heap[i]? = W.heap[i]? := by simp [setIter, Ne.symm hi]
theorem setIter_below {B : Nat} {w W : World} (h : Below B w W) (g : Nat) (hg : B ≤ g) (s : ByteArray) (p : Nat) : Below B w (setIter W g s p) :=
  ⟨h.os, h.tape, h.output, by simpa [setIter] using h.size, fun i hi => (setIter_far W g s p i (by omega)).trans (h.block i hi)⟩
theorem bld_iter {B b : Nat} {l : List UInt8} {W : World} (h : Bld B b l W) (g : Nat) (s : ByteArray) (p q : Nat) (hg : W.heap[g]? = some (.stringIter s p)) : Bld B b l (setIter W g s q) := by
  have key : ∀ v, Lib.BuilderAt 80 5 B b v (Lib.byteCells l) W → Lib.BuilderAt 80 5 B b v (Lib.byteCells l) (setIter W g s q) := by
    rintro v ⟨h1, u, h2, h3, h4⟩
    have hb : b ≠ g := fun e => by subst e; rw [hg] at h2; cases h2
    refine ⟨h1, u, (setIter_far W g s q b hb).trans h2, ⟨h3.1, ?_⟩, h4⟩
    rcases h3.2 with h0 | ⟨r, cap, cur, hv, hb2, hr, h5⟩
    · exact .inl h0
    · have hrg : r ≠ g := fun e => by subst e; rw [hg] at hr; cases hr
      exact .inr ⟨r, cap, cur, hv, hb2, (setIter_far W g s q r hrg).trans hr, h5⟩
  rcases h with h | h
  · exact .inl (key _ h)
  · exact .inr (key _ h)
abbrev rwx : ByteArray := ⟨#[114, 119, 120]⟩
/-- In Word's loop. -/
def WdS (w : World) (r k : Nat) (W : World) : Prop := Bld w.heap.size w.heap.size (letsTo r k) W ∧ W.heap[w.heap.size + 1]? = some (.stringIter rwx k) ∧ Below w.heap.size w W
theorem WdS.start (w : World) (r : Nat) : WdS w r 0 ((w.alloc (.cells #[.pointer none, .slice none 0 0] 80)).iter rwx 0) := by
  have hb : Below (w.alloc (.cells #[.pointer none, .slice none 0 0] 80)).heap.size (w.alloc (.cells #[.pointer none, .slice none 0 0] 80)) ((w.alloc (.cells #[.pointer none, .slice none 0 0] 80)).iter rwx 0) := (Below.refl _ _).alloc (Nat.le_refl _) _
  refine ⟨.inl ⟨Nat.le_refl _, .slice none 0 0, ?_, ?_, by simp [Value.ownBlock]⟩, ?_, ?_⟩
  · rw [hb.block w.heap.size (by simp)]; exact heap_alloc_new w _
  · simp [letsTo, Lib.byteCells]; exact World.ownsRow_nil _ _ _ _
  · have := World.iter_heap (w.alloc (.cells #[.pointer none, .slice none 0 0] 80)) rwx 0
    rwa [World.size_alloc] at this
  · exact ((Below.refl _ w).alloc (Nat.le_refl _) _).trans (hb.mono (by simp))
/-- The iterator goes on. -/
theorem WdS.next {w W : World} {r k : Nat} (h : WdS w r k W) : Bld w.heap.size w.heap.size (letsTo r k) (setIter W (w.heap.size + 1) rwx (k + 1)) ∧ (setIter W (w.heap.size + 1) rwx (k + 1)).heap[w.heap.size + 1]? = some (.stringIter rwx (k + 1)) ∧ Below w.heap.size w (setIter W (w.heap.size + 1) rwx (k + 1)) := by
  have hl : w.heap.size + 1 < W.heap.size := by
    rcases Nat.lt_or_ge (w.heap.size + 1) W.heap.size with h' | h'
    · exact h'
    · have := h.2.1; simp [Array.getElem?_eq_none h'] at this
  exact ⟨bld_iter h.1 _ _ _ _ h.2.1, setIter_at W _ _ _ hl, setIter_below h.2.2 _ (by omega) _ _⟩
theorem WdS.wrote {w W W' : World} {r k : Nat} {c : UInt8} {l : List UInt8} (h : W.heap[w.heap.size + 1]? = some (.stringIter rwx (k + 1)) ∧ Below w.heap.size w W) (hb : Bld w.heap.size w.heap.size l W') (hl : l = letsTo r (k + 1)) (h2 : Below w.heap.size W W') (ho : Oth w.heap.size W W') : WdS w r (k + 1) W' := by
  have hlt : w.heap.size + 1 < W.heap.size := by
    rcases Nat.lt_or_ge (w.heap.size + 1) W.heap.size with h' | h'
    · exact h'
    · have := h.1; simp [Array.getElem?_eq_none h'] at this
  subst hl
  refine ⟨hb, (ho _ hlt (by omega) (fun cs fr e => ?_)).trans h.1, h.2.trans h2⟩
  rw [h.1] at e; cases e
theorem WdS.skip {w W : World} {r k : Nat} (h : WdS w r k W) (he : letsTo r (k + 1) = letsTo r k) : WdS w r (k + 1) (setIter W (w.heap.size + 1) rwx (k + 1)) := by
  have hn := h.next
  unfold WdS
  rw [he]
  exact hn
theorem WdS.pos {w W : World} {r k : Nat} (h : WdS w r k W) : W.iterPos (w.heap.size + 1) = k := by simp [World.iterPos, h.2.1]
set_option maxRecDepth 100000 in
set_option maxHeartbeats 16000000 in
theorem Word_at0 (w : World) :
    Calls Tryz.prog 16 #[.int .u8 0] w fun e w' => e = .returned (.string (ofL (rightsW 0))) ∧ Below w.heap.size w w' := by
  have HS0 := hide (WdS.start w 0)
  have HN0 : Hid (∀ W, WdS w 0 0 W → (Instr.next (.pointer (some ⟨w.heap.size + 1, 0, none⟩)) true 0).run Tryz.prog W = .ok (.tuple #[.bool true, .int .i64 0, .int .i32 114]) (setIter W (w.heap.size + 1) rwx 1)) := hide (fun W hW => run_next_at (P := Tryz.prog) W (w.heap.size + 1) rwx 0 0 hW.2.1 (by decide) (by decide))
  have HN1 : Hid (∀ W, WdS w 0 1 W → (Instr.next (.pointer (some ⟨w.heap.size + 1, 0, none⟩)) true 0).run Tryz.prog W = .ok (.tuple #[.bool true, .int .i64 1, .int .i32 119]) (setIter W (w.heap.size + 1) rwx 2)) := hide (fun W hW => run_next_at (P := Tryz.prog) W (w.heap.size + 1) rwx 1 0 hW.2.1 (by decide) (by decide))
  have HN2 : Hid (∀ W, WdS w 0 2 W → (Instr.next (.pointer (some ⟨w.heap.size + 1, 0, none⟩)) true 0).run Tryz.prog W = .ok (.tuple #[.bool true, .int .i64 2, .int .i32 120]) (setIter W (w.heap.size + 1) rwx 3)) := hide (fun W hW => run_next_at (P := Tryz.prog) W (w.heap.size + 1) rwx 2 0 hW.2.1 (by decide) (by decide))
  have HNE := hide (fun W (hW : WdS w 0 3 W) => run_next_over (P := Tryz.prog) W (w.heap.size + 1) rwx 3 0 hW.2.1 (by decide))
  go_enter Tryz.func16, Tryz.ntmps16
  go_wp2
  go_loopw [9] (fun v wr => ∃ k : Nat, k ≤ 3 ∧ Hid (WdS w 0 k wr)) (fun v wr => 3 - wr.iterPos (w.heap.size + 1))
  case atStart => exact ⟨0, by omega, HS0⟩
  case round =>
    obtain ⟨k, hk, hrel⟩ := hrel
    have : k = 0 ∨ k = 1 ∨ k = 2 ∨ k = 3 := by omega
    rcases this with rfl | rfl | rfl | rfl
    · have hn := HN0.out wr hrel.out
      have HP := hide hrel.out.pos
      have HR : Hid (WdS w 0 1 (setIter wr (w.heap.size + 1) rwx 1)) := hide (WdS.skip (k := 0) hrel.out (by decide))
      go_wp2
      go_roundw
      case rel => exact ⟨1, by omega, HR⟩
      case measure => rw [HP.out]; have := HR.out.pos; omega
    · have hn := HN1.out wr hrel.out
      have HP := hide hrel.out.pos
      have HR : Hid (WdS w 0 2 (setIter wr (w.heap.size + 1) rwx 2)) := hide (WdS.skip (k := 1) hrel.out (by decide))
      go_wp2
      go_roundw
      case rel => exact ⟨2, by omega, HR⟩
      case measure => rw [HP.out]; have := HR.out.pos; omega
    · have hn := HN2.out wr hrel.out
      have HP := hide hrel.out.pos
      have HR : Hid (WdS w 0 3 (setIter wr (w.heap.size + 1) rwx 3)) := hide (WdS.skip (k := 2) hrel.out (by decide))
      go_wp2
      go_roundw
      case rel => exact ⟨3, by omega, HR⟩
      case measure => rw [HP.out]; have := HR.out.pos; omega
    · have hn := HNE.out wr hrel.out
      have HL := hide (BLen_calls w.heap.size w.heap.size _ wr hrel.out.1)
      have HS := hide (Tryz.Builder_String_any w.heap.size w.heap.size _ wr hrel.out.1 hrel.out.2.2.size)
      have HB := hide hrel.out.2.2
      clear hrel
      have e3 : (letsTo 0 3).length = 0 := by decide
      rw [e3] at HL
      go_wp2_with (first
        | (go_at_call 34; refine HL.out.mono ?_; rintro e w2 ⟨rfl, rfl⟩)
        | (go_at_call 35; refine HS.out.mono ?_; rintro e w2 ⟨rfl, hb⟩; have HB2 := hide (HB.out.trans hb); clear hb))
      go_ret
      exact ⟨ret_s (by decide +kernel), HB.out⟩
set_option maxRecDepth 100000 in
set_option maxHeartbeats 16000000 in
theorem Word_at1 (w : World) :
    Calls Tryz.prog 16 #[.int .u8 1] w fun e w' => e = .returned (.string (ofL (rightsW 1))) ∧ Below w.heap.size w w' := by
  have HS0 := hide (WdS.start w 1)
  have HN0 : Hid (∀ W, WdS w 1 0 W → (Instr.next (.pointer (some ⟨w.heap.size + 1, 0, none⟩)) true 0).run Tryz.prog W = .ok (.tuple #[.bool true, .int .i64 0, .int .i32 114]) (setIter W (w.heap.size + 1) rwx 1)) := hide (fun W hW => run_next_at (P := Tryz.prog) W (w.heap.size + 1) rwx 0 0 hW.2.1 (by decide) (by decide))
  have HN1 : Hid (∀ W, WdS w 1 1 W → (Instr.next (.pointer (some ⟨w.heap.size + 1, 0, none⟩)) true 0).run Tryz.prog W = .ok (.tuple #[.bool true, .int .i64 1, .int .i32 119]) (setIter W (w.heap.size + 1) rwx 2)) := hide (fun W hW => run_next_at (P := Tryz.prog) W (w.heap.size + 1) rwx 1 0 hW.2.1 (by decide) (by decide))
  have HN2 : Hid (∀ W, WdS w 1 2 W → (Instr.next (.pointer (some ⟨w.heap.size + 1, 0, none⟩)) true 0).run Tryz.prog W = .ok (.tuple #[.bool true, .int .i64 2, .int .i32 120]) (setIter W (w.heap.size + 1) rwx 3)) := hide (fun W hW => run_next_at (P := Tryz.prog) W (w.heap.size + 1) rwx 2 0 hW.2.1 (by decide) (by decide))
  have HNE := hide (fun W (hW : WdS w 1 3 W) => run_next_over (P := Tryz.prog) W (w.heap.size + 1) rwx 3 0 hW.2.1 (by decide))
  have HW0 : Hid (∀ l W, Bld w.heap.size w.heap.size l W → l.length ≤ 1000000 → w.heap.size ≤ W.heap.size → Calls Tryz.prog 33 #[.pointer (some ⟨w.heap.size, 0, none⟩), .int .i32 114] W fun e w' => (∃ v, e = .returned v) ∧ (Bld w.heap.size w.heap.size (l ++ [114]) w' ∧ Below w.heap.size W w' ∧ Oth w.heap.size W w')) := hide (fun l W h1 h2 h3 => by
    have h := BWriteRune_calls w.heap.size w.heap.size l 114 (by decide) W h1 h2 h3
    rw [show (((114 : UInt8).toNat : Nat) : Int) = 114 from rfl] at h
    exact h)
  go_enter Tryz.func16, Tryz.ntmps16
  go_wp2
  go_loopw [9] (fun v wr => ∃ k : Nat, k ≤ 3 ∧ Hid (WdS w 1 k wr)) (fun v wr => 3 - wr.iterPos (w.heap.size + 1))
  case atStart => exact ⟨0, by omega, HS0⟩
  case round =>
    obtain ⟨k, hk, hrel⟩ := hrel
    have : k = 0 ∨ k = 1 ∨ k = 2 ∨ k = 3 := by omega
    rcases this with rfl | rfl | rfl | rfl
    · have hn := HN0.out wr hrel.out
      have HP := hide hrel.out.pos
      have HX := hide hrel.out.next
      go_wp2_with (go_at_call 33; refine (HW0.out _ _ HX.out.1 (by decide) HX.out.2.2.size).mono ?_; rintro e w2 ⟨⟨v, rfl⟩, hb, h2, ho⟩; have HR := hide (WdS.wrote (r := 1) (k := 0) (c := 114) HX.out.2 hb (by decide) h2 ho); clear hb h2 ho)
      go_roundw
      case rel => exact ⟨1, by omega, HR⟩
      case measure => rw [HP.out]; have := HR.out.pos; omega
    · have hn := HN1.out wr hrel.out
      have HP := hide hrel.out.pos
      have HR : Hid (WdS w 1 2 (setIter wr (w.heap.size + 1) rwx 2)) := hide (WdS.skip (k := 1) hrel.out (by decide))
      go_wp2
      go_roundw
      case rel => exact ⟨2, by omega, HR⟩
      case measure => rw [HP.out]; have := HR.out.pos; omega
    · have hn := HN2.out wr hrel.out
      have HP := hide hrel.out.pos
      have HR : Hid (WdS w 1 3 (setIter wr (w.heap.size + 1) rwx 3)) := hide (WdS.skip (k := 2) hrel.out (by decide))
      go_wp2
      go_roundw
      case rel => exact ⟨3, by omega, HR⟩
      case measure => rw [HP.out]; have := HR.out.pos; omega
    · have hn := HNE.out wr hrel.out
      have HL := hide (BLen_calls w.heap.size w.heap.size _ wr hrel.out.1)
      have HS := hide (Tryz.Builder_String_any w.heap.size w.heap.size _ wr hrel.out.1 hrel.out.2.2.size)
      have HB := hide hrel.out.2.2
      clear hrel
      have e3 : (letsTo 1 3).length = 1 := by decide
      rw [e3] at HL
      go_wp2_with (first
        | (go_at_call 34; refine HL.out.mono ?_; rintro e w2 ⟨rfl, rfl⟩)
        | (go_at_call 35; refine HS.out.mono ?_; rintro e w2 ⟨rfl, hb⟩; have HB2 := hide (HB.out.trans hb); clear hb))
      go_ret
      exact ⟨ret_s (by decide +kernel), HB2.out⟩
set_option maxRecDepth 100000 in
set_option maxHeartbeats 16000000 in
theorem Word_at2 (w : World) :
    Calls Tryz.prog 16 #[.int .u8 2] w fun e w' => e = .returned (.string (ofL (rightsW 2))) ∧ Below w.heap.size w w' := by
  have HS0 := hide (WdS.start w 2)
  have HN0 : Hid (∀ W, WdS w 2 0 W → (Instr.next (.pointer (some ⟨w.heap.size + 1, 0, none⟩)) true 0).run Tryz.prog W = .ok (.tuple #[.bool true, .int .i64 0, .int .i32 114]) (setIter W (w.heap.size + 1) rwx 1)) := hide (fun W hW => run_next_at (P := Tryz.prog) W (w.heap.size + 1) rwx 0 0 hW.2.1 (by decide) (by decide))
  have HN1 : Hid (∀ W, WdS w 2 1 W → (Instr.next (.pointer (some ⟨w.heap.size + 1, 0, none⟩)) true 0).run Tryz.prog W = .ok (.tuple #[.bool true, .int .i64 1, .int .i32 119]) (setIter W (w.heap.size + 1) rwx 2)) := hide (fun W hW => run_next_at (P := Tryz.prog) W (w.heap.size + 1) rwx 1 0 hW.2.1 (by decide) (by decide))
  have HN2 : Hid (∀ W, WdS w 2 2 W → (Instr.next (.pointer (some ⟨w.heap.size + 1, 0, none⟩)) true 0).run Tryz.prog W = .ok (.tuple #[.bool true, .int .i64 2, .int .i32 120]) (setIter W (w.heap.size + 1) rwx 3)) := hide (fun W hW => run_next_at (P := Tryz.prog) W (w.heap.size + 1) rwx 2 0 hW.2.1 (by decide) (by decide))
  have HNE := hide (fun W (hW : WdS w 2 3 W) => run_next_over (P := Tryz.prog) W (w.heap.size + 1) rwx 3 0 hW.2.1 (by decide))
  have HW1 : Hid (∀ l W, Bld w.heap.size w.heap.size l W → l.length ≤ 1000000 → w.heap.size ≤ W.heap.size → Calls Tryz.prog 33 #[.pointer (some ⟨w.heap.size, 0, none⟩), .int .i32 119] W fun e w' => (∃ v, e = .returned v) ∧ (Bld w.heap.size w.heap.size (l ++ [119]) w' ∧ Below w.heap.size W w' ∧ Oth w.heap.size W w')) := hide (fun l W h1 h2 h3 => by
    have h := BWriteRune_calls w.heap.size w.heap.size l 119 (by decide) W h1 h2 h3
    rw [show (((119 : UInt8).toNat : Nat) : Int) = 119 from rfl] at h
    exact h)
  go_enter Tryz.func16, Tryz.ntmps16
  go_wp2
  go_loopw [9] (fun v wr => ∃ k : Nat, k ≤ 3 ∧ Hid (WdS w 2 k wr)) (fun v wr => 3 - wr.iterPos (w.heap.size + 1))
  case atStart => exact ⟨0, by omega, HS0⟩
  case round =>
    obtain ⟨k, hk, hrel⟩ := hrel
    have : k = 0 ∨ k = 1 ∨ k = 2 ∨ k = 3 := by omega
    rcases this with rfl | rfl | rfl | rfl
    · have hn := HN0.out wr hrel.out
      have HP := hide hrel.out.pos
      have HR : Hid (WdS w 2 1 (setIter wr (w.heap.size + 1) rwx 1)) := hide (WdS.skip (k := 0) hrel.out (by decide))
      go_wp2
      go_roundw
      case rel => exact ⟨1, by omega, HR⟩
      case measure => rw [HP.out]; have := HR.out.pos; omega
    · have hn := HN1.out wr hrel.out
      have HP := hide hrel.out.pos
      have HX := hide hrel.out.next
      go_wp2_with (go_at_call 33; refine (HW1.out _ _ HX.out.1 (by decide) HX.out.2.2.size).mono ?_; rintro e w2 ⟨⟨v, rfl⟩, hb, h2, ho⟩; have HR := hide (WdS.wrote (r := 2) (k := 1) (c := 119) HX.out.2 hb (by decide) h2 ho); clear hb h2 ho)
      go_roundw
      case rel => exact ⟨2, by omega, HR⟩
      case measure => rw [HP.out]; have := HR.out.pos; omega
    · have hn := HN2.out wr hrel.out
      have HP := hide hrel.out.pos
      have HR : Hid (WdS w 2 3 (setIter wr (w.heap.size + 1) rwx 3)) := hide (WdS.skip (k := 2) hrel.out (by decide))
      go_wp2
      go_roundw
      case rel => exact ⟨3, by omega, HR⟩
      case measure => rw [HP.out]; have := HR.out.pos; omega
    · have hn := HNE.out wr hrel.out
      have HL := hide (BLen_calls w.heap.size w.heap.size _ wr hrel.out.1)
      have HS := hide (Tryz.Builder_String_any w.heap.size w.heap.size _ wr hrel.out.1 hrel.out.2.2.size)
      have HB := hide hrel.out.2.2
      clear hrel
      have e3 : (letsTo 2 3).length = 1 := by decide
      rw [e3] at HL
      go_wp2_with (first
        | (go_at_call 34; refine HL.out.mono ?_; rintro e w2 ⟨rfl, rfl⟩)
        | (go_at_call 35; refine HS.out.mono ?_; rintro e w2 ⟨rfl, hb⟩; have HB2 := hide (HB.out.trans hb); clear hb))
      go_ret
      exact ⟨ret_s (by decide +kernel), HB2.out⟩
set_option maxRecDepth 100000 in
set_option maxHeartbeats 16000000 in
theorem Word_at3 (w : World) :
    Calls Tryz.prog 16 #[.int .u8 3] w fun e w' => e = .returned (.string (ofL (rightsW 3))) ∧ Below w.heap.size w w' := by
  have HS0 := hide (WdS.start w 3)
  have HN0 : Hid (∀ W, WdS w 3 0 W → (Instr.next (.pointer (some ⟨w.heap.size + 1, 0, none⟩)) true 0).run Tryz.prog W = .ok (.tuple #[.bool true, .int .i64 0, .int .i32 114]) (setIter W (w.heap.size + 1) rwx 1)) := hide (fun W hW => run_next_at (P := Tryz.prog) W (w.heap.size + 1) rwx 0 0 hW.2.1 (by decide) (by decide))
  have HN1 : Hid (∀ W, WdS w 3 1 W → (Instr.next (.pointer (some ⟨w.heap.size + 1, 0, none⟩)) true 0).run Tryz.prog W = .ok (.tuple #[.bool true, .int .i64 1, .int .i32 119]) (setIter W (w.heap.size + 1) rwx 2)) := hide (fun W hW => run_next_at (P := Tryz.prog) W (w.heap.size + 1) rwx 1 0 hW.2.1 (by decide) (by decide))
  have HN2 : Hid (∀ W, WdS w 3 2 W → (Instr.next (.pointer (some ⟨w.heap.size + 1, 0, none⟩)) true 0).run Tryz.prog W = .ok (.tuple #[.bool true, .int .i64 2, .int .i32 120]) (setIter W (w.heap.size + 1) rwx 3)) := hide (fun W hW => run_next_at (P := Tryz.prog) W (w.heap.size + 1) rwx 2 0 hW.2.1 (by decide) (by decide))
  have HNE := hide (fun W (hW : WdS w 3 3 W) => run_next_over (P := Tryz.prog) W (w.heap.size + 1) rwx 3 0 hW.2.1 (by decide))
  have HW0 : Hid (∀ l W, Bld w.heap.size w.heap.size l W → l.length ≤ 1000000 → w.heap.size ≤ W.heap.size → Calls Tryz.prog 33 #[.pointer (some ⟨w.heap.size, 0, none⟩), .int .i32 114] W fun e w' => (∃ v, e = .returned v) ∧ (Bld w.heap.size w.heap.size (l ++ [114]) w' ∧ Below w.heap.size W w' ∧ Oth w.heap.size W w')) := hide (fun l W h1 h2 h3 => by
    have h := BWriteRune_calls w.heap.size w.heap.size l 114 (by decide) W h1 h2 h3
    rw [show (((114 : UInt8).toNat : Nat) : Int) = 114 from rfl] at h
    exact h)
  have HW1 : Hid (∀ l W, Bld w.heap.size w.heap.size l W → l.length ≤ 1000000 → w.heap.size ≤ W.heap.size → Calls Tryz.prog 33 #[.pointer (some ⟨w.heap.size, 0, none⟩), .int .i32 119] W fun e w' => (∃ v, e = .returned v) ∧ (Bld w.heap.size w.heap.size (l ++ [119]) w' ∧ Below w.heap.size W w' ∧ Oth w.heap.size W w')) := hide (fun l W h1 h2 h3 => by
    have h := BWriteRune_calls w.heap.size w.heap.size l 119 (by decide) W h1 h2 h3
    rw [show (((119 : UInt8).toNat : Nat) : Int) = 119 from rfl] at h
    exact h)
  go_enter Tryz.func16, Tryz.ntmps16
  go_wp2
  go_loopw [9] (fun v wr => ∃ k : Nat, k ≤ 3 ∧ Hid (WdS w 3 k wr)) (fun v wr => 3 - wr.iterPos (w.heap.size + 1))
  case atStart => exact ⟨0, by omega, HS0⟩
  case round =>
    obtain ⟨k, hk, hrel⟩ := hrel
    have : k = 0 ∨ k = 1 ∨ k = 2 ∨ k = 3 := by omega
    rcases this with rfl | rfl | rfl | rfl
    · have hn := HN0.out wr hrel.out
      have HP := hide hrel.out.pos
      have HX := hide hrel.out.next
      go_wp2_with (go_at_call 33; refine (HW0.out _ _ HX.out.1 (by decide) HX.out.2.2.size).mono ?_; rintro e w2 ⟨⟨v, rfl⟩, hb, h2, ho⟩; have HR := hide (WdS.wrote (r := 3) (k := 0) (c := 114) HX.out.2 hb (by decide) h2 ho); clear hb h2 ho)
      go_roundw
      case rel => exact ⟨1, by omega, HR⟩
      case measure => rw [HP.out]; have := HR.out.pos; omega
    · have hn := HN1.out wr hrel.out
      have HP := hide hrel.out.pos
      have HX := hide hrel.out.next
      go_wp2_with (go_at_call 33; refine (HW1.out _ _ HX.out.1 (by decide) HX.out.2.2.size).mono ?_; rintro e w2 ⟨⟨v, rfl⟩, hb, h2, ho⟩; have HR := hide (WdS.wrote (r := 3) (k := 1) (c := 119) HX.out.2 hb (by decide) h2 ho); clear hb h2 ho)
      go_roundw
      case rel => exact ⟨2, by omega, HR⟩
      case measure => rw [HP.out]; have := HR.out.pos; omega
    · have hn := HN2.out wr hrel.out
      have HP := hide hrel.out.pos
      have HR : Hid (WdS w 3 3 (setIter wr (w.heap.size + 1) rwx 3)) := hide (WdS.skip (k := 2) hrel.out (by decide))
      go_wp2
      go_roundw
      case rel => exact ⟨3, by omega, HR⟩
      case measure => rw [HP.out]; have := HR.out.pos; omega
    · have hn := HNE.out wr hrel.out
      have HL := hide (BLen_calls w.heap.size w.heap.size _ wr hrel.out.1)
      have HS := hide (Tryz.Builder_String_any w.heap.size w.heap.size _ wr hrel.out.1 hrel.out.2.2.size)
      have HB := hide hrel.out.2.2
      clear hrel
      have e3 : (letsTo 3 3).length = 2 := by decide
      rw [e3] at HL
      go_wp2_with (first
        | (go_at_call 34; refine HL.out.mono ?_; rintro e w2 ⟨rfl, rfl⟩)
        | (go_at_call 35; refine HS.out.mono ?_; rintro e w2 ⟨rfl, hb⟩; have HB2 := hide (HB.out.trans hb); clear hb))
      go_ret
      exact ⟨ret_s (by decide +kernel), HB2.out⟩
set_option maxRecDepth 100000 in
set_option maxHeartbeats 16000000 in
theorem Word_at4 (w : World) :
    Calls Tryz.prog 16 #[.int .u8 4] w fun e w' => e = .returned (.string (ofL (rightsW 4))) ∧ Below w.heap.size w w' := by
  have HS0 := hide (WdS.start w 4)
  have HN0 : Hid (∀ W, WdS w 4 0 W → (Instr.next (.pointer (some ⟨w.heap.size + 1, 0, none⟩)) true 0).run Tryz.prog W = .ok (.tuple #[.bool true, .int .i64 0, .int .i32 114]) (setIter W (w.heap.size + 1) rwx 1)) := hide (fun W hW => run_next_at (P := Tryz.prog) W (w.heap.size + 1) rwx 0 0 hW.2.1 (by decide) (by decide))
  have HN1 : Hid (∀ W, WdS w 4 1 W → (Instr.next (.pointer (some ⟨w.heap.size + 1, 0, none⟩)) true 0).run Tryz.prog W = .ok (.tuple #[.bool true, .int .i64 1, .int .i32 119]) (setIter W (w.heap.size + 1) rwx 2)) := hide (fun W hW => run_next_at (P := Tryz.prog) W (w.heap.size + 1) rwx 1 0 hW.2.1 (by decide) (by decide))
  have HN2 : Hid (∀ W, WdS w 4 2 W → (Instr.next (.pointer (some ⟨w.heap.size + 1, 0, none⟩)) true 0).run Tryz.prog W = .ok (.tuple #[.bool true, .int .i64 2, .int .i32 120]) (setIter W (w.heap.size + 1) rwx 3)) := hide (fun W hW => run_next_at (P := Tryz.prog) W (w.heap.size + 1) rwx 2 0 hW.2.1 (by decide) (by decide))
  have HNE := hide (fun W (hW : WdS w 4 3 W) => run_next_over (P := Tryz.prog) W (w.heap.size + 1) rwx 3 0 hW.2.1 (by decide))
  have HW2 : Hid (∀ l W, Bld w.heap.size w.heap.size l W → l.length ≤ 1000000 → w.heap.size ≤ W.heap.size → Calls Tryz.prog 33 #[.pointer (some ⟨w.heap.size, 0, none⟩), .int .i32 120] W fun e w' => (∃ v, e = .returned v) ∧ (Bld w.heap.size w.heap.size (l ++ [120]) w' ∧ Below w.heap.size W w' ∧ Oth w.heap.size W w')) := hide (fun l W h1 h2 h3 => by
    have h := BWriteRune_calls w.heap.size w.heap.size l 120 (by decide) W h1 h2 h3
    rw [show (((120 : UInt8).toNat : Nat) : Int) = 120 from rfl] at h
    exact h)
  go_enter Tryz.func16, Tryz.ntmps16
  go_wp2
  go_loopw [9] (fun v wr => ∃ k : Nat, k ≤ 3 ∧ Hid (WdS w 4 k wr)) (fun v wr => 3 - wr.iterPos (w.heap.size + 1))
  case atStart => exact ⟨0, by omega, HS0⟩
  case round =>
    obtain ⟨k, hk, hrel⟩ := hrel
    have : k = 0 ∨ k = 1 ∨ k = 2 ∨ k = 3 := by omega
    rcases this with rfl | rfl | rfl | rfl
    · have hn := HN0.out wr hrel.out
      have HP := hide hrel.out.pos
      have HR : Hid (WdS w 4 1 (setIter wr (w.heap.size + 1) rwx 1)) := hide (WdS.skip (k := 0) hrel.out (by decide))
      go_wp2
      go_roundw
      case rel => exact ⟨1, by omega, HR⟩
      case measure => rw [HP.out]; have := HR.out.pos; omega
    · have hn := HN1.out wr hrel.out
      have HP := hide hrel.out.pos
      have HR : Hid (WdS w 4 2 (setIter wr (w.heap.size + 1) rwx 2)) := hide (WdS.skip (k := 1) hrel.out (by decide))
      go_wp2
      go_roundw
      case rel => exact ⟨2, by omega, HR⟩
      case measure => rw [HP.out]; have := HR.out.pos; omega
    · have hn := HN2.out wr hrel.out
      have HP := hide hrel.out.pos
      have HX := hide hrel.out.next
      go_wp2_with (go_at_call 33; refine (HW2.out _ _ HX.out.1 (by decide) HX.out.2.2.size).mono ?_; rintro e w2 ⟨⟨v, rfl⟩, hb, h2, ho⟩; have HR := hide (WdS.wrote (r := 4) (k := 2) (c := 120) HX.out.2 hb (by decide) h2 ho); clear hb h2 ho)
      go_roundw
      case rel => exact ⟨3, by omega, HR⟩
      case measure => rw [HP.out]; have := HR.out.pos; omega
    · have hn := HNE.out wr hrel.out
      have HL := hide (BLen_calls w.heap.size w.heap.size _ wr hrel.out.1)
      have HS := hide (Tryz.Builder_String_any w.heap.size w.heap.size _ wr hrel.out.1 hrel.out.2.2.size)
      have HB := hide hrel.out.2.2
      clear hrel
      have e3 : (letsTo 4 3).length = 1 := by decide
      rw [e3] at HL
      go_wp2_with (first
        | (go_at_call 34; refine HL.out.mono ?_; rintro e w2 ⟨rfl, rfl⟩)
        | (go_at_call 35; refine HS.out.mono ?_; rintro e w2 ⟨rfl, hb⟩; have HB2 := hide (HB.out.trans hb); clear hb))
      go_ret
      exact ⟨ret_s (by decide +kernel), HB2.out⟩
set_option maxRecDepth 100000 in
set_option maxHeartbeats 16000000 in
theorem Word_at5 (w : World) :
    Calls Tryz.prog 16 #[.int .u8 5] w fun e w' => e = .returned (.string (ofL (rightsW 5))) ∧ Below w.heap.size w w' := by
  have HS0 := hide (WdS.start w 5)
  have HN0 : Hid (∀ W, WdS w 5 0 W → (Instr.next (.pointer (some ⟨w.heap.size + 1, 0, none⟩)) true 0).run Tryz.prog W = .ok (.tuple #[.bool true, .int .i64 0, .int .i32 114]) (setIter W (w.heap.size + 1) rwx 1)) := hide (fun W hW => run_next_at (P := Tryz.prog) W (w.heap.size + 1) rwx 0 0 hW.2.1 (by decide) (by decide))
  have HN1 : Hid (∀ W, WdS w 5 1 W → (Instr.next (.pointer (some ⟨w.heap.size + 1, 0, none⟩)) true 0).run Tryz.prog W = .ok (.tuple #[.bool true, .int .i64 1, .int .i32 119]) (setIter W (w.heap.size + 1) rwx 2)) := hide (fun W hW => run_next_at (P := Tryz.prog) W (w.heap.size + 1) rwx 1 0 hW.2.1 (by decide) (by decide))
  have HN2 : Hid (∀ W, WdS w 5 2 W → (Instr.next (.pointer (some ⟨w.heap.size + 1, 0, none⟩)) true 0).run Tryz.prog W = .ok (.tuple #[.bool true, .int .i64 2, .int .i32 120]) (setIter W (w.heap.size + 1) rwx 3)) := hide (fun W hW => run_next_at (P := Tryz.prog) W (w.heap.size + 1) rwx 2 0 hW.2.1 (by decide) (by decide))
  have HNE := hide (fun W (hW : WdS w 5 3 W) => run_next_over (P := Tryz.prog) W (w.heap.size + 1) rwx 3 0 hW.2.1 (by decide))
  have HW0 : Hid (∀ l W, Bld w.heap.size w.heap.size l W → l.length ≤ 1000000 → w.heap.size ≤ W.heap.size → Calls Tryz.prog 33 #[.pointer (some ⟨w.heap.size, 0, none⟩), .int .i32 114] W fun e w' => (∃ v, e = .returned v) ∧ (Bld w.heap.size w.heap.size (l ++ [114]) w' ∧ Below w.heap.size W w' ∧ Oth w.heap.size W w')) := hide (fun l W h1 h2 h3 => by
    have h := BWriteRune_calls w.heap.size w.heap.size l 114 (by decide) W h1 h2 h3
    rw [show (((114 : UInt8).toNat : Nat) : Int) = 114 from rfl] at h
    exact h)
  have HW2 : Hid (∀ l W, Bld w.heap.size w.heap.size l W → l.length ≤ 1000000 → w.heap.size ≤ W.heap.size → Calls Tryz.prog 33 #[.pointer (some ⟨w.heap.size, 0, none⟩), .int .i32 120] W fun e w' => (∃ v, e = .returned v) ∧ (Bld w.heap.size w.heap.size (l ++ [120]) w' ∧ Below w.heap.size W w' ∧ Oth w.heap.size W w')) := hide (fun l W h1 h2 h3 => by
    have h := BWriteRune_calls w.heap.size w.heap.size l 120 (by decide) W h1 h2 h3
    rw [show (((120 : UInt8).toNat : Nat) : Int) = 120 from rfl] at h
    exact h)
  go_enter Tryz.func16, Tryz.ntmps16
  go_wp2
  go_loopw [9] (fun v wr => ∃ k : Nat, k ≤ 3 ∧ Hid (WdS w 5 k wr)) (fun v wr => 3 - wr.iterPos (w.heap.size + 1))
  case atStart => exact ⟨0, by omega, HS0⟩
  case round =>
    obtain ⟨k, hk, hrel⟩ := hrel
    have : k = 0 ∨ k = 1 ∨ k = 2 ∨ k = 3 := by omega
    rcases this with rfl | rfl | rfl | rfl
    · have hn := HN0.out wr hrel.out
      have HP := hide hrel.out.pos
      have HX := hide hrel.out.next
      go_wp2_with (go_at_call 33; refine (HW0.out _ _ HX.out.1 (by decide) HX.out.2.2.size).mono ?_; rintro e w2 ⟨⟨v, rfl⟩, hb, h2, ho⟩; have HR := hide (WdS.wrote (r := 5) (k := 0) (c := 114) HX.out.2 hb (by decide) h2 ho); clear hb h2 ho)
      go_roundw
      case rel => exact ⟨1, by omega, HR⟩
      case measure => rw [HP.out]; have := HR.out.pos; omega
    · have hn := HN1.out wr hrel.out
      have HP := hide hrel.out.pos
      have HR : Hid (WdS w 5 2 (setIter wr (w.heap.size + 1) rwx 2)) := hide (WdS.skip (k := 1) hrel.out (by decide))
      go_wp2
      go_roundw
      case rel => exact ⟨2, by omega, HR⟩
      case measure => rw [HP.out]; have := HR.out.pos; omega
    · have hn := HN2.out wr hrel.out
      have HP := hide hrel.out.pos
      have HX := hide hrel.out.next
      go_wp2_with (go_at_call 33; refine (HW2.out _ _ HX.out.1 (by decide) HX.out.2.2.size).mono ?_; rintro e w2 ⟨⟨v, rfl⟩, hb, h2, ho⟩; have HR := hide (WdS.wrote (r := 5) (k := 2) (c := 120) HX.out.2 hb (by decide) h2 ho); clear hb h2 ho)
      go_roundw
      case rel => exact ⟨3, by omega, HR⟩
      case measure => rw [HP.out]; have := HR.out.pos; omega
    · have hn := HNE.out wr hrel.out
      have HL := hide (BLen_calls w.heap.size w.heap.size _ wr hrel.out.1)
      have HS := hide (Tryz.Builder_String_any w.heap.size w.heap.size _ wr hrel.out.1 hrel.out.2.2.size)
      have HB := hide hrel.out.2.2
      clear hrel
      have e3 : (letsTo 5 3).length = 2 := by decide
      rw [e3] at HL
      go_wp2_with (first
        | (go_at_call 34; refine HL.out.mono ?_; rintro e w2 ⟨rfl, rfl⟩)
        | (go_at_call 35; refine HS.out.mono ?_; rintro e w2 ⟨rfl, hb⟩; have HB2 := hide (HB.out.trans hb); clear hb))
      go_ret
      exact ⟨ret_s (by decide +kernel), HB2.out⟩
set_option maxRecDepth 100000 in
set_option maxHeartbeats 16000000 in
theorem Word_at6 (w : World) :
    Calls Tryz.prog 16 #[.int .u8 6] w fun e w' => e = .returned (.string (ofL (rightsW 6))) ∧ Below w.heap.size w w' := by
  have HS0 := hide (WdS.start w 6)
  have HN0 : Hid (∀ W, WdS w 6 0 W → (Instr.next (.pointer (some ⟨w.heap.size + 1, 0, none⟩)) true 0).run Tryz.prog W = .ok (.tuple #[.bool true, .int .i64 0, .int .i32 114]) (setIter W (w.heap.size + 1) rwx 1)) := hide (fun W hW => run_next_at (P := Tryz.prog) W (w.heap.size + 1) rwx 0 0 hW.2.1 (by decide) (by decide))
  have HN1 : Hid (∀ W, WdS w 6 1 W → (Instr.next (.pointer (some ⟨w.heap.size + 1, 0, none⟩)) true 0).run Tryz.prog W = .ok (.tuple #[.bool true, .int .i64 1, .int .i32 119]) (setIter W (w.heap.size + 1) rwx 2)) := hide (fun W hW => run_next_at (P := Tryz.prog) W (w.heap.size + 1) rwx 1 0 hW.2.1 (by decide) (by decide))
  have HN2 : Hid (∀ W, WdS w 6 2 W → (Instr.next (.pointer (some ⟨w.heap.size + 1, 0, none⟩)) true 0).run Tryz.prog W = .ok (.tuple #[.bool true, .int .i64 2, .int .i32 120]) (setIter W (w.heap.size + 1) rwx 3)) := hide (fun W hW => run_next_at (P := Tryz.prog) W (w.heap.size + 1) rwx 2 0 hW.2.1 (by decide) (by decide))
  have HNE := hide (fun W (hW : WdS w 6 3 W) => run_next_over (P := Tryz.prog) W (w.heap.size + 1) rwx 3 0 hW.2.1 (by decide))
  have HW1 : Hid (∀ l W, Bld w.heap.size w.heap.size l W → l.length ≤ 1000000 → w.heap.size ≤ W.heap.size → Calls Tryz.prog 33 #[.pointer (some ⟨w.heap.size, 0, none⟩), .int .i32 119] W fun e w' => (∃ v, e = .returned v) ∧ (Bld w.heap.size w.heap.size (l ++ [119]) w' ∧ Below w.heap.size W w' ∧ Oth w.heap.size W w')) := hide (fun l W h1 h2 h3 => by
    have h := BWriteRune_calls w.heap.size w.heap.size l 119 (by decide) W h1 h2 h3
    rw [show (((119 : UInt8).toNat : Nat) : Int) = 119 from rfl] at h
    exact h)
  have HW2 : Hid (∀ l W, Bld w.heap.size w.heap.size l W → l.length ≤ 1000000 → w.heap.size ≤ W.heap.size → Calls Tryz.prog 33 #[.pointer (some ⟨w.heap.size, 0, none⟩), .int .i32 120] W fun e w' => (∃ v, e = .returned v) ∧ (Bld w.heap.size w.heap.size (l ++ [120]) w' ∧ Below w.heap.size W w' ∧ Oth w.heap.size W w')) := hide (fun l W h1 h2 h3 => by
    have h := BWriteRune_calls w.heap.size w.heap.size l 120 (by decide) W h1 h2 h3
    rw [show (((120 : UInt8).toNat : Nat) : Int) = 120 from rfl] at h
    exact h)
  go_enter Tryz.func16, Tryz.ntmps16
  go_wp2
  go_loopw [9] (fun v wr => ∃ k : Nat, k ≤ 3 ∧ Hid (WdS w 6 k wr)) (fun v wr => 3 - wr.iterPos (w.heap.size + 1))
  case atStart => exact ⟨0, by omega, HS0⟩
  case round =>
    obtain ⟨k, hk, hrel⟩ := hrel
    have : k = 0 ∨ k = 1 ∨ k = 2 ∨ k = 3 := by omega
    rcases this with rfl | rfl | rfl | rfl
    · have hn := HN0.out wr hrel.out
      have HP := hide hrel.out.pos
      have HR : Hid (WdS w 6 1 (setIter wr (w.heap.size + 1) rwx 1)) := hide (WdS.skip (k := 0) hrel.out (by decide))
      go_wp2
      go_roundw
      case rel => exact ⟨1, by omega, HR⟩
      case measure => rw [HP.out]; have := HR.out.pos; omega
    · have hn := HN1.out wr hrel.out
      have HP := hide hrel.out.pos
      have HX := hide hrel.out.next
      go_wp2_with (go_at_call 33; refine (HW1.out _ _ HX.out.1 (by decide) HX.out.2.2.size).mono ?_; rintro e w2 ⟨⟨v, rfl⟩, hb, h2, ho⟩; have HR := hide (WdS.wrote (r := 6) (k := 1) (c := 119) HX.out.2 hb (by decide) h2 ho); clear hb h2 ho)
      go_roundw
      case rel => exact ⟨2, by omega, HR⟩
      case measure => rw [HP.out]; have := HR.out.pos; omega
    · have hn := HN2.out wr hrel.out
      have HP := hide hrel.out.pos
      have HX := hide hrel.out.next
      go_wp2_with (go_at_call 33; refine (HW2.out _ _ HX.out.1 (by decide) HX.out.2.2.size).mono ?_; rintro e w2 ⟨⟨v, rfl⟩, hb, h2, ho⟩; have HR := hide (WdS.wrote (r := 6) (k := 2) (c := 120) HX.out.2 hb (by decide) h2 ho); clear hb h2 ho)
      go_roundw
      case rel => exact ⟨3, by omega, HR⟩
      case measure => rw [HP.out]; have := HR.out.pos; omega
    · have hn := HNE.out wr hrel.out
      have HL := hide (BLen_calls w.heap.size w.heap.size _ wr hrel.out.1)
      have HS := hide (Tryz.Builder_String_any w.heap.size w.heap.size _ wr hrel.out.1 hrel.out.2.2.size)
      have HB := hide hrel.out.2.2
      clear hrel
      have e3 : (letsTo 6 3).length = 2 := by decide
      rw [e3] at HL
      go_wp2_with (first
        | (go_at_call 34; refine HL.out.mono ?_; rintro e w2 ⟨rfl, rfl⟩)
        | (go_at_call 35; refine HS.out.mono ?_; rintro e w2 ⟨rfl, hb⟩; have HB2 := hide (HB.out.trans hb); clear hb))
      go_ret
      exact ⟨ret_s (by decide +kernel), HB2.out⟩
set_option maxRecDepth 100000 in
set_option maxHeartbeats 16000000 in
theorem Word_at7 (w : World) :
    Calls Tryz.prog 16 #[.int .u8 7] w fun e w' => e = .returned (.string (ofL (rightsW 7))) ∧ Below w.heap.size w w' := by
  have HS0 := hide (WdS.start w 7)
  have HN0 : Hid (∀ W, WdS w 7 0 W → (Instr.next (.pointer (some ⟨w.heap.size + 1, 0, none⟩)) true 0).run Tryz.prog W = .ok (.tuple #[.bool true, .int .i64 0, .int .i32 114]) (setIter W (w.heap.size + 1) rwx 1)) := hide (fun W hW => run_next_at (P := Tryz.prog) W (w.heap.size + 1) rwx 0 0 hW.2.1 (by decide) (by decide))
  have HN1 : Hid (∀ W, WdS w 7 1 W → (Instr.next (.pointer (some ⟨w.heap.size + 1, 0, none⟩)) true 0).run Tryz.prog W = .ok (.tuple #[.bool true, .int .i64 1, .int .i32 119]) (setIter W (w.heap.size + 1) rwx 2)) := hide (fun W hW => run_next_at (P := Tryz.prog) W (w.heap.size + 1) rwx 1 0 hW.2.1 (by decide) (by decide))
  have HN2 : Hid (∀ W, WdS w 7 2 W → (Instr.next (.pointer (some ⟨w.heap.size + 1, 0, none⟩)) true 0).run Tryz.prog W = .ok (.tuple #[.bool true, .int .i64 2, .int .i32 120]) (setIter W (w.heap.size + 1) rwx 3)) := hide (fun W hW => run_next_at (P := Tryz.prog) W (w.heap.size + 1) rwx 2 0 hW.2.1 (by decide) (by decide))
  have HNE := hide (fun W (hW : WdS w 7 3 W) => run_next_over (P := Tryz.prog) W (w.heap.size + 1) rwx 3 0 hW.2.1 (by decide))
  have HW0 : Hid (∀ l W, Bld w.heap.size w.heap.size l W → l.length ≤ 1000000 → w.heap.size ≤ W.heap.size → Calls Tryz.prog 33 #[.pointer (some ⟨w.heap.size, 0, none⟩), .int .i32 114] W fun e w' => (∃ v, e = .returned v) ∧ (Bld w.heap.size w.heap.size (l ++ [114]) w' ∧ Below w.heap.size W w' ∧ Oth w.heap.size W w')) := hide (fun l W h1 h2 h3 => by
    have h := BWriteRune_calls w.heap.size w.heap.size l 114 (by decide) W h1 h2 h3
    rw [show (((114 : UInt8).toNat : Nat) : Int) = 114 from rfl] at h
    exact h)
  have HW1 : Hid (∀ l W, Bld w.heap.size w.heap.size l W → l.length ≤ 1000000 → w.heap.size ≤ W.heap.size → Calls Tryz.prog 33 #[.pointer (some ⟨w.heap.size, 0, none⟩), .int .i32 119] W fun e w' => (∃ v, e = .returned v) ∧ (Bld w.heap.size w.heap.size (l ++ [119]) w' ∧ Below w.heap.size W w' ∧ Oth w.heap.size W w')) := hide (fun l W h1 h2 h3 => by
    have h := BWriteRune_calls w.heap.size w.heap.size l 119 (by decide) W h1 h2 h3
    rw [show (((119 : UInt8).toNat : Nat) : Int) = 119 from rfl] at h
    exact h)
  have HW2 : Hid (∀ l W, Bld w.heap.size w.heap.size l W → l.length ≤ 1000000 → w.heap.size ≤ W.heap.size → Calls Tryz.prog 33 #[.pointer (some ⟨w.heap.size, 0, none⟩), .int .i32 120] W fun e w' => (∃ v, e = .returned v) ∧ (Bld w.heap.size w.heap.size (l ++ [120]) w' ∧ Below w.heap.size W w' ∧ Oth w.heap.size W w')) := hide (fun l W h1 h2 h3 => by
    have h := BWriteRune_calls w.heap.size w.heap.size l 120 (by decide) W h1 h2 h3
    rw [show (((120 : UInt8).toNat : Nat) : Int) = 120 from rfl] at h
    exact h)
  go_enter Tryz.func16, Tryz.ntmps16
  go_wp2
  go_loopw [9] (fun v wr => ∃ k : Nat, k ≤ 3 ∧ Hid (WdS w 7 k wr)) (fun v wr => 3 - wr.iterPos (w.heap.size + 1))
  case atStart => exact ⟨0, by omega, HS0⟩
  case round =>
    obtain ⟨k, hk, hrel⟩ := hrel
    have : k = 0 ∨ k = 1 ∨ k = 2 ∨ k = 3 := by omega
    rcases this with rfl | rfl | rfl | rfl
    · have hn := HN0.out wr hrel.out
      have HP := hide hrel.out.pos
      have HX := hide hrel.out.next
      go_wp2_with (go_at_call 33; refine (HW0.out _ _ HX.out.1 (by decide) HX.out.2.2.size).mono ?_; rintro e w2 ⟨⟨v, rfl⟩, hb, h2, ho⟩; have HR := hide (WdS.wrote (r := 7) (k := 0) (c := 114) HX.out.2 hb (by decide) h2 ho); clear hb h2 ho)
      go_roundw
      case rel => exact ⟨1, by omega, HR⟩
      case measure => rw [HP.out]; have := HR.out.pos; omega
    · have hn := HN1.out wr hrel.out
      have HP := hide hrel.out.pos
      have HX := hide hrel.out.next
      go_wp2_with (go_at_call 33; refine (HW1.out _ _ HX.out.1 (by decide) HX.out.2.2.size).mono ?_; rintro e w2 ⟨⟨v, rfl⟩, hb, h2, ho⟩; have HR := hide (WdS.wrote (r := 7) (k := 1) (c := 119) HX.out.2 hb (by decide) h2 ho); clear hb h2 ho)
      go_roundw
      case rel => exact ⟨2, by omega, HR⟩
      case measure => rw [HP.out]; have := HR.out.pos; omega
    · have hn := HN2.out wr hrel.out
      have HP := hide hrel.out.pos
      have HX := hide hrel.out.next
      go_wp2_with (go_at_call 33; refine (HW2.out _ _ HX.out.1 (by decide) HX.out.2.2.size).mono ?_; rintro e w2 ⟨⟨v, rfl⟩, hb, h2, ho⟩; have HR := hide (WdS.wrote (r := 7) (k := 2) (c := 120) HX.out.2 hb (by decide) h2 ho); clear hb h2 ho)
      go_roundw
      case rel => exact ⟨3, by omega, HR⟩
      case measure => rw [HP.out]; have := HR.out.pos; omega
    · have hn := HNE.out wr hrel.out
      have HL := hide (BLen_calls w.heap.size w.heap.size _ wr hrel.out.1)
      have HS := hide (Tryz.Builder_String_any w.heap.size w.heap.size _ wr hrel.out.1 hrel.out.2.2.size)
      have HB := hide hrel.out.2.2
      clear hrel
      have e3 : (letsTo 7 3).length = 3 := by decide
      rw [e3] at HL
      go_wp2_with (first
        | (go_at_call 34; refine HL.out.mono ?_; rintro e w2 ⟨rfl, rfl⟩)
        | (go_at_call 35; refine HS.out.mono ?_; rintro e w2 ⟨rfl, hb⟩; have HB2 := hide (HB.out.trans hb); clear hb))
      go_ret
      exact ⟨ret_s (by decide +kernel), HB2.out⟩
theorem Word_calls (r : Nat) (hr : r ≤ 7) (w : World) :
    Calls Tryz.prog 16 #[.int .u8 (r : Int)] w fun e w' => e = .returned (.string (ofL (rightsW r))) ∧ Below w.heap.size w w' := by
  have : r = 0 ∨ r = 1 ∨ r = 2 ∨ r = 3 ∨ r = 4 ∨ r = 5 ∨ r = 6 ∨ r = 7 := by omega
  rcases this with rfl | rfl | rfl | rfl | rfl | rfl | rfl | rfl
  · exact Word_at0 w
  · exact Word_at1 w
  · exact Word_at2 w
  · exact Word_at3 w
  · exact Word_at4 w
  · exact Word_at5 w
  · exact Word_at6 w
  · exact Word_at7 w
end Go.Proofs.YtdpieljopelkhaaGreatDoor
namespace Go.Proofs.YtdpieljopelkhaaGreatDoor
open Go.RowKit Go.Lib
set_option linter.unusedVariables false

theorem rights_of (x : ByteArray) (k : Nat) (hk : k < 8) : ((ofL (rightsW k)).toList == x.toList) = decide (rightsN x.data.toList = some k) := by
  have e1 : (ofL (rightsW k)).toList = rightsW k := by rw [ByteArray.toList_eq]; rfl
  rw [e1, ByteArray.toList_eq]
  generalize x.data.toList = l
  by_cases h : rightsN l = some k
  · rw [decide_eq_true h, (word_rights h).2]
    simp
  · rw [decide_eq_false h, beq_eq_false_iff_ne]
    intro h2
    rw [← h2, rights_word (by omega)] at h
    exact h rfl
set_option maxRecDepth 100000 in
set_option maxHeartbeats 2000000 in
theorem Rights_calls (x : ByteArray) (w : World) :
    Calls Tryz.prog 14 #[.string x] w fun e w' => e = .returned (.tuple #[.int .u8 (((rightsN x.data.toList).getD 0 : Nat) : Int), .bool (rightsN x.data.toList).isSome]) ∧ Below w.heap.size w w' := by
  have hmax : ∀ r, rightsN x.data.toList = some r → r < 8 := fun r h => by have := (word_rights h).1; omega
  have HRO := hide (fun k hk => rights_of x k hk)
  obtain ⟨o, ho⟩ : ∃ o, o = rightsN x.data.toList := ⟨_, rfl⟩
  rw [← ho] at hmax HRO ⊢
  have HM := hide hmax
  clear ho hmax
  go_enter Tryz.func14, Tryz.ntmps14
  go_wp2
  go_loopw [5] (fun i wr => ∃ k : Nat, k ≤ 8 ∧ i = .int .u8 (k : Int) ∧ Hid ((∀ j, j < k → o ≠ some j) ∧ Below w.heap.size w wr)) (fun i _ => 8 - (intOf i).toNat)
  case atStart => exact ⟨0, by omega, rfl, hide ⟨fun j hj => by omega, by repeat (first | exact Below.refl _ _ | apply Below.drew | refine Below.alloc ?_ (by omega) _)⟩⟩
  case round =>
    obtain ⟨k, hk, rfl, hrel⟩ := hrel
    by_cases hlt : k < 8
    · have hltI : (k : Int) < 8 := by omega
      have hw : IntKind.u8.wrap ((k : Int) + 1) = ((k + 1 : Nat) : Int) := by rw [IntKind.wrap_u8]; omega
      have HW := hide (Word_calls k (by omega) wr)
      have hro := HRO.out k hlt
      generalize ofL (rightsW k) = s at *
      by_cases hq : o = some k
      · rw [decide_eq_true hq] at hro
        have HQ := hide hq
        clear hq
        go_wp2_with (go_at_call 16; refine HW.out.mono ?_; rintro e w2 ⟨rfl, hb2⟩; have HB2 := hide (hrel.out.2.trans (hb2.mono hrel.out.2.size)); clear hb2)
        go_ret2
        exact ⟨by rw [HQ.out]; rfl, HB2.out⟩
      · rw [decide_eq_false hq] at hro
        have HQ := hide hq
        clear hq
        go_wp2_with (go_at_call 16; refine HW.out.mono ?_; rintro e w2 ⟨rfl, hb2⟩; have HB2 := hide (hrel.out.2.trans (hb2.mono hrel.out.2.size)); clear hb2)
        go_roundw
        case rel =>
          refine ⟨k + 1, by omega, by first | rfl | go_num, hide ⟨fun j hj => ?_, HB2.out⟩⟩
          by_cases hjk : j < k
          · exact hrel.out.1 j hjk
          · rw [show j = k by omega]; exact HQ.out
        case measure => simp [intOf]; omega
    · have hltI : ¬ (k : Int) < 8 := by omega
      have HN : Hid (o = none) := hide (by
        cases ho : o with
        | none => rfl
        | some r => exact absurd ho (hrel.out.1 r (by have := HM.out r ho; omega)))
      go_wp2
      go_ret2
      exact ⟨by rw [HN.out]; rfl, hrel.out.2⟩
end Go.Proofs.YtdpieljopelkhaaGreatDoor
