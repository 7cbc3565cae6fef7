/- slices.Values at strings, slices.AppendSeq, Collect and Sorted against it (chapter 04, NameSorts). Turned from the worked texts GgSlicesIterAtTheDump, GgCollectAtTheDump and GgSortedAtTheDump: an iterator over a slice that lay before the call. -/
import Derived.Shelf.SlIter.Sorted
import Derived.RangeFuncBox
import Derived.RangeFuncLeaves
import Derived.WalkKit
import Derived.OwnWalkIn
import Derived.TacticsInMore
import Derived.LoopNIn
import Derived.LoopIn
import Derived.Test.YtgjdhndlbhbjhaaGreatMem
import Derived.Test.YtgjdhndlbhbjhaaGreatShelf
namespace Go.Proofs.YtgjdhndlbhbjhaaGreat
open Go.RowKit Go.Maps Go.Sort Go.Shelf Go.Proofs
set_option linter.unusedVariables false
attribute [local go_sem] Oper.semAt_some

/-- As 'SeqGives', where the rounds leave alone what lay before the call. -/
def GivesB {α : Type} (F : Fence) (n : Nat) (P : Program) (g : Nat) (lb : Array Value) (enc : α → Value) (zs : List α) (w : World) : Prop :=
  ∀ (l : Nat) (J : List α → World → Prop) (W : World), Below w.heap.size w W → AbidesFrom W.heap.size J → (∀ s W', J s W' → Below w.heap.size w W') →
    (∀ pre x W1, J pre W1 → pre.length < zs.length → YieldAt F (n - 1) P l #[enc x] W1 fun e W' => e = .returned (.bool true) ∧ J (pre ++ [x]) W' ∧ KeepsWalks W1 W') →
    J [] W → CallsIn F n P g (#[.func (.yield l) #[] #[]] ++ lb) W fun e W' => (∃ v, e = .returned v) ∧ J zs W'
theorem take_next {α : Type} (zs : List α) (k : Nat) (h : k < zs.length) : zs.take (k + 1) = zs.take k ++ [zs[k]] := List.take_succ_eq_append_getElem h

set_option maxRecDepth 100000 in
set_option maxHeartbeats 2000000 in
theorem values_gives (n : Nat) (hn : 1 ≤ n) (B b off cap : Nat) (zs : List (List UInt8)) (hcap : zs.length ≤ cap) (hreach : zs.length ≤ 1000000000) (w : World) (hB : B < w.heap.size) (hb : b < w.heap.size)
    (hBs : w.cell? ⟨B, 0, none⟩ = some (.slice (some ⟨b, off, none⟩) zs.length cap)) (hc : ∀ j, (h : j < zs.length) → w.cell? ⟨b, off + j, none⟩ = some (encStr zs[j])) :
    GivesB Fence.wide n Tryz.prog 22 #[.pointer (some ⟨B, 0, none⟩)] encStr zs w := by
  intro l J W hW _ hJb hY h0
  have hBW := (hW.cell (p := ⟨B, 0, none⟩) hB).trans hBs
  have hcI : (zs.length : Int) ≤ (cap : Int) := by omega
  obtain ⟨m, hm⟩ : ∃ m, m = zs.length := ⟨_, rfl⟩
  rw [← hm] at hBW hcI hY hreach
  have hmI : (m : Int) ≤ 1000000000 := by omega
  have HM := hide hm
  clear hm hBs
  refine callsIn_of_wp Tryz.func22 rfl trivial ?_ rfl
  simp only [Tryz.ntmps22, List.size_toArray, List.length_cons, List.length_nil, Nat.reduceAdd, Nat.reduceSub, Array.replicate_succ, Array.replicate_zero, List.push_toArray, List.append_toArray, List.nil_append, List.cons_append]
  gi_wp2
  gi_loopw [7] (fun i wr => ∃ k : Nat, k ≤ m ∧ i = .int .i64 k ∧ J (zs.take k) wr) (fun i _ => m - (intOf i).toNat)
  case atStart => exact ⟨0, Nat.zero_le _, rfl, h0⟩
  case round =>
    obtain ⟨k, hk, rfl, hJs⟩ := hrel
    by_cases hlt : k < m
    · have hkl : k < zs.length := by have := HM.out; omega
      have hcx : wr.cell? ⟨b, off + k, none⟩ = some (encStr zs[k]) := ((hJb _ _ hJs).cell (p := ⟨b, off + k, none⟩) hb).trans (hc k hkl)
      have hlt2 : (k : Int) < (m : Int) := by omega
      obtain ⟨fn, tmps, assign, body, hy, hR⟩ := hY _ zs[k] wr hJs (by rw [List.length_take]; omega)
      have HTK := hide (take_next zs k hkl)
      generalize zs[k] = z at *
      gi_wp2
      refine hR.mono ?_
      rintro e W3 ⟨rfl, hJ3, hk3⟩
      gi_wp2
      go_roundw
      case rel => exact ⟨k + 1, by omega, by simp, by rw [HTK.out]; exact hJ3⟩
      case measure => simp [intOf]; omega
    · obtain rfl : k = m := by omega
      have hfin : J zs wr := by rw [List.take_of_length_le (by have := HM.out; omega)] at hJs; exact hJs
      gi_wp2
      go_end0
      exact ⟨⟨_, rfl⟩, hfin⟩
end Go.Proofs.YtgjdhndlbhbjhaaGreat
