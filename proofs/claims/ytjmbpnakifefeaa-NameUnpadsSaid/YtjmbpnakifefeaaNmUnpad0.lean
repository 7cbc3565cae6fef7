/- Plain part and laws for name.Unpad. -/
import Derived.Test.YtjmbpnakifefeaaNmPad
import Derived.Deep.RegionHeld3
import Derived.Deep.RegionWith
import Derived.StillTactics
namespace Go.Proofs.Ytjmbpnakifefeaa
open Go.RowKit Go.Lib

/-- What Unpad comes to at 30 bytes. -/
def unpadOk (b : List UInt8) (n : Nat) : Bool := validL (b.take n) && (b.drop n == zeros (30 - n))
def unpadV (b : List UInt8) (n : Int) : Value :=
  if 0 ≤ n ∧ n ≤ 30 ∧ unpadOk b n.toNat = true then .tuple #[.string ⟨(b.take n.toNat).toArray⟩, .bool true] else .tuple #[.string ⟨#[]⟩, .bool false]
theorem unpadV_out (b : List UInt8) (n : Int) (h : n < 0 ∨ 30 < n) : unpadV b n = .tuple #[.string ⟨#[]⟩, .bool false] := by
  unfold unpadV; rw [if_neg (by omega)]
theorem unpadV_no (b : List UInt8) (n : Nat) (h : unpadOk b n = false) : unpadV b (n : Int) = .tuple #[.string ⟨#[]⟩, .bool false] := by
  unfold unpadV; rw [if_neg]; rw [Int.toNat_natCast, h]; simp
theorem unpadV_yes (b : List UInt8) (n : Nat) (hn : n ≤ 30) (h : unpadOk b n = true) : unpadV b (n : Int) = .tuple #[.string ⟨(b.take n).toArray⟩, .bool true] := by
  unfold unpadV; rw [if_pos]
  · rfl
  · exact ⟨by omega, by omega, by rw [Int.toNat_natCast]; exact h⟩
theorem pad_back (b : List UInt8) (n : Nat) (hb : b.length = 30) (hn : n ≤ 30) (hv : validL (b.take n) = true) : (padL ⟨(b.take n).toArray⟩ == b) = (b.drop n == zeros (30 - n)) := by
  have hv' : validS ⟨(b.take n).toArray⟩ = true := hv
  have hs : (⟨(b.take n).toArray⟩ : ByteArray).size = n := by
    show (b.take n).toArray.size = n
    rw [List.size_toArray, List.length_take]; omega
  rw [padL, if_pos hv', hs]
  show (b.take n ++ zeros (30 - n) == b) = _
  rw [Bool.eq_iff_iff, beq_iff_eq, beq_iff_eq]
  constructor
  · intro h
    have h2 := congrArg (List.drop n) h
    rw [List.drop_left' (by rw [List.length_take]; omega)] at h2
    exact h2.symm
  · intro h
    rw [← h, List.take_append_drop]

theorem arr_neq (x y : List UInt8) (hx : x.length = 30) (hy : y.length = 30) (w : World) : (binOp .neq 32 (.agg (x.map byteV).toArray) (.agg (y.map byteV).toArray)).run Try.prog w = .ok (.bool (!(x == y))) w := by
  have h := run_equalIn_bytes (P := Try.prog) w 9998 32 5 30 Try.underlying32 Try.underlying5 Try.sizeOf5 x y hx hy
  simp only [binOp]
  simp only [Op.equal, Op.maxDepth, Sem.run_bind]
  exact (congrArg (fun r => Result.andThen r _) h)

/-- Kept through the region: the array's block, and all that lay below. -/
def Keeps (w0 : World) (g : Nat) (br : Array Value) (W : World) : Prop := Blk W g 32 br ∧ Below w0.heap.size w0 W
theorem Keeps.step {w0 W w' : World} {g : Nat} {br : Array Value} (h : Keeps w0 g br W) (hb : Below W.heap.size W w') (hs : w0.heap.size ≤ g) : Keeps w0 g br w' :=
  ⟨h.1.below hb h.1.lt, h.2.trans (hb.mono (by have := h.1.lt; omega))⟩
theorem str_take (W : World) (g : Nat) (b : List UInt8) (n : Nat) (hn : n ≤ 30) (hb : b.length = 30) (h : Blk W g 32 (b.map byteV).toArray) :
    (convert 36 9 (.slice (some ⟨g, 0, none⟩) n 30)).run Try.prog W = .ok (.string ⟨(b.take n).toArray⟩) W := by
  have hl : (b.take n).length = n := by rw [List.length_take]; omega
  have h2 := run_convert_bytes_back (P := Try.prog) W 36 9 5 ⟨g, 0, none⟩ 30 (b.take n) Try.underlying36 Try.underlying5 Try.underlying9 (fun j hj => by
    have hadd : (⟨g, 0, none⟩ : Addr).add j = ⟨g, j, none⟩ := by unfold Addr.add; split <;> simp_all
    rw [hadd, h.cell]
    rw [hl] at hj
    have hj2 : j < b.length := by omega
    simp [hj2, byteV, List.getElem_take])
  rwa [hl] at h2

theorem keeps_range {w0 W : World} {g : Nat} {br : Array Value} (h : Keeps w0 g br W) : W.rangeAt g 0 br.toList := by
  intro j v hj
  rw [Nat.zero_add, h.1.cell, ← Array.getElem?_toList]; exact hj
theorem keep0 {w0 W : World} {g : Nat} {br : Array Value} (h : Keeps w0 g br W) : W.drew.rangeAt g 0 br.toList ∧ Keeps w0 g br W.drew :=
  have h2 : Keeps w0 g br W.drew := ⟨h.1.drew, h.2.drew⟩
  ⟨keeps_range h2, h2⟩
theorem keep1 {w0 W w' : World} {g : Nat} {br : Array Value} (hb : Below W.heap.size W w') (h : W.rangeAt g 0 br.toList ∧ Keeps w0 g br W) (hs : w0.heap.size ≤ g) : w'.rangeAt g 0 br.toList ∧ Keeps w0 g br w' :=
  have h2 := h.2.step hb hs
  ⟨keeps_range h2, h2⟩

end Go.Proofs.Ytjmbpnakifefeaa
