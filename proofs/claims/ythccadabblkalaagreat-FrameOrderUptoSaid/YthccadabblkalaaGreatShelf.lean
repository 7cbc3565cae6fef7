/-
  DERIVED: THE SHELF's CONTRACTS AT THIS DUMP, IN PLAIN WORDS (tools/lay-plain.mjs out of 'TryzShelf.lean', which tools/lay-shelf.mjs wrote): THE SAME DECLARATIONS UNDER THE SAME NAMES: 'import', 'namespace', 'open', 'def', 'theorem' AND NOTHING ELSE: no command of the shelf's: FOR A HAND-IN. Each laying: the table of numbers ('.._ren') and one theorem, a field a fact of the dump's own or the kernel's comparison; each contract: ONE APPLICATION.
-/
import Derived.Shelf.Small.Bits
import Derived.Shelf.Small.Wraps
import Derived.Shelf.Strconv.Itoa0
import Derived.Ground.Names2Prog
import Derived.Shelf.Slices.SearchI
import Derived.Ground.SlgnProg
import Derived.Shelf.SlicesE.Equal
import Derived.Ground.SlsfProg
import Derived.Shelf.SlSortCmp.InsertionK
import Derived.Shelf.SlSortCmp.SiftDownK
import Derived.Shelf.SlSortCmp.HeapSortK
import Derived.Shelf.SlSortCmp.MedianK
import Derived.Shelf.SlSortCmp.PivotK
import Derived.Shelf.SlSortCmp.ReverseRangeK
import Derived.Shelf.SlSortCmp.PartialInsertionK
import Derived.Shelf.SlSortCmp.PartitionEqualK
import Derived.Shelf.SlSortCmp.PartitionK
import Derived.Shelf.SlSortCmp.PdqK
import Derived.Shelf.SlSortCmp.WholeK
import Derived.Shelf.SlSortCmp.NoneTotal
import Derived.Shelf.SlicesQ.Equal
import Derived.Ground.SlgqProg
import Derived.Shelf.SlicesQ.Reverse
import Derived.Test.YthccadabblkalaaGreatProg
namespace Go.Proofs
open Go.Shelf
def Tryz.lays128_ren : Go.Shelf.Ren := ⟨fun | 128 => 86 | n => n, fun | 51 => 65 | 3 => 3 | 4 => 4 | 46 => 134 | 5 => 5 | 9 => 9 | n => n, fun | n => n⟩
theorem Tryz.lays128 : Go.Proofs.Lays.n128 Tryz.prog Tryz.lays128_ren := {
  mixed := by kernel_rfl
  f128 := Tryz.func86.trans (congrArg some (by kernel_rfl))
  t3 := Tryz.underlying3
  a3 := Tryz.isAgg3
  z3 := Tryz.sizeOf3
  v3 := Tryz.zeroValue3
  t4 := Tryz.underlying4
  a4 := Tryz.isAgg4
  z4 := Tryz.sizeOf4
  v4 := Tryz.zeroValue4
  t5 := Tryz.underlying5
  a5 := Tryz.isAgg5
  z5 := Tryz.sizeOf5
  v5 := Tryz.zeroValue5
  t9 := Tryz.underlying9
  a9 := Tryz.isAgg9
  z9 := Tryz.sizeOf9
  v9 := Tryz.zeroValue9
  t46 := Tryz.underlying134
  a46 := Tryz.isAgg134
  z46 := Tryz.sizeOf134
  v46 := Tryz.zeroValue134
  t51 := Tryz.underlying65
  a51 := Tryz.isAgg65
  z51 := Tryz.sizeOf65
  v51 := Tryz.zeroValue65 }
/-- bits.Len32: "Len32 returns the minimum number of bits required to represent x; the result is 0 for x == 0.": IT RETURNS 'Lib.bitLen x'; the world is as it was. ('h0', 'h1': x is a uint32.) (LAID: no walk: one application.) -/
theorem Tryz.bits_Len32 (x : Int) (w : World) (h0 : 0 ≤ x) (h1 : x ≤ 4294967295) :
    Calls Tryz.prog 86 #[.int .u32 x] w fun e w' => e = .returned (.int .i64 (Lib.bitLen x.toNat)) ∧ w' = w := Any.bits_Len32 Tryz.lays128 x w h0 h1
def Tryz.lays125_ren : Go.Shelf.Ren := ⟨fun | 125 => 66 | 128 => 86 | 129 => 87 | n => n, fun | 46 => 134 | 3 => 3 | 51 => 65 | 53 => 22 | 4 => 4 | 5 => 5 | 9 => 9 | n => n, fun | n => n⟩
theorem Tryz.lays125 : Go.Proofs.Lays.n125 Tryz.prog Tryz.lays125_ren := {
  mixed := by kernel_rfl
  f125 := Tryz.func66.trans (congrArg some (by kernel_rfl))
  f128 := Tryz.func86.trans (congrArg some (by kernel_rfl))
  f129 := Tryz.func87.trans (congrArg some (by kernel_rfl))
  t3 := Tryz.underlying3
  a3 := Tryz.isAgg3
  z3 := Tryz.sizeOf3
  v3 := Tryz.zeroValue3
  t4 := Tryz.underlying4
  a4 := Tryz.isAgg4
  z4 := Tryz.sizeOf4
  v4 := Tryz.zeroValue4
  t5 := Tryz.underlying5
  a5 := Tryz.isAgg5
  z5 := Tryz.sizeOf5
  v5 := Tryz.zeroValue5
  t9 := Tryz.underlying9
  a9 := Tryz.isAgg9
  z9 := Tryz.sizeOf9
  v9 := Tryz.zeroValue9
  t46 := Tryz.underlying134
  a46 := Tryz.isAgg134
  z46 := Tryz.sizeOf134
  v46 := Tryz.zeroValue134
  t51 := Tryz.underlying65
  a51 := Tryz.isAgg65
  z51 := Tryz.sizeOf65
  v51 := Tryz.zeroValue65
  t53 := Tryz.underlying22
  a53 := Tryz.isAgg22
  z53 := Tryz.sizeOf22
  v53 := Tryz.zeroValue22 }
/-- bits.Len: "Len returns the minimum number of bits required to represent x; the result is 0 for x == 0.": IT RETURNS 'Lib.bitLen x'; the world is as it was. (A uint has 64 bits in the model.) ITS CALLEE bits.Len64 IS MET BY ITS OWN CONTRACT OFF THE SHELF (lay that first). (LAID: no walk: one application.) -/
theorem Tryz.bits_Len (x : Int) (w : World) (h0 : 0 ≤ x) (h1 : x ≤ 18446744073709551615) :
    Calls Tryz.prog 66 #[.int .u64 x] w fun e w' => e = .returned (.int .i64 (Lib.bitLen x.toNat)) ∧ w' = w := Any.bits_Len Tryz.lays125 x w h0 h1
def Tryz.lays215_ren : Go.Shelf.Ren := ⟨fun | 215 => 90 | n => n, fun | 3 => 3 | 4 => 4 | n => n, fun | n => n⟩
theorem Tryz.lays215 : Go.Proofs.Lays.n215 Tryz.prog Tryz.lays215_ren := {
  mixed := by kernel_rfl
  f215 := Tryz.func90.trans (congrArg some (by kernel_rfl))
  t3 := Tryz.underlying3
  a3 := Tryz.isAgg3
  z3 := Tryz.sizeOf3
  v3 := Tryz.zeroValue3
  t4 := Tryz.underlying4
  a4 := Tryz.isAgg4
  z4 := Tryz.sizeOf4
  v4 := Tryz.zeroValue4 }
open Go.RowKit in
/-- cmp.isNaN at int: 'x != x': false. (LAID: no walk: one application.) -/
theorem Tryz.cmp_isNaN_int (x : Int) (w : World) :
    Calls Tryz.prog 90 #[.int .i64 x] w fun e w' => e = .returned (.bool false) ∧ w' = w := Any.cmp_isNaN_int Tryz.lays215 x w
def Tryz.lays122_ren : Go.Shelf.Ren := ⟨fun | 122 => 74 | 215 => 90 | n => n, fun | 3 => 3 | 4 => 4 | n => n, fun | n => n⟩
theorem Tryz.lays122 : Go.Proofs.Lays.n122 Tryz.prog Tryz.lays122_ren := {
  mixed := by kernel_rfl
  f122 := Tryz.func74.trans (congrArg some (by kernel_rfl))
  f215 := Tryz.func90.trans (congrArg some (by kernel_rfl))
  t3 := Tryz.underlying3
  a3 := Tryz.isAgg3
  z3 := Tryz.sizeOf3
  v3 := Tryz.zeroValue3
  t4 := Tryz.underlying4
  a4 := Tryz.isAgg4
  z4 := Tryz.sizeOf4
  v4 := Tryz.zeroValue4 }
open Go.RowKit in
/-- cmp.Compare at int: "Compare returns -1 if x is less than y, 0 if x equals y, +1 if x is greater than y.": IT RETURNS 'Lib.compareInt x y'; the world is as it was. (LAID: no walk: one application.) -/
theorem Tryz.cmp_Compare_int (x y : Int) (w : World) :
    Calls Tryz.prog 74 #[.int .i64 x, .int .i64 y] w fun e w' => e = .returned (.int .i64 (Lib.compareInt x y)) ∧ w' = w := Any.cmp_Compare_int Tryz.lays122 x y w
def Tryz.lays129_ren : Go.Shelf.Ren := ⟨fun | 129 => 87 | n => n, fun | 53 => 22 | 3 => 3 | 4 => 4 | 46 => 134 | 5 => 5 | 9 => 9 | n => n, fun | n => n⟩
theorem Tryz.lays129 : Go.Proofs.Lays.n129 Tryz.prog Tryz.lays129_ren := {
  mixed := by kernel_rfl
  f129 := Tryz.func87.trans (congrArg some (by kernel_rfl))
  t3 := Tryz.underlying3
  a3 := Tryz.isAgg3
  z3 := Tryz.sizeOf3
  v3 := Tryz.zeroValue3
  t4 := Tryz.underlying4
  a4 := Tryz.isAgg4
  z4 := Tryz.sizeOf4
  v4 := Tryz.zeroValue4
  t5 := Tryz.underlying5
  a5 := Tryz.isAgg5
  z5 := Tryz.sizeOf5
  v5 := Tryz.zeroValue5
  t9 := Tryz.underlying9
  a9 := Tryz.isAgg9
  z9 := Tryz.sizeOf9
  v9 := Tryz.zeroValue9
  t46 := Tryz.underlying134
  a46 := Tryz.isAgg134
  z46 := Tryz.sizeOf134
  v46 := Tryz.zeroValue134
  t53 := Tryz.underlying22
  a53 := Tryz.isAgg22
  z53 := Tryz.sizeOf22
  v53 := Tryz.zeroValue22 }
/-- bits.Len64: "Len64 returns the minimum number of bits required to represent x; the result is 0 for x == 0.": IT RETURNS 'Lib.bitLen x'; the world is as it was. ('h0', 'h1': x is a uint64.) (LAID: no walk: one application.) -/
theorem Tryz.bits_Len64 (x : Int) (w : World) (h0 : 0 ≤ x) (h1 : x ≤ 18446744073709551615) :
    Calls Tryz.prog 87 #[.int .u64 x] w fun e w' => e = .returned (.int .i64 (Lib.bitLen x.toNat)) ∧ w' = w := Any.bits_Len64 Tryz.lays129 x w h0 h1
def Tryz.laysNm237_ren : Go.Shelf.Ren := ⟨fun | 37 => 90 | n => n, fun | 3 => 3 | 4 => 4 | n => n, fun | n => n⟩
theorem Tryz.laysNm237 : Go.Proofs.Lays2.n37 Tryz.prog Tryz.laysNm237_ren := {
  mixed := by kernel_rfl
  f37 := Tryz.func90.trans (congrArg some (by kernel_rfl))
  t3 := Tryz.underlying3
  a3 := Tryz.isAgg3
  z3 := Tryz.sizeOf3
  v3 := Tryz.zeroValue3
  t4 := Tryz.underlying4
  a4 := Tryz.isAgg4
  z4 := Tryz.sizeOf4
  v4 := Tryz.zeroValue4 }
open Go.RowKit Go.Lib in
/-- cmp.isNaN[int]: 'x != x': false. (LAID: no walk: one application.) -/
theorem Tryz.cmp_isNaN_int2 (x : Int) (w : World) :
    Calls Tryz.prog 90 #[.int .i64 x] w fun e w' => e = .returned (.bool false) ∧ w' = w := Any.cmp_isNaN_int2 Tryz.laysNm237 x w
def Tryz.laysSlE33_f11_ren : Go.Shelf.Ren := ⟨fun | 33 => 11 | n => n, fun | 22 => 33 | 23 => 34 | 4 => 4 | 3 => 3 | 0 => 0 | n => n, fun | n => n⟩
theorem Tryz.laysSlE33_f11 : Go.Proofs.SlLaysE.n33 Tryz.prog Tryz.laysSlE33_f11_ren := {
  mixed := by kernel_rfl
  f33 := ⟨Tryz.f11.name, by decide, Tryz.func11.trans (congrArg some (by kernel_rfl))⟩
  t0 := Tryz.underlying0
  a0 := Tryz.isAgg0
  z0 := Tryz.sizeOf0
  v0 := Tryz.zeroValue0
  t3 := Tryz.underlying3
  a3 := Tryz.isAgg3
  z3 := Tryz.sizeOf3
  v3 := Tryz.zeroValue3
  t4 := Tryz.underlying4
  a4 := Tryz.isAgg4
  z4 := Tryz.sizeOf4
  v4 := Tryz.zeroValue4
  t22 := Tryz.underlying33
  a22 := Tryz.isAgg33
  z22 := Tryz.sizeOf33
  v22 := Tryz.zeroValue33
  a23 := Tryz.isAgg34
  z23 := Tryz.sizeOf34 }
open Go.RowKit Go.Lib in
/-- slices.Equal: "Equal reports whether two slices are equal: the same length and all elements equal. .. Empty and nil slices are considered equal. Floating point NaNs are not considered equal.": IT RETURNS 'Lib.allEq eq (the one's elements) (the other's)'; the world is as it was but for the count of draws. (LAID AT THE INSTANCE 'slices.Equal[[]uint16,uint16]': no walk: one application.) -/
theorem Tryz.slices_Equal {α : Type} [Inhabited α] (enc : α → Value) (eq : α → α → Bool) (hne : NeqAt Tryz.prog 34 enc eq) (b1 o1 n c b2 o2 m d : Nat) (xs ys : List α) (w : World) (hx : n ≤ xs.length) (hy : m ≤ ys.length) (hbig : n ≤ 9223372036854775807) (hbig2 : m ≤ 9223372036854775807) (hc1 : ∀ j, j < xs.length → w.cell? ⟨b1, o1 + j, none⟩ = some (enc xs[j]!)) (hc2 : ∀ j, j < ys.length → w.cell? ⟨b2, o2 + j, none⟩ = some (enc ys[j]!)) :
    Calls Tryz.prog 11 #[.slice (some ⟨b1, o1, none⟩) n c, .slice (some ⟨b2, o2, none⟩) m d] w fun e w' => e = .returned (.bool (Lib.allEq eq (xs.take n) (ys.take m))) ∧ ∃ q, w' = w.drewN q := AnyE.slices_Equal Tryz.laysSlE33_f11 enc eq hne b1 o1 n c b2 o2 m d xs ys w hx hy hbig hbig2 hc1 hc2
def Tryz.laysSlF020_f97_ren : Go.Shelf.Ren := ⟨fun | 20 => 97 | n => n, fun | 24 => 116 | 22 => 114 | 3 => 3 | 25 => 144 | 4 => 4 | 0 => 0 | n => n, fun | n => n⟩
theorem Tryz.laysSlF020_f97 : Go.Proofs.SlLaysF0.n20 Tryz.prog Tryz.laysSlF020_f97_ren := {
  mixed := by kernel_rfl
  f20 := ⟨Tryz.f97.name, by decide, Tryz.func97.trans (congrArg some (by kernel_rfl))⟩
  t0 := Tryz.underlying0
  a0 := Tryz.isAgg0
  z0 := Tryz.sizeOf0
  v0 := Tryz.zeroValue0
  t3 := Tryz.underlying3
  a3 := Tryz.isAgg3
  z3 := Tryz.sizeOf3
  v3 := Tryz.zeroValue3
  t4 := Tryz.underlying4
  a4 := Tryz.isAgg4
  z4 := Tryz.sizeOf4
  v4 := Tryz.zeroValue4
  t22 := Tryz.underlying114
  a22 := Tryz.isAgg114
  z22 := Tryz.sizeOf114
  v22 := Tryz.zeroValue114
  t25 := Tryz.underlying144
  a25 := Tryz.isAgg144
  z25 := Tryz.sizeOf144
  v25 := Tryz.zeroValue144 }
open Go.RowKit Go.Lib Go.Sort in
theorem Tryz.insertionSortCmpFunc {α : Type} [Inhabited α] (k : Nat) (aE : ∀ w, (isAgg 116).run Tryz.prog w = .ok true w) (zE : ∀ w, (Go.sizeOf 116).run Tryz.prog w = .ok k w) (enc : α → List Value) (hk : ∀ x, (enc x).length = k) (h1 : ∀ x, ∀ v ∈ enc x, v.oneCell' = true) (cf : α → α → Int) (g : Nat) (cb : Array Value) (blk off cap a b : Nat) (d : Array α) (w : World) (eg : ∀ args w, (callFunc g args).run Tryz.prog w = .ok (.enter g args) w) (hcmp : CmpLays Tryz.prog g cb enc k cf blk off d.size w) (hH : HoldsK enc k w blk off d) (hblk : blk < w.heap.size) (hab : a ≤ b) (hb : b ≤ d.size) (hsz : d.size < 4611686018427387904) :
    Calls Tryz.prog 97 #[.slice (some ⟨blk, off, none⟩) d.size cap, .int .i64 a, .int .i64 b, .func (.func g) #[] cb] w fun e w' =>
      e = .returned (.tuple #[]) ∧ ∃ n os, w' = sortWorldK enc k w blk off n (Sort.insertionSort (ltOf cf) d a b) os := AnyQ.insertionSortCmpFunc Tryz.laysSlF020_f97 k aE zE enc hk h1 cf g cb blk off cap a b d w eg hcmp hH hblk hab hb hsz
def Tryz.laysSlF046_f106_ren : Go.Shelf.Ren := ⟨fun | 46 => 106 | n => n, fun | 24 => 116 | 22 => 114 | 3 => 3 | 25 => 144 | 4 => 4 | 0 => 0 | n => n, fun | n => n⟩
theorem Tryz.laysSlF046_f106 : Go.Proofs.SlLaysF0.n46 Tryz.prog Tryz.laysSlF046_f106_ren := {
  mixed := by kernel_rfl
  f46 := ⟨Tryz.f106.name, by decide, Tryz.func106.trans (congrArg some (by kernel_rfl))⟩
  t0 := Tryz.underlying0
  a0 := Tryz.isAgg0
  z0 := Tryz.sizeOf0
  v0 := Tryz.zeroValue0
  t3 := Tryz.underlying3
  a3 := Tryz.isAgg3
  z3 := Tryz.sizeOf3
  v3 := Tryz.zeroValue3
  t4 := Tryz.underlying4
  a4 := Tryz.isAgg4
  z4 := Tryz.sizeOf4
  v4 := Tryz.zeroValue4
  t22 := Tryz.underlying114
  a22 := Tryz.isAgg114
  z22 := Tryz.sizeOf114
  v22 := Tryz.zeroValue114
  t25 := Tryz.underlying144
  a25 := Tryz.isAgg144
  z25 := Tryz.sizeOf144
  v25 := Tryz.zeroValue144 }
open Go.RowKit Go.Lib Go.Sort in
/-- slices.siftDownCmpFunc at elements of k cells: from a world of the sort's to a world of the sort's. (LAID AT THE INSTANCE 'slices.siftDownCmpFunc[[2]int]': no walk: one application.) -/
theorem Tryz.siftDownCmpFunc {α : Type} [Inhabited α] (k : Nat) (aE : ∀ w, (isAgg 116).run Tryz.prog w = .ok true w) (zE : ∀ w, (Go.sizeOf 116).run Tryz.prog w = .ok k w) (enc : α → List Value) (cf : α → α → Int) (g : Nat) (cb : Array Value) (blk off cap lo hi first : Nat) (d0 d : Array α) (w0 w : World) (eg : ∀ args w, (callFunc g args).run Tryz.prog w = .ok (.enter g args) w) (hcmp : CmpLays Tryz.prog g cb enc k cf blk off d0.size w0) (R : RowK enc k w0 blk off d0) (hs : d0.size = d.size) (S : SWK enc k w0 blk off d w) (hlo : lo ≤ hi) (hb : first + hi ≤ d.size) (hsz : d.size < 4611686018427387904) :
    Calls Tryz.prog 106 #[.slice (some ⟨blk, off, none⟩) d.size cap, .int .i64 lo, .int .i64 hi, .int .i64 first, .func (.func g) #[] cb] w fun e w' =>
      e = .returned (.tuple #[]) ∧ SWK enc k w0 blk off (siftDown (ltOf cf) hi first lo d) w' := AnyQ.siftDownCmpFunc Tryz.laysSlF046_f106 k aE zE enc cf g cb blk off cap lo hi first d0 d w0 w eg hcmp R hs S hlo hb hsz
def Tryz.laysSlF021_f98_ren : Go.Shelf.Ren := ⟨fun | 21 => 98 | 46 => 106 | n => n, fun | 24 => 116 | 22 => 114 | 3 => 3 | 25 => 144 | 4 => 4 | 0 => 0 | n => n, fun | n => n⟩
theorem Tryz.laysSlF021_f98 : Go.Proofs.SlLaysF0.n21 Tryz.prog Tryz.laysSlF021_f98_ren := {
  mixed := by kernel_rfl
  f21 := ⟨Tryz.f98.name, by decide, Tryz.func98.trans (congrArg some (by kernel_rfl))⟩
  f46 := ⟨Tryz.f106.name, by decide, Tryz.func106.trans (congrArg some (by kernel_rfl))⟩
  t0 := Tryz.underlying0
  a0 := Tryz.isAgg0
  z0 := Tryz.sizeOf0
  v0 := Tryz.zeroValue0
  t3 := Tryz.underlying3
  a3 := Tryz.isAgg3
  z3 := Tryz.sizeOf3
  v3 := Tryz.zeroValue3
  t4 := Tryz.underlying4
  a4 := Tryz.isAgg4
  z4 := Tryz.sizeOf4
  v4 := Tryz.zeroValue4
  t22 := Tryz.underlying114
  a22 := Tryz.isAgg114
  z22 := Tryz.sizeOf114
  v22 := Tryz.zeroValue114
  t25 := Tryz.underlying144
  a25 := Tryz.isAgg144
  z25 := Tryz.sizeOf144
  v25 := Tryz.zeroValue144 }
open Go.RowKit Go.Lib Go.Sort in
/-- slices.heapSortCmpFunc at elements of k cells. (LAID AT THE INSTANCE 'slices.heapSortCmpFunc[[2]int]': no walk: one application.) -/
theorem Tryz.heapSortCmpFunc {α : Type} [Inhabited α] (k : Nat) (aE : ∀ w, (isAgg 116).run Tryz.prog w = .ok true w) (zE : ∀ w, (Go.sizeOf 116).run Tryz.prog w = .ok k w) (enc : α → List Value) (cf : α → α → Int) (g : Nat) (cb : Array Value) (blk off cap a b : Nat) (d0 d : Array α) (w0 w : World) (eg : ∀ args w, (callFunc g args).run Tryz.prog w = .ok (.enter g args) w) (hcmp : CmpLays Tryz.prog g cb enc k cf blk off d0.size w0) (R : RowK enc k w0 blk off d0) (hs : d0.size = d.size) (S : SWK enc k w0 blk off d w) (hab : a ≤ b) (hb : b ≤ d.size) (hsz : d.size < 4611686018427387904) :
    Calls Tryz.prog 98 #[.slice (some ⟨blk, off, none⟩) d.size cap, .int .i64 a, .int .i64 b, .func (.func g) #[] cb] w fun e w' =>
      e = .returned (.tuple #[]) ∧ SWK enc k w0 blk off (heapSort (ltOf cf) d a b) w' := AnyQ.heapSortCmpFunc Tryz.laysSlF021_f98 k aE zE enc cf g cb blk off cap a b d0 d w0 w eg hcmp R hs S hab hb hsz
def Tryz.laysSlF057_f109_ren : Go.Shelf.Ren := ⟨fun | 57 => 109 | n => n, fun | 24 => 116 | 22 => 114 | 3 => 3 | 70 => 170 | 25 => 144 | 0 => 0 | 4 => 4 | n => n, fun | n => n⟩
theorem Tryz.laysSlF057_f109 : Go.Proofs.SlLaysF0.n57 Tryz.prog Tryz.laysSlF057_f109_ren := {
  mixed := by kernel_rfl
  f57 := ⟨Tryz.f109.name, by decide, Tryz.func109.trans (congrArg some (by kernel_rfl))⟩
  t0 := Tryz.underlying0
  a0 := Tryz.isAgg0
  z0 := Tryz.sizeOf0
  v0 := Tryz.zeroValue0
  t3 := Tryz.underlying3
  a3 := Tryz.isAgg3
  z3 := Tryz.sizeOf3
  v3 := Tryz.zeroValue3
  t4 := Tryz.underlying4
  a4 := Tryz.isAgg4
  z4 := Tryz.sizeOf4
  v4 := Tryz.zeroValue4
  t22 := Tryz.underlying114
  a22 := Tryz.isAgg114
  z22 := Tryz.sizeOf114
  v22 := Tryz.zeroValue114
  t25 := Tryz.underlying144
  a25 := Tryz.isAgg144
  z25 := Tryz.sizeOf144
  v25 := Tryz.zeroValue144
  t70 := Tryz.underlying170
  a70 := Tryz.isAgg170
  z70 := Tryz.sizeOf170
  v70 := Tryz.zeroValue170 }
open Go.RowKit Go.Lib Go.Sort in
/-- slices.order2CmpFunc at elements of k cells. (LAID AT THE INSTANCE 'slices.order2CmpFunc[[2]int]': no walk: one application.) -/
theorem Tryz.order2CmpFunc {α : Type} [Inhabited α] (k : Nat) (aE : ∀ w, (isAgg 116).run Tryz.prog w = .ok true w) (zE : ∀ w, (Go.sizeOf 116).run Tryz.prog w = .ok k w) (enc : α → List Value) (cf : α → α → Int) (g : Nat) (cb : Array Value) (blk off cap a b c s : Nat) (d0 d : Array α) (w0 W : World) (eg : ∀ args w, (callFunc g args).run Tryz.prog w = .ok (.enter g args) w) (hcmp : CmpLays Tryz.prog g cb enc k cf blk off d0.size w0) (R : RowK enc k w0 blk off d0) (hs : d0.size = d.size) (C : CntK enc k w0 blk off d c s W) (ha : a < d.size) (hb : b < d.size) (hsz : d.size < 4611686018427387904) (hss : s < 4611686018427387904) :
    Calls Tryz.prog 109 #[.slice (some ⟨blk, off, none⟩) d.size cap, .int .i64 a, .int .i64 b, .pointer (some ⟨c, 0, none⟩), .func (.func g) #[] cb] W fun e w' =>
      e = .returned (.tuple #[.int .i64 (order2 (ltOf cf) d a b s).1, .int .i64 (order2 (ltOf cf) d a b s).2.1]) ∧ CntK enc k w0 blk off d c (order2 (ltOf cf) d a b s).2.2 w' := AnyQ.order2CmpFunc Tryz.laysSlF057_f109 k aE zE enc cf g cb blk off cap a b c s d0 d w0 W eg hcmp R hs C ha hb hsz hss
def Tryz.laysSlF050_f108_ren : Go.Shelf.Ren := ⟨fun | 50 => 108 | 57 => 109 | n => n, fun | 24 => 116 | 22 => 114 | 3 => 3 | 70 => 170 | 25 => 144 | 77 => 73 | 0 => 0 | 4 => 4 | n => n, fun | n => n⟩
theorem Tryz.laysSlF050_f108 : Go.Proofs.SlLaysF0.n50 Tryz.prog Tryz.laysSlF050_f108_ren := {
  mixed := by kernel_rfl
  f50 := ⟨Tryz.f108.name, by decide, Tryz.func108.trans (congrArg some (by kernel_rfl))⟩
  f57 := ⟨Tryz.f109.name, by decide, Tryz.func109.trans (congrArg some (by kernel_rfl))⟩
  t0 := Tryz.underlying0
  a0 := Tryz.isAgg0
  z0 := Tryz.sizeOf0
  v0 := Tryz.zeroValue0
  t3 := Tryz.underlying3
  a3 := Tryz.isAgg3
  z3 := Tryz.sizeOf3
  v3 := Tryz.zeroValue3
  t4 := Tryz.underlying4
  a4 := Tryz.isAgg4
  z4 := Tryz.sizeOf4
  v4 := Tryz.zeroValue4
  t22 := Tryz.underlying114
  a22 := Tryz.isAgg114
  z22 := Tryz.sizeOf114
  v22 := Tryz.zeroValue114
  t25 := Tryz.underlying144
  a25 := Tryz.isAgg144
  z25 := Tryz.sizeOf144
  v25 := Tryz.zeroValue144
  t70 := Tryz.underlying170
  a70 := Tryz.isAgg170
  z70 := Tryz.sizeOf170
  v70 := Tryz.zeroValue170
  t77 := Tryz.underlying73
  a77 := Tryz.isAgg73
  z77 := Tryz.sizeOf73
  v77 := Tryz.zeroValue73 }
open Go.RowKit Go.Lib Go.Sort in
/-- slices.medianCmpFunc at elements of k cells. (LAID AT THE INSTANCE 'slices.medianCmpFunc[[2]int]': no walk: one application.) -/
theorem Tryz.medianCmpFunc {α : Type} [Inhabited α] (k : Nat) (aE : ∀ w, (isAgg 116).run Tryz.prog w = .ok true w) (zE : ∀ w, (Go.sizeOf 116).run Tryz.prog w = .ok k w) (enc : α → List Value) (cf : α → α → Int) (g : Nat) (cb : Array Value) (blk off cap a b c' c s : Nat) (d0 d : Array α) (w0 W : World) (eg : ∀ args w, (callFunc g args).run Tryz.prog w = .ok (.enter g args) w) (hcmp : CmpLays Tryz.prog g cb enc k cf blk off d0.size w0) (R : RowK enc k w0 blk off d0) (hs : d0.size = d.size) (C : CntK enc k w0 blk off d c s W) (ha : a < d.size) (hb : b < d.size) (hc : c' < d.size) (hsz : d.size < 4611686018427387904) (hss : s + 3 < 4611686018427387904) :
    Calls Tryz.prog 108 #[.slice (some ⟨blk, off, none⟩) d.size cap, .int .i64 a, .int .i64 b, .int .i64 c', .pointer (some ⟨c, 0, none⟩), .func (.func g) #[] cb] W fun e w' =>
      e = .returned (.int .i64 (median (ltOf cf) d a b c' s).1) ∧ CntK enc k w0 blk off d c (median (ltOf cf) d a b c' s).2 w' := AnyQ.medianCmpFunc Tryz.laysSlF050_f108 k aE zE enc cf g cb blk off cap a b c' c s d0 d w0 W eg hcmp R hs C ha hb hc hsz hss
def Tryz.laysSlF049_f107_ren : Go.Shelf.Ren := ⟨fun | 49 => 107 | 50 => 108 | 57 => 109 | n => n, fun | 24 => 116 | 22 => 114 | 3 => 3 | 70 => 170 | 25 => 144 | 77 => 73 | 0 => 0 | 4 => 4 | n => n, fun | n => n⟩
theorem Tryz.laysSlF049_f107 : Go.Proofs.SlLaysF0.n49 Tryz.prog Tryz.laysSlF049_f107_ren := {
  mixed := by kernel_rfl
  f49 := ⟨Tryz.f107.name, by decide, Tryz.func107.trans (congrArg some (by kernel_rfl))⟩
  f50 := ⟨Tryz.f108.name, by decide, Tryz.func108.trans (congrArg some (by kernel_rfl))⟩
  f57 := ⟨Tryz.f109.name, by decide, Tryz.func109.trans (congrArg some (by kernel_rfl))⟩
  t0 := Tryz.underlying0
  a0 := Tryz.isAgg0
  z0 := Tryz.sizeOf0
  v0 := Tryz.zeroValue0
  t3 := Tryz.underlying3
  a3 := Tryz.isAgg3
  z3 := Tryz.sizeOf3
  v3 := Tryz.zeroValue3
  t4 := Tryz.underlying4
  a4 := Tryz.isAgg4
  z4 := Tryz.sizeOf4
  v4 := Tryz.zeroValue4
  t22 := Tryz.underlying114
  a22 := Tryz.isAgg114
  z22 := Tryz.sizeOf114
  v22 := Tryz.zeroValue114
  t25 := Tryz.underlying144
  a25 := Tryz.isAgg144
  z25 := Tryz.sizeOf144
  v25 := Tryz.zeroValue144
  t70 := Tryz.underlying170
  a70 := Tryz.isAgg170
  z70 := Tryz.sizeOf170
  v70 := Tryz.zeroValue170
  t77 := Tryz.underlying73
  a77 := Tryz.isAgg73
  z77 := Tryz.sizeOf73
  v77 := Tryz.zeroValue73 }
open Go.RowKit Go.Lib Go.Sort in
/-- slices.medianAdjacentCmpFunc at elements of k cells. (LAID AT THE INSTANCE 'slices.medianAdjacentCmpFunc[[2]int]': no walk: one application.) -/
theorem Tryz.medianAdjacentCmpFunc {α : Type} [Inhabited α] (k : Nat) (aE : ∀ w, (isAgg 116).run Tryz.prog w = .ok true w) (zE : ∀ w, (Go.sizeOf 116).run Tryz.prog w = .ok k w) (enc : α → List Value) (cf : α → α → Int) (g : Nat) (cb : Array Value) (blk off cap a c s : Nat) (d0 d : Array α) (w0 W : World) (eg : ∀ args w, (callFunc g args).run Tryz.prog w = .ok (.enter g args) w) (hcmp : CmpLays Tryz.prog g cb enc k cf blk off d0.size w0) (R : RowK enc k w0 blk off d0) (hs : d0.size = d.size) (C : CntK enc k w0 blk off d c s W) (ha1 : 1 ≤ a) (ha2 : a + 1 < d.size) (hsz : d.size < 4611686018427387904) (hss : s + 3 < 4611686018427387904) :
    Calls Tryz.prog 107 #[.slice (some ⟨blk, off, none⟩) d.size cap, .int .i64 a, .pointer (some ⟨c, 0, none⟩), .func (.func g) #[] cb] W fun e w' =>
      e = .returned (.int .i64 (medianAdjacent (ltOf cf) d a s).1) ∧ CntK enc k w0 blk off d c (medianAdjacent (ltOf cf) d a s).2 w' := AnyQ.medianAdjacentCmpFunc Tryz.laysSlF049_f107 k aE zE enc cf g cb blk off cap a c s d0 d w0 W eg hcmp R hs C ha1 ha2 hsz hss
def Tryz.laysSlF023_f100_ren : Go.Shelf.Ren := ⟨fun | 23 => 100 | 49 => 107 | 50 => 108 | 57 => 109 | n => n, fun | 24 => 116 | 22 => 114 | 3 => 3 | 25 => 144 | 45 => 152 | 0 => 0 | 4 => 4 | 70 => 170 | 77 => 73 | n => n, fun | n => n⟩
theorem Tryz.laysSlF023_f100 : Go.Proofs.SlLaysF0.n23 Tryz.prog Tryz.laysSlF023_f100_ren := {
  mixed := by kernel_rfl
  f23 := ⟨Tryz.f100.name, by decide, Tryz.func100.trans (congrArg some (by kernel_rfl))⟩
  f49 := ⟨Tryz.f107.name, by decide, Tryz.func107.trans (congrArg some (by kernel_rfl))⟩
  f50 := ⟨Tryz.f108.name, by decide, Tryz.func108.trans (congrArg some (by kernel_rfl))⟩
  f57 := ⟨Tryz.f109.name, by decide, Tryz.func109.trans (congrArg some (by kernel_rfl))⟩
  t0 := Tryz.underlying0
  a0 := Tryz.isAgg0
  z0 := Tryz.sizeOf0
  v0 := Tryz.zeroValue0
  t3 := Tryz.underlying3
  a3 := Tryz.isAgg3
  z3 := Tryz.sizeOf3
  v3 := Tryz.zeroValue3
  t4 := Tryz.underlying4
  a4 := Tryz.isAgg4
  z4 := Tryz.sizeOf4
  v4 := Tryz.zeroValue4
  t22 := Tryz.underlying114
  a22 := Tryz.isAgg114
  z22 := Tryz.sizeOf114
  v22 := Tryz.zeroValue114
  t25 := Tryz.underlying144
  a25 := Tryz.isAgg144
  z25 := Tryz.sizeOf144
  v25 := Tryz.zeroValue144
  t45 := Tryz.underlying152
  a45 := Tryz.isAgg152
  z45 := Tryz.sizeOf152
  v45 := Tryz.zeroValue152
  t70 := Tryz.underlying170
  a70 := Tryz.isAgg170
  z70 := Tryz.sizeOf170
  v70 := Tryz.zeroValue170
  t77 := Tryz.underlying73
  a77 := Tryz.isAgg73
  z77 := Tryz.sizeOf73
  v77 := Tryz.zeroValue73 }
open Go.RowKit Go.Lib Go.Sort in
/-- slices.choosePivotCmpFunc at elements of k cells: THE LIBRARY's OWN TEXT COMPUTES 'Sort.choosePivot (ltOf cf) d a b'; the row is not turned. (After Derived/Shelf/SlSortFuncK/PivotK.lean, row for row; the counter's world by 'CntK'.) (LAID AT THE INSTANCE 'slices.choosePivotCmpFunc[[2]int]': no walk: one application.) -/
theorem Tryz.choosePivotCmpFunc {α : Type} [Inhabited α] (k : Nat) (aE : ∀ w, (isAgg 116).run Tryz.prog w = .ok true w) (zE : ∀ w, (Go.sizeOf 116).run Tryz.prog w = .ok k w) (enc : α → List Value) (cf : α → α → Int) (g : Nat) (cb : Array Value) (blk off cap a b : Nat) (d0 d : Array α) (w0 W : World) (eg : ∀ args w, (callFunc g args).run Tryz.prog w = .ok (.enter g args) w) (hcmp : CmpLays Tryz.prog g cb enc k cf blk off d0.size w0) (R : RowK enc k w0 blk off d0) (hs : d0.size = d.size) (S : SWK enc k w0 blk off d W) (hab : a < b) (hb : b ≤ d.size) (hsz : d.size < 4611686018427387904) :
    Calls Tryz.prog 100 #[.slice (some ⟨blk, off, none⟩) d.size cap, .int .i64 a, .int .i64 b, .func (.func g) #[] cb] W fun e w' =>
      e = .returned (.tuple #[.int .i64 (choosePivot (ltOf cf) d a b).1, .int .i64 (hintCode (choosePivot (ltOf cf) d a b).2)]) ∧ SWK enc k w0 blk off d w' := AnyQ.choosePivotCmpFunc Tryz.laysSlF023_f100 k aE zE enc cf g cb blk off cap a b d0 d w0 W eg hcmp R hs S hab hb hsz
def Tryz.laysSlF024_f101_ren : Go.Shelf.Ren := ⟨fun | 24 => 101 | n => n, fun | 24 => 116 | 22 => 114 | 3 => 3 | 25 => 144 | 4 => 4 | 0 => 0 | n => n, fun | n => n⟩
theorem Tryz.laysSlF024_f101 : Go.Proofs.SlLaysF0.n24 Tryz.prog Tryz.laysSlF024_f101_ren := {
  mixed := by kernel_rfl
  f24 := ⟨Tryz.f101.name, by decide, Tryz.func101.trans (congrArg some (by kernel_rfl))⟩
  t0 := Tryz.underlying0
  a0 := Tryz.isAgg0
  z0 := Tryz.sizeOf0
  v0 := Tryz.zeroValue0
  t3 := Tryz.underlying3
  a3 := Tryz.isAgg3
  z3 := Tryz.sizeOf3
  v3 := Tryz.zeroValue3
  t4 := Tryz.underlying4
  a4 := Tryz.isAgg4
  z4 := Tryz.sizeOf4
  v4 := Tryz.zeroValue4
  t22 := Tryz.underlying114
  a22 := Tryz.isAgg114
  z22 := Tryz.sizeOf114
  v22 := Tryz.zeroValue114
  t25 := Tryz.underlying144
  a25 := Tryz.isAgg144
  z25 := Tryz.sizeOf144
  v25 := Tryz.zeroValue144 }
open Go.RowKit Go.Lib Go.Sort in
/-- slices.reverseRangeCmpFunc at elements of k cells: it exchanges and does not compare. (LAID AT THE INSTANCE 'slices.reverseRangeCmpFunc[[2]int]': no walk: one application.) -/
theorem Tryz.reverseRangeCmpFunc {α : Type} [Inhabited α] (k : Nat) (aE : ∀ w, (isAgg 116).run Tryz.prog w = .ok true w) (zE : ∀ w, (Go.sizeOf 116).run Tryz.prog w = .ok k w) (enc : α → List Value) (g : Nat) (cb : Array Value) (blk off cap a b : Nat) (d0 d : Array α) (w0 w : World) (R : RowK enc k w0 blk off d0) (hs : d0.size = d.size) (S : SWK enc k w0 blk off d w) (hab : a ≤ b) (hb : b ≤ d.size) (hsz : d.size < 4611686018427387904) :
    Calls Tryz.prog 101 #[.slice (some ⟨blk, off, none⟩) d.size cap, .int .i64 a, .int .i64 b, .func (.func g) #[] cb] w fun e w' => e = .returned (.tuple #[]) ∧ SWK enc k w0 blk off (reverseRange d a b) w' := AnyQ.reverseRangeCmpFunc Tryz.laysSlF024_f101 k aE zE enc g cb blk off cap a b d0 d w0 w R hs S hab hb hsz
def Tryz.laysSlF025_f102_ren : Go.Shelf.Ren := ⟨fun | 25 => 102 | n => n, fun | 24 => 116 | 22 => 114 | 3 => 3 | 25 => 144 | 4 => 4 | 0 => 0 | n => n, fun | n => n⟩
theorem Tryz.laysSlF025_f102 : Go.Proofs.SlLaysF0.n25 Tryz.prog Tryz.laysSlF025_f102_ren := {
  mixed := by kernel_rfl
  f25 := ⟨Tryz.f102.name, by decide, Tryz.func102.trans (congrArg some (by kernel_rfl))⟩
  t0 := Tryz.underlying0
  a0 := Tryz.isAgg0
  z0 := Tryz.sizeOf0
  v0 := Tryz.zeroValue0
  t3 := Tryz.underlying3
  a3 := Tryz.isAgg3
  z3 := Tryz.sizeOf3
  v3 := Tryz.zeroValue3
  t4 := Tryz.underlying4
  a4 := Tryz.isAgg4
  z4 := Tryz.sizeOf4
  v4 := Tryz.zeroValue4
  t22 := Tryz.underlying114
  a22 := Tryz.isAgg114
  z22 := Tryz.sizeOf114
  v22 := Tryz.zeroValue114
  t25 := Tryz.underlying144
  a25 := Tryz.isAgg144
  z25 := Tryz.sizeOf144
  v25 := Tryz.zeroValue144 }
open Go.RowKit Go.Lib Go.Sort in
/-- slices.partialInsertionSortCmpFunc at elements of k cells. (LAID AT THE INSTANCE 'slices.partialInsertionSortCmpFunc[[2]int]': no walk: one application.) -/
theorem Tryz.partialInsertionSortCmpFunc {α : Type} [Inhabited α] (k : Nat) (aE : ∀ w, (isAgg 116).run Tryz.prog w = .ok true w) (zE : ∀ w, (Go.sizeOf 116).run Tryz.prog w = .ok k w) (enc : α → List Value) (cf : α → α → Int) (g : Nat) (cb : Array Value) (blk off cap a b : Nat) (d0 d : Array α) (w0 w : World) (eg : ∀ args w, (callFunc g args).run Tryz.prog w = .ok (.enter g args) w) (hcmp : CmpLays Tryz.prog g cb enc k cf blk off d0.size w0) (R : RowK enc k w0 blk off d0) (hs : d0.size = d.size) (S : SWK enc k w0 blk off d w) (hab : a < b) (hb : b ≤ d.size) (hsz : d.size < 4611686018427387904) :
    Calls Tryz.prog 102 #[.slice (some ⟨blk, off, none⟩) d.size cap, .int .i64 a, .int .i64 b, .func (.func g) #[] cb] w fun e w' =>
      e = .returned (.bool (Sort.partialInsertionSort (ltOf cf) d a b).2) ∧ SWK enc k w0 blk off (Sort.partialInsertionSort (ltOf cf) d a b).1 w' := AnyQ.partialInsertionSortCmpFunc Tryz.laysSlF025_f102 k aE zE enc cf g cb blk off cap a b d0 d w0 w eg hcmp R hs S hab hb hsz
def Tryz.laysSlF026_f103_ren : Go.Shelf.Ren := ⟨fun | 26 => 103 | n => n, fun | 24 => 116 | 22 => 114 | 3 => 3 | 25 => 144 | 0 => 0 | 4 => 4 | n => n, fun | n => n⟩
theorem Tryz.laysSlF026_f103 : Go.Proofs.SlLaysF0.n26 Tryz.prog Tryz.laysSlF026_f103_ren := {
  mixed := by kernel_rfl
  f26 := ⟨Tryz.f103.name, by decide, Tryz.func103.trans (congrArg some (by kernel_rfl))⟩
  t0 := Tryz.underlying0
  a0 := Tryz.isAgg0
  z0 := Tryz.sizeOf0
  v0 := Tryz.zeroValue0
  t3 := Tryz.underlying3
  a3 := Tryz.isAgg3
  z3 := Tryz.sizeOf3
  v3 := Tryz.zeroValue3
  t4 := Tryz.underlying4
  a4 := Tryz.isAgg4
  z4 := Tryz.sizeOf4
  v4 := Tryz.zeroValue4
  t22 := Tryz.underlying114
  a22 := Tryz.isAgg114
  z22 := Tryz.sizeOf114
  v22 := Tryz.zeroValue114
  t25 := Tryz.underlying144
  a25 := Tryz.isAgg144
  z25 := Tryz.sizeOf144
  v25 := Tryz.zeroValue144 }
open Go.RowKit Go.Lib Go.Sort in
/-- slices.partitionEqualCmpFunc at elements of k cells. (After Derived/Shelf/SlSortFuncK/PartitionK.lean, row for row.) (LAID AT THE INSTANCE 'slices.partitionEqualCmpFunc[[2]int]': no walk: one application.) -/
theorem Tryz.partitionEqualCmpFunc {α : Type} [Inhabited α] (k : Nat) (aE : ∀ w, (isAgg 116).run Tryz.prog w = .ok true w) (zE : ∀ w, (Go.sizeOf 116).run Tryz.prog w = .ok k w) (enc : α → List Value) (cf : α → α → Int) (g : Nat) (cb : Array Value) (blk off cap a b pivot : Nat) (d0 d : Array α) (w0 w : World) (eg : ∀ args w, (callFunc g args).run Tryz.prog w = .ok (.enter g args) w) (hcmp : CmpLays Tryz.prog g cb enc k cf blk off d0.size w0) (R : RowK enc k w0 blk off d0) (hs : d0.size = d.size) (S : SWK enc k w0 blk off d w) (hap : a ≤ pivot) (hpb : pivot < b) (hb : b ≤ d.size) (hsz : d.size < 4611686018427387904) :
    Calls Tryz.prog 103 #[.slice (some ⟨blk, off, none⟩) d.size cap, .int .i64 a, .int .i64 b, .int .i64 pivot, .func (.func g) #[] cb] w fun e w' =>
      e = .returned (.int .i64 (Sort.partitionEqual (ltOf cf) d a b pivot).1) ∧ SWK enc k w0 blk off (Sort.partitionEqual (ltOf cf) d a b pivot).2 w' := AnyQ.partitionEqualCmpFunc Tryz.laysSlF026_f103 k aE zE enc cf g cb blk off cap a b pivot d0 d w0 w eg hcmp R hs S hap hpb hb hsz
def Tryz.laysSlF027_f104_ren : Go.Shelf.Ren := ⟨fun | 27 => 104 | n => n, fun | 24 => 116 | 22 => 114 | 3 => 3 | 25 => 144 | 4 => 4 | 0 => 0 | n => n, fun | n => n⟩
theorem Tryz.laysSlF027_f104 : Go.Proofs.SlLaysF0.n27 Tryz.prog Tryz.laysSlF027_f104_ren := {
  mixed := by kernel_rfl
  f27 := ⟨Tryz.f104.name, by decide, Tryz.func104.trans (congrArg some (by kernel_rfl))⟩
  t0 := Tryz.underlying0
  a0 := Tryz.isAgg0
  z0 := Tryz.sizeOf0
  v0 := Tryz.zeroValue0
  t3 := Tryz.underlying3
  a3 := Tryz.isAgg3
  z3 := Tryz.sizeOf3
  v3 := Tryz.zeroValue3
  t4 := Tryz.underlying4
  a4 := Tryz.isAgg4
  z4 := Tryz.sizeOf4
  v4 := Tryz.zeroValue4
  t22 := Tryz.underlying114
  a22 := Tryz.isAgg114
  z22 := Tryz.sizeOf114
  v22 := Tryz.zeroValue114
  t25 := Tryz.underlying144
  a25 := Tryz.isAgg144
  z25 := Tryz.sizeOf144
  v25 := Tryz.zeroValue144 }
open Go.RowKit Go.Lib Go.Sort in
/-- slices.partitionCmpFunc at elements of k cells. (After Derived/Shelf/SlSortFuncK/PartitionK.lean, row for row.) (LAID AT THE INSTANCE 'slices.partitionCmpFunc[[2]int]': no walk: one application.) -/
theorem Tryz.partitionCmpFunc {α : Type} [Inhabited α] (k : Nat) (aE : ∀ w, (isAgg 116).run Tryz.prog w = .ok true w) (zE : ∀ w, (Go.sizeOf 116).run Tryz.prog w = .ok k w) (enc : α → List Value) (cf : α → α → Int) (g : Nat) (cb : Array Value) (blk off cap a b pivot : Nat) (d0 d : Array α) (w0 w : World) (eg : ∀ args w, (callFunc g args).run Tryz.prog w = .ok (.enter g args) w) (hcmp : CmpLays Tryz.prog g cb enc k cf blk off d0.size w0) (R : RowK enc k w0 blk off d0) (hs : d0.size = d.size) (S : SWK enc k w0 blk off d w) (hap : a ≤ pivot) (hpb : pivot < b) (hb : b ≤ d.size) (hsz : d.size < 4611686018427387904) :
    Calls Tryz.prog 104 #[.slice (some ⟨blk, off, none⟩) d.size cap, .int .i64 a, .int .i64 b, .int .i64 pivot, .func (.func g) #[] cb] w fun e w' =>
      e = .returned (.tuple #[.int .i64 (Sort.partition (ltOf cf) d a b pivot).1, .bool (Sort.partition (ltOf cf) d a b pivot).2.1]) ∧ SWK enc k w0 blk off (Sort.partition (ltOf cf) d a b pivot).2.2 w' := AnyQ.partitionCmpFunc Tryz.laysSlF027_f104 k aE zE enc cf g cb blk off cap a b pivot d0 d w0 w eg hcmp R hs S hap hpb hb hsz
open Go.RowKit Go.Lib Go.Sort in
/-- slices.insertionSortCmpFunc, from a world of the sort's to a world of the sort's. (LAID AT THE INSTANCE 'slices.insertionSortCmpFunc[[2]int]': no walk: one application.) -/
theorem Tryz.insertionSortCmpFunc_w {α : Type} [Inhabited α] (k : Nat) (aE : ∀ w, (isAgg 116).run Tryz.prog w = .ok true w) (zE : ∀ w, (Go.sizeOf 116).run Tryz.prog w = .ok k w) (enc : α → List Value) (cf : α → α → Int) (g : Nat) (cb : Array Value) (blk off cap a b : Nat) (d0 d : Array α) (w0 w : World) (eg : ∀ args w, (callFunc g args).run Tryz.prog w = .ok (.enter g args) w) (hcmp : CmpLays Tryz.prog g cb enc k cf blk off d0.size w0) (R : RowK enc k w0 blk off d0) (hs : d0.size = d.size) (S : SWK enc k w0 blk off d w) (hO : SWO (ltOf cf)) (hab : a ≤ b) (hb : b ≤ d.size) (hsz : d.size < 4611686018427387904) :
    Calls Tryz.prog 97 #[.slice (some ⟨blk, off, none⟩) d.size cap, .int .i64 a, .int .i64 b, .func (.func g) #[] cb] w fun e w' => e = .returned (.tuple #[]) ∧ SWK enc k w0 blk off (Sort.insertionSort (ltOf cf) d a b) w' := AnyQ.insertionSortCmpFunc_w Tryz.laysSlF020_f97 k aE zE enc cf g cb blk off cap a b d0 d w0 w eg hcmp R hs S hO hab hb hsz
def Tryz.laysSlF014_f89_ren : Go.Shelf.Ren := ⟨fun | 14 => 89 | 20 => 97 | 21 => 98 | 22 => 99 | 23 => 100 | 24 => 101 | 25 => 102 | 26 => 103 | 27 => 104 | 46 => 106 | 47 => 93 | 48 => 94 | 49 => 107 | 50 => 108 | 15 => 66 | 57 => 109 | 28 => 86 | 29 => 87 | n => n, fun | 24 => 116 | 22 => 114 | 3 => 3 | 25 => 144 | 4 => 4 | 0 => 0 | 46 => 153 | 45 => 152 | 50 => 135 | 66 => 167 | 39 => 134 | 55 => 22 | 70 => 170 | 76 => 177 | 77 => 73 | 53 => 65 | 5 => 5 | 9 => 9 | n => n, fun | n => n⟩
theorem Tryz.laysSlF014_f89 : Go.Proofs.SlLaysF0.n14 Tryz.prog Tryz.laysSlF014_f89_ren := {
  mixed := by kernel_rfl
  f14 := ⟨Tryz.f89.name, by decide, Tryz.func89.trans (congrArg some (by kernel_rfl))⟩
  f15 := Tryz.func66.trans (congrArg some (by kernel_rfl))
  f20 := ⟨Tryz.f97.name, by decide, Tryz.func97.trans (congrArg some (by kernel_rfl))⟩
  f21 := ⟨Tryz.f98.name, by decide, Tryz.func98.trans (congrArg some (by kernel_rfl))⟩
  f22 := ⟨Tryz.f99.name, by decide, Tryz.func99.trans (congrArg some (by kernel_rfl))⟩
  f23 := ⟨Tryz.f100.name, by decide, Tryz.func100.trans (congrArg some (by kernel_rfl))⟩
  f24 := ⟨Tryz.f101.name, by decide, Tryz.func101.trans (congrArg some (by kernel_rfl))⟩
  f25 := ⟨Tryz.f102.name, by decide, Tryz.func102.trans (congrArg some (by kernel_rfl))⟩
  f26 := ⟨Tryz.f103.name, by decide, Tryz.func103.trans (congrArg some (by kernel_rfl))⟩
  f27 := ⟨Tryz.f104.name, by decide, Tryz.func104.trans (congrArg some (by kernel_rfl))⟩
  f28 := Tryz.func86.trans (congrArg some (by kernel_rfl))
  f29 := Tryz.func87.trans (congrArg some (by kernel_rfl))
  f46 := ⟨Tryz.f106.name, by decide, Tryz.func106.trans (congrArg some (by kernel_rfl))⟩
  f47 := Tryz.func93.trans (congrArg some (by kernel_rfl))
  f48 := Tryz.func94.trans (congrArg some (by kernel_rfl))
  f49 := ⟨Tryz.f107.name, by decide, Tryz.func107.trans (congrArg some (by kernel_rfl))⟩
  f50 := ⟨Tryz.f108.name, by decide, Tryz.func108.trans (congrArg some (by kernel_rfl))⟩
  f57 := ⟨Tryz.f109.name, by decide, Tryz.func109.trans (congrArg some (by kernel_rfl))⟩
  t0 := Tryz.underlying0
  a0 := Tryz.isAgg0
  z0 := Tryz.sizeOf0
  v0 := Tryz.zeroValue0
  t3 := Tryz.underlying3
  a3 := Tryz.isAgg3
  z3 := Tryz.sizeOf3
  v3 := Tryz.zeroValue3
  t4 := Tryz.underlying4
  a4 := Tryz.isAgg4
  z4 := Tryz.sizeOf4
  v4 := Tryz.zeroValue4
  t5 := Tryz.underlying5
  a5 := Tryz.isAgg5
  z5 := Tryz.sizeOf5
  v5 := Tryz.zeroValue5
  t9 := Tryz.underlying9
  a9 := Tryz.isAgg9
  z9 := Tryz.sizeOf9
  v9 := Tryz.zeroValue9
  t22 := Tryz.underlying114
  a22 := Tryz.isAgg114
  z22 := Tryz.sizeOf114
  v22 := Tryz.zeroValue114
  t25 := Tryz.underlying144
  a25 := Tryz.isAgg144
  z25 := Tryz.sizeOf144
  v25 := Tryz.zeroValue144
  t39 := Tryz.underlying134
  a39 := Tryz.isAgg134
  z39 := Tryz.sizeOf134
  v39 := Tryz.zeroValue134
  t45 := Tryz.underlying152
  a45 := Tryz.isAgg152
  z45 := Tryz.sizeOf152
  v45 := Tryz.zeroValue152
  t46 := Tryz.underlying153
  a46 := Tryz.isAgg153
  z46 := Tryz.sizeOf153
  v46 := Tryz.zeroValue153
  t50 := Tryz.underlying135
  a50 := Tryz.isAgg135
  z50 := Tryz.sizeOf135
  v50 := Tryz.zeroValue135
  t53 := Tryz.underlying65
  a53 := Tryz.isAgg65
  z53 := Tryz.sizeOf65
  v53 := Tryz.zeroValue65
  t55 := Tryz.underlying22
  a55 := Tryz.isAgg22
  z55 := Tryz.sizeOf22
  v55 := Tryz.zeroValue22
  t66 := Tryz.underlying167
  a66 := Tryz.isAgg167
  z66 := Tryz.sizeOf167
  v66 := Tryz.zeroValue167
  t70 := Tryz.underlying170
  a70 := Tryz.isAgg170
  z70 := Tryz.sizeOf170
  v70 := Tryz.zeroValue170
  t76 := Tryz.underlying177
  a76 := Tryz.isAgg177
  z76 := Tryz.sizeOf177
  v76 := Tryz.zeroValue177
  t77 := Tryz.underlying73
  a77 := Tryz.isAgg73
  z77 := Tryz.sizeOf73
  v77 := Tryz.zeroValue73 }
open Go.RowKit Go.Lib Go.Sort in
/-- slices.pdqsortCmpFunc at elements of k cells, WHOLE. (After Derived/Shelf/SlSortFuncK/PdqK.lean, row for row: the slots and the regions' numbers are this body's.) (LAID AT THE INSTANCE 'slices.pdqsortCmpFunc[[2]int]': no walk: one application.) -/
theorem Tryz.pdqsortCmpFunc_all {α : Type} [Inhabited α] (k : Nat) (aE : ∀ w, (isAgg 116).run Tryz.prog w = .ok true w) (zE : ∀ w, (Go.sizeOf 116).run Tryz.prog w = .ok k w) (enc : α → List Value) (cf : α → α → Int) (g : Nat) (cb : Array Value) (hO : SWO (ltOf cf)) (blk off cap : Nat) (d0 : Array α) (w0 : World) (eg : ∀ args w, (callFunc g args).run Tryz.prog w = .ok (.enter g args) w) (hcmp : CmpLays Tryz.prog g cb enc k cf blk off d0.size w0) (R : RowK enc k w0 blk off d0) :
    ∀ (N a b limit : Nat) (d : Array α) (w : World), b - a < N → d0.size = d.size → SWK enc k w0 blk off d w → a ≤ b → b ≤ d.size → d.size < 4611686018427387904 → limit < 4611686018427387904 → Below (ltOf cf) a b d →
    Calls Tryz.prog 89 #[.slice (some ⟨blk, off, none⟩) d.size cap, .int .i64 a, .int .i64 b, .int .i64 limit, .func (.func g) #[] cb] w fun e w' => e = .returned (.tuple #[]) ∧ SWK enc k w0 blk off (pdq (ltOf cf) d a b limit true true) w' := AnyQ.pdqsortCmpFunc_all Tryz.laysSlF014_f89 k aE zE enc cf g cb hO blk off cap d0 w0 eg hcmp R
def Tryz.laysSlF06_f71_ren : Go.Shelf.Ren := ⟨fun | 6 => 71 | 15 => 66 | 14 => 89 | 28 => 86 | 29 => 87 | 20 => 97 | 21 => 98 | 22 => 99 | 23 => 100 | 24 => 101 | 25 => 102 | 26 => 103 | 27 => 104 | 46 => 106 | 47 => 93 | 48 => 94 | 49 => 107 | 50 => 108 | 57 => 109 | n => n, fun | 22 => 114 | 24 => 116 | 25 => 144 | 3 => 3 | 39 => 134 | 0 => 0 | 53 => 65 | 55 => 22 | 4 => 4 | 46 => 153 | 45 => 152 | 50 => 135 | 5 => 5 | 9 => 9 | 66 => 167 | 70 => 170 | 76 => 177 | 77 => 73 | n => n, fun | n => n⟩
theorem Tryz.laysSlF06_f71 : Go.Proofs.SlLaysF0.n6 Tryz.prog Tryz.laysSlF06_f71_ren := {
  mixed := by kernel_rfl
  f6 := ⟨Tryz.f71.name, by decide, Tryz.func71.trans (congrArg some (by kernel_rfl))⟩
  f14 := ⟨Tryz.f89.name, by decide, Tryz.func89.trans (congrArg some (by kernel_rfl))⟩
  f15 := Tryz.func66.trans (congrArg some (by kernel_rfl))
  f20 := ⟨Tryz.f97.name, by decide, Tryz.func97.trans (congrArg some (by kernel_rfl))⟩
  f21 := ⟨Tryz.f98.name, by decide, Tryz.func98.trans (congrArg some (by kernel_rfl))⟩
  f22 := ⟨Tryz.f99.name, by decide, Tryz.func99.trans (congrArg some (by kernel_rfl))⟩
  f23 := ⟨Tryz.f100.name, by decide, Tryz.func100.trans (congrArg some (by kernel_rfl))⟩
  f24 := ⟨Tryz.f101.name, by decide, Tryz.func101.trans (congrArg some (by kernel_rfl))⟩
  f25 := ⟨Tryz.f102.name, by decide, Tryz.func102.trans (congrArg some (by kernel_rfl))⟩
  f26 := ⟨Tryz.f103.name, by decide, Tryz.func103.trans (congrArg some (by kernel_rfl))⟩
  f27 := ⟨Tryz.f104.name, by decide, Tryz.func104.trans (congrArg some (by kernel_rfl))⟩
  f28 := Tryz.func86.trans (congrArg some (by kernel_rfl))
  f29 := Tryz.func87.trans (congrArg some (by kernel_rfl))
  f46 := ⟨Tryz.f106.name, by decide, Tryz.func106.trans (congrArg some (by kernel_rfl))⟩
  f47 := Tryz.func93.trans (congrArg some (by kernel_rfl))
  f48 := Tryz.func94.trans (congrArg some (by kernel_rfl))
  f49 := ⟨Tryz.f107.name, by decide, Tryz.func107.trans (congrArg some (by kernel_rfl))⟩
  f50 := ⟨Tryz.f108.name, by decide, Tryz.func108.trans (congrArg some (by kernel_rfl))⟩
  f57 := ⟨Tryz.f109.name, by decide, Tryz.func109.trans (congrArg some (by kernel_rfl))⟩
  t0 := Tryz.underlying0
  a0 := Tryz.isAgg0
  z0 := Tryz.sizeOf0
  v0 := Tryz.zeroValue0
  t3 := Tryz.underlying3
  a3 := Tryz.isAgg3
  z3 := Tryz.sizeOf3
  v3 := Tryz.zeroValue3
  t4 := Tryz.underlying4
  a4 := Tryz.isAgg4
  z4 := Tryz.sizeOf4
  v4 := Tryz.zeroValue4
  t5 := Tryz.underlying5
  a5 := Tryz.isAgg5
  z5 := Tryz.sizeOf5
  v5 := Tryz.zeroValue5
  t9 := Tryz.underlying9
  a9 := Tryz.isAgg9
  z9 := Tryz.sizeOf9
  v9 := Tryz.zeroValue9
  t22 := Tryz.underlying114
  a22 := Tryz.isAgg114
  z22 := Tryz.sizeOf114
  v22 := Tryz.zeroValue114
  t25 := Tryz.underlying144
  a25 := Tryz.isAgg144
  z25 := Tryz.sizeOf144
  v25 := Tryz.zeroValue144
  t39 := Tryz.underlying134
  a39 := Tryz.isAgg134
  z39 := Tryz.sizeOf134
  v39 := Tryz.zeroValue134
  t45 := Tryz.underlying152
  a45 := Tryz.isAgg152
  z45 := Tryz.sizeOf152
  v45 := Tryz.zeroValue152
  t46 := Tryz.underlying153
  a46 := Tryz.isAgg153
  z46 := Tryz.sizeOf153
  v46 := Tryz.zeroValue153
  t50 := Tryz.underlying135
  a50 := Tryz.isAgg135
  z50 := Tryz.sizeOf135
  v50 := Tryz.zeroValue135
  t53 := Tryz.underlying65
  a53 := Tryz.isAgg65
  z53 := Tryz.sizeOf65
  v53 := Tryz.zeroValue65
  t55 := Tryz.underlying22
  a55 := Tryz.isAgg22
  z55 := Tryz.sizeOf22
  v55 := Tryz.zeroValue22
  t66 := Tryz.underlying167
  a66 := Tryz.isAgg167
  z66 := Tryz.sizeOf167
  v66 := Tryz.zeroValue167
  t70 := Tryz.underlying170
  a70 := Tryz.isAgg170
  z70 := Tryz.sizeOf170
  v70 := Tryz.zeroValue170
  t76 := Tryz.underlying177
  a76 := Tryz.isAgg177
  z76 := Tryz.sizeOf177
  v76 := Tryz.zeroValue177
  t77 := Tryz.underlying73
  a77 := Tryz.isAgg73
  z77 := Tryz.sizeOf73
  v77 := Tryz.zeroValue73 }
open Go.RowKit Go.Lib Go.Sort in
/-- **slices.SortFunc: WHAT THE ROW HOLDS, TO THE ELEMENT.** (LAID AT THE INSTANCE 'slices.SortFunc[[][2]int,[2]int]': no walk: one application.) -/
theorem Tryz.slices_SortFunc_eq {α : Type} [Inhabited α] (k : Nat) (aE : ∀ w, (isAgg 116).run Tryz.prog w = .ok true w) (zE : ∀ w, (Go.sizeOf 116).run Tryz.prog w = .ok k w) (enc : α → List Value) (hk : ∀ x, (enc x).length = k) (h1 : ∀ x, ∀ v ∈ enc x, v.oneCell' = true) (cf : α → α → Int) (hO : SWO (ltOf cf)) (g : Nat) (cb : Array Value) (blk off cap : Nat) (d : Array α) (w : World) (eg : ∀ args w, (callFunc g args).run Tryz.prog w = .ok (.enter g args) w) (hcmp : CmpLays Tryz.prog g cb enc k cf blk off d.size w) (hH : HoldsK enc k w blk off d) (hblk : blk < w.heap.size) (hsz : d.size < 4611686018427387904) :
    Calls Tryz.prog 71 #[.slice (some ⟨blk, off, none⟩) d.size cap, .func (.func g) #[] cb] w fun e w' =>
      e = .returned (.tuple #[]) ∧ ∃ n os, w' = sortWorldK enc k w blk off n (pdq (ltOf cf) d 0 d.size (Lib.bitLen d.size) true true) os := AnyQ.slices_SortFunc_eq Tryz.laysSlF06_f71 k aE zE enc hk h1 cf hO g cb blk off cap d w eg hcmp hH hblk hsz
open Go.RowKit Go.Lib Go.Sort in
/-- **slices.SortFunc, IN THE DOCUMENTATION's OWN TERMS: A PERMUTATION OF WHAT THE ROW HELD, SORTED BY 'cmp(a, b) < 0'.** Which of two equals comes first is left open ("The sort is not guaranteed to be stable"). (LAID AT THE INSTANCE 'slices.SortFunc[[][2]int,[2]int]': no walk: one application.) -/
theorem Tryz.slices_SortFunc {α : Type} [Inhabited α] (k : Nat) (aE : ∀ w, (isAgg 116).run Tryz.prog w = .ok true w) (zE : ∀ w, (Go.sizeOf 116).run Tryz.prog w = .ok k w) (enc : α → List Value) (hk : ∀ x, (enc x).length = k) (h1 : ∀ x, ∀ v ∈ enc x, v.oneCell' = true) (cf : α → α → Int) (hO : SWO (ltOf cf)) (g : Nat) (cb : Array Value) (blk off cap : Nat) (d : Array α) (w : World) (eg : ∀ args w, (callFunc g args).run Tryz.prog w = .ok (.enter g args) w) (hcmp : CmpLays Tryz.prog g cb enc k cf blk off d.size w) (hH : HoldsK enc k w blk off d) (hblk : blk < w.heap.size) (hsz : d.size < 4611686018427387904) :
    Calls Tryz.prog 71 #[.slice (some ⟨blk, off, none⟩) d.size cap, .func (.func g) #[] cb] w fun e w' =>
      e = .returned (.tuple #[]) ∧ ∃ d' n os, PermIn 0 d.size d d' ∧ SortedIn (ltOf cf) 0 d.size d' ∧ w' = sortWorldK enc k w blk off n d' os := AnyQ.slices_SortFunc Tryz.laysSlF06_f71 k aE zE enc hk h1 cf hO g cb blk off cap d w eg hcmp hH hblk hsz
open Go.RowKit Go.Lib Go.Sort in
theorem Tryz.insertionSortCmpFunc_none {α : Type} [Inhabited α] (p : Option Addr) (cap : Nat) (fv : Value) (w : World) :
    Calls Tryz.prog 97 #[.slice p 0 cap, .int .i64 0, .int .i64 0, fv] w fun e w' => e = .returned (.tuple #[]) ∧ w' = w := AnyF.insertionSortCmpFunc_none Tryz.laysSlF020_f97 p cap fv w
open Go.RowKit Go.Lib Go.Sort in
theorem Tryz.pdqsortCmpFunc_none {α : Type} [Inhabited α] (p : Option Addr) (cap : Nat) (lim : Int) (fv : Value) (w : World) :
    Calls Tryz.prog 89 #[.slice p 0 cap, .int .i64 0, .int .i64 0, .int .i64 lim, fv] w fun e w' => e = .returned (.tuple #[]) ∧ w' = w := AnyF.pdqsortCmpFunc_none Tryz.laysSlF014_f89 p cap lim fv w
open Go.RowKit Go.Lib Go.Sort in
/-- **slices.SortFunc AT NO ELEMENT, A nil SLICE TOO: nothing turns.** (LAID AT THE INSTANCE 'slices.SortFunc[[][2]int,[2]int]': no walk: one application.) -/
theorem Tryz.slices_SortFunc_none {α : Type} [Inhabited α] (p : Option Addr) (cap : Nat) (fv : Value) (w : World) :
    Calls Tryz.prog 71 #[.slice p 0 cap, fv] w fun e w' => e = .returned (.tuple #[]) ∧ w' = w := AnyF.slices_SortFunc_none Tryz.laysSlF06_f71 p cap fv w
open Go.RowKit Go.Lib Go.Sort in
/-- .. at structs. (LAID AT THE INSTANCE 'slices.SortFunc[[][2]int,[2]int]': no walk: one application.) -/
theorem Tryz.slices_SortFunc_total {α : Type} [Inhabited α] (k : Nat) (aE : ∀ w, (isAgg 116).run Tryz.prog w = .ok true w) (zE : ∀ w, (Go.sizeOf 116).run Tryz.prog w = .ok k w) (enc : α → List Value) (hk : ∀ x, (enc x).length = k) (h1 : ∀ x, ∀ v ∈ enc x, v.oneCell' = true) (cf : α → α → Int) (hO : SWO (ltOf cf)) (g : Nat) (cb : Array Value) (blk off cap : Nat) (d : Array α) (w : World) (eg : ∀ args w, (callFunc g args).run Tryz.prog w = .ok (.enter g args) w) (hcmp : CmpLays Tryz.prog g cb enc k cf blk off d.size w) (hH : HoldsK enc k w blk off d) (hblk : blk < w.heap.size) (hsz : d.size < 4611686018427387904) (hT : ∀ x y, (ltOf cf) x y = false → (ltOf cf) y x = false → x = y) :
    Calls Tryz.prog 71 #[.slice (some ⟨blk, off, none⟩) d.size cap, .func (.func g) #[] cb] w fun e w' =>
      e = .returned (.tuple #[]) ∧ ∃ n os, w' = sortWorldK enc k w blk off n (d.toList.mergeSort fun x y => !(ltOf cf) y x).toArray os := AnyQ.slices_SortFunc_total Tryz.laysSlF06_f71 k aE zE enc hk h1 cf hO g cb blk off cap d w eg hcmp hH hblk hsz hT
def Tryz.sortP_ren : Go.Shelf.Ren := ⟨fun | 6 => 71 | 15 => 66 | 14 => 89 | 28 => 86 | 29 => 87 | 20 => 97 | 21 => 98 | 22 => 99 | 23 => 100 | 24 => 101 | 25 => 102 | 26 => 103 | 27 => 104 | 46 => 106 | 47 => 93 | 48 => 94 | 49 => 107 | 50 => 108 | 57 => 109 | n => n, fun | 22 => 114 | 24 => 116 | 25 => 144 | 3 => 3 | 39 => 134 | 0 => 0 | 53 => 65 | 55 => 22 | 4 => 4 | 46 => 153 | 45 => 152 | 50 => 135 | 5 => 5 | 9 => 9 | 66 => 167 | 70 => 170 | 76 => 177 | 77 => 73 | n => n, fun | n => n⟩
theorem Tryz.sortP : Go.Proofs.SlLaysF0.n6 Tryz.prog Tryz.sortP_ren := {
  mixed := by kernel_rfl
  f6 := ⟨Tryz.f71.name, by decide, Tryz.func71.trans (congrArg some (by kernel_rfl))⟩
  f14 := ⟨Tryz.f89.name, by decide, Tryz.func89.trans (congrArg some (by kernel_rfl))⟩
  f15 := Tryz.func66.trans (congrArg some (by kernel_rfl))
  f20 := ⟨Tryz.f97.name, by decide, Tryz.func97.trans (congrArg some (by kernel_rfl))⟩
  f21 := ⟨Tryz.f98.name, by decide, Tryz.func98.trans (congrArg some (by kernel_rfl))⟩
  f22 := ⟨Tryz.f99.name, by decide, Tryz.func99.trans (congrArg some (by kernel_rfl))⟩
  f23 := ⟨Tryz.f100.name, by decide, Tryz.func100.trans (congrArg some (by kernel_rfl))⟩
  f24 := ⟨Tryz.f101.name, by decide, Tryz.func101.trans (congrArg some (by kernel_rfl))⟩
  f25 := ⟨Tryz.f102.name, by decide, Tryz.func102.trans (congrArg some (by kernel_rfl))⟩
  f26 := ⟨Tryz.f103.name, by decide, Tryz.func103.trans (congrArg some (by kernel_rfl))⟩
  f27 := ⟨Tryz.f104.name, by decide, Tryz.func104.trans (congrArg some (by kernel_rfl))⟩
  f28 := Tryz.func86.trans (congrArg some (by kernel_rfl))
  f29 := Tryz.func87.trans (congrArg some (by kernel_rfl))
  f46 := ⟨Tryz.f106.name, by decide, Tryz.func106.trans (congrArg some (by kernel_rfl))⟩
  f47 := Tryz.func93.trans (congrArg some (by kernel_rfl))
  f48 := Tryz.func94.trans (congrArg some (by kernel_rfl))
  f49 := ⟨Tryz.f107.name, by decide, Tryz.func107.trans (congrArg some (by kernel_rfl))⟩
  f50 := ⟨Tryz.f108.name, by decide, Tryz.func108.trans (congrArg some (by kernel_rfl))⟩
  f57 := ⟨Tryz.f109.name, by decide, Tryz.func109.trans (congrArg some (by kernel_rfl))⟩
  t0 := Tryz.underlying0
  a0 := Tryz.isAgg0
  z0 := Tryz.sizeOf0
  v0 := Tryz.zeroValue0
  t3 := Tryz.underlying3
  a3 := Tryz.isAgg3
  z3 := Tryz.sizeOf3
  v3 := Tryz.zeroValue3
  t4 := Tryz.underlying4
  a4 := Tryz.isAgg4
  z4 := Tryz.sizeOf4
  v4 := Tryz.zeroValue4
  t5 := Tryz.underlying5
  a5 := Tryz.isAgg5
  z5 := Tryz.sizeOf5
  v5 := Tryz.zeroValue5
  t9 := Tryz.underlying9
  a9 := Tryz.isAgg9
  z9 := Tryz.sizeOf9
  v9 := Tryz.zeroValue9
  t22 := Tryz.underlying114
  a22 := Tryz.isAgg114
  z22 := Tryz.sizeOf114
  v22 := Tryz.zeroValue114
  t25 := Tryz.underlying144
  a25 := Tryz.isAgg144
  z25 := Tryz.sizeOf144
  v25 := Tryz.zeroValue144
  t39 := Tryz.underlying134
  a39 := Tryz.isAgg134
  z39 := Tryz.sizeOf134
  v39 := Tryz.zeroValue134
  t45 := Tryz.underlying152
  a45 := Tryz.isAgg152
  z45 := Tryz.sizeOf152
  v45 := Tryz.zeroValue152
  t46 := Tryz.underlying153
  a46 := Tryz.isAgg153
  z46 := Tryz.sizeOf153
  v46 := Tryz.zeroValue153
  t50 := Tryz.underlying135
  a50 := Tryz.isAgg135
  z50 := Tryz.sizeOf135
  v50 := Tryz.zeroValue135
  t53 := Tryz.underlying65
  a53 := Tryz.isAgg65
  z53 := Tryz.sizeOf65
  v53 := Tryz.zeroValue65
  t55 := Tryz.underlying22
  a55 := Tryz.isAgg22
  z55 := Tryz.sizeOf22
  v55 := Tryz.zeroValue22
  t66 := Tryz.underlying167
  a66 := Tryz.isAgg167
  z66 := Tryz.sizeOf167
  v66 := Tryz.zeroValue167
  t70 := Tryz.underlying170
  a70 := Tryz.isAgg170
  z70 := Tryz.sizeOf170
  v70 := Tryz.zeroValue170
  t76 := Tryz.underlying177
  a76 := Tryz.isAgg177
  z76 := Tryz.sizeOf177
  v76 := Tryz.zeroValue177
  t77 := Tryz.underlying73
  a77 := Tryz.isAgg73
  z77 := Tryz.sizeOf73
  v77 := Tryz.zeroValue73 }
def Tryz.sortW_ren : Go.Shelf.Ren := ⟨fun | 6 => 37 | 15 => 66 | 14 => 65 | 28 => 86 | 29 => 87 | 20 => 78 | 21 => 79 | 22 => 80 | 23 => 81 | 24 => 82 | 25 => 83 | 26 => 84 | 27 => 85 | 46 => 92 | 47 => 93 | 48 => 94 | 49 => 95 | 50 => 96 | 57 => 105 | n => n, fun | 22 => 24 | 24 => 36 | 25 => 59 | 3 => 3 | 39 => 134 | 0 => 0 | 53 => 65 | 55 => 22 | 4 => 4 | 46 => 153 | 45 => 152 | 50 => 135 | 5 => 5 | 9 => 9 | 66 => 167 | 70 => 170 | 76 => 177 | 77 => 73 | n => n, fun | n => n⟩
theorem Tryz.sortW : Go.Proofs.SlLaysF0.n6 Tryz.prog Tryz.sortW_ren := {
  mixed := by kernel_rfl
  f6 := ⟨Tryz.f37.name, by decide, Tryz.func37.trans (congrArg some (by kernel_rfl))⟩
  f14 := ⟨Tryz.f65.name, by decide, Tryz.func65.trans (congrArg some (by kernel_rfl))⟩
  f15 := Tryz.func66.trans (congrArg some (by kernel_rfl))
  f20 := ⟨Tryz.f78.name, by decide, Tryz.func78.trans (congrArg some (by kernel_rfl))⟩
  f21 := ⟨Tryz.f79.name, by decide, Tryz.func79.trans (congrArg some (by kernel_rfl))⟩
  f22 := ⟨Tryz.f80.name, by decide, Tryz.func80.trans (congrArg some (by kernel_rfl))⟩
  f23 := ⟨Tryz.f81.name, by decide, Tryz.func81.trans (congrArg some (by kernel_rfl))⟩
  f24 := ⟨Tryz.f82.name, by decide, Tryz.func82.trans (congrArg some (by kernel_rfl))⟩
  f25 := ⟨Tryz.f83.name, by decide, Tryz.func83.trans (congrArg some (by kernel_rfl))⟩
  f26 := ⟨Tryz.f84.name, by decide, Tryz.func84.trans (congrArg some (by kernel_rfl))⟩
  f27 := ⟨Tryz.f85.name, by decide, Tryz.func85.trans (congrArg some (by kernel_rfl))⟩
  f28 := Tryz.func86.trans (congrArg some (by kernel_rfl))
  f29 := Tryz.func87.trans (congrArg some (by kernel_rfl))
  f46 := ⟨Tryz.f92.name, by decide, Tryz.func92.trans (congrArg some (by kernel_rfl))⟩
  f47 := Tryz.func93.trans (congrArg some (by kernel_rfl))
  f48 := Tryz.func94.trans (congrArg some (by kernel_rfl))
  f49 := ⟨Tryz.f95.name, by decide, Tryz.func95.trans (congrArg some (by kernel_rfl))⟩
  f50 := ⟨Tryz.f96.name, by decide, Tryz.func96.trans (congrArg some (by kernel_rfl))⟩
  f57 := ⟨Tryz.f105.name, by decide, Tryz.func105.trans (congrArg some (by kernel_rfl))⟩
  t0 := Tryz.underlying0
  a0 := Tryz.isAgg0
  z0 := Tryz.sizeOf0
  v0 := Tryz.zeroValue0
  t3 := Tryz.underlying3
  a3 := Tryz.isAgg3
  z3 := Tryz.sizeOf3
  v3 := Tryz.zeroValue3
  t4 := Tryz.underlying4
  a4 := Tryz.isAgg4
  z4 := Tryz.sizeOf4
  v4 := Tryz.zeroValue4
  t5 := Tryz.underlying5
  a5 := Tryz.isAgg5
  z5 := Tryz.sizeOf5
  v5 := Tryz.zeroValue5
  t9 := Tryz.underlying9
  a9 := Tryz.isAgg9
  z9 := Tryz.sizeOf9
  v9 := Tryz.zeroValue9
  t22 := Tryz.underlying24
  a22 := Tryz.isAgg24
  z22 := Tryz.sizeOf24
  v22 := Tryz.zeroValue24
  t25 := Tryz.underlying59
  a25 := Tryz.isAgg59
  z25 := Tryz.sizeOf59
  v25 := Tryz.zeroValue59
  t39 := Tryz.underlying134
  a39 := Tryz.isAgg134
  z39 := Tryz.sizeOf134
  v39 := Tryz.zeroValue134
  t45 := Tryz.underlying152
  a45 := Tryz.isAgg152
  z45 := Tryz.sizeOf152
  v45 := Tryz.zeroValue152
  t46 := Tryz.underlying153
  a46 := Tryz.isAgg153
  z46 := Tryz.sizeOf153
  v46 := Tryz.zeroValue153
  t50 := Tryz.underlying135
  a50 := Tryz.isAgg135
  z50 := Tryz.sizeOf135
  v50 := Tryz.zeroValue135
  t53 := Tryz.underlying65
  a53 := Tryz.isAgg65
  z53 := Tryz.sizeOf65
  v53 := Tryz.zeroValue65
  t55 := Tryz.underlying22
  a55 := Tryz.isAgg22
  z55 := Tryz.sizeOf22
  v55 := Tryz.zeroValue22
  t66 := Tryz.underlying167
  a66 := Tryz.isAgg167
  z66 := Tryz.sizeOf167
  v66 := Tryz.zeroValue167
  t70 := Tryz.underlying170
  a70 := Tryz.isAgg170
  z70 := Tryz.sizeOf170
  v70 := Tryz.zeroValue170
  t76 := Tryz.underlying177
  a76 := Tryz.isAgg177
  z76 := Tryz.sizeOf177
  v76 := Tryz.zeroValue177
  t77 := Tryz.underlying73
  a77 := Tryz.isAgg73
  z77 := Tryz.sizeOf73
  v77 := Tryz.zeroValue73 }
def Tryz.eqW_ren : Go.Shelf.Ren := ⟨fun | 8 => 9 | n => n, fun | 22 => 24 | 24 => 36 | 4 => 4 | 3 => 3 | 0 => 0 | n => n, fun | n => n⟩
theorem Tryz.eqW : Go.Proofs.SlLaysQ.n8 Tryz.prog Tryz.eqW_ren := {
  mixed := by kernel_rfl
  f8 := ⟨Tryz.f9.name, by decide, Tryz.func9.trans (congrArg some (by kernel_rfl))⟩
  t0 := Tryz.underlying0
  a0 := Tryz.isAgg0
  z0 := Tryz.sizeOf0
  v0 := Tryz.zeroValue0
  t3 := Tryz.underlying3
  a3 := Tryz.isAgg3
  z3 := Tryz.sizeOf3
  v3 := Tryz.zeroValue3
  t4 := Tryz.underlying4
  a4 := Tryz.isAgg4
  z4 := Tryz.sizeOf4
  v4 := Tryz.zeroValue4
  t22 := Tryz.underlying24
  a22 := Tryz.isAgg24
  z22 := Tryz.sizeOf24
  v22 := Tryz.zeroValue24 }
def Tryz.eqU_ren : Go.Shelf.Ren := ⟨fun | 33 => 11 | n => n, fun | 22 => 33 | 23 => 34 | 4 => 4 | 3 => 3 | 0 => 0 | n => n, fun | n => n⟩
theorem Tryz.eqU : Go.Proofs.SlLaysE.n33 Tryz.prog Tryz.eqU_ren := {
  mixed := by kernel_rfl
  f33 := ⟨Tryz.f11.name, by decide, Tryz.func11.trans (congrArg some (by kernel_rfl))⟩
  t0 := Tryz.underlying0
  a0 := Tryz.isAgg0
  z0 := Tryz.sizeOf0
  v0 := Tryz.zeroValue0
  t3 := Tryz.underlying3
  a3 := Tryz.isAgg3
  z3 := Tryz.sizeOf3
  v3 := Tryz.zeroValue3
  t4 := Tryz.underlying4
  a4 := Tryz.isAgg4
  z4 := Tryz.sizeOf4
  v4 := Tryz.zeroValue4
  t22 := Tryz.underlying33
  a22 := Tryz.isAgg33
  z22 := Tryz.sizeOf33
  v22 := Tryz.zeroValue33
  a23 := Tryz.isAgg34
  z23 := Tryz.sizeOf34 }
def Tryz.revW_ren : Go.Shelf.Ren := ⟨fun | 35 => 15 | n => n, fun | 22 => 24 | 23 => 36 | 3 => 3 | 4 => 4 | 0 => 0 | n => n, fun | n => n⟩
theorem Tryz.revW : Go.Proofs.SlLaysE0.n35 Tryz.prog Tryz.revW_ren := {
  mixed := by kernel_rfl
  f35 := ⟨Tryz.f15.name, by decide, Tryz.func15.trans (congrArg some (by kernel_rfl))⟩
  t0 := Tryz.underlying0
  a0 := Tryz.isAgg0
  z0 := Tryz.sizeOf0
  v0 := Tryz.zeroValue0
  t3 := Tryz.underlying3
  a3 := Tryz.isAgg3
  z3 := Tryz.sizeOf3
  v3 := Tryz.zeroValue3
  t4 := Tryz.underlying4
  a4 := Tryz.isAgg4
  z4 := Tryz.sizeOf4
  v4 := Tryz.zeroValue4
  t22 := Tryz.underlying24
  a22 := Tryz.isAgg24
  z22 := Tryz.sizeOf24
  v22 := Tryz.zeroValue24 }
end Go.Proofs
