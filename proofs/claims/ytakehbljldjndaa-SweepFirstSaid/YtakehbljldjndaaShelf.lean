/-
  DERIVED: THE SHELF's CONTRACTS AT THIS DUMP, IN PLAIN WORDS (tools/lay-plain.mjs out of 'TryShelf.lean', which tools/lay-shelf.mjs wrote): THE SAME DECLARATIONS UNDER THE SAME NAMES: 'import', 'namespace', 'open', 'def', 'theorem' AND NOTHING ELSE: no command of the shelf's: FOR A HAND-IN. Each laying: the table of numbers ('.._ren') and one theorem, a field a fact of the dump's own or the kernel's comparison; each contract: ONE APPLICATION.
-/
import Derived.Shelf.Small.Bits
import Derived.Shelf.Small.Wraps
import Derived.Shelf.Strconv.Itoa0
import Derived.Ground.Names2Prog
import Derived.Shelf.Slices.SearchI
import Derived.Ground.SlsfProg
import Derived.Shelf.SlSortCmp.InsertionK
import Derived.Shelf.SlSortCmp.SiftDownK
import Derived.Shelf.SlSortCmp.HeapSortK
import Derived.Shelf.SlSortCmp.MedianK
import Derived.Shelf.SlSortCmp.PivotK
import Derived.Shelf.SlSortCmp.ReverseRangeK
import Derived.Shelf.SlSortCmp.PartialInsertionK
import Derived.Shelf.SlSortCmp.PartitionEqualK
import Derived.Shelf.SlSortCmp.PartitionK
import Derived.Shelf.SlSortCmp.PdqK
import Derived.Shelf.SlSortCmp.WholeK
import Derived.Shelf.SlSortCmp.NoneTotal
import Derived.Test.YtakehbljldjndaaProg
namespace Go.Proofs
open Go.Shelf
def Try.lays128_ren : Go.Shelf.Ren := ⟨fun | 128 => 61 | n => n, fun | 51 => 95 | 3 => 3 | 4 => 4 | 46 => 78 | 5 => 5 | 9 => 9 | n => n, fun | n => n⟩
theorem Try.lays128 : Go.Proofs.Lays.n128 Try.prog Try.lays128_ren := {
  mixed := by kernel_rfl
  f128 := Try.func61.trans (congrArg some (by kernel_rfl))
  t3 := Try.underlying3
  a3 := Try.isAgg3
  z3 := Try.sizeOf3
  v3 := Try.zeroValue3
  t4 := Try.underlying4
  a4 := Try.isAgg4
  z4 := Try.sizeOf4
  v4 := Try.zeroValue4
  t5 := Try.underlying5
  a5 := Try.isAgg5
  z5 := Try.sizeOf5
  v5 := Try.zeroValue5
  t9 := Try.underlying9
  a9 := Try.isAgg9
  z9 := Try.sizeOf9
  v9 := Try.zeroValue9
  t46 := Try.underlying78
  a46 := Try.isAgg78
  z46 := Try.sizeOf78
  v46 := Try.zeroValue78
  t51 := Try.underlying95
  a51 := Try.isAgg95
  z51 := Try.sizeOf95
  v51 := Try.zeroValue95 }
/-- bits.Len32: "Len32 returns the minimum number of bits required to represent x; the result is 0 for x == 0.": IT RETURNS 'Lib.bitLen x'; the world is as it was. ('h0', 'h1': x is a uint32.) (LAID: no walk: one application.) -/
theorem Try.bits_Len32 (x : Int) (w : World) (h0 : 0 ≤ x) (h1 : x ≤ 4294967295) :
    Calls Try.prog 61 #[.int .u32 x] w fun e w' => e = .returned (.int .i64 (Lib.bitLen x.toNat)) ∧ w' = w := Any.bits_Len32 Try.lays128 x w h0 h1
def Try.lays125_ren : Go.Shelf.Ren := ⟨fun | 125 => 49 | 128 => 61 | 129 => 62 | n => n, fun | 46 => 78 | 3 => 3 | 51 => 95 | 53 => 34 | 4 => 4 | 5 => 5 | 9 => 9 | n => n, fun | n => n⟩
theorem Try.lays125 : Go.Proofs.Lays.n125 Try.prog Try.lays125_ren := {
  mixed := by kernel_rfl
  f125 := Try.func49.trans (congrArg some (by kernel_rfl))
  f128 := Try.func61.trans (congrArg some (by kernel_rfl))
  f129 := Try.func62.trans (congrArg some (by kernel_rfl))
  t3 := Try.underlying3
  a3 := Try.isAgg3
  z3 := Try.sizeOf3
  v3 := Try.zeroValue3
  t4 := Try.underlying4
  a4 := Try.isAgg4
  z4 := Try.sizeOf4
  v4 := Try.zeroValue4
  t5 := Try.underlying5
  a5 := Try.isAgg5
  z5 := Try.sizeOf5
  v5 := Try.zeroValue5
  t9 := Try.underlying9
  a9 := Try.isAgg9
  z9 := Try.sizeOf9
  v9 := Try.zeroValue9
  t46 := Try.underlying78
  a46 := Try.isAgg78
  z46 := Try.sizeOf78
  v46 := Try.zeroValue78
  t51 := Try.underlying95
  a51 := Try.isAgg95
  z51 := Try.sizeOf95
  v51 := Try.zeroValue95
  t53 := Try.underlying34
  a53 := Try.isAgg34
  z53 := Try.sizeOf34
  v53 := Try.zeroValue34 }
/-- bits.Len: "Len returns the minimum number of bits required to represent x; the result is 0 for x == 0.": IT RETURNS 'Lib.bitLen x'; the world is as it was. (A uint has 64 bits in the model.) ITS CALLEE bits.Len64 IS MET BY ITS OWN CONTRACT OFF THE SHELF (lay that first). (LAID: no walk: one application.) -/
theorem Try.bits_Len (x : Int) (w : World) (h0 : 0 ≤ x) (h1 : x ≤ 18446744073709551615) :
    Calls Try.prog 49 #[.int .u64 x] w fun e w' => e = .returned (.int .i64 (Lib.bitLen x.toNat)) ∧ w' = w := Any.bits_Len Try.lays125 x w h0 h1
def Try.lays215_ren : Go.Shelf.Ren := ⟨fun | 215 => 50 | n => n, fun | 3 => 3 | 4 => 4 | n => n, fun | n => n⟩
theorem Try.lays215 : Go.Proofs.Lays.n215 Try.prog Try.lays215_ren := {
  mixed := by kernel_rfl
  f215 := Try.func50.trans (congrArg some (by kernel_rfl))
  t3 := Try.underlying3
  a3 := Try.isAgg3
  z3 := Try.sizeOf3
  v3 := Try.zeroValue3
  t4 := Try.underlying4
  a4 := Try.isAgg4
  z4 := Try.sizeOf4
  v4 := Try.zeroValue4 }
open Go.RowKit in
/-- cmp.isNaN at int: 'x != x': false. (LAID: no walk: one application.) -/
theorem Try.cmp_isNaN_int (x : Int) (w : World) :
    Calls Try.prog 50 #[.int .i64 x] w fun e w' => e = .returned (.bool false) ∧ w' = w := Any.cmp_isNaN_int Try.lays215 x w
def Try.lays122_ren : Go.Shelf.Ren := ⟨fun | 122 => 33 | 215 => 50 | n => n, fun | 3 => 3 | 4 => 4 | n => n, fun | n => n⟩
theorem Try.lays122 : Go.Proofs.Lays.n122 Try.prog Try.lays122_ren := {
  mixed := by kernel_rfl
  f122 := Try.func33.trans (congrArg some (by kernel_rfl))
  f215 := Try.func50.trans (congrArg some (by kernel_rfl))
  t3 := Try.underlying3
  a3 := Try.isAgg3
  z3 := Try.sizeOf3
  v3 := Try.zeroValue3
  t4 := Try.underlying4
  a4 := Try.isAgg4
  z4 := Try.sizeOf4
  v4 := Try.zeroValue4 }
open Go.RowKit in
/-- cmp.Compare at int: "Compare returns -1 if x is less than y, 0 if x equals y, +1 if x is greater than y.": IT RETURNS 'Lib.compareInt x y'; the world is as it was. (LAID: no walk: one application.) -/
theorem Try.cmp_Compare_int (x y : Int) (w : World) :
    Calls Try.prog 33 #[.int .i64 x, .int .i64 y] w fun e w' => e = .returned (.int .i64 (Lib.compareInt x y)) ∧ w' = w := Any.cmp_Compare_int Try.lays122 x y w
def Try.lays129_ren : Go.Shelf.Ren := ⟨fun | 129 => 62 | n => n, fun | 53 => 34 | 3 => 3 | 4 => 4 | 46 => 78 | 5 => 5 | 9 => 9 | n => n, fun | n => n⟩
theorem Try.lays129 : Go.Proofs.Lays.n129 Try.prog Try.lays129_ren := {
  mixed := by kernel_rfl
  f129 := Try.func62.trans (congrArg some (by kernel_rfl))
  t3 := Try.underlying3
  a3 := Try.isAgg3
  z3 := Try.sizeOf3
  v3 := Try.zeroValue3
  t4 := Try.underlying4
  a4 := Try.isAgg4
  z4 := Try.sizeOf4
  v4 := Try.zeroValue4
  t5 := Try.underlying5
  a5 := Try.isAgg5
  z5 := Try.sizeOf5
  v5 := Try.zeroValue5
  t9 := Try.underlying9
  a9 := Try.isAgg9
  z9 := Try.sizeOf9
  v9 := Try.zeroValue9
  t46 := Try.underlying78
  a46 := Try.isAgg78
  z46 := Try.sizeOf78
  v46 := Try.zeroValue78
  t53 := Try.underlying34
  a53 := Try.isAgg34
  z53 := Try.sizeOf34
  v53 := Try.zeroValue34 }
/-- bits.Len64: "Len64 returns the minimum number of bits required to represent x; the result is 0 for x == 0.": IT RETURNS 'Lib.bitLen x'; the world is as it was. ('h0', 'h1': x is a uint64.) (LAID: no walk: one application.) -/
theorem Try.bits_Len64 (x : Int) (w : World) (h0 : 0 ≤ x) (h1 : x ≤ 18446744073709551615) :
    Calls Try.prog 62 #[.int .u64 x] w fun e w' => e = .returned (.int .i64 (Lib.bitLen x.toNat)) ∧ w' = w := Any.bits_Len64 Try.lays129 x w h0 h1
def Try.laysNm237_ren : Go.Shelf.Ren := ⟨fun | 37 => 50 | n => n, fun | 3 => 3 | 4 => 4 | n => n, fun | n => n⟩
theorem Try.laysNm237 : Go.Proofs.Lays2.n37 Try.prog Try.laysNm237_ren := {
  mixed := by kernel_rfl
  f37 := Try.func50.trans (congrArg some (by kernel_rfl))
  t3 := Try.underlying3
  a3 := Try.isAgg3
  z3 := Try.sizeOf3
  v3 := Try.zeroValue3
  t4 := Try.underlying4
  a4 := Try.isAgg4
  z4 := Try.sizeOf4
  v4 := Try.zeroValue4 }
open Go.RowKit Go.Lib in
/-- cmp.isNaN[int]: 'x != x': false. (LAID: no walk: one application.) -/
theorem Try.cmp_isNaN_int2 (x : Int) (w : World) :
    Calls Try.prog 50 #[.int .i64 x] w fun e w' => e = .returned (.bool false) ∧ w' = w := Any.cmp_isNaN_int2 Try.laysNm237 x w
def Try.laysSlF020_f53_ren : Go.Shelf.Ren := ⟨fun | 20 => 53 | n => n, fun | 24 => 27 | 22 => 26 | 3 => 3 | 25 => 60 | 4 => 4 | 0 => 0 | n => n, fun | n => n⟩
theorem Try.laysSlF020_f53 : Go.Proofs.SlLaysF0.n20 Try.prog Try.laysSlF020_f53_ren := {
  mixed := by kernel_rfl
  f20 := ⟨Try.f53.name, by decide, Try.func53.trans (congrArg some (by kernel_rfl))⟩
  t0 := Try.underlying0
  a0 := Try.isAgg0
  z0 := Try.sizeOf0
  v0 := Try.zeroValue0
  t3 := Try.underlying3
  a3 := Try.isAgg3
  z3 := Try.sizeOf3
  v3 := Try.zeroValue3
  t4 := Try.underlying4
  a4 := Try.isAgg4
  z4 := Try.sizeOf4
  v4 := Try.zeroValue4
  t22 := Try.underlying26
  a22 := Try.isAgg26
  z22 := Try.sizeOf26
  v22 := Try.zeroValue26
  t25 := Try.underlying60
  a25 := Try.isAgg60
  z25 := Try.sizeOf60
  v25 := Try.zeroValue60 }
open Go.RowKit Go.Lib Go.Sort in
theorem Try.insertionSortCmpFunc {α : Type} [Inhabited α] (k : Nat) (aE : ∀ w, (isAgg 27).run Try.prog w = .ok true w) (zE : ∀ w, (Go.sizeOf 27).run Try.prog w = .ok k w) (enc : α → List Value) (hk : ∀ x, (enc x).length = k) (h1 : ∀ x, ∀ v ∈ enc x, v.oneCell' = true) (cf : α → α → Int) (g : Nat) (cb : Array Value) (blk off cap a b : Nat) (d : Array α) (w : World) (eg : ∀ args w, (callFunc g args).run Try.prog w = .ok (.enter g args) w) (hcmp : CmpLays Try.prog g cb enc k cf blk off d.size w) (hH : HoldsK enc k w blk off d) (hblk : blk < w.heap.size) (hab : a ≤ b) (hb : b ≤ d.size) (hsz : d.size < 4611686018427387904) :
    Calls Try.prog 53 #[.slice (some ⟨blk, off, none⟩) d.size cap, .int .i64 a, .int .i64 b, .func (.func g) #[] cb] w fun e w' =>
      e = .returned (.tuple #[]) ∧ ∃ n os, w' = sortWorldK enc k w blk off n (Sort.insertionSort (ltOf cf) d a b) os := AnyQ.insertionSortCmpFunc Try.laysSlF020_f53 k aE zE enc hk h1 cf g cb blk off cap a b d w eg hcmp hH hblk hab hb hsz
def Try.laysSlF046_f63_ren : Go.Shelf.Ren := ⟨fun | 46 => 63 | n => n, fun | 24 => 27 | 22 => 26 | 3 => 3 | 25 => 60 | 4 => 4 | 0 => 0 | n => n, fun | n => n⟩
theorem Try.laysSlF046_f63 : Go.Proofs.SlLaysF0.n46 Try.prog Try.laysSlF046_f63_ren := {
  mixed := by kernel_rfl
  f46 := ⟨Try.f63.name, by decide, Try.func63.trans (congrArg some (by kernel_rfl))⟩
  t0 := Try.underlying0
  a0 := Try.isAgg0
  z0 := Try.sizeOf0
  v0 := Try.zeroValue0
  t3 := Try.underlying3
  a3 := Try.isAgg3
  z3 := Try.sizeOf3
  v3 := Try.zeroValue3
  t4 := Try.underlying4
  a4 := Try.isAgg4
  z4 := Try.sizeOf4
  v4 := Try.zeroValue4
  t22 := Try.underlying26
  a22 := Try.isAgg26
  z22 := Try.sizeOf26
  v22 := Try.zeroValue26
  t25 := Try.underlying60
  a25 := Try.isAgg60
  z25 := Try.sizeOf60
  v25 := Try.zeroValue60 }
open Go.RowKit Go.Lib Go.Sort in
/-- slices.siftDownCmpFunc at elements of k cells: from a world of the sort's to a world of the sort's. (LAID AT THE INSTANCE 'slices.siftDownCmpFunc[[2]int]': no walk: one application.) -/
theorem Try.siftDownCmpFunc {α : Type} [Inhabited α] (k : Nat) (aE : ∀ w, (isAgg 27).run Try.prog w = .ok true w) (zE : ∀ w, (Go.sizeOf 27).run Try.prog w = .ok k w) (enc : α → List Value) (cf : α → α → Int) (g : Nat) (cb : Array Value) (blk off cap lo hi first : Nat) (d0 d : Array α) (w0 w : World) (eg : ∀ args w, (callFunc g args).run Try.prog w = .ok (.enter g args) w) (hcmp : CmpLays Try.prog g cb enc k cf blk off d0.size w0) (R : RowK enc k w0 blk off d0) (hs : d0.size = d.size) (S : SWK enc k w0 blk off d w) (hlo : lo ≤ hi) (hb : first + hi ≤ d.size) (hsz : d.size < 4611686018427387904) :
    Calls Try.prog 63 #[.slice (some ⟨blk, off, none⟩) d.size cap, .int .i64 lo, .int .i64 hi, .int .i64 first, .func (.func g) #[] cb] w fun e w' =>
      e = .returned (.tuple #[]) ∧ SWK enc k w0 blk off (siftDown (ltOf cf) hi first lo d) w' := AnyQ.siftDownCmpFunc Try.laysSlF046_f63 k aE zE enc cf g cb blk off cap lo hi first d0 d w0 w eg hcmp R hs S hlo hb hsz
def Try.laysSlF021_f54_ren : Go.Shelf.Ren := ⟨fun | 21 => 54 | 46 => 63 | n => n, fun | 24 => 27 | 22 => 26 | 3 => 3 | 25 => 60 | 4 => 4 | 0 => 0 | n => n, fun | n => n⟩
theorem Try.laysSlF021_f54 : Go.Proofs.SlLaysF0.n21 Try.prog Try.laysSlF021_f54_ren := {
  mixed := by kernel_rfl
  f21 := ⟨Try.f54.name, by decide, Try.func54.trans (congrArg some (by kernel_rfl))⟩
  f46 := ⟨Try.f63.name, by decide, Try.func63.trans (congrArg some (by kernel_rfl))⟩
  t0 := Try.underlying0
  a0 := Try.isAgg0
  z0 := Try.sizeOf0
  v0 := Try.zeroValue0
  t3 := Try.underlying3
  a3 := Try.isAgg3
  z3 := Try.sizeOf3
  v3 := Try.zeroValue3
  t4 := Try.underlying4
  a4 := Try.isAgg4
  z4 := Try.sizeOf4
  v4 := Try.zeroValue4
  t22 := Try.underlying26
  a22 := Try.isAgg26
  z22 := Try.sizeOf26
  v22 := Try.zeroValue26
  t25 := Try.underlying60
  a25 := Try.isAgg60
  z25 := Try.sizeOf60
  v25 := Try.zeroValue60 }
open Go.RowKit Go.Lib Go.Sort in
/-- slices.heapSortCmpFunc at elements of k cells. (LAID AT THE INSTANCE 'slices.heapSortCmpFunc[[2]int]': no walk: one application.) -/
theorem Try.heapSortCmpFunc {α : Type} [Inhabited α] (k : Nat) (aE : ∀ w, (isAgg 27).run Try.prog w = .ok true w) (zE : ∀ w, (Go.sizeOf 27).run Try.prog w = .ok k w) (enc : α → List Value) (cf : α → α → Int) (g : Nat) (cb : Array Value) (blk off cap a b : Nat) (d0 d : Array α) (w0 w : World) (eg : ∀ args w, (callFunc g args).run Try.prog w = .ok (.enter g args) w) (hcmp : CmpLays Try.prog g cb enc k cf blk off d0.size w0) (R : RowK enc k w0 blk off d0) (hs : d0.size = d.size) (S : SWK enc k w0 blk off d w) (hab : a ≤ b) (hb : b ≤ d.size) (hsz : d.size < 4611686018427387904) :
    Calls Try.prog 54 #[.slice (some ⟨blk, off, none⟩) d.size cap, .int .i64 a, .int .i64 b, .func (.func g) #[] cb] w fun e w' =>
      e = .returned (.tuple #[]) ∧ SWK enc k w0 blk off (heapSort (ltOf cf) d a b) w' := AnyQ.heapSortCmpFunc Try.laysSlF021_f54 k aE zE enc cf g cb blk off cap a b d0 d w0 w eg hcmp R hs S hab hb hsz
def Try.laysSlF057_f68_ren : Go.Shelf.Ren := ⟨fun | 57 => 68 | n => n, fun | 24 => 27 | 22 => 26 | 3 => 3 | 70 => 100 | 25 => 60 | 0 => 0 | 4 => 4 | n => n, fun | n => n⟩
theorem Try.laysSlF057_f68 : Go.Proofs.SlLaysF0.n57 Try.prog Try.laysSlF057_f68_ren := {
  mixed := by kernel_rfl
  f57 := ⟨Try.f68.name, by decide, Try.func68.trans (congrArg some (by kernel_rfl))⟩
  t0 := Try.underlying0
  a0 := Try.isAgg0
  z0 := Try.sizeOf0
  v0 := Try.zeroValue0
  t3 := Try.underlying3
  a3 := Try.isAgg3
  z3 := Try.sizeOf3
  v3 := Try.zeroValue3
  t4 := Try.underlying4
  a4 := Try.isAgg4
  z4 := Try.sizeOf4
  v4 := Try.zeroValue4
  t22 := Try.underlying26
  a22 := Try.isAgg26
  z22 := Try.sizeOf26
  v22 := Try.zeroValue26
  t25 := Try.underlying60
  a25 := Try.isAgg60
  z25 := Try.sizeOf60
  v25 := Try.zeroValue60
  t70 := Try.underlying100
  a70 := Try.isAgg100
  z70 := Try.sizeOf100
  v70 := Try.zeroValue100 }
open Go.RowKit Go.Lib Go.Sort in
/-- slices.order2CmpFunc at elements of k cells. (LAID AT THE INSTANCE 'slices.order2CmpFunc[[2]int]': no walk: one application.) -/
theorem Try.order2CmpFunc {α : Type} [Inhabited α] (k : Nat) (aE : ∀ w, (isAgg 27).run Try.prog w = .ok true w) (zE : ∀ w, (Go.sizeOf 27).run Try.prog w = .ok k w) (enc : α → List Value) (cf : α → α → Int) (g : Nat) (cb : Array Value) (blk off cap a b c s : Nat) (d0 d : Array α) (w0 W : World) (eg : ∀ args w, (callFunc g args).run Try.prog w = .ok (.enter g args) w) (hcmp : CmpLays Try.prog g cb enc k cf blk off d0.size w0) (R : RowK enc k w0 blk off d0) (hs : d0.size = d.size) (C : CntK enc k w0 blk off d c s W) (ha : a < d.size) (hb : b < d.size) (hsz : d.size < 4611686018427387904) (hss : s < 4611686018427387904) :
    Calls Try.prog 68 #[.slice (some ⟨blk, off, none⟩) d.size cap, .int .i64 a, .int .i64 b, .pointer (some ⟨c, 0, none⟩), .func (.func g) #[] cb] W fun e w' =>
      e = .returned (.tuple #[.int .i64 (order2 (ltOf cf) d a b s).1, .int .i64 (order2 (ltOf cf) d a b s).2.1]) ∧ CntK enc k w0 blk off d c (order2 (ltOf cf) d a b s).2.2 w' := AnyQ.order2CmpFunc Try.laysSlF057_f68 k aE zE enc cf g cb blk off cap a b c s d0 d w0 W eg hcmp R hs C ha hb hsz hss
def Try.laysSlF050_f67_ren : Go.Shelf.Ren := ⟨fun | 50 => 67 | 57 => 68 | n => n, fun | 24 => 27 | 22 => 26 | 3 => 3 | 70 => 100 | 25 => 60 | 77 => 49 | 0 => 0 | 4 => 4 | n => n, fun | n => n⟩
theorem Try.laysSlF050_f67 : Go.Proofs.SlLaysF0.n50 Try.prog Try.laysSlF050_f67_ren := {
  mixed := by kernel_rfl
  f50 := ⟨Try.f67.name, by decide, Try.func67.trans (congrArg some (by kernel_rfl))⟩
  f57 := ⟨Try.f68.name, by decide, Try.func68.trans (congrArg some (by kernel_rfl))⟩
  t0 := Try.underlying0
  a0 := Try.isAgg0
  z0 := Try.sizeOf0
  v0 := Try.zeroValue0
  t3 := Try.underlying3
  a3 := Try.isAgg3
  z3 := Try.sizeOf3
  v3 := Try.zeroValue3
  t4 := Try.underlying4
  a4 := Try.isAgg4
  z4 := Try.sizeOf4
  v4 := Try.zeroValue4
  t22 := Try.underlying26
  a22 := Try.isAgg26
  z22 := Try.sizeOf26
  v22 := Try.zeroValue26
  t25 := Try.underlying60
  a25 := Try.isAgg60
  z25 := Try.sizeOf60
  v25 := Try.zeroValue60
  t70 := Try.underlying100
  a70 := Try.isAgg100
  z70 := Try.sizeOf100
  v70 := Try.zeroValue100
  t77 := Try.underlying49
  a77 := Try.isAgg49
  z77 := Try.sizeOf49
  v77 := Try.zeroValue49 }
open Go.RowKit Go.Lib Go.Sort in
/-- slices.medianCmpFunc at elements of k cells. (LAID AT THE INSTANCE 'slices.medianCmpFunc[[2]int]': no walk: one application.) -/
theorem Try.medianCmpFunc {α : Type} [Inhabited α] (k : Nat) (aE : ∀ w, (isAgg 27).run Try.prog w = .ok true w) (zE : ∀ w, (Go.sizeOf 27).run Try.prog w = .ok k w) (enc : α → List Value) (cf : α → α → Int) (g : Nat) (cb : Array Value) (blk off cap a b c' c s : Nat) (d0 d : Array α) (w0 W : World) (eg : ∀ args w, (callFunc g args).run Try.prog w = .ok (.enter g args) w) (hcmp : CmpLays Try.prog g cb enc k cf blk off d0.size w0) (R : RowK enc k w0 blk off d0) (hs : d0.size = d.size) (C : CntK enc k w0 blk off d c s W) (ha : a < d.size) (hb : b < d.size) (hc : c' < d.size) (hsz : d.size < 4611686018427387904) (hss : s + 3 < 4611686018427387904) :
    Calls Try.prog 67 #[.slice (some ⟨blk, off, none⟩) d.size cap, .int .i64 a, .int .i64 b, .int .i64 c', .pointer (some ⟨c, 0, none⟩), .func (.func g) #[] cb] W fun e w' =>
      e = .returned (.int .i64 (median (ltOf cf) d a b c' s).1) ∧ CntK enc k w0 blk off d c (median (ltOf cf) d a b c' s).2 w' := AnyQ.medianCmpFunc Try.laysSlF050_f67 k aE zE enc cf g cb blk off cap a b c' c s d0 d w0 W eg hcmp R hs C ha hb hc hsz hss
def Try.laysSlF049_f66_ren : Go.Shelf.Ren := ⟨fun | 49 => 66 | 50 => 67 | 57 => 68 | n => n, fun | 24 => 27 | 22 => 26 | 3 => 3 | 70 => 100 | 25 => 60 | 77 => 49 | 0 => 0 | 4 => 4 | n => n, fun | n => n⟩
theorem Try.laysSlF049_f66 : Go.Proofs.SlLaysF0.n49 Try.prog Try.laysSlF049_f66_ren := {
  mixed := by kernel_rfl
  f49 := ⟨Try.f66.name, by decide, Try.func66.trans (congrArg some (by kernel_rfl))⟩
  f50 := ⟨Try.f67.name, by decide, Try.func67.trans (congrArg some (by kernel_rfl))⟩
  f57 := ⟨Try.f68.name, by decide, Try.func68.trans (congrArg some (by kernel_rfl))⟩
  t0 := Try.underlying0
  a0 := Try.isAgg0
  z0 := Try.sizeOf0
  v0 := Try.zeroValue0
  t3 := Try.underlying3
  a3 := Try.isAgg3
  z3 := Try.sizeOf3
  v3 := Try.zeroValue3
  t4 := Try.underlying4
  a4 := Try.isAgg4
  z4 := Try.sizeOf4
  v4 := Try.zeroValue4
  t22 := Try.underlying26
  a22 := Try.isAgg26
  z22 := Try.sizeOf26
  v22 := Try.zeroValue26
  t25 := Try.underlying60
  a25 := Try.isAgg60
  z25 := Try.sizeOf60
  v25 := Try.zeroValue60
  t70 := Try.underlying100
  a70 := Try.isAgg100
  z70 := Try.sizeOf100
  v70 := Try.zeroValue100
  t77 := Try.underlying49
  a77 := Try.isAgg49
  z77 := Try.sizeOf49
  v77 := Try.zeroValue49 }
open Go.RowKit Go.Lib Go.Sort in
/-- slices.medianAdjacentCmpFunc at elements of k cells. (LAID AT THE INSTANCE 'slices.medianAdjacentCmpFunc[[2]int]': no walk: one application.) -/
theorem Try.medianAdjacentCmpFunc {α : Type} [Inhabited α] (k : Nat) (aE : ∀ w, (isAgg 27).run Try.prog w = .ok true w) (zE : ∀ w, (Go.sizeOf 27).run Try.prog w = .ok k w) (enc : α → List Value) (cf : α → α → Int) (g : Nat) (cb : Array Value) (blk off cap a c s : Nat) (d0 d : Array α) (w0 W : World) (eg : ∀ args w, (callFunc g args).run Try.prog w = .ok (.enter g args) w) (hcmp : CmpLays Try.prog g cb enc k cf blk off d0.size w0) (R : RowK enc k w0 blk off d0) (hs : d0.size = d.size) (C : CntK enc k w0 blk off d c s W) (ha1 : 1 ≤ a) (ha2 : a + 1 < d.size) (hsz : d.size < 4611686018427387904) (hss : s + 3 < 4611686018427387904) :
    Calls Try.prog 66 #[.slice (some ⟨blk, off, none⟩) d.size cap, .int .i64 a, .pointer (some ⟨c, 0, none⟩), .func (.func g) #[] cb] W fun e w' =>
      e = .returned (.int .i64 (medianAdjacent (ltOf cf) d a s).1) ∧ CntK enc k w0 blk off d c (medianAdjacent (ltOf cf) d a s).2 w' := AnyQ.medianAdjacentCmpFunc Try.laysSlF049_f66 k aE zE enc cf g cb blk off cap a c s d0 d w0 W eg hcmp R hs C ha1 ha2 hsz hss
def Try.laysSlF023_f56_ren : Go.Shelf.Ren := ⟨fun | 23 => 56 | 49 => 66 | 50 => 67 | 57 => 68 | n => n, fun | 24 => 27 | 22 => 26 | 3 => 3 | 25 => 60 | 45 => 87 | 0 => 0 | 4 => 4 | 70 => 100 | 77 => 49 | n => n, fun | n => n⟩
theorem Try.laysSlF023_f56 : Go.Proofs.SlLaysF0.n23 Try.prog Try.laysSlF023_f56_ren := {
  mixed := by kernel_rfl
  f23 := ⟨Try.f56.name, by decide, Try.func56.trans (congrArg some (by kernel_rfl))⟩
  f49 := ⟨Try.f66.name, by decide, Try.func66.trans (congrArg some (by kernel_rfl))⟩
  f50 := ⟨Try.f67.name, by decide, Try.func67.trans (congrArg some (by kernel_rfl))⟩
  f57 := ⟨Try.f68.name, by decide, Try.func68.trans (congrArg some (by kernel_rfl))⟩
  t0 := Try.underlying0
  a0 := Try.isAgg0
  z0 := Try.sizeOf0
  v0 := Try.zeroValue0
  t3 := Try.underlying3
  a3 := Try.isAgg3
  z3 := Try.sizeOf3
  v3 := Try.zeroValue3
  t4 := Try.underlying4
  a4 := Try.isAgg4
  z4 := Try.sizeOf4
  v4 := Try.zeroValue4
  t22 := Try.underlying26
  a22 := Try.isAgg26
  z22 := Try.sizeOf26
  v22 := Try.zeroValue26
  t25 := Try.underlying60
  a25 := Try.isAgg60
  z25 := Try.sizeOf60
  v25 := Try.zeroValue60
  t45 := Try.underlying87
  a45 := Try.isAgg87
  z45 := Try.sizeOf87
  v45 := Try.zeroValue87
  t70 := Try.underlying100
  a70 := Try.isAgg100
  z70 := Try.sizeOf100
  v70 := Try.zeroValue100
  t77 := Try.underlying49
  a77 := Try.isAgg49
  z77 := Try.sizeOf49
  v77 := Try.zeroValue49 }
open Go.RowKit Go.Lib Go.Sort in
/-- slices.choosePivotCmpFunc at elements of k cells: THE LIBRARY's OWN TEXT COMPUTES 'Sort.choosePivot (ltOf cf) d a b'; the row is not turned. (After Derived/Shelf/SlSortFuncK/PivotK.lean, row for row; the counter's world by 'CntK'.) (LAID AT THE INSTANCE 'slices.choosePivotCmpFunc[[2]int]': no walk: one application.) -/
theorem Try.choosePivotCmpFunc {α : Type} [Inhabited α] (k : Nat) (aE : ∀ w, (isAgg 27).run Try.prog w = .ok true w) (zE : ∀ w, (Go.sizeOf 27).run Try.prog w = .ok k w) (enc : α → List Value) (cf : α → α → Int) (g : Nat) (cb : Array Value) (blk off cap a b : Nat) (d0 d : Array α) (w0 W : World) (eg : ∀ args w, (callFunc g args).run Try.prog w = .ok (.enter g args) w) (hcmp : CmpLays Try.prog g cb enc k cf blk off d0.size w0) (R : RowK enc k w0 blk off d0) (hs : d0.size = d.size) (S : SWK enc k w0 blk off d W) (hab : a < b) (hb : b ≤ d.size) (hsz : d.size < 4611686018427387904) :
    Calls Try.prog 56 #[.slice (some ⟨blk, off, none⟩) d.size cap, .int .i64 a, .int .i64 b, .func (.func g) #[] cb] W fun e w' =>
      e = .returned (.tuple #[.int .i64 (choosePivot (ltOf cf) d a b).1, .int .i64 (hintCode (choosePivot (ltOf cf) d a b).2)]) ∧ SWK enc k w0 blk off d w' := AnyQ.choosePivotCmpFunc Try.laysSlF023_f56 k aE zE enc cf g cb blk off cap a b d0 d w0 W eg hcmp R hs S hab hb hsz
def Try.laysSlF024_f57_ren : Go.Shelf.Ren := ⟨fun | 24 => 57 | n => n, fun | 24 => 27 | 22 => 26 | 3 => 3 | 25 => 60 | 4 => 4 | 0 => 0 | n => n, fun | n => n⟩
theorem Try.laysSlF024_f57 : Go.Proofs.SlLaysF0.n24 Try.prog Try.laysSlF024_f57_ren := {
  mixed := by kernel_rfl
  f24 := ⟨Try.f57.name, by decide, Try.func57.trans (congrArg some (by kernel_rfl))⟩
  t0 := Try.underlying0
  a0 := Try.isAgg0
  z0 := Try.sizeOf0
  v0 := Try.zeroValue0
  t3 := Try.underlying3
  a3 := Try.isAgg3
  z3 := Try.sizeOf3
  v3 := Try.zeroValue3
  t4 := Try.underlying4
  a4 := Try.isAgg4
  z4 := Try.sizeOf4
  v4 := Try.zeroValue4
  t22 := Try.underlying26
  a22 := Try.isAgg26
  z22 := Try.sizeOf26
  v22 := Try.zeroValue26
  t25 := Try.underlying60
  a25 := Try.isAgg60
  z25 := Try.sizeOf60
  v25 := Try.zeroValue60 }
open Go.RowKit Go.Lib Go.Sort in
/-- slices.reverseRangeCmpFunc at elements of k cells: it exchanges and does not compare. (LAID AT THE INSTANCE 'slices.reverseRangeCmpFunc[[2]int]': no walk: one application.) -/
theorem Try.reverseRangeCmpFunc {α : Type} [Inhabited α] (k : Nat) (aE : ∀ w, (isAgg 27).run Try.prog w = .ok true w) (zE : ∀ w, (Go.sizeOf 27).run Try.prog w = .ok k w) (enc : α → List Value) (g : Nat) (cb : Array Value) (blk off cap a b : Nat) (d0 d : Array α) (w0 w : World) (R : RowK enc k w0 blk off d0) (hs : d0.size = d.size) (S : SWK enc k w0 blk off d w) (hab : a ≤ b) (hb : b ≤ d.size) (hsz : d.size < 4611686018427387904) :
    Calls Try.prog 57 #[.slice (some ⟨blk, off, none⟩) d.size cap, .int .i64 a, .int .i64 b, .func (.func g) #[] cb] w fun e w' => e = .returned (.tuple #[]) ∧ SWK enc k w0 blk off (reverseRange d a b) w' := AnyQ.reverseRangeCmpFunc Try.laysSlF024_f57 k aE zE enc g cb blk off cap a b d0 d w0 w R hs S hab hb hsz
def Try.laysSlF025_f58_ren : Go.Shelf.Ren := ⟨fun | 25 => 58 | n => n, fun | 24 => 27 | 22 => 26 | 3 => 3 | 25 => 60 | 4 => 4 | 0 => 0 | n => n, fun | n => n⟩
theorem Try.laysSlF025_f58 : Go.Proofs.SlLaysF0.n25 Try.prog Try.laysSlF025_f58_ren := {
  mixed := by kernel_rfl
  f25 := ⟨Try.f58.name, by decide, Try.func58.trans (congrArg some (by kernel_rfl))⟩
  t0 := Try.underlying0
  a0 := Try.isAgg0
  z0 := Try.sizeOf0
  v0 := Try.zeroValue0
  t3 := Try.underlying3
  a3 := Try.isAgg3
  z3 := Try.sizeOf3
  v3 := Try.zeroValue3
  t4 := Try.underlying4
  a4 := Try.isAgg4
  z4 := Try.sizeOf4
  v4 := Try.zeroValue4
  t22 := Try.underlying26
  a22 := Try.isAgg26
  z22 := Try.sizeOf26
  v22 := Try.zeroValue26
  t25 := Try.underlying60
  a25 := Try.isAgg60
  z25 := Try.sizeOf60
  v25 := Try.zeroValue60 }
open Go.RowKit Go.Lib Go.Sort in
/-- slices.partialInsertionSortCmpFunc at elements of k cells. (LAID AT THE INSTANCE 'slices.partialInsertionSortCmpFunc[[2]int]': no walk: one application.) -/
theorem Try.partialInsertionSortCmpFunc {α : Type} [Inhabited α] (k : Nat) (aE : ∀ w, (isAgg 27).run Try.prog w = .ok true w) (zE : ∀ w, (Go.sizeOf 27).run Try.prog w = .ok k w) (enc : α → List Value) (cf : α → α → Int) (g : Nat) (cb : Array Value) (blk off cap a b : Nat) (d0 d : Array α) (w0 w : World) (eg : ∀ args w, (callFunc g args).run Try.prog w = .ok (.enter g args) w) (hcmp : CmpLays Try.prog g cb enc k cf blk off d0.size w0) (R : RowK enc k w0 blk off d0) (hs : d0.size = d.size) (S : SWK enc k w0 blk off d w) (hab : a < b) (hb : b ≤ d.size) (hsz : d.size < 4611686018427387904) :
    Calls Try.prog 58 #[.slice (some ⟨blk, off, none⟩) d.size cap, .int .i64 a, .int .i64 b, .func (.func g) #[] cb] w fun e w' =>
      e = .returned (.bool (Sort.partialInsertionSort (ltOf cf) d a b).2) ∧ SWK enc k w0 blk off (Sort.partialInsertionSort (ltOf cf) d a b).1 w' := AnyQ.partialInsertionSortCmpFunc Try.laysSlF025_f58 k aE zE enc cf g cb blk off cap a b d0 d w0 w eg hcmp R hs S hab hb hsz
def Try.laysSlF026_f59_ren : Go.Shelf.Ren := ⟨fun | 26 => 59 | n => n, fun | 24 => 27 | 22 => 26 | 3 => 3 | 25 => 60 | 0 => 0 | 4 => 4 | n => n, fun | n => n⟩
theorem Try.laysSlF026_f59 : Go.Proofs.SlLaysF0.n26 Try.prog Try.laysSlF026_f59_ren := {
  mixed := by kernel_rfl
  f26 := ⟨Try.f59.name, by decide, Try.func59.trans (congrArg some (by kernel_rfl))⟩
  t0 := Try.underlying0
  a0 := Try.isAgg0
  z0 := Try.sizeOf0
  v0 := Try.zeroValue0
  t3 := Try.underlying3
  a3 := Try.isAgg3
  z3 := Try.sizeOf3
  v3 := Try.zeroValue3
  t4 := Try.underlying4
  a4 := Try.isAgg4
  z4 := Try.sizeOf4
  v4 := Try.zeroValue4
  t22 := Try.underlying26
  a22 := Try.isAgg26
  z22 := Try.sizeOf26
  v22 := Try.zeroValue26
  t25 := Try.underlying60
  a25 := Try.isAgg60
  z25 := Try.sizeOf60
  v25 := Try.zeroValue60 }
open Go.RowKit Go.Lib Go.Sort in
/-- slices.partitionEqualCmpFunc at elements of k cells. (After Derived/Shelf/SlSortFuncK/PartitionK.lean, row for row.) (LAID AT THE INSTANCE 'slices.partitionEqualCmpFunc[[2]int]': no walk: one application.) -/
theorem Try.partitionEqualCmpFunc {α : Type} [Inhabited α] (k : Nat) (aE : ∀ w, (isAgg 27).run Try.prog w = .ok true w) (zE : ∀ w, (Go.sizeOf 27).run Try.prog w = .ok k w) (enc : α → List Value) (cf : α → α → Int) (g : Nat) (cb : Array Value) (blk off cap a b pivot : Nat) (d0 d : Array α) (w0 w : World) (eg : ∀ args w, (callFunc g args).run Try.prog w = .ok (.enter g args) w) (hcmp : CmpLays Try.prog g cb enc k cf blk off d0.size w0) (R : RowK enc k w0 blk off d0) (hs : d0.size = d.size) (S : SWK enc k w0 blk off d w) (hap : a ≤ pivot) (hpb : pivot < b) (hb : b ≤ d.size) (hsz : d.size < 4611686018427387904) :
    Calls Try.prog 59 #[.slice (some ⟨blk, off, none⟩) d.size cap, .int .i64 a, .int .i64 b, .int .i64 pivot, .func (.func g) #[] cb] w fun e w' =>
      e = .returned (.int .i64 (Sort.partitionEqual (ltOf cf) d a b pivot).1) ∧ SWK enc k w0 blk off (Sort.partitionEqual (ltOf cf) d a b pivot).2 w' := AnyQ.partitionEqualCmpFunc Try.laysSlF026_f59 k aE zE enc cf g cb blk off cap a b pivot d0 d w0 w eg hcmp R hs S hap hpb hb hsz
def Try.laysSlF027_f60_ren : Go.Shelf.Ren := ⟨fun | 27 => 60 | n => n, fun | 24 => 27 | 22 => 26 | 3 => 3 | 25 => 60 | 4 => 4 | 0 => 0 | n => n, fun | n => n⟩
theorem Try.laysSlF027_f60 : Go.Proofs.SlLaysF0.n27 Try.prog Try.laysSlF027_f60_ren := {
  mixed := by kernel_rfl
  f27 := ⟨Try.f60.name, by decide, Try.func60.trans (congrArg some (by kernel_rfl))⟩
  t0 := Try.underlying0
  a0 := Try.isAgg0
  z0 := Try.sizeOf0
  v0 := Try.zeroValue0
  t3 := Try.underlying3
  a3 := Try.isAgg3
  z3 := Try.sizeOf3
  v3 := Try.zeroValue3
  t4 := Try.underlying4
  a4 := Try.isAgg4
  z4 := Try.sizeOf4
  v4 := Try.zeroValue4
  t22 := Try.underlying26
  a22 := Try.isAgg26
  z22 := Try.sizeOf26
  v22 := Try.zeroValue26
  t25 := Try.underlying60
  a25 := Try.isAgg60
  z25 := Try.sizeOf60
  v25 := Try.zeroValue60 }
open Go.RowKit Go.Lib Go.Sort in
/-- slices.partitionCmpFunc at elements of k cells. (After Derived/Shelf/SlSortFuncK/PartitionK.lean, row for row.) (LAID AT THE INSTANCE 'slices.partitionCmpFunc[[2]int]': no walk: one application.) -/
theorem Try.partitionCmpFunc {α : Type} [Inhabited α] (k : Nat) (aE : ∀ w, (isAgg 27).run Try.prog w = .ok true w) (zE : ∀ w, (Go.sizeOf 27).run Try.prog w = .ok k w) (enc : α → List Value) (cf : α → α → Int) (g : Nat) (cb : Array Value) (blk off cap a b pivot : Nat) (d0 d : Array α) (w0 w : World) (eg : ∀ args w, (callFunc g args).run Try.prog w = .ok (.enter g args) w) (hcmp : CmpLays Try.prog g cb enc k cf blk off d0.size w0) (R : RowK enc k w0 blk off d0) (hs : d0.size = d.size) (S : SWK enc k w0 blk off d w) (hap : a ≤ pivot) (hpb : pivot < b) (hb : b ≤ d.size) (hsz : d.size < 4611686018427387904) :
    Calls Try.prog 60 #[.slice (some ⟨blk, off, none⟩) d.size cap, .int .i64 a, .int .i64 b, .int .i64 pivot, .func (.func g) #[] cb] w fun e w' =>
      e = .returned (.tuple #[.int .i64 (Sort.partition (ltOf cf) d a b pivot).1, .bool (Sort.partition (ltOf cf) d a b pivot).2.1]) ∧ SWK enc k w0 blk off (Sort.partition (ltOf cf) d a b pivot).2.2 w' := AnyQ.partitionCmpFunc Try.laysSlF027_f60 k aE zE enc cf g cb blk off cap a b pivot d0 d w0 w eg hcmp R hs S hap hpb hb hsz
open Go.RowKit Go.Lib Go.Sort in
/-- slices.insertionSortCmpFunc, from a world of the sort's to a world of the sort's. (LAID AT THE INSTANCE 'slices.insertionSortCmpFunc[[2]int]': no walk: one application.) -/
theorem Try.insertionSortCmpFunc_w {α : Type} [Inhabited α] (k : Nat) (aE : ∀ w, (isAgg 27).run Try.prog w = .ok true w) (zE : ∀ w, (Go.sizeOf 27).run Try.prog w = .ok k w) (enc : α → List Value) (cf : α → α → Int) (g : Nat) (cb : Array Value) (blk off cap a b : Nat) (d0 d : Array α) (w0 w : World) (eg : ∀ args w, (callFunc g args).run Try.prog w = .ok (.enter g args) w) (hcmp : CmpLays Try.prog g cb enc k cf blk off d0.size w0) (R : RowK enc k w0 blk off d0) (hs : d0.size = d.size) (S : SWK enc k w0 blk off d w) (hO : SWO (ltOf cf)) (hab : a ≤ b) (hb : b ≤ d.size) (hsz : d.size < 4611686018427387904) :
    Calls Try.prog 53 #[.slice (some ⟨blk, off, none⟩) d.size cap, .int .i64 a, .int .i64 b, .func (.func g) #[] cb] w fun e w' => e = .returned (.tuple #[]) ∧ SWK enc k w0 blk off (Sort.insertionSort (ltOf cf) d a b) w' := AnyQ.insertionSortCmpFunc_w Try.laysSlF020_f53 k aE zE enc cf g cb blk off cap a b d0 d w0 w eg hcmp R hs S hO hab hb hsz
def Try.laysSlF014_f48_ren : Go.Shelf.Ren := ⟨fun | 14 => 48 | 20 => 53 | 21 => 54 | 22 => 55 | 23 => 56 | 24 => 57 | 25 => 58 | 26 => 59 | 27 => 60 | 46 => 63 | 47 => 64 | 48 => 65 | 49 => 66 | 50 => 67 | 15 => 49 | 57 => 68 | 28 => 61 | 29 => 62 | n => n, fun | 24 => 27 | 22 => 26 | 3 => 3 | 25 => 60 | 4 => 4 | 0 => 0 | 46 => 88 | 45 => 87 | 50 => 92 | 66 => 97 | 39 => 78 | 55 => 34 | 70 => 100 | 76 => 102 | 77 => 49 | 53 => 95 | 5 => 5 | 9 => 9 | n => n, fun | n => n⟩
theorem Try.laysSlF014_f48 : Go.Proofs.SlLaysF0.n14 Try.prog Try.laysSlF014_f48_ren := {
  mixed := by kernel_rfl
  f14 := ⟨Try.f48.name, by decide, Try.func48.trans (congrArg some (by kernel_rfl))⟩
  f15 := Try.func49.trans (congrArg some (by kernel_rfl))
  f20 := ⟨Try.f53.name, by decide, Try.func53.trans (congrArg some (by kernel_rfl))⟩
  f21 := ⟨Try.f54.name, by decide, Try.func54.trans (congrArg some (by kernel_rfl))⟩
  f22 := ⟨Try.f55.name, by decide, Try.func55.trans (congrArg some (by kernel_rfl))⟩
  f23 := ⟨Try.f56.name, by decide, Try.func56.trans (congrArg some (by kernel_rfl))⟩
  f24 := ⟨Try.f57.name, by decide, Try.func57.trans (congrArg some (by kernel_rfl))⟩
  f25 := ⟨Try.f58.name, by decide, Try.func58.trans (congrArg some (by kernel_rfl))⟩
  f26 := ⟨Try.f59.name, by decide, Try.func59.trans (congrArg some (by kernel_rfl))⟩
  f27 := ⟨Try.f60.name, by decide, Try.func60.trans (congrArg some (by kernel_rfl))⟩
  f28 := Try.func61.trans (congrArg some (by kernel_rfl))
  f29 := Try.func62.trans (congrArg some (by kernel_rfl))
  f46 := ⟨Try.f63.name, by decide, Try.func63.trans (congrArg some (by kernel_rfl))⟩
  f47 := Try.func64.trans (congrArg some (by kernel_rfl))
  f48 := Try.func65.trans (congrArg some (by kernel_rfl))
  f49 := ⟨Try.f66.name, by decide, Try.func66.trans (congrArg some (by kernel_rfl))⟩
  f50 := ⟨Try.f67.name, by decide, Try.func67.trans (congrArg some (by kernel_rfl))⟩
  f57 := ⟨Try.f68.name, by decide, Try.func68.trans (congrArg some (by kernel_rfl))⟩
  t0 := Try.underlying0
  a0 := Try.isAgg0
  z0 := Try.sizeOf0
  v0 := Try.zeroValue0
  t3 := Try.underlying3
  a3 := Try.isAgg3
  z3 := Try.sizeOf3
  v3 := Try.zeroValue3
  t4 := Try.underlying4
  a4 := Try.isAgg4
  z4 := Try.sizeOf4
  v4 := Try.zeroValue4
  t5 := Try.underlying5
  a5 := Try.isAgg5
  z5 := Try.sizeOf5
  v5 := Try.zeroValue5
  t9 := Try.underlying9
  a9 := Try.isAgg9
  z9 := Try.sizeOf9
  v9 := Try.zeroValue9
  t22 := Try.underlying26
  a22 := Try.isAgg26
  z22 := Try.sizeOf26
  v22 := Try.zeroValue26
  t25 := Try.underlying60
  a25 := Try.isAgg60
  z25 := Try.sizeOf60
  v25 := Try.zeroValue60
  t39 := Try.underlying78
  a39 := Try.isAgg78
  z39 := Try.sizeOf78
  v39 := Try.zeroValue78
  t45 := Try.underlying87
  a45 := Try.isAgg87
  z45 := Try.sizeOf87
  v45 := Try.zeroValue87
  t46 := Try.underlying88
  a46 := Try.isAgg88
  z46 := Try.sizeOf88
  v46 := Try.zeroValue88
  t50 := Try.underlying92
  a50 := Try.isAgg92
  z50 := Try.sizeOf92
  v50 := Try.zeroValue92
  t53 := Try.underlying95
  a53 := Try.isAgg95
  z53 := Try.sizeOf95
  v53 := Try.zeroValue95
  t55 := Try.underlying34
  a55 := Try.isAgg34
  z55 := Try.sizeOf34
  v55 := Try.zeroValue34
  t66 := Try.underlying97
  a66 := Try.isAgg97
  z66 := Try.sizeOf97
  v66 := Try.zeroValue97
  t70 := Try.underlying100
  a70 := Try.isAgg100
  z70 := Try.sizeOf100
  v70 := Try.zeroValue100
  t76 := Try.underlying102
  a76 := Try.isAgg102
  z76 := Try.sizeOf102
  v76 := Try.zeroValue102
  t77 := Try.underlying49
  a77 := Try.isAgg49
  z77 := Try.sizeOf49
  v77 := Try.zeroValue49 }
open Go.RowKit Go.Lib Go.Sort in
/-- slices.pdqsortCmpFunc at elements of k cells, WHOLE. (After Derived/Shelf/SlSortFuncK/PdqK.lean, row for row: the slots and the regions' numbers are this body's.) (LAID AT THE INSTANCE 'slices.pdqsortCmpFunc[[2]int]': no walk: one application.) -/
theorem Try.pdqsortCmpFunc_all {α : Type} [Inhabited α] (k : Nat) (aE : ∀ w, (isAgg 27).run Try.prog w = .ok true w) (zE : ∀ w, (Go.sizeOf 27).run Try.prog w = .ok k w) (enc : α → List Value) (cf : α → α → Int) (g : Nat) (cb : Array Value) (hO : SWO (ltOf cf)) (blk off cap : Nat) (d0 : Array α) (w0 : World) (eg : ∀ args w, (callFunc g args).run Try.prog w = .ok (.enter g args) w) (hcmp : CmpLays Try.prog g cb enc k cf blk off d0.size w0) (R : RowK enc k w0 blk off d0) :
    ∀ (N a b limit : Nat) (d : Array α) (w : World), b - a < N → d0.size = d.size → SWK enc k w0 blk off d w → a ≤ b → b ≤ d.size → d.size < 4611686018427387904 → limit < 4611686018427387904 → Below (ltOf cf) a b d →
    Calls Try.prog 48 #[.slice (some ⟨blk, off, none⟩) d.size cap, .int .i64 a, .int .i64 b, .int .i64 limit, .func (.func g) #[] cb] w fun e w' => e = .returned (.tuple #[]) ∧ SWK enc k w0 blk off (pdq (ltOf cf) d a b limit true true) w' := AnyQ.pdqsortCmpFunc_all Try.laysSlF014_f48 k aE zE enc cf g cb hO blk off cap d0 w0 eg hcmp R
def Try.laysSlF06_f30_ren : Go.Shelf.Ren := ⟨fun | 6 => 30 | 15 => 49 | 14 => 48 | 28 => 61 | 29 => 62 | 20 => 53 | 21 => 54 | 22 => 55 | 23 => 56 | 24 => 57 | 25 => 58 | 26 => 59 | 27 => 60 | 46 => 63 | 47 => 64 | 48 => 65 | 49 => 66 | 50 => 67 | 57 => 68 | n => n, fun | 22 => 26 | 24 => 27 | 25 => 60 | 3 => 3 | 39 => 78 | 0 => 0 | 53 => 95 | 55 => 34 | 4 => 4 | 46 => 88 | 45 => 87 | 50 => 92 | 5 => 5 | 9 => 9 | 66 => 97 | 70 => 100 | 76 => 102 | 77 => 49 | n => n, fun | n => n⟩
theorem Try.laysSlF06_f30 : Go.Proofs.SlLaysF0.n6 Try.prog Try.laysSlF06_f30_ren := {
  mixed := by kernel_rfl
  f6 := ⟨Try.f30.name, by decide, Try.func30.trans (congrArg some (by kernel_rfl))⟩
  f14 := ⟨Try.f48.name, by decide, Try.func48.trans (congrArg some (by kernel_rfl))⟩
  f15 := Try.func49.trans (congrArg some (by kernel_rfl))
  f20 := ⟨Try.f53.name, by decide, Try.func53.trans (congrArg some (by kernel_rfl))⟩
  f21 := ⟨Try.f54.name, by decide, Try.func54.trans (congrArg some (by kernel_rfl))⟩
  f22 := ⟨Try.f55.name, by decide, Try.func55.trans (congrArg some (by kernel_rfl))⟩
  f23 := ⟨Try.f56.name, by decide, Try.func56.trans (congrArg some (by kernel_rfl))⟩
  f24 := ⟨Try.f57.name, by decide, Try.func57.trans (congrArg some (by kernel_rfl))⟩
  f25 := ⟨Try.f58.name, by decide, Try.func58.trans (congrArg some (by kernel_rfl))⟩
  f26 := ⟨Try.f59.name, by decide, Try.func59.trans (congrArg some (by kernel_rfl))⟩
  f27 := ⟨Try.f60.name, by decide, Try.func60.trans (congrArg some (by kernel_rfl))⟩
  f28 := Try.func61.trans (congrArg some (by kernel_rfl))
  f29 := Try.func62.trans (congrArg some (by kernel_rfl))
  f46 := ⟨Try.f63.name, by decide, Try.func63.trans (congrArg some (by kernel_rfl))⟩
  f47 := Try.func64.trans (congrArg some (by kernel_rfl))
  f48 := Try.func65.trans (congrArg some (by kernel_rfl))
  f49 := ⟨Try.f66.name, by decide, Try.func66.trans (congrArg some (by kernel_rfl))⟩
  f50 := ⟨Try.f67.name, by decide, Try.func67.trans (congrArg some (by kernel_rfl))⟩
  f57 := ⟨Try.f68.name, by decide, Try.func68.trans (congrArg some (by kernel_rfl))⟩
  t0 := Try.underlying0
  a0 := Try.isAgg0
  z0 := Try.sizeOf0
  v0 := Try.zeroValue0
  t3 := Try.underlying3
  a3 := Try.isAgg3
  z3 := Try.sizeOf3
  v3 := Try.zeroValue3
  t4 := Try.underlying4
  a4 := Try.isAgg4
  z4 := Try.sizeOf4
  v4 := Try.zeroValue4
  t5 := Try.underlying5
  a5 := Try.isAgg5
  z5 := Try.sizeOf5
  v5 := Try.zeroValue5
  t9 := Try.underlying9
  a9 := Try.isAgg9
  z9 := Try.sizeOf9
  v9 := Try.zeroValue9
  t22 := Try.underlying26
  a22 := Try.isAgg26
  z22 := Try.sizeOf26
  v22 := Try.zeroValue26
  t25 := Try.underlying60
  a25 := Try.isAgg60
  z25 := Try.sizeOf60
  v25 := Try.zeroValue60
  t39 := Try.underlying78
  a39 := Try.isAgg78
  z39 := Try.sizeOf78
  v39 := Try.zeroValue78
  t45 := Try.underlying87
  a45 := Try.isAgg87
  z45 := Try.sizeOf87
  v45 := Try.zeroValue87
  t46 := Try.underlying88
  a46 := Try.isAgg88
  z46 := Try.sizeOf88
  v46 := Try.zeroValue88
  t50 := Try.underlying92
  a50 := Try.isAgg92
  z50 := Try.sizeOf92
  v50 := Try.zeroValue92
  t53 := Try.underlying95
  a53 := Try.isAgg95
  z53 := Try.sizeOf95
  v53 := Try.zeroValue95
  t55 := Try.underlying34
  a55 := Try.isAgg34
  z55 := Try.sizeOf34
  v55 := Try.zeroValue34
  t66 := Try.underlying97
  a66 := Try.isAgg97
  z66 := Try.sizeOf97
  v66 := Try.zeroValue97
  t70 := Try.underlying100
  a70 := Try.isAgg100
  z70 := Try.sizeOf100
  v70 := Try.zeroValue100
  t76 := Try.underlying102
  a76 := Try.isAgg102
  z76 := Try.sizeOf102
  v76 := Try.zeroValue102
  t77 := Try.underlying49
  a77 := Try.isAgg49
  z77 := Try.sizeOf49
  v77 := Try.zeroValue49 }
open Go.RowKit Go.Lib Go.Sort in
/-- **slices.SortFunc: WHAT THE ROW HOLDS, TO THE ELEMENT.** (LAID AT THE INSTANCE 'slices.SortFunc[[][2]int,[2]int]': no walk: one application.) -/
theorem Try.slices_SortFunc_eq {α : Type} [Inhabited α] (k : Nat) (aE : ∀ w, (isAgg 27).run Try.prog w = .ok true w) (zE : ∀ w, (Go.sizeOf 27).run Try.prog w = .ok k w) (enc : α → List Value) (hk : ∀ x, (enc x).length = k) (h1 : ∀ x, ∀ v ∈ enc x, v.oneCell' = true) (cf : α → α → Int) (hO : SWO (ltOf cf)) (g : Nat) (cb : Array Value) (blk off cap : Nat) (d : Array α) (w : World) (eg : ∀ args w, (callFunc g args).run Try.prog w = .ok (.enter g args) w) (hcmp : CmpLays Try.prog g cb enc k cf blk off d.size w) (hH : HoldsK enc k w blk off d) (hblk : blk < w.heap.size) (hsz : d.size < 4611686018427387904) :
    Calls Try.prog 30 #[.slice (some ⟨blk, off, none⟩) d.size cap, .func (.func g) #[] cb] w fun e w' =>
      e = .returned (.tuple #[]) ∧ ∃ n os, w' = sortWorldK enc k w blk off n (pdq (ltOf cf) d 0 d.size (Lib.bitLen d.size) true true) os := AnyQ.slices_SortFunc_eq Try.laysSlF06_f30 k aE zE enc hk h1 cf hO g cb blk off cap d w eg hcmp hH hblk hsz
open Go.RowKit Go.Lib Go.Sort in
/-- **slices.SortFunc, IN THE DOCUMENTATION's OWN TERMS: A PERMUTATION OF WHAT THE ROW HELD, SORTED BY 'cmp(a, b) < 0'.** Which of two equals comes first is left open ("The sort is not guaranteed to be stable"). (LAID AT THE INSTANCE 'slices.SortFunc[[][2]int,[2]int]': no walk: one application.) -/
theorem Try.slices_SortFunc {α : Type} [Inhabited α] (k : Nat) (aE : ∀ w, (isAgg 27).run Try.prog w = .ok true w) (zE : ∀ w, (Go.sizeOf 27).run Try.prog w = .ok k w) (enc : α → List Value) (hk : ∀ x, (enc x).length = k) (h1 : ∀ x, ∀ v ∈ enc x, v.oneCell' = true) (cf : α → α → Int) (hO : SWO (ltOf cf)) (g : Nat) (cb : Array Value) (blk off cap : Nat) (d : Array α) (w : World) (eg : ∀ args w, (callFunc g args).run Try.prog w = .ok (.enter g args) w) (hcmp : CmpLays Try.prog g cb enc k cf blk off d.size w) (hH : HoldsK enc k w blk off d) (hblk : blk < w.heap.size) (hsz : d.size < 4611686018427387904) :
    Calls Try.prog 30 #[.slice (some ⟨blk, off, none⟩) d.size cap, .func (.func g) #[] cb] w fun e w' =>
      e = .returned (.tuple #[]) ∧ ∃ d' n os, PermIn 0 d.size d d' ∧ SortedIn (ltOf cf) 0 d.size d' ∧ w' = sortWorldK enc k w blk off n d' os := AnyQ.slices_SortFunc Try.laysSlF06_f30 k aE zE enc hk h1 cf hO g cb blk off cap d w eg hcmp hH hblk hsz
open Go.RowKit Go.Lib Go.Sort in
theorem Try.insertionSortCmpFunc_none {α : Type} [Inhabited α] (p : Option Addr) (cap : Nat) (fv : Value) (w : World) :
    Calls Try.prog 53 #[.slice p 0 cap, .int .i64 0, .int .i64 0, fv] w fun e w' => e = .returned (.tuple #[]) ∧ w' = w := AnyF.insertionSortCmpFunc_none Try.laysSlF020_f53 p cap fv w
open Go.RowKit Go.Lib Go.Sort in
theorem Try.pdqsortCmpFunc_none {α : Type} [Inhabited α] (p : Option Addr) (cap : Nat) (lim : Int) (fv : Value) (w : World) :
    Calls Try.prog 48 #[.slice p 0 cap, .int .i64 0, .int .i64 0, .int .i64 lim, fv] w fun e w' => e = .returned (.tuple #[]) ∧ w' = w := AnyF.pdqsortCmpFunc_none Try.laysSlF014_f48 p cap lim fv w
open Go.RowKit Go.Lib Go.Sort in
/-- **slices.SortFunc AT NO ELEMENT, A nil SLICE TOO: nothing turns.** (LAID AT THE INSTANCE 'slices.SortFunc[[][2]int,[2]int]': no walk: one application.) -/
theorem Try.slices_SortFunc_none {α : Type} [Inhabited α] (p : Option Addr) (cap : Nat) (fv : Value) (w : World) :
    Calls Try.prog 30 #[.slice p 0 cap, fv] w fun e w' => e = .returned (.tuple #[]) ∧ w' = w := AnyF.slices_SortFunc_none Try.laysSlF06_f30 p cap fv w
open Go.RowKit Go.Lib Go.Sort in
/-- .. at structs. (LAID AT THE INSTANCE 'slices.SortFunc[[][2]int,[2]int]': no walk: one application.) -/
theorem Try.slices_SortFunc_total {α : Type} [Inhabited α] (k : Nat) (aE : ∀ w, (isAgg 27).run Try.prog w = .ok true w) (zE : ∀ w, (Go.sizeOf 27).run Try.prog w = .ok k w) (enc : α → List Value) (hk : ∀ x, (enc x).length = k) (h1 : ∀ x, ∀ v ∈ enc x, v.oneCell' = true) (cf : α → α → Int) (hO : SWO (ltOf cf)) (g : Nat) (cb : Array Value) (blk off cap : Nat) (d : Array α) (w : World) (eg : ∀ args w, (callFunc g args).run Try.prog w = .ok (.enter g args) w) (hcmp : CmpLays Try.prog g cb enc k cf blk off d.size w) (hH : HoldsK enc k w blk off d) (hblk : blk < w.heap.size) (hsz : d.size < 4611686018427387904) (hT : ∀ x y, (ltOf cf) x y = false → (ltOf cf) y x = false → x = y) :
    Calls Try.prog 30 #[.slice (some ⟨blk, off, none⟩) d.size cap, .func (.func g) #[] cb] w fun e w' =>
      e = .returned (.tuple #[]) ∧ ∃ n os, w' = sortWorldK enc k w blk off n (d.toList.mergeSort fun x y => !(ltOf cf) y x).toArray os := AnyQ.slices_SortFunc_total Try.laysSlF06_f30 k aE zE enc hk h1 cf hO g cb blk off cap d w eg hcmp hH hblk hsz hT
def Try.sortP_ren : Go.Shelf.Ren := ⟨fun | 6 => 30 | 15 => 49 | 14 => 48 | 28 => 61 | 29 => 62 | 20 => 53 | 21 => 54 | 22 => 55 | 23 => 56 | 24 => 57 | 25 => 58 | 26 => 59 | 27 => 60 | 46 => 63 | 47 => 64 | 48 => 65 | 49 => 66 | 50 => 67 | 57 => 68 | n => n, fun | 22 => 26 | 24 => 27 | 25 => 60 | 3 => 3 | 39 => 78 | 0 => 0 | 53 => 95 | 55 => 34 | 4 => 4 | 46 => 88 | 45 => 87 | 50 => 92 | 5 => 5 | 9 => 9 | 66 => 97 | 70 => 100 | 76 => 102 | 77 => 49 | n => n, fun | n => n⟩
theorem Try.sortP : Go.Proofs.SlLaysF0.n6 Try.prog Try.sortP_ren := {
  mixed := by kernel_rfl
  f6 := ⟨Try.f30.name, by decide, Try.func30.trans (congrArg some (by kernel_rfl))⟩
  f14 := ⟨Try.f48.name, by decide, Try.func48.trans (congrArg some (by kernel_rfl))⟩
  f15 := Try.func49.trans (congrArg some (by kernel_rfl))
  f20 := ⟨Try.f53.name, by decide, Try.func53.trans (congrArg some (by kernel_rfl))⟩
  f21 := ⟨Try.f54.name, by decide, Try.func54.trans (congrArg some (by kernel_rfl))⟩
  f22 := ⟨Try.f55.name, by decide, Try.func55.trans (congrArg some (by kernel_rfl))⟩
  f23 := ⟨Try.f56.name, by decide, Try.func56.trans (congrArg some (by kernel_rfl))⟩
  f24 := ⟨Try.f57.name, by decide, Try.func57.trans (congrArg some (by kernel_rfl))⟩
  f25 := ⟨Try.f58.name, by decide, Try.func58.trans (congrArg some (by kernel_rfl))⟩
  f26 := ⟨Try.f59.name, by decide, Try.func59.trans (congrArg some (by kernel_rfl))⟩
  f27 := ⟨Try.f60.name, by decide, Try.func60.trans (congrArg some (by kernel_rfl))⟩
  f28 := Try.func61.trans (congrArg some (by kernel_rfl))
  f29 := Try.func62.trans (congrArg some (by kernel_rfl))
  f46 := ⟨Try.f63.name, by decide, Try.func63.trans (congrArg some (by kernel_rfl))⟩
  f47 := Try.func64.trans (congrArg some (by kernel_rfl))
  f48 := Try.func65.trans (congrArg some (by kernel_rfl))
  f49 := ⟨Try.f66.name, by decide, Try.func66.trans (congrArg some (by kernel_rfl))⟩
  f50 := ⟨Try.f67.name, by decide, Try.func67.trans (congrArg some (by kernel_rfl))⟩
  f57 := ⟨Try.f68.name, by decide, Try.func68.trans (congrArg some (by kernel_rfl))⟩
  t0 := Try.underlying0
  a0 := Try.isAgg0
  z0 := Try.sizeOf0
  v0 := Try.zeroValue0
  t3 := Try.underlying3
  a3 := Try.isAgg3
  z3 := Try.sizeOf3
  v3 := Try.zeroValue3
  t4 := Try.underlying4
  a4 := Try.isAgg4
  z4 := Try.sizeOf4
  v4 := Try.zeroValue4
  t5 := Try.underlying5
  a5 := Try.isAgg5
  z5 := Try.sizeOf5
  v5 := Try.zeroValue5
  t9 := Try.underlying9
  a9 := Try.isAgg9
  z9 := Try.sizeOf9
  v9 := Try.zeroValue9
  t22 := Try.underlying26
  a22 := Try.isAgg26
  z22 := Try.sizeOf26
  v22 := Try.zeroValue26
  t25 := Try.underlying60
  a25 := Try.isAgg60
  z25 := Try.sizeOf60
  v25 := Try.zeroValue60
  t39 := Try.underlying78
  a39 := Try.isAgg78
  z39 := Try.sizeOf78
  v39 := Try.zeroValue78
  t45 := Try.underlying87
  a45 := Try.isAgg87
  z45 := Try.sizeOf87
  v45 := Try.zeroValue87
  t46 := Try.underlying88
  a46 := Try.isAgg88
  z46 := Try.sizeOf88
  v46 := Try.zeroValue88
  t50 := Try.underlying92
  a50 := Try.isAgg92
  z50 := Try.sizeOf92
  v50 := Try.zeroValue92
  t53 := Try.underlying95
  a53 := Try.isAgg95
  z53 := Try.sizeOf95
  v53 := Try.zeroValue95
  t55 := Try.underlying34
  a55 := Try.isAgg34
  z55 := Try.sizeOf34
  v55 := Try.zeroValue34
  t66 := Try.underlying97
  a66 := Try.isAgg97
  z66 := Try.sizeOf97
  v66 := Try.zeroValue97
  t70 := Try.underlying100
  a70 := Try.isAgg100
  z70 := Try.sizeOf100
  v70 := Try.zeroValue100
  t76 := Try.underlying102
  a76 := Try.isAgg102
  z76 := Try.sizeOf102
  v76 := Try.zeroValue102
  t77 := Try.underlying49
  a77 := Try.isAgg49
  z77 := Try.sizeOf49
  v77 := Try.zeroValue49 }
end Go.Proofs
