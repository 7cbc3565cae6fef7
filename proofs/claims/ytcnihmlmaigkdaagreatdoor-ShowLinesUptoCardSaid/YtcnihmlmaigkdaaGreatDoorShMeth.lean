/- show: the writer's methods (chapter 08). -/
import Derived.Test.YtcnihmlmaigkdaaGreatDoorMShWr
import Derived.Test.YtcnihmlmaigkdaaGreatDoorSwRef1
import Derived.Test.YtcnihmlmaigkdaaGreatDoorMNuParse
namespace Go.Proofs.YtcnihmlmaigkdaaGreatDoor
open Go.RowKit Go.Lib
set_option linter.unusedVariables false

/-- Behind a method of the writer. -/
def MethW (B g : Nat) (L : List ByteArray) (s : ByteArray) (w : World) (e : Ending) (w' : World) : Prop :=
  e = .returned (.tuple #[]) ∧ WrAt B w'.heap.size g (L ++ [s]) w' ∧ Below B w w'
/-- In a method of the writer: nothing of the writer's has turned. -/
def Mid (B g : Nat) (L : List ByteArray) (w W : World) : Prop := WrAt B w.heap.size g L W ∧ Below B w W
section
variable {B g : Nat} {L : List ByteArray} {w W W' : World}
theorem WrAt.le (h : WrAt B w.heap.size g L W) : B ≤ W.heap.size := by obtain ⟨v, h1, h2, h3, h4, h5, h6⟩ := h; omega
theorem Mid.start (h : WrAt B w.heap.size g L w) : Mid B g L w w := ⟨h, Below.refl _ _⟩
theorem Mid.below (h : Mid B g L w W) (hb : Below W.heap.size W W') : Mid B g L w W' := ⟨h.1.below hb, h.2.trans (hb.mono h.1.le)⟩
theorem Mid.alloc (h : Mid B g L w W) (o : Obj) : Mid B g L w (W.alloc o) := h.below ((Below.refl _ W).alloc (Nat.le_refl _) o)
theorem Mid.drew (h : Mid B g L w W) : Mid B g L w W.drew := h.below (Below.drew (Below.refl _ W))
theorem Mid.wrote {s : ByteArray} {e : Ending} (h : Mid B g L w W) (hw : Wrote B w.heap.size g L s W e W') : MethW B g L s w e W' :=
  ⟨hw.1, hw.2.1, h.2.trans (hw.2.2.below h.1.le (fun k hk => by omega))⟩
end
theorem num_size {x : Nat} (hx : x < 18446744073709551616) : (numB x).length ≤ 20 := digL_length 10 19 (by omega) x (by omega)
theorem hex_size {x : Nat} (hx : x < 18446744073709551616) : (hexL x).length ≤ 18 := by
  have := digL_length 16 15 (by omega) x (by omega)
  unfold hexL
  simp only [List.length_cons]
  omega
theorem fld_cells (fs : List ByteArray) (W : World) (t : TypeId) : ∀ j x, fs[j]? = some x → (W.alloc (.cells (strsV fs).toArray t)).cell? ⟨W.heap.size, j, none⟩ = some (.string x) := by
  intro j x hx
  rw [(Blk.new W t (strsV fs).toArray).cell j]
  simp [strsV, hx]
/-- The line of a method, its fields in a new block. -/
theorem line_new {B g : Nat} {L : List ByteArray} {w W : World} (h : Mid B g L w W) (hL : L.length ≤ 1000000) (head : ByteArray) (fs : List ByteArray) (hn : fs.length ≤ 1000)
    (hj : (Lib.join (fs.map (·.data.toList)) [59, 32]).length ≤ 1000000) (hh : head.size ≤ 1000000) :
    Calls Tryz.prog 118 #[.pointer (some ⟨g, 0, none⟩), .string head, .slice (some ⟨W.heap.size, 0, none⟩) fs.length fs.length] (W.alloc (.cells (strsV fs).toArray 9))
      (Wrote B w.heap.size g L (ofL (lnB head.data.toList (fs.map (·.data.toList)))) (W.alloc (.cells (strsV fs).toArray 9))) :=
  line_calls B w.heap.size g L head fs W.heap.size fs.length _ (h.alloc _).1 hL (fld_cells fs W 9) (by simp) (Nat.le_refl _) (by omega) hj hh
theorem joinTail_len (sep : List UInt8) : ∀ l : List (List UInt8), (joinTail sep l).length = (l.map List.length).sum + sep.length * l.length
  | [] => by simp [joinTail]
  | y :: l => by
    have h := joinTail_len sep l
    have e : joinTail sep (y :: l) = sep ++ y ++ joinTail sep l := by simp [joinTail]
    rw [e, List.length_append, List.length_append, h]
    simp only [List.map_cons, List.sum_cons, List.length_cons, Nat.mul_succ]
    omega
theorem join_len (l : List (List UInt8)) : (Lib.join l [59, 32]).length ≤ (l.map List.length).sum + 2 * l.length := by
  cases l with
  | nil => simp [Lib.join]
  | cons x l =>
    rw [join_cons, List.length_append, joinTail_len]
    simp only [List.map_cons, List.sum_cons, List.length_cons, List.length_nil]
    omega
theorem blk_wrote {B C g b : Nat} {L : List ByteArray} {s : ByteArray} {W W' : World} {e : Ending} {t : TypeId} {cs : Array Value} (h : Blk W b t cs) (hw : Wrote B C g L s W e W') (hb : C ≤ b) : Blk W' b t cs := hw.2.2.blk h (fun hm => by omega)

theorem quote_size (s : ByteArray) : (quoteS s).size ≤ 2 * s.size + 2 := by
  cases hv : validS s
  · rw [quoteS_not s hv]; exact Nat.zero_le _
  · rw [quoteS_yes s hv, show (⟨(34 :: (quoteL s.data.toList ++ [34])).toArray⟩ : ByteArray).size = (34 :: (quoteL s.data.toList ++ [34])).length from ofL_size _]
    have := quoteL_length s.data.toList
    rw [list_size] at this
    simp only [List.length_cons, List.length_append, List.length_nil]
    omega
theorem own_new (W : World) (base : Nat) (T : TypeId) (cs : Array Value) (hb : base ≤ W.heap.size) (hm : cs.size ≤ maxLen) : (W.alloc (.cells cs T)).ownsRow base T 1 (.slice (some ⟨W.heap.size, 0, none⟩) cs.size cs.size) cs.size cs.toList := by
  refine ⟨by simp, .inr ⟨W.heap.size, cs.size, cs, rfl, hb, heap_alloc_new W _, Nat.le_refl _, hm, by simp, ?_⟩⟩
  rw [List.take_of_length_le (by simp)]
def partCs (p : PartR) : Array Value := #[.int .u16 (p.id : Int), .string p.name, .int .u64 (p.per : Int), .int .u64 (p.dur : Int)]
def winCs (x : WinR) : Array Value := #[.int .u64 (x.st : Int), .int .u64 (x.len : Int), .int .u16 (x.part : Int)]
def regCs (r : RegR) : Array Value := #[.int .u64 (r.base : Int), .int .u64 (r.size : Int), .int .u16 (r.part : Int), .int .u8 (r.rights : Int), .bool r.shared]
def portCs (p : PortR) : Array Value := #[.int .u16 (p.id : Int), .int .u16 (p.part : Int), .string p.name, .bool p.out, .bool p.que, .int .u32 (p.size : Int)]
def chanCs (c : ChanR) : Array Value := #[.int .u16 (c.id : Int), .int .u16 (c.src : Int), .slice c.at_ c.dests.length c.cap]
end Go.Proofs.YtcnihmlmaigkdaaGreatDoor
