/- The walk of the cursor's next, at one method (chapter 06). -/
import Derived.Test.YtjkglbgenbnjoaaGreatDoorLxSign
import Derived.BigRegion
import Derived.Deep.MidRow
namespace Go.Proofs.YtjkglbgenbnjoaaGreatDoor
open Go.RowKit Go.Lib

def faultC (code line col : Nat) : Array Value := #[.int .i64 (code : Int), .int .i64 (line : Int), .int .i64 (col : Int)]
theorem fault_one (c l k : Nat) : (faultC c l k).all (·.oneCell') = true := by rw [← Array.all_toList]; rfl
theorem fault_size (n : Nat) (h : n = 3) : (Tryz.prog.info? 27).map (·.size) = some n := by rw [h]; kernel_rfl
/-- Behind next: the token with its place, or the fault. -/
def NextT (X : Nat) (p : Nat × Nat) (s : ByteArray) (k : Nat) (P : Nat × Nat) (T : Tk) (w : World) (e : Ending) (w' : World) : Prop :=
  match T with
  | .tok kind text v stop => e = .returned (.tuple #[.agg (tokC kind ⟨text.toArray⟩ v P.1 P.2), .agg (faultC 0 0 0)]) ∧ Cur w' X (placeFrom p (piece s k stop)) s stop ∧ Only X w w'
  | .bad code => e = .returned (.tuple #[.agg (tokC 0 ⟨#[]⟩ 0 0 0), .agg (faultC code P.1 P.2)]) ∧ Only X w w'
theorem place_load {w : World} {X : Nat} {p : Nat × Nat} {s : ByteArray} {k : Nat} (h : Cur w X p s k) :
    (loadVar 53 ⟨X, 0, none⟩).run Tryz.prog w = .ok (.agg #[.int .i64 (p.1 : Int), .int .i64 (p.2 : Int)]) w :=
  run_loadVar_mid w X 0 53 [.int .i64 (p.1 : Int), .int .i64 (p.2 : Int)] _
    (fun j v hv => by
      obtain ⟨c0, c1, _, _⟩ := h.cells
      match j with
      | 0 => simp at hv; subst hv; exact c0
      | 1 => simp at hv; subst hv; exact c1
      | j + 2 => simp at hv)
    Tryz.underlying53 rfl (by kernel_rfl)

theorem place_range {w : World} {X : Nat} {p : Nat × Nat} {s : ByteArray} {k : Nat} (h : Cur w X p s k) : w.rangeAt X 0 [.int .i64 (p.1 : Int), .int .i64 (p.2 : Int)] := fun j v hv => by
  obtain ⟨c0, c1, _, _⟩ := h.cells
  match j with
  | 0 => simp at hv; subst hv; exact c0
  | 1 => simp at hv; subst hv; exact c1
  | j + 2 => simp at hv
def zTok : Array Value := tokC 0 ⟨#[]⟩ 0 0 0
def plA (P : Nat × Nat) : Array Value := #[.int .i64 (P.1 : Int), .int .i64 (P.2 : Int)]
/-- What stands while next runs: the two cells of its results, B and B + 1; the kept place, g. -/
def Held (X B : Nat) (w W : World) : Prop := Blk W B 56 zTok ∧ Blk W (B + 1) 27 (faultC 0 0 0) ∧ Only X w W
theorem Held.next {X B : Nat} {w W W' : World} (h : Held X B w W) (hX : X < B) (hO : Only X W W') : Held X B w W' := ⟨hO.kept h.1 (by omega), hO.kept h.2.1 (by omega), h.2.2.trans hO⟩
theorem Cur.put {w : World} {X g : Nat} {p : Nat × Nat} {s : ByteArray} {k : Nat} (h : Cur w X p s k) (hg : X < g) (i : Nat) (u : Value) : Cur (w.setCell ⟨g, i, none⟩ u) X p s k := cur_set h (Nat.ne_of_lt hg) i u
theorem Held.put {X B g : Nat} {w W : World} (h : Held X B w W) (hB : B = w.heap.size) (hg : B + 1 < g) (i : Nat) (u : Value) : Held X B w (W.setCell ⟨g, i, none⟩ u) :=
  ⟨h.1.far (by show B ≠ g; omega) u, h.2.1.far (by show B + 1 ≠ g; omega) u, only_setCell h.2.2 (.inr (by show _ ≤ g; omega)) u⟩
theorem Held.drew {X B : Nat} {w W : World} (h : Held X B w W) : Held X B w W.drew := ⟨h.1.drew, h.2.1.drew, h.2.2.drew⟩
theorem Held.lt {X B : Nat} {w W : World} (h : Held X B w W) : B + 1 < W.heap.size := h.2.1.lt
theorem Held.init (X : Nat) (w : World) : Held X w.heap.size w ((w.alloc (.cells (tokC 0 ⟨#[]⟩ 0 0 0) 56)).alloc (.cells (faultC 0 0 0) 27)) :=
  ⟨(Blk.new w _ _).alloc _, by have := Blk.new (w.alloc (.cells (tokC 0 ⟨#[]⟩ 0 0 0) 56)) 27 (faultC 0 0 0); simpa using this, ((Only.refl X w).alloc _).alloc _⟩

end Go.Proofs.YtjkglbgenbnjoaaGreatDoor
