/- The parser in memory, and its smallest readers: fail, is, take (chapter 07). -/
import Derived.Test.YtcnihmlmaigkdaaGreatDoorMPaSpec
import Derived.Test.YtcnihmlmaigkdaaGreatDoorMLxSpec
import Derived.Test.YtcnihmlmaigkdaaGreatDoorMCfD
import Derived.Test.YtcnihmlmaigkdaaGreatDoorProg
import Derived.Test.YtcnihmlmaigkdaaGreatDoorMMem
import Derived.BigGuardPart
import Derived.WalkLawsBesides
import Derived.WalkSpells
namespace Go.Proofs.YtcnihmlmaigkdaaGreatDoor
open Go.RowKit Go.Lib
set_option linter.unusedVariables false

/-- A fault as a value. -/
def fltP (f : Flt) : Array Value := #[.int .i64 (f.1 : Int), .int .i64 (f.2.1 : Int), .int .i64 (f.2.2 : Int)]
def prC (A : Option Addr) (n cap : Nat) (c : Cfg) (k : Nat) : Array Value := #[.slice A n cap, .int .u64 (c.frame : Int), .slice c.parts.a c.parts.l.length c.parts.c, .slice c.wins.a c.wins.l.length c.wins.c, .slice c.regs.a c.regs.l.length c.regs.c, .slice c.ports.a c.ports.l.length c.ports.c, .slice c.chans.a c.chans.l.length c.chans.c, .int .i64 (k : Int)]
/-- The parser at block X: the tokens that are left (below X), the configuration's cells, the links. -/
def PrAt (X : Nat) (l : List Token) (c : Cfg) (k : Nat) (w : World) : Prop :=
  ∃ A cap, Blk w X 131 (prC A l.length cap c k) ∧ l.length ≤ cap ∧ cap ≤ 9223372036854775807 ∧ Reads w X 5 A l.length (tokCells l) ∧ EndL l
/-- Nothing but block X, and new blocks. -/
def OnlyX (X : Nat) : World → World → Prop := But (fun k => k = X)
section
variable {X : Nat} {a b c : World}
theorem OnlyX.refl (X : Nat) (w : World) : OnlyX X w w := But.refl _ w
theorem OnlyX.set (h : OnlyX X a b) (i : Nat) (u : Value) : OnlyX X a (b.setCell ⟨X, i, none⟩ u) := But.setCell (M := fun k => k = X) (p := ⟨X, i, none⟩) h (.inl rfl) u
theorem OnlyX.setNew (h : OnlyX X a b) {p : Addr} (hp : a.heap.size ≤ p.block) (u : Value) : OnlyX X a (b.setCell p u) := But.setCell (M := fun k => k = X) h (.inr hp) u
theorem OnlyX.alloc (h : OnlyX X a b) (o : Obj) : OnlyX X a (b.alloc o) := But.alloc h o
theorem OnlyX.drew (h : OnlyX X a b) : OnlyX X a b.drew := But.drew h
theorem OnlyX.trans (h : OnlyX X a b) (k : OnlyX X b c) : OnlyX X a c := But.trans h k
theorem OnlyX.below (h : OnlyX X a b) (k : Below b.heap.size b c) : OnlyX X a c := But.trans h (But.of_below k)
theorem OnlyX.low (h : OnlyX X a b) (hX : X < a.heap.size) : Below X a b := But.below h (by omega) (fun k hk e => by omega)
theorem OnlyX.blk {g : Nat} {t : TypeId} {cs : Array Value} (h : OnlyX X a b) (hb : Blk a g t cs) (hn : g ≠ X) : Blk b g t cs := But.blk h hb hn
end
/-- Behind a reader. -/
def RdV {α : Type} (m : PM α) (val : α → Value) (X : Nat) (l : List Token) (c : Cfg) (k : Nat) (w : World) (e : Ending) (w' : World) : Prop :=
  OnlyX X w w' ∧ ((∃ a r, m l = .ok (a, r) ∧ e = .returned (val a) ∧ PrAt X r c k w') ∨ ∃ f : Flt, m l = .error f ∧ e = .panicked [{ v := .iface 43 (.agg (fltP f)), recovered := false }])
section
variable {X : Nat} {l : List Token} {c : Cfg} {k : Nat} {w w' : World}
theorem PrAt.lt (h : PrAt X l c k w) : X < w.heap.size := by obtain ⟨A, cap, h1, _⟩ := h; exact h1.lt
theorem PrAt.below (h : PrAt X l c k w) (hb : Below w.heap.size w w') : PrAt X l c k w' := by
  have hx := h.lt
  obtain ⟨A, cap, h1, h2, h3, h4, h5⟩ := h
  exact ⟨A, cap, h1.below hb h1.lt, h2, h3, h4.below (hb.mono (by omega)), h5⟩
theorem PrAt.alloc (h : PrAt X l c k w) (o : Obj) : PrAt X l c k (w.alloc o) := h.below ((Below.refl _ w).alloc (Nat.le_refl _) o)
theorem PrAt.drew (h : PrAt X l c k w) : PrAt X l c k w.drew := h.below (Below.drew (Below.refl _ w))
/-- The token at the head. -/
theorem PrAt.head {t : Token} {r : List Token} (h : PrAt X (t :: r) c k w) : ∃ b o cap, b < X ∧ r.length + 1 ≤ cap ∧ cap ≤ 9223372036854775807 ∧ Blk w X 131 (prC (some ⟨b, o, none⟩) (r.length + 1) cap c k) ∧
    w.cell? ⟨b, o, none⟩ = some (.int .i64 (t.kind : Int)) ∧ w.cell? ⟨b, o + 1, none⟩ = some (.string ⟨t.text.toArray⟩) ∧ w.cell? ⟨b, o + 2, none⟩ = some (.int .u64 (t.val : Int)) ∧ w.cell? ⟨b, o + 3, none⟩ = some (.int .i64 (t.line : Int)) ∧ w.cell? ⟨b, o + 4, none⟩ = some (.int .i64 (t.col : Int)) ∧
    Reads w X 5 (some ⟨b, o, none⟩) (r.length + 1) (tokCells (t :: r)) ∧ EndL (t :: r) := by
  obtain ⟨A, cap, h1, h2, h3, h4, h5⟩ := h
  obtain ⟨ad, rfl, hb, hc⟩ := h4.2 (by simp)
  have hcell : ∀ j, (hj : j < 5) → w.cell? (ad.add j) = (tokV t)[j]? := by
    intro j hj
    have e : (tokCells (t :: r))[j]? = (tokV t)[j]? := by
      show ((tokV t).toList ++ tokCells r)[j]? = _
      rw [List.getElem?_append_left (by show j < 5; exact hj), Array.getElem?_toList]
    have hs : (tokV t)[j]? = some ((tokV t)[j]'(by show j < 5; exact hj)) := Array.getElem?_eq_getElem _
    rw [hs]
    exact hc j _ (e.trans hs)
  have h00 := hcell 0 (by omega)
  have hz := addr_of_cell (w := w) (a := ad.add 0) h00
  obtain ⟨b, o, p⟩ := ad
  have hp : p = none := by
    have := congrArg Addr.spot hz
    simpa [Addr.add] using this
  subst hp
  have hcell2 : ∀ j, (hj : j < 5) → w.cell? ⟨b, o + j, none⟩ = (tokV t)[j]? := fun j hj => by rw [← addr_plain]; exact hcell j hj
  exact ⟨b, o, cap, hb, h2, h3, h1, hcell2 0 (by omega), hcell2 1 (by omega), hcell2 2 (by omega), hcell2 3 (by omega), hcell2 4 (by omega), h4, h5⟩
/-- A token is read off. -/
theorem PrAt.off {t : Token} {r : List Token} {b o cap : Nat} (hX : Blk w X 131 (prC (some ⟨b, o, none⟩) (r.length + 1) cap c k)) (hr : Reads w X 5 (some ⟨b, o, none⟩) (r.length + 1) (tokCells (t :: r))) (he : EndL (t :: r)) (hk : t.kind ≠ 0) (h2 : r.length + 1 ≤ cap) (h3 : cap ≤ 9223372036854775807) :
    PrAt X r c k (w.setCell ⟨X, 0, none⟩ (.slice (some ⟨b, o + 5, none⟩) r.length (cap - 1))) := by
  refine ⟨some ⟨b, o + 5, none⟩, cap - 1, hX.set_ 0 _, by omega, by omega, ?_, he.cons hk⟩
  have hc := hr.cut (k := 1) (cap := cap) (by omega) h2
  have hl := (he.cons hk).len
  rw [if_neg (by omega)] at hc
  have e : (tokCells (t :: r)).drop (1 * 5) = tokCells r := rfl
  rw [e] at hc
  have e2 : (Option.map (fun x : Addr => x.add (1 * 5)) (some ⟨b, o, none⟩)) = some ⟨b, o + 5, none⟩ := by rw [Option.map_some, addr_plain]
  rw [e2] at hc
  exact (show Reads w X 5 (some ⟨b, o + 5, none⟩) r.length (tokCells r) from hc).setCell (Nat.le_refl _) _
end
end Go.Proofs.YtcnihmlmaigkdaaGreatDoor
