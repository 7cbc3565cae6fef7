/- The parser in memory, and its smallest readers: fail, is, take (chapter 07). The reference's state in memory (chapter 07). The reference's smallest readers: fail, peek, take, is, want, number, field, choice, name, rights (chapter 07). The reference's readers: want, number, name, field, choice (chapter 07). The reference's readers: choice, Rights, rights, section, id, top (chapter 07). The reference's readers: rights, choice (chapter 07). -/
import Derived.Test.YtdpieljopelkhaaGreatDoorMShSpec
import Derived.Test.YtdpieljopelkhaaGreatDoorMLxSpec
import Derived.Test.YtdpieljopelkhaaGreatDoorMCfD
import Derived.Test.YtdpieljopelkhaaGreatDoorProg
import Derived.Test.YtdpieljopelkhaaGreatDoorMMem
import Derived.BigGuardPart
import Derived.WalkLawsBesides
import Derived.WalkSpells
import Derived.RegionTactic
import Derived.ChangeAlike
namespace Go.Proofs.YtdpieljopelkhaaGreatDoor
open Go.RowKit Go.Lib
set_option linter.unusedVariables false

/-- A fault as a value. -/
def fltP (f : Flt) : Array Value := #[.int .i64 (f.1 : Int), .int .i64 (f.2.1 : Int), .int .i64 (f.2.2 : Int)]
def prC (A : Option Addr) (n cap : Nat) (c : Cfg) (k : Nat) : Array Value := #[.slice A n cap, .int .u64 (c.frame : Int), .slice c.parts.a c.parts.l.length c.parts.c, .slice c.wins.a c.wins.l.length c.wins.c, .slice c.regs.a c.regs.l.length c.regs.c, .slice c.ports.a c.ports.l.length c.ports.c, .slice c.chans.a c.chans.l.length c.chans.c, .int .i64 (k : Int)]
/-- The parser at block X: the tokens that are left (below X), the configuration's cells, the links. -/
def PrAt (X : Nat) (l : List Token) (c : Cfg) (k : Nat) (w : World) : Prop :=
  ∃ A cap, Blk w X 121 (prC A l.length cap c k) ∧ l.length ≤ cap ∧ cap ≤ 9223372036854775807 ∧ Reads w X 5 A l.length (tokCells l) ∧ EndL l
/-- Nothing but block X, and new blocks. -/
def OnlyX (X : Nat) : World → World → Prop := But (fun k => k = X)
section
variable {X : Nat} {a b c : World}
theorem OnlyX.refl (X : Nat) (w : World) : OnlyX X w w := But.refl _ w
theorem OnlyX.set (h : OnlyX X a b) (i : Nat) (u : Value) : OnlyX X a (b.setCell ⟨X, i, none⟩ u) := But.setCell (M := fun k => k = X) (p := ⟨X, i, none⟩) h (.inl rfl) u
theorem OnlyX.setNew (h : OnlyX X a b) {p : Addr} (hp : a.heap.size ≤ p.block) (u : Value) : OnlyX X a (b.setCell p u) := But.setCell (M := fun k => k = X) h (.inr hp) u
theorem OnlyX.alloc (h : OnlyX X a b) (o : Obj) : OnlyX X a (b.alloc o) := But.alloc h o
theorem OnlyX.drew (h : OnlyX X a b) : OnlyX X a b.drew := But.drew h
theorem OnlyX.trans (h : OnlyX X a b) (k : OnlyX X b c) : OnlyX X a c := But.trans h k
theorem OnlyX.below (h : OnlyX X a b) (k : Below b.heap.size b c) : OnlyX X a c := But.trans h (But.of_below k)
theorem OnlyX.low (h : OnlyX X a b) (hX : X < a.heap.size) : Below X a b := But.below h (by omega) (fun k hk e => by omega)
theorem OnlyX.blk {g : Nat} {t : TypeId} {cs : Array Value} (h : OnlyX X a b) (hb : Blk a g t cs) (hn : g ≠ X) : Blk b g t cs := But.blk h hb hn
end
/-- Behind a reader. -/
def RdV {α : Type} (m : PM α) (val : α → Value) (X : Nat) (l : List Token) (c : Cfg) (k : Nat) (w : World) (e : Ending) (w' : World) : Prop :=
  OnlyX X w w' ∧ ((∃ a r, m l = .ok (a, r) ∧ e = .returned (val a) ∧ PrAt X r c k w') ∨ ∃ f : Flt, m l = .error f ∧ e = .panicked [{ v := .iface 33 (.agg (fltP f)), recovered := false }])
section
variable {X : Nat} {l : List Token} {c : Cfg} {k : Nat} {w w' : World}
theorem PrAt.lt (h : PrAt X l c k w) : X < w.heap.size := by obtain ⟨A, cap, h1, _⟩ := h; exact h1.lt
theorem PrAt.below (h : PrAt X l c k w) (hb : Below w.heap.size w w') : PrAt X l c k w' := by
  have hx := h.lt
  obtain ⟨A, cap, h1, h2, h3, h4, h5⟩ := h
  exact ⟨A, cap, h1.below hb h1.lt, h2, h3, h4.below (hb.mono (by omega)), h5⟩
theorem PrAt.alloc (h : PrAt X l c k w) (o : Obj) : PrAt X l c k (w.alloc o) := h.below ((Below.refl _ w).alloc (Nat.le_refl _) o)
theorem PrAt.drew (h : PrAt X l c k w) : PrAt X l c k w.drew := h.below (Below.drew (Below.refl _ w))
/-- The token at the head. -/
theorem PrAt.head {t : Token} {r : List Token} (h : PrAt X (t :: r) c k w) : ∃ b o cap, b < X ∧ r.length + 1 ≤ cap ∧ cap ≤ 9223372036854775807 ∧ Blk w X 121 (prC (some ⟨b, o, none⟩) (r.length + 1) cap c k) ∧
    w.cell? ⟨b, o, none⟩ = some (.int .i64 (t.kind : Int)) ∧ w.cell? ⟨b, o + 1, none⟩ = some (.string ⟨t.text.toArray⟩) ∧ w.cell? ⟨b, o + 2, none⟩ = some (.int .u64 (t.val : Int)) ∧ w.cell? ⟨b, o + 3, none⟩ = some (.int .i64 (t.line : Int)) ∧ w.cell? ⟨b, o + 4, none⟩ = some (.int .i64 (t.col : Int)) ∧
    Reads w X 5 (some ⟨b, o, none⟩) (r.length + 1) (tokCells (t :: r)) ∧ EndL (t :: r) := by
  obtain ⟨A, cap, h1, h2, h3, h4, h5⟩ := h
  obtain ⟨ad, rfl, hb, hc⟩ := h4.2 (by simp)
  have hcell : ∀ j, (hj : j < 5) → w.cell? (ad.add j) = (tokV t)[j]? := by
    intro j hj
    have e : (tokCells (t :: r))[j]? = (tokV t)[j]? := by
      show ((tokV t).toList ++ tokCells r)[j]? = _
      rw [List.getElem?_append_left (by show j < 5; exact hj), Array.getElem?_toList]
    have hs : (tokV t)[j]? = some ((tokV t)[j]'(by show j < 5; exact hj)) := Array.getElem?_eq_getElem _
    rw [hs]
    exact hc j _ (e.trans hs)
  have h00 := hcell 0 (by omega)
  have hz := addr_of_cell (w := w) (a := ad.add 0) h00
  obtain ⟨b, o, p⟩ := ad
  have hp : p = none := by
    have := congrArg Addr.spot hz
    simpa [Addr.add] using this
  subst hp
  have hcell2 : ∀ j, (hj : j < 5) → w.cell? ⟨b, o + j, none⟩ = (tokV t)[j]? := fun j hj => by rw [← addr_plain]; exact hcell j hj
  exact ⟨b, o, cap, hb, h2, h3, h1, hcell2 0 (by omega), hcell2 1 (by omega), hcell2 2 (by omega), hcell2 3 (by omega), hcell2 4 (by omega), h4, h5⟩
/-- A token is read off. -/
theorem PrAt.off {t : Token} {r : List Token} {b o cap : Nat} (hX : Blk w X 121 (prC (some ⟨b, o, none⟩) (r.length + 1) cap c k)) (hr : Reads w X 5 (some ⟨b, o, none⟩) (r.length + 1) (tokCells (t :: r))) (he : EndL (t :: r)) (hk : t.kind ≠ 0) (h2 : r.length + 1 ≤ cap) (h3 : cap ≤ 9223372036854775807) :
    PrAt X r c k (w.setCell ⟨X, 0, none⟩ (.slice (some ⟨b, o + 5, none⟩) r.length (cap - 1))) := by
  refine ⟨some ⟨b, o + 5, none⟩, cap - 1, hX.set_ 0 _, by omega, by omega, ?_, he.cons hk⟩
  have hc := hr.cut (k := 1) (cap := cap) (by omega) h2
  have hl := (he.cons hk).len
  rw [if_neg (by omega)] at hc
  have e : (tokCells (t :: r)).drop (1 * 5) = tokCells r := rfl
  rw [e] at hc
  have e2 : (Option.map (fun x : Addr => x.add (1 * 5)) (some ⟨b, o, none⟩)) = some ⟨b, o + 5, none⟩ := by rw [Option.map_some, addr_plain]
  rw [e2] at hc
  exact (show Reads w X 5 (some ⟨b, o + 5, none⟩) r.length (tokCells r) from hc).setCell (Nat.le_refl _) _
end
end Go.Proofs.YtdpieljopelkhaaGreatDoor
namespace Go.Proofs.YtdpieljopelkhaaGreatDoor
open Go.RowKit Go.Lib
set_option linter.unusedVariables false

def stC (A : Option Addr) (n cap at_ code : Nat) (bk : Nat) (bt : ByteArray) (bv bl bc : Nat) (c : Cfg) : Array Value := #[.slice A n cap, .int .i64 (at_ : Int), .int .i64 (code : Int), .int .i64 (bk : Int), .string bt, .int .u64 (bv : Int), .int .i64 (bl : Int), .int .i64 (bc : Int), .int .u64 (c.frame : Int), .slice c.parts.a c.parts.l.length c.parts.c, .slice c.wins.a c.wins.l.length c.wins.c, .slice c.regs.a c.regs.l.length c.regs.c, .slice c.ports.a c.ports.l.length c.ports.c, .slice c.chans.a c.chans.l.length c.chans.c]
/-- The first fault, as the state's code and place say it. -/
def ErrIs (e : Option Flt) (code bl bc : Nat) : Prop := match e with
  | none => code = 0
  | some f => code = f.1 ∧ 0 < code ∧ bl = f.2.1 ∧ bc = f.2.2
/-- The tokens in memory, with an offset. -/
def ToksAt (X : Nat) (A : Option Addr) (n cap at_ : Nat) (l : List Token) (w : World) : Prop :=
  ∃ T : List Token, T.length = n ∧ at_ < n ∧ n ≤ cap ∧ cap ≤ 9223372036854775807 ∧ Reads w X 5 A n (tokCells T) ∧ T.drop at_ = l ∧ EndL l
/-- The state at block X. -/
def StAt (X : Nat) (s : RS) (c : Cfg) (w : World) : Prop :=
  ∃ A n cap at_ code bk bt bv bl bc, Blk w X 65 (stC A n cap at_ code bk bt bv bl bc c) ∧ ToksAt X A n cap at_ s.l w ∧ ErrIs s.err code bl bc
/-- Behind a reader of the reference. -/
def RfV {α : Type} (m : PM α) (val : α → Value) (P : α → Prop) (X : Nat) (s : RS) (c : Cfg) (w : World) (e : Ending) (w' : World) : Prop :=
  OnlyX X w w' ∧ ∃ a s', e = .returned (val a) ∧ P a ∧ Lf m s a s' ∧ StAt X s' c w'
section
variable {X n cap at_ : Nat} {A : Option Addr} {l : List Token} {s : RS} {c : Cfg} {w w' : World}
theorem ToksAt.below (h : ToksAt X A n cap at_ l w) (hb : Below X w w') : ToksAt X A n cap at_ l w' := by
  obtain ⟨T, h1, h2, h3, h4, h5, h6, h7⟩ := h
  exact ⟨T, h1, h2, h3, h4, h5.below hb, h6, h7⟩
theorem ToksAt.setX (h : ToksAt X A n cap at_ l w) {p : Addr} (hp : p.block = X) (u : Value) : ToksAt X A n cap at_ l (w.setCell p u) :=
  h.below ((Below.refl X w).setCell (by omega) u)
theorem StAt.lt (h : StAt X s c w) : X < w.heap.size := by obtain ⟨_, _, _, _, _, _, _, _, _, _, h1, _⟩ := h; exact h1.lt
theorem StAt.below (h : StAt X s c w) (hb : Below w.heap.size w w') : StAt X s c w' := by
  have hx := h.lt
  obtain ⟨A, n, cap, at_, code, bk, bt, bv, bl, bc, h1, h2, h3⟩ := h
  exact ⟨A, n, cap, at_, code, bk, bt, bv, bl, bc, h1.below hb h1.lt, h2.below (hb.mono (by omega)), h3⟩
theorem StAt.alloc (h : StAt X s c w) (o : Obj) : StAt X s c (w.alloc o) := h.below ((Below.refl _ w).alloc (Nat.le_refl _) o)
theorem StAt.drew (h : StAt X s c w) : StAt X s c w.drew := h.below (Below.drew (Below.refl _ w))
theorem StAt.far (h : StAt X s c w) {p : Addr} (hp : X < p.block) (u : Value) : StAt X s c (w.setCell p u) := by
  obtain ⟨A, n, cap, at_, code, bk, bt, bv, bl, bc, h1, h2, h3⟩ := h
  exact ⟨A, n, cap, at_, code, bk, bt, bv, bl, bc, h1.far (by omega) u, h2.below ((Below.refl X w).setCell (by omega) u), h3⟩
theorem StAt.grown (h : StAt X s c w) {row : Option Nat} (hg : w.grownBy w' row) (hr : ∀ r, row = some r → X < r) : StAt X s c w' := by
  have hX := h.lt
  obtain ⟨A, n, cap, at_, code, bk, bt, bv, bl, bc, h1, h2, h3⟩ := h
  exact ⟨A, n, cap, at_, code, bk, bt, bv, bl, bc, h1.grown hg (fun e => by have := hr X e.symm; omega), h2.below ((Below.refl X w).grown hg (by omega) (fun r e => by have := hr r e; omega)), h3⟩
/-- The configuration's cells. -/
theorem StAt.cfg (h : StAt X s c w) : w.cell? ⟨X, 8, none⟩ = some (.int .u64 (c.frame : Int)) ∧ w.cell? ⟨X, 9, none⟩ = some (.slice c.parts.a c.parts.l.length c.parts.c) ∧ w.cell? ⟨X, 10, none⟩ = some (.slice c.wins.a c.wins.l.length c.wins.c) ∧ w.cell? ⟨X, 11, none⟩ = some (.slice c.regs.a c.regs.l.length c.regs.c) ∧ w.cell? ⟨X, 12, none⟩ = some (.slice c.ports.a c.ports.l.length c.ports.c) ∧ w.cell? ⟨X, 13, none⟩ = some (.slice c.chans.a c.chans.l.length c.chans.c) := by
  obtain ⟨A, n, cap, at_, code, bk, bt, bv, bl, bc, h1, h2, h3⟩ := h
  exact ⟨h1.cell 8, h1.cell 9, h1.cell 10, h1.cell 11, h1.cell 12, h1.cell 13⟩
theorem OnlyX.grown {a b : World} (h : OnlyX X a b) {row : Option Nat} (hg : b.grownBy w' row) (hr : ∀ r, row = some r → a.heap.size ≤ r) : OnlyX X a w' := But.grown h hg (fun r e => .inr (hr r e))
/-- The rows stand where only the state's block has turned. -/
theorem OwnC.only {B : Nat} {t : TypeId} {cs : Array Value} (h : OwnC B c w) (hb : OnlyX X w w') (hX : Blk w X t cs) (hT : NoRow t = true) : OwnC B c w' := h.but hb hX hT
theorem StAt.own {B : Nat} (h : StAt X s c w) (ho : OwnC B c w) (hb : OnlyX X w w') : OwnC B c w' := by
  obtain ⟨_, _, _, _, _, _, _, _, _, _, h1, _⟩ := h
  exact ho.only hb h1 (by decide)
theorem StAt.setP (h : StAt X s c w) (l : List PartR) (a : Option Addr) (k : Nat) : StAt X s { c with parts := ⟨l, a, k⟩ } (w.setCell ⟨X, 9, none⟩ (.slice a l.length k)) := by
  obtain ⟨A, n, cap, at_, code, bk, bt, bv, bl, bc, h1, h2, h3⟩ := h
  exact ⟨A, n, cap, at_, code, bk, bt, bv, bl, bc, h1.set_ 9 _, h2.setX rfl _, h3⟩
theorem OwnC.setX {B : Nat} (h : StAt X s c w) {c' : Cfg} (ho : OwnC B c' w) (i : Nat) (u : Value) : OwnC B c' (w.setCell ⟨X, i, none⟩ u) := by
  obtain ⟨_, _, _, _, _, _, _, _, _, _, h1, _⟩ := h
  exact ho.setCell h1 (by decide) i u
theorem StAt.setW (h : StAt X s c w) (l : List WinR) (a : Option Addr) (k : Nat) : StAt X s { c with wins := ⟨l, a, k⟩ } (w.setCell ⟨X, 10, none⟩ (.slice a l.length k)) := by
  obtain ⟨A, n, cap, at_, code, bk, bt, bv, bl, bc, h1, h2, h3⟩ := h
  exact ⟨A, n, cap, at_, code, bk, bt, bv, bl, bc, h1.set_ 10 _, h2.setX rfl _, h3⟩
theorem StAt.setR (h : StAt X s c w) (l : List RegR) (a : Option Addr) (k : Nat) : StAt X s { c with regs := ⟨l, a, k⟩ } (w.setCell ⟨X, 11, none⟩ (.slice a l.length k)) := by
  obtain ⟨A, n, cap, at_, code, bk, bt, bv, bl, bc, h1, h2, h3⟩ := h
  exact ⟨A, n, cap, at_, code, bk, bt, bv, bl, bc, h1.set_ 11 _, h2.setX rfl _, h3⟩
theorem StAt.setQ (h : StAt X s c w) (l : List PortR) (a : Option Addr) (k : Nat) : StAt X s { c with ports := ⟨l, a, k⟩ } (w.setCell ⟨X, 12, none⟩ (.slice a l.length k)) := by
  obtain ⟨A, n, cap, at_, code, bk, bt, bv, bl, bc, h1, h2, h3⟩ := h
  exact ⟨A, n, cap, at_, code, bk, bt, bv, bl, bc, h1.set_ 12 _, h2.setX rfl _, h3⟩
theorem StAt.setC (h : StAt X s c w) (l : List ChanR) (a : Option Addr) (k : Nat) : StAt X s { c with chans := ⟨l, a, k⟩ } (w.setCell ⟨X, 13, none⟩ (.slice a l.length k)) := by
  obtain ⟨A, n, cap, at_, code, bk, bt, bv, bl, bc, h1, h2, h3⟩ := h
  exact ⟨A, n, cap, at_, code, bk, bt, bv, bl, bc, h1.set_ 13 _, h2.setX rfl _, h3⟩
theorem StAt.frz (h : StAt X s c w) : ∀ i, w.frozen? ⟨X, i, none⟩ = false := by
  obtain ⟨_, _, _, _, _, _, _, _, _, _, h1, _⟩ := h
  exact fun i => h1.frozen i
theorem StAt.setF (h : StAt X s c w) (n : Nat) : StAt X s { c with frame := n } (w.setCell ⟨X, 8, none⟩ (.int .u64 (n : Int))) := by
  obtain ⟨A, k, cap, at_, code, bk, bt, bv, bl, bc, h1, h2, h3⟩ := h
  exact ⟨A, k, cap, at_, code, bk, bt, bv, bl, bc, h1.set_ 8 _, h2.setX rfl _, h3⟩
theorem new_reads (w : World) (cs : Array Value) (t : TypeId) (k : Nat) (hk : cs.size = k) : Reads (w.alloc (.cells cs t)).drew (w.heap.size + 1) k (some ⟨w.heap.size, 0, none⟩) 1 cs.toList :=
  ⟨by simp [hk], fun _ => ⟨_, rfl, by simp, fun j u hu => by
    rw [addr_plain, Nat.zero_add]
    have := (Blk.new w t cs).drew.cell j
    rw [this, ← Array.getElem?_toList]
    exact hu⟩⟩
theorem toks_get : ∀ (l : List Token) (i j : Nat) (hi : i < l.length), j < 5 → (tokCells l)[i * 5 + j]? = (tokV l[i])[j]? := by
  intro l
  induction l with
  | nil => intro i j hi; simp at hi
  | cons t l ih =>
    intro i j hi hj
    have e : tokCells (t :: l) = (tokV t).toList ++ tokCells l := rfl
    have hs : (tokV t).toList.length = 5 := rfl
    rw [e]
    cases i with
    | zero => rw [List.getElem?_append_left (by omega), Nat.zero_mul, Nat.zero_add, Array.getElem?_toList]; rfl
    | succ i =>
      rw [List.getElem?_append_right (by omega), hs, show (i + 1) * 5 + j - 5 = i * 5 + j by omega, ih i j (by simpa using hi) hj]; rfl
/-- The token at the offset. -/
theorem ToksAt.head {t : Token} {r : List Token} (h : ToksAt X A n cap at_ (t :: r) w) : ∃ b o, A = some ⟨b, o, none⟩ ∧ b < X ∧ at_ < n ∧ n ≤ cap ∧ cap ≤ 9223372036854775807 ∧
    w.cell? ⟨b, o + at_ * 5, none⟩ = some (.int .i64 (t.kind : Int)) ∧ w.cell? ⟨b, o + at_ * 5 + 1, none⟩ = some (.string ⟨t.text.toArray⟩) ∧ w.cell? ⟨b, o + at_ * 5 + 2, none⟩ = some (.int .u64 (t.val : Int)) ∧ w.cell? ⟨b, o + at_ * 5 + 3, none⟩ = some (.int .i64 (t.line : Int)) ∧ w.cell? ⟨b, o + at_ * 5 + 4, none⟩ = some (.int .i64 (t.col : Int)) := by
  obtain ⟨T, h1, h2, h3, h4, h5, h6, h7⟩ := h
  obtain ⟨ad, rfl, hb, hc⟩ := h5.2 (by omega)
  have hT : T[at_]'(by omega) = t := by
    have := @List.getElem_cons_drop _ T at_ (by omega)
    rw [h6] at this
    injection this
  have get : ∀ i (hi : i < T.length) j, j < 5 → w.cell? (ad.add (i * 5 + j)) = (tokV T[i])[j]? := by
    intro i hi j hj
    have h0 := toks_get T i j hi hj
    have hs : (tokV T[i])[j]? = some ((tokV T[i])[j]'(by show j < 5; exact hj)) := Array.getElem?_eq_getElem _
    rw [hs] at h0 ⊢
    exact hc _ _ h0
  have h00 := get 0 (by omega) 0 (by omega)
  have hs0 : (tokV (T[0]'(by omega)))[0]? = some ((tokV (T[0]'(by omega)))[0]'(by show 0 < 5; omega)) := Array.getElem?_eq_getElem _
  rw [hs0] at h00
  have hz := addr_of_cell h00
  obtain ⟨b, o, p⟩ := ad
  have hp : p = none := by
    have := congrArg Addr.spot hz
    simpa [Addr.add] using this
  subst hp
  have hcell : ∀ j, j < 5 → w.cell? ⟨b, o + at_ * 5 + j, none⟩ = (tokV t)[j]? := fun j hj => by
    have := get at_ (by omega) j hj
    rw [addr_plain, hT] at this
    rw [← this, Nat.add_assoc]
  exact ⟨b, o, rfl, hb, h2, h3, h4, hcell 0 (by omega), hcell 1 (by omega), hcell 2 (by omega), hcell 3 (by omega), hcell 4 (by omega)⟩
theorem ToksAt.form (h : ToksAt X A n cap at_ l w) : ∃ t r, l = t :: r := by
  obtain ⟨T, h1, h2, h3, h4, h5, h6, h7⟩ := h
  exact h7.form
/-- One token on. -/
theorem ToksAt.step {t : Token} {r : List Token} (h : ToksAt X A n cap at_ (t :: r) w) (hk : t.kind ≠ 0) : ToksAt X A n cap (at_ + 1) r w := by
  obtain ⟨T, h1, h2, h3, h4, h5, h6, h7⟩ := h
  have h8 := h7.cons hk
  have h9 : T.drop (at_ + 1) = r := by
    have := @List.getElem_cons_drop _ T at_ (by omega)
    rw [h6] at this
    injection this
  refine ⟨T, h1, ?_, h3, h4, h5, h9, h8⟩
  have := h8.len
  rw [← h9, List.length_drop] at this
  omega
end
end Go.Proofs.YtdpieljopelkhaaGreatDoor
namespace Go.Proofs.YtdpieljopelkhaaGreatDoor
open Go.RowKit Go.Lib
set_option linter.unusedVariables false

def failS (code : Nat) (t : Token) (s : RS) : RS := match s.err with
  | none => ⟨s.l, some (code, t.line, t.col)⟩
  | some f => ⟨s.l, some f⟩
def takeS (s : RS) : RS := match s.err with
  | none => (match s.l with
    | t :: r => if t.kind = 0 then s else ⟨r, none⟩
    | [] => s)
  | some f => ⟨s.l, some f⟩
theorem takeS_on {s : RS} {t : Token} {r : List Token} (he : s.err = none) (hl : s.l = t :: r) (hk : t.kind ≠ 0) : takeS s = ⟨r, none⟩ := by
  unfold takeS; rw [he, hl]; simp only; rw [if_neg hk]
theorem takeS_end {s : RS} {t : Token} {r : List Token} (he : s.err = none) (hl : s.l = t :: r) (hk : t.kind = 0) : takeS s = s := by
  unfold takeS; rw [he, hl]; simp only; rw [if_pos hk]
theorem takeS_bad {s : RS} {f : Flt} (he : s.err = some f) : takeS s = s := by
  obtain ⟨l, e⟩ := s; simp only at he; subst he; rfl
theorem failS_first {s : RS} (he : s.err = none) (code : Nat) (t : Token) : failS code t s = ⟨s.l, some (code, t.line, t.col)⟩ := by unfold failS; rw [he]
theorem failS_bad {s : RS} {f : Flt} (he : s.err = some f) (code : Nat) (t : Token) : failS code t s = s := by
  obtain ⟨l, e⟩ := s; simp only at he; subst he; rfl
theorem res_cellT {fn : Func} {p : Tmp} {ty : TypeId} (h : fn.results = #[.cell p ty]) (tmps : Array Value) (w : World) (g : Nat) (cs : Array Value)
    (hp : tmps.getD p undef = .pointer (some ⟨g, 0, none⟩)) (hl : (loadVar ty ⟨g, 0, none⟩).run Tryz.prog w = .ok (.agg cs) w) :
    (results fn tmps).run Tryz.prog w = .ok (.agg cs) w := by
  have hp' : tmps[p]?.getD undef = .pointer (some ⟨g, 0, none⟩) := by simpa using hp
  simp [results, h, hp', asAddr, hl]
theorem load_rtokB {w : World} {g : Nat} {cs : Array Value} (hg : Blk w g 45 cs) (hc : cs.size = 5) : (loadVar 45 ⟨g, 0, none⟩).run Tryz.prog w = .ok (.agg cs) w :=
  run_loadVar_row (P := Tryz.prog) w g 45 45 cs (0, 0) _ hg Tryz.underlying45 rfl (by rw [hc]; kernel_rfl)
set_option maxRecDepth 100000 in
set_option maxHeartbeats 2000000 in
theorem RPeek_calls (X : Nat) (s : RS) (c : Cfg) (t : Token) (r : List Token) (hl : s.l = t :: r) (w : World) (h : StAt X s c w) :
    Calls Tryz.prog 59 #[.pointer (some ⟨X, 0, none⟩)] w fun e w' => e = .returned (.agg (tokV t)) ∧ Below w.heap.size w w' := by
  obtain ⟨A, n, cap, at_, code, bk, bt, bv, bl, bc, hX, hT, hE⟩ := h
  rw [hl] at hT
  obtain ⟨b, o, rfl, hb, hn, hc, hm, y0, y1, y2, y3, y4⟩ := hT.head
  have hXl := hX.lt
  obtain ⟨kind, text, v, li, co⟩ := t
  simp only at y0 y1 y2 y3 y4
  unfold tokV tokC
  simp only
  generalize (⟨text.toArray⟩ : ByteArray) = x at *
  have k0 : w.cell? ⟨X, 0, none⟩ = some (.slice (some ⟨b, o, none⟩) n cap) := hX.cell 0
  have k1 : w.cell? ⟨X, 1, none⟩ = some (.int .i64 (at_ : Int)) := hX.cell 1
  have hnI : (at_ : Int) < (n : Int) := by omega
  have hcI : (n : Int) ≤ (cap : Int) := by omega
  have hbl : b < w.heap.size := by omega
  clear hX hT hE hl
  go_enter Tryz.func59, Tryz.ntmps59
  go_wp2
  go_region
  go_wp2
  refine bodyPost_ret (res_cellT rfl _ _ w.heap.size _ rfl (load_rtokB (Blk.new w 45 _).drew rfl)) rfl ⟨rfl, ?_⟩
  exact Below.drew ((Below.refl _ w).alloc (Nat.le_refl _) _)
set_option maxRecDepth 100000 in
set_option maxHeartbeats 2000000 in
theorem RFail_calls (X : Nat) (s : RS) (c : Cfg) (code : Nat) (hc0 : 0 < code) (t : Token) (w : World) (h : StAt X s c w) :
    Calls Tryz.prog 58 #[.pointer (some ⟨X, 0, none⟩), .int .i64 (code : Int), .agg (tokV t)] w fun e w' => e = .returned (.tuple #[]) ∧ OnlyX X w w' ∧ StAt X (failS code t s) c w' := by
  obtain ⟨A, n, cap, at_, cd, bk, bt, bv, bl, bc, hX, hT, hE⟩ := h
  have hXl := hX.lt
  obtain ⟨kind, text, v, li, co⟩ := t
  unfold tokV tokC
  simp only
  obtain ⟨x, hx⟩ : ∃ x : ByteArray, x = ⟨text.toArray⟩ := ⟨_, rfl⟩
  rw [← hx]
  have k2 : w.cell? ⟨X, 2, none⟩ = some (.int .i64 (cd : Int)) := hX.cell 2
  have k3 : w.cell? ⟨X, 3, none⟩ = some (.int .i64 (bk : Int)) := hX.cell 3
  have k4 : w.cell? ⟨X, 4, none⟩ = some (.string bt) := hX.cell 4
  have k5 : w.cell? ⟨X, 5, none⟩ = some (.int .u64 (bv : Int)) := hX.cell 5
  have k6 : w.cell? ⟨X, 6, none⟩ = some (.int .i64 (bl : Int)) := hX.cell 6
  have k7 : w.cell? ⟨X, 7, none⟩ = some (.int .i64 (bc : Int)) := hX.cell 7
  have kf := fun i => hX.frozen i
  have HX := hide hX
  have HT := hide hT
  have HHX := hide hx
  cases he : s.err with
  | none =>
    rw [failS_first he]
    rw [he] at hE
    have hcd : cd = 0 := hE
    subst hcd
    clear hX hT hx he hE
    go_enter Tryz.func58, Tryz.ntmps58
    go_wp2
    go_end0
    have hN := (((((((HX.out.set_ 2 (.int .i64 (code : Int))).set_ 3 (.int .i64 (kind : Int))).set_ 4 (.string x)).set_ 5 (.int .u64 (v : Int))).set_ 6 (.int .i64 (li : Int))).set_ 7 (.int .i64 (co : Int))).alloc (.cells #[.int .i64 (kind : Int), .string x, .int .u64 (v : Int), .int .i64 (li : Int), .int .i64 (co : Int)] 45))
    refine ⟨rfl, ?_, A, n, cap, at_, code, kind, x, v, li, co, hN, ?_, rfl, hc0, rfl, rfl⟩
    · exact (((((((OnlyX.refl X w).set 2 _).set 3 _).set 4 _).set 5 _).set 6 _).set 7 _).alloc _
    · exact (((((((HT.out.setX rfl _).setX rfl _).setX rfl _).setX rfl _).setX rfl _).setX rfl _).below ((Below.refl _ _).alloc (by simp [World.setCell]; omega) _))
  | some f =>
    rw [failS_bad he]
    rw [he] at hE
    have hz : ((cd : Int) == 0) = false := by have := hE.2.1; simp; omega
    have HE := hide hE
    have HST : Hid (StAt X s c w) := hide ⟨A, n, cap, at_, cd, bk, bt, bv, bl, bc, hX, hT, by rw [he]; exact hE⟩
    clear hX hT hx he hE
    go_enter Tryz.func58, Tryz.ntmps58
    go_wp2
    go_end0
    exact ⟨rfl, (OnlyX.refl X w).alloc _, HST.out.alloc _⟩
/-- What a walk wants of the state: its count, its code; how it stands behind a step on. -/
structure StOpen (X : Nat) (s : RS) (c : Cfg) (w : World) (at_ code : Nat) : Prop where
  c1 : w.cell? ⟨X, 1, none⟩ = some (.int .i64 (at_ : Int))
  c2 : w.cell? ⟨X, 2, none⟩ = some (.int .i64 (code : Int))
  fz : ∀ i, w.frozen? ⟨X, i, none⟩ = false
  small : at_ + 1 ≤ 9223372036854775807
  none_ : s.err = none → code = 0
  some_ : ∀ f, s.err = some f → 0 < code
  step : ∀ t r, s.l = t :: r → t.kind ≠ 0 → s.err = none → StAt X ⟨r, none⟩ c (w.setCell ⟨X, 1, none⟩ (.int .i64 ((at_ : Int) + 1)))
theorem StAt.opened {X : Nat} {s : RS} {c : Cfg} {w : World} (h : StAt X s c w) : ∃ at_ code, StOpen X s c w at_ code := by
  obtain ⟨A, n, cap, at_, code, bk, bt, bv, bl, bc, hX, hT, hE⟩ := h
  refine ⟨at_, code, hX.cell 1, hX.cell 2, fun i => hX.frozen i, ?_, fun he => ?_, fun f hf => ?_, fun t r hl hk he => ?_⟩
  · obtain ⟨T, h1, h2, h3, h4, _⟩ := hT; omega
  · rw [he] at hE; exact hE
  · rw [hf] at hE; exact hE.2.1
  · rw [hl] at hT
    rw [he] at hE
    exact ⟨A, n, cap, at_ + 1, code, bk, bt, bv, bl, bc, hX.set_ 1 _, (hT.step hk).setX rfl _, hE⟩
set_option maxRecDepth 100000 in
set_option maxHeartbeats 2000000 in
theorem RTake_calls (X : Nat) (s : RS) (c : Cfg) (t : Token) (r : List Token) (hl : s.l = t :: r) (w : World) (h : StAt X s c w) :
    Calls Tryz.prog 60 #[.pointer (some ⟨X, 0, none⟩)] w fun e w' => e = .returned (.agg (tokV t)) ∧ OnlyX X w w' ∧ StAt X (takeS s) c w' := by
  have hXl := h.lt
  obtain ⟨kind, text, v, li, co⟩ := t
  have hP := fun W (hW : StAt X s c W) => RPeek_calls X s c ⟨kind, text, v, li, co⟩ r hl W hW
  unfold tokV tokC at hP ⊢
  simp only at hP ⊢
  generalize (⟨text.toArray⟩ : ByteArray) = x at *
  have HP := hide hP
  have HST := hide h
  have HA := hide (h.alloc (.cells #[.int .i64 0, .string ⟨#[]⟩, .int .u64 0, .int .i64 0, .int .i64 0] 45))
  have HB := hide (Blk.new w 45 #[.int .i64 0, .string ⟨#[]⟩, .int .u64 0, .int .i64 0, .int .i64 0])
  have HL := hide hl
  have HZ : Hid (w.heap.size < (w.alloc (.cells #[.int .i64 0, .string ⟨#[]⟩, .int .u64 0, .int .i64 0, .int .i64 0] 45)).heap.size) := hide (by simp)
  cases he : s.err with
  | none =>
    have HE := hide he
    by_cases hk : kind = 0
    · subst hk
      have HT : Hid (takeS s = s) := hide (takeS_end he hl rfl)
      rw [HT.out]
      clear hP h hl he
      go_enter Tryz.func60, Tryz.ntmps60
      go_wp2_with (go_at_call 59; refine (HP.out _ HA.out).mono ?_; rintro e w2 ⟨rfl, hb2⟩; have HA2 := hide (HA.out.below hb2); obtain ⟨at_, code, hO⟩ := HA2.out.opened; have c1 := hO.c1; have c2 := hO.c2; have h0 := hO.none_ HE.out; subst h0; have fz := hO.fz; have HB2 := hide (HB.out.below hb2 HZ.out); have hz2 : w.heap.size < w2.heap.size := HB2.out.lt; have hX2 : X < w2.heap.size := HA2.out.lt; have r0 := HB2.out.cell 0; have r1 := HB2.out.cell 1; have r2 := HB2.out.cell 2; have r3 := HB2.out.cell 3; have r4 := HB2.out.cell 4; have rf := fun i => HB2.out.frozen i; have HBb := hide (((OnlyX.refl X w).alloc _).below hb2); clear hb2 hO)
      refine bodyPost_ret (res_cellT rfl _ _ w.heap.size _ rfl (load_rtokB ((((((HB2.out.set_ 0 (.int .i64 (0))).set_ 1 (.string x)).set_ 2 (.int .u64 (v : Int))).set_ 3 (.int .i64 (li : Int))).set_ 4 (.int .i64 (co : Int))).alloc _) rfl)) rfl ⟨rfl, ?_, ?_⟩
      · exact (((((HBb.out.setNew (Nat.le_refl _) _).setNew (Nat.le_refl _) _).setNew (Nat.le_refl _) _).setNew (Nat.le_refl _) _).setNew (Nat.le_refl _) _).alloc _
      · exact (((((HA2.out.far hXl _).far hXl _).far hXl _).far hXl _).far hXl _).alloc _
    · have HT : Hid (takeS s = ⟨r, none⟩) := hide (takeS_on he hl hk)
      have k1 : ((kind : Int) != 0) = true := by rw [bne_iff_ne]; omega
      have HK := hide hk
      rw [HT.out]
      clear hk
      clear hP h hl he
      go_enter Tryz.func60, Tryz.ntmps60
      go_wp2_with (go_at_call 59; refine (HP.out _ HA.out).mono ?_; rintro e w2 ⟨rfl, hb2⟩; have HA2 := hide (HA.out.below hb2); obtain ⟨at_, code, hO⟩ := HA2.out.opened; have c1 := hO.c1; have c2 := hO.c2; have h0 := hO.none_ HE.out; subst h0; have hs1 := hO.small; have HSP := hide (hO.step _ _ HL.out HK.out HE.out); have fz := hO.fz; have HB2 := hide (HB.out.below hb2 HZ.out); have hz2 : w.heap.size < w2.heap.size := HB2.out.lt; have hX2 : X < w2.heap.size := HA2.out.lt; have r0 := HB2.out.cell 0; have r1 := HB2.out.cell 1; have r2 := HB2.out.cell 2; have r3 := HB2.out.cell 3; have r4 := HB2.out.cell 4; have rf := fun i => HB2.out.frozen i; have HBb := hide (((OnlyX.refl X w).alloc _).below hb2); clear hb2 hO)
      refine bodyPost_ret (res_cellT rfl _ _ w.heap.size _ rfl (load_rtokB (((((((HB2.out.far (p := ⟨X, 1, none⟩) (by show w.heap.size ≠ X; omega) (.int .i64 ((at_ : Int) + 1))).set_ 0 (.int .i64 (kind : Int))).set_ 1 (.string x)).set_ 2 (.int .u64 (v : Int))).set_ 3 (.int .i64 (li : Int))).set_ 4 (.int .i64 (co : Int))).alloc _) rfl)) rfl ⟨rfl, ?_, ?_⟩
      · exact ((((((HBb.out.set 1 _).setNew (Nat.le_refl _) _).setNew (Nat.le_refl _) _).setNew (Nat.le_refl _) _).setNew (Nat.le_refl _) _).setNew (Nat.le_refl _) _).alloc _
      · exact (((((HSP.out.far hXl _).far hXl _).far hXl _).far hXl _).far hXl _).alloc _
  | some f =>
    have HE := hide he
    have HT : Hid (takeS s = s) := hide (takeS_bad he)
    rw [HT.out]
    clear hP h hl he
    go_enter Tryz.func60, Tryz.ntmps60
    go_wp2_with (go_at_call 59; refine (HP.out _ HA.out).mono ?_; rintro e w2 ⟨rfl, hb2⟩; have HA2 := hide (HA.out.below hb2); obtain ⟨at_, code, hO⟩ := HA2.out.opened; have c1 := hO.c1; have c2 := hO.c2; have k2 : ((code : Int) == 0) = false := (by have := hO.some_ f HE.out; rw [beq_eq_false_iff_ne]; omega); have fz := hO.fz; have HB2 := hide (HB.out.below hb2 HZ.out); have hz2 : w.heap.size < w2.heap.size := HB2.out.lt; have hX2 : X < w2.heap.size := HA2.out.lt; have r0 := HB2.out.cell 0; have r1 := HB2.out.cell 1; have r2 := HB2.out.cell 2; have r3 := HB2.out.cell 3; have r4 := HB2.out.cell 4; have rf := fun i => HB2.out.frozen i; have HBb := hide (((OnlyX.refl X w).alloc _).below hb2); clear hb2 hO)
    refine bodyPost_ret (res_cellT rfl _ _ w.heap.size _ rfl (load_rtokB ((((((HB2.out.set_ 0 (.int .i64 (kind : Int))).set_ 1 (.string x)).set_ 2 (.int .u64 (v : Int))).set_ 3 (.int .i64 (li : Int))).set_ 4 (.int .i64 (co : Int))).alloc _) rfl)) rfl ⟨rfl, ?_, ?_⟩
    · exact (((((HBb.out.setNew (Nat.le_refl _) _).setNew (Nat.le_refl _) _).setNew (Nat.le_refl _) _).setNew (Nat.le_refl _) _).setNew (Nat.le_refl _) _).alloc _
    · exact (((((HA2.out.far hXl _).far hXl _).far hXl _).far hXl _).far hXl _).alloc _
def isR (x : List UInt8) (s : RS) : Bool := match s.err with
  | none => isT x s.l
  | some _ => false
theorem isR_eq (x : ByteArray) {s : RS} {t : Token} {r : List Token} (he : s.err = none) (hl : s.l = t :: r) : isR x.data.toList s = ((t.kind == 1 || t.kind == 4) && ((⟨t.text.toArray⟩ : ByteArray).toList == x.toList)) := by
  unfold isR
  rw [he, hl]
  show ((t.kind == 1 || t.kind == 4) && t.text == x.data.toList) = _
  rw [ByteArray.toList_eq, ByteArray.toList_eq]
theorem isR_bad (x : List UInt8) {s : RS} {f : Flt} (he : s.err = some f) : isR x s = false := by unfold isR; rw [he]
set_option maxRecDepth 100000 in
set_option maxHeartbeats 4000000 in
theorem RIs_calls (x : ByteArray) (X : Nat) (s : RS) (c : Cfg) (t : Token) (r : List Token) (hl : s.l = t :: r) (w : World) (h : StAt X s c w) :
    Calls Tryz.prog 57 #[.pointer (some ⟨X, 0, none⟩), .string x] w fun e w' => e = .returned (.bool (isR x.data.toList s)) ∧ Below w.heap.size w w' := by
  have hXl := h.lt
  obtain ⟨kind, text, v, li, co⟩ := t
  have hP := fun W (hW : StAt X s c W) => RPeek_calls X s c ⟨kind, text, v, li, co⟩ r hl W hW
  have hq := fun he => isR_eq x (s := s) he hl
  unfold tokV tokC at hP
  simp only at hP hq
  generalize (⟨text.toArray⟩ : ByteArray) = y at *
  have HP := hide hP
  have HST := hide h
  cases he : s.err with
  | some f =>
    rw [isR_bad _ he]
    have HE := hide he
    clear hP h hl he hq
    go_enter Tryz.func57, Tryz.ntmps57
    go_wp2_with (go_at_call 59; refine (HP.out _ HST.out).mono ?_; rintro e w2 ⟨rfl, hb2⟩; have HA2 := hide (HST.out.below hb2); obtain ⟨at_, code, hO⟩ := HA2.out.opened; have c2 := hO.c2; have k2 : ((code : Int) == 0) = false := (by have := hO.some_ f HE.out; rw [beq_eq_false_iff_ne]; omega); have hX2 : X < w2.heap.size := HA2.out.lt; have HBb := hide hb2; clear hb2 hO)
    go_ret
    exact ⟨rfl, HBb.out.alloc HBb.out.size _⟩
  | none =>
    have HE := hide he
    rw [hq he]
    obtain ⟨q, hqq⟩ : ∃ q, q = (y.toList == x.toList) := ⟨_, rfl⟩
    rw [← hqq]
    have hq1 := hqq.symm
    clear hP h hl he hq hqq
    by_cases k1 : kind = 1
    · subst k1
      cases q
      all_goals
        go_enter Tryz.func57, Tryz.ntmps57
        go_wp2_with (go_at_call 59; refine (HP.out _ HST.out).mono ?_; rintro e w2 ⟨rfl, hb2⟩; have HA2 := hide (HST.out.below hb2); obtain ⟨at_, code, hO⟩ := HA2.out.opened; have c2 := hO.c2; have h0 := hO.none_ HE.out; subst h0; have hX2 : X < w2.heap.size := HA2.out.lt; have HBb := hide hb2; clear hb2 hO)
        go_ret
        exact ⟨rfl, HBb.out.alloc HBb.out.size _⟩
    · have m1 : ((kind : Int) == 1) = false := by rw [beq_eq_false_iff_ne]; omega
      have n1 : (kind == 1) = false := by rw [beq_eq_false_iff_ne]; exact k1
      by_cases k4 : kind = 4
      · subst k4
        cases q
        all_goals
          clear k1
          go_enter Tryz.func57, Tryz.ntmps57
          go_wp2_with (go_at_call 59; refine (HP.out _ HST.out).mono ?_; rintro e w2 ⟨rfl, hb2⟩; have HA2 := hide (HST.out.below hb2); obtain ⟨at_, code, hO⟩ := HA2.out.opened; have c2 := hO.c2; have h0 := hO.none_ HE.out; subst h0; have hX2 : X < w2.heap.size := HA2.out.lt; have HBb := hide hb2; clear hb2 hO)
          go_ret
          exact ⟨rfl, HBb.out.alloc HBb.out.size _⟩
      · have m4 : ((kind : Int) == 4) = false := by rw [beq_eq_false_iff_ne]; omega
        have n4 : (kind == 4) = false := by rw [beq_eq_false_iff_ne]; exact k4
        clear k1 k4
        go_enter Tryz.func57, Tryz.ntmps57
        go_wp2_with (go_at_call 59; refine (HP.out _ HST.out).mono ?_; rintro e w2 ⟨rfl, hb2⟩; have HA2 := hide (HST.out.below hb2); obtain ⟨at_, code, hO⟩ := HA2.out.opened; have c2 := hO.c2; have h0 := hO.none_ HE.out; subst h0; have hX2 : X < w2.heap.size := HA2.out.lt; have HBb := hide hb2; clear hb2 hO)
        go_ret
        exact ⟨by rw [n1, n4]; rfl, HBb.out.alloc HBb.out.size _⟩
end Go.Proofs.YtdpieljopelkhaaGreatDoor
namespace Go.Proofs.YtdpieljopelkhaaGreatDoor
open Go.RowKit Go.Lib
set_option linter.unusedVariables false

def unitV (_ : Unit) : Value := .tuple #[]
def natV (n : Nat) : Value := .int .u64 (n : Int)
def textV (t : Token) : Value := .string ⟨t.text.toArray⟩
def noTok : Token := ⟨3, [], 0, 0, 0⟩
section
variable {s : RS} {t : Token} {r : List Token} {x : List UInt8} {most : Nat}
theorem isT_kind (h : isT x (t :: r) = true) : t.kind ≠ 0 := by
  intro h0
  have h1 : ((t.kind == 1 || t.kind == 4) && t.text == x) = true := h
  rw [h0] at h1
  simp at h1
theorem isR_true (h : isR x s = true) : s.err = none ∧ isT x s.l = true := by
  unfold isR at h
  cases he : s.err with
  | none => rw [he] at h; exact ⟨rfl, h⟩
  | some f => rw [he] at h; cases h
theorem want_yesL (hl : s.l = t :: r) (h : isR x s = true) : Lf (wantT x) s () (takeS s) := by
  obtain ⟨he, hi⟩ := isR_true h
  have hi2 := hi
  rw [hl] at hi2
  have hk := isT_kind hi2
  rw [takeS_on he hl hk]
  exact Lf.good he (by rw [want_yes hi, hl]; rfl) rfl rfl
theorem want_noL (hl : s.l = t :: r) (h : isR x s = false) : Lf (wantT x) s () (failS 4 t s) := by
  cases he : s.err with
  | some f => rw [failS_bad he]; exact Lf.stuck he he _ _
  | none =>
    rw [failS_first he]
    have hi : isT x s.l = false := by unfold isR at h; rw [he] at h; exact h
    exact Lf.fault he (want_no hi) (by rw [hl]; rfl)
theorem failS_err (he : s.err = none) (code : Nat) : (failS code t s).err = some (code, t.line, t.col) := by rw [failS_first he]
theorem fail_lf {α : Type} {m : PM α} {a : α} {code : Nat} (hm : s.err = none → m s.l = .error (code, t.line, t.col)) : Lf m s a (failS code t s) := by
  cases he : s.err with
  | some f => rw [failS_bad he]; exact Lf.stuck he he _ _
  | none => exact Lf.fault he (hm he) (failS_err he code)
theorem take_lf {α : Type} {m : PM α} {a : α} (hl : s.l = t :: r) (hk : t.kind ≠ 0) (hm : m (t :: r) = .ok (a, r)) : Lf m s a (takeS s) := by
  cases he : s.err with
  | some f => rw [takeS_bad he]; exact Lf.stuck he he _ _
  | none => rw [takeS_on he hl hk]; exact Lf.good he (by rw [hl]; exact hm) rfl rfl
theorem num_kindL (hl : s.l = t :: r) (hk : t.kind ≠ 2) : Lf (numT most) s 0 (failS 4 t s) := fail_lf fun _ => by
  rw [hl]; unfold numT takeT; simp only; rw [if_neg hk]
theorem num_bigL (hl : s.l = t :: r) (hk : t.kind = 2) (hv : most < t.val) : Lf (numT most) s 0 (failS 5 t s) := fail_lf fun _ => by
  rw [hl]; unfold numT takeT; simp only; rw [if_pos hk]; simp only; rw [if_neg (by omega)]
theorem num_okL (hl : s.l = t :: r) (hk : t.kind = 2) (hv : t.val ≤ most) : Lf (numT most) s t.val (takeS s) := take_lf hl (by omega) (by
  unfold numT takeT; simp only; rw [if_pos hk]; simp only; rw [if_pos hv])
theorem name_noL (hl : s.l = t :: r) (hk : t.kind ≠ 3) (a : Token) : Lf (takeT 3) s a (failS 4 t s) := fail_lf fun _ => by
  rw [hl]; unfold takeT; simp only; rw [if_neg hk]
theorem name_okL (hl : s.l = t :: r) (hk : t.kind = 3) : Lf (takeT 3) s t (takeS s) := take_lf hl (by omega) (by unfold takeT; simp only; rw [if_pos hk])
end
theorem rtok_f0 (k v i j : Int) (x : ByteArray) (w : World) : (Instr.field 45 (.agg #[.int .i64 k, .string x, .int .u64 v, .int .i64 i, .int .i64 j]) 0).run Tryz.prog w = .ok (.int .i64 k) w := by kernel_rfl
theorem rtok_f1 (k v i j : Int) (x : ByteArray) (w : World) : (Instr.field 45 (.agg #[.int .i64 k, .string x, .int .u64 v, .int .i64 i, .int .i64 j]) 1).run Tryz.prog w = .ok (.string x) w := by kernel_rfl
theorem rtok_f2 (k v i j : Int) (x : ByteArray) (w : World) : (Instr.field 45 (.agg #[.int .i64 k, .string x, .int .u64 v, .int .i64 i, .int .i64 j]) 2).run Tryz.prog w = .ok (.int .u64 v) w := by kernel_rfl
theorem StAt.form {X : Nat} {s : RS} {c : Cfg} {w : World} (h : StAt X s c w) : ∃ t r, s.l = t :: r := by
  obtain ⟨_, _, _, _, _, _, _, _, _, _, _, hT, _⟩ := h
  exact hT.form
set_option maxRecDepth 100000 in
set_option maxHeartbeats 2000000 in
theorem RWant_calls (x : ByteArray) (X : Nat) (s : RS) (c : Cfg) (w : World) (h : StAt X s c w) :
    Calls Tryz.prog 25 #[.pointer (some ⟨X, 0, none⟩), .string x] w (RfV (wantT x.data.toList) unitV (fun _ => True) X s c w) := by
  obtain ⟨t, r, hl⟩ := h.form
  have HI := hide (RIs_calls x X s c t r hl w h)
  have HP := hide (fun W (hW : StAt X s c W) => RPeek_calls X s c t r hl W hW)
  have HF := hide (fun W (hW : StAt X s c W) => RFail_calls X s c 4 (by omega) t W hW)
  have HT := hide (fun W (hW : StAt X s c W) => RTake_calls X s c t r hl W hW)
  have HST := hide h
  cases hb : isR x.data.toList s with
  | true =>
    have HL := hide (want_yesL hl hb)
    rw [hb] at HI
    clear h hl hb
    go_enter Tryz.func25, Tryz.ntmps25
    go_wp2_with (first
      | (go_at_call 57; refine HI.out.mono ?_; rintro e w2 ⟨rfl, hb2⟩; have HA2 := hide (HST.out.below hb2); have HB2 := hide hb2; clear hb2)
      | (go_at_call 60; refine (HT.out _ HA2.out).mono ?_; rintro e w3 ⟨rfl, ho3, hs3⟩; have HO3 := hide ho3; have HS3 := hide hs3; clear ho3 hs3))
    go_end0
    exact ⟨((OnlyX.refl X w).below HB2.out).trans HO3.out, (), _, rfl, trivial, HL.out, HS3.out⟩
  | false =>
    have HL := hide (want_noL hl hb)
    rw [hb] at HI
    clear h hl hb
    go_enter Tryz.func25, Tryz.ntmps25
    go_wp2_with (first
      | (go_at_call 57; refine HI.out.mono ?_; rintro e w2 ⟨rfl, hb2⟩; have HA2 := hide (HST.out.below hb2); have HB2 := hide hb2; clear hb2)
      | (go_at_call 59; refine (HP.out _ HA2.out).mono ?_; rintro e w3 ⟨rfl, hb3⟩; have HA3 := hide (HA2.out.below hb3); have HB3 := hide hb3; clear hb3)
      | (go_at_call 58; refine (HF.out _ HA3.out).mono ?_; rintro e w4 ⟨rfl, ho4, hs4⟩; have HO4 := hide ho4; have HS4 := hide hs4; clear ho4 hs4))
    go_end0
    exact ⟨(((OnlyX.refl X w).below HB2.out).below HB3.out).trans HO4.out, (), _, rfl, trivial, HL.out, HS4.out⟩
set_option maxRecDepth 100000 in
set_option maxHeartbeats 2000000 in
theorem RNumber_calls (most : Nat) (X : Nat) (s : RS) (c : Cfg) (w : World) (h : StAt X s c w) :
    Calls Tryz.prog 61 #[.pointer (some ⟨X, 0, none⟩), .int .u64 (most : Int)] w (RfV (numT most) natV (fun n => n ≤ most) X s c w) := by
  obtain ⟨t, r, hl⟩ := h.form
  have hP := fun W (hW : StAt X s c W) => RPeek_calls X s c t r hl W hW
  have hF4 := fun W (hW : StAt X s c W) => RFail_calls X s c 4 (by omega) t W hW
  have hF5 := fun W (hW : StAt X s c W) => RFail_calls X s c 5 (by omega) t W hW
  have hT := fun W (hW : StAt X s c W) => RTake_calls X s c t r hl W hW
  have HL1 := hide (fun hk => num_kindL (most := most) hl hk)
  have HL2 := hide (fun hk hv => num_bigL (most := most) hl hk hv)
  have HL3 := hide (fun hk hv => num_okL (most := most) hl hk hv)
  have HST := hide h
  obtain ⟨kind, text, v, li, co⟩ := t
  unfold tokV tokC at hP hF4 hF5 hT
  simp only at hP hF4 hF5 hT HL1 HL2 HL3
  generalize (⟨text.toArray⟩ : ByteArray) = y at *
  have HP := hide hP
  have HF4 := hide hF4
  have HF5 := hide hF5
  have HT := hide hT
  clear hP hF4 hF5 hT h hl
  by_cases hk : kind = 2
  · subst hk
    by_cases hv : most < v
    · have HL := hide (HL2.out rfl hv)
      have d1 : decide ((most : Int) < (v : Int)) = true := by simpa using hv
      have d2 : decide (most < v) = true := by simpa using hv
      clear HL1 HL2 HL3
      go_enter Tryz.func61, Tryz.ntmps61
      go_wp2_with (first
        | (go_at_call 59; refine (HP.out _ HST.out).mono ?_; rintro e w2 ⟨rfl, hb2⟩; have HA2 := hide (HST.out.below hb2); have HB2 := hide hb2; have HA3 := hide (fun o => (HST.out.below hb2).alloc o); clear hb2)
        | (go_at_call 58; refine (HF5.out _ (HA3.out _)).mono ?_; rintro e w4 ⟨rfl, ho4, hs4⟩; have HO4 := hide ((((OnlyX.refl X w).below HB2.out).alloc _).trans ho4); have HS4 := hide hs4; clear ho4 hs4))
      go_ret
      exact ⟨HO4.out, 0, _, rfl, Nat.zero_le _, HL.out, HS4.out⟩
    · have HL := hide (HL3.out rfl (by omega))
      have hv2 : v ≤ most := by omega
      have d1 : decide ((most : Int) < (v : Int)) = false := by simp; omega
      have d2 : decide (most < v) = false := by simp; omega
      clear HL1 HL2 HL3 hv
      have fld := fun k v i j x w => rtok_f2 k v i j x w
      go_enter Tryz.func61, Tryz.ntmps61
      go_wp2_with (first
        | (go_at_call 59; refine (HP.out _ HST.out).mono ?_; rintro e w2 ⟨rfl, hb2⟩; have HB2 := hide hb2; have HA3 := hide (fun o => (HST.out.below hb2).alloc o); clear hb2)
        | (go_at_call 60; refine (HT.out _ (HA3.out _)).mono ?_; rintro e w4 ⟨rfl, ho4, hs4⟩; have HO4 := hide ((((OnlyX.refl X w).below HB2.out).alloc _).trans ho4); have HS4 := hide hs4; clear ho4 hs4))
      go_ret
      exact ⟨HO4.out, v, _, rfl, hv2, HL.out, HS4.out⟩
  · have HL := hide (HL1.out hk)
    have d1 : ((kind : Int) != 2) = true := by rw [bne_iff_ne]; omega
    clear HL1 HL2 HL3 hk
    go_enter Tryz.func61, Tryz.ntmps61
    go_wp2_with (first
      | (go_at_call 59; refine (HP.out _ HST.out).mono ?_; rintro e w2 ⟨rfl, hb2⟩; have HB2 := hide hb2; have HA3 := hide (fun o => (HST.out.below hb2).alloc o); clear hb2)
      | (go_at_call 58; refine (HF4.out _ (HA3.out _)).mono ?_; rintro e w4 ⟨rfl, ho4, hs4⟩; have HO4 := hide ((((OnlyX.refl X w).below HB2.out).alloc _).trans ho4); have HS4 := hide hs4; clear ho4 hs4))
    go_ret
    exact ⟨HO4.out, 0, _, rfl, Nat.zero_le _, HL.out, HS4.out⟩
set_option maxRecDepth 100000 in
set_option maxHeartbeats 2000000 in
theorem RName_calls (X : Nat) (s : RS) (c : Cfg) (w : World) (h : StAt X s c w) :
    Calls Tryz.prog 99 #[.pointer (some ⟨X, 0, none⟩)] w (RfV (takeT 3) textV (fun _ => True) X s c w) := by
  obtain ⟨t, r, hl⟩ := h.form
  have hP := fun W (hW : StAt X s c W) => RPeek_calls X s c t r hl W hW
  have hF4 := fun W (hW : StAt X s c W) => RFail_calls X s c 4 (by omega) t W hW
  have hT := fun W (hW : StAt X s c W) => RTake_calls X s c t r hl W hW
  have HL1 := hide (fun hk => name_noL hl hk noTok)
  have HL3 := hide (fun hk => name_okL hl hk)
  have HST := hide h
  obtain ⟨kind, text, v, li, co⟩ := t
  unfold tokV tokC at hP hF4 hT
  simp only at hP hF4 hT HL1 HL3
  obtain ⟨y, hy⟩ : ∃ y : ByteArray, y = ⟨text.toArray⟩ := ⟨_, rfl⟩
  rw [← hy] at hP hF4 hT
  have HY := hide hy
  have HP := hide hP
  have HF4 := hide hF4
  have HT := hide hT
  clear hP hF4 hT h hl hy
  by_cases hk : kind = 3
  · subst hk
    have HL := hide (HL3.out rfl)
    have fld := fun k v i j x w => rtok_f1 k v i j x w
    clear HL1 HL3
    go_enter Tryz.func99, Tryz.ntmps99
    go_wp2_with (first
      | (go_at_call 59; refine (HP.out _ HST.out).mono ?_; rintro e w2 ⟨rfl, hb2⟩; have HB2 := hide hb2; have HA3 := hide (fun o => (HST.out.below hb2).alloc o); clear hb2)
      | (go_at_call 60; refine (HT.out _ (HA3.out _)).mono ?_; rintro e w4 ⟨rfl, ho4, hs4⟩; have HO4 := hide ((((OnlyX.refl X w).below HB2.out).alloc _).trans ho4); have HS4 := hide hs4; clear ho4 hs4))
    go_ret
    exact ⟨HO4.out, _, _, (by rw [HY.out]; rfl), trivial, HL.out, HS4.out⟩
  · have HL := hide (HL1.out hk)
    have d1 : ((kind : Int) != 3) = true := by rw [bne_iff_ne]; omega
    clear HL1 HL3 hk
    go_enter Tryz.func99, Tryz.ntmps99
    go_wp2_with (first
      | (go_at_call 59; refine (HP.out _ HST.out).mono ?_; rintro e w2 ⟨rfl, hb2⟩; have HB2 := hide hb2; have HA3 := hide (fun o => (HST.out.below hb2).alloc o); clear hb2)
      | (go_at_call 58; refine (HF4.out _ (HA3.out _)).mono ?_; rintro e w4 ⟨rfl, ho4, hs4⟩; have HO4 := hide ((((OnlyX.refl X w).below HB2.out).alloc _).trans ho4); have HS4 := hide hs4; clear ho4 hs4))
    go_ret
    exact ⟨HO4.out, noTok, _, rfl, trivial, HL.out, HS4.out⟩
set_option maxRecDepth 100000 in
set_option maxHeartbeats 2000000 in
theorem RField_calls (word : ByteArray) (most : Nat) (X : Nat) (s : RS) (c : Cfg) (w : World) (h : StAt X s c w) :
    Calls Tryz.prog 26 #[.pointer (some ⟨X, 0, none⟩), .string word, .int .u64 (most : Int)] w (RfV (fieldT word.data.toList most) natV (fun n => n ≤ most) X s c w) := by
  have HW := hide (fun x s W (hW : StAt X s c W) => RWant_calls x X s c W hW)
  have HN := hide (fun s W (hW : StAt X s c W) => RNumber_calls most X s c W hW)
  have HST := hide h
  clear h
  go_enter Tryz.func26, Tryz.ntmps26
  go_wp2_with fail
  go_at_call 25; refine (HW.out _ _ _ HST.out).mono ?_; rintro e w2 ⟨ho2, _, s2, rfl, _, hl2, hs2⟩; have HO2 := hide ho2; have HL2 := hide hl2; have HS2 := hide hs2; clear ho2 hl2 hs2
  unfold unitV
  go_wp2_with fail
  go_at_call 61; refine (HN.out _ _ HS2.out).mono ?_; rintro e w3 ⟨ho3, n, s3, rfl, hn, hl3, hs3⟩; have HO3 := hide (HO2.out.trans ho3); have HL3 := hide hl3; have HS3 := hide hs3; clear ho3 hl3 hs3
  unfold natV
  go_wp2_with fail
  go_at_call 25; refine (HW.out _ _ _ HS3.out).mono ?_; rintro e w4 ⟨ho4, _, s4, rfl, _, hl4, hs4⟩; have HO4 := hide (HO3.out.trans ho4); have HL4 := hide hl4; have HS4 := hide hs4; clear ho4 hl4 hs4
  unfold unitV
  go_wp2_with fail
  go_ret
  exact ⟨HO4.out, n, s4, rfl, hn, Lf.field HL2.out HL3.out HL4.out, HS4.out⟩
end Go.Proofs.YtdpieljopelkhaaGreatDoor
namespace Go.Proofs.YtdpieljopelkhaaGreatDoor
open Go.RowKit Go.Lib
set_option linter.unusedVariables false

theorem Rid_calls (w : World) : Calls Tryz.prog 98 #[] w fun e w' => e = .returned (.int .u64 65535) ∧ w' = w := by
  go_enter Tryz.func98, Tryz.ntmps98
  go_wp2
  go_ret
  exact ⟨rfl, rfl⟩
theorem Rtop_calls (w : World) : Calls Tryz.prog 27 #[] w fun e w' => e = .returned (.int .u64 ((topN : Nat) : Int)) ∧ w' = w := by
  go_enter Tryz.func27, Tryz.ntmps27
  go_wp2
  go_ret
  exact ⟨rfl, rfl⟩
theorem rights_is (w : List UInt8) : ∀ i, i < 8 → (w == rightsW i) = decide (rightsN w = some i) := by
  intro i hi
  by_cases h : w = rightsW i
  · subst h
    rw [rights_word (by omega)]
    simp
  · rw [beq_eq_false_iff_ne.2 h]
    symm
    rw [decide_eq_false_iff_not]
    intro h2
    exact h (word_rights h2).2.symm
theorem sect_is (w : List UInt8) : (w == [112, 97, 114, 116, 105, 116, 105, 111, 110]) = decide (sectN w = 1) ∧ (w == [119, 105, 110, 100, 111, 119]) = decide (sectN w = 2) ∧ (w == [114, 101, 103, 105, 111, 110]) = decide (sectN w = 3) ∧ (w == [112, 111, 114, 116]) = decide (sectN w = 4) ∧ (w == [99, 104, 97, 110, 110, 101, 108]) = decide (sectN w = 5) := by
  unfold sectN
  by_cases h1 : w = [112, 97, 114, 116, 105, 116, 105, 111, 110]
  · subst h1; decide
  by_cases h2 : w = [119, 105, 110, 100, 111, 119]
  · subst h2; decide
  by_cases h3 : w = [114, 101, 103, 105, 111, 110]
  · subst h3; decide
  by_cases h4 : w = [112, 111, 114, 116]
  · subst h4; decide
  by_cases h5 : w = [99, 104, 97, 110, 110, 101, 108]
  · subst h5; decide
  rw [if_neg h1, if_neg h2, if_neg h3, if_neg h4, if_neg h5]
  simp [h1, h2, h3, h4, h5]
theorem sect_max (w : List UInt8) : sectN w ≤ 5 := by
  unfold sectN
  repeat (split; omega)
  omega
set_option maxRecDepth 100000 in
set_option maxHeartbeats 4000000 in
theorem RSection_calls (x : ByteArray) (w : World) : Calls Tryz.prog 62 #[.string x] w fun e w' => e = .returned (.int .i64 (sectN x.data.toList : Int)) ∧ w' = w := by
  obtain ⟨h1, h2, h3, h4, h5⟩ := sect_is x.data.toList
  have hm := sect_max x.data.toList
  rw [← ByteArray.toList_eq] at *
  generalize sectN x.toList = q at *
  rcases (show q = 0 ∨ q = 1 ∨ q = 2 ∨ q = 3 ∨ q = 4 ∨ q = 5 by omega) with rfl | rfl | rfl | rfl | rfl | rfl
  all_goals
    simp only [Nat.reduceEqDiff, decide_true, decide_false] at h1 h2 h3 h4 h5
    clear hm
    go_enter Tryz.func62, Tryz.ntmps62
    go_wp2
    go_ret
    exact ⟨rfl, rfl⟩
set_option maxRecDepth 100000 in
set_option maxHeartbeats 4000000 in
theorem RRightsN_calls (x : ByteArray) (w : World) : Calls Tryz.prog 15 #[.string x] w fun e w' => e = .returned (.int .i64 ((((rightsN x.data.toList).getD 99) : Nat) : Int)) ∧ w' = w := by
  have hb := rights_is x.data.toList
  have hr : ∀ r, rightsN x.data.toList = some r → r ≤ 7 := fun r h => (word_rights h).1
  rw [← ByteArray.toList_eq] at *
  generalize rightsN x.toList = q at *
  have h0 : (x.toList == [110, 111, 110, 101]) = decide (q = some 0) := hb 0 (by omega)
  have h1 : (x.toList == [114]) = decide (q = some 1) := hb 1 (by omega)
  have h2 : (x.toList == [119]) = decide (q = some 2) := hb 2 (by omega)
  have h3 : (x.toList == [114, 119]) = decide (q = some 3) := hb 3 (by omega)
  have h4 : (x.toList == [120]) = decide (q = some 4) := hb 4 (by omega)
  have h5 : (x.toList == [114, 120]) = decide (q = some 5) := hb 5 (by omega)
  have h6 : (x.toList == [119, 120]) = decide (q = some 6) := hb 6 (by omega)
  have h7 : (x.toList == [114, 119, 120]) = decide (q = some 7) := hb 7 (by omega)
  clear hb
  have hc : q = none ∨ q = some 0 ∨ q = some 1 ∨ q = some 2 ∨ q = some 3 ∨ q = some 4 ∨ q = some 5 ∨ q = some 6 ∨ q = some 7 := by
    cases q with
    | none => exact .inl rfl
    | some r =>
      have := hr r rfl
      rcases (show r = 0 ∨ r = 1 ∨ r = 2 ∨ r = 3 ∨ r = 4 ∨ r = 5 ∨ r = 6 ∨ r = 7 by omega) with rfl | rfl | rfl | rfl | rfl | rfl | rfl | rfl <;> simp
  clear hr
  rcases hc with rfl | rfl | rfl | rfl | rfl | rfl | rfl | rfl | rfl
  all_goals
    simp only [reduceCtorEq, Option.some.injEq, Nat.reduceEqDiff, decide_true, decide_false] at h0 h1 h2 h3 h4 h5 h6 h7
    go_enter Tryz.func15, Tryz.ntmps15
    go_wp2
    go_ret
    exact ⟨rfl, rfl⟩
end Go.Proofs.YtdpieljopelkhaaGreatDoor
namespace Go.Proofs.YtdpieljopelkhaaGreatDoor
open Go.RowKit Go.Lib
set_option linter.unusedVariables false

section
variable {s s1 s2 : RS} {t : Token} {r : List Token}
theorem rights_kindL (hl : s.l = t :: r) (hk : t.kind ≠ 1) : Lf rightsT s 0 (failS 4 t s) := fail_lf fun _ => by
  rw [hl]; unfold rightsT bindT takeT; simp only; rw [if_neg hk]
theorem rights_noL (hl : s.l = t :: r) (hk : t.kind = 1) (hn : rightsN t.text = none) : Lf rightsT s 0 (failS 4 t s) := fail_lf fun _ => by
  rw [hl]; unfold rightsT bindT takeT; simp only; rw [if_pos hk]; simp only; rw [hn]
theorem rights_okL (hl : s.l = t :: r) (hk : t.kind = 1) {n : Nat} (hn : rightsN t.text = some n) : Lf rightsT s n (takeS s) := take_lf hl (by omega) (by
  unfold rightsT bindT takeT; simp only; rw [if_pos hk]; simp only; rw [hn]; rfl)
theorem choice_yesL {a b : List UInt8} (hi : isR b s = true) (h1 : Lf (wantT b) s () s1) {u : Unit} (h2 : Lf (wantT [59]) s1 u s2) : Lf (choiceT a b) s true s2 := by
  obtain ⟨he, hb⟩ := isR_true hi
  refine (h1.bind (f := fun _ => bindT (wantT [59]) fun _ => pureT true) (h2.bind (Lf.pure true s2))).like (fun _ => ?_)
  unfold choiceT
  rw [if_pos hb]
theorem choice_noL {a b : List UInt8} (hb : isR b s = false) (hi : isR a s = true) (h1 : Lf (wantT a) s () s1) {u : Unit} (h2 : Lf (wantT [59]) s1 u s2) : Lf (choiceT a b) s false s2 := by
  obtain ⟨he, ha⟩ := isR_true hi
  refine (h1.bind (f := fun _ => bindT (wantT [59]) fun _ => pureT false) (h2.bind (Lf.pure false s2))).like (fun _ => ?_)
  have hb2 : isT b s.l = false := by unfold isR at hb; rw [he] at hb; exact hb
  unfold choiceT
  rw [hb2]
  rfl
theorem choice_badL {a b : List UInt8} (hl : s.l = t :: r) (hb : isR b s = false) (ha : isR a s = false) : Lf (choiceT a b) s false (failS 4 t s) := fail_lf fun he => by
  have hb2 : isT b s.l = false := by unfold isR at hb; rw [he] at hb; exact hb
  have ha2 : isT a s.l = false := by unfold isR at ha; rw [he] at ha; exact ha
  unfold choiceT
  rw [hb2]
  show bindT (wantT a) _ s.l = _
  unfold bindT
  rw [want_no ha2, hl]
  rfl
end
def u8V (n : Nat) : Value := .int .u8 (n : Int)
set_option maxRecDepth 100000 in
set_option maxHeartbeats 2000000 in
theorem RRights7_calls (X : Nat) (s : RS) (c : Cfg) (w : World) (h : StAt X s c w) :
    Calls Tryz.prog 100 #[.pointer (some ⟨X, 0, none⟩)] w (RfV rightsT u8V (fun n => n ≤ 7) X s c w) := by
  obtain ⟨t, r, hl⟩ := h.form
  have hP := fun W (hW : StAt X s c W) => RPeek_calls X s c t r hl W hW
  have hF4 := fun W (hW : StAt X s c W) => RFail_calls X s c 4 (by omega) t W hW
  have hT := fun W (hW : StAt X s c W) => RTake_calls X s c t r hl W hW
  have HL1 := hide (fun hk => rights_kindL hl hk)
  have HL2 := hide (fun hk hn => rights_noL hl hk hn)
  have HL3 := hide (fun n hk hn => rights_okL hl hk (n := n) hn)
  have HST := hide h
  obtain ⟨kind, text, v, li, co⟩ := t
  unfold tokV tokC at hP hF4 hT
  simp only at hP hF4 hT HL1 HL2 HL3
  obtain ⟨y, hy⟩ : ∃ y : ByteArray, y = ⟨text.toArray⟩ := ⟨_, rfl⟩
  have hyt : text = y.data.toList := by rw [hy]
  rw [← hy] at hP hF4 hT
  have hR := fun W => RRightsN_calls y W
  rw [← hyt] at hR
  have HP := hide hP
  have HF4 := hide hF4
  have HT := hide hT
  clear hP hF4 hT h hl hy hyt
  by_cases hk : kind = 1
  · subst hk
    have hrr : ∀ n, rightsN text = some n → n ≤ 7 := fun n h => (word_rights h).1
    cases hq : rightsN text with
    | none =>
      have HL := hide (HL2.out rfl hq)
      rw [hq] at hR
      have HR : Hid (∀ W, Calls Tryz.prog 15 #[.string y] W fun e w' => e = .returned (.int .i64 99) ∧ w' = W) := hide hR
      clear HL1 HL2 HL3 hR hq hrr
      go_enter Tryz.func100, Tryz.ntmps100
      go_wp2_with (first
        | (go_at_call 59; refine (HP.out _ HST.out).mono ?_; rintro e w2 ⟨rfl, hb2⟩; have HB2 := hide hb2; have HA3 := hide (fun o => (HST.out.below hb2).alloc o); clear hb2)
        | (go_at_call 15; refine (HR.out _).mono ?_; rintro e w3 ⟨rfl, rfl⟩)
        | (go_at_call 58; refine (HF4.out _ (HA3.out _)).mono ?_; rintro e w4 ⟨rfl, ho4, hs4⟩; have HO4 := hide ((((OnlyX.refl X w).below HB2.out).alloc _).trans ho4); have HS4 := hide hs4; clear ho4 hs4))
      go_ret
      exact ⟨HO4.out, 0, _, rfl, Nat.zero_le _, HL.out, HS4.out⟩
    | some n =>
      have hn := hrr n hq
      have HL := hide (HL3.out n rfl hq)
      rw [hq] at hR
      have HR : Hid (∀ W, Calls Tryz.prog 15 #[.string y] W fun e w' => e = .returned (.int .i64 (n : Int)) ∧ w' = W) := hide hR
      have d1 : decide ((7 : Int) < (n : Int)) = false := by simp; omega
      have d2 : decide (7 < n) = false := by simp; omega
      have wn : IntKind.u8.wrap (n : Int) = (n : Int) := by rw [IntKind.wrap_u8]; omega
      have fld := fun k v i j x w => rtok_f1 k v i j x w
      clear HL1 HL2 HL3 hR hq hrr
      go_enter Tryz.func100, Tryz.ntmps100
      go_wp2_with (first
        | (go_at_call 59; refine (HP.out _ HST.out).mono ?_; rintro e w2 ⟨rfl, hb2⟩; have HB2 := hide hb2; have HA3 := hide (fun o => (HST.out.below hb2).alloc o); clear hb2)
        | (go_at_call 15; refine (HR.out _).mono ?_; rintro e w3 ⟨rfl, rfl⟩)
        | (go_at_call 60; refine (HT.out _ (HA3.out _)).mono ?_; rintro e w4 ⟨rfl, ho4, hs4⟩; have HO4 := hide ((((OnlyX.refl X w).below HB2.out).alloc _).trans ho4); have HS4 := hide hs4; clear ho4 hs4))
      go_ret
      exact ⟨HO4.out, n, _, rfl, hn, HL.out, HS4.out⟩
  · have HL := hide (HL1.out hk)
    have d1 : ((kind : Int) != 1) = true := by rw [bne_iff_ne]; omega
    clear HL1 HL2 HL3 hk hR
    go_enter Tryz.func100, Tryz.ntmps100
    go_wp2_with (first
      | (go_at_call 59; refine (HP.out _ HST.out).mono ?_; rintro e w2 ⟨rfl, hb2⟩; have HB2 := hide hb2; have HA3 := hide (fun o => (HST.out.below hb2).alloc o); clear hb2)
      | (go_at_call 58; refine (HF4.out _ (HA3.out _)).mono ?_; rintro e w4 ⟨rfl, ho4, hs4⟩; have HO4 := hide ((((OnlyX.refl X w).below HB2.out).alloc _).trans ho4); have HS4 := hide hs4; clear ho4 hs4))
    go_ret
    exact ⟨HO4.out, 0, _, rfl, Nat.zero_le _, HL.out, HS4.out⟩
set_option maxRecDepth 100000 in
set_option maxHeartbeats 2000000 in
theorem RChoice_calls (a b : ByteArray) (X : Nat) (s : RS) (c : Cfg) (w : World) (h : StAt X s c w) :
    Calls Tryz.prog 101 #[.pointer (some ⟨X, 0, none⟩), .string a, .string b] w (RfV (choiceT a.data.toList b.data.toList) (fun q => .bool q) (fun _ => True) X s c w) := by
  obtain ⟨t, r, hl⟩ := h.form
  have HI := hide (fun x W (hW : StAt X s c W) => RIs_calls x X s c t r hl W hW)
  have HP := hide (fun W (hW : StAt X s c W) => RPeek_calls X s c t r hl W hW)
  have HF := hide (fun W (hW : StAt X s c W) => RFail_calls X s c 4 (by omega) t W hW)
  have HT := hide (fun W (hW : StAt X s c W) => RTake_calls X s c t r hl W hW)
  have HW := hide (fun s W (hW : StAt X s c W) => RWant_calls ⟨#[59]⟩ X s c W hW)
  have HST := hide h
  cases hb : isR b.data.toList s with
  | true =>
    have HL1 := hide (want_yesL hl hb)
    have HB := hide hb
    have HIb := hide (fun W hW => HI.out b W hW)
    rw [hb] at HIb
    clear h hl hb
    go_enter Tryz.func101, Tryz.ntmps101
    go_wp2_with (first
      | (go_at_call 57; refine (HIb.out _ HST.out).mono ?_; rintro e w2 ⟨rfl, hb2⟩; have HA2 := hide (HST.out.below hb2); have HO2 := hide ((OnlyX.refl X w).below hb2); clear hb2)
      | (go_at_call 60; refine (HT.out _ HA2.out).mono ?_; rintro e w3 ⟨rfl, ho3, hs3⟩; have HO3 := hide (HO2.out.trans ho3); have HS3 := hide hs3; clear ho3 hs3)
      | (go_at_call 25; refine (HW.out _ _ HS3.out).mono ?_; rintro e w4 ⟨ho4, u4, s4, rfl, _, hl4, hs4⟩; have HO4 := hide (HO3.out.trans ho4); have HL4 := hide hl4; have HS4 := hide hs4; clear ho4 hl4 hs4; unfold unitV))
    go_ret
    exact ⟨HO4.out, true, s4, rfl, trivial, choice_yesL HB.out HL1.out HL4.out, HS4.out⟩
  | false =>
    have HB := hide hb
    have HIb := hide (fun W hW => HI.out b W hW)
    rw [hb] at HIb
    cases ha : isR a.data.toList s with
    | true =>
      have HL1 := hide (want_yesL hl ha)
      have HAA := hide ha
      have HIa := hide (fun W hW => HI.out a W hW)
      rw [ha] at HIa
      clear h hl hb ha
      go_enter Tryz.func101, Tryz.ntmps101
      go_wp2_with fail
      go_at_call 57; refine (HIb.out _ HST.out).mono ?_; rintro e w2 ⟨rfl, hb2⟩; have HA2 := hide (HST.out.below hb2); have HO2 := hide ((OnlyX.refl X w).below hb2); clear hb2
      go_wp2_with fail
      go_at_call 57; refine (HIa.out _ HA2.out).mono ?_; rintro e w7 ⟨rfl, hb7⟩; have HA7 := hide (HA2.out.below hb7); have HO7 := hide (HO2.out.below hb7); clear hb7
      go_wp2_with (first
        | (go_at_call 60; refine (HT.out _ HA7.out).mono ?_; rintro e w3 ⟨rfl, ho3, hs3⟩; have HO3 := hide (HO7.out.trans ho3); have HS3 := hide hs3; clear ho3 hs3)
        | (go_at_call 25; refine (HW.out _ _ HS3.out).mono ?_; rintro e w4 ⟨ho4, u4, s4, rfl, _, hl4, hs4⟩; have HO4 := hide (HO3.out.trans ho4); have HL4 := hide hl4; have HS4 := hide hs4; clear ho4 hl4 hs4; unfold unitV))
      go_ret
      exact ⟨HO4.out, false, s4, rfl, trivial, choice_noL HB.out HAA.out HL1.out HL4.out, HS4.out⟩
    | false =>
      have HL1 := hide (choice_badL hl hb ha)
      have HIa := hide (fun W hW => HI.out a W hW)
      rw [ha] at HIa
      clear h hl hb ha
      go_enter Tryz.func101, Tryz.ntmps101
      go_wp2_with fail
      go_at_call 57; refine (HIb.out _ HST.out).mono ?_; rintro e w2 ⟨rfl, hb2⟩; have HA2 := hide (HST.out.below hb2); have HO2 := hide ((OnlyX.refl X w).below hb2); clear hb2
      go_wp2_with fail
      go_at_call 57; refine (HIa.out _ HA2.out).mono ?_; rintro e w7 ⟨rfl, hb7⟩; have HA7 := hide (HA2.out.below hb7); have HO7 := hide (HO2.out.below hb7); clear hb7
      go_wp2_with (first
        | (go_at_call 59; refine (HP.out _ HA7.out).mono ?_; rintro e w3 ⟨rfl, hb3⟩; have HA3 := hide (HA7.out.below hb3); have HO3 := hide (HO7.out.below hb3); clear hb3)
        | (go_at_call 58; refine (HF.out _ HA3.out).mono ?_; rintro e w4 ⟨rfl, ho4, hs4⟩; have HO4 := hide (HO3.out.trans ho4); have HS4 := hide hs4; clear ho4 hs4))
      go_ret
      exact ⟨HO4.out, false, _, rfl, trivial, HL1.out, HS4.out⟩
end Go.Proofs.YtdpieljopelkhaaGreatDoor
