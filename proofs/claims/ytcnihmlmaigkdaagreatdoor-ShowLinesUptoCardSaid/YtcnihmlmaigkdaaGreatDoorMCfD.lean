/- A configuration as plain data, how its records lie in memory. A configuration whose rows are the call's own, grown record by record (chapter 07). -/
import Derived.Test.YtcnihmlmaigkdaaGreatDoorMMem
import Derived.Deep.Slices
import Derived.Deep.Fields
import Derived.ChangeSame
import Derived.Lib.SmallJoins
namespace Go.Proofs.YtcnihmlmaigkdaaGreatDoor
open Go.RowKit Go.WideShapes Go.ChangeShapes Go.WideElems Go.Deep Go.Joins
set_option linter.unusedVariables false

structure PartR where
  id : Nat
  name : ByteArray
  per : Nat
  dur : Nat
  deriving DecidableEq
structure WinR where
  st : Nat
  len : Nat
  part : Nat
  deriving DecidableEq
structure RegR where
  base : Nat
  size : Nat
  part : Nat
  rights : Nat
  shared : Bool
  deriving DecidableEq
structure PortR where
  id : Nat
  part : Nat
  name : ByteArray
  out : Bool
  que : Bool
  size : Nat
  deriving DecidableEq
/-- A channel with the address of its destinations. -/
structure ChanR where
  id : Nat
  src : Nat
  dests : List Nat
  at_ : Option Addr
  cap : Nat
/-- A slice: its elements, its address, its capacity. -/
structure Row (α : Type) where
  l : List α
  a : Option Addr
  c : Nat
structure Cfg where
  frame : Nat
  parts : Row PartR
  wins : Row WinR
  regs : Row RegR
  ports : Row PortR
  chans : Row ChanR

def partL (p : PartR) : List Value := [.int .u16 (p.id : Int), .string p.name, .int .u64 (p.per : Int), .int .u64 (p.dur : Int)]
def winL (x : WinR) : List Value := [.int .u64 (x.st : Int), .int .u64 (x.len : Int), .int .u16 (x.part : Int)]
def regL (r : RegR) : List Value := [.int .u64 (r.base : Int), .int .u64 (r.size : Int), .int .u16 (r.part : Int), .int .u8 (r.rights : Int), .bool r.shared]
def portL (p : PortR) : List Value := [.int .u16 (p.id : Int), .int .u16 (p.part : Int), .string p.name, .bool p.out, .bool p.que, .int .u32 (p.size : Int)]
def chanL (c : ChanR) : List Value := [.int .u16 (c.id : Int), .int .u16 (c.src : Int), .slice c.at_ c.dests.length c.cap]
theorem partL_len (p : PartR) : (partL p).length = 4 := rfl
theorem winL_len (p : WinR) : (winL p).length = 3 := rfl
theorem regL_len (p : RegR) : (regL p).length = 5 := rfl
theorem portL_len (p : PortR) : (portL p).length = 6 := rfl
theorem chanL_len (p : ChanR) : (chanL p).length = 3 := rfl
def destL (n : Nat) : Value := .int .u16 (n : Int)

def PartR.Ok (p : PartR) : Prop := p.id < 65536 ∧ p.name.size ≤ 9223372036854775807 ∧ p.per < 18446744073709551616 ∧ p.dur < 18446744073709551616
def WinR.Ok (x : WinR) : Prop := x.st < 18446744073709551616 ∧ x.len < 18446744073709551616 ∧ x.part < 65536
def RegR.Ok (x : RegR) : Prop := x.base < 18446744073709551616 ∧ x.size < 18446744073709551616 ∧ x.part < 65536 ∧ x.rights < 256
def PortR.Ok (p : PortR) : Prop := p.id < 65536 ∧ p.part < 65536 ∧ p.name.size ≤ 9223372036854775807 ∧ p.size < 4294967296
def ChanR.Ok (c : ChanR) : Prop := c.id < 65536 ∧ c.src < 65536 ∧ ∀ d ∈ c.dests, d < 65536

/-- A slice of records lies below block B. -/
def RowAt {α : Type} (enc : α → List Value) (k B : Nat) (r : Row α) (w : World) : Prop := Reads w B k r.a r.l.length (r.l.flatMap enc) ∧ r.l.length ≤ r.c ∧ r.c ≤ 9223372036854775807
def DestsAt (B : Nat) (c : ChanR) (w : World) : Prop := Reads w B 1 c.at_ c.dests.length (c.dests.map destL) ∧ c.dests.length ≤ c.cap ∧ c.cap ≤ 9223372036854775807
section
variable {α : Type} {enc : α → List Value} {k B B' : Nat} {r : Row α} {w w' : World}
theorem RowAt.below (h : RowAt enc k B r w) (hb : Below B w w') : RowAt enc k B r w' := ⟨h.1.below hb, h.2⟩
theorem RowAt.more (h : RowAt enc k B r w) (hB : B ≤ B') : RowAt enc k B' r w := ⟨h.1.more hB, h.2⟩
theorem addr_plain (b o j : Nat) : (⟨b, o, none⟩ : Addr).add j = ⟨b, o + j, none⟩ := by
  unfold Addr.add
  by_cases h : j = 0
  · subst h; simp
  · simp [h]
theorem addr_of_cell {w : World} {a : Addr} {v : Value} (h : w.cell? a = some v) : a = ⟨a.block, a.off, none⟩ := by
  obtain ⟨b, o, p⟩ := a
  cases p with
  | none => rfl
  | some p =>
    simp [World.cell?] at h
    split at h <;> cases h
/-- An element's cells. -/
theorem RowAt.at_ (h : RowAt enc k B r w) (hk : ∀ x, (enc x).length = k) (hk0 : 0 < k) (i : Nat) (hi : i < r.l.length) :
    ∃ b o, r.a = some ⟨b, o, none⟩ ∧ b < B ∧ ∀ j, j < k → w.cell? ⟨b, o + i * k + j, none⟩ = (enc r.l[i])[j]? := by
  obtain ⟨ad, e, hb, hc⟩ := h.1.2 (by omega)
  have get : ∀ i (hi : i < r.l.length) j, j < k → w.cell? (ad.add (i * k + j)) = (enc r.l[i])[j]? := by
    intro i hi j hj
    have h0 := flat_get enc k hk r.l i j hi hj
    have hs : (enc r.l[i])[j]? = some ((enc r.l[i])[j]'(by rw [hk]; exact hj)) := List.getElem?_eq_getElem _
    rw [hs] at h0 ⊢
    exact hc _ _ h0
  have h00 := get 0 (by omega) 0 hk0
  rw [List.getElem?_eq_getElem (by rw [hk]; exact hk0)] at h00
  have hz := addr_of_cell h00
  rw [Nat.zero_mul, Nat.add_zero] at hz
  obtain ⟨b, o, p⟩ := ad
  have hp : p = none := by
    have := congrArg Addr.spot hz
    simpa [Addr.add] using this
  subst hp
  refine ⟨b, o, e, hb, fun j hj => ?_⟩
  have := get i hi j hj
  rw [addr_plain] at this
  rw [← this, Nat.add_assoc]
end
section
variable {B : Nat} {w : World}
theorem part_at {r : Row PartR} (h : RowAt partL 4 B r w) (i : Nat) (hi : i < r.l.length) :
    ∃ b o, r.a = some ⟨b, o, none⟩ ∧ b < B ∧ w.cell? ⟨b, o + i * 4, none⟩ = some (.int .u16 (r.l[i].id : Int)) ∧ w.cell? ⟨b, o + i * 4 + 1, none⟩ = some (.string r.l[i].name) ∧ w.cell? ⟨b, o + i * 4 + 2, none⟩ = some (.int .u64 (r.l[i].per : Int)) ∧ w.cell? ⟨b, o + i * 4 + 3, none⟩ = some (.int .u64 (r.l[i].dur : Int)) := by
  obtain ⟨b, o, e, hb, hc⟩ := h.at_ partL_len (by omega) i hi
  exact ⟨b, o, e, hb, hc 0 (by omega), hc 1 (by omega), hc 2 (by omega), hc 3 (by omega)⟩
theorem win_at {r : Row WinR} (h : RowAt winL 3 B r w) (i : Nat) (hi : i < r.l.length) :
    ∃ b o, r.a = some ⟨b, o, none⟩ ∧ b < B ∧ w.cell? ⟨b, o + i * 3, none⟩ = some (.int .u64 (r.l[i].st : Int)) ∧ w.cell? ⟨b, o + i * 3 + 1, none⟩ = some (.int .u64 (r.l[i].len : Int)) ∧ w.cell? ⟨b, o + i * 3 + 2, none⟩ = some (.int .u16 (r.l[i].part : Int)) := by
  obtain ⟨b, o, e, hb, hc⟩ := h.at_ winL_len (by omega) i hi
  exact ⟨b, o, e, hb, hc 0 (by omega), hc 1 (by omega), hc 2 (by omega)⟩
theorem reg_at {r : Row RegR} (h : RowAt regL 5 B r w) (i : Nat) (hi : i < r.l.length) :
    ∃ b o, r.a = some ⟨b, o, none⟩ ∧ b < B ∧ w.cell? ⟨b, o + i * 5, none⟩ = some (.int .u64 (r.l[i].base : Int)) ∧ w.cell? ⟨b, o + i * 5 + 1, none⟩ = some (.int .u64 (r.l[i].size : Int)) ∧ w.cell? ⟨b, o + i * 5 + 2, none⟩ = some (.int .u16 (r.l[i].part : Int)) ∧ w.cell? ⟨b, o + i * 5 + 3, none⟩ = some (.int .u8 (r.l[i].rights : Int)) ∧ w.cell? ⟨b, o + i * 5 + 4, none⟩ = some (.bool r.l[i].shared) := by
  obtain ⟨b, o, e, hb, hc⟩ := h.at_ regL_len (by omega) i hi
  exact ⟨b, o, e, hb, hc 0 (by omega), hc 1 (by omega), hc 2 (by omega), hc 3 (by omega), hc 4 (by omega)⟩
theorem port_at {r : Row PortR} (h : RowAt portL 6 B r w) (i : Nat) (hi : i < r.l.length) :
    ∃ b o, r.a = some ⟨b, o, none⟩ ∧ b < B ∧ w.cell? ⟨b, o + i * 6, none⟩ = some (.int .u16 (r.l[i].id : Int)) ∧ w.cell? ⟨b, o + i * 6 + 1, none⟩ = some (.int .u16 (r.l[i].part : Int)) ∧ w.cell? ⟨b, o + i * 6 + 2, none⟩ = some (.string r.l[i].name) ∧ w.cell? ⟨b, o + i * 6 + 3, none⟩ = some (.bool r.l[i].out) ∧ w.cell? ⟨b, o + i * 6 + 4, none⟩ = some (.bool r.l[i].que) ∧ w.cell? ⟨b, o + i * 6 + 5, none⟩ = some (.int .u32 (r.l[i].size : Int)) := by
  obtain ⟨b, o, e, hb, hc⟩ := h.at_ portL_len (by omega) i hi
  exact ⟨b, o, e, hb, hc 0 (by omega), hc 1 (by omega), hc 2 (by omega), hc 3 (by omega), hc 4 (by omega), hc 5 (by omega)⟩
theorem chan_at {r : Row ChanR} (h : RowAt chanL 3 B r w) (i : Nat) (hi : i < r.l.length) :
    ∃ b o, r.a = some ⟨b, o, none⟩ ∧ b < B ∧ w.cell? ⟨b, o + i * 3, none⟩ = some (.int .u16 (r.l[i].id : Int)) ∧ w.cell? ⟨b, o + i * 3 + 1, none⟩ = some (.int .u16 (r.l[i].src : Int)) ∧ w.cell? ⟨b, o + i * 3 + 2, none⟩ = some (.slice r.l[i].at_ r.l[i].dests.length r.l[i].cap) := by
  obtain ⟨b, o, e, hb, hc⟩ := h.at_ chanL_len (by omega) i hi
  exact ⟨b, o, e, hb, hc 0 (by omega), hc 1 (by omega), hc 2 (by omega)⟩
end

/-- The configuration lies below block B. -/
structure CfgAt (B : Nat) (c : Cfg) (w : World) : Prop where
  parts : RowAt partL 4 B c.parts w
  wins : RowAt winL 3 B c.wins w
  regs : RowAt regL 5 B c.regs w
  ports : RowAt portL 6 B c.ports w
  chans : RowAt chanL 3 B c.chans w
  dests : ∀ x ∈ c.chans.l, DestsAt B x w
structure Cfg.Ok (c : Cfg) : Prop where
  frame : c.frame < 18446744073709551616
  parts : ∀ x ∈ c.parts.l, x.Ok
  wins : ∀ x ∈ c.wins.l, x.Ok
  regs : ∀ x ∈ c.regs.l, x.Ok
  ports : ∀ x ∈ c.ports.l, x.Ok
  chans : ∀ x ∈ c.chans.l, x.Ok
section
variable {B B' : Nat} {c : Cfg} {w w' : World}
theorem DestsAt.below {x : ChanR} (h : DestsAt B x w) (hb : Below B w w') : DestsAt B x w' := ⟨h.1.below hb, h.2⟩
theorem DestsAt.more {x : ChanR} (h : DestsAt B x w) (hB : B ≤ B') : DestsAt B' x w := ⟨h.1.more hB, h.2⟩
theorem CfgAt.below (h : CfgAt B c w) (hb : Below B w w') : CfgAt B c w' := ⟨h.parts.below hb, h.wins.below hb, h.regs.below hb, h.ports.below hb, h.chans.below hb, fun x hx => (h.dests x hx).below hb⟩
theorem CfgAt.more (h : CfgAt B c w) (hB : B ≤ B') : CfgAt B' c w := ⟨h.parts.more hB, h.wins.more hB, h.regs.more hB, h.ports.more hB, h.chans.more hB, fun x hx => (h.dests x hx).more hB⟩
end
def linksN (l : List ChanR) : Nat := (l.map fun x => x.dests.length).sum
def Cfg.Small (c : Cfg) : Prop := c.parts.l.length + c.wins.l.length + c.regs.l.length + c.ports.l.length + c.chans.l.length + linksN c.chans.l ≤ 1048576
theorem sum_ones {α : Type} (l : List α) : (l.map fun _ => 1).sum = l.length := by
  induction l with
  | nil => rfl
  | cons x l ih => simp only [List.map_cons, List.sum_cons, ih, List.length_cons]; omega
theorem sum_dests (l : List ChanR) : (l.map fun x => x.dests.length + 1).sum = linksN l + l.length := by
  unfold linksN
  induction l with
  | nil => rfl
  | cons x l ih => simp only [List.map_cons, List.sum_cons, ih, List.length_cons]; omega
/-- The value. -/
def cfgV (c : Cfg) : Value := .agg #[.int .u64 (c.frame : Int), .slice c.parts.a c.parts.l.length c.parts.c, .slice c.wins.a c.wins.l.length c.wins.c, .slice c.regs.a c.regs.l.length c.regs.c, .slice c.ports.a c.ports.l.length c.ports.c, .slice c.chans.a c.chans.l.length c.chans.c]

theorem flat_one : ∀ l : List Nat, l.flatMap (fun x => [destL x]) = l.map destL
  | [] => rfl
  | x :: l => by rw [List.flatMap_cons, flat_one l]; rfl
end Go.Proofs.YtcnihmlmaigkdaaGreatDoor
namespace Go.Proofs.YtcnihmlmaigkdaaGreatDoor
open Go.RowKit
set_option linter.unusedVariables false

theorem own_types {w : World} {base base' size size' n n' : Nat} {e e' : TypeId} {v v' : Value} {xs xs' : List Value} (h : w.ownsRow base e size v n xs) (h' : w.ownsRow base' e' size' v' n' xs') (hne : e ≠ e') : v.ownBlock = none ∨ v.ownBlock ≠ v'.ownBlock := by
  rcases h.2 with ⟨rfl, _⟩ | ⟨g, cap, cur, rfl, hbs, hg, rest⟩
  · exact .inl rfl
  · right
    intro he
    have he : some g = v'.ownBlock := he
    rcases h'.2 with ⟨rfl, _⟩ | ⟨g', cap', cur', rfl, hbs', hg', rest'⟩
    · simp [Value.ownBlock] at he
    · have he : g = g' := by simpa [Value.ownBlock] using he
      subst he
      exact Blk.ne_ (t := e) (t' := e') hg hg' hne rfl
theorem own_old {w : World} {base size n B : Nat} {e : TypeId} {v : Value} {xs : List Value} (h : w.ownsRow base e size v n xs) (row : Option Nat) (hr : ∀ r, row = some r → w.heap.size ≤ r) : v.ownBlock = none ∨ v.ownBlock ≠ row := by
  rcases h.2 with ⟨rfl, _⟩ | ⟨g, cap, cur, rfl, hbs, hg, rest⟩
  · exact .inl rfl
  · right
    intro he
    have h1 := hr g (by rw [← he]; rfl)
    have h2 : g < w.heap.size := Blk.lt (t := e) hg
    omega
theorem own_row {α : Type} {enc : α → List Value} {k B : Nat} {e : TypeId} {r : Row α} {w : World} (h : w.ownsRow B e k (.slice r.a r.l.length r.c) r.l.length (r.l.flatMap enc)) : RowAt enc k w.heap.size r w := by
  refine ⟨Reads.of_own h, ?_, ?_⟩
  · rcases h.2 with ⟨hv, h0⟩ | ⟨g, cap, cur, hv, _, _, h1, h2, _⟩
    · injection hv with _ _ h3; omega
    · injection hv with _ _ h3; omega
  · rcases h.2 with ⟨hv, h0⟩ | ⟨g, cap, cur, hv, _, _, h1, h2, _⟩
    · injection hv with _ _ h3; omega
    · injection hv with _ _ h3; subst h3; simpa [maxLen] using h2

/-- The rows of the configuration are the call's own: blocks of B or later. -/
structure OwnC (B : Nat) (c : Cfg) (w : World) : Prop where
  parts : w.ownsRow B 66 4 (.slice c.parts.a c.parts.l.length c.parts.c) c.parts.l.length (c.parts.l.flatMap partL)
  wins : w.ownsRow B 69 3 (.slice c.wins.a c.wins.l.length c.wins.c) c.wins.l.length (c.wins.l.flatMap winL)
  regs : w.ownsRow B 54 5 (.slice c.regs.a c.regs.l.length c.regs.c) c.regs.l.length (c.regs.l.flatMap regL)
  ports : w.ownsRow B 74 6 (.slice c.ports.a c.ports.l.length c.ports.c) c.ports.l.length (c.ports.l.flatMap portL)
  chans : w.ownsRow B 57 3 (.slice c.chans.a c.chans.l.length c.chans.c) c.chans.l.length (c.chans.l.flatMap chanL)
  dests : ∀ x ∈ c.chans.l, w.ownsRow B 52 1 (.slice x.at_ x.dests.length x.cap) x.dests.length (x.dests.map destL)
def zeroC : Cfg := ⟨0, ⟨[], none, 0⟩, ⟨[], none, 0⟩, ⟨[], none, 0⟩, ⟨[], none, 0⟩, ⟨[], none, 0⟩⟩
/-- A type that no row of a configuration has. -/
def NoRow (T : TypeId) : Bool := T != 66 && T != 69 && T != 54 && T != 74 && T != 57 && T != 52
section
variable {B B' X : Nat} {c : Cfg} {w w' W : World}
theorem OwnC.zero (B n : Nat) (w : World) : OwnC B { zeroC with frame := n } w := ⟨World.ownsRow_nil _ _ _ _, World.ownsRow_nil _ _ _ _, World.ownsRow_nil _ _ _ _, World.ownsRow_nil _ _ _ _, World.ownsRow_nil _ _ _ _, fun x hx => by cases hx⟩
theorem OwnC.below (h : OwnC B c w) (hb : Below w.heap.size w w') : OwnC B c w' :=
  ⟨own_below h.parts hb, own_below h.wins hb, own_below h.regs hb, own_below h.ports hb, own_below h.chans hb, fun x hx => own_below (h.dests x hx) hb⟩
theorem OwnC.base (h : OwnC B c w) (hB : B' ≤ B) : OwnC B' c w :=
  ⟨own_base h.parts hB, own_base h.wins hB, own_base h.regs hB, own_base h.ports hB, own_base h.chans hB, fun x hx => own_base (h.dests x hx) hB⟩
theorem OwnC.frame (h : OwnC B c w) (n : Nat) : OwnC B { c with frame := n } w := ⟨h.parts, h.wins, h.regs, h.ports, h.chans, h.dests⟩
theorem OwnC.alloc (h : OwnC B c w) (o : Obj) : OwnC B c (w.alloc o) := h.below ((Below.refl _ w).alloc (Nat.le_refl _) o)
theorem OwnC.drew (h : OwnC B c w) : OwnC B c w.drew := h.below (Below.drew (Below.refl _ w))
/-- A turn of block X alone, of another type, leaves the rows. -/
theorem OwnC.but {T : TypeId} {cs : Array Value} (h : OwnC B c w) (hb : But (fun k => k = X) w w') (hX : Blk w X T cs) (hT : NoRow T = true) : OwnC B c w' := by
  simp only [NoRow, Bool.and_eq_true, bne_iff_ne, ne_eq] at hT
  obtain ⟨⟨⟨⟨⟨h1, h2⟩, h3⟩, h4⟩, h5⟩, h6⟩ := hT
  have go : ∀ {e : TypeId} {size n : Nat} {v : Value} {xs : List Value}, w.ownsRow B e size v n xs → e ≠ T → w'.ownsRow B e size v n xs := fun ho hne =>
    own_but ho hb (fun k hk e => by subst e; exact own_blk_ne ho hX hne hk)
  exact ⟨go h.parts (Ne.symm h1), go h.wins (Ne.symm h2), go h.regs (Ne.symm h3), go h.ports (Ne.symm h4), go h.chans (Ne.symm h5), fun x hx => go (h.dests x hx) (Ne.symm h6)⟩
theorem OwnC.setCell {T : TypeId} {cs : Array Value} (h : OwnC B c w) (hX : Blk w X T cs) (hT : NoRow T = true) (i : Nat) (u : Value) : OwnC B c (w.setCell ⟨X, i, none⟩ u) :=
  h.but (But.setCell (M := fun k => k = X) (p := ⟨X, i, none⟩) (But.refl _ w) (.inl rfl) u) hX hT
theorem OwnC.at_ (h : OwnC B c w) : CfgAt w.heap.size c w :=
  ⟨own_row h.parts, own_row h.wins, own_row h.regs, own_row h.ports, own_row h.chans, fun x hx => by
    have := own_row (enc := fun x => [destL x]) (r := ⟨x.dests, x.at_, x.cap⟩) (by rw [flat_one]; exact h.dests x hx)
    refine ⟨?_, this.2⟩
    have h1 := this.1
    rw [flat_one] at h1
    exact h1⟩
/-- Row grown, the others stand. -/
theorem OwnC.pushP {x : PartR} {a4 : Option Addr} {c4 : Nat} (h : OwnC B c w) (ho : W.ownsRow B 66 4 (.slice a4 (c.parts.l.length + 1) c4) (c.parts.l.length + 1) (c.parts.l.flatMap partL ++ partL x)) (hg : w.grownBy W (Value.slice c.parts.a c.parts.l.length c.parts.c).ownBlock) :
    OwnC B { c with parts := ⟨c.parts.l ++ [x], a4, c4⟩ } W :=
  ⟨by simpa using ho, h.wins.kept hg (own_types h.wins h.parts (by decide)), h.regs.kept hg (own_types h.regs h.parts (by decide)), h.ports.kept hg (own_types h.ports h.parts (by decide)), h.chans.kept hg (own_types h.chans h.parts (by decide)), fun x hx => (h.dests x hx).kept hg (own_types (h.dests x hx) h.parts (by decide))⟩
theorem OwnC.pushW {x : WinR} {a4 : Option Addr} {c4 : Nat} (h : OwnC B c w) (ho : W.ownsRow B 69 3 (.slice a4 (c.wins.l.length + 1) c4) (c.wins.l.length + 1) (c.wins.l.flatMap winL ++ winL x)) (hg : w.grownBy W (Value.slice c.wins.a c.wins.l.length c.wins.c).ownBlock) :
    OwnC B { c with wins := ⟨c.wins.l ++ [x], a4, c4⟩ } W :=
  ⟨h.parts.kept hg (own_types h.parts h.wins (by decide)), by simpa using ho, h.regs.kept hg (own_types h.regs h.wins (by decide)), h.ports.kept hg (own_types h.ports h.wins (by decide)), h.chans.kept hg (own_types h.chans h.wins (by decide)), fun x hx => (h.dests x hx).kept hg (own_types (h.dests x hx) h.wins (by decide))⟩
theorem OwnC.pushR {x : RegR} {a4 : Option Addr} {c4 : Nat} (h : OwnC B c w) (ho : W.ownsRow B 54 5 (.slice a4 (c.regs.l.length + 1) c4) (c.regs.l.length + 1) (c.regs.l.flatMap regL ++ regL x)) (hg : w.grownBy W (Value.slice c.regs.a c.regs.l.length c.regs.c).ownBlock) :
    OwnC B { c with regs := ⟨c.regs.l ++ [x], a4, c4⟩ } W :=
  ⟨h.parts.kept hg (own_types h.parts h.regs (by decide)), h.wins.kept hg (own_types h.wins h.regs (by decide)), by simpa using ho, h.ports.kept hg (own_types h.ports h.regs (by decide)), h.chans.kept hg (own_types h.chans h.regs (by decide)), fun x hx => (h.dests x hx).kept hg (own_types (h.dests x hx) h.regs (by decide))⟩
theorem OwnC.pushQ {x : PortR} {a4 : Option Addr} {c4 : Nat} (h : OwnC B c w) (ho : W.ownsRow B 74 6 (.slice a4 (c.ports.l.length + 1) c4) (c.ports.l.length + 1) (c.ports.l.flatMap portL ++ portL x)) (hg : w.grownBy W (Value.slice c.ports.a c.ports.l.length c.ports.c).ownBlock) :
    OwnC B { c with ports := ⟨c.ports.l ++ [x], a4, c4⟩ } W :=
  ⟨h.parts.kept hg (own_types h.parts h.ports (by decide)), h.wins.kept hg (own_types h.wins h.ports (by decide)), h.regs.kept hg (own_types h.regs h.ports (by decide)), by simpa using ho, h.chans.kept hg (own_types h.chans h.ports (by decide)), fun x hx => (h.dests x hx).kept hg (own_types (h.dests x hx) h.ports (by decide))⟩
theorem OwnC.pushC {x : ChanR} {a4 : Option Addr} {c4 : Nat} (h : OwnC B c w) (hd : w.ownsRow B 52 1 (.slice x.at_ x.dests.length x.cap) x.dests.length (x.dests.map destL)) (ho : W.ownsRow B 57 3 (.slice a4 (c.chans.l.length + 1) c4) (c.chans.l.length + 1) (c.chans.l.flatMap chanL ++ chanL x)) (hg : w.grownBy W (Value.slice c.chans.a c.chans.l.length c.chans.c).ownBlock) :
    OwnC B { c with chans := ⟨c.chans.l ++ [x], a4, c4⟩ } W :=
  ⟨h.parts.kept hg (own_types h.parts h.chans (by decide)), h.wins.kept hg (own_types h.wins h.chans (by decide)), h.regs.kept hg (own_types h.regs h.chans (by decide)), h.ports.kept hg (own_types h.ports h.chans (by decide)), by simpa using ho, fun y hy => by
    rcases List.mem_append.1 hy with hy | hy
    · exact (h.dests y hy).kept hg (own_types (h.dests y hy) h.chans (by decide))
    · rw [List.mem_singleton] at hy
      subst hy
      exact hd.kept hg (own_types hd h.chans (by decide))⟩
/-- A row of the call's own that is newer than the configuration grows. -/
theorem OwnC.grown (h : OwnC B c w) {row : Option Nat} (hg : w.grownBy W row) (hr : ∀ r, row = some r → w.heap.size ≤ r) : OwnC B c W :=
  ⟨h.parts.kept hg (own_old (B := B) h.parts row hr), h.wins.kept hg (own_old (B := B) h.wins row hr), h.regs.kept hg (own_old (B := B) h.regs row hr), h.ports.kept hg (own_old (B := B) h.ports row hr), h.chans.kept hg (own_old (B := B) h.chans row hr), fun x hx => (h.dests x hx).kept hg (own_old (B := B) (h.dests x hx) row hr)⟩
end
end Go.Proofs.YtcnihmlmaigkdaaGreatDoor
