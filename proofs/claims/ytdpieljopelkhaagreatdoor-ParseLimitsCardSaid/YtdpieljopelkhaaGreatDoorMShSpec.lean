/- The texts of a configuration, as lists of bytes (chapter 08). No program in sight. The text of a configuration within limits has one reading (chapter 08, ShowOnce). No program in sight. The reference's order of configurations as plain data (chapter 05's Same and Within, for chapters 08 and 07). No program in sight. The configuration of a text, in plain words (chapter 07). No program in sight. The reference's parser against the readers of tokens: a state with its first fault (chapter 07). No program in sight. The reference's destinations against the reader of them. No program in sight (chapter 07). -/
import Derived.Test.YtdpieljopelkhaaGreatDoorMNuSpec
import Derived.Test.YtdpieljopelkhaaGreatDoorMNmSpec
import Derived.Test.YtdpieljopelkhaaGreatDoorMCfD
import Derived.Lib.Join
import Derived.Test.YtdpieljopelkhaaGreatDoorMLxSpec
namespace Go.Proofs.YtdpieljopelkhaaGreatDoor
open Go.Lib
set_option linter.unusedVariables false

def numB (x : Nat) : List UInt8 := digL 10 x
/-- The word for rights. -/
def lettersL (r : Nat) : List UInt8 := (if r % 2 = 1 then [114] else []) ++ (if r / 2 % 2 = 1 then [119] else []) ++ (if r / 4 % 2 = 1 then [120] else [])
def rightsW (r : Nat) : List UInt8 := if lettersL r = [] then [110, 111, 110, 101] else lettersL r
/-! ### Every text has one reading -/
def digB (u : UInt8) : Bool := decide (48 ≤ u.toNat) && decide (u.toNat ≤ 57)
theorem num_dig (x : Nat) : ∀ u ∈ numB x, digB u = true := digL_all (fun u => digB u = true) 10 (by omega) (fun d hd => by
  unfold digB
  have := dg_toNat d (by omega)
  rw [if_pos (by omega)] at this
  rw [this]; simp; omega) x
/-! ### Texts of lines -/
end Go.Proofs.YtdpieljopelkhaaGreatDoor
namespace Go.Proofs.YtdpieljopelkhaaGreatDoor
open Go.Lib
set_option linter.unusedVariables false

/-! ### Hexadecimal forms -/
/-! ### Lines -/
def chanK (c : ChanR) : Nat × Nat × List Nat := (c.id, c.src, c.dests)
/-! ### No line feed in a line -/
/-! ### The whole -/
end Go.Proofs.YtdpieljopelkhaaGreatDoor
namespace Go.Proofs.YtdpieljopelkhaaGreatDoor
open Go.Lib
set_option linter.unusedVariables false

def bitN (b : Bool) : Nat := if b then 1 else 0
def textN (s : ByteArray) : List Nat := s.data.toList.map (fun u => u.toNat + 1) ++ [0]
def keyP (p : PartR) : List Nat := p.id :: (textN p.name ++ [p.per, p.dur])
def keyW (x : WinR) : List Nat := [x.st, x.len, x.part]
def keyR (r : RegR) : List Nat := [r.base, r.size, r.part, r.rights, bitN r.shared]
def keyQ (p : PortR) : List Nat := p.id :: p.part :: (textN p.name ++ [bitN p.out, bitN p.que, p.size])
def keyC (c : ChanR) : List Nat := c.id :: c.src :: c.dests
/-! ### Within -/
def limN (s : Nat) : Nat := if s = 1 then 64 else if s = 5 then 512 else 1024
end Go.Proofs.YtdpieljopelkhaaGreatDoor
namespace Go.Proofs.YtdpieljopelkhaaGreatDoor
open Go.Lib
set_option linter.unusedVariables false

/-- A configuration without addresses. -/
structure PC where
  frame : Nat
  parts : List PartR
  wins : List WinR
  regs : List RegR
  ports : List PortR
  chans : List (Nat × Nat × List Nat)
  deriving DecidableEq
def pcOf (c : Cfg) : PC := ⟨c.frame, c.parts.l, c.wins.l, c.regs.l, c.ports.l, c.chans.l.map chanK⟩
def zeroPC : PC := ⟨0, [], [], [], [], []⟩
/-- A code, the line, the column. -/
abbrev Flt := Nat × Nat × Nat
/-- A reader of tokens. -/
abbrev PM (α : Type) := List Token → Except Flt (α × List Token)
def headP (l : List Token) : Nat × Nat := match l with
  | t :: _ => (t.line, t.col)
  | [] => (0, 0)
def failT {α : Type} (code : Nat) : PM α := fun l => .error (code, (headP l).1, (headP l).2)
def isT (x : List UInt8) (l : List Token) : Bool := match l with
  | t :: _ => (t.kind == 1 || t.kind == 4) && t.text == x
  | [] => false
def wantT (x : List UInt8) : PM Unit := fun l => if isT x l then .ok ((), l.tail) else failT 4 l
def takeT (k : Nat) : PM Token := fun l => match l with
  | t :: r => if t.kind = k then .ok (t, r) else .error (4, t.line, t.col)
  | [] => failT 4 l
def numT (most : Nat) : PM Nat := fun l => match takeT 2 l with
  | .ok (t, r) => if t.val ≤ most then .ok (t.val, r) else .error (5, t.line, t.col)
  | .error e => .error e
def bindT {α β : Type} (m : PM α) (f : α → PM β) : PM β := fun l => match m l with
  | .ok (a, r) => f a r
  | .error e => .error e
def pureT {α : Type} (a : α) : PM α := fun l => .ok (a, l)
def fieldT (word : List UInt8) (most : Nat) : PM Nat := bindT (wantT word) fun _ => bindT (numT most) fun n => bindT (wantT [59]) fun _ => pureT n
def topN : Nat := 18446744073709551615
def choiceT (a b : List UInt8) : PM Bool := fun l => if isT b l then bindT (wantT b) (fun _ => bindT (wantT [59]) fun _ => pureT true) l else bindT (wantT a) (fun _ => bindT (wantT [59]) fun _ => pureT false) l
/-- The rights of a word; none for other words. -/
def rightsN (w : List UInt8) : Option Nat := (List.range 8).find? fun r => rightsW r == w
def rightsT : PM Nat := bindT (takeT 1) fun t => match rightsN t.text with
  | some r => pureT r
  | none => fun _ => .error (4, t.line, t.col)
def linksK (l : List (Nat × Nat × List Nat)) : Nat := (l.map fun x => x.2.2.length).sum
theorem linksK_of (c : Cfg) : linksK (pcOf c).chans = linksN c.chans.l := by
  unfold linksK linksN pcOf
  simp only [List.map_map]
  rfl
/-- The numbers behind 'to', from the first one on. -/
def destsT : Nat → Nat → PM (List Nat)
  | 0, _ => failT 4
  | f + 1, links => fun l => match numT 65535 l with
    | .error e => .error e
    | .ok (n, r) => if 1024 ≤ links then failT 7 l else if isT [44] r then (match destsT f (links + 1) r.tail with
      | .error e => .error e
      | .ok (ns, r2) => .ok (n :: ns, r2)) else .ok ([n], r)
def toT (links : Nat) : PM (List Nat) := bindT (wantT [116, 111]) fun _ l => if isT [59] l then .ok ([], l) else destsT l.length links l
def sectN (w : List UInt8) : Nat := if w = [112, 97, 114, 116, 105, 116, 105, 111, 110] then 1 else if w = [119, 105, 110, 100, 111, 119] then 2 else if w = [114, 101, 103, 105, 111, 110] then 3 else if w = [112, 111, 114, 116] then 4 else if w = [99, 104, 97, 110, 110, 101, 108] then 5 else 0
def nameB (l : List UInt8) : ByteArray := ⟨l.toArray⟩
def partT (c : PC) : PM PC := bindT (numT 65535) fun id => bindT (takeT 3) fun t => bindT (wantT [123]) fun _ => bindT (fieldT [112, 101, 114, 105, 111, 100] topN) fun p => bindT (fieldT [100, 117, 114, 97, 116, 105, 111, 110] topN) fun d => pureT { c with parts := c.parts ++ [⟨id, nameB t.text, p, d⟩] }
def winT (c : PC) : PM PC := bindT (numT 65535) fun id => bindT (wantT [123]) fun _ => bindT (fieldT [115, 116, 97, 114, 116] topN) fun a => bindT (fieldT [108, 101, 110, 103, 116, 104] topN) fun n => pureT { c with wins := c.wins ++ [⟨a, n, id⟩] }
def sharedT : PM Bool := fun l => if isT [115, 104, 97, 114, 101, 100] l then bindT (wantT [115, 104, 97, 114, 101, 100]) (fun _ => bindT (wantT [59]) fun _ => pureT true) l else .ok (false, l)
def regT (c : PC) : PM PC := bindT (numT 65535) fun id => bindT (wantT [123]) fun _ => bindT (fieldT [98, 97, 115, 101] topN) fun b => bindT (fieldT [115, 105, 122, 101] topN) fun n => bindT (wantT [114, 105, 103, 104, 116, 115]) fun _ => bindT rightsT fun r => bindT (wantT [59]) fun _ => bindT sharedT fun s => pureT { c with regs := c.regs ++ [⟨b, n, id, r, s⟩] }
def portT (c : PC) : PM PC := bindT (numT 65535) fun id => bindT (takeT 3) fun t => bindT (wantT [123]) fun _ => bindT (fieldT [112, 97, 114, 116, 105, 116, 105, 111, 110] 65535) fun p => bindT (choiceT [105, 110, 112, 117, 116] [111, 117, 116, 112, 117, 116]) fun o => bindT (choiceT [115, 97, 109, 112, 108, 105, 110, 103] [113, 117, 101, 117, 105, 110, 103]) fun q => bindT (fieldT [115, 105, 122, 101] 4294967295) fun n => pureT { c with ports := c.ports ++ [⟨id, p, nameB t.text, o, q, n⟩] }
def chanT (c : PC) : PM PC := bindT (numT 65535) fun id => bindT (wantT [123]) fun _ => bindT (fieldT [115, 111, 117, 114, 99, 101] 65535) fun s => bindT (toT (linksK c.chans)) fun d => bindT (wantT [59]) fun _ => pureT { c with chans := c.chans ++ [(id, s, d)] }
def cntK (c : PC) (k : Nat) : Nat := [0, c.parts.length, c.wins.length, c.regs.length, c.ports.length, c.chans.length].getD k 0
def bodyT (k : Nat) (c : PC) : PM PC := if k = 1 then partT c else if k = 2 then winT c else if k = 3 then regT c else if k = 4 then portT c else chanT c
/-- A record from its word on. -/
def recordT (k : Nat) (c : PC) : PM PC := bindT (takeT 1) fun t => if limN k ≤ cntK c k then fun _ => .error (7, t.line, t.col) else bindT (bodyT k c) fun c2 => bindT (wantT [125]) fun _ => pureT c2
def recordsT : Nat → PC → PM PC
  | 0, c => pureT c
  | f + 1, c => fun l => match l with
    | [] => .ok (c, l)
    | t :: _ => if t.kind = 1 ∧ 0 < sectN t.text then (match recordT (sectN t.text) c l with
      | .error e => .error e
      | .ok (c2, r) => recordsT f c2 r) else .ok (c, l)
def allRecT (c : PC) : PM PC := fun l => recordsT l.length c l
def moduleT : PM PC := bindT (wantT [109, 111, 100, 117, 108, 101]) fun _ => bindT (wantT [123]) fun _ => bindT (fieldT [102, 114, 97, 109, 101] topN) fun n => bindT (allRecT { zeroPC with frame := n }) fun c => bindT (wantT [125]) fun _ => pureT c
def endT {α : Type} (m : PM α) (l : List Token) : Except Flt α := match m l with
  | .error e => .error e
  | .ok (a, r) => match takeT 0 r with
    | .error e => .error e
    | .ok _ => .ok a
def parseT (l : List Token) : Except Flt PC := endT moduleT l
def parseRecT (l : List Token) : Except Flt PC := endT (allRecT zeroPC) l
/-- Rights and Word invert each other. -/
theorem rights_word {r : Nat} (h : r ≤ 7) : rightsN (rightsW r) = some r := by
  have key : ∀ r : Fin 8, rightsN (rightsW r.val) = some r.val := by decide +kernel
  exact key ⟨r, by omega⟩
theorem word_rights {w : List UInt8} {r : Nat} (h : rightsN w = some r) : r ≤ 7 ∧ rightsW r = w := by
  unfold rightsN at h
  have h1 := List.find?_some h
  have h2 := List.mem_range.1 (List.mem_of_find?_eq_some h)
  exact ⟨by omega, by simpa using h1⟩
end Go.Proofs.YtdpieljopelkhaaGreatDoor
namespace Go.Proofs.YtdpieljopelkhaaGreatDoor
open Go.Lib
set_option linter.unusedVariables false

/-- The tokens that are left end with the end. -/
def EndL : List Token → Prop
  | [] => False
  | [t] => t.kind = 0
  | _ :: r => EndL r
theorem EndL.cons {t : Token} {r : List Token} (h : EndL (t :: r)) (hk : t.kind ≠ 0) : EndL r := by
  cases r with
  | nil => exact absurd h hk
  | cons u s => exact h
theorem EndL.len {l : List Token} (h : EndL l) : 0 < l.length := by
  cases l with
  | nil => cases h
  | cons u s => simp
theorem EndL.form {l : List Token} (h : EndL l) : ∃ t r, l = t :: r := by
  cases l with
  | nil => cases h
  | cons u s => exact ⟨u, s, rfl⟩
/-- The reference's state: the tokens that are left, the first fault. -/
structure RS where
  l : List Token
  err : Option Flt
/-- From s, the reference's reader handed back a and left s'; m is what it ought to read. -/
structure Lf {α : Type} (m : PM α) (s : RS) (a : α) (s' : RS) : Prop where
  dead : ∀ f, s.err = some f → s'.err = some f
  ok : s.err = none → ∀ a0 r, m s.l = .ok (a0, r) → a = a0 ∧ s'.l = r ∧ s'.err = none
  bad : s.err = none → ∀ f, m s.l = .error f → s'.err = some f
section
variable {α β : Type} {m : PM α} {f : α → PM β} {s s1 s2 : RS} {a : α} {b : β}
theorem Lf.bind (h : Lf m s a s1) (k : Lf (f a) s1 b s2) : Lf (bindT m f) s b s2 := by
  refine ⟨fun e he => k.dead e (h.dead e he), fun he a0 r hr => ?_, fun he e hr => ?_⟩
  · unfold bindT at hr
    cases hm : m s.l with
    | error e => rw [hm] at hr; cases hr
    | ok x =>
      obtain ⟨x, y⟩ := x
      rw [hm] at hr
      obtain ⟨rfl, hl, h2⟩ := h.ok he x y hm
      rw [← hl] at hr
      exact k.ok h2 a0 r hr
  · unfold bindT at hr
    cases hm : m s.l with
    | error e' =>
      rw [hm] at hr
      injection hr with hr
      subst hr
      exact k.dead _ (h.bad he _ hm)
    | ok x =>
      obtain ⟨x, y⟩ := x
      rw [hm] at hr
      obtain ⟨rfl, hl, h2⟩ := h.ok he x y hm
      rw [← hl] at hr
      exact k.bad h2 _ hr
theorem Lf.pure (a : α) (s : RS) : Lf (pureT a) s a s :=
  ⟨fun _ h => h, fun he a0 r hr => by
    unfold pureT at hr
    injection hr with hr
    injection hr with h1 h2
    exact ⟨h1, h2, he⟩, fun he e hr => by cases hr⟩
/-- Another word for the same reader at these tokens. -/
theorem Lf.like {m2 : PM α} (h : Lf m s a s1) (e : s.err = none → m2 s.l = m s.l) : Lf m2 s a s1 :=
  ⟨h.dead, fun he a0 r hr => h.ok he a0 r ((e he).symm.trans hr), fun he f hr => h.bad he f ((e he).symm.trans hr)⟩
/-- In a state with a fault, whatever is handed back. -/
theorem Lf.stuck {e : Flt} (h : s.err = some e) (h1 : s1.err = some e) (m : PM α) (a : α) : Lf m s a s1 :=
  ⟨fun f hf => (by rw [h1, ← h, hf]), fun he => (by rw [h] at he; cases he), fun he => (by rw [h] at he; cases he)⟩
theorem Lf.good {r : List Token} (h : s.err = none) (hm : m s.l = .ok (a, r)) (h1 : s1.l = r) (h2 : s1.err = none) : Lf m s a s1 :=
  ⟨fun f hf => (by rw [h] at hf; cases hf), fun _ a0 r0 hr => (by
    rw [hm] at hr
    injection hr with hr
    injection hr with e1 e2
    exact ⟨e1, h1.trans e2, h2⟩), fun _ f hr => by rw [hm] at hr; cases hr⟩
theorem Lf.fault {e : Flt} (h : s.err = none) (hm : m s.l = .error e) (h1 : s1.err = some e) : Lf m s a s1 :=
  ⟨fun f hf => (by rw [h] at hf; cases hf), fun _ a0 r0 hr => (by rw [hm] at hr; cases hr), fun _ f hr => by
    rw [hm] at hr
    injection hr with hr
    rw [h1, hr]⟩
end
section
variable {s s1 s2 s3 : RS}
theorem Lf.field {w : List UInt8} {most n : Nat} {u v : Unit} (h1 : Lf (wantT w) s u s1) (h2 : Lf (numT most) s1 n s2) (h3 : Lf (wantT [59]) s2 v s3) : Lf (fieldT w most) s n s3 :=
  h1.bind (h2.bind (h3.bind (Lf.pure n s3)))
/-- A word that stands there is read like a wanted one. -/
theorem want_yes {x : List UInt8} {l : List Token} (h : isT x l = true) : wantT x l = .ok ((), l.tail) := by unfold wantT; rw [if_pos h]
theorem want_no {x : List UInt8} {l : List Token} (h : isT x l = false) : wantT x l = .error (4, (headP l).1, (headP l).2) := by unfold wantT; rw [if_neg (by rw [h]; decide)]; rfl
end
section
variable {k : Nat} {c c' : PC} {s s2 s3 : RS} {t : Token} {r : List Token}
def restT (k : Nat) (c : PC) : PM PC := bindT (bodyT k c) fun c2 => bindT (wantT [125]) fun _ => pureT c2
theorem Lf.record_ok (he : s.err = none) (hl : s.l = t :: r) (hk : t.kind = 1) (h2 : s2 = ⟨r, none⟩) (hn : cntK c k < limN k) (L : Lf (restT k c) s2 c' s3) : Lf (recordT k c) s c' s3 := by
  have e : recordT k c s.l = restT k c s2.l := by
    rw [hl, h2]
    unfold recordT restT
    have ht : takeT 1 (t :: r) = .ok (t, r) := by unfold takeT; simp only; rw [if_pos hk]
    rw [bindT, ht]
    simp only
    rw [if_neg (by omega)]
  have h3 : s2.err = none := by rw [h2]
  exact ⟨fun f hf => (by rw [he] at hf; cases hf), fun _ a0 r0 hr => L.ok h3 a0 r0 (e.symm.trans hr), fun _ f hr => L.bad h3 f (e.symm.trans hr)⟩
theorem Lf.record_lim (he : s.err = none) (hl : s.l = t :: r) (hk : t.kind = 1) (h2 : s2.err = some (7, t.line, t.col)) (hn : limN k ≤ cntK c k) (L : Lf (restT k c) s2 c' s3) : Lf (recordT k c) s c' s3 := by
  have e : recordT k c s.l = .error (7, t.line, t.col) := by
    rw [hl]
    unfold recordT
    have ht : takeT 1 (t :: r) = .ok (t, r) := by unfold takeT; simp only; rw [if_pos hk]
    rw [bindT, ht]
    simp only
    rw [if_pos hn]
  exact Lf.fault he e (L.dead _ h2)
end
end Go.Proofs.YtdpieljopelkhaaGreatDoor
namespace Go.Proofs.YtdpieljopelkhaaGreatDoor
open Go.Lib
set_option linter.unusedVariables false

def linksT (links : Nat) : PM (List Nat) := fun l => if isT [59] l then .ok ([], l) else destsT l.length links l
section
variable {s s1 s2 s3 : RS} {t : Token} {r : List Token} {f lk n : Nat}
theorem num_len {most : Nat} {l r : List Token} (h : numT most l = .ok (n, r)) : r.length < l.length := by
  cases l with
  | nil => cases h
  | cons t l =>
    unfold numT takeT at h
    by_cases hk : t.kind = 2
    · simp only at h
      rw [if_pos hk] at h
      simp only at h
      by_cases hv : t.val ≤ most
      · rw [if_pos hv] at h; injection h with h; injection h with _ h; subst h; simp
      · rw [if_neg hv] at h; cases h
    · simp only at h
      rw [if_neg hk] at h
      cases h
/-- The last number. -/
theorem dests_last (h1 : Lf (numT 65535) s1 n s2) (hlim : lk < 1024 ∨ s2.err ≠ none → s3 = s2) (hbad : s1.err = none → s2.err = none → 1024 ≤ lk → s3.err = some (7, (headP s1.l).1, (headP s1.l).2)) (hk : ∀ e, s2.err = some e → s3.err = some e) (hm : s3.err = none → isT [44] s3.l = false) (hf : 1 ≤ f) :
    Lf (destsT f lk) s1 [n] s3 := by
  obtain ⟨g, rfl⟩ : ∃ g, f = g + 1 := ⟨f - 1, by omega⟩
  refine ⟨fun e he => hk e (h1.dead e he), fun he a0 r0 hr => ?_, fun he e hr => ?_⟩
  · unfold destsT at hr
    cases hn : numT 65535 s1.l with
    | error e => rw [hn] at hr; cases hr
    | ok x =>
      obtain ⟨n0, r1⟩ := x
      obtain ⟨e1, e2, e3⟩ := h1.ok he n0 r1 hn
      rw [hn] at hr
      simp only at hr
      by_cases hl : 1024 ≤ lk
      · rw [if_pos hl] at hr; cases hr
      · rw [if_neg hl] at hr
        have h3 := hlim (.inl (by omega))
        have hmm := hm (by rw [h3]; exact e3)
        rw [h3, e2] at hmm
        rw [hmm] at hr
        injection hr with hr
        injection hr with h4 h5
        subst h4 h5
        rw [h3]
        exact ⟨by rw [e1], e2, e3⟩
  · unfold destsT at hr
    cases hn : numT 65535 s1.l with
    | error e0 =>
      rw [hn] at hr
      injection hr with hr
      subst hr
      exact hk _ (h1.bad he _ hn)
    | ok x =>
      obtain ⟨n0, r1⟩ := x
      obtain ⟨e1, e2, e3⟩ := h1.ok he n0 r1 hn
      rw [hn] at hr
      simp only at hr
      by_cases hl : 1024 ≤ lk
      · rw [if_pos hl] at hr
        injection hr with hr
        rw [hbad he e3 hl, ← hr]
      · rw [if_neg hl] at hr
        have h3 := hlim (.inl (by omega))
        have hmm := hm (by rw [h3]; exact e3)
        rw [h3, e2] at hmm
        rw [hmm] at hr
        cases hr
/-- A number with a comma behind it. -/
theorem dests_more {s4 sE : RS} {ns : List Nat} (h1 : Lf (numT 65535) s1 n s2) (he2 : s2.err = none) (hlk : lk < 1024) (hm : isT [44] s2.l = true) (h4 : s4 = ⟨s2.l.tail, none⟩) (h : Lf (destsT f (lk + 1)) s4 ns sE) :
    Lf (destsT (f + 1) lk) s1 (n :: ns) sE := by
  have he : s1.err = none := by
    cases he : s1.err with
    | none => rfl
    | some e => have := h1.dead e he; rw [he2] at this; cases this
  cases hn : numT 65535 s1.l with
  | error e => have := h1.bad he e hn; rw [he2] at this; cases this
  | ok x =>
    obtain ⟨n0, r1⟩ := x
    obtain ⟨e1, e2, e3⟩ := h1.ok he n0 r1 hn
    subst e1
    have hr1 : isT [44] r1 = true := by rw [← e2]; exact hm
    have h4l : s4.l = r1.tail := by rw [h4, ← e2]
    have h4e : s4.err = none := by rw [h4]
    refine ⟨fun e hf => (by rw [he] at hf; cases hf), fun _ a0 r0 hr => ?_, fun _ e hr => ?_⟩
    · unfold destsT at hr
      rw [hn] at hr
      simp only at hr
      rw [if_neg (by omega), hr1, if_pos rfl] at hr
      cases hd : destsT f (lk + 1) r1.tail with
      | error e => rw [hd] at hr; cases hr
      | ok y =>
        obtain ⟨ns0, r2⟩ := y
        rw [hd] at hr
        simp only at hr
        injection hr with hr
        injection hr with h5 h6
        obtain ⟨g1, g2, g3⟩ := h.ok h4e ns0 r2 (by rw [h4l]; exact hd)
        exact ⟨by rw [← h5, g1], by rw [g2, h6], g3⟩
    · unfold destsT at hr
      rw [hn] at hr
      simp only at hr
      rw [if_neg (by omega), hr1, if_pos rfl] at hr
      cases hd : destsT f (lk + 1) r1.tail with
      | error e0 =>
        rw [hd] at hr
        injection hr with hr
        subst hr
        exact h.bad h4e _ (by rw [h4l]; exact hd)
      | ok y =>
        obtain ⟨ns0, r2⟩ := y
        rw [hd] at hr
        cases hr
end
end Go.Proofs.YtdpieljopelkhaaGreatDoor
