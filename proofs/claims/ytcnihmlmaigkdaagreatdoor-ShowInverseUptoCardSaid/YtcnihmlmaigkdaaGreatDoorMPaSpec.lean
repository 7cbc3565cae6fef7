/- The configuration of a text, in plain words (chapter 07). No program in sight. The reference's parser against the readers of tokens: a state with its first fault (chapter 07). No program in sight. The reference's destinations against the reader of them. No program in sight (chapter 07). A map of five functions by the words of the sections (chapter 07). What a reader leaves is an end of what it was handed (chapter 07). No program in sight. -/
import Derived.Test.YtcnihmlmaigkdaaGreatDoorMLxSpec
import Derived.Test.YtcnihmlmaigkdaaGreatDoorMShSpec
import Derived.Maps.OwnSet
import Derived.Maps.Views
namespace Go.Proofs.YtcnihmlmaigkdaaGreatDoor
open Go.Lib
set_option linter.unusedVariables false

/-- A configuration without addresses. -/
structure PC where
  frame : Nat
  parts : List PartR
  wins : List WinR
  regs : List RegR
  ports : List PortR
  chans : List (Nat × Nat × List Nat)
  deriving DecidableEq
def pcOf (c : Cfg) : PC := ⟨c.frame, c.parts.l, c.wins.l, c.regs.l, c.ports.l, c.chans.l.map chanK⟩
def zeroPC : PC := ⟨0, [], [], [], [], []⟩
/-- A code, the line, the column. -/
abbrev Flt := Nat × Nat × Nat
/-- A reader of tokens. -/
abbrev PM (α : Type) := List Token → Except Flt (α × List Token)
def headP (l : List Token) : Nat × Nat := match l with
  | t :: _ => (t.line, t.col)
  | [] => (0, 0)
def failT {α : Type} (code : Nat) : PM α := fun l => .error (code, (headP l).1, (headP l).2)
def isT (x : List UInt8) (l : List Token) : Bool := match l with
  | t :: _ => (t.kind == 1 || t.kind == 4) && t.text == x
  | [] => false
def wantT (x : List UInt8) : PM Unit := fun l => if isT x l then .ok ((), l.tail) else failT 4 l
def takeT (k : Nat) : PM Token := fun l => match l with
  | t :: r => if t.kind = k then .ok (t, r) else .error (4, t.line, t.col)
  | [] => failT 4 l
def numT (most : Nat) : PM Nat := fun l => match takeT 2 l with
  | .ok (t, r) => if t.val ≤ most then .ok (t.val, r) else .error (5, t.line, t.col)
  | .error e => .error e
def bindT {α β : Type} (m : PM α) (f : α → PM β) : PM β := fun l => match m l with
  | .ok (a, r) => f a r
  | .error e => .error e
def pureT {α : Type} (a : α) : PM α := fun l => .ok (a, l)
def fieldT (word : List UInt8) (most : Nat) : PM Nat := bindT (wantT word) fun _ => bindT (numT most) fun n => bindT (wantT [59]) fun _ => pureT n
def topN : Nat := 18446744073709551615
def choiceT (a b : List UInt8) : PM Bool := fun l => if isT b l then bindT (wantT b) (fun _ => bindT (wantT [59]) fun _ => pureT true) l else bindT (wantT a) (fun _ => bindT (wantT [59]) fun _ => pureT false) l
/-- The rights of a word; none for other words. -/
def rightsN (w : List UInt8) : Option Nat := (List.range 8).find? fun r => rightsW r == w
def rightsT : PM Nat := bindT (takeT 1) fun t => match rightsN t.text with
  | some r => pureT r
  | none => fun _ => .error (4, t.line, t.col)
def linksK (l : List (Nat × Nat × List Nat)) : Nat := (l.map fun x => x.2.2.length).sum
theorem linksK_of (c : Cfg) : linksK (pcOf c).chans = linksN c.chans.l := by
  unfold linksK linksN pcOf
  simp only [List.map_map]
  rfl
/-- The numbers behind 'to', from the first one on. -/
def destsT : Nat → Nat → PM (List Nat)
  | 0, _ => failT 4
  | f + 1, links => fun l => match numT 65535 l with
    | .error e => .error e
    | .ok (n, r) => if 1024 ≤ links then failT 7 l else if isT [44] r then (match destsT f (links + 1) r.tail with
      | .error e => .error e
      | .ok (ns, r2) => .ok (n :: ns, r2)) else .ok ([n], r)
def toT (links : Nat) : PM (List Nat) := bindT (wantT [116, 111]) fun _ l => if isT [59] l then .ok ([], l) else destsT l.length links l
def sectN (w : List UInt8) : Nat := if w = [112, 97, 114, 116, 105, 116, 105, 111, 110] then 1 else if w = [119, 105, 110, 100, 111, 119] then 2 else if w = [114, 101, 103, 105, 111, 110] then 3 else if w = [112, 111, 114, 116] then 4 else if w = [99, 104, 97, 110, 110, 101, 108] then 5 else 0
def nameB (l : List UInt8) : ByteArray := ⟨l.toArray⟩
def partT (c : PC) : PM PC := bindT (numT 65535) fun id => bindT (takeT 3) fun t => bindT (wantT [123]) fun _ => bindT (fieldT [112, 101, 114, 105, 111, 100] topN) fun p => bindT (fieldT [100, 117, 114, 97, 116, 105, 111, 110] topN) fun d => pureT { c with parts := c.parts ++ [⟨id, nameB t.text, p, d⟩] }
def winT (c : PC) : PM PC := bindT (numT 65535) fun id => bindT (wantT [123]) fun _ => bindT (fieldT [115, 116, 97, 114, 116] topN) fun a => bindT (fieldT [108, 101, 110, 103, 116, 104] topN) fun n => pureT { c with wins := c.wins ++ [⟨a, n, id⟩] }
def sharedT : PM Bool := fun l => if isT [115, 104, 97, 114, 101, 100] l then bindT (wantT [115, 104, 97, 114, 101, 100]) (fun _ => bindT (wantT [59]) fun _ => pureT true) l else .ok (false, l)
def regT (c : PC) : PM PC := bindT (numT 65535) fun id => bindT (wantT [123]) fun _ => bindT (fieldT [98, 97, 115, 101] topN) fun b => bindT (fieldT [115, 105, 122, 101] topN) fun n => bindT (wantT [114, 105, 103, 104, 116, 115]) fun _ => bindT rightsT fun r => bindT (wantT [59]) fun _ => bindT sharedT fun s => pureT { c with regs := c.regs ++ [⟨b, n, id, r, s⟩] }
def portT (c : PC) : PM PC := bindT (numT 65535) fun id => bindT (takeT 3) fun t => bindT (wantT [123]) fun _ => bindT (fieldT [112, 97, 114, 116, 105, 116, 105, 111, 110] 65535) fun p => bindT (choiceT [105, 110, 112, 117, 116] [111, 117, 116, 112, 117, 116]) fun o => bindT (choiceT [115, 97, 109, 112, 108, 105, 110, 103] [113, 117, 101, 117, 105, 110, 103]) fun q => bindT (fieldT [115, 105, 122, 101] 4294967295) fun n => pureT { c with ports := c.ports ++ [⟨id, p, nameB t.text, o, q, n⟩] }
def chanT (c : PC) : PM PC := bindT (numT 65535) fun id => bindT (wantT [123]) fun _ => bindT (fieldT [115, 111, 117, 114, 99, 101] 65535) fun s => bindT (toT (linksK c.chans)) fun d => bindT (wantT [59]) fun _ => pureT { c with chans := c.chans ++ [(id, s, d)] }
def cntK (c : PC) (k : Nat) : Nat := [0, c.parts.length, c.wins.length, c.regs.length, c.ports.length, c.chans.length].getD k 0
def bodyT (k : Nat) (c : PC) : PM PC := if k = 1 then partT c else if k = 2 then winT c else if k = 3 then regT c else if k = 4 then portT c else chanT c
/-- A record from its word on. -/
def recordT (k : Nat) (c : PC) : PM PC := bindT (takeT 1) fun t => if limN k ≤ cntK c k then fun _ => .error (7, t.line, t.col) else bindT (bodyT k c) fun c2 => bindT (wantT [125]) fun _ => pureT c2
def recordsT : Nat → PC → PM PC
  | 0, c => pureT c
  | f + 1, c => fun l => match l with
    | [] => .ok (c, l)
    | t :: _ => if t.kind = 1 ∧ 0 < sectN t.text then (match recordT (sectN t.text) c l with
      | .error e => .error e
      | .ok (c2, r) => recordsT f c2 r) else .ok (c, l)
def allRecT (c : PC) : PM PC := fun l => recordsT l.length c l
def moduleT : PM PC := bindT (wantT [109, 111, 100, 117, 108, 101]) fun _ => bindT (wantT [123]) fun _ => bindT (fieldT [102, 114, 97, 109, 101] topN) fun n => bindT (allRecT { zeroPC with frame := n }) fun c => bindT (wantT [125]) fun _ => pureT c
def endT {α : Type} (m : PM α) (l : List Token) : Except Flt α := match m l with
  | .error e => .error e
  | .ok (a, r) => match takeT 0 r with
    | .error e => .error e
    | .ok _ => .ok a
def parseT (l : List Token) : Except Flt PC := endT moduleT l
def parseRecT (l : List Token) : Except Flt PC := endT (allRecT zeroPC) l
/-- Rights and Word invert each other. -/
theorem rights_word {r : Nat} (h : r ≤ 7) : rightsN (rightsW r) = some r := by
  have key : ∀ r : Fin 8, rightsN (rightsW r.val) = some r.val := by decide +kernel
  exact key ⟨r, by omega⟩
theorem word_rights {w : List UInt8} {r : Nat} (h : rightsN w = some r) : r ≤ 7 ∧ rightsW r = w := by
  unfold rightsN at h
  have h1 := List.find?_some h
  have h2 := List.mem_range.1 (List.mem_of_find?_eq_some h)
  exact ⟨by omega, by simpa using h1⟩
end Go.Proofs.YtcnihmlmaigkdaaGreatDoor
namespace Go.Proofs.YtcnihmlmaigkdaaGreatDoor
open Go.Lib
set_option linter.unusedVariables false

/-- The tokens that are left end with the end. -/
def EndL : List Token → Prop
  | [] => False
  | [t] => t.kind = 0
  | _ :: r => EndL r
theorem EndL.cons {t : Token} {r : List Token} (h : EndL (t :: r)) (hk : t.kind ≠ 0) : EndL r := by
  cases r with
  | nil => exact absurd h hk
  | cons u s => exact h
theorem EndL.len {l : List Token} (h : EndL l) : 0 < l.length := by
  cases l with
  | nil => cases h
  | cons u s => simp
theorem EndL.form {l : List Token} (h : EndL l) : ∃ t r, l = t :: r := by
  cases l with
  | nil => cases h
  | cons u s => exact ⟨u, s, rfl⟩
/-- The reference's state: the tokens that are left, the first fault. -/
structure RS where
  l : List Token
  err : Option Flt
/-- From s, the reference's reader handed back a and left s'; m is what it ought to read. -/
structure Lf {α : Type} (m : PM α) (s : RS) (a : α) (s' : RS) : Prop where
  dead : ∀ f, s.err = some f → s'.err = some f
  ok : s.err = none → ∀ a0 r, m s.l = .ok (a0, r) → a = a0 ∧ s'.l = r ∧ s'.err = none
  bad : s.err = none → ∀ f, m s.l = .error f → s'.err = some f
section
variable {α β : Type} {m : PM α} {f : α → PM β} {s s1 s2 : RS} {a : α} {b : β}
theorem Lf.bind (h : Lf m s a s1) (k : Lf (f a) s1 b s2) : Lf (bindT m f) s b s2 := by
  refine ⟨fun e he => k.dead e (h.dead e he), fun he a0 r hr => ?_, fun he e hr => ?_⟩
  · unfold bindT at hr
    cases hm : m s.l with
    | error e => rw [hm] at hr; cases hr
    | ok x =>
      obtain ⟨x, y⟩ := x
      rw [hm] at hr
      obtain ⟨rfl, hl, h2⟩ := h.ok he x y hm
      rw [← hl] at hr
      exact k.ok h2 a0 r hr
  · unfold bindT at hr
    cases hm : m s.l with
    | error e' =>
      rw [hm] at hr
      injection hr with hr
      subst hr
      exact k.dead _ (h.bad he _ hm)
    | ok x =>
      obtain ⟨x, y⟩ := x
      rw [hm] at hr
      obtain ⟨rfl, hl, h2⟩ := h.ok he x y hm
      rw [← hl] at hr
      exact k.bad h2 _ hr
theorem Lf.pure (a : α) (s : RS) : Lf (pureT a) s a s :=
  ⟨fun _ h => h, fun he a0 r hr => by
    unfold pureT at hr
    injection hr with hr
    injection hr with h1 h2
    exact ⟨h1, h2, he⟩, fun he e hr => by cases hr⟩
end
section
variable {s s1 s2 s3 : RS}
theorem Lf.field {w : List UInt8} {most n : Nat} {u v : Unit} (h1 : Lf (wantT w) s u s1) (h2 : Lf (numT most) s1 n s2) (h3 : Lf (wantT [59]) s2 v s3) : Lf (fieldT w most) s n s3 :=
  h1.bind (h2.bind (h3.bind (Lf.pure n s3)))
/-- A word that stands there is read like a wanted one. -/
theorem want_yes {x : List UInt8} {l : List Token} (h : isT x l = true) : wantT x l = .ok ((), l.tail) := by unfold wantT; rw [if_pos h]
theorem want_no {x : List UInt8} {l : List Token} (h : isT x l = false) : wantT x l = .error (4, (headP l).1, (headP l).2) := by unfold wantT; rw [if_neg (by rw [h]; decide)]; rfl
end
section
variable {k : Nat} {c c' : PC} {s s2 s3 : RS} {t : Token} {r : List Token}
end
end Go.Proofs.YtcnihmlmaigkdaaGreatDoor
namespace Go.Proofs.YtcnihmlmaigkdaaGreatDoor
open Go.Lib
set_option linter.unusedVariables false

def linksT (links : Nat) : PM (List Nat) := fun l => if isT [59] l then .ok ([], l) else destsT l.length links l
section
variable {s s1 s2 s3 : RS} {t : Token} {r : List Token} {f lk n : Nat}
theorem num_len {most : Nat} {l r : List Token} (h : numT most l = .ok (n, r)) : r.length < l.length := by
  cases l with
  | nil => cases h
  | cons t l =>
    unfold numT takeT at h
    by_cases hk : t.kind = 2
    · simp only at h
      rw [if_pos hk] at h
      simp only at h
      by_cases hv : t.val ≤ most
      · rw [if_pos hv] at h; injection h with h; injection h with _ h; subst h; simp
      · rw [if_neg hv] at h; cases h
    · simp only at h
      rw [if_neg hk] at h
      cases h
end
end Go.Proofs.YtcnihmlmaigkdaaGreatDoor
namespace Go.Proofs.YtcnihmlmaigkdaaGreatDoor
open Go.RowKit Go.Lib Go.Maps
set_option linter.unusedVariables false

open Classical in
/-- How a function of a table reads: its number. -/
noncomputable def fnR (vs : Nat → Value) (v : Value) : Option (DataW Unit × List MemPlace) :=
  if h : ∃ i, vs i = v then some (.lit (.int .i64 ((Classical.choose h : Nat) : Int)), []) else none
noncomputable def fnD (vs : Nat → Value) (i : Nat) : DataW Unit := .lit (.int .i64 ((Classical.choose (⟨i, rfl⟩ : ∃ j, vs j = vs i) : Nat) : Int))
theorem fnR_at (vs : Nat → Value) (i : Nat) : fnR vs (vs i) = some (fnD vs i, []) := by
  unfold fnR fnD
  rw [dif_pos ⟨i, rfl⟩]
theorem fnR_inj {vs : Nat → Value} {v : Value} {i : Nat} {ps : List MemPlace} (h : fnR vs v = some (fnD vs i, ps)) : v = vs i := by
  unfold fnR fnD at h
  by_cases hv : ∃ j, vs j = v
  · rw [dif_pos hv] at h
    injection h with h
    injection h with h _
    injection h with h
    injection h with _ h
    have h2 : Classical.choose hv = Classical.choose (⟨i, rfl⟩ : ∃ j, vs j = vs i) := by omega
    have h3 := Classical.choose_spec hv
    have h4 := Classical.choose_spec (⟨i, rfl⟩ : ∃ j, vs j = vs i)
    rw [← h3, h2, h4]
  · rw [dif_neg hv] at h; cases h
def sectW : Nat → List UInt8
  | 1 => [112, 97, 114, 116, 105, 116, 105, 111, 110]
  | 2 => [119, 105, 110, 100, 111, 119]
  | 3 => [114, 101, 103, 105, 111, 110]
  | 4 => [112, 111, 114, 116]
  | _ => [99, 104, 97, 110, 110, 101, 108]
noncomputable def tabD (vs : Nat → Value) : DataW Unit :=
  (((((DataW.map []).put (.string (sectW 1)) (fnD vs 1)).put (.string (sectW 2)) (fnD vs 2)).put (.string (sectW 3)) (fnD vs 3)).put (.string (sectW 4)) (fnD vs 4)).put (.string (sectW 5)) (fnD vs 5)
theorem tab_look (vs : Nat → Value) (t : List UInt8) : (∀ z, (tabD vs).atKey (.string t) z = if sectN t = 0 then z else fnD vs (sectN t)) ∧ Maps.has (tabD vs) (.string t) = decide (0 < sectN t) := by
  have ky : ∀ x : List UInt8, WideAt.IsKeyLit (.string x) := fun x => by simp [WideAt.IsKeyLit]
  have m0 : IsMap (DataW.map [] : DataW Unit) := ⟨[], rfl⟩
  have m1 := m0.put (.string (sectW 1)) (fnD vs 1)
  have m2 := m1.put (.string (sectW 2)) (fnD vs 2)
  have m3 := m2.put (.string (sectW 3)) (fnD vs 3)
  have m4 := m3.put (.string (sectW 4)) (fnD vs 4)
  have ne : ∀ {x y : List UInt8}, x ≠ y → (Lit.string x) ≠ .string y := fun h e => h (by injection e)
  by_cases h5 : t = sectW 5
  · subst h5
    have hs : sectN (sectW 5) = 5 := by decide
    rw [hs]
    exact ⟨fun z => atKey_put_same m4 (ky _) _ z, has_put_same m4 (ky _) _⟩
  by_cases h4 : t = sectW 4
  · subst h4
    have hs : sectN (sectW 4) = 4 := by decide
    rw [hs]
    unfold tabD
    refine ⟨fun z => ?_, ?_⟩
    · rw [atKey_put_other (ne h5)]; exact atKey_put_same m3 (ky _) _ z
    · rw [has_put_other (ne h5)]; exact has_put_same m3 (ky _) _
  by_cases h3 : t = sectW 3
  · subst h3
    have hs : sectN (sectW 3) = 3 := by decide
    rw [hs]
    unfold tabD
    refine ⟨fun z => ?_, ?_⟩
    · rw [atKey_put_other (ne h5), atKey_put_other (ne h4)]; exact atKey_put_same m2 (ky _) _ z
    · rw [has_put_other (ne h5), has_put_other (ne h4)]; exact has_put_same m2 (ky _) _
  by_cases h2 : t = sectW 2
  · subst h2
    have hs : sectN (sectW 2) = 2 := by decide
    rw [hs]
    unfold tabD
    refine ⟨fun z => ?_, ?_⟩
    · rw [atKey_put_other (ne h5), atKey_put_other (ne h4), atKey_put_other (ne h3)]; exact atKey_put_same m1 (ky _) _ z
    · rw [has_put_other (ne h5), has_put_other (ne h4), has_put_other (ne h3)]; exact has_put_same m1 (ky _) _
  by_cases h1 : t = sectW 1
  · subst h1
    have hs : sectN (sectW 1) = 1 := by decide
    rw [hs]
    unfold tabD
    refine ⟨fun z => ?_, ?_⟩
    · rw [atKey_put_other (ne h5), atKey_put_other (ne h4), atKey_put_other (ne h3), atKey_put_other (ne h2)]; exact atKey_put_same m0 (ky _) _ z
    · rw [has_put_other (ne h5), has_put_other (ne h4), has_put_other (ne h3), has_put_other (ne h2)]; exact has_put_same m0 (ky _) _
  have hs : sectN t = 0 := by
    show (if t = sectW 1 then 1 else if t = sectW 2 then 2 else if t = sectW 3 then 3 else if t = sectW 4 then 4 else if t = sectW 5 then 5 else 0) = 0
    rw [if_neg h1, if_neg h2, if_neg h3, if_neg h4, if_neg h5]
  rw [hs]
  unfold tabD
  refine ⟨fun z => ?_, ?_⟩
  · rw [atKey_put_other (ne h5), atKey_put_other (ne h4), atKey_put_other (ne h3), atKey_put_other (ne h2), atKey_put_other (ne h1)]; rfl
  · rw [has_put_other (ne h5), has_put_other (ne h4), has_put_other (ne h3), has_put_other (ne h2), has_put_other (ne h1)]; rfl
section
variable {H : Type} {P : Program} {w : World} {ops : Array Oper} {rest : List Oper} {o : Oper} {a : Act} {Q : Exit → Act → World → Prop}
end
end Go.Proofs.YtcnihmlmaigkdaaGreatDoor
namespace Go.Proofs.YtcnihmlmaigkdaaGreatDoor
open Go.Lib
set_option linter.unusedVariables false

def SufO {α : Type} (m : PM α) : Prop := ∀ l a r, m l = .ok (a, r) → r <:+ l
theorem suf_bind {α β : Type} {m : PM α} {f : α → PM β} (hm : SufO m) (hf : ∀ a, SufO (f a)) : SufO (bindT m f) := fun l b r h => by
  unfold bindT at h
  cases hx : m l with
  | error e => rw [hx] at h; cases h
  | ok x =>
    obtain ⟨a, s⟩ := x
    rw [hx] at h
    exact (hf a s b r h).trans (hm l a s hx)
theorem suf_pure {α : Type} (a : α) : SufO (pureT a) := fun l b r e => by
  unfold pureT at e
  injection e with e
  injection e with e1 e2
  subst e2
  exact List.suffix_refl _
theorem suf_fail {α : Type} (c : Nat) : SufO (failT c : PM α) := fun l a r h => by cases h
theorem suf_err {α : Type} (e : Flt) : SufO (fun _ => .error e : PM α) := fun l a r h => by cases h
theorem suf_want (x : List UInt8) : SufO (wantT x) := fun l a r h => by
  unfold wantT at h
  cases hi : isT x l with
  | false => rw [hi] at h; cases h
  | true =>
    rw [hi, if_pos rfl] at h
    injection h with h
    injection h with _ h
    subst h
    exact List.tail_suffix l
theorem suf_take (k : Nat) : SufO (takeT k) := fun l a r h => by
  cases l with
  | nil => cases h
  | cons t l =>
    unfold takeT at h
    simp only at h
    by_cases hk : t.kind = k
    · rw [if_pos hk] at h
      injection h with h
      injection h with h1 h2
      subst h2
      exact List.suffix_cons _ _
    · rw [if_neg hk] at h; cases h
theorem suf_num (most : Nat) : SufO (numT most) := fun l a r h => by
  unfold numT at h
  cases hx : takeT 2 l with
  | error e => rw [hx] at h; cases h
  | ok x =>
    obtain ⟨t, s⟩ := x
    rw [hx] at h
    simp only at h
    by_cases hn : t.val ≤ most
    · rw [if_pos hn] at h
      injection h with h
      injection h with h1 h2
      subst h2
      exact suf_take 2 l t s hx
    · rw [if_neg hn] at h; cases h
theorem suf_field (w : List UInt8) (n : Nat) : SufO (fieldT w n) := suf_bind (suf_want w) fun _ => suf_bind (suf_num n) fun _ => suf_bind (suf_want _) fun _ => suf_pure _
theorem suf_choice (a b : List UInt8) : SufO (choiceT a b) := fun l x r h => by
  unfold choiceT at h
  cases hi : isT b l with
  | true => rw [hi, if_pos rfl] at h; exact suf_bind (suf_want b) (fun _ => suf_bind (suf_want _) fun _ => suf_pure _) l x r h
  | false => rw [hi, if_neg (by simp)] at h; exact suf_bind (suf_want a) (fun _ => suf_bind (suf_want _) fun _ => suf_pure _) l x r h
theorem suf_rights : SufO rightsT := suf_bind (suf_take 1) fun t => by
  cases h : rightsN t.text with
  | none => exact suf_err _
  | some r => exact suf_pure _
theorem suf_shared : SufO sharedT := fun l x r h => by
  unfold sharedT at h
  cases hi : isT [115, 104, 97, 114, 101, 100] l with
  | true => rw [hi, if_pos rfl] at h; exact suf_bind (suf_want _) (fun _ => suf_bind (suf_want _) fun _ => suf_pure _) l x r h
  | false =>
    rw [hi, if_neg (by simp)] at h
    injection h with h
    injection h with _ h
    subst h
    exact List.suffix_refl _
theorem suf_dests : ∀ f links, SufO (destsT f links)
  | 0, _ => suf_fail 4
  | f + 1, links => fun l a r h => by
    unfold destsT at h
    cases hx : numT 65535 l with
    | error e => rw [hx] at h; cases h
    | ok x =>
      obtain ⟨n, s⟩ := x
      rw [hx] at h
      have hs := suf_num 65535 l n s hx
      simp only at h
      by_cases hl : 1024 ≤ links
      · rw [if_pos hl] at h; cases h
      · rw [if_neg hl] at h
        cases hi : isT [44] s with
        | false =>
          rw [hi, if_neg (by simp)] at h
          injection h with h
          injection h with h1 h2
          subst h2
          exact hs
        | true =>
          rw [hi, if_pos rfl] at h
          cases hd : destsT f (links + 1) s.tail with
          | error e => rw [hd] at h; cases h
          | ok y =>
            obtain ⟨ns, r2⟩ := y
            rw [hd] at h
            simp only at h
            injection h with h
            injection h with h1 h2
            subst h2
            exact ((suf_dests f (links + 1) s.tail ns r2 hd).trans (List.tail_suffix s)).trans hs
theorem suf_to (links : Nat) : SufO (toT links) := suf_bind (suf_want _) fun _ l a r h => by
  by_cases hi : isT [59] l = true
  · rw [if_pos hi] at h
    injection h with h
    injection h with h1 h2
    subst h2
    exact List.suffix_refl _
  · rw [if_neg hi] at h
    exact suf_dests _ _ l a r h
theorem suf_body (k : Nat) (c : PC) : SufO (bodyT k c) := by
  unfold bodyT
  by_cases h1 : k = 1
  · rw [if_pos h1]; exact suf_bind (suf_num _) fun _ => suf_bind (suf_take _) fun _ => suf_bind (suf_want _) fun _ => suf_bind (suf_field _ _) fun _ => suf_bind (suf_field _ _) fun _ => suf_pure _
  rw [if_neg h1]
  by_cases h2 : k = 2
  · rw [if_pos h2]; exact suf_bind (suf_num _) fun _ => suf_bind (suf_want _) fun _ => suf_bind (suf_field _ _) fun _ => suf_bind (suf_field _ _) fun _ => suf_pure _
  rw [if_neg h2]
  by_cases h3 : k = 3
  · rw [if_pos h3]; exact suf_bind (suf_num _) fun _ => suf_bind (suf_want _) fun _ => suf_bind (suf_field _ _) fun _ => suf_bind (suf_field _ _) fun _ => suf_bind (suf_want _) fun _ => suf_bind suf_rights fun _ => suf_bind (suf_want _) fun _ => suf_bind suf_shared fun _ => suf_pure _
  rw [if_neg h3]
  by_cases h4 : k = 4
  · rw [if_pos h4]; exact suf_bind (suf_num _) fun _ => suf_bind (suf_take _) fun _ => suf_bind (suf_want _) fun _ => suf_bind (suf_field _ _) fun _ => suf_bind (suf_choice _ _) fun _ => suf_bind (suf_choice _ _) fun _ => suf_bind (suf_field _ _) fun _ => suf_pure _
  rw [if_neg h4]
  exact suf_bind (suf_num _) fun _ => suf_bind (suf_want _) fun _ => suf_bind (suf_field _ _) fun _ => suf_bind (suf_to _) fun _ => suf_bind (suf_want _) fun _ => suf_pure _
/-- A bound on every token's text goes on to what is left. -/
def TxtLe (l : List Token) : Prop := ∀ t ∈ l, t.text.length ≤ 9223372036854775807
theorem TxtLe.suf {l r : List Token} (h : TxtLe l) (hs : r <:+ l) : TxtLe r := fun t ht => h t (hs.subset ht)
end Go.Proofs.YtcnihmlmaigkdaaGreatDoor
