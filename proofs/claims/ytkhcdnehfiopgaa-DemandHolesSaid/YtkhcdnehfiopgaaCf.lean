/- A configuration as an argument: its records as plain data, how they lie in memory, opened. -/
import Derived.Test.YtkhcdnehfiopgaaBut
import Derived.Test.YtkhcdnehfiopgaaPost
import Derived.Test.YtkhcdnehfiopgaaRows
import Derived.Deep.Slices
import Derived.Deep.Fields
import Derived.ChangeSame
import Derived.Lib.SmallJoins
namespace Go.Proofs.Ytkhcdnehfiopgaa
open Go.RowKit Go.WideShapes Go.ChangeShapes Go.WideElems Go.Deep Go.Joins
set_option linter.unusedVariables false

structure PartR where
  id : Nat
  name : ByteArray
  per : Nat
  dur : Nat
  deriving DecidableEq
structure WinR where
  st : Nat
  len : Nat
  part : Nat
  deriving DecidableEq
structure RegR where
  base : Nat
  size : Nat
  part : Nat
  rights : Nat
  shared : Bool
  deriving DecidableEq
structure PortR where
  id : Nat
  part : Nat
  name : ByteArray
  out : Bool
  que : Bool
  size : Nat
  deriving DecidableEq
/-- A channel with the address of its destinations. -/
structure ChanR where
  id : Nat
  src : Nat
  dests : List Nat
  at_ : Option Addr
  cap : Nat
/-- A slice: its elements, its address, its capacity. -/
structure Row (α : Type) where
  l : List α
  a : Option Addr
  c : Nat
structure Cfg where
  frame : Nat
  parts : Row PartR
  wins : Row WinR
  regs : Row RegR
  ports : Row PortR
  chans : Row ChanR

def partL (p : PartR) : List Value := [.int .u16 (p.id : Int), .string p.name, .int .u64 (p.per : Int), .int .u64 (p.dur : Int)]
def winL (x : WinR) : List Value := [.int .u64 (x.st : Int), .int .u64 (x.len : Int), .int .u16 (x.part : Int)]
def regL (r : RegR) : List Value := [.int .u64 (r.base : Int), .int .u64 (r.size : Int), .int .u16 (r.part : Int), .int .u8 (r.rights : Int), .bool r.shared]
def portL (p : PortR) : List Value := [.int .u16 (p.id : Int), .int .u16 (p.part : Int), .string p.name, .bool p.out, .bool p.que, .int .u32 (p.size : Int)]
def chanL (c : ChanR) : List Value := [.int .u16 (c.id : Int), .int .u16 (c.src : Int), .slice c.at_ c.dests.length c.cap]
theorem partL_len (p : PartR) : (partL p).length = 4 := rfl
theorem winL_len (p : WinR) : (winL p).length = 3 := rfl
theorem regL_len (p : RegR) : (regL p).length = 5 := rfl
theorem portL_len (p : PortR) : (portL p).length = 6 := rfl
theorem chanL_len (p : ChanR) : (chanL p).length = 3 := rfl
def destL (n : Nat) : Value := .int .u16 (n : Int)

def PartR.Ok (p : PartR) : Prop := p.id < 65536 ∧ p.name.size ≤ 9223372036854775807 ∧ p.per < 18446744073709551616 ∧ p.dur < 18446744073709551616
def WinR.Ok (x : WinR) : Prop := x.st < 18446744073709551616 ∧ x.len < 18446744073709551616 ∧ x.part < 65536
def RegR.Ok (x : RegR) : Prop := x.base < 18446744073709551616 ∧ x.size < 18446744073709551616 ∧ x.part < 65536 ∧ x.rights < 256
def PortR.Ok (p : PortR) : Prop := p.id < 65536 ∧ p.part < 65536 ∧ p.name.size ≤ 9223372036854775807 ∧ p.size < 4294967296
def ChanR.Ok (c : ChanR) : Prop := c.id < 65536 ∧ c.src < 65536 ∧ ∀ d ∈ c.dests, d < 65536

/-- A slice of records lies below block B. -/
def RowAt {α : Type} (enc : α → List Value) (k B : Nat) (r : Row α) (w : World) : Prop := Reads w B k r.a r.l.length (r.l.flatMap enc) ∧ r.l.length ≤ r.c ∧ r.c ≤ 9223372036854775807
def DestsAt (B : Nat) (c : ChanR) (w : World) : Prop := Reads w B 1 c.at_ c.dests.length (c.dests.map destL) ∧ c.dests.length ≤ c.cap ∧ c.cap ≤ 9223372036854775807
section
variable {α : Type} {enc : α → List Value} {k B B' : Nat} {r : Row α} {w w' : World}
theorem RowAt.below (h : RowAt enc k B r w) (hb : Below B w w') : RowAt enc k B r w' := ⟨h.1.below hb, h.2⟩
theorem RowAt.more (h : RowAt enc k B r w) (hB : B ≤ B') : RowAt enc k B' r w := ⟨h.1.more hB, h.2⟩
theorem addr_plain (b o j : Nat) : (⟨b, o, none⟩ : Addr).add j = ⟨b, o + j, none⟩ := by
  unfold Addr.add
  by_cases h : j = 0
  · subst h; simp
  · simp [h]
theorem addr_of_cell {w : World} {a : Addr} {v : Value} (h : w.cell? a = some v) : a = ⟨a.block, a.off, none⟩ := by
  obtain ⟨b, o, p⟩ := a
  cases p with
  | none => rfl
  | some p =>
    simp [World.cell?] at h
    split at h <;> cases h
/-- An element's cells. -/
theorem RowAt.at_ (h : RowAt enc k B r w) (hk : ∀ x, (enc x).length = k) (hk0 : 0 < k) (i : Nat) (hi : i < r.l.length) :
    ∃ b o, r.a = some ⟨b, o, none⟩ ∧ b < B ∧ ∀ j, j < k → w.cell? ⟨b, o + i * k + j, none⟩ = (enc r.l[i])[j]? := by
  obtain ⟨ad, e, hb, hc⟩ := h.1.2 (by omega)
  have get : ∀ i (hi : i < r.l.length) j, j < k → w.cell? (ad.add (i * k + j)) = (enc r.l[i])[j]? := by
    intro i hi j hj
    have h0 := flat_get enc k hk r.l i j hi hj
    have hs : (enc r.l[i])[j]? = some ((enc r.l[i])[j]'(by rw [hk]; exact hj)) := List.getElem?_eq_getElem _
    rw [hs] at h0 ⊢
    exact hc _ _ h0
  have h00 := get 0 (by omega) 0 hk0
  rw [List.getElem?_eq_getElem (by rw [hk]; exact hk0)] at h00
  have hz := addr_of_cell h00
  rw [Nat.zero_mul, Nat.add_zero] at hz
  obtain ⟨b, o, p⟩ := ad
  have hp : p = none := by
    have := congrArg Addr.spot hz
    simpa [Addr.add] using this
  subst hp
  refine ⟨b, o, e, hb, fun j hj => ?_⟩
  have := get i hi j hj
  rw [addr_plain] at this
  rw [← this, Nat.add_assoc]
end
section
variable {B : Nat} {w : World}
theorem part_at {r : Row PartR} (h : RowAt partL 4 B r w) (i : Nat) (hi : i < r.l.length) :
    ∃ b o, r.a = some ⟨b, o, none⟩ ∧ b < B ∧ w.cell? ⟨b, o + i * 4, none⟩ = some (.int .u16 (r.l[i].id : Int)) ∧ w.cell? ⟨b, o + i * 4 + 1, none⟩ = some (.string r.l[i].name) ∧ w.cell? ⟨b, o + i * 4 + 2, none⟩ = some (.int .u64 (r.l[i].per : Int)) ∧ w.cell? ⟨b, o + i * 4 + 3, none⟩ = some (.int .u64 (r.l[i].dur : Int)) := by
  obtain ⟨b, o, e, hb, hc⟩ := h.at_ partL_len (by omega) i hi
  exact ⟨b, o, e, hb, hc 0 (by omega), hc 1 (by omega), hc 2 (by omega), hc 3 (by omega)⟩
theorem win_at {r : Row WinR} (h : RowAt winL 3 B r w) (i : Nat) (hi : i < r.l.length) :
    ∃ b o, r.a = some ⟨b, o, none⟩ ∧ b < B ∧ w.cell? ⟨b, o + i * 3, none⟩ = some (.int .u64 (r.l[i].st : Int)) ∧ w.cell? ⟨b, o + i * 3 + 1, none⟩ = some (.int .u64 (r.l[i].len : Int)) ∧ w.cell? ⟨b, o + i * 3 + 2, none⟩ = some (.int .u16 (r.l[i].part : Int)) := by
  obtain ⟨b, o, e, hb, hc⟩ := h.at_ winL_len (by omega) i hi
  exact ⟨b, o, e, hb, hc 0 (by omega), hc 1 (by omega), hc 2 (by omega)⟩
theorem reg_at {r : Row RegR} (h : RowAt regL 5 B r w) (i : Nat) (hi : i < r.l.length) :
    ∃ b o, r.a = some ⟨b, o, none⟩ ∧ b < B ∧ w.cell? ⟨b, o + i * 5, none⟩ = some (.int .u64 (r.l[i].base : Int)) ∧ w.cell? ⟨b, o + i * 5 + 1, none⟩ = some (.int .u64 (r.l[i].size : Int)) ∧ w.cell? ⟨b, o + i * 5 + 2, none⟩ = some (.int .u16 (r.l[i].part : Int)) ∧ w.cell? ⟨b, o + i * 5 + 3, none⟩ = some (.int .u8 (r.l[i].rights : Int)) ∧ w.cell? ⟨b, o + i * 5 + 4, none⟩ = some (.bool r.l[i].shared) := by
  obtain ⟨b, o, e, hb, hc⟩ := h.at_ regL_len (by omega) i hi
  exact ⟨b, o, e, hb, hc 0 (by omega), hc 1 (by omega), hc 2 (by omega), hc 3 (by omega), hc 4 (by omega)⟩
theorem port_at {r : Row PortR} (h : RowAt portL 6 B r w) (i : Nat) (hi : i < r.l.length) :
    ∃ b o, r.a = some ⟨b, o, none⟩ ∧ b < B ∧ w.cell? ⟨b, o + i * 6, none⟩ = some (.int .u16 (r.l[i].id : Int)) ∧ w.cell? ⟨b, o + i * 6 + 1, none⟩ = some (.int .u16 (r.l[i].part : Int)) ∧ w.cell? ⟨b, o + i * 6 + 2, none⟩ = some (.string r.l[i].name) ∧ w.cell? ⟨b, o + i * 6 + 3, none⟩ = some (.bool r.l[i].out) ∧ w.cell? ⟨b, o + i * 6 + 4, none⟩ = some (.bool r.l[i].que) ∧ w.cell? ⟨b, o + i * 6 + 5, none⟩ = some (.int .u32 (r.l[i].size : Int)) := by
  obtain ⟨b, o, e, hb, hc⟩ := h.at_ portL_len (by omega) i hi
  exact ⟨b, o, e, hb, hc 0 (by omega), hc 1 (by omega), hc 2 (by omega), hc 3 (by omega), hc 4 (by omega), hc 5 (by omega)⟩
theorem chan_at {r : Row ChanR} (h : RowAt chanL 3 B r w) (i : Nat) (hi : i < r.l.length) :
    ∃ b o, r.a = some ⟨b, o, none⟩ ∧ b < B ∧ w.cell? ⟨b, o + i * 3, none⟩ = some (.int .u16 (r.l[i].id : Int)) ∧ w.cell? ⟨b, o + i * 3 + 1, none⟩ = some (.int .u16 (r.l[i].src : Int)) ∧ w.cell? ⟨b, o + i * 3 + 2, none⟩ = some (.slice r.l[i].at_ r.l[i].dests.length r.l[i].cap) := by
  obtain ⟨b, o, e, hb, hc⟩ := h.at_ chanL_len (by omega) i hi
  exact ⟨b, o, e, hb, hc 0 (by omega), hc 1 (by omega), hc 2 (by omega)⟩
end

/-- The configuration lies below block B. -/
structure CfgAt (B : Nat) (c : Cfg) (w : World) : Prop where
  parts : RowAt partL 4 B c.parts w
  wins : RowAt winL 3 B c.wins w
  regs : RowAt regL 5 B c.regs w
  ports : RowAt portL 6 B c.ports w
  chans : RowAt chanL 3 B c.chans w
  dests : ∀ x ∈ c.chans.l, DestsAt B x w
structure Cfg.Ok (c : Cfg) : Prop where
  frame : c.frame < 18446744073709551616
  parts : ∀ x ∈ c.parts.l, x.Ok
  wins : ∀ x ∈ c.wins.l, x.Ok
  regs : ∀ x ∈ c.regs.l, x.Ok
  ports : ∀ x ∈ c.ports.l, x.Ok
  chans : ∀ x ∈ c.chans.l, x.Ok
section
variable {B B' : Nat} {c : Cfg} {w w' : World}
theorem DestsAt.below {x : ChanR} (h : DestsAt B x w) (hb : Below B w w') : DestsAt B x w' := ⟨h.1.below hb, h.2⟩
theorem DestsAt.more {x : ChanR} (h : DestsAt B x w) (hB : B ≤ B') : DestsAt B' x w := ⟨h.1.more hB, h.2⟩
theorem CfgAt.below (h : CfgAt B c w) (hb : Below B w w') : CfgAt B c w' := ⟨h.parts.below hb, h.wins.below hb, h.regs.below hb, h.ports.below hb, h.chans.below hb, fun x hx => (h.dests x hx).below hb⟩
theorem CfgAt.more (h : CfgAt B c w) (hB : B ≤ B') : CfgAt B' c w := ⟨h.parts.more hB, h.wins.more hB, h.regs.more hB, h.ports.more hB, h.chans.more hB, fun x hx => (h.dests x hx).more hB⟩
end
def linksN (l : List ChanR) : Nat := (l.map fun x => x.dests.length).sum
def Cfg.Small (c : Cfg) : Prop := c.parts.l.length + c.wins.l.length + c.regs.l.length + c.ports.l.length + c.chans.l.length + linksN c.chans.l ≤ 1048576
theorem sum_ones {α : Type} (l : List α) : (l.map fun _ => 1).sum = l.length := by
  induction l with
  | nil => rfl
  | cons x l ih => simp only [List.map_cons, List.sum_cons, ih, List.length_cons]; omega
theorem sum_dests (l : List ChanR) : (l.map fun x => x.dests.length + 1).sum = linksN l + l.length := by
  unfold linksN
  induction l with
  | nil => rfl
  | cons x l ih => simp only [List.map_cons, List.sum_cons, ih, List.length_cons]; omega
/-- The value. -/
def cfgV (c : Cfg) : Value := .agg #[.int .u64 (c.frame : Int), .slice c.parts.a c.parts.l.length c.parts.c, .slice c.wins.a c.wins.l.length c.wins.c, .slice c.regs.a c.regs.l.length c.regs.c, .slice c.ports.a c.ports.l.length c.ports.c, .slice c.chans.a c.chans.l.length c.chans.c]

/-! ### Opened -/
theorem list_of_each {α : Type} {R : Nat → α → Prop} : ∀ n, (∀ i, i < n → ∃ c, R i c) → ∃ l : List α, l.length = n ∧ ∀ i, (hi : i < l.length) → R i l[i] := by
  intro n
  induction n with
  | zero => intro _; exact ⟨[], rfl, fun i h => absurd h (by simp)⟩
  | succ n ih =>
    intro h
    obtain ⟨l, hl, hR⟩ := ih (fun i hi => h i (by omega))
    obtain ⟨c, hc⟩ := h n (by omega)
    refine ⟨l ++ [c], by simp [hl], fun i hi => ?_⟩
    by_cases hin : i < n
    · rw [List.getElem_append_left (by omega)]; exact hR i _
    · have : i = n := by simp [hl] at hi; omega
      subst this
      rw [List.getElem_append_right (by omega)]
      simpa [hl] using hc
theorem nat_u64 {z : Int} (h : (Lit.int .u64 z).wf = true) : ∃ n : Nat, z = (n : Int) ∧ n < 18446744073709551616 := by
  have := bounds_u64 h
  exact ⟨z.toNat, by omega, by omega⟩
theorem nat_u32 {z : Int} (h : (Lit.int .u32 z).wf = true) : ∃ n : Nat, z = (n : Int) ∧ n < 4294967296 := by
  have := bounds_u32 h
  exact ⟨z.toNat, by omega, by omega⟩
theorem nat_u16 {z : Int} (h : (Lit.int .u16 z).wf = true) : ∃ n : Nat, z = (n : Int) ∧ n < 65536 := by
  have := bounds_u16 h
  exact ⟨z.toNat, by omega, by omega⟩
theorem nat_u8 {z : Int} (h : (Lit.int .u8 z).wf = true) : ∃ n : Nat, z = (n : Int) ∧ n < 256 := by
  have := bounds_u8 h
  exact ⟨z.toNat, by omega, by omega⟩
section
variable {H : Type} {enc : TypeId × Value → H} {P : Program} {w : World}
theorem open_elems {base : Nat} {spare : Nat → Bool} {held : Bool} {t e : TypeId} {fs : Array Field} {fuel : Nat} {cs : List Value} {x : DataW H × List MemPlace} (ht : P.underlying t = some (.slice e)) (he : P.underlying e = some (.struct fs))
    (hone : oneCellFields P fs = true) (hC : P.cellsOf e = fs.size) (h : DataW.trod enc P w base spare held fuel t cs = some x) :
    (cs = [.slice none 0 0] ∧ x = (.nil, [])) ∨
    ∃ (a : Addr) (len cap m : Nat) (D : Nat → DataW H) (Pl : Nat → List MemPlace), cs = [.slice (some a) len cap] ∧ base ≤ a.block ∧ len ≤ cap ∧ cap ≤ maxLen ∧ m = (if spare a.block then cap else len) ∧
      x = (.slice ((List.range len).map D) ((List.range (m - len)).map fun j => D (len + j)), MemPlace.row a (m * fs.size) ++ (List.range m).flatMap Pl) ∧
      ∀ i, i < m → ∃ (ys : List (DataW H × List MemPlace)) (n : Nat), D i = .agg (ys.map (·.1)) ∧ Pl i = ys.flatMap (·.2) ∧ ys.length = fs.size ∧
        ∀ (j : Nat) (f : Field), fs[j]? = some f → ∃ (v : Value) (y : DataW H × List MemPlace), w.cell? (a.add (i * fs.size + j)) = some v ∧ ys[j]? = some y ∧ DataW.trod enc P w base spare held n f.type [v] = some y := by
  rcases open_slice ht h with h0 | ⟨a, len, cap, m, n, D, Pl, hcs, hb, hl, hm, hmm, hx, hi⟩
  · exact .inl h0
  · refine .inr ⟨a, len, cap, m, D, Pl, hcs, hb, hl, hm, hmm, by rw [hC] at hx; exact hx, fun i him => ?_⟩
    obtain ⟨cs', hc, ht'⟩ := hi i him
    rw [hC] at hc
    obtain ⟨ys, n', hn', hy, hlen, hyl, hf⟩ := DataW.trod_struct he ht'
    obtain ⟨_, hcl, hat⟩ := World.cells?_some hc
    simp only [Prod.mk.injEq] at hy
    refine ⟨ys, n', hy.1, hy.2, hyl, fun j f hj => ?_⟩
    obtain ⟨ho, hk⟩ := hone_of hone j f hj
    have hjl : j < fs.size := (Array.getElem?_eq_some_iff.1 hj).1
    have hcell := hat j hjl
    have hv : cs'[j]? = some (cs'[j]'(by omega)) := List.getElem?_eq_getElem (by omega)
    have h1 := hf j f hj
    rw [ho, hk] at h1
    have hone' : (cs'.drop j).take 1 = [cs'[j]'(by omega)] := by
      rw [List.drop_eq_getElem_cons (by omega)]
      rfl
    rw [hone'] at h1
    have hys : ys[j]? = some (ys[j]'(by omega)) := List.getElem?_eq_getElem (by omega)
    refine ⟨_, _, ?_, hys, h1.trans hys⟩
    rw [← Go.Deep.add_add, hcell, hv]
theorem cell_lt_any {a : Addr} {v : Value} (h : w.cell? a = some v) : a.block < w.heap.size := by
  rcases Nat.lt_or_ge a.block w.heap.size with hl | hl
  · exact hl
  · simp [World.cell?, Array.getElem?_eq_none hl] at h
/-- A list of elements of k cells, cell by cell, is a row. -/
theorem reads_of_cells {α : Type} {encα : α → List Value} {k : Nat} (hk : ∀ x, (encα x).length = k) (hk0 : 0 < k) (a : Addr) (l : List α) (h : ∀ i, (hi : i < l.length) → ∀ j, j < k → w.cell? (a.add (i * k + j)) = (encα l[i])[j]?) :
    Reads w w.heap.size k (some a) l.length (l.flatMap encα) := by
  refine ⟨flat_len encα k hk l, fun h0 => ⟨a, rfl, ?_, ?_⟩⟩
  · have h1 := h 0 h0 0 hk0
    rw [List.getElem?_eq_getElem (by rw [hk]; exact hk0)] at h1
    have h2 := cell_lt_any h1
    rwa [block_of_add] at h2
  · intro j u hu
    have hjl : j < l.length * k := by rw [← flat_len encα k hk l]; exact (List.getElem?_eq_some_iff.1 hu).1
    have hi2 : j / k < l.length := Nat.div_lt_of_lt_mul (by rw [Nat.mul_comm]; exact hjl)
    have hj2 : j % k < k := Nat.mod_lt _ hk0
    have ej : j / k * k + j % k = j := by rw [Nat.mul_comm]; exact Nat.div_add_mod j k
    have e := flat_get encα k hk l (j / k) (j % k) hi2 hj2
    have hc := h (j / k) hi2 (j % k) hj2
    rw [ej] at e hc
    rw [hc, ← e, hu]
theorem bulk_one (d : DataW H) : 1 ≤ Rows.uptoBulk d := by
  cases d with
  | lit l => cases l <;> simp [Rows.uptoBulk]
  | _ => simp [Rows.uptoBulk]
theorem bulk_sum {α : Type} {Wt : α → Nat} : ∀ (l : List α) (M : List (DataW H)), l.length = M.length → (∀ i, (h : i < l.length) → (h' : i < M.length) → Wt l[i] ≤ Rows.uptoBulk M[i]) → (l.map Wt).sum ≤ Rows.uptoBulkAll M
  | [], [], _, _ => by simp
  | x :: l, y :: M, hl, h => by
    have h0 := h 0 (by simp) (by simp)
    have h1 := bulk_sum l M (by simpa using hl) (fun i hi hi' => h (i + 1) (by simpa using hi) (by simpa using hi'))
    simp only [List.map_cons, List.sum_cons, Rows.uptoBulkAll]
    simp only [List.getElem_cons_zero] at h0
    omega
  | [], _ :: _, hl, _ => by simp at hl
  | _ :: _, [], hl, _ => by simp at hl
theorem bulk_part {d : DataW H} {l : List (DataW H)} (h : d ∈ l) : Rows.uptoBulk d ≤ Rows.uptoBulkAll l := by
  induction l with
  | nil => cases h
  | cons x r ih =>
    simp only [Rows.uptoBulkAll]
    rcases List.mem_cons.1 h with e | e
    · subst e; omega
    · have := ih e; omega
theorem bulk_len (l : List (DataW H)) : l.length ≤ Rows.uptoBulkAll l := by
  induction l with
  | nil => simp
  | cons x r ih => have := bulk_one x; simp only [Rows.uptoBulkAll, List.length_cons]; omega
theorem open_row {α : Type} {encα : α → List Value} {k : Nat} (hk : ∀ x, (encα x).length = k) (hk0 : 0 < k) {Ok : α → Prop} {Wt : α → Nat} {t e : TypeId} {fs : Array Field} {fuel : Nat} {v : Value} {x : DataW H × List MemPlace}
    (ht : P.underlying t = some (.slice e)) (he : P.underlying e = some (.struct fs)) (hone : oneCellFields P fs = true) (hC : P.cellsOf e = fs.size) (hfs : fs.size = k) (h : DataW.trod enc P w 0 (fun _ => true) true fuel t [v] = some x)
    (each : ∀ (a : Addr) (i n : Nat) (ys : List (DataW H × List MemPlace)), (∀ (j : Nat) (f : Field), fs[j]? = some f → ∃ (v : Value) (y : DataW H × List MemPlace), w.cell? (a.add (i * fs.size + j)) = some v ∧ ys[j]? = some y ∧ DataW.trod enc P w 0 (fun _ => true) true n f.type [v] = some y) →
      ∃ x : α, (Ok x ∧ Wt x ≤ Rows.uptoBulk (DataW.agg (ys.map (·.1)))) ∧ ∀ j, j < k → w.cell? (a.add (i * k + j)) = (encα x)[j]?) :
    ∃ r : Row α, v = .slice r.a r.l.length r.c ∧ ((∀ x ∈ r.l, Ok x) ∧ (r.l.map Wt).sum ≤ Rows.uptoBulk x.1) ∧ RowAt encα k w.heap.size r w := by
  rcases open_elems ht he hone hC h with ⟨hcs, _⟩ | ⟨a, len, cap, m, D, Pl, hcs, _, hl, hm, hmm, hx, hi⟩
  · injection hcs with hcs
    subst hcs
    exact ⟨⟨[], none, 0⟩, rfl, ⟨fun s hs => (by cases hs), by simp⟩, ⟨by simp, fun h => absurd h (by simp)⟩, Nat.le_refl _, Nat.zero_le _⟩
  · injection hcs with hcs
    subst hcs
    rw [if_pos rfl] at hmm
    obtain rfl := hmm.symm
    have hal : ∀ i, i < len → ∃ x : α, (Ok x ∧ Wt x ≤ Rows.uptoBulk (D i)) ∧ ∀ j, j < k → w.cell? (a.add (i * k + j)) = (encα x)[j]? := by
      intro i hil
      obtain ⟨ys, n, hD, _, _, hfl⟩ := hi i (by omega)
      rw [hD]
      exact each a i n ys hfl
    obtain ⟨l, hll, hR⟩ := list_of_each len hal
    subst hll
    have hsum : (l.map Wt).sum ≤ Rows.uptoBulk x.1 := by
      rw [hx]
      have := bulk_sum (Wt := Wt) l ((List.range l.length).map D) (by simp) (fun i h h' => by simpa using (hR i h).1.2)
      simp only [Rows.uptoBulk]
      omega
    refine ⟨⟨l, some a, cap⟩, rfl, ⟨fun s hs => ?_, hsum⟩, reads_of_cells hk hk0 a l (fun i hi => (hR i hi).2), hl, by simpa only [maxLen] using hm⟩
    obtain ⟨i, hi, rfl⟩ := List.getElem_of_mem hs
    exact (hR i hi).1.1
theorem flat_one : ∀ l : List Nat, l.flatMap (fun x => [destL x]) = l.map destL
  | [] => rfl
  | x :: l => by rw [List.flatMap_cons, flat_one l]; rfl
/-- A slice of numbers of 16 bits. -/
theorem open_u16s {t e : TypeId} {fuel : Nat} {v : Value} {x : DataW H × List MemPlace} (ht : P.underlying t = some (.slice e)) (he : P.underlying e = some (.int .u16)) (hC : P.cellsOf e = 1) (h : DataW.trod enc P w 0 (fun _ => true) true fuel t [v] = some x) :
    ∃ (l : List Nat) (A : Option Addr) (c : Nat), v = .slice A l.length c ∧ (∀ d ∈ l, d < 65536) ∧ Reads w w.heap.size 1 A l.length (l.map destL) ∧ l.length ≤ c ∧ c ≤ 9223372036854775807 ∧ l.length ≤ Rows.uptoBulk x.1 := by
  rcases open_slice ht h with ⟨hcs, _⟩ | ⟨a, len, cap, m, n, D, Pl, hcs, hb, hl, hm, hmm, hx, hi⟩
  · injection hcs with hcs
    subst hcs
    exact ⟨[], none, 0, rfl, fun s hs => (by cases hs), ⟨by simp, fun h => absurd h (by simp)⟩, Nat.le_refl _, Nat.zero_le _, by simp⟩
  · injection hcs with hcs
    subst hcs
    rw [if_pos rfl] at hmm
    obtain rfl := hmm.symm
    have hal : ∀ i, i < len → ∃ d : Nat, d < 65536 ∧ w.cell? (a.add i) = some (destL d) := by
      intro i hil
      obtain ⟨cs', hc, ht'⟩ := hi i (by omega)
      obtain ⟨_, hcl, hat⟩ := World.cells?_some hc
      obtain ⟨z, rfl, _, wz⟩ := DataW.trod_int he ht'
      obtain ⟨d, rfl, hd⟩ := nat_u16 wz
      refine ⟨d, hd, ?_⟩
      have := hat 0 (by omega)
      rw [hC, Nat.mul_one, Go.Deep.add_add, Nat.add_zero] at this
      exact this
    obtain ⟨l, hll, hR⟩ := list_of_each len hal
    subst hll
    have hk1 : ∀ x : Nat, ([destL x] : List Value).length = 1 := fun _ => rfl
    have hr := reads_of_cells (w := w) hk1 (by omega) a l (fun i hi j hj => by
      have : j = 0 := by omega
      subst this
      rw [Nat.mul_one, Nat.add_zero]
      exact (hR i hi).2)
    have hf : l.flatMap (fun x => [destL x]) = l.map destL := flat_one l
    have hbk : l.length ≤ Rows.uptoBulk x.1 := by
      rw [hx]
      have := bulk_len ((List.range l.length).map D)
      simp only [Rows.uptoBulk]
      simp only [List.length_map, List.length_range] at this
      omega
    refine ⟨l, some a, cap, rfl, fun d hd => ?_, by rw [← hf]; exact hr, hl, by simpa only [maxLen] using hm, hbk⟩
    obtain ⟨i, hi, rfl⟩ := List.getElem_of_mem hd
    exact (hR i hi).1
end
section
variable {H : Type} {enc : TypeId × Value → H} {P : Program} {w : World} {base : Nat} {spare : Nat → Bool} {held : Bool}
theorem open_agg6 {r : Reach} {b0 : Nat} {t : TypeId} {f0 f1 f2 f3 f4 f5 : Field} {v : Value} {d : DataW H} {p : List MemPlace} (hs : P.underlying t = some (.struct #[f0, f1, f2, f3, f4, f5])) (hone : oneCellFields P #[f0, f1, f2, f3, f4, f5] = true) (hC : P.cellsOf t = 6)
    (hv : Value.okWide P w r b0 t v) (h : DataW.Trod enc P w base spare held t v d p) :
    ∃ (v0 v1 v2 v3 v4 v5 : Value) (y0 y1 y2 y3 y4 y5 : DataW H × List MemPlace) (n : Nat), v = .agg #[v0, v1, v2, v3, v4, v5] ∧ d = .agg [y0.1, y1.1, y2.1, y3.1, y4.1, y5.1] ∧ p = y0.2 ++ (y1.2 ++ (y2.2 ++ (y3.2 ++ (y4.2 ++ y5.2)))) ∧
      DataW.trod enc P w base spare held n f0.type [v0] = some y0 ∧ DataW.trod enc P w base spare held n f1.type [v1] = some y1 ∧ DataW.trod enc P w base spare held n f2.type [v2] = some y2 ∧ DataW.trod enc P w base spare held n f3.type [v3] = some y3 ∧ DataW.trod enc P w base spare held n f4.type [v4] = some y4 ∧ DataW.trod enc P w base spare held n f5.type [v5] = some y5 := by
  obtain ⟨cs, rfl, hsz⟩ := okWide_struct hs hv
  obtain ⟨l⟩ := cs
  match l, hsz.trans hC with
  | [c0, c1, c2, c3, c4, c5], _ =>
    obtain ⟨fuel, hf⟩ := h
    obtain ⟨xs, n, _, hx, _, hlen, hg⟩ := DataW.trod_struct hs hf
    obtain ⟨o0, k0⟩ := hone_of hone 0 f0 rfl
    obtain ⟨o1, k1⟩ := hone_of hone 1 f1 rfl
    obtain ⟨o2, k2⟩ := hone_of hone 2 f2 rfl
    obtain ⟨o3, k3⟩ := hone_of hone 3 f3 rfl
    obtain ⟨o4, k4⟩ := hone_of hone 4 f4 rfl
    obtain ⟨o5, k5⟩ := hone_of hone 5 f5 rfl
    match xs, hlen with
    | [y0, y1, y2, y3, y4, y5], _ =>
      simp only [Prod.mk.injEq] at hx
      exact ⟨c0, c1, c2, c3, c4, c5, y0, y1, y2, y3, y4, y5, n, rfl, by simpa using hx.1, by simpa using hx.2, by simpa [Value.cells, o0, k0] using hg 0 f0 rfl, by simpa [Value.cells, o1, k1] using hg 1 f1 rfl, by simpa [Value.cells, o2, k2] using hg 2 f2 rfl, by simpa [Value.cells, o3, k3] using hg 3 f3 rfl, by simpa [Value.cells, o4, k4] using hg 4 f4 rfl, by simpa [Value.cells, o5, k5] using hg 5 f5 rfl⟩
end
section
variable {H : Type} {enc : TypeId × Value → H}
set_option maxRecDepth 100000 in
theorem open_parts {fuel : Nat} {W : World} {v : Value} {x : DataW H × List MemPlace} (h : DataW.trod enc Try.prog W 0 (fun _ => true) true fuel 23 [v] = some x) :
    ∃ r : Row PartR, v = .slice r.a r.l.length r.c ∧ ((∀ x ∈ r.l, (PartR.Ok : PartR → Prop) x) ∧ (r.l.map (fun _ => 1)).sum ≤ Rows.uptoBulk x.1) ∧ RowAt partL 4 W.heap.size r W := by
  refine open_row (Wt := fun _ => 1) (Ok := PartR.Ok) partL_len (by omega) Try.underlying23 Try.underlying40 (by kernel_rfl) (by kernel_rfl) rfl h (fun a i n ys hf => ?_)
  obtain ⟨u0, y0, c0, _, t0⟩ := hf 0 _ rfl
  obtain ⟨u1, y1, c1, _, t1⟩ := hf 1 _ rfl
  obtain ⟨u2, y2, c2, _, t2⟩ := hf 2 _ rfl
  obtain ⟨u3, y3, c3, _, t3⟩ := hf 3 _ rfl
  obtain ⟨z0, e0, _, w0⟩ := DataW.trod_int Try.underlying38 t0
  injection e0 with e0 _
  subst e0
  obtain ⟨n0, rfl, o0⟩ := nat_u16 w0
  obtain ⟨s1, e1, _, o1⟩ := DataW.trod_string Try.underlying9 t1
  injection e1 with e1 _
  subst e1
  obtain ⟨z2, e2, _, w2⟩ := DataW.trod_int Try.underlying22 t2
  injection e2 with e2 _
  subst e2
  obtain ⟨n2, rfl, o2⟩ := nat_u64 w2
  obtain ⟨z3, e3, _, w3⟩ := DataW.trod_int Try.underlying22 t3
  injection e3 with e3 _
  subst e3
  obtain ⟨n3, rfl, o3⟩ := nat_u64 w3
  refine ⟨⟨n0, s1, n2, n3⟩, ⟨⟨o0, (by simpa only [maxLen] using o1), o2, o3⟩, bulk_one _⟩, fun j hj => ?_⟩
  match j, hj with
  | 0, _ => exact c0
  | 1, _ => exact c1
  | 2, _ => exact c2
  | 3, _ => exact c3
set_option maxRecDepth 100000 in
theorem open_wins {fuel : Nat} {W : World} {v : Value} {x : DataW H × List MemPlace} (h : DataW.trod enc Try.prog W 0 (fun _ => true) true fuel 24 [v] = some x) :
    ∃ r : Row WinR, v = .slice r.a r.l.length r.c ∧ ((∀ x ∈ r.l, (WinR.Ok : WinR → Prop) x) ∧ (r.l.map (fun _ => 1)).sum ≤ Rows.uptoBulk x.1) ∧ RowAt winL 3 W.heap.size r W := by
  refine open_row (Wt := fun _ => 1) (Ok := WinR.Ok) winL_len (by omega) Try.underlying24 Try.underlying49 (by kernel_rfl) (by kernel_rfl) rfl h (fun a i n ys hf => ?_)
  obtain ⟨u0, y0, c0, _, t0⟩ := hf 0 _ rfl
  obtain ⟨u1, y1, c1, _, t1⟩ := hf 1 _ rfl
  obtain ⟨u2, y2, c2, _, t2⟩ := hf 2 _ rfl
  obtain ⟨z0, e0, _, w0⟩ := DataW.trod_int Try.underlying22 t0
  injection e0 with e0 _
  subst e0
  obtain ⟨n0, rfl, o0⟩ := nat_u64 w0
  obtain ⟨z1, e1, _, w1⟩ := DataW.trod_int Try.underlying22 t1
  injection e1 with e1 _
  subst e1
  obtain ⟨n1, rfl, o1⟩ := nat_u64 w1
  obtain ⟨z2, e2, _, w2⟩ := DataW.trod_int Try.underlying38 t2
  injection e2 with e2 _
  subst e2
  obtain ⟨n2, rfl, o2⟩ := nat_u16 w2
  refine ⟨⟨n0, n1, n2⟩, ⟨⟨o0, o1, o2⟩, bulk_one _⟩, fun j hj => ?_⟩
  match j, hj with
  | 0, _ => exact c0
  | 1, _ => exact c1
  | 2, _ => exact c2
set_option maxRecDepth 100000 in
theorem open_regs {fuel : Nat} {W : World} {v : Value} {x : DataW H × List MemPlace} (h : DataW.trod enc Try.prog W 0 (fun _ => true) true fuel 25 [v] = some x) :
    ∃ r : Row RegR, v = .slice r.a r.l.length r.c ∧ ((∀ x ∈ r.l, (RegR.Ok : RegR → Prop) x) ∧ (r.l.map (fun _ => 1)).sum ≤ Rows.uptoBulk x.1) ∧ RowAt regL 5 W.heap.size r W := by
  refine open_row (Wt := fun _ => 1) (Ok := RegR.Ok) regL_len (by omega) Try.underlying25 Try.underlying141 (by kernel_rfl) (by kernel_rfl) rfl h (fun a i n ys hf => ?_)
  obtain ⟨u0, y0, c0, _, t0⟩ := hf 0 _ rfl
  obtain ⟨u1, y1, c1, _, t1⟩ := hf 1 _ rfl
  obtain ⟨u2, y2, c2, _, t2⟩ := hf 2 _ rfl
  obtain ⟨u3, y3, c3, _, t3⟩ := hf 3 _ rfl
  obtain ⟨u4, y4, c4, _, t4⟩ := hf 4 _ rfl
  obtain ⟨z0, e0, _, w0⟩ := DataW.trod_int Try.underlying22 t0
  injection e0 with e0 _
  subst e0
  obtain ⟨n0, rfl, o0⟩ := nat_u64 w0
  obtain ⟨z1, e1, _, w1⟩ := DataW.trod_int Try.underlying22 t1
  injection e1 with e1 _
  subst e1
  obtain ⟨n1, rfl, o1⟩ := nat_u64 w1
  obtain ⟨z2, e2, _, w2⟩ := DataW.trod_int Try.underlying38 t2
  injection e2 with e2 _
  subst e2
  obtain ⟨n2, rfl, o2⟩ := nat_u16 w2
  obtain ⟨z3, e3, _, w3⟩ := DataW.trod_int Try.underlying5 t3
  injection e3 with e3 _
  subst e3
  obtain ⟨n3, rfl, o3⟩ := nat_u8 w3
  obtain ⟨b4, e4, _⟩ := DataW.trod_bool Try.underlying4 t4
  injection e4 with e4 _
  subst e4
  refine ⟨⟨n0, n1, n2, n3, b4⟩, ⟨⟨o0, o1, o2, o3⟩, bulk_one _⟩, fun j hj => ?_⟩
  match j, hj with
  | 0, _ => exact c0
  | 1, _ => exact c1
  | 2, _ => exact c2
  | 3, _ => exact c3
  | 4, _ => exact c4
set_option maxRecDepth 100000 in
theorem open_ports {fuel : Nat} {W : World} {v : Value} {x : DataW H × List MemPlace} (h : DataW.trod enc Try.prog W 0 (fun _ => true) true fuel 26 [v] = some x) :
    ∃ r : Row PortR, v = .slice r.a r.l.length r.c ∧ ((∀ x ∈ r.l, (PortR.Ok : PortR → Prop) x) ∧ (r.l.map (fun _ => 1)).sum ≤ Rows.uptoBulk x.1) ∧ RowAt portL 6 W.heap.size r W := by
  refine open_row (Wt := fun _ => 1) (Ok := PortR.Ok) portL_len (by omega) Try.underlying26 Try.underlying73 (by kernel_rfl) (by kernel_rfl) rfl h (fun a i n ys hf => ?_)
  obtain ⟨u0, y0, c0, _, t0⟩ := hf 0 _ rfl
  obtain ⟨u1, y1, c1, _, t1⟩ := hf 1 _ rfl
  obtain ⟨u2, y2, c2, _, t2⟩ := hf 2 _ rfl
  obtain ⟨u3, y3, c3, _, t3⟩ := hf 3 _ rfl
  obtain ⟨u4, y4, c4, _, t4⟩ := hf 4 _ rfl
  obtain ⟨u5, y5, c5, _, t5⟩ := hf 5 _ rfl
  obtain ⟨z0, e0, _, w0⟩ := DataW.trod_int Try.underlying38 t0
  injection e0 with e0 _
  subst e0
  obtain ⟨n0, rfl, o0⟩ := nat_u16 w0
  obtain ⟨z1, e1, _, w1⟩ := DataW.trod_int Try.underlying38 t1
  injection e1 with e1 _
  subst e1
  obtain ⟨n1, rfl, o1⟩ := nat_u16 w1
  obtain ⟨s2, e2, _, o2⟩ := DataW.trod_string Try.underlying9 t2
  injection e2 with e2 _
  subst e2
  obtain ⟨b3, e3, _⟩ := DataW.trod_bool Try.underlying4 t3
  injection e3 with e3 _
  subst e3
  obtain ⟨b4, e4, _⟩ := DataW.trod_bool Try.underlying4 t4
  injection e4 with e4 _
  subst e4
  obtain ⟨z5, e5, _, w5⟩ := DataW.trod_int Try.underlying45 t5
  injection e5 with e5 _
  subst e5
  obtain ⟨n5, rfl, o5⟩ := nat_u32 w5
  refine ⟨⟨n0, n1, s2, b3, b4, n5⟩, ⟨⟨o0, o1, (by simpa only [maxLen] using o2), o5⟩, bulk_one _⟩, fun j hj => ?_⟩
  match j, hj with
  | 0, _ => exact c0
  | 1, _ => exact c1
  | 2, _ => exact c2
  | 3, _ => exact c3
  | 4, _ => exact c4
  | 5, _ => exact c5
set_option maxRecDepth 100000 in
theorem open_chans {fuel : Nat} {W : World} {v : Value} {x : DataW H × List MemPlace} (h : DataW.trod enc Try.prog W 0 (fun _ => true) true fuel 27 [v] = some x) :
    ∃ r : Row ChanR, v = .slice r.a r.l.length r.c ∧ ((∀ x ∈ r.l, ((fun x => ChanR.Ok x ∧ DestsAt W.heap.size x W) : ChanR → Prop) x) ∧ (r.l.map (fun x => x.dests.length + 1)).sum ≤ Rows.uptoBulk x.1) ∧ RowAt chanL 3 W.heap.size r W := by
  refine open_row (Wt := fun x => x.dests.length + 1) (Ok := (fun x => ChanR.Ok x ∧ DestsAt W.heap.size x W)) chanL_len (by omega) Try.underlying27 Try.underlying88 (by kernel_rfl) (by kernel_rfl) rfl h (fun a i n ys hf => ?_)
  obtain ⟨u0, y0, c0, _, t0⟩ := hf 0 _ rfl
  obtain ⟨u1, y1, c1, _, t1⟩ := hf 1 _ rfl
  obtain ⟨u2, y2, c2, g2, t2⟩ := hf 2 _ rfl
  obtain ⟨z0, e0, _, w0⟩ := DataW.trod_int Try.underlying38 t0
  injection e0 with e0 _
  subst e0
  obtain ⟨n0, rfl, o0⟩ := nat_u16 w0
  obtain ⟨z1, e1, _, w1⟩ := DataW.trod_int Try.underlying38 t1
  injection e1 with e1 _
  subst e1
  obtain ⟨n1, rfl, o1⟩ := nat_u16 w1
  obtain ⟨l2, A2, k2, rfl, o2, r2, m2, p2, b2⟩ := open_u16s Try.underlying86 Try.underlying38 (by kernel_rfl) t2
  refine ⟨⟨n0, n1, l2, A2, k2⟩, ⟨⟨⟨o0, o1, o2⟩, r2, m2, p2⟩, ?_⟩, fun j hj => ?_⟩
  · have h2 : y2 ∈ ys := List.mem_of_getElem? g2
    have h3 := bulk_part (List.mem_map_of_mem (f := (·.1)) h2)
    simp only [Rows.uptoBulk]
    show l2.length + 1 ≤ _
    omega
  match j, hj with
  | 0, _ => exact c0
  | 1, _ => exact c1
  | 2, _ => exact c2
set_option maxRecDepth 100000 in
theorem open_cfg {r : Reach} {b0 : Nat} {W : World} {v : Value} {d : DataW H} {ps : List MemPlace} (hval : Value.okWide Try.prog W r b0 29 v) (hd : DataW.Trod enc Try.prog W 0 (fun _ => true) true 29 v d ps) :
    ∃ c : Cfg, v = cfgV c ∧ c.Ok ∧ CfgAt W.heap.size c W ∧ (Rows.uptoBulk d ≤ 1048576 → c.Small) := by
  obtain ⟨v0, v1, v2, v3, v4, v5, y0, y1, y2, y3, y4, y5, n, rfl, rfl, _, h0, h1, h2, h3, h4, h5⟩ := open_agg6 Try.underlying29 (by kernel_rfl) (by kernel_rfl) hval hd
  obtain ⟨z, e, _, wz⟩ := DataW.trod_int Try.underlying22 h0
  injection e with e _
  subst e
  obtain ⟨fr, rfl, hfr⟩ := nat_u64 wz
  obtain ⟨r1, rfl, ⟨ok1, wt1⟩, at1⟩ := open_parts h1
  obtain ⟨r2, rfl, ⟨ok2, wt2⟩, at2⟩ := open_wins h2
  obtain ⟨r3, rfl, ⟨ok3, wt3⟩, at3⟩ := open_regs h3
  obtain ⟨r4, rfl, ⟨ok4, wt4⟩, at4⟩ := open_ports h4
  obtain ⟨r5, rfl, ⟨ok5, wt5⟩, at5⟩ := open_chans h5
  refine ⟨⟨fr, r1, r2, r3, r4, r5⟩, rfl, ⟨hfr, ok1, ok2, ok3, ok4, fun x hx => (ok5 x hx).1⟩, ⟨at1, at2, at3, at4, at5, fun x hx => (ok5 x hx).2⟩, fun hb => ?_⟩
  rw [sum_ones] at wt1 wt2 wt3 wt4
  rw [sum_dests] at wt5
  simp only [Rows.uptoBulk, Rows.uptoBulkAll] at hb
  show r1.l.length + r2.l.length + r3.l.length + r4.l.length + r5.l.length + linksN r5.l ≤ 1048576
  omega
end
end Go.Proofs.Ytkhcdnehfiopgaa
