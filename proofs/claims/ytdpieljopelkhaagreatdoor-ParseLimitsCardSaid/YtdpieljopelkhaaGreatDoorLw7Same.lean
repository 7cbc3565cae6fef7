/- What the parser and the reference's parser leave, alike; Same of two configurations that read alike (chapter 07). -/
import Derived.Test.YtdpieljopelkhaaGreatDoorMPrRun
import Derived.Test.YtdpieljopelkhaaGreatDoorMPbTop
import Derived.Test.YtdpieljopelkhaaGreatDoorMC5Less
import Derived.Stop.BytesEq
namespace Go.Proofs.YtdpieljopelkhaaGreatDoor
open Go.RowKit Go.Lib
set_option linter.unusedVariables false

def pcD : Except Flt PC → PC
  | .ok pc => pc
  | .error _ => zeroPC
def fD : Except Flt PC → Flt
  | .ok _ => (0, 0, 0)
  | .error f => f
/-- A configuration that reads as P, and three numbers as a fault. -/
def ParV (P : PC) (F : Flt) (w : World) (e : Ending) (w' : World) : Prop :=
  ∃ c, e = .returned (.tuple #[cfgV c, .agg #[.int .i64 (F.1 : Int), .int .i64 (F.2.1 : Int), .int .i64 (F.2.2 : Int)]]) ∧ OwnC w.heap.size c w' ∧ pcOf c = P ∧ Below w.heap.size w w'
/-- .. and three numbers. -/
def RefV (P : PC) (F : Flt) (w : World) (e : Ending) (w' : World) : Prop :=
  ∃ c, e = .returned (.tuple #[cfgV c, .int .i64 (F.1 : Int), .int .i64 (F.2.1 : Int), .int .i64 (F.2.2 : Int)]) ∧ CfgAt w'.heap.size c w' ∧ pcOf c = P ∧ Below w.heap.size w w'
theorem PrunV.uni {o : Except Flt PC} {w w' : World} {e : Ending} (h : PrunV o w e w') : ParV (pcD o) (fD o) w e w' := by
  obtain ⟨hb, h⟩ := h
  cases o with
  | error f => exact ⟨zeroC, h, OwnC.zero _ 0 w', rfl, hb⟩
  | ok pc =>
    obtain ⟨c, h1, h2, h3⟩ := h
    exact ⟨c, h1, h2, h3, hb⟩
theorem ParseRV.uni {o : Except Flt PC} {w w' : World} {e : Ending} (h : ParseRV o w e w') : RefV (pcD o) (fD o) w e w' := by
  obtain ⟨hb, h⟩ := h
  cases o with
  | error f => exact ⟨zeroC, h, (OwnC.zero 0 0 w').at_, rfl, hb⟩
  | ok pc =>
    obtain ⟨c, h1, h2, h3⟩ := h
    exact ⟨c, h1, h2, h3, hb⟩
theorem okD_parse (x : ByteArray) : OkC (pcD (parseO x)) := by
  cases h : parseO x with
  | error f => exact ok_zero (n := 0) (by omega)
  | ok pc =>
    unfold parseO at h
    cases ho : outOf x with
    | bad c i j => rw [ho] at h; cases h
    | ok l => rw [ho] at h; exact parse_okC (out_facts ho).2.1 h
theorem okD_rec (x : ByteArray) : OkC (pcD (parseRO x)) := by
  cases h : parseRO x with
  | error f => exact ok_zero (n := 0) (by omega)
  | ok pc =>
    unfold parseRO at h
    cases ho : outOf x with
    | bad c i j => rw [ho] at h; cases h
    | ok l => rw [ho] at h; exact parseR_okC (out_facts ho).2.1 h
theorem mem_sumK (l : List (Nat × Nat × List Nat)) : ∀ x ∈ l, x.2.2.length ≤ linksK l := by
  unfold linksK
  induction l with
  | nil => intro x hx; cases hx
  | cons y l ih =>
    intro x hx
    rw [List.map_cons, List.sum_cons]
    rcases List.mem_cons.1 hx with rfl | hx
    · omega
    · have := ih x hx; omega
theorem fit_pc {c : Cfg} (h : OkC (pcOf c)) : FitC c := by
  have hch : ∀ x ∈ c.chans.l, x.Ok ∧ x.dests.length ≤ 1024 := fun x hx => by
    have hm : chanK x ∈ (pcOf c).chans := List.mem_map_of_mem hx
    exact ⟨h.okC _ hm, Nat.le_trans (mem_sumK _ _ hm) h.links⟩
  have h1 : c.parts.l.length ≤ 64 := h.parts
  have h2 : c.wins.l.length ≤ 1024 := h.wins
  have h3 : c.regs.l.length ≤ 1024 := h.regs
  have h4 : c.ports.l.length ≤ 1024 := h.ports
  have h5 : c.chans.l.length ≤ 512 := by have := h.chans; simpa [pcOf] using this
  exact ⟨⟨h.frame, h.okP, h.okW, h.okR, h.okQ, fun x hx => (hch x hx).1⟩, by omega, by omega, by omega, by omega, by omega,
    fun x hx => by have := h.shortP x hx; omega, fun x hx => by have := h.shortQ x hx; omega, fun x hx => by have := (hch x hx).2; omega⟩
theorem keysC_of (l : List ChanR) : l.map keyC = (l.map chanK).map (fun x => x.1 :: x.2.1 :: x.2.2) := by rw [List.map_map]; rfl
theorem same_pc {a b : Cfg} (h : pcOf a = pcOf b) : sameK a b = true := by
  have h0 : a.frame = b.frame := congrArg PC.frame h
  have h1 : a.parts.l = b.parts.l := congrArg PC.parts h
  have h2 : a.wins.l = b.wins.l := congrArg PC.wins h
  have h3 : a.regs.l = b.regs.l := congrArg PC.regs h
  have h4 : a.ports.l = b.ports.l := congrArg PC.ports h
  have h5 : a.chans.l.map chanK = b.chans.l.map chanK := congrArg PC.chans h
  refine same_true h0 fun s hs1 hs6 => ?_
  have hs : s = 1 ∨ s = 2 ∨ s = 3 ∨ s = 4 ∨ s = 5 := by omega
  rcases hs with rfl | rfl | rfl | rfl | rfl
  · show a.parts.l.map keyP = b.parts.l.map keyP; rw [h1]
  · show a.wins.l.map keyW = b.wins.l.map keyW; rw [h2]
  · show a.regs.l.map keyR = b.regs.l.map keyR; rw [h3]
  · show a.ports.l.map keyQ = b.ports.l.map keyQ; rw [h4]
  · show a.chans.l.map keyC = b.chans.l.map keyC; rw [keysC_of, keysC_of, h5]
/-- Same of two configurations that read alike. -/
theorem same_calls7 {P : PC} (hP : OkC P) (a b : Cfg) (w : World) (ha : CfgAt w.heap.size a w) (hb : CfgAt w.heap.size b w) (ea : pcOf a = P) (eb : pcOf b = P) :
    Calls Tryz.prog 12 #[cfgV a, cfgV b] w fun e w' => e = .returned (.bool true) ∧ Below w.heap.size w w' := by
  have := RSame_calls a b w ha hb (fit_pc (by rw [ea]; exact hP)) (fit_pc (by rw [eb]; exact hP))
  rw [same_pc (ea.trans eb.symm)] at this
  exact this
/-- A configuration and a fault, or a configuration alone, in their own blocks. -/
def cfgCs (c : Cfg) : Array Value := #[.int .u64 (c.frame : Int), .slice c.parts.a c.parts.l.length c.parts.c, .slice c.wins.a c.wins.l.length c.wins.c, .slice c.regs.a c.regs.l.length c.regs.c, .slice c.ports.a c.ports.l.length c.ports.c, .slice c.chans.a c.chans.l.length c.chans.c]
theorem cfg6 {w : World} {g : Nat} {c : Cfg} (h : Blk w g 30 (cfgCs c)) : w.cell? ⟨g, 0, none⟩ = some (.int .u64 (c.frame : Int)) ∧ w.cell? ⟨g, 1, none⟩ = some (.slice c.parts.a c.parts.l.length c.parts.c) ∧ w.cell? ⟨g, 2, none⟩ = some (.slice c.wins.a c.wins.l.length c.wins.c) ∧ w.cell? ⟨g, 3, none⟩ = some (.slice c.regs.a c.regs.l.length c.regs.c) ∧ w.cell? ⟨g, 4, none⟩ = some (.slice c.ports.a c.ports.l.length c.ports.c) ∧ w.cell? ⟨g, 5, none⟩ = some (.slice c.chans.a c.chans.l.length c.chans.c) :=
  ⟨h.cell 0, h.cell 1, h.cell 2, h.cell 3, h.cell 4, h.cell 5⟩
theorem flt3 {w : World} {g : Nat} {a b c : Int} (h : Blk w g 33 #[.int .i64 a, .int .i64 b, .int .i64 c]) : w.cell? ⟨g, 0, none⟩ = some (.int .i64 a) ∧ w.cell? ⟨g, 1, none⟩ = some (.int .i64 b) ∧ w.cell? ⟨g, 2, none⟩ = some (.int .i64 c) := ⟨h.cell 0, h.cell 1, h.cell 2⟩
theorem flt_eql (c i j c2 i2 j2 : Int) (w : World) : (binOp .eql 33 (.agg #[.int .i64 c, .int .i64 i, .int .i64 j]) (.agg #[.int .i64 c2, .int .i64 i2, .int .i64 j2])).run Tryz.prog w = .ok (.bool (c == c2 && (i == i2 && j == j2))) w := by
  have hf : Tryz.prog.underlying 33 = some (.struct (Tryz.prog.fieldsOf 33)) := by kernel_rfl
  have hp : Tryz.prog.stoodInHeld 33 = false := by kernel_rfl
  rw [run_eql_struct, run_equalIn_agg w 9999 _ _ _ hf hp]
  unfold Program.fieldsOf
  rw [Tryz.underlying33]
  simp [Op.eqFields, part, run_equalIn_int]
  by_cases h1 : c = c2 <;> by_cases h2 : i = i2 <;> by_cases h3 : j = j2 <;> simp [h1, h2, h3]
theorem flt_neq (c i j c2 i2 j2 : Int) (w : World) : (binOp .neq 33 (.agg #[.int .i64 c, .int .i64 i, .int .i64 j]) (.agg #[.int .i64 c2, .int .i64 i2, .int .i64 j2])).run Tryz.prog w = .ok (.bool (!(c == c2 && (i == i2 && j == j2)))) w := by
  have hf : Tryz.prog.underlying 33 = some (.struct (Tryz.prog.fieldsOf 33)) := by kernel_rfl
  have hp : Tryz.prog.stoodInHeld 33 = false := by kernel_rfl
  rw [run_neq_struct, run_equalIn_agg w 9999 _ _ _ hf hp]
  unfold Program.fieldsOf
  rw [Tryz.underlying33]
  simp [Op.eqFields, part, run_equalIn_int]
  by_cases h1 : c = c2 <;> by_cases h2 : i = i2 <;> by_cases h3 : j = j2 <;> simp [h1, h2, h3]
theorem flt_guard (o : BinOp) (x y : Operand) (xs ys : Array Value) (w : World) : (eqGuard o 33 x y (.agg xs) (.agg ys)).run Tryz.prog w = .ok () w :=
  run_eqGuard_agg w _ _ _ _ _ _ (by kernel_rfl)
end Go.Proofs.YtdpieljopelkhaaGreatDoor
