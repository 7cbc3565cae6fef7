/- The walks of num's words: plus, times, common (chapter 01). -/
import Derived.Test.YtkhcdnehfiopgaaNuSpec
import Derived.Test.YtkhcdnehfiopgaaMem
import Derived.Test.YtkhcdnehfiopgaaChecked
import Derived.Laws.Externs
import Derived.WalkKit
import Derived.Deep.QuietTactic
import Derived.BigQuiet
import Derived.BigGuardPart
import Derived.Outline
import Derived.Deep.DeepMust
import Derived.Shelf.Bits.Mul64
namespace Go.Proofs.Ytkhcdnehfiopgaa
open Go.RowKit Go.Lib

theorem add64_run (x y : Nat) (w : World) :
    (callFunc 69 #[.int .u64 (x : Int), .int .u64 (y : Int), .int .u64 0]).run Try.prog w =
      .ok (.value (.tuple #[.int .u64 (((x + y) % 18446744073709551616 : Nat) : Int), .int .u64 (((x + y) / 18446744073709551616 : Nat) : Int)])) w := by
  have h : (add64Entry #[.int .u64 (x : Int), .int .u64 (y : Int), .int .u64 0]).run Try.prog w = _ := run_add64 (x : Int) (y : Int) 0 (by omega) (by omega) (by omega) (by omega) w
  rw [run_callFunc_extern Try.func69 (by kernel_rfl) (by kernel_rfl) (by kernel_rfl) (e := add64Entry) (by kernel_rfl), h]
  simp only [Result.andThen]
  congr 5 <;> omega

/-- What a word's operation comes to: the number and true; else some number and false. -/
def OpV (r : Option Nat) (w : World) (e : Ending) (w' : World) : Prop :=
  Below w.heap.size w w' ∧ match r with | some m => e = .returned (.tuple #[.int .u64 (m : Int), .bool true]) | none => ∃ m : Nat, e = .returned (.tuple #[.int .u64 (m : Int), .bool false])
theorem OpV.yes {r : Option Nat} {m : Nat} {w w' : World} {e : Ending} (h : OpV r w e w') (hr : r = some m) : e = .returned (.tuple #[.int .u64 (m : Int), .bool true]) ∧ Below w.heap.size w w' := by
  subst hr; exact ⟨h.2, h.1⟩
theorem OpV.no {r : Option Nat} {w w' : World} {e : Ending} (h : OpV r w e w') (hr : r = none) : ∃ m : Nat, e = .returned (.tuple #[.int .u64 (m : Int), .bool false]) ∧ Below w.heap.size w w' := by
  subst hr; obtain ⟨m, hm⟩ := h.2; exact ⟨m, hm, h.1⟩
theorem OpV.mk_yes {r : Option Nat} {m : Nat} {w w' : World} (hr : r = some m) (h : Below w.heap.size w w') : OpV r w (.returned (.tuple #[.int .u64 (m : Int), .bool true])) w' := by
  subst hr; exact ⟨h, rfl⟩
theorem OpV.mk_no {r : Option Nat} {m : Nat} {w w' : World} (hr : r = none) (h : Below w.heap.size w w') : OpV r w (.returned (.tuple #[.int .u64 (m : Int), .bool false])) w' := by
  subst hr; exact ⟨h, m, rfl⟩

theorem OpV.any {r : Option Nat} {w w' : World} {e : Ending} (h : OpV r w e w') : ∃ (m : Nat) (k : Bool), e = .returned (.tuple #[.int .u64 (m : Int), .bool k]) ∧ OpV r w (.returned (.tuple #[.int .u64 (m : Int), .bool k])) w' := by
  cases r with
  | none => obtain ⟨m, he, hb⟩ := h.no rfl; exact ⟨m, false, he, OpV.mk_no rfl hb⟩
  | some m => obtain ⟨he, hb⟩ := h.yes rfl; exact ⟨m, true, he, OpV.mk_yes rfl hb⟩
theorem OpV.from_ {r : Option Nat} {w w0 w' : World} {e : Ending} (h : OpV r w e w') (hb : Below w0.heap.size w0 w) : OpV r w0 e w' := ⟨hb.trans (h.1.mono hb.size), h.2⟩

theorem plus_calls (a b : Nat) (ha : a < top64) (hb : b < top64) (w : World) :
    Calls Try.prog 56 #[.int .u64 (a : Int), .int .u64 (b : Int)] w (OpV (plusO a b) w) := by
  have hr := add64_run a b
  by_cases h : a + b < top64
  · have e1 : (a + b) % 18446744073709551616 = a + b := Nat.mod_eq_of_lt h
    have e2 : (a + b) / 18446744073709551616 = 0 := Nat.div_eq_of_lt h
    rw [e1, e2] at hr
    have hp : plusO a b = some (a + b) := by unfold plusO fitO; rw [if_pos h]
    obtain ⟨m, hm⟩ : ∃ m, m = a + b := ⟨_, rfl⟩
    rw [← hm] at hr hp
    have Hp := hide hp
    clear hp hm e1 e2 h ha hb
    go_enter Try.func56, Try.ntmps56
    go_wp2
    go_ret2
    exact OpV.mk_yes Hp.out (Below.refl _ _)
  · have e2 : (a + b) / 18446744073709551616 = 1 := by unfold top64 at *; omega
    rw [e2] at hr
    have hp : plusO a b = none := by unfold plusO fitO; rw [if_neg h]
    obtain ⟨m, hm⟩ : ∃ m, m = (a + b) % 18446744073709551616 := ⟨_, rfl⟩
    rw [← hm] at hr
    have Hp := hide hp
    clear hp hm e2 h ha hb
    go_enter Try.func56, Try.ntmps56
    go_wp2
    go_ret2
    exact OpV.mk_no Hp.out (Below.refl _ _)
end Go.Proofs.Ytkhcdnehfiopgaa
