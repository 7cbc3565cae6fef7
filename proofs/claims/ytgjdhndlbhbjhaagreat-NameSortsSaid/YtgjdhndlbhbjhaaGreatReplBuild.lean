import Derived.Test.YtgjdhndlbhbjhaaGreatNmSpec
import Derived.Test.YtgjdhndlbhbjhaaGreatReplSpec
import Derived.Test.YtgjdhndlbhbjhaaGreatChecked
import Derived.WalkKit
import Derived.BigGuardPart
import Derived.WalkSpells
import Derived.WalkLawsBesides
import Derived.Handy
import Derived.Outline
import Derived.Lib.SliceRun
import Derived.Laws.IdiomStrings
namespace Go.Proofs.YtgjdhndlbhbjhaaGreat
open Go.RowKit Go.Lib

set_option maxRecDepth 100000 in
set_option maxHeartbeats 1000000 in
theorem build_calls (b o c : Nat) (w : World) (ho : o < w.heap.size) (h4 : w.cell? ⟨b, 4, none⟩ = some (.slice (some ⟨o, 0, none⟩) 4 c))
    (g0 : w.cell? ⟨o, 0, none⟩ = some (.string ⟨#[92]⟩)) (g1 : w.cell? ⟨o, 1, none⟩ = some (.string ⟨#[92, 92]⟩))
    (g2 : w.cell? ⟨o, 2, none⟩ = some (.string ⟨#[34]⟩)) (g3 : w.cell? ⟨o, 3, none⟩ = some (.string ⟨#[92, 34]⟩)) :
    Calls Tryz.prog 32 #[.pointer (some ⟨b, 0, none⟩)] w fun e w' =>
      e = .returned (.iface 101 (.pointer (some ⟨w.heap.size + 1, 0, none⟩))) ∧ Below w.heap.size w w' ∧ ∃ cs s0 s1, Stage w.heap.size w' 2 cs s0 s1 := by
  have hmk : ∀ w, (Instr.makeSlice 22 (.int .i64 0) (.int .i64 2)).run Tryz.prog w = .ok (.slice (some ⟨w.heap.size, 0, none⟩) 0 2) (w.alloc (.cells #[.string ⟨#[]⟩, .string ⟨#[]⟩] 9)) := fun _ => by kernel_rfl
  have hst := bsr0_store (w.alloc (.cells #[.string ⟨#[]⟩, .string ⟨#[]⟩] 9)) w.heap.size 2
  rw [World.size_alloc] at hst
  have x34 : ∀ h, ((⟨#[34]⟩ : ByteArray)[0]'h).toNat = 34 := fun _ => rfl
  have x92 : ∀ h, ((⟨#[92]⟩ : ByteArray)[0]'h).toNat = 92 := fun _ => rfl
  have hnil := fun (a : Option Addr) (n c : Nat) (W : World) => Lib.run_eql_slice_nil (P := Tryz.prog) W 40 5 a n c 0 0 Tryz.underlying40
  have hcv := conv_run
  have hcv2 := conv_back 34
  have hcv3 := conv_back 92
  have e34 : ((34 : UInt8).toNat : Int) = 34 := rfl
  have e92 : ((92 : UInt8).toNat : Int) = 92 := rfl
  rw [e34] at hcv2
  rw [e92] at hcv3
  clear e34 e92
  go_enter Tryz.func32, Tryz.ntmps32
  go_wp2_with fail
  go_rounds 3
  go_wp2_with fail
  clear hst hmk h4
  go_loopw [12, 13, 14] (fun i _ _ wr => Below w.heap.size w wr ∧ ∃ (k : Nat) (cs : Array Value) (s0 s1 : Value), k ≤ 2 ∧ i = .int .i64 (2 - 2 * (k : Int)) ∧ Stage w.heap.size wr k cs s0 s1) (fun i _ _ _ => (intOf i + 2).toNat)
  case atStart =>
    exact ⟨((Below.refl _ _).alloc (Nat.le_refl _) _).alloc (by simp) _, 0, _, _, _, by omega, rfl, stage_start w⟩
  case round =>
    obtain ⟨hb, k, cs, s0, s1, hk, rfl, hS⟩ := hrel
    have c0 : wr.cell? ⟨o, 0, none⟩ = some (.string ⟨#[92]⟩) := (hb.cell (p := ⟨o, 0, none⟩) ho).trans g0
    have c1 : wr.cell? ⟨o, 1, none⟩ = some (.string ⟨#[92, 92]⟩) := (hb.cell (p := ⟨o, 1, none⟩) ho).trans g1
    have c2 : wr.cell? ⟨o, 2, none⟩ = some (.string ⟨#[34]⟩) := (hb.cell (p := ⟨o, 2, none⟩) ho).trans g2
    have c3 : wr.cell? ⟨o, 3, none⟩ = some (.string ⟨#[92, 34]⟩) := (hb.cell (p := ⟨o, 3, none⟩) ho).trans g3
    clear g0 g1 g2 g3
    have z1 := hS.blk.lt
    have z0 : w.heap.size < wr.heap.size := by omega
    have ho' : o < wr.heap.size := by omega
    have f0 := fun i => hS.row.frozen i
    have f1 := fun i => hS.blk.frozen i
    have hS' := hide hS
    have hb' := hide hb
    clear hb
    obtain rfl | rfl | rfl : k = 0 ∨ k = 1 ∨ k = 2 := by omega
    · have r0 : wr.cell? ⟨w.heap.size, 0, none⟩ = some s0 := hS.row.cell 0
      have r1 := (hS.blk.cell 34).trans hS.quot
      have r2 := (hS.blk.cell 256).trans hS.last
      clear hS
      go_wp2
      refine ⟨⟨?_, 1, _, _, _, by omega, rfl, stage0 hS'.out _ _ _ _ _⟩, by decide⟩
      exact (((((((hb'.out.setCell (p := ⟨w.heap.size, 0, none⟩) (Nat.le_refl _) _).setCell (p := ⟨w.heap.size + 1, 256, none⟩) (by simp) _).setCell (p := ⟨w.heap.size + 1, 34, none⟩) (by simp) _).alloc (by simp [World.setCell]; omega) _).alloc (by simp [World.setCell]; omega) _).alloc (by simp [World.setCell]; omega) _).drew)
    · have r0 : wr.cell? ⟨w.heap.size, 1, none⟩ = some s1 := hS.row.cell 1
      have r1 := (hS.blk.cell 92).trans hS.back
      have r2 := (hS.blk.cell 256).trans hS.last
      clear hS
      go_wp2
      obtain ⟨cs', h1⟩ := stage1 hS'.out (.cells #[.int .u8 92] 5) (.cells #[.string ⟨#[92]⟩] 9) _ _ _
      refine ⟨⟨?_, 2, _, _, _, by omega, rfl, h1⟩, by decide⟩
      exact (((((((hb'.out.setCell (p := ⟨w.heap.size, 1, none⟩) (Nat.le_refl _) _).setCell (p := ⟨w.heap.size + 1, 256, none⟩) (by simp) _).setCell (p := ⟨w.heap.size + 1, 92, none⟩) (by simp) _).alloc (by simp [World.setCell]; omega) _).alloc (by simp [World.setCell]; omega) _).alloc (by simp [World.setCell]; omega) _).drew)
    · clear hS
      go_wp2
      go_ret
      exact ⟨rfl, hb'.out, _, _, _, hS'.out⟩
end Go.Proofs.YtgjdhndlbhbjhaaGreat
