/- The library's lock and once, as far as the replacer needs them: one goroutine, the lock free, not yet done. -/
import Derived.Test.YtgjdhndlbhbjhaaGreatReplBuild
import Derived.Test.YtgjdhndlbhbjhaaGreatLock
import Derived.Defers
namespace Go.Proofs.YtgjdhndlbhbjhaaGreat
open Go.RowKit Go.Lib

/-- What lies behind 'buildOnce' in the replacer's own block, and the replacer for bytes that it points to. -/
def Built (w : World) (b : Nat) (d s : Int) : Prop :=
  ∃ G cs s0 s1, b < G ∧ Blk w b 65 #[.int .u32 d, .int .i32 s, .int .u32 0, .iface 101 (.pointer (some ⟨G + 1, 0, none⟩)), .slice none 0 0] ∧ Stage G w 2 cs s0 s1

set_option maxHeartbeats 1000000 in
theorem buildOnce_calls (b o c : Nat) (s : Int) (w : World)
    (hB : Blk w b 65 #[.int .u32 0, .int .i32 s, .int .u32 0, .nilIface, .slice (some ⟨o, 0, none⟩) 4 c])
    (g0 : w.cell? ⟨o, 0, none⟩ = some (.string ⟨#[92]⟩)) (g1 : w.cell? ⟨o, 1, none⟩ = some (.string ⟨#[92, 92]⟩))
    (g2 : w.cell? ⟨o, 2, none⟩ = some (.string ⟨#[34]⟩)) (g3 : w.cell? ⟨o, 3, none⟩ = some (.string ⟨#[92, 34]⟩)) :
    Calls Tryz.prog 25 #[.pointer (some ⟨b, 0, none⟩)] w fun e w' => e = .returned (.tuple #[]) ∧ w.grownBy w' (some b) ∧ Built w' b 0 s := by
  have hc := build_calls b o c w (cell_lt g0) (hB.cell 4) g0 g1 g2 g3
  have hb := hB.lt
  have r0 : w.cell? ⟨b, 0, none⟩ = some (.int .u32 0) := hB.cell 0
  go_enter Tryz.func25, Tryz.ntmps25
  clear g0 g1 g2 g3
  have H := hide hc
  clear hc
  go_wp2_with (go_at_call 32; refine H.out.mono ?_; rintro e w1 ⟨rfl, hb1, cs, s0, s1, hS⟩; have hB1 := hB.below hb1 hb; have k3 : w1.cell? ⟨b, 3, none⟩ = some .nilIface := hB1.cell 3; have k4 : w1.cell? ⟨b, 4, none⟩ = some (.slice (some ⟨o, 0, none⟩) 4 c) := hB1.cell 4; have kf := fun i => hB1.frozen i)
  go_end0
  refine ⟨rfl, only_setCell (p := ⟨b, 4, none⟩) (only_setCell (p := ⟨b, 3, none⟩) (only_of_below hb1 _) (.inl rfl) _) (.inl rfl) _, w.heap.size, cs, s0, s1, hb, (hB1.set_ 3 _).set_ 4 _, ?_⟩
  exact (hS.far (p := ⟨b, 3, none⟩) hb _).far (p := ⟨b, 4, none⟩) hb _
theorem Built.done {w : World} {b : Nat} {d s : Int} (h : Built w b d s) (x : Int) : Built (w.setCell ⟨b, 0, none⟩ (.int .u32 x)) b x s := by
  obtain ⟨G, cs, s0, s1, hG, hB, hS⟩ := h
  exact ⟨G, cs, s0, s1, hG, hB.set_ 0 _, hS.far (p := ⟨b, 0, none⟩) hG _⟩
theorem Built.state {w : World} {b : Nat} {d s : Int} (h : Built w b d s) (x : Int) : Built (w.setCell ⟨b, 1, none⟩ (.int .i32 x)) b d x := by
  obtain ⟨G, cs, s0, s1, hG, hB, hS⟩ := h
  exact ⟨G, cs, s0, s1, hG, hB.set_ 1 _, hS.far (p := ⟨b, 1, none⟩) hG _⟩
theorem Built.drew {w : World} {b : Nat} {d s : Int} (h : Built w b d s) : Built w.drew b d s := by
  obtain ⟨G, cs, s0, s1, hG, hB, hS⟩ := h
  exact ⟨G, cs, s0, s1, hG, hB, ⟨hS.row, hS.blk, hS.size, hS.last, hS.plain, hS.quot, hS.back, hS.first, hS.second⟩⟩
theorem Built.cells {w : World} {b : Nat} {d s : Int} (h : Built w b d s) :
    w.cell? ⟨b, 0, none⟩ = some (.int .u32 d) ∧ w.cell? ⟨b, 1, none⟩ = some (.int .i32 s) ∧ ∀ i, w.frozen? ⟨b, i, none⟩ = false := by
  obtain ⟨G, cs, s0, s1, hG, hB, hS⟩ := h
  exact ⟨hB.cell 0, hB.cell 1, fun i => hB.frozen i⟩

set_option maxRecDepth 100000 in
set_option maxHeartbeats 1600000 in
theorem doSlow_calls (b o c : Nat) (w : World)
    (hB : Blk w b 65 #[.int .u32 0, .int .i32 0, .int .u32 0, .nilIface, .slice (some ⟨o, 0, none⟩) 4 c]) (hbo : b ≠ o)
    (g0 : w.cell? ⟨o, 0, none⟩ = some (.string ⟨#[92]⟩)) (g1 : w.cell? ⟨o, 1, none⟩ = some (.string ⟨#[92, 92]⟩))
    (g2 : w.cell? ⟨o, 2, none⟩ = some (.string ⟨#[34]⟩)) (g3 : w.cell? ⟨o, 3, none⟩ = some (.string ⟨#[92, 34]⟩)) :
    Calls Tryz.prog 31 #[.pointer (some ⟨b, 0, none⟩), .func (.func 25) #[.pointer (some ⟨b, 0, none⟩)] #[]] w
      fun e w' => e = .returned (.tuple #[]) ∧ w.grownBy w' (some b) ∧ Built w' b 1 0 := by
  have ne : ∀ j, (⟨b, 1, none⟩ : Addr) ≠ ⟨o, j, none⟩ := fun j h => hbo (congrArg Addr.block h)
  have hB1 : Blk (w.setCell ⟨b, 1, none⟩ (.int .i32 1)) b 65 #[.int .u32 0, .int .i32 1, .int .u32 0, .nilIface, .slice (some ⟨o, 0, none⟩) 4 c] := hB.set_ 1 _
  have hc := buildOnce_calls b o c 1 (w.setCell ⟨b, 1, none⟩ (.int .i32 1)) hB1
    ((World.cell?_setCell_other _ _ _ _ (ne 0)).trans g0) ((World.cell?_setCell_other _ _ _ _ (ne 1)).trans g1) ((World.cell?_setCell_other _ _ _ _ (ne 2)).trans g2) ((World.cell?_setCell_other _ _ _ _ (ne 3)).trans g3)
  have H := hide hc
  have k0 : w.cell? ⟨b, 0, none⟩ = some (.int .u32 0) := hB.cell 0
  have k1 : w.cell? ⟨b, 1, none⟩ = some (.int .i32 0) := hB.cell 1
  have f1 : w.frozen? ⟨b, 1, none⟩ = false := hB.frozen 1
  have hl := run_call_load (P := Tryz.prog) Tryz.func45 (by kernel_rfl) (by kernel_rfl) (by kernel_rfl) .u32 (by kernel_rfl) (w := w.setCell ⟨b, 1, none⟩ (.int .i32 1)) (a := ⟨b, 0, none⟩) (x := 0) (hB1.cell 0)
  have hnot : ∀ (x : Bool) (w : World), (Op.unary .not (.bool x)).run Tryz.prog w = .ok (.bool (!x)) w := fun _ _ => rfl
  have hgr := only_setCell (a := w) (p := ⟨b, 1, none⟩) (only_of_below (Below.refl w.heap.size w) (some b)) (.inl rfl) (.int .i32 1)
  clear hc g0 g1 g2 g3 hB hB1 ne
  go_enter_defers Tryz.func31, Tryz.ntmps31
  go_wp2_with (first | (go_at_call 46; refine (lock_free ⟨b, 1, none⟩ _ k1 f1).mono ?_; rintro e w' ⟨rfl, rfl⟩) | (go_at_call 30; go_in) | (go_at_call 25; refine H.out.mono ?_; rintro e w2 ⟨rfl, hg2, hb2⟩))
  obtain ⟨q0, q1, qf⟩ := hb2.cells
  refine leaves_cons (f := 48) (args := #[.pointer (some ⟨b, 0, none⟩), .bool true]) (by simp) (by simp [go_sem]) ?_
  refine (store_deferred ⟨b, 0, none⟩ (.int .u32 0) .returning _ q0 (qf 0)).mono ?_
  rintro e u' w'' ⟨rfl, rfl, rfl⟩
  have hb3 := hb2.drew.done 1
  obtain ⟨r0, r1, rf⟩ := hb3.cells
  refine leaves_cons (f := 47) (args := #[.pointer (some ⟨b, 1, none⟩)]) (by simp [settle]) (by simp [go_sem]) ?_
  refine (unlock_deferred ⟨b, 1, none⟩ _ _ r1 (rf 1)).mono ?_
  rintro e u' w'' ⟨rfl, rfl, rfl⟩
  have hb4 := hb3.state 0
  have hgr2 := only_setCell (p := ⟨b, 1, none⟩) (only_setCell (p := ⟨b, 0, none⟩) (only_drew (hgr.trans hg2)) (.inl rfl) (.int .u32 1)) (.inl rfl) (.int .i32 0)
  simp [Leaves, settle, results, Tryz.results31]
  exact ⟨hgr2, hb4⟩

theorem Do_calls (b o c : Nat) (w : World)
    (hB : Blk w b 65 #[.int .u32 0, .int .i32 0, .int .u32 0, .nilIface, .slice (some ⟨o, 0, none⟩) 4 c]) (hbo : b ≠ o)
    (g0 : w.cell? ⟨o, 0, none⟩ = some (.string ⟨#[92]⟩)) (g1 : w.cell? ⟨o, 1, none⟩ = some (.string ⟨#[92, 92]⟩))
    (g2 : w.cell? ⟨o, 2, none⟩ = some (.string ⟨#[34]⟩)) (g3 : w.cell? ⟨o, 3, none⟩ = some (.string ⟨#[92, 34]⟩)) :
    Calls Tryz.prog 24 #[.pointer (some ⟨b, 0, none⟩), .func (.func 25) #[.pointer (some ⟨b, 0, none⟩)] #[]] w
      fun e w' => e = .returned (.tuple #[]) ∧ w.grownBy w' (some b) ∧ Built w' b 1 0 := by
  have H := hide (doSlow_calls b o c w hB hbo g0 g1 g2 g3)
  have k0 : w.cell? ⟨b, 0, none⟩ = some (.int .u32 0) := hB.cell 0
  have hl := run_call_load (P := Tryz.prog) Tryz.func45 (by kernel_rfl) (by kernel_rfl) (by kernel_rfl) .u32 (by kernel_rfl) (w := w) (a := ⟨b, 0, none⟩) (x := 0) k0
  have hnot : ∀ (x : Bool) (w : World), (Op.unary .not (.bool x)).run Tryz.prog w = .ok (.bool (!x)) w := fun _ _ => rfl
  clear g0 g1 g2 g3 hB
  go_enter Tryz.func24, Tryz.ntmps24
  go_wp2_with (first | (go_at_call 31; refine H.out.mono ?_; rintro e w2 ⟨rfl, hg2, hb2⟩) | (go_at_call 30; go_in))
  go_end0
  exact ⟨rfl, hg2, hb2⟩
end Go.Proofs.YtgjdhndlbhbjhaaGreat
