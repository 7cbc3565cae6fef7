/- demand: the methods of a partition (chapter 16). -/
import Derived.Test.YtkhcdnehfiopgaaDmLeast
import Derived.Test.YtkhcdnehfiopgaaDmLawD
import Derived.Deep.RegionHeld3
namespace Go.Proofs.Ytkhcdnehfiopgaa
open Go.RowKit Go.Sort
set_option linter.unusedVariables false

set_option maxHeartbeats 1000000 in
theorem PDivides_calls (x : PartR) (F : Nat) (r : Row WinR) (w : World) :
    Calls Try.prog 50 #[.agg (pwC x F r)] w fun e w' => e = .returned (.bool (divB x.per F)) ∧ Below w.heap.size w w' := by
  have HD := hide (fun W => Divides_calls x.per F W)
  unfold pwC
  generalize divB x.per F = b at *
  go_enter Try.func50, Try.ntmps50
  go_wp2_with (go_at_call 64; refine (HD.out _).mono ?_; rintro e w1 ⟨rfl, rfl⟩)
  go_ret
  exact ⟨rfl, (Below.refl _ _).alloc (Nat.le_refl _) _⟩
/-- The box of a partition. -/
def Box6 (x : PartR) (F : Nat) (r : Row WinR) (w W : World) : Prop := Below w.heap.size w W ∧ Blk W w.heap.size 58 (pwC x F r)
section
variable {x : PartR} {F : Nat} {r : Row WinR} {w W W' : World}
theorem Box6.start (x : PartR) (F : Nat) (r : Row WinR) (w : World) : Box6 x F r w (w.alloc (.cells (pwC x F r) 58)) := ⟨(Below.refl _ w).alloc (Nat.le_refl _) _, Blk.new w _ _⟩
theorem Box6.below (h : Box6 x F r w W) (hb : Below W.heap.size W W') : Box6 x F r w W' := ⟨h.1.trans (hb.mono h.1.size), h.2.below hb h.2.lt⟩
theorem Box6.cells (h : Box6 x F r w W) : W.cell? ⟨w.heap.size, 0, none⟩ = some (.int .u16 (x.id : Int)) ∧ W.cell? ⟨w.heap.size, 1, none⟩ = some (.string x.name) ∧ W.cell? ⟨w.heap.size, 2, none⟩ = some (.int .u64 (x.per : Int)) ∧ W.cell? ⟨w.heap.size, 3, none⟩ = some (.int .u64 (x.dur : Int)) ∧ W.cell? ⟨w.heap.size, 4, none⟩ = some (.int .u64 (F : Int)) ∧ W.cell? ⟨w.heap.size, 5, none⟩ = some (.slice r.a r.l.length r.c) :=
  ⟨h.2.cell 0, h.2.cell 1, h.2.cell 2, h.2.cell 3, h.2.cell 4, h.2.cell 5⟩
end
set_option maxHeartbeats 2000000 in
theorem WPeriod_calls (x : PartR) (F : Nat) (r : Row WinR) (w : World) :
    Calls Try.prog 30 #[.agg (pwC x F r)] w fun e w' => e = .returned (.bool (wpB F x)) ∧ Below w.heap.size w w' := by
  have HD := hide (fun W => PDivides_calls x F r W)
  have hb0 := Box6.start x F r w
  have HBC := hide (fun W (hW : Box6 x F r w W) => hW.cells)
  unfold wpB
  unfold pwC at HD hb0 ⊢
  have HB0 := hide hb0
  clear hb0
  have hc := HBC.out _ HB0.out
  obtain ⟨c0, c1, c2, c3, c4, c5⟩ := hc
  cases hd : divB x.per F with
  | true =>
    rw [hd] at HD
    clear hd
    cases hp : decide (x.per < x.dur) with
    | true =>
      have e1 : decide ((x.per : Int) < (x.dur : Int)) = true := by simpa using hp
      go_enter Try.func30, Try.ntmps30
      go_wp2_with (go_at_call 50; refine (HD.out _).mono ?_; rintro e w1 ⟨rfl, hb⟩; have HB1 := hide (HB0.out.below hb); clear hb c0 c1 c2 c3 c4 c5; obtain ⟨c0, c1, c2, c3, c4, c5⟩ := HBC.out _ HB1.out)
      go_ret
      exact ⟨rfl, HB1.out.1⟩
    | false =>
      have e1 : decide ((x.per : Int) < (x.dur : Int)) = false := by simpa using hp
      go_enter Try.func30, Try.ntmps30
      go_wp2_with (go_at_call 50; refine (HD.out _).mono ?_; rintro e w1 ⟨rfl, hb⟩; have HB1 := hide (HB0.out.below hb); clear hb c0 c1 c2 c3 c4 c5; obtain ⟨c0, c1, c2, c3, c4, c5⟩ := HBC.out _ HB1.out)
      go_ret
      exact ⟨rfl, HB1.out.1⟩
  | false =>
    rw [hd] at HD
    clear hd
    generalize decide (x.per < x.dur) = q
    go_enter Try.func30, Try.ntmps30
    go_wp2_with (go_at_call 50; refine (HD.out _).mono ?_; rintro e w1 ⟨rfl, hb⟩; have HB1 := hide (HB0.out.below hb); clear hb c0 c1 c2 c3 c4 c5; obtain ⟨c0, c1, c2, c3, c4, c5⟩ := HBC.out _ HB1.out)
    go_ret
    exact ⟨rfl, HB1.out.1⟩
set_option maxHeartbeats 2000000 in
theorem WTime_calls (x : PartR) (F : Nat) (r : Row WinR) (o : Option Nat) (w : World) (hs : ∀ W, Below w.heap.size w W → Calls Try.prog 33 #[.agg (pwC x F r)] W fun e w' => e = .returned (shortV o) ∧ Below W.heap.size W w') :
    Calls Try.prog 31 #[.agg (pwC x F r)] w fun e w' => e = .returned (.bool o.isSome) ∧ Below w.heap.size w w' := by
  have hb0 := Box6.start x F r w
  have HD := hide (hs _ hb0.1)
  have HBC := hide (fun W (hW : Box6 x F r w W) => hW.cells)
  unfold shortV at HD
  unfold pwC at HD hb0 ⊢
  have HB0 := hide hb0
  clear hb0 hs
  generalize o.isSome = b at *
  generalize o.getD 0 = k at *
  obtain ⟨c0, c1, c2, c3, c4, c5⟩ := HBC.out _ HB0.out
  go_enter Try.func31, Try.ntmps31
  go_wp2_with (go_at_call 33; refine HD.out.mono ?_; rintro e w1 ⟨rfl, hb⟩; have HB1 := hide (HB0.out.below hb); clear hb)
  go_ret
  exact ⟨rfl, HB1.out.1⟩
theorem Mul_blk (a b : Nat) (ha : a < top64) (hb : b < top64) (g : Nat) (t : TypeId) (w : World) (hB : Blk w g t #[.int .u64 (a : Int), .int .u64 (b : Int)]) :
    Calls Try.prog 53 #[.slice (some ⟨g, 0, none⟩) 2 2] w fun e w' => e = .returned (optV (mulL [a, b])) ∧ Below w.heap.size w w' :=
  Mul_calls _ 2 2 [a, b] rfl (by omega) (by intro x hx; simp at hx; rcases hx with rfl | rfl <;> assumption) _
    ⟨rfl, fun _ => ⟨_, rfl, hB.lt, fun j u hu => by
      have e : (⟨g, 0, none⟩ : Addr).add j = ⟨g, j, none⟩ := by unfold Addr.add; split <;> simp_all
      rw [e, hB.cell, ← Array.getElem?_toList]
      exact hu⟩⟩
theorem new_belowD {w w3 : World} {o : Obj} (h : Below ((w.alloc o).drew).heap.size ((w.alloc o).drew) w3) : Below w.heap.size w w3 :=
  (((Below.refl _ w).alloc (Nat.le_refl _) o).drew).trans (h.mono (by simp))
set_option maxRecDepth 100000 in
set_option maxHeartbeats 4000000 in
theorem total_calls (x : PartR) (F : Nat) (r : Row WinR) (w : World) (hx : x.Ok) (hF : F < 18446744073709551616) :
    Calls Try.prog 37 #[.agg (pwC x F r)] w fun e w' => e = .returned (optV (totO F x)) ∧ Below w.heap.size w w' := by
  have HD := hide (fun W => PDivides_calls x F r W)
  have hb0 := Box6.start x F r w
  have HBC := hide (fun W (hW : Box6 x F r w W) => hW.cells)
  unfold totO
  cases hd : divB x.per F with
  | false =>
    rw [hd] at HD
    simp only [Bool.false_eq_true, if_false]
    unfold pwC at HD hb0 ⊢
    have HB0 := hide hb0
    clear hb0 hd
    obtain ⟨c0, c1, c2, c3, c4, c5⟩ := HBC.out _ HB0.out
    go_enter Try.func37, Try.ntmps37
    go_wp2_with (go_at_call 50; refine (HD.out _).mono ?_; rintro e w1 ⟨rfl, hb⟩; have HB1 := hide (HB0.out.below hb); clear hb)
    go_ret2
    exact ⟨rfl, HB1.out.1⟩
  | true =>
    have hp := (div_spec hd).1
    rw [hd] at HD
    simp only [if_true]
    have hFl := Nat.div_le_self F x.per
    obtain ⟨q, hq⟩ : ∃ q, q = F / x.per := ⟨_, rfl⟩
    rw [← hq] at hFl ⊢
    have HM := hide (fun g t W hB => Mul_blk x.dur q hx.2.2.2 (by unfold top64; omega) g t W hB)
    obtain ⟨m, k, hv⟩ := optV_shape (mulL [x.dur, q])
    rw [hv] at HM ⊢
    have hq1 : (F : Int).tdiv (x.per : Int) = (q : Int) := by rw [← Int.ofNat_tdiv, hq]
    have hq2 : (F : Int) / (x.per : Int) = (q : Int) := by rw [hq]; exact (Int.natCast_ediv _ _).symm
    have hwq : IntKind.u64.wrap ((F : Int).tdiv (x.per : Int)) = (q : Int) := by rw [hq1]; exact wrapN q (by omega)
    have hwq2 : IntKind.u64.wrap ((F : Int) / (x.per : Int)) = (q : Int) := by rw [hq2]; exact wrapN q (by omega)
    have hpn : ¬ x.per = 0 := by omega
    have hpz : ((x.per : Int) == 0) = false := by rw [beq_eq_false_iff_ne]; omega
    have hpp : (0 : Int) < (x.per : Int) := by omega
    unfold pwC at HD hb0 ⊢
    have HB0 := hide hb0
    clear hb0 hd hx hF hFl hq hv hp hq1 hq2
    obtain ⟨c0, c1, c2, c3, c4, c5⟩ := HBC.out _ HB0.out
    go_enter Try.func37, Try.ntmps37
    go_wp2_with (go_at_call 50; refine (HD.out _).mono ?_; rintro e w1 ⟨rfl, hb⟩; have HB1 := hide (HB0.out.below hb); clear hb c0 c1 c2 c3 c4 c5)
    have HSX : Hid (∀ W, Box6 x F r w W → (W.cell? ⟨w.heap.size, 2, none⟩ = some (.int .u64 (x.per : Int)) ∧ W.cell? ⟨w.heap.size, 3, none⟩ = some (.int .u64 (x.dur : Int)) ∧ W.cell? ⟨w.heap.size, 4, none⟩ = some (.int .u64 (F : Int)) ∧ Box6 x F r w W)) := hide (fun W hW => ⟨hW.cells.2.2.1, hW.cells.2.2.2.1, hW.cells.2.2.2.2.1, hW⟩)
    go_region_held3 (fun W => (W.cell? ⟨w.heap.size, 2, none⟩ = some (.int .u64 (x.per : Int)) ∧ W.cell? ⟨w.heap.size, 3, none⟩ = some (.int .u64 (x.dur : Int)) ∧ W.cell? ⟨w.heap.size, 4, none⟩ = some (.int .u64 (F : Int)) ∧ Box6 x F r w W))
      (first | assumption | exact HSX.out _ (HB1.out.below (Below.drew (Below.refl _ _))) | exact HSX.out _ (Box6.below (And.right (And.right (And.right (by assumption)))) ((Below.refl _ _).alloc (Nat.le_refl _) _)) | exact HSX.out _ (Box6.below (And.right (And.right (And.right (by assumption)))) (by assumption)) | exact HSX.out _ (HB1.out.below ((Below.refl _ _).alloc (Nat.le_refl _) _).drew) | exact HSX.out _ (HB1.out.below (new_belowD (by assumption))))
      ((go_at_call 53; refine (HM.out _ _ _ (Blk.drew (Blk.new _ _ _))).mono ?_; rintro e w3 ⟨rfl, hbx⟩))
    go_wp2
    go_ret2
    exact ⟨rfl, (And.right (And.right (And.right (by assumption : _ ∧ _ ∧ _ ∧ Box6 x F r w w3)))).1⟩
end Go.Proofs.Ytkhcdnehfiopgaa
