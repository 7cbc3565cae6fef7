/- The walk of sweep.First (chapter 14). -/
import Derived.Test.YthccadabblkalaaGreatSwCmp
namespace Go.Proofs.YthccadabblkalaaGreat
open Go.RowKit Go.Sort
set_option linter.unusedVariables false

def firstStep (al : Nat × Nat → Bool) (f : Int × Int) (p : Nat × Nat) : Int × Int := if al p = true then f else if f.2 < 0 ∨ (p.2 : Int) < f.2 then ((p.1 : Int), (p.2 : Int)) else f
def firstOf (al : Nat × Nat → Bool) (ps : List (Nat × Nat)) : Int × Int := ps.foldl (firstStep al) (-1, -1)
theorem firstOf_succ (al : Nat × Nat → Bool) (ps : List (Nat × Nat)) (k : Nat) (h : k < ps.length) : firstOf al (ps.take (k + 1)) = firstStep al (firstOf al (ps.take k)) ps[k] := by
  unfold firstOf; rw [List.take_succ_eq_append_getElem h, List.foldl_append]; rfl
theorem pairsR_len (l : List (Nat × Nat)) : (pairsR l).length ≤ l.length * l.length := by
  have h1 : ∀ i m, (rowR l i m).length ≤ m := by
    intro i m
    unfold rowR
    rw [List.length_map]
    exact Nat.le_trans (List.length_filter_le _ _) (by rw [List.length_range]; exact Nat.le_refl _)
  have h2 : ∀ k, ((List.range k).flatMap fun i => rowR l i l.length).length ≤ k * l.length := by
    intro k
    induction k with
    | zero => simp
    | succ k ih =>
      rw [List.range_succ, List.flatMap_append, List.length_append]
      have := h1 k l.length
      rw [Nat.succ_mul]
      simp only [List.flatMap_cons, List.flatMap_nil, List.append_nil]
      omega
  exact h2 l.length
theorem nil_neq (w : World) : (binOp .neq 113 .nilFunc .nilFunc).run Tryz.prog w = .ok (.bool false) w := by kernel_rfl
set_option maxRecDepth 100000 in
set_option maxHeartbeats 4000000 in
theorem First_nil (l : List (Nat × Nat)) (base c : Nat) (A : Option Addr) (w : World) (hok : ∀ s ∈ l, okSpan s) (hl : w.ownsRow base 53 2 (.slice A l.length c) l.length (l.flatMap spL)) (hn : l.length ≤ 1000) :
    Calls Tryz.prog 29 #[.slice A l.length c, .nilFunc] w fun e w' => e = .returned (.tuple #[.int .i64 (firstOf (fun _ => false) (pairsR l)).1, .int .i64 (firstOf (fun _ => false) (pairsR l)).2]) ∧ Below w.heap.size w w' := by
  have HP := hide (Pairs_calls l base c A w hok hl hn)
  have nf := fun W => nil_neq W
  have hpl : (pairsR l).length ≤ 1000000 := by have := pairsR_len l; have h2 : l.length * l.length ≤ 1000 * 1000 := Nat.mul_le_mul hn hn; omega
  clear hok hl hn
  generalize hPR : pairsR l = PR at *
  clear hPR
  generalize l.length = n0 at *
  obtain ⟨n, hn⟩ : ∃ n, n = PR.length := ⟨_, rfl⟩
  have HN := hide hn
  have hnI : (n : Int) ≤ 1000000 := by omega
  clear hn hpl
  · skip
    go_enter Tryz.func29, Tryz.ntmps29
    go_wp2_with (go_at_call 53; refine HP.out.mono ?_; rintro e w1 ⟨a1, c1, rfl, ho, hb⟩; rw [← HN.out] at ho ⊢; have HO := hide ho; have HB1 := hide hb; clear ho hb)
    obtain ⟨wo, rfl⟩ : ∃ wo : World, wo = w1 := ⟨_, rfl⟩
    go_loopw [6, 7, 13] (fun u v x wr => ∃ (k : Nat) (f s : Int), k ≤ n ∧ x = .int .i64 (k : Int) ∧ u = .int .i64 f ∧ v = .int .i64 s ∧ Hid ((f, s) = firstOf (fun _ => false) (PR.take k) ∧ Below wo.heap.size wo wr)) (fun _ _ x _ => n - (intOf x).toNat)
    case atStart => exact ⟨0, -1, -1, Nat.zero_le _, rfl, rfl, rfl, hide ⟨rfl, Below.refl _ _⟩⟩
    case round =>
      obtain ⟨k, f, s, hk, rfl, rfl, rfl, hrel⟩ := hrel
      by_cases hlt : k < n
      · have hlt2 : (k : Int) < (n : Int) := by omega
        have hkl : k < PR.length := by have := HN.out; omega
        obtain ⟨g, rfl, _, hgc, hgl, hcell⟩ := own_cells prL_len (own_below HO.out hrel.out.2) HN.out.symm k hkl
        have hcI : (n : Int) ≤ (c1 : Int) := by omega
        have x0 : wr.cell? ⟨g, k * 2, none⟩ = some (.int .i64 (PR[k].1 : Int)) := hcell 0 (by omega)
        have x1 : wr.cell? ⟨g, k * 2 + 1, none⟩ = some (.int .i64 (PR[k].2 : Int)) := hcell 1 (by omega)
        have hst := firstOf_succ (fun _ => false) PR k hkl
        rw [← hrel.out.1] at hst
        obtain ⟨p, hp⟩ : ∃ p, p = PR[k] := ⟨_, rfl⟩
        rw [← hp] at x0 x1 hst
        have hsz := hrel.out.2.size
        have HBR := hide (hrel.out.2.alloc hsz (.cells #[.int .i64 (p.1 : Int), .int .i64 (p.2 : Int)] 116))
        have hbx := Blk.new wr 116 #[.int .i64 (p.1 : Int), .int .i64 (p.2 : Int)]
        have z0 : (wr.alloc (.cells #[.int .i64 (p.1 : Int), .int .i64 (p.2 : Int)] 116)).cell? ⟨wr.heap.size, 0, none⟩ = some (.int .i64 (p.1 : Int)) := hbx.cell 0
        have z1 : (wr.alloc (.cells #[.int .i64 (p.1 : Int), .int .i64 (p.2 : Int)] 116)).cell? ⟨wr.heap.size, 1, none⟩ = some (.int .i64 (p.2 : Int)) := hbx.cell 1
        have HST := hide hst
        clear hcell hp hst hbx hrel
        obtain ⟨p1, p2⟩ := p
        simp only at *
        by_cases hs0 : s < 0
        · have d1 : decide (s < (0 : Int)) = true := by simpa using hs0
          have HC : Hid (s < 0 ∨ (p2 : Int) < s) := hide (.inl hs0)
          go_wp2_with fail
          obtain ⟨X, hX⟩ : ∃ X, X = wr.heap.size := ⟨_, rfl⟩
          rw [← hX] at z0 z1 ⊢
          clear hX x0 x1
          generalize wr.alloc (.cells #[.int .i64 (p1 : Int), .int .i64 (p2 : Int)] 116) = W1 at *
          go_quiet (fail)
          have HBF := hide (below_drewN HBR.out nq)
          clear z0 z1
          generalize W1.drewN nq = W2 at *
          go_wp2
          go_roundw
          case rel => exact ⟨k + 1, (p1 : Int), (p2 : Int), by omega, by go_num, rfl, rfl, hide ⟨by rw [HST.out]; unfold firstStep; rw [if_neg (by simp), if_pos HC.out], HBF.out⟩⟩
          case measure => simp [intOf]; omega
        · have d1 : decide (s < (0 : Int)) = false := by simpa using hs0
          by_cases hp2 : (p2 : Int) < s
          · have d2 : decide ((p2 : Int) < s) = true := by simpa using hp2
            have HC : Hid (s < 0 ∨ (p2 : Int) < s) := hide (.inr hp2)
            go_wp2_with fail
            obtain ⟨X, hX⟩ : ∃ X, X = wr.heap.size := ⟨_, rfl⟩
            rw [← hX] at z0 z1 ⊢
            clear hX x0 x1
            generalize wr.alloc (.cells #[.int .i64 (p1 : Int), .int .i64 (p2 : Int)] 116) = W1 at *
            go_quiet (fail)
            have HBF := hide (below_drewN HBR.out nq)
            clear z0 z1
            generalize W1.drewN nq = W2 at *
            go_wp2
            go_roundw
            case rel => exact ⟨k + 1, (p1 : Int), (p2 : Int), by omega, by go_num, rfl, rfl, hide ⟨by rw [HST.out]; unfold firstStep; rw [if_neg (by simp), if_pos HC.out], HBF.out⟩⟩
            case measure => simp [intOf]; omega
          · have d2 : decide ((p2 : Int) < s) = false := by simpa using hp2
            have HC : Hid (¬ (s < 0 ∨ (p2 : Int) < s)) := hide (by omega)
            go_wp2
            have HBF := HBR
            go_roundw
            case rel => exact ⟨k + 1, f, s, by omega, by go_num, rfl, rfl, hide ⟨by rw [HST.out]; unfold firstStep; rw [if_neg (by simp), if_neg HC.out], HBF.out⟩⟩
            case measure => simp [intOf]; omega
      · have hkn : k = n := by omega
        subst hkn
        have e1 := hrel.out.1
        rw [List.take_of_length_le (by have := HN.out; omega)] at e1
        have HE := hide e1
        clear hlt hk e1
        go_wp2
        go_ret2
        refine ⟨?_, HB1.out.trans (hrel.out.2.mono HB1.out.size)⟩
        rw [← HE.out]
        rfl
end Go.Proofs.YthccadabblkalaaGreat
