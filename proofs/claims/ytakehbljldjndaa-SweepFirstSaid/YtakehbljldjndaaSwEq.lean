/- slices.Equal at pairs and at spans, slices.Reverse at spans (chapter 14). -/
import Derived.Test.YtakehbljldjndaaSwCmp
import Derived.Stop.BytesEq
namespace Go.Proofs.Ytakehbljldjndaa
open Go.RowKit Go.Sort
set_option linter.unusedVariables false
set_option linter.unusedSimpArgs false

theorem pr_equalIn (a b c d : Int) (w : World) : (Op.equalIn (9998 + 2) 27 (.agg #[.int .i64 a, .int .i64 b]) (.agg #[.int .i64 c, .int .i64 d])).run Try.prog w = .ok (a == c && b == d) w := by
  have hsz := Try.sizeOf3
  rw [Op.equalIn]
  simp only [Sem.run_bind, run_underlying Try.underlying27, Result.andThen_ok, hsz, Std.Legacy.Range.forIn_eq_forIn_range', Std.Legacy.Range.size, Nat.sub_zero, Nat.add_sub_cancel, Nat.div_one]
  have hr : List.range' 0 2 1 = [0, 1] := rfl
  rw [hr]
  have p0 : ∀ x y : Int, (part 3 #[.int .i64 x, .int .i64 y] (0 * 1)).run Try.prog w = .ok (.int .i64 x) w := fun x y => by simp [part, isAgg, run_underlying Try.underlying3]
  have p1 : ∀ x y : Int, (part 3 #[.int .i64 x, .int .i64 y] (1 * 1)).run Try.prog w = .ok (.int .i64 y) w := fun x y => by simp [part, isAgg, run_underlying Try.underlying3]
  have pe : ∀ x y : Int, (Op.equalIn (9998 + 1) 3 (.int .i64 x) (.int .i64 y)).run Try.prog w = .ok (x == y) w := fun x y => run_equalIn_int w 9998 3 .i64 .i64 x y Try.underlying3
  simp only [List.forIn_cons, List.forIn_nil, Sem.run_bind, p0, p1, pe, Result.andThen_ok]
  by_cases h1 : a = c <;> by_cases h2 : b = d <;> simp [h1, h2, p0, p1, pe]
theorem pr_neq (a b c d : Int) (w : World) : (binOp .neq 27 (.agg #[.int .i64 a, .int .i64 b]) (.agg #[.int .i64 c, .int .i64 d])).run Try.prog w = .ok (.bool (!(a == c && b == d))) w := by
  rw [run_neq_struct, pr_equalIn]; rfl
theorem pr_eql (a b c d : Int) (w : World) : (binOp .eql 27 (.agg #[.int .i64 a, .int .i64 b]) (.agg #[.int .i64 c, .int .i64 d])).run Try.prog w = .ok (.bool (a == c && b == d)) w := by
  rw [run_eql_struct, pr_equalIn]; rfl
theorem pr_guard (o : BinOp) (x y : Operand) (xs ys : Array Value) (w : World) : (eqGuard o 27 x y (.agg xs) (.agg ys)).run Try.prog w = .ok () w :=
  run_eqGuard_agg w _ _ _ _ _ _ (by kernel_rfl)
theorem sp_neq (a b c d : Int) (w : World) : (binOp .neq 38 (.agg #[.int .u64 a, .int .u64 b]) (.agg #[.int .u64 c, .int .u64 d])).run Try.prog w = .ok (.bool (!(a == c && b == d))) w := by
  have hf : Try.prog.underlying 38 = some (.struct (Try.prog.fieldsOf 38)) := by kernel_rfl
  have hp : Try.prog.stoodInHeld 38 = false := by kernel_rfl
  rw [run_neq_struct, run_equalIn_agg w 9999 _ _ _ hf hp]
  unfold Program.fieldsOf
  rw [Try.underlying38]
  simp [Op.eqFields, part, run_equalIn_int]
  by_cases h1 : a = c <;> by_cases h2 : b = d <;> simp [h1, h2]
theorem sp_guard (o : BinOp) (x y : Operand) (xs ys : Array Value) (w : World) : (eqGuard o 38 x y (.agg xs) (.agg ys)).run Try.prog w = .ok () w :=
  run_eqGuard_agg w _ _ _ _ _ _ (by kernel_rfl)
set_option maxRecDepth 100000 in
set_option maxHeartbeats 4000000 in
theorem EqPairs (l m : List (Nat × Nat)) (B1 B2 c1 c2 : Nat) (A1 A2 : Option Addr) (w : World) (h1 : w.ownsRow B1 27 2 (.slice A1 l.length c1) l.length (l.flatMap prL)) (h2 : w.ownsRow B2 27 2 (.slice A2 m.length c2) m.length (m.flatMap prL)) (hl : l.length ≤ 1000000000000) :
    Calls Try.prog 11 #[.slice A1 l.length c1, .slice A2 m.length c2] w fun e w' => e = .returned (.bool (decide (l = m))) ∧ Below w.heap.size w w' := by
  by_cases hlm : l.length = m.length
  · have H1 := hide (fun i hi => own_cells prL_len h1 rfl i hi)
    have H2 := hide (fun i hi => own_cells prL_len h2 rfl i hi)
    obtain ⟨n, hn⟩ : ∃ n, n = l.length := ⟨_, rfl⟩
    have hm : n = m.length := by omega
    have e1 : ((n : Int) != (n : Int)) = false := by simp
    have hnI : (n : Int) ≤ 1000000000000 := by omega
    rw [← hm, ← hn]
    have HN := hide hn
    have HM := hide hm
    have hE : ∀ i, (hi : i < l.length) → (hj : i < m.length) → l[i] ≠ m[i] → decide (l = m) = false := by
      intro i hi hj hne
      simp only [decide_eq_false_iff_not]
      intro e
      subst e
      exact hne rfl
    have hF : (∀ i, (hi : i < l.length) → (hj : i < m.length) → l[i] = m[i]) → decide (l = m) = true := by
      intro h
      simp only [decide_eq_true_eq]
      exact List.ext_getElem (by omega) (fun i h1 h2 => h i h1 h2)
    have HE := hide hE
    have HF := hide hF
    generalize decide (l = m) = R at *
    clear h1 h2 hl hlm hn hm hE hF
    go_enter Try.func11, Try.ntmps11
    go_wp2
    go_loopw [13] (fun v wr => ∃ k : Nat, k ≤ n ∧ v = .int .i64 (k : Int) ∧ Hid ((∃ q, wr = w.drewN q) ∧ ∀ i, (hi : i < k) → (hj : i < l.length) → (hk : i < m.length) → l[i] = m[i])) (fun v _ => n - (intOf v).toNat)
    case atStart => exact ⟨0, Nat.zero_le _, rfl, hide ⟨⟨0, rfl⟩, fun i hi => by omega⟩⟩
    case round =>
      obtain ⟨k, hk, rfl, hrel⟩ := hrel
      obtain ⟨hq, hall⟩ := hrel.out
      have HQ := hide hq
      have HALL := hide hall
      have hcw : ∀ a, wr.cell? a = w.cell? a := by obtain ⟨q, hq⟩ := hq; rw [hq]; intro a; rfl
      clear hrel hall hq
      by_cases hlt : k < n
      · have hkl : k < l.length := by have := HN.out; omega
        have hkm : k < m.length := by have := HM.out; omega
        have hlt2 : (k : Int) < (n : Int) := by omega
        obtain ⟨g, rfl, _, hc1, hg, cg⟩ := H1.out k hkl
        obtain ⟨g2, rfl, _, hc2, hg2, cg2⟩ := H2.out k hkm
        have x0 : wr.cell? ⟨g, k * 2, none⟩ = some (.int .i64 (l[k].1 : Int)) := (hcw _).trans (cg 0 (by omega))
        have x1 : wr.cell? ⟨g, k * 2 + 1, none⟩ = some (.int .i64 (l[k].2 : Int)) := (hcw _).trans (cg 1 (by omega))
        have y0 : wr.cell? ⟨g2, k * 2, none⟩ = some (.int .i64 (m[k].1 : Int)) := (hcw _).trans (cg2 0 (by omega))
        have y1 : wr.cell? ⟨g2, k * 2 + 1, none⟩ = some (.int .i64 (m[k].2 : Int)) := (hcw _).trans (cg2 1 (by omega))
        have hcn1 : (n : Int) ≤ (c1 : Int) := by have := HN.out; omega
        have hcn2 : (n : Int) ≤ (c2 : Int) := by have := HM.out; omega
        have nq := fun W => pr_neq (l[k].1 : Int) (l[k].2 : Int) (m[k].1 : Int) (m[k].2 : Int) W
        have gd := fun o x y xs ys W => pr_guard o x y xs ys W
        have hdec : (!(((l[k].1 : Int) == (m[k].1 : Int)) && ((l[k].2 : Int) == (m[k].2 : Int)))) = decide (l[k] ≠ m[k]) := by
          by_cases hh : l[k] = m[k]
          · rw [hh]; simp
          · have : ¬ (l[k].1 = m[k].1 ∧ l[k].2 = m[k].2) := fun h => hh (Prod.ext h.1 h.2)
            simp only [ne_eq, hh, not_false_eq_true, decide_true]
            simp only [Bool.not_eq_true', Bool.and_eq_false_iff]
            by_cases h5 : l[k].1 = m[k].1
            · right; simp; omega
            · left; simp; omega
        rw [hdec] at nq
        generalize (l[k].1 : Int) = X1 at *
        generalize (l[k].2 : Int) = X2 at *
        generalize (m[k].1 : Int) = Y1 at *
        generalize (m[k].2 : Int) = Y2 at *
        clear hdec cg cg2 hcw
        by_cases hh : l[k] = m[k]
        · have hd : decide (l[k] ≠ m[k]) = false := by simp [hh]
          rw [hd] at nq
          have HH := hide hh
          clear hh hd
          go_wp2_with fail
          go_quiet (fail)
          go_wp2
          go_roundw
          case rel =>
            refine ⟨k + 1, by omega, by go_num, hide ⟨by obtain ⟨q, hq⟩ := HQ.out; rw [hq]; exact ⟨q + nq, by rw [World.drewN_drewN]⟩, fun i hi h1 h2 => ?_⟩⟩
            by_cases hik : i < k
            · exact HALL.out i hik h1 h2
            · obtain rfl : i = k := by omega
              exact HH.out
          case measure => simp [intOf]; omega
        · have hd : decide (l[k] ≠ m[k]) = true := by simp [hh]
          rw [hd] at nq
          have HR := hide (HE.out k hkl hkm hh)
          clear hh hd
          go_wp2_with fail
          go_quiet (fail)
          go_wp2
          go_ret
          obtain ⟨q, hq⟩ := HQ.out
          exact ⟨by rw [HR.out]; rfl, by rw [hq]; exact below_drewN (below_drewN (Below.refl _ _) _) _⟩
      · have HR := hide (HF.out (fun i hi hj => HALL.out i (by have := HN.out; omega) hi hj))
        have hkn : k = n := by omega
        subst hkn
        clear hlt hk hcw
        go_wp2
        go_ret
        obtain ⟨q, hq⟩ := HQ.out
        exact ⟨by rw [HR.out]; rfl, by rw [hq]; exact below_drewN (Below.refl _ _) _⟩
  · have hR : decide (l = m) = false := by
      simp only [decide_eq_false_iff_not]
      intro e; subst e; exact hlm rfl
    have HR := hide hR
    generalize decide (l = m) = R at *
    have e1 : ((l.length : Int) != (m.length : Int)) = true := by simp; omega
    generalize l.length = n at *
    generalize m.length = n2 at *
    clear h1 h2 hl hlm hR
    go_enter Try.func11, Try.ntmps11
    go_wp2
    go_ret
    exact ⟨by rw [HR.out]; rfl, Below.refl _ _⟩
set_option maxRecDepth 100000 in
set_option maxHeartbeats 4000000 in
theorem EqSpans (l m : List (Nat × Nat)) (B1 B2 c1 c2 : Nat) (A1 A2 : Option Addr) (w : World) (h1 : w.ownsRow B1 38 2 (.slice A1 l.length c1) l.length (l.flatMap spL)) (h2 : w.ownsRow B2 38 2 (.slice A2 m.length c2) m.length (m.flatMap spL)) (hl : l.length ≤ 1000000000000) :
    Calls Try.prog 24 #[.slice A1 l.length c1, .slice A2 m.length c2] w fun e w' => e = .returned (.bool (decide (l = m))) ∧ Below w.heap.size w w' := by
  by_cases hlm : l.length = m.length
  · have H1 := hide (fun i hi => own_cells spL_len h1 rfl i hi)
    have H2 := hide (fun i hi => own_cells spL_len h2 rfl i hi)
    obtain ⟨n, hn⟩ : ∃ n, n = l.length := ⟨_, rfl⟩
    have hm : n = m.length := by omega
    have e1 : ((n : Int) != (n : Int)) = false := by simp
    have hnI : (n : Int) ≤ 1000000000000 := by omega
    rw [← hm, ← hn]
    have HN := hide hn
    have HM := hide hm
    have hE : ∀ i, (hi : i < l.length) → (hj : i < m.length) → l[i] ≠ m[i] → decide (l = m) = false := by
      intro i hi hj hne
      simp only [decide_eq_false_iff_not]
      intro e
      subst e
      exact hne rfl
    have hF : (∀ i, (hi : i < l.length) → (hj : i < m.length) → l[i] = m[i]) → decide (l = m) = true := by
      intro h
      simp only [decide_eq_true_eq]
      exact List.ext_getElem (by omega) (fun i h1 h2 => h i h1 h2)
    have HE := hide hE
    have HF := hide hF
    generalize decide (l = m) = R at *
    clear h1 h2 hl hlm hn hm hE hF
    go_enter Try.func24, Try.ntmps24
    go_wp2
    go_loopw [13] (fun v wr => ∃ k : Nat, k ≤ n ∧ v = .int .i64 (k : Int) ∧ Hid ((∃ q, wr = w.drewN q) ∧ ∀ i, (hi : i < k) → (hj : i < l.length) → (hk : i < m.length) → l[i] = m[i])) (fun v _ => n - (intOf v).toNat)
    case atStart => exact ⟨0, Nat.zero_le _, rfl, hide ⟨⟨0, rfl⟩, fun i hi => by omega⟩⟩
    case round =>
      obtain ⟨k, hk, rfl, hrel⟩ := hrel
      obtain ⟨hq, hall⟩ := hrel.out
      have HQ := hide hq
      have HALL := hide hall
      have hcw : ∀ a, wr.cell? a = w.cell? a := by obtain ⟨q, hq⟩ := hq; rw [hq]; intro a; rfl
      clear hrel hall hq
      by_cases hlt : k < n
      · have hkl : k < l.length := by have := HN.out; omega
        have hkm : k < m.length := by have := HM.out; omega
        have hlt2 : (k : Int) < (n : Int) := by omega
        obtain ⟨g, rfl, _, hc1, hg, cg⟩ := H1.out k hkl
        obtain ⟨g2, rfl, _, hc2, hg2, cg2⟩ := H2.out k hkm
        have x0 : wr.cell? ⟨g, k * 2, none⟩ = some (.int .u64 (l[k].1 : Int)) := (hcw _).trans (cg 0 (by omega))
        have x1 : wr.cell? ⟨g, k * 2 + 1, none⟩ = some (.int .u64 (l[k].2 : Int)) := (hcw _).trans (cg 1 (by omega))
        have y0 : wr.cell? ⟨g2, k * 2, none⟩ = some (.int .u64 (m[k].1 : Int)) := (hcw _).trans (cg2 0 (by omega))
        have y1 : wr.cell? ⟨g2, k * 2 + 1, none⟩ = some (.int .u64 (m[k].2 : Int)) := (hcw _).trans (cg2 1 (by omega))
        have hcn1 : (n : Int) ≤ (c1 : Int) := by have := HN.out; omega
        have hcn2 : (n : Int) ≤ (c2 : Int) := by have := HM.out; omega
        have nq := fun W => sp_neq (l[k].1 : Int) (l[k].2 : Int) (m[k].1 : Int) (m[k].2 : Int) W
        have gd := fun o x y xs ys W => sp_guard o x y xs ys W
        have hdec : (!(((l[k].1 : Int) == (m[k].1 : Int)) && ((l[k].2 : Int) == (m[k].2 : Int)))) = decide (l[k] ≠ m[k]) := by
          by_cases hh : l[k] = m[k]
          · rw [hh]; simp
          · have : ¬ (l[k].1 = m[k].1 ∧ l[k].2 = m[k].2) := fun h => hh (Prod.ext h.1 h.2)
            simp only [ne_eq, hh, not_false_eq_true, decide_true]
            simp only [Bool.not_eq_true', Bool.and_eq_false_iff]
            by_cases h5 : l[k].1 = m[k].1
            · right; simp; omega
            · left; simp; omega
        rw [hdec] at nq
        generalize (l[k].1 : Int) = X1 at *
        generalize (l[k].2 : Int) = X2 at *
        generalize (m[k].1 : Int) = Y1 at *
        generalize (m[k].2 : Int) = Y2 at *
        clear hdec cg cg2 hcw
        by_cases hh : l[k] = m[k]
        · have hd : decide (l[k] ≠ m[k]) = false := by simp [hh]
          rw [hd] at nq
          have HH := hide hh
          clear hh hd
          go_wp2_with fail
          go_quiet (fail)
          go_wp2
          go_roundw
          case rel =>
            refine ⟨k + 1, by omega, by go_num, hide ⟨by obtain ⟨q, hq⟩ := HQ.out; rw [hq]; exact ⟨q + nq, by rw [World.drewN_drewN]⟩, fun i hi h1 h2 => ?_⟩⟩
            by_cases hik : i < k
            · exact HALL.out i hik h1 h2
            · obtain rfl : i = k := by omega
              exact HH.out
          case measure => simp [intOf]; omega
        · have hd : decide (l[k] ≠ m[k]) = true := by simp [hh]
          rw [hd] at nq
          have HR := hide (HE.out k hkl hkm hh)
          clear hh hd
          go_wp2_with fail
          go_quiet (fail)
          go_wp2
          go_ret
          obtain ⟨q, hq⟩ := HQ.out
          exact ⟨by rw [HR.out]; rfl, by rw [hq]; exact below_drewN (below_drewN (Below.refl _ _) _) _⟩
      · have HR := hide (HF.out (fun i hi hj => HALL.out i (by have := HN.out; omega) hi hj))
        have hkn : k = n := by omega
        subst hkn
        clear hlt hk hcw
        go_wp2
        go_ret
        obtain ⟨q, hq⟩ := HQ.out
        exact ⟨by rw [HR.out]; rfl, by rw [hq]; exact below_drewN (Below.refl _ _) _⟩
  · have hR : decide (l = m) = false := by
      simp only [decide_eq_false_iff_not]
      intro e; subst e; exact hlm rfl
    have HR := hide hR
    generalize decide (l = m) = R at *
    have e1 : ((l.length : Int) != (m.length : Int)) = true := by simp; omega
    generalize l.length = n at *
    generalize m.length = n2 at *
    clear h1 h2 hl hlm hR
    go_enter Try.func24, Try.ntmps24
    go_wp2
    go_ret
    exact ⟨by rw [HR.out]; rfl, Below.refl _ _⟩
end Go.Proofs.Ytakehbljldjndaa
