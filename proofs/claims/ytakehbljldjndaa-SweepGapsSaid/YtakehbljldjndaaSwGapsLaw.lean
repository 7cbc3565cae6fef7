/- The walk of the law SweepGaps (chapter 14). -/
import Derived.Test.YtakehbljldjndaaSwRef6
import Derived.Test.YtakehbljldjndaaSwPairsLaw
namespace Go.Proofs.Ytakehbljldjndaa
open Go.RowKit Go.Sort
set_option linter.unusedVariables false

theorem rsp_neq (a b c d : Int) (w : World) : (binOp .neq 39 (.agg #[.int .u64 a, .int .u64 b]) (.agg #[.int .u64 c, .int .u64 d])).run Try.prog w = .ok (.bool (!(a == c && b == d))) w := by
  have hf : Try.prog.underlying 39 = some (.struct (Try.prog.fieldsOf 39)) := by kernel_rfl
  have hp : Try.prog.stoodInHeld 39 = false := by kernel_rfl
  rw [run_neq_struct, run_equalIn_agg w 9999 _ _ _ hf hp]
  unfold Program.fieldsOf
  rw [Try.underlying39]
  simp [Op.eqFields, part, run_equalIn_int]
  by_cases h1 : a = c <;> by_cases h2 : b = d <;> simp [h1, h2]
theorem rsp_guard (o : BinOp) (x y : Operand) (xs ys : Array Value) (w : World) : (eqGuard o 39 x y (.agg xs) (.agg ys)).run Try.prog w = .ok () w :=
  run_eqGuard_agg w _ _ _ _ _ _ (by kernel_rfl)
set_option maxRecDepth 100000 in
set_option maxHeartbeats 8000000 in
theorem SweepGaps_calls (total : Nat) (l : List (Nat × Nat)) (c : Nat) (A : Option Addr) (w : World) (ht : total < 18446744073709551616) (hb : ∀ s ∈ l, s.1 < 18446744073709551616 ∧ s.2 < 18446744073709551616) (h : SpArg w.heap.size A c l w) :
    Calls Try.prog 5 #[.int .u64 (total : Int), .slice A l.length c] w fun e w' => e = .returned (.bool true) ∧ Below w.heap.size w w' := by
  have HH := hide h
  have HF := hide (fits_calls l c A w h)
  have HAL := hide (fun W => alive_calls W)
  have hfo := fun hf => fits_ok hb hf
  generalize FitsR l = F at *
  cases F
  · clear hfo hb h ht
    generalize l.length = n at *
    go_enter Try.func5, Try.ntmps5
    go_wp2_with (first
      | (go_at_call 9; refine HF.out.mono ?_; rintro e w1 ⟨rfl, hb⟩; have HB1 := hide hb; clear hb)
      | (go_at_call 10; refine (HAL.out _).mono ?_; rintro e w2 ⟨rfl, hb⟩; have HB2 := hide (HB1.out.trans (hb.mono HB1.out.size)); clear hb))
    go_ret
    exact ⟨rfl, HB2.out⟩
  · obtain ⟨hl, hok⟩ := hfo rfl
    have HS := hide (fun W (hW : Below w.heap.size w W) => spans_calls l c A W (SpArg.more (h.below hW) hW.size) (by omega))
    have hG := (fun W a c' (hW : W.ownsRow 0 38 2 (.slice a l.length c') l.length (l.flatMap spL)) => Gaps_calls total l 0 c' a W ht hW (by omega))
    rw [gaps_eq total ht hok] at hG
    have HR := hide (fun W (hW : Below w.heap.size w W) => RGaps_calls total l c A W ht (SpArg.more (h.below hW) hW.size) hok (by omega))
    have HG := hide hG
    have hcl : ∀ x ∈ gapsR total l, ∀ s ∈ l, meetP x s = false := by
      intro x hx s hs
      have h1 := gapsR_ok total hok x hx
      have ox : okSpan x := ⟨h1.1, by omega⟩
      rw [(meet_ok ox (hok s hs)).1]
      exact gaps_clear total hok x s hx hs
    have hgl : (gapsR total l).length ≤ 61 := by
      by_cases h0 : total = 0
      · unfold gapsR; rw [if_pos h0]; simp
      · have : gapsR total l = gapTo total l l.length := by unfold gapTo gapsR; rw [if_neg h0, List.take_of_length_le (Nat.le_refl _)]
        rw [this]
        have := gapTo_len total (by omega) ht hok l.length
        omega
    have HCL := hide hcl
    clear hfo hb h hok hG hcl ht
    generalize hGG : gapsR total l = G at *
    clear hGG
    obtain ⟨n, hn⟩ : ∃ n, n = l.length := ⟨_, rfl⟩
    obtain ⟨m, hm⟩ : ∃ m, m = G.length := ⟨_, rfl⟩
    have HN := hide hn
    have HM := hide hm
    rw [← hn] at HS HG HF HR hl ⊢
    rw [← hm] at hgl
    have hmI : (m : Int) ≤ 61 := by omega
    have hnI : (n : Int) ≤ 60 := by omega
    have heq : ((m : Int) != (m : Int)) = false := by simp
    clear hn hm
    go_enter Try.func5, Try.ntmps5
    go_wp2_with (first
      | (go_at_call 9; refine HF.out.mono ?_; rintro e w1 ⟨rfl, hb⟩; have HB1 := hide hb; clear hb)
      | (go_at_call 13; refine (HS.out _ HB1.out).mono ?_; rintro e w2 ⟨a2, c2, rfl, ho, hb⟩; rw [← HN.out] at ho ⊢; have HO2 := hide (own_base ho (Nat.zero_le _)); have HB2 := hide (HB1.out.trans (hb.mono HB1.out.size)); clear ho hb)
      | (go_at_call 17; refine (HG.out _ _ _ HO2.out).mono ?_; rintro e w3 ⟨a3, c3, rfl, ho, hb⟩; rw [← HM.out] at ho ⊢; have HO3 := hide (own_base ho (Nat.zero_le _)); have HB3 := hide (HB2.out.trans (hb.mono HB2.out.size)); clear ho hb)
      | (go_at_call 18; refine (HR.out _ HB3.out).mono ?_; rintro e w4 ⟨a4, c4, rfl, ho, hb⟩; rw [← HM.out] at ho ⊢; have HO4 := hide (own_base ho (Nat.zero_le _)); have HO5 := hide (own_below HO3.out hb); have HB4 := hide (HB3.out.trans (hb.mono HB3.out.size)); clear ho hb))
    clear HG HR HF HO2 HO3
    obtain ⟨wg, rfl⟩ : ∃ wg : World, wg = w4 := ⟨_, rfl⟩
    go_loopw [29] (fun v wr => ∃ k : Nat, k ≤ m ∧ v = .int .i64 (k : Int) ∧ Hid (Below wg.heap.size wg wr)) (fun v _ => m - (intOf v).toNat)
    case atStart => exact ⟨0, Nat.zero_le _, rfl, hide (Below.refl _ _)⟩
    case round =>
      obtain ⟨k, hk, rfl, hrel⟩ := hrel
      by_cases hlt : k < m
      · have hlt2 : (k : Int) < (m : Int) := by omega
        have hkg : k < G.length := by have := HM.out; omega
        obtain ⟨g, rfl, _, hgc, hgl1, hcell⟩ := own_cells spL_len (own_below HO5.out hrel.out) HM.out.symm k hkg
        obtain ⟨g2, rfl, _, hgc2, hgl2, hcell2⟩ := own_cells spL_len (own_below HO4.out hrel.out) HM.out.symm k hkg
        have x0 : wr.cell? ⟨g, k * 2, none⟩ = some (.int .u64 (G[k].1 : Int)) := hcell 0 (by omega)
        have x1 : wr.cell? ⟨g, k * 2 + 1, none⟩ = some (.int .u64 (G[k].2 : Int)) := hcell 1 (by omega)
        have y0 : wr.cell? ⟨g2, k * 2, none⟩ = some (.int .u64 (G[k].1 : Int)) := hcell2 0 (by omega)
        have y1 : wr.cell? ⟨g2, k * 2 + 1, none⟩ = some (.int .u64 (G[k].2 : Int)) := hcell2 1 (by omega)
        have hcI : (m : Int) ≤ (c3 : Int) := by omega
        have hcI2 : (m : Int) ≤ (c4 : Int) := by omega
        obtain ⟨x, hx⟩ : ∃ x, x = G[k] := ⟨_, rfl⟩
        rw [← hx] at x0 x1 y0 y1
        have hMT := fun (s : Nat × Nat) (_ : s ∈ l) W => PMeet_gr x s W
        have hcl := fun s hs => HCL.out x (by rw [hx]; exact List.getElem_mem _) s hs
        clear hx
        obtain ⟨xl, xn⟩ := x
        simp only at x0 x1 y0 y1 hMT
        have HMT : Hid (∀ s ∈ l, ∀ W, Calls Try.prog 19 #[.agg #[.int .u64 (xl : Int), .int .u64 (xn : Int)], .agg #[.int .u64 (s.1 : Int), .int .u64 (s.2 : Int)]] W fun e w' => e = .returned (.bool false) ∧ ∃ q os', w' = grow (W.drewN q) os') := hide (fun s hs W => by
          have := hMT s hs W
          rwa [hcl s hs] at this)
        have hbx := Blk.new wr 38 #[.int .u64 (xl : Int), .int .u64 (xn : Int)]
        have hbw := hrel.out.alloc hrel.out.size (.cells #[.int .u64 (xl : Int), .int .u64 (xn : Int)] 38)
        have nqe := fun W => rsp_neq (xl : Int) (xn : Int) (xl : Int) (xn : Int) W
        have hnb : (!((xl : Int) == (xl : Int) && (xn : Int) == (xn : Int))) = false := by simp
        rw [hnb] at nqe
        have gd := fun o x y xs ys W => rsp_guard o x y xs ys W
        have z0 : (wr.alloc (.cells #[.int .u64 (xl : Int), .int .u64 (xn : Int)] 38)).cell? ⟨wr.heap.size, 0, none⟩ = some (.int .u64 (xl : Int)) := hbx.cell 0
        have z1 : (wr.alloc (.cells #[.int .u64 (xl : Int), .int .u64 (xn : Int)] 38)).cell? ⟨wr.heap.size, 1, none⟩ = some (.int .u64 (xn : Int)) := hbx.cell 1
        have y2 : (wr.alloc (.cells #[.int .u64 (xl : Int), .int .u64 (xn : Int)] 38)).cell? ⟨g2, k * 2, none⟩ = some (.int .u64 (xl : Int)) := (((Below.refl _ wr).alloc (Nat.le_refl _) _).cell (p := ⟨g2, k * 2, none⟩) hgl2).trans y0
        have y3 : (wr.alloc (.cells #[.int .u64 (xl : Int), .int .u64 (xn : Int)] 38)).cell? ⟨g2, k * 2 + 1, none⟩ = some (.int .u64 (xn : Int)) := (((Below.refl _ wr).alloc (Nat.le_refl _) _).cell (p := ⟨g2, k * 2 + 1, none⟩) hgl2).trans y1
        have HBW := hide hbw
        have HBX := hide hbx
        clear hcell hcell2 hMT hcl hnb hbx hbw hrel
        go_wp2_with fail
        clear x0 x1 y0 y1
        obtain ⟨X, hX⟩ : ∃ X, X = wr.heap.size := ⟨_, rfl⟩
        rw [← hX] at z0 z1 HBX ⊢
        generalize wr.alloc (.cells #[.int .u64 (xl : Int), .int .u64 (xn : Int)] 38) = W1 at *
        clear hX
        go_quiet (fail)
        have HBW2 := hide (below_drewN HBW.out nq)
        have HBX2 := hide (HBX.out.drewN nq)
        generalize W1.drewN nq = W2 at *
        clear z0 z1 y2 y3 nqe gd
        go_wp2_with (go_at_call 13; refine (HS.out _ (HB4.out.trans (HBW2.out.mono HB4.out.size))).mono ?_; rintro e w5 ⟨a5, c5, rfl, ho, hb⟩; rw [← HN.out] at ho ⊢; have HO6 := hide (own_base ho (Nat.zero_le _)); have HB5 := hide (HBW2.out.trans (hb.mono HBW2.out.size)); have HBX3 := hide (HBX2.out.below hb HBX2.out.lt); clear ho hb)
        obtain ⟨wo, rfl⟩ : ∃ wo : World, wo = w5 := ⟨_, rfl⟩
        go_loopw [43] (fun v wr => ∃ j : Nat, j ≤ n ∧ v = .int .i64 (j : Int) ∧ Hid (Below wo.heap.size wo wr)) (fun v _ => n - (intOf v).toNat)
        case atStart => exact ⟨0, Nat.zero_le _, rfl, hide (Below.refl _ _)⟩
        case round =>
          obtain ⟨j, hj, rfl, hrel⟩ := hrel
          by_cases hjn : j < n
          · have hjn2 : (j : Int) < (n : Int) := by omega
            have hjl : j < l.length := by have := HN.out; omega
            obtain ⟨g5, rfl, _, hgc5, hgl5, hcell5⟩ := own_cells spL_len (own_below HO6.out hrel.out) HN.out.symm j hjl
            have u0 : wr.cell? ⟨g5, j * 2, none⟩ = some (.int .u64 (l[j].1 : Int)) := hcell5 0 (by omega)
            have u1 : wr.cell? ⟨g5, j * 2 + 1, none⟩ = some (.int .u64 (l[j].2 : Int)) := hcell5 1 (by omega)
            have hcI5 : (n : Int) ≤ (c5 : Int) := by omega
            have hM2 := HMT.out l[j] (List.getElem_mem _)
            generalize l[j] = s at *
            obtain ⟨sl, sn⟩ := s
            simp only at u0 u1 hM2
            have HM2 := hide hM2
            have hxw := HBX3.out.below hrel.out HBX3.out.lt
            have hXl := hxw.lt
            have v0 : (wr.alloc (.cells #[.int .u64 (sl : Int), .int .u64 (sn : Int)] 38)).cell? ⟨X, 0, none⟩ = some (.int .u64 (xl : Int)) := (hxw.alloc _).cell 0
            have v1 : (wr.alloc (.cells #[.int .u64 (sl : Int), .int .u64 (sn : Int)] 38)).cell? ⟨X, 1, none⟩ = some (.int .u64 (xn : Int)) := (hxw.alloc _).cell 1
            have hsz := hrel.out.size
            have HBI := hide (hrel.out.alloc hsz (.cells #[.int .u64 (sl : Int), .int .u64 (sn : Int)] 38))
            clear hM2 hcell5 hxw hrel
            go_wp2_with (go_at_call 19; refine (HM2.out _).mono ?_; rintro e w6 ⟨rfl, hg⟩; have HB6 := hide (HBI.out.trans ((Gr.below hg).mono HBI.out.size)); clear hg)
            go_roundw
            case rel => exact ⟨j + 1, by omega, by go_num, HB6⟩
            case measure => simp [intOf]; omega
          · have hjn2 : j = n := by omega
            subst hjn2
            have HF := hide (HB5.out.trans (hrel.out.mono HB5.out.size))
            clear hj hjn
            go_wp2
            go_roundw
            case rel => exact ⟨k + 1, by omega, by go_num, HF⟩
            case measure => simp [intOf]; omega
      · have hkn : k = m := by omega
        subst hkn
        have HF := hide (HB4.out.trans (hrel.out.mono HB4.out.size))
        clear hlt hk
        go_wp2_with (go_at_call 10; refine (HAL.out _).mono ?_; rintro e w5 ⟨rfl, hb⟩; have HB5 := hide (HF.out.trans (hb.mono HF.out.size)); clear hb)
        go_ret
        exact ⟨rfl, HB5.out⟩
end Go.Proofs.Ytakehbljldjndaa
