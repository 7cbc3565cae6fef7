/- The walks of fenestraref14.cut and Gaps (chapter 14). -/
import Derived.Test.YtakehbljldjndaaSwRef3
namespace Go.Proofs.Ytakehbljldjndaa
open Go.RowKit Go.Sort
set_option linter.unusedVariables false

theorem rspan_info3 : (Try.prog.info? 39).map (fun i => (i.zero, i.size, i.bytes)) = some (some (.agg #[.int .u64 0, .int .u64 0]), 2, 16) := by kernel_rfl
def CutV (out : List (Nat × Nat)) (w : World) (e : Ending) (w' : World) : Prop :=
  ∃ a c, e = .returned (.slice a out.length c) ∧ w'.ownsRow w.heap.size 39 2 (.slice a out.length c) out.length (out.flatMap spL) ∧ Below w.heap.size w w'
theorem cut1_len (s x : Nat × Nat) : (cut1 s x).length ≤ 2 := by
  unfold cut1
  by_cases h1 : meetS x s = true
  · rw [if_pos h1, List.length_append]
    by_cases h2 : x.1 < s.1 <;> by_cases h3 : lastS s < lastS x <;> simp [h2, h3]
  · rw [if_neg h1]; simp
def cutTo (L : List (Nat × Nat)) (s : Nat × Nat) (k : Nat) : List (Nat × Nat) := cutR (L.take k) s
theorem cutTo_succ (L : List (Nat × Nat)) (s : Nat × Nat) (k : Nat) (h : k < L.length) : cutTo L s (k + 1) = cutTo L s k ++ cut1 s L[k] := by
  unfold cutTo cutR
  rw [List.take_succ_eq_append_getElem h, List.flatMap_append]
  simp
theorem cutTo_len (L : List (Nat × Nat)) (s : Nat × Nat) (k : Nat) : (cutTo L s k).length ≤ 2 * k := by
  unfold cutTo cutR
  have : ∀ M : List (Nat × Nat), (M.flatMap (cut1 s)).length ≤ 2 * M.length := by
    intro M
    induction M with
    | nil => simp
    | cons x M ih =>
      rw [List.flatMap_cons, List.length_append, List.length_cons]
      have := cut1_len s x
      omega
  have h2 := this (L.take k)
  rw [List.length_take] at h2
  omega
/-- In the loop of cut. -/
def CutS (w : World) (s : Nat × Nat) (a : Option Addr) (c m : Nat) (P : List (Nat × Nat)) (wr : World) : Prop :=
  m = P.length ∧ Below w.heap.size w wr ∧ wr.ownsRow (w.heap.size + 1) 39 2 (.slice a m c) m (P.flatMap spL) ∧ Spn wr w.heap.size s
theorem Spn.below {W W' : World} {g : Nat} {s : Nat × Nat} (h : Spn W g s) (hb : Below W.heap.size W W') : Spn W' g s :=
  ⟨(hb.cell (p := ⟨g, 0, none⟩) (cell_lt h.1)).trans h.1, (hb.cell (p := ⟨g, 1, none⟩) (cell_lt h.2)).trans h.2⟩
theorem Spn.lt {W : World} {g : Nat} {s : Nat × Nat} (h : Spn W g s) : g < W.heap.size := cell_lt h.1
theorem Spn.grown {W W' : World} {g : Nat} {s : Nat × Nat} {row : Option Nat} (h : Spn W g s) (hg : W.grownBy W' row) (hr : row ≠ some g) : Spn W' g s :=
  ⟨(World.cell?_of_block (a := ⟨g, 0, none⟩) (hg.block g h.lt (fun e => hr e.symm))).trans h.1, (World.cell?_of_block (a := ⟨g, 1, none⟩) (hg.block g h.lt (fun e => hr e.symm))).trans h.2⟩
theorem CutS.below {w W W' : World} {s : Nat × Nat} {a : Option Addr} {c m : Nat} {P : List (Nat × Nat)} (h : CutS w s a c m P W) (hb : Below W.heap.size W W') : CutS w s a c m P W' :=
  ⟨h.1, h.2.1.trans (hb.mono h.2.1.size), own_below h.2.2.1 hb, h.2.2.2.below hb⟩
theorem CutS.pushed {w W W' : World} {s p : Nat × Nat} {a a4 : Option Addr} {c m k4 : Nat} {P : List (Nat × Nat)} {o : Obj} (h : CutS w s a c m P W) (ho : W'.ownsRow (w.heap.size + 1) 39 2 (.slice a4 (m + 1) k4) (m + 1) (P.flatMap spL ++ spL p))
    (hg : (W.alloc o).grownBy W' (Value.slice a m c).ownBlock) : CutS w s a4 k4 (m + 1) (P ++ [p]) W' := by
  have hb := own_block h.2.2.1
  refine ⟨by rw [List.length_append, ← h.1]; rfl, (h.2.1.alloc h.2.1.size o).grown hg (Nat.le_trans h.2.1.size (by simp)) (fun r hr => by have := (hb r hr).1; omega), ?_, ?_⟩
  · have e : (P ++ [p]).flatMap spL = P.flatMap spL ++ spL p := by rw [List.flatMap_append]; simp
    rw [e]; exact ho
  · refine Spn.grown (h.2.2.2.below ((Below.refl _ W).alloc (Nat.le_refl _) o)) hg (fun e => ?_)
    have := (hb _ e).1
    omega
theorem Spn.news {W W' : World} {X : Nat} {x : Nat × Nat} {a : Option Addr} {c m : Nat} {o : Obj} (h : Spn W X x) (hg : (W.alloc o).grownBy W' (Value.slice a m c).ownBlock) (hn : (Value.slice a m c).ownBlock ≠ some X) : Spn W' X x :=
  Spn.grown (h.below ((Below.refl _ W).alloc (Nat.le_refl _) o)) hg hn
/-- In a round of cut. -/
def CutX (w : World) (s : Nat × Nat) (X : Nat) (x : Nat × Nat) (a : Option Addr) (c m : Nat) (P : List (Nat × Nat)) (W : World) : Prop :=
  CutS w s a c m P W ∧ Spn W X x ∧ (Value.slice a m c).ownBlock ≠ some X
section
variable {w W W' : World} {s x p : Nat × Nat} {X : Nat} {a a4 : Option Addr} {c m k4 : Nat} {P : List (Nat × Nat)} {o : Obj}
theorem CutX.below (h : CutX w s X x a c m P W) (hb : Below W.heap.size W W') : CutX w s X x a c m P W' := ⟨h.1.below hb, h.2.1.below hb, h.2.2⟩
theorem CutX.pushed (h : CutX w s X x a c m P W) (ho : W'.ownsRow (w.heap.size + 1) 39 2 (.slice a4 (m + 1) k4) (m + 1) (P.flatMap spL ++ spL p))
    (hg : (W.alloc o).grownBy W' (Value.slice a m c).ownBlock) (hat : (Value.slice a4 (m + 1) k4).ownBlock = (Value.slice a m c).ownBlock ∨ (Value.slice a4 (m + 1) k4).ownBlock = some (W.alloc o).heap.size) :
    CutX w s X x a4 k4 (m + 1) (P ++ [p]) W' := by
  refine ⟨h.1.pushed ho hg, h.2.1.news hg h.2.2, fun e => ?_⟩
  have hx := h.2.1.lt
  rcases hat with h1 | h1
  · exact h.2.2 (h1 ▸ e)
  · rw [e] at h1
    injection h1 with h1
    simp at h1
    omega
theorem CutX.lies {g cap : Nat} (h : CutX w s X x a c m P W) (ho : W'.ownsRow (w.heap.size + 1) 39 2 (.slice (some ⟨g, 0, none⟩) (m + 1) cap) (m + 1) (P.flatMap spL ++ spL p))
    (hg : (W.alloc o).grownBy W' (Value.slice a m c).ownBlock) (hat : (Value.slice a m c).ownBlock = some g ∨ g = (W.alloc o).heap.size) :
    CutX w s X x (some ⟨g, 0, none⟩) cap (m + 1) (P ++ [p]) W' := by
  refine h.pushed ho hg ?_
  rcases hat with h1 | h1
  · exact .inl h1.symm
  · exact .inr (by rw [← h1]; rfl)
theorem CutX.four (h : CutX w s X x a c m P W) : W.cell? ⟨X, 0, none⟩ = some (.int .u64 (x.1 : Int)) ∧ W.cell? ⟨X, 1, none⟩ = some (.int .u64 (x.2 : Int)) ∧ W.cell? ⟨w.heap.size, 0, none⟩ = some (.int .u64 (s.1 : Int)) ∧ W.cell? ⟨w.heap.size, 1, none⟩ = some (.int .u64 (s.2 : Int)) :=
  ⟨h.2.1.1, h.2.1.2, h.1.2.2.2.1, h.1.2.2.2.2⟩
end
theorem wrap_sub (a b : Nat) (h : b ≤ a) (ha : a < 18446744073709551616) : IntKind.u64.wrap ((a : Int) - (b : Int)) = ((a - b : Nat) : Int) := by
  simp only [IntKind.wrap, IntKind.bits, IntKind.signed]; simp; omega
set_option maxRecDepth 100000 in
set_option maxHeartbeats 8000000 in
theorem Cut_calls (L : List (Nat × Nat)) (s : Nat × Nat) (base c : Nat) (A : Option Addr) (w : World) (h : w.ownsRow base 39 2 (.slice A L.length c) L.length (L.flatMap spL)) (hL : ∀ x ∈ L, okSpan x) (hs : okSpan s) (hl : L.length ≤ 1000000) :
    Calls Try.prog 39 #[.slice A L.length c, .agg #[.int .u64 (s.1 : Int), .int .u64 (s.2 : Int)]] w (CutV (cutR L s) w) := by
  have HH := hide h
  have HK := hide hL
  have HS := hide hs
  obtain ⟨i0, hi, hz0, hz1, hz2⟩ := info_parts rspan_info3
  have HII := hide hi
  have mixed := mixed_prog
  obtain ⟨n, hn⟩ : ∃ n, n = L.length := ⟨_, rfl⟩
  have HN := hide hn
  have hp : cutR L s = cutTo L s n := by unfold cutTo; rw [List.take_of_length_le (by omega)]
  rw [← hn, hp]
  have hnI : (n : Int) ≤ 1000000 := by omega
  have hb0 := Blk.new w 39 #[.int .u64 (s.1 : Int), .int .u64 (s.2 : Int)]
  have H0 : Hid (CutS w s none 0 0 (cutTo L s 0) (w.alloc (.cells #[.int .u64 (s.1 : Int), .int .u64 (s.2 : Int)] 39))) := hide ⟨rfl, (Below.refl _ w).alloc (Nat.le_refl _) _, World.ownsRow_nil _ _ _ _, hb0.cell 0, hb0.cell 1⟩
  have HC := hide (fun W (q : Nat × Nat) g hg => sp_cells_at W q 39 g hg)
  have HG := hide (fun x W => RLast_gr x W)
  clear h hn hl hi hp hL hs hb0
  go_enter Try.func39, Try.ntmps39
  go_wp2
  go_loopw [5, 6] (fun o v wr => ∃ (k m : Nat) (a : Option Addr) (c' : Nat), k ≤ n ∧ v = .int .i64 (k : Int) ∧ o = .slice a m c' ∧ Hid (CutS w s a c' m (cutTo L s k) wr)) (fun _ v _ => n - (intOf v).toNat)
  case atStart => exact ⟨0, 0, none, 0, Nat.zero_le _, rfl, rfl, H0⟩
  case round =>
    obtain ⟨k, m, a, c', hk, rfl, rfl, hrel⟩ := hrel
    by_cases hlt : k < n
    · have hlt2 : (k : Int) < (n : Int) := by omega
      have hkl : k < L.length := by have := HN.out; omega
      obtain ⟨g, rfl, _, hgc, hgl, hcell⟩ := own_cells spL_len (own_below HH.out hrel.out.2.1) rfl k hkl
      have hcI : (n : Int) ≤ (c : Int) := by have := HN.out; omega
      have x0 : wr.cell? ⟨g, k * 2, none⟩ = some (.int .u64 (L[k].1 : Int)) := hcell 0 (by omega)
      have x1 : wr.cell? ⟨g, k * 2 + 1, none⟩ = some (.int .u64 (L[k].2 : Int)) := hcell 1 (by omega)
      have hml : m ≤ 2000000 := by have := cutTo_len L s k; have := hrel.out.1; omega
      have hsu := cutTo_succ L s k hkl
      have okx := HK.out L[k] (List.getElem_mem _)
      have oks := HS.out
      have hmt := fun W => RMeet_gr L[k] s W
      rw [(meet_ok okx oks).2.1] at hmt
      have hlx := (lastW_ok okx).1
      have hls := (lastW_ok oks).1
      have hGx := fun W => RLast_gr L[k] W
      have hGs := fun W => RLast_gr s W
      have elx : lastW L[k] = lastS L[k] := hlx
      have els : lastW s = lastS s := hls
      rw [elx] at hGx
      rw [els] at hGs
      obtain ⟨x, hx⟩ : ∃ x, x = L[k] := ⟨_, rfl⟩
      rw [← hx] at x0 x1 hmt okx hGx hsu
      have hc1 : cut1 s x = if meetS x s then (if x.1 < s.1 then [(x.1, s.1 - x.1)] else []) ++ (if lastS s < lastS x then [(lastS s + 1, lastS x - lastS s)] else []) else [x] := rfl
      have hbs : lastS x < 18446744073709551616 ∧ lastS s < 18446744073709551616 ∧ x.1 < 18446744073709551616 ∧ s.1 < 18446744073709551616 := by
        unfold okSpan at okx oks; unfold lastS; omega
      have HSU := hide hsu
      have HC1 := hide hc1
      have hsI0 : wr.cell? ⟨w.heap.size, 0, none⟩ = some (.int .u64 (s.1 : Int)) := hrel.out.2.2.2.1
      have hsI1 : wr.cell? ⟨w.heap.size, 1, none⟩ = some (.int .u64 (s.2 : Int)) := hrel.out.2.2.2.2
      have hwl := hrel.out.2.2.2.lt
      have hbx := Blk.new wr 39 #[.int .u64 (x.1 : Int), .int .u64 (x.2 : Int)]
      have HX0 : Hid (CutX w s wr.heap.size x a c' m (cutTo L s k) (wr.alloc (.cells #[.int .u64 (x.1 : Int), .int .u64 (x.2 : Int)] 39))) :=
        hide ⟨hrel.out.below ((Below.refl _ wr).alloc (Nat.le_refl _) _), ⟨hbx.cell 0, hbx.cell 1⟩, fun e => by have := (own_block hrel.out.2.2.1 _ e).2; omega⟩
      have HMT := hide hmt
      have HGX := hide hGx
      have HGS := hide hGs
      have HBS := hide hbs
      clear hcell hlx hls elx els hx hc1 hbs hmt okx oks hGx hGs hsu hbx HG
      obtain ⟨mt, hmt⟩ : ∃ b, b = meetS x s := ⟨_, rfl⟩
      rw [← hmt] at HMT HC1
      clear hmt
      generalize hPP : cutTo L s k = P at *
      clear hPP
      obtain ⟨ls, hls⟩ : ∃ y, y = lastS s := ⟨_, rfl⟩
      obtain ⟨lx, hlx⟩ : ∃ y, y = lastS x := ⟨_, rfl⟩
      rw [← hls, ← hlx] at HC1 HBS
      rw [← hls] at HGS
      rw [← hlx] at HGX
      clear hls hlx
      obtain ⟨xl, xn⟩ := x
      obtain ⟨sl, sn⟩ := s
      simp only at *
      cases mt
      · have HE1 : Hid (cutTo L (sl, sn) (k + 1) = P ++ [(xl, xn)]) := hide (by rw [HSU.out, HC1.out]; simp)
        go_wp2_with (first
          | (go_at_call 22; refine (HMT.out _).mono ?_; rintro e w1 ⟨rfl, hgr⟩; have HX1 := hide (HX0.out.below (Gr.below hgr)); obtain ⟨t0, t1, t2, t3⟩ := HX1.out.four; clear hgr)
          | (at_builtin; go_must (refine wpList_append_own_at _ rfl (.tmp 22) (.tmp 24) 22 rfl (w.heap.size + 1) 39 i0 _ 2 16 Try.underlying22 HII.out hz0 hz1 hz2 rfl (by decide) (.slice a m c') m (P.flatMap spL) rfl (HX1.out.1.2.2.1.alloc _) _ 1 1 (spL (xl, xn)) rfl rfl (HC.out _ (xl, xn) _ (by simp)) (sp_one (xl, xn)) (by simp only [maxLen]; omega) (by omega) (by have := HX1.out.1.2.1.size; have := HX1.out.1.2.2.2.lt; simp; omega) ?_); intro v' w4 hown' hg hnl hat; obtain ⟨a4, k4, rfl⟩ := own_slice hown'; have HX2 := hide (HX1.out.pushed hown' hg hat); clear hown' hg hnl hat))
        have hfin : Hid (CutS w (sl, sn) a4 k4 (m + 1) (cutTo L (sl, sn) (k + 1)) w4) := hide (by rw [HE1.out]; exact HX2.out.1)
        go_roundw
        case rel => first | exact ⟨k + 1, m + 1, a4, k4, by omega, by go_num, rfl, hfin⟩ | ((repeat apply Exists.intro); exact ⟨⟨k + 1, m + 1, a4, k4, by omega, by go_num, rfl, hfin⟩, rfl⟩)
        case measure => simp [intOf]; omega
      · by_cases hb1 : xl < sl
        · have d1 : decide ((xl : Int) < (sl : Int)) = true := by simp; omega
          have d2 : decide (xl < sl) = true := by simp; omega
          have hsub := wrap_sub sl xl (by omega) HBS.out.2.2.2
          obtain ⟨d, hd⟩ : ∃ d, d = sl - xl := ⟨_, rfl⟩
          rw [← hd] at hsub HC1
          clear hd
          go_wp2_with (first
            | (go_at_call 22; refine (HMT.out _).mono ?_; rintro e w1 ⟨rfl, hgr⟩; have HX1 := hide (HX0.out.below (Gr.below hgr)); obtain ⟨t0, t1, t2, t3⟩ := HX1.out.four; clear hgr)
            | (at_builtin; go_must (refine wpList_append_own_at _ rfl (.tmp 31) (.tmp 40) 22 rfl (w.heap.size + 1) 39 i0 _ 2 16 Try.underlying22 HII.out hz0 hz1 hz2 rfl (by decide) (.slice a m c') m (P.flatMap spL) rfl (HX1.out.1.2.2.1.alloc _) _ 1 1 (spL (xl, d)) rfl rfl (HC.out _ (xl, d) _ (by simp)) (sp_one (xl, d)) (by simp only [maxLen]; omega) (by omega) (by have := HX1.out.1.2.1.size; have := HX1.out.1.2.2.2.lt; simp; omega) ?_); intro v' w4 hown' hg hnl hat; obtain ⟨a4, k4, rfl⟩ := own_slice hown'; have HX2 := hide (HX1.out.pushed hown' hg hat); clear hown' hg hnl hat))
          have g0 := fun n os => cell_grown (cell_lt HX2.out.four.1) HX2.out.four.1 n os
          have g1 := fun n os => cell_grown (cell_lt HX2.out.four.2.1) HX2.out.four.2.1 n os
          have g2 := fun n os => cell_grown (cell_lt HX2.out.four.2.2.1) HX2.out.four.2.2.1 n os
          have g3 := fun n os => cell_grown (cell_lt HX2.out.four.2.2.2) HX2.out.four.2.2.2 n os
          simp only at g0 g1 g2 g3
          by_cases hb2 : ls < lx
          · have d3 : decide ((ls : Int) < (lx : Int)) = true := by simp; omega
            have d4 : decide (ls < lx) = true := by simp; omega
            have HE1 : Hid (cutTo L (sl, sn) (k + 1) = (P ++ [(xl, d)]) ++ [(ls + 1, lx - ls)]) := hide (by rw [HSU.out, HC1.out, if_pos trivial, if_pos hb1, if_pos hb2]; simp)
            have hw1 := wrap_succ ls (by have := HBS.out.1; omega)
            have hw2 := wrap_sub lx ls (by omega) HBS.out.1
            obtain ⟨e1, he1⟩ : ∃ e1, e1 = ls + 1 := ⟨_, rfl⟩
            obtain ⟨e2, he2⟩ : ∃ e2, e2 = lx - ls := ⟨_, rfl⟩
            rw [← he1] at hw1
            rw [← he2] at hw2
            rw [← he1, ← he2] at HE1
            clear he1 he2 hb1 hb2
            go_quiet_grown (first | (go_at_call 40; (with_reducible exact Calls.grown_of (HGX.out _))) | (go_at_call 40; (with_reducible exact Calls.grown_of (HGS.out _))))
            have HX3 := hide (HX2.out.below (Gr.below ⟨nq, osq, rfl⟩))
            generalize grow (w4.drewN nq) osq = W3 at *
            clear g0 g1 g2 g3
            go_wp2_with fail
            have HX4 := hide (HX3.out.below ((Below.refl _ W3).drew))
            go_region_held3 (fun W => W.cell? ⟨wr.heap.size, 0, none⟩ = some (.int .u64 (xl : Int)) ∧ W.cell? ⟨wr.heap.size, 1, none⟩ = some (.int .u64 (xn : Int)) ∧ W.cell? ⟨w.heap.size, 0, none⟩ = some (.int .u64 (sl : Int)) ∧ W.cell? ⟨w.heap.size, 1, none⟩ = some (.int .u64 (sn : Int)))
              (first | assumption | exact HX4.out.four | exact (HX4.out.below ((Below.refl _ _).alloc (Nat.le_refl _) _)).four)
              (first
                | (go_at_call 40; ((with_reducible refine (HGX.out _).mono ?_); rintro e w9 ⟨rfl, hgr⟩; replace HX4 := hide (HX4.out.below (Gr.below hgr)); clear hgr))
                | (go_at_call 40; ((with_reducible refine (HGS.out _).mono ?_); rintro e w9 ⟨rfl, hgr⟩; replace HX4 := hide (HX4.out.below (Gr.below hgr)); clear hgr))
                | (refine step_append_lies _ rfl (.tmp 47) (.tmp 57) 22 rfl (w.heap.size + 1) 39 i0 _ 2 16 Try.underlying22 HII.out hz0 hz1 hz2 rfl (by decide) (.slice a4 (m + 1) k4) ((m + 1)) ((P ++ [(xl, d)]).flatMap spL) (by simp [Act.eval]) (HX4.out.1.2.2.1.alloc _) ⟨w9.heap.size, 0, none⟩ 1 1 (spL (e1, e2)) (by simp [Act.eval]) rfl (HC.out _ (e1, e2) _ rfl) (sp_one (e1, e2)) (by decide) (by simp only [maxLen]; omega) (by omega) (by have := HX4.out.1.2.1.size; have := HX4.out.1.2.2.2.lt; simp; omega) _ rfl ?_; intro g9 cap9 w10 ho9 hg9 hgg9 hgl9; replace HX4 := hide (HX4.out.lies ho9 hg9 hgg9); clear ho9 hg9 hgg9))
            all_goals
              have hfin : Hid (CutS w (sl, sn) (some ⟨g9, 0, none⟩) cap9 ((m + 1) + 1) (cutTo L (sl, sn) (k + 1)) w10) := hide (by rw [HE1.out]; exact HX4.out.1)
              go_wp2
              go_roundw
              case rel => exact ⟨k + 1, _, _, _, by omega, by go_num, rfl, hfin⟩
              case measure => simp [intOf]; omega
          · have d3 : decide ((ls : Int) < (lx : Int)) = false := by simp; omega
            have d4 : decide (ls < lx) = false := by simp; omega
            have HE1 : Hid (cutTo L (sl, sn) (k + 1) = (P ++ [(xl, d)])) := hide (by rw [HSU.out, HC1.out, if_pos trivial, if_pos hb1, if_neg hb2]; simp)
            clear hb1 hb2
            go_quiet_grown (first | (go_at_call 40; (with_reducible exact Calls.grown_of (HGX.out _))) | (go_at_call 40; (with_reducible exact Calls.grown_of (HGS.out _))))
            have HX3 := hide (HX2.out.below (Gr.below ⟨nq, osq, rfl⟩))
            generalize grow (w4.drewN nq) osq = W3 at *
            clear g0 g1 g2 g3
            go_wp2
            have hfin : Hid (CutS w (sl, sn) a4 k4 ((m + 1)) (cutTo L (sl, sn) (k + 1)) W3) := hide (by rw [HE1.out]; exact HX3.out.1)
            go_roundw
            case rel => exact ⟨k + 1, _, _, _, by omega, by go_num, rfl, hfin⟩
            case measure => simp [intOf]; omega
        · have d1 : decide ((xl : Int) < (sl : Int)) = false := by simp; omega
          have d2 : decide (xl < sl) = false := by simp; omega
          go_wp2_with (go_at_call 22; refine (HMT.out _).mono ?_; rintro e w1 ⟨rfl, hgr⟩; have HX1 := hide (HX0.out.below (Gr.below hgr)); obtain ⟨t0, t1, t2, t3⟩ := HX1.out.four; clear hgr)
          have g0 := fun n os => cell_grown (cell_lt HX1.out.four.1) HX1.out.four.1 n os
          have g1 := fun n os => cell_grown (cell_lt HX1.out.four.2.1) HX1.out.four.2.1 n os
          have g2 := fun n os => cell_grown (cell_lt HX1.out.four.2.2.1) HX1.out.four.2.2.1 n os
          have g3 := fun n os => cell_grown (cell_lt HX1.out.four.2.2.2) HX1.out.four.2.2.2 n os
          simp only at g0 g1 g2 g3
          by_cases hb2 : ls < lx
          · have d3 : decide ((ls : Int) < (lx : Int)) = true := by simp; omega
            have d4 : decide (ls < lx) = true := by simp; omega
            have HE1 : Hid (cutTo L (sl, sn) (k + 1) = P ++ [(ls + 1, lx - ls)]) := hide (by rw [HSU.out, HC1.out, if_pos trivial, if_neg hb1, if_pos hb2]; simp)
            have hw1 := wrap_succ ls (by have := HBS.out.1; omega)
            have hw2 := wrap_sub lx ls (by omega) HBS.out.1
            obtain ⟨e1, he1⟩ : ∃ e1, e1 = ls + 1 := ⟨_, rfl⟩
            obtain ⟨e2, he2⟩ : ∃ e2, e2 = lx - ls := ⟨_, rfl⟩
            rw [← he1] at hw1
            rw [← he2] at hw2
            rw [← he1, ← he2] at HE1
            clear he1 he2 hb1 hb2
            go_quiet_grown (first | (go_at_call 40; (with_reducible exact Calls.grown_of (HGX.out _))) | (go_at_call 40; (with_reducible exact Calls.grown_of (HGS.out _))))
            have HX3 := hide (HX1.out.below (Gr.below ⟨nq, osq, rfl⟩))
            generalize grow (w1.drewN nq) osq = W3 at *
            clear g0 g1 g2 g3
            go_wp2_with fail
            have HX4 := hide (HX3.out.below ((Below.refl _ W3).drew))
            go_region_held3 (fun W => W.cell? ⟨wr.heap.size, 0, none⟩ = some (.int .u64 (xl : Int)) ∧ W.cell? ⟨wr.heap.size, 1, none⟩ = some (.int .u64 (xn : Int)) ∧ W.cell? ⟨w.heap.size, 0, none⟩ = some (.int .u64 (sl : Int)) ∧ W.cell? ⟨w.heap.size, 1, none⟩ = some (.int .u64 (sn : Int)))
              (first | assumption | exact HX4.out.four | exact (HX4.out.below ((Below.refl _ _).alloc (Nat.le_refl _) _)).four)
              (first
                | (go_at_call 40; ((with_reducible refine (HGX.out _).mono ?_); rintro e w9 ⟨rfl, hgr⟩; replace HX4 := hide (HX4.out.below (Gr.below hgr)); clear hgr))
                | (go_at_call 40; ((with_reducible refine (HGS.out _).mono ?_); rintro e w9 ⟨rfl, hgr⟩; replace HX4 := hide (HX4.out.below (Gr.below hgr)); clear hgr))
                | (refine step_append_lies _ rfl (.tmp 47) (.tmp 57) 22 rfl (w.heap.size + 1) 39 i0 _ 2 16 Try.underlying22 HII.out hz0 hz1 hz2 rfl (by decide) (.slice a m c') (m) (P.flatMap spL) (by simp [Act.eval]) (HX4.out.1.2.2.1.alloc _) ⟨w9.heap.size, 0, none⟩ 1 1 (spL (e1, e2)) (by simp [Act.eval]) rfl (HC.out _ (e1, e2) _ rfl) (sp_one (e1, e2)) (by decide) (by simp only [maxLen]; omega) (by omega) (by have := HX4.out.1.2.1.size; have := HX4.out.1.2.2.2.lt; simp; omega) _ rfl ?_; intro g9 cap9 w10 ho9 hg9 hgg9 hgl9; replace HX4 := hide (HX4.out.lies ho9 hg9 hgg9); clear ho9 hg9 hgg9))
            all_goals
              have hfin : Hid (CutS w (sl, sn) (some ⟨g9, 0, none⟩) cap9 (m + 1) (cutTo L (sl, sn) (k + 1)) w10) := hide (by rw [HE1.out]; exact HX4.out.1)
              go_wp2
              go_roundw
              case rel => exact ⟨k + 1, _, _, _, by omega, by go_num, rfl, hfin⟩
              case measure => simp [intOf]; omega
          · have d3 : decide ((ls : Int) < (lx : Int)) = false := by simp; omega
            have d4 : decide (ls < lx) = false := by simp; omega
            have HE1 : Hid (cutTo L (sl, sn) (k + 1) = P) := hide (by rw [HSU.out, HC1.out, if_pos trivial, if_neg hb1, if_neg hb2]; simp)
            clear hb1 hb2
            go_quiet_grown (first | (go_at_call 40; (with_reducible exact Calls.grown_of (HGX.out _))) | (go_at_call 40; (with_reducible exact Calls.grown_of (HGS.out _))))
            have HX3 := hide (HX1.out.below (Gr.below ⟨nq, osq, rfl⟩))
            generalize grow (w1.drewN nq) osq = W3 at *
            clear g0 g1 g2 g3
            go_wp2
            have hfin : Hid (CutS w (sl, sn) a c' (m) (cutTo L (sl, sn) (k + 1)) W3) := hide (by rw [HE1.out]; exact HX3.out.1)
            go_roundw
            case rel => exact ⟨k + 1, _, _, _, by omega, by go_num, rfl, hfin⟩
            case measure => simp [intOf]; omega
    · have hkn : k = n := by omega
      subst hkn
      clear hlt hk
      go_wp2
      go_ret
      exact ⟨a, c', by rw [← hrel.out.1]; rfl, by rw [← hrel.out.1]; exact own_base hrel.out.2.2.1 (by omega), hrel.out.2.1⟩
end Go.Proofs.Ytakehbljldjndaa
