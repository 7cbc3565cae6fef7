/- The walk of the function that sweep.Pairs hands to visit (chapter 14). -/
import Derived.Test.YthccadabblkalaaGreatSwGapW
import Derived.Test.YthccadabblkalaaGreatSwDepth
namespace Go.Proofs.YthccadabblkalaaGreat
open Go.RowKit Go.Sort
set_option linter.unusedVariables false

def prL (p : Nat × Nat) : List Value := [.int .i64 (p.1 : Int), .int .i64 (p.2 : Int)]
theorem prL_len (p : Nat × Nat) : (prL p).length = 2 := rfl
/-- The variable that holds the pairs, and its row. -/
def PairB (B : Nat) (ps : List (Nat × Nat)) (R : Option Nat) (w : World) : Prop :=
  ∃ a c, Blk w B 114 #[.slice a ps.length c] ∧ w.ownsRow (B + 1) 116 2 (.slice a ps.length c) ps.length (ps.flatMap prL) ∧ (Value.slice a ps.length c).ownBlock = R
def pset (B : Nat) (R : Option Nat) (k : Nat) : Prop := k = B ∨ R = some k
section
variable {B : Nat} {ps : List (Nat × Nat)} {R : Option Nat} {w w' : World} {M : Nat → Prop}
theorem PairB.keep (h : PairB B ps R w) (hb : But M w w') (hM : ∀ k, pset B R k → ¬ M k) : PairB B ps R w' := by
  obtain ⟨a, c, h1, h2, h3⟩ := h
  refine ⟨a, c, hb.blk h1 (hM _ (.inl rfl)), ⟨h2.1, ?_⟩, h3⟩
  rcases h2.2 with h0 | ⟨r, cap, cur, hv, hbs, hg, h4, h5, h6, h7⟩
  · exact .inl h0
  · have hg' : Blk w r 116 cur := hg
    refine .inr ⟨r, cap, cur, hv, hbs, hb.blk hg' (hM r (.inr ?_)), h4, h5, h6, h7⟩
    rw [← h3, hv]; rfl
theorem PairB.row_lt (h : PairB B ps R w) : ∀ k, R = some k → B + 1 ≤ k ∧ k < w.heap.size := by
  intro k hk
  obtain ⟨a, c, h1, h2, h3⟩ := h
  rw [← h3] at hk
  rcases h2.2 with ⟨h0, _⟩ | ⟨r, cap, cur, hv, hbs, hg, _⟩
  · rw [h0] at hk; cases hk
  · have hg' : Blk w r 116 cur := hg
    rw [hv] at hk
    have : r = k := by simpa [Value.ownBlock] using hk
    subst this
    exact ⟨hbs, hg'.lt⟩
theorem PairB.ltB (h : PairB B ps R w) : B < w.heap.size := by obtain ⟨a, c, h1, _⟩ := h; exact h1.lt
theorem PairB.lt (h : PairB B ps R w) : ∀ k, pset B R k → k < w.heap.size := by
  rintro k (hk | hk)
  · rw [hk]; exact h.ltB
  · exact (h.row_lt k hk).2
end
theorem pair_info3 : (Tryz.prog.info? 116).map (fun i => (i.zero, i.size, i.bytes)) = some (some (.agg #[.int .i64 0, .int .i64 0]), 2, 16) := by kernel_rfl
theorem pr_one (s : Nat × Nat) : ∀ u ∈ prL s, u.oneCell' = true := by
  intro u hu
  simp only [prL, List.mem_cons, List.not_mem_nil, or_false] at hu
  rcases hu with rfl | rfl <;> rfl
theorem pr_cells (w : World) (s : Nat × Nat) (t : TypeId) (g : Nat) (hg : g = w.heap.size) : ∀ j u, (prL s)[j]? = some u → (w.alloc (.cells #[.int .i64 (s.1 : Int), .int .i64 (s.2 : Int)] t)).cell? ((⟨g, 0, none⟩ : Addr).add j) = some u := by
  intro j u h
  subst hg
  have e : ((⟨w.heap.size, 0, none⟩ : Addr).add j) = ⟨w.heap.size, j, none⟩ := by unfold Addr.add; split <;> simp_all
  rw [e, (Blk.new w t _).cell j, ← Array.getElem?_toList]
  exact h
theorem pair_pushed {B k4 c : Nat} {ps : List (Nat × Nat)} {R : Option Nat} {W W4 : World} {a a4 : Option Addr} {p : Nat × Nat} (h : PairB B ps R W)
    (ho4 : W4.ownsRow (B + 1) 116 2 (.slice a4 (ps.length + 1) k4) (ps.length + 1) (ps.flatMap prL ++ prL p))
    (hg4 : (W.alloc (.cells #[.int .i64 (p.1 : Int), .int .i64 (p.2 : Int)] 116)).grownBy W4 (Value.slice a ps.length c).ownBlock)
    (hat : (Value.slice a4 (ps.length + 1) k4).ownBlock = (Value.slice a ps.length c).ownBlock ∨ (Value.slice a4 (ps.length + 1) k4).ownBlock = some (W.alloc (.cells #[.int .i64 (p.1 : Int), .int .i64 (p.2 : Int)] 116)).heap.size)
    (hob : (Value.slice a ps.length c).ownBlock = R) :
    ∃ R', PairB B (ps ++ [p]) R' (W4.setCell ⟨B, 0, none⟩ (.slice a4 (ps.length + 1) k4)) ∧ But (pset B R) W (W4.setCell ⟨B, 0, none⟩ (.slice a4 (ps.length + 1) k4)) ∧ (R' = R ∨ ∃ r, R' = some r ∧ W.heap.size ≤ r) := by
  have hr := h.row_lt
  have hb : But (pset B R) W (W4.setCell ⟨B, 0, none⟩ (.slice a4 (ps.length + 1) k4)) :=
    (((But.refl (pset B R) W).alloc _).grown hg4 (fun r hr => .inl (.inr (by rw [← hob]; exact hr)))).setCell (.inl (.inl rfl)) _
  obtain ⟨a0, c0, h1, h2, h3⟩ := h
  have hlen : (ps ++ [p]).length = ps.length + 1 := by simp
  have hfl : (ps ++ [p]).flatMap prL = ps.flatMap prL ++ prL p := by simp
  have hne4 : (Value.slice a4 (ps.length + 1) k4).ownBlock ≠ some B := by
    intro e
    rcases ho4.2 with ⟨h0, _⟩ | ⟨r, cap, cur, hv, hbs, _⟩
    · rw [h0] at e; cases e
    · rw [hv] at e
      have : r = B := by simpa [Value.ownBlock] using e
      omega
  have hB4 : Blk W4 B 114 #[.slice a0 ps.length c0] := (h1.alloc _).grown hg4 (by rw [hob]; intro e; have := hr _ e.symm; omega)
  refine ⟨(Value.slice a4 (ps.length + 1) k4).ownBlock, ⟨a4, k4, ?_, ?_, ?_⟩, hb, ?_⟩
  · rw [hlen]; exact hB4.set_ 0 _
  · rw [hlen, hfl]
    exact ownsRow_setCell_other ho4 hne4 _
  · rw [hlen]
  · rcases hat with hat | hat
    · exact .inl (hat.trans hob)
    · exact .inr ⟨_, hat, by simp⟩
/-- In the loop. -/
def PRel (B : Nat) (ps : List (Nat × Nat)) (R : Option Nat) (x : Itm) (O : Array Itm) (w W0 wr : World) (k : Nat) : Prop :=
  ∃ R', PairB B (ps ++ (O.toList.take k).map (pairOf x)) R' wr ∧ But (pset B R) W0 wr ∧ (R' = R ∨ ∃ r, R' = some r ∧ W0.heap.size ≤ r)
theorem Opn.cells {w : World} {R : Option Nat} {cap : Nat} {d : Array Itm} (h : Opn w R cap d) (i : Nat) (hi : i < d.size) :
    ∃ g, R = some g ∧ g < w.heap.size ∧ w.cell? ⟨g, i * 3, none⟩ = some (.int .u64 (d[i]!.lo : Int)) ∧ w.cell? ⟨g, i * 3 + 1, none⟩ = some (.int .u64 (d[i]!.len : Int)) ∧ w.cell? ⟨g, i * 3 + 2, none⟩ = some (.int .i64 (d[i]!.idx : Int)) := by
  obtain ⟨h1, h2, h3⟩ := h
  cases R with
  | none => simp only at h3; subst h3; simp at hi
  | some g =>
    obtain ⟨cs, hb, hs, hr⟩ := h3
    have i0 := hr i hi
    rw [three] at i0
    exact ⟨g, rfl, hb.lt, (hb.cell _).trans i0.1, (hb.cell _).trans i0.2.1, (hb.cell _).trans i0.2.2⟩
theorem Opn.but {M : Nat → Prop} {w w' : World} {R : Option Nat} {cap : Nat} {d : Array Itm} (h : Opn w R cap d) (hb : But M w w') (hM : ∀ g, R = some g → ¬ M g) : Opn w' R cap d := by
  obtain ⟨h1, h2, h3⟩ := h
  refine ⟨h1, h2, ?_⟩
  cases R with
  | none => exact h3
  | some g =>
    obtain ⟨cs, hg, hs, hr⟩ := h3
    exact ⟨cs, hb.blk hg (hM g rfl), hs, hr⟩
set_option maxRecDepth 100000 in
set_option maxHeartbeats 4000000 in
theorem Pairs1_calls (B : Nat) (ps : List (Nat × Nat)) (R RO : Option Nat) (x : Itm) (cap : Nat) (O : Array Itm) (w : World) (h : PairB B ps R w) (hl : ps.length ≤ 1000000000) (ho : Opn w RO cap O) (hS : ∀ g, RO = some g → ¬ pset B R g) (hO : O.size ≤ 1000000) :
    Calls Tryz.prog 70 #[.agg (itA x), opnV RO cap O, .pointer (some ⟨B, 0, none⟩)] w fun e w' => e = .returned (.tuple #[]) ∧ ∃ R', PairB B (ps ++ O.toList.map (pairOf x)) R' w' ∧ But (pset B R) w w' ∧ (R' = R ∨ ∃ r, R' = some r ∧ w.heap.size ≤ r) := by
  have hbW : But (pset B R) w (w.alloc (.cells (itA x) 81)) := (But.refl _ w).alloc _
  have h0 : PRel B ps R x O w (w.alloc (.cells (itA x) 81)) (w.alloc (.cells (itA x) 81)) 0 :=
    ⟨R, by simpa using h.keep (But.of_below (M := fun _ => False) ((Below.refl _ w).alloc (Nat.le_refl _) (.cells (itA x) 81))) (fun _ _ h => h), But.refl _ _, .inl rfl⟩
  have HX := hide (Blk.new w 81 (itA x))
  have HO := hide (ho.but hbW hS)
  have HNB : Hid (¬ pset B R w.heap.size) := hide (fun hg => Nat.lt_irrefl _ (h.lt _ hg))
  have HS := hide hS
  have HBW := hide hbW
  have HLB := hide h.ltB
  have H0 := hide h0
  have HL := hide hl
  obtain ⟨i0, hi, hz0, hz1, hz2⟩ := info_parts pair_info3
  have HII := hide hi
  obtain ⟨n, hn⟩ : ∃ n, n = O.size := ⟨_, rfl⟩
  have hnI : (n : Int) ≤ 1000000 := by omega
  have HN := hide hn
  have HOV : Hid (opnV RO cap O = .slice (RO.map fun g => ⟨g, 0, none⟩) n cap) := hide (by rw [hn]; rfl)
  rw [HOV.out]
  have HCA := hide ho.1
  generalize hra : RO.map (fun g => (⟨g, 0, none⟩ : Addr)) = ra
  have HRA := hide hra
  clear h hl ho hS hO h0 hbW hi hn hra
  obtain ⟨xlo, xlen, xi⟩ := x
  have hxa : itA ⟨xlo, xlen, xi⟩ = #[.int .u64 (xlo : Int), .int .u64 (xlen : Int), .int .i64 (xi : Int)] := rfl
  rw [hxa] at HX HO HBW H0 ⊢
  clear hxa
  go_enter Tryz.func70, Tryz.ntmps70
  go_wp2
  generalize hW0 : w.alloc (.cells #[.int .u64 (xlo : Int), .int .u64 (xlen : Int), .int .i64 (xi : Int)] 81) = W0 at *
  have HW0 := hide hW0
  clear hW0
  go_loopw [9] (fun i wr => ∃ k : Nat, k ≤ n ∧ i = .int .i64 (k : Int) ∧ Hid (PRel B ps R ⟨xlo, xlen, xi⟩ O w W0 wr k)) (fun i _ => n - (intOf i).toNat)
  case atStart => exact ⟨0, Nat.zero_le _, rfl, H0⟩
  case round =>
    obtain ⟨k, hk, rfl, hrel⟩ := hrel
    by_cases hlt : k < n
    · have hlt2 : (k : Int) < (n : Int) := by omega
      obtain ⟨R1, hP, hbt, hR1⟩ := hrel.out
      obtain ⟨g, hg, hgl, y0, y1, y2⟩ := (HO.out.but hbt HS.out).cells k (by have := HN.out; omega)
      have x2 : wr.cell? ⟨w.heap.size, 2, none⟩ = some (.int .i64 (xi : Int)) := (hbt.blk HX.out HNB.out).cell 2
      obtain rfl : ra = some ⟨g, 0, none⟩ := by rw [← HRA.out, hg]; rfl
      have hcap : (n : Int) ≤ (cap : Int) := by have := HCA.out; have := HN.out; omega
      obtain ⟨y, hy⟩ : ∃ y, y = O[k]! := ⟨_, rfl⟩
      rw [← hy] at y0 y1 y2
      obtain ⟨a, c, b1, own, hob⟩ := hP
      have hlen : (ps ++ (O.toList.take k).map (pairOf ⟨xlo, xlen, xi⟩)).length ≤ 1002000000 := by
        rw [List.length_append, List.length_map, List.length_take]; have := HL.out; omega
      obtain ⟨P, hPP⟩ : ∃ P, P = ps ++ (O.toList.take k).map (pairOf ⟨xlo, xlen, xi⟩) := ⟨_, rfl⟩
      rw [← hPP] at b1 own hob hlen
      obtain ⟨L, hL⟩ : ∃ L, L = P.length := ⟨_, rfl⟩
      have b0 : wr.cell? ⟨B, 0, none⟩ = some (.slice a L c) := by rw [hL]; exact b1.cell 0
      have own2 := own
      rw [← hL] at own2 hlen
      obtain ⟨ylo, ylen, yi⟩ := y
      obtain ⟨mn, hmn⟩ : ∃ mn, mn = min xi yi := ⟨_, rfl⟩
      obtain ⟨mx, hmx⟩ : ∃ mx, mx = max xi yi := ⟨_, rfl⟩
      have hmin : min (xi : Int) (yi : Int) = (mn : Int) := by rw [hmn]; omega
      have hmax : max (xi : Int) (yi : Int) = (mx : Int) := by rw [hmx]; omega
      have HPA : Hid ((mn, mx) = pairOf ⟨xlo, xlen, xi⟩ O[k]!) := hide (by rw [← hy, hmn, hmx]; rfl)
      have hbz := b1.lt
      have HLL := hide hL
      have HPB : Hid (PairB B P R1 wr) := hide ⟨a, c, b1, own, hob⟩
      have HOW := hide own2
      have HOB := hide hob
      have HB1 := hide b1
      have HBT := hide hbt
      have HR1 := hide hR1
      have HPP := hide hPP
      have HNR : Hid (some B ≠ (Value.slice a L c).ownBlock) := hide (by intro e; have := HPB.out.row_lt B (by rw [← hob, ← hL]; exact e.symm); omega)
      have H1 := hide (pr_one (mn, mx))
      have HC := hide (fun W g hg => pr_cells W (mn, mx) 116 g hg)
      have HW1 := hide hbt.size
      have hbw : w.heap.size < wr.heap.size := by have h5 := hbt.size; have h6 : W0.heap.size = w.heap.size + 1 := by rw [← HW0.out]; simp
                                                  omega
      clear hy hL own own2 b1 hob hbt hR1 hPP hmn hmx hg hgl
      go_wp2_with (at_builtin; go_must (refine wpList_append_own_at _ rfl (.tmp 13) (.tmp 25) 114 rfl (B + 1) 116 i0 _ 2 16 Tryz.underlying114 HII.out hz0 hz1 hz2 rfl (by decide) (.slice a L c) L (P.flatMap prL) rfl ((HOW.out.alloc _).alloc _) _ 1 1 (prL (mn, mx)) rfl rfl (HC.out _ _ (by simp)) H1.out (by simp only [maxLen]; omega) (by omega) (by simp; omega) ?_); intro v' w4 hown' hg hnl hat; obtain ⟨a4, k4, rfl⟩ := own_slice hown'; have hB4 := ((HB1.out.alloc (.cells #[.int .u64 (ylo : Int), .int .u64 (ylen : Int), .int .i64 (yi : Int)] 81)).alloc (.cells #[.int .i64 (mn : Int), .int .i64 (mx : Int)] 116)).grown hg (HNR.out); have q1 := hB4.cell 0; have qf := hB4.frozen 0; have HO4 := hide hown'; have HG4 := hide hg; have HAT := hide hat; clear hown' hg hnl hat hB4)
      go_roundw
      case rel =>
        refine ⟨k + 1, by omega, by go_num, ?_⟩
        have hw1 := HPB.out.keep (But.of_below (M := fun _ => False) ((Below.refl _ wr).alloc (Nat.le_refl _) (.cells #[.int .u64 (ylo : Int), .int .u64 (ylen : Int), .int .i64 (yi : Int)] 81))) (fun _ _ h => h)
        have e1 := HO4.out
        have e2 := HG4.out
        have e3 := HAT.out
        rw [HLL.out] at e1 e2 e3
        obtain ⟨R', f1, f2, f3⟩ := pair_pushed (p := (mn, mx)) hw1 e1 e2 e3 HOB.out
        have hsub : ∀ i, i < W0.heap.size → pset B R1 i → pset B R i := by
          intro i hi hM
          rcases hM with hM | hM
          · exact .inl hM
          · rcases HR1.out with h7 | ⟨r, h7, h8⟩
            · exact .inr (by rw [← h7]; exact hM)
            · rw [h7] at hM; injection hM with hM; subst hM
              exact absurd hi (by omega)
        refine hide ⟨R', ?_, by rw [HLL.out]; exact (HBT.out.alloc (.cells #[.int .u64 (ylo : Int), .int .u64 (ylen : Int), .int .i64 (yi : Int)] 81)).then f2 hsub, ?_⟩
        · have hsn : (O.toList.take (k + 1)).map (pairOf ⟨xlo, xlen, xi⟩) = (O.toList.take k).map (pairOf ⟨xlo, xlen, xi⟩) ++ [(mn, mx)] := by
            have hko : k < O.toList.length := by rw [Array.length_toList, ← HN.out]; exact hlt
            rw [List.take_succ_eq_append_getElem hko, List.map_append, List.map_cons, List.map_nil, HPA.out]
            have : O[k]! = O.toList[k] := by rw [getElem!_pos O k (by rw [← HN.out]; exact hlt)]; rfl
            rw [this]
          rw [hsn, ← List.append_assoc, ← HPP.out, HLL.out]
          exact f1
        · rcases f3 with h7 | ⟨r, h7, h8⟩
          · rw [h7]; exact HR1.out
          · exact .inr ⟨r, h7, by have := HW1.out; simp at h8; omega⟩
      case measure => simp [intOf]; omega
    · have hkn : k = n := by omega
      subst hkn
      have hE := hrel.out
      unfold PRel at hE
      rw [List.take_of_length_le (by rw [HN.out, Array.length_toList]; exact Nat.le_refl _)] at hE
      have HE := hide hE
      clear hE hlt hk
      go_wp2
      go_end0
      obtain ⟨R', e1, e2, e3⟩ := HE.out
      refine ⟨rfl, R', e1, HBW.out.trans e2, ?_⟩
      rcases e3 with h7 | ⟨r, h7, h8⟩
      · exact .inl h7
      · exact .inr ⟨r, h7, by have := HBW.out.size; omega⟩
end Go.Proofs.YthccadabblkalaaGreat
