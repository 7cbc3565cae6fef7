/- The order of pairs, as sweep.Pairs hands it to the sort (chapter 14). -/
import Derived.Test.YthccadabblkalaaGreatSwPairW
import Derived.Test.YthccadabblkalaaGreatSwRef1
import Derived.Test.YthccadabblkalaaGreatSortK
import Derived.Test.YthccadabblkalaaGreatShelf
import Derived.Handy
import Derived.StillTactics
namespace Go.Proofs.YthccadabblkalaaGreat
open Go.RowKit Go.Sort
set_option linter.unusedVariables false

def orI (a b : Int) : Int := if a = 0 then b else a
set_option maxHeartbeats 1000000 in
theorem Or_calls (g : Nat) (a b : Int) (w : World) (h0 : w.cell? ⟨g, 0, none⟩ = some (.int .i64 a)) (h1 : w.cell? ⟨g, 1, none⟩ = some (.int .i64 b)) :
    Calls Tryz.prog 73 #[.slice (some ⟨g, 0, none⟩) 2 2] w fun e w' => e = .returned (.int .i64 (orI a b)) ∧ w' = w := by
  by_cases ha : a = 0
  · subst ha
    by_cases hb : b = 0
    · subst hb
      go_enter Tryz.func73, Tryz.ntmps73
      go_wp2_with fail
      go_rounds 3
      go_wp2
      go_ret
      exact ⟨rfl, rfl⟩
    · have e1 : (b != 0) = true := by simpa using hb
      go_enter Tryz.func73, Tryz.ntmps73
      go_wp2_with fail
      go_rounds 3
      go_wp2
      go_ret
      exact ⟨by simp [orI], rfl⟩
  · have e1 : (a != 0) = true := by simpa using ha
    have HA := hide ha
    clear ha
    go_enter Tryz.func73, Tryz.ntmps73
    go_wp2_with fail
    go_rounds 3
    go_wp2
    go_ret
    exact ⟨by simp [orI, HA.out], rfl⟩
def cfP (x y : Nat × Nat) : Int := orI (Lib.compareInt (x.1 : Int) (y.1 : Int)) (Lib.compareInt (x.2 : Int) (y.2 : Int))
theorem ltP (x y : Nat × Nat) : ltOf cfP x y = decide (x.1 < y.1 ∨ x.1 = y.1 ∧ x.2 < y.2) := by
  unfold ltOf cfP orI Lib.compareInt
  rw [Bool.eq_iff_iff]
  simp only [decide_eq_true_eq]
  by_cases h1 : (x.1 : Int) < y.1
  · simp [h1]; omega
  · by_cases h2 : (y.1 : Int) < x.1
    · simp [h1, h2]; omega
    · by_cases h3 : (x.2 : Int) < y.2
      · simp [h1, h2, h3]; omega
      · by_cases h4 : (y.2 : Int) < x.2 <;> simp [h1, h2, h3, h4] <;> omega
theorem swoP : SWO (ltOf cfP) where
  irrefl x := by rw [ltP]; simp
  trans x y z h1 h2 := by rw [ltP] at *; simp at *; omega
  ntrans x y z h1 h2 := by rw [ltP] at *; simp at *; omega
theorem totP (x y : Nat × Nat) (h1 : ltOf cfP x y = false) (h2 : ltOf cfP y x = false) : x = y := by
  rw [ltP] at *; simp at h1 h2
  exact Prod.ext (by omega) (by omega)
set_option maxRecDepth 100000 in
set_option maxHeartbeats 2000000 in
theorem Cmp_calls (x y : Nat × Nat) (w : World) : Calls Tryz.prog 72 #[.agg (prL x).toArray, .agg (prL y).toArray] w fun e w' => e = .returned (.int .i64 (cfP x y)) ∧ ∃ q os', w' = grow (w.drewN q) os' := by
  obtain ⟨x1, x2⟩ := x
  obtain ⟨y1, y2⟩ := y
  have hC1 := fun W => Tryz.cmp_Compare_int (x1 : Int) (y1 : Int) W
  have hC2 := fun W => Tryz.cmp_Compare_int (x2 : Int) (y2 : Int) W
  show Calls Tryz.prog 72 #[.agg #[.int .i64 (x1 : Int), .int .i64 (x2 : Int)], .agg #[.int .i64 (y1 : Int), .int .i64 (y2 : Int)]] w fun e w' => e = .returned (.int .i64 (orI (Lib.compareInt (x1 : Int) (y1 : Int)) (Lib.compareInt (x2 : Int) (y2 : Int)))) ∧ ∃ q os', w' = grow (w.drewN q) os'
  generalize Lib.compareInt (x1 : Int) (y1 : Int) = r1 at *
  generalize Lib.compareInt (x2 : Int) (y2 : Int) = r2 at *
  have HC1 := hide hC1
  have HC2 := hide hC2
  have hb1 := (Blk.new w 116 #[.int .i64 (x1 : Int), .int .i64 (x2 : Int)]).alloc (.cells #[.int .i64 (y1 : Int), .int .i64 (y2 : Int)] 116)
  have hb2 := Blk.new (w.alloc (.cells #[.int .i64 (x1 : Int), .int .i64 (x2 : Int)] 116)) 116 #[.int .i64 (y1 : Int), .int .i64 (y2 : Int)]
  have a1 := hb1.cell 0
  have a2 := hb1.cell 1
  have a3 := hb2.cell 0
  have a4 := hb2.cell 1
  rw [World.size_alloc] at a3 a4
  simp only [List.getElem?_toArray, List.getElem?_cons_zero, List.getElem?_cons_succ] at a1 a2 a3 a4
  clear hC1 hC2 hb1 hb2
  go_enter Tryz.func72, Tryz.ntmps72
  go_wp2_with fail
  have HG := hide (((Gr.refl w).alloc (.cells #[.int .i64 (x1 : Int), .int .i64 (x2 : Int)] 116)).alloc (.cells #[.int .i64 (y1 : Int), .int .i64 (y2 : Int)] 116))
  generalize (w.alloc (.cells #[.int .i64 (x1 : Int), .int .i64 (x2 : Int)] 116)).alloc (.cells #[.int .i64 (y1 : Int), .int .i64 (y2 : Int)] 116) = W at *
  refine wp_region_still_tail 10 (by kernel_rfl) (by kernel_rfl) ?_
  simp only [List.take_succ_cons, List.take_zero, List.drop_succ_cons, List.drop_zero]
  repeat still_step
  still_call (HC1.out _)
  repeat still_step
  still_call (HC2.out _)
  repeat still_step
  refine wpStill_nil ?_
  have hb := (Blk.new W 3 #[.int .i64 r1, .int .i64 r2]).drew
  have HO := hide (Or_calls W.heap.size r1 r2 (W.alloc (.cells #[.int .i64 r1, .int .i64 r2] 3)).drew (hb.cell 0) (hb.cell 1))
  clear hb
  go_wp2_with (go_at_call 73; refine HO.out.mono ?_; rintro e w2 ⟨rfl, rfl⟩)
  go_ret
  exact ⟨rfl, (HG.out.alloc _).drew⟩
theorem pairsV_snoc (V : List (Itm × Array Itm)) (x : Itm) (O : Array Itm) : pairsV (V ++ [(x, O)]) = pairsV V ++ O.toList.map (pairOf x) := by
  unfold pairsV; rw [List.flatMap_append]; simp
theorem pairsV_len (V : List (Itm × Array Itm)) (h : ∀ p ∈ V, p.2.size ≤ 1000000) : (pairsV V).length ≤ V.length * 1000000 := by
  induction V with
  | nil => simp [pairsV]
  | cons p V ih =>
    have h1 := ih (fun q hq => h q (List.mem_cons_of_mem _ hq))
    have h2 := h p (List.mem_cons_self ..)
    have e : pairsV (p :: V) = p.2.toList.map (pairOf p.1) ++ pairsV V := rfl
    rw [e, List.length_append, List.length_map, Array.length_toList, List.length_cons]
    omega
def pairI (B : Nat) (pre : List (Itm × Array Itm)) (S : Nat → Prop) (w : World) : Prop := (∃ R, PairB B (pairsV pre) R w ∧ ∀ k, S k ↔ pset B R k) ∧ ∀ p ∈ pre, p.2.size ≤ 1000000
theorem pair_CB (B : Nat) : CB 70 #[.pointer (some ⟨B, 0, none⟩)] (pairI B) where
  keep := fun {pre S M w w'} h hb hM => by
    obtain ⟨⟨R, h1, h2⟩, h3⟩ := h
    exact ⟨⟨R, h1.keep hb (fun k hk => hM k ((h2 k).2 hk)), h2⟩, h3⟩
  lt := fun {pre S w} h k hk => by
    obtain ⟨⟨R, h1, h2⟩, h3⟩ := h
    exact h1.lt k ((h2 k).1 hk)
  call := fun {pre S w} x R cap O h ho hS hO hp => by
    obtain ⟨⟨Rp, h1, h2⟩, h3⟩ := h
    have e := Pairs1_calls B (pairsV pre) Rp R x cap O w h1 (by have := pairsV_len pre h3; omega) ho (fun g hg hq => hS g hg ((h2 g).2 hq)) hO
    refine e.mono ?_
    rintro e w' ⟨rfl, R', hg, hb, hr⟩
    refine ⟨rfl, pset B R', ⟨⟨R', ?_, fun k => Iff.rfl⟩, ?_⟩, hb.mono (fun k _ hk => (h2 k).2 hk), fun k hk => ?_⟩
    · rw [pairsV_snoc]; exact hg
    · intro p hp
      rcases List.mem_append.1 hp with hp | hp
      · exact h3 p hp
      · rw [List.mem_singleton] at hp; subst hp; exact hO
    · rcases hk with hk | hk
      · exact .inl ((h2 k).2 (.inl hk))
      · rcases hr with hr | ⟨r, hr, hr2⟩
        · exact .inl ((h2 k).2 (.inr (by rw [← hr]; exact hk)))
        · rw [hr] at hk; injection hk with hk; subst hk; exact .inr hr2
/-- One sorted list. -/
theorem sorted_one : ∀ (L M : List (Nat × Nat)), L.Pairwise pairLt → M.Pairwise (fun a b => (!ltOf cfP b a) = true) → M.Perm L → M = L := by
  intro L
  induction L with
  | nil => intro M _ _ h; exact h.eq_nil
  | cons a L ih =>
    intro M hL hM hp
    cases M with
    | nil => exact absurd hp.symm.eq_nil (by simp)
    | cons b M =>
      rw [List.pairwise_cons] at hL hM
      have hab : b = a := by
        have h1 : b ∈ a :: L := hp.subset (List.mem_cons_self ..)
        have h2 : a ∈ b :: M := hp.symm.subset (List.mem_cons_self ..)
        rcases List.mem_cons.1 h1 with h1 | h1
        · exact h1
        · rcases List.mem_cons.1 h2 with h2 | h2
          · exact h2.symm
          · have h3 := hL.1 b h1
            have h4 := hM.1 a h2
            rw [ltP] at h4
            unfold pairLt at h3
            simp at h4
            omega
      subst hab
      rw [ih M hL.2 hM.2 ((List.perm_cons _).1 hp)]
theorem pairs_sorted {l : List (Nat × Nat)} (h : ∀ s ∈ l, okSpan s) : ((pairsV (visitL l)).mergeSort fun x y => !ltOf cfP y x) = pairsR l := by
  refine sorted_one _ _ (pairsR_sorted l) (List.pairwise_mergeSort ?_ ?_ _) ((List.mergeSort_perm _ _).trans (pairs_perm h))
  · intro a b c h1 h2
    rw [ltP] at *
    simp at *
    omega
  · intro a b
    rw [ltP, ltP]
    simp
    omega
def PairsV (ps : List (Nat × Nat)) (w : World) (e : Ending) (w' : World) : Prop :=
  ∃ a c, e = .returned (.slice a ps.length c) ∧ w'.ownsRow w.heap.size 116 2 (.slice a ps.length c) ps.length (ps.flatMap prL) ∧ Below w.heap.size w w'
theorem pair_start (w : World) : PairB w.heap.size [] none (w.alloc (.cells #[.slice none 0 0] 114)) := ⟨none, 0, Blk.new w _ _, World.ownsRow_nil _ _ _ _, rfl⟩
theorem Sort_calls (B : Nat) (ps : List (Nat × Nat)) (a : Option Addr) (c : Nat) (w : World) (own : w.ownsRow B 116 2 (.slice a ps.length c) ps.length (ps.flatMap prL)) (hl : ps.length ≤ 1000000000) :
    Calls Tryz.prog 71 #[.slice a ps.length c, .func (.func 72) #[] #[]] w fun e w' => e = .returned (.tuple #[]) ∧
      w'.ownsRow B 116 2 (.slice a ps.length c) ps.length ((ps.mergeSort fun x y => !ltOf cfP y x).flatMap prL) ∧ But (fun k => (Value.slice a ps.length c).ownBlock = some k) w w' := by
  rcases own.2 with ⟨h0, h1⟩ | ⟨g, cap, cur, hv, hbs, hg, h1, h2, h3, h4⟩
  · have hps : ps = [] := List.eq_nil_of_length_eq_zero h1
    subst hps
    have hS := AnyF.slices_SortFunc_none (P := Tryz.prog) (ρ := Tryz.sortP_ren) { Tryz.sortP with } a c (.func (.func 72) #[] #[]) w
    change Calls Tryz.prog 71 _ _ _ at hS
    refine hS.mono ?_
    rintro e w' ⟨rfl, rfl⟩
    exact ⟨rfl, by rw [List.mergeSort_nil]; exact own, But.refl _ _⟩
  · injection hv with e1 e2 e3
    subst e1 e3
    have hl' := own_lt own
    have eg : ∀ args w, (callFunc 72 args).run Tryz.prog w = .ok (.enter 72 args) w := enters_of Tryz.func72 (by kernel_rfl) rfl
    have hS := AnyQ.slices_SortFunc_total Tryz.sortP 2 Tryz.isAgg116 Tryz.sizeOf116 prL (fun _ => rfl) pr_one cfP swoP 72 #[] g 0 c ps.toArray w eg
      (fun _ _ _ _ x y => Cmp_calls x y _) (holdsK_of_own prL_len own rfl) hl'.2.1 (by rw [List.size_toArray]; omega) totP
    change Calls Tryz.prog 71 _ _ _ at hS
    rw [List.size_toArray] at hS
    refine hS.mono ?_
    rintro e w' ⟨rfl, m, os, rfl⟩
    obtain ⟨q1, q2⟩ := own_sorted prL_len own rfl (ps.mergeSort fun x y => !ltOf cfP y x) (List.length_mergeSort _) m os
    exact ⟨rfl, q1, q2.mono (fun k _ hk => by rw [hk]; rfl)⟩
set_option maxRecDepth 100000 in
set_option maxHeartbeats 2000000 in
theorem Pairs_calls (l : List (Nat × Nat)) (base c : Nat) (A : Option Addr) (w : World) (hok : ∀ s ∈ l, okSpan s) (hl : w.ownsRow base 53 2 (.slice A l.length c) l.length (l.flatMap spL)) (hn : l.length ≤ 1000) :
    Calls Tryz.prog 53 #[.slice A l.length c] w (PairsV (pairsR l) w) := by
  have hV := visit_calls (pair_CB w.heap.size) (enters_of Tryz.func70 (by kernel_rfl) rfl) l base c A (w.alloc (.cells #[.slice none 0 0] 114)) (pset w.heap.size none) ⟨⟨none, pair_start w, fun k => Iff.rfl⟩, fun p hp => by cases hp⟩ (hl.alloc _) hn
  have HV := hide hV
  have hpl : (visitL l).length = l.length := visitL_length l
  have hps := pairs_sorted hok
  have hpp := (pairs_perm hok).length_eq
  generalize pairsR l = PR at *
  generalize visitL l = V at *
  have HNL : Hid (V.length ≤ 1000) := hide (by omega)
  have HPS := hide hps
  have HPP := hide hpp
  have hmf : ∀ (fn : Fn) (first cap : Array Value) (w : World), (Instr.makeFunc fn first cap).run Tryz.prog w = .ok (.func fn first cap) w := fun _ _ _ _ => rfl
  generalize l.length = n at *
  clear hV hl hn hpl hok hps hpp
  go_enter Tryz.func53, Tryz.ntmps53
  go_wp2_with (first
    | (go_at_call 33; refine HV.out.mono ?_; rintro e w1 ⟨rfl, S, ⟨⟨R1, ⟨a1, c1, hg1, own1, hob1⟩, h2⟩, h3⟩, hb1, h4⟩; have HB1 := hide hb1; have HBL := hide hg1; have HS1 := hide (fun k hk => h4 k ((h2 k).2 hk)); have HOB := hide hob1; have o0 : w1.cell? ⟨w.heap.size, 0, none⟩ = some (.slice a1 (pairsV V).length c1) := hg1.cell 0; have HSO := hide (Sort_calls _ (pairsV V) a1 c1 w1 own1 (by have := pairsV_len V h3; have := HNL.out; omega)); clear hg1 own1 hob1 h2 h3 hb1 h4)
    | (go_at_call 71; refine HSO.out.mono ?_; rintro e w2 ⟨rfl, own2, hb2⟩; have HO2 := hide own2; have HB2 := hide hb2; have hne : (Value.slice a1 (pairsV V).length c1).ownBlock ≠ some w.heap.size := (fun e => by have h5 := own_block own2 _ e; omega); have o1 : w2.cell? ⟨w.heap.size, 0, none⟩ = some (.slice a1 (pairsV V).length c1) := (hb2.blk HBL.out hne).cell 0; have HNE := hide hne; clear own2 hb2 hne))
  go_ret
  have hb : Below w.heap.size w w1 := ((Below.refl _ w).alloc (Nat.le_refl _) _).trans (HB1.out.below (by simp) (fun k hk h => by
    rcases h with h | h
    · omega
    · cases h))
  have e1 := HO2.out
  rw [HPS.out] at e1
  refine ⟨a1, c1, by rw [← HPP.out]; rfl, own_base (by rw [← HPP.out]; exact e1) (by omega), hb.trans (HB2.out.below hb.size (fun k hk h => ?_))⟩
  have := own_block HO2.out _ h
  omega
end Go.Proofs.YthccadabblkalaaGreat
