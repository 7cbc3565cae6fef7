/- slices.SortFunc at windows by their Start; SortedFunc over Values. -/
import Derived.Test.YthccadabblkalaaGreatWvSeq
import Derived.Test.YthccadabblkalaaGreatSwHeap
import Derived.Deep.QuietTactic
import Derived.BigQuiet
namespace Go.Proofs.YthccadabblkalaaGreat
open Go.RowKit Go.Sort Go.Shelf
set_option linter.unusedVariables false

set_option maxHeartbeats 1000000 in
theorem NaN_calls (a : Nat) (w : World) : Calls Tryz.prog 39 #[.int .u64 (a : Int)] w fun e w' => e = .returned (.bool false) ∧ w = w' := by
  have e0 : ((a : Int) != (a : Int)) = false := by simp
  go_enter Tryz.func39, Tryz.ntmps39
  go_wp2
  go_ret
  exact ⟨rfl, rfl⟩
set_option maxHeartbeats 1000000 in
theorem Cmp64_calls (a b : Nat) (w : World) : Calls Tryz.prog 24 #[.int .u64 (a : Int), .int .u64 (b : Int)] w fun e w' => e = .returned (.int .i64 (Lib.compareInt (a : Int) (b : Int))) ∧ w' = w := by
  have HN := hide (fun a W => NaN_calls a W)
  unfold Lib.compareInt
  by_cases h1 : (a : Int) < (b : Int)
  · rw [if_pos h1]
    go_enter Tryz.func24, Tryz.ntmps24
    go_wp2_with (go_at_call 39; refine (HN.out _ _).mono ?_; rintro e w1 ⟨rfl, rfl⟩)
    go_ret
    exact ⟨rfl, rfl⟩
  · rw [if_neg h1]
    by_cases h2 : (b : Int) < (a : Int)
    · rw [if_pos h2]
      go_enter Tryz.func24, Tryz.ntmps24
      go_wp2_with (go_at_call 39; refine (HN.out _ _).mono ?_; rintro e w1 ⟨rfl, rfl⟩)
      go_ret
      exact ⟨rfl, rfl⟩
    · rw [if_neg h2]
      go_enter Tryz.func24, Tryz.ntmps24
      go_wp2_with (go_at_call 39; refine (HN.out _ _).mono ?_; rintro e w1 ⟨rfl, rfl⟩)
      go_ret
      exact ⟨rfl, rfl⟩
def cfW (x y : WinR) : Int := Lib.compareInt (x.st : Int) (y.st : Int)
theorem ltW (x y : WinR) : ltOf cfW x y = decide (x.st < y.st) := by
  unfold ltOf cfW Lib.compareInt
  rw [Bool.eq_iff_iff]
  simp only [decide_eq_true_eq]
  by_cases h1 : (x.st : Int) < y.st
  · simp [h1]; omega
  · by_cases h2 : (y.st : Int) < x.st <;> simp [h1, h2] <;> omega
theorem swoW : SWO (ltOf cfW) where
  irrefl x := by rw [ltW]; simp
  trans x y z h1 h2 := by rw [ltW] at *; simp at *; omega
  ntrans x y z h1 h2 := by rw [ltW] at *; simp at *; omega
set_option maxRecDepth 100000 in
set_option maxHeartbeats 2000000 in
theorem CmpW_calls (x y : WinR) (w : World) : Calls Tryz.prog 23 #[.agg (winL x).toArray, .agg (winL y).toArray] w fun e w' => e = .returned (.int .i64 (cfW x y)) ∧ ∃ q os', w' = grow (w.drewN q) os' := by
  obtain ⟨x1, x2, x3⟩ := x
  obtain ⟨y1, y2, y3⟩ := y
  have hC := fun W => Cmp64_calls x1 y1 W
  show Calls Tryz.prog 23 #[.agg #[.int .u64 (x1 : Int), .int .u64 (x2 : Int), .int .u16 (x3 : Int)], .agg #[.int .u64 (y1 : Int), .int .u64 (y2 : Int), .int .u16 (y3 : Int)]] w fun e w' => e = .returned (.int .i64 (Lib.compareInt (x1 : Int) (y1 : Int))) ∧ ∃ q os', w' = grow (w.drewN q) os'
  generalize Lib.compareInt (x1 : Int) (y1 : Int) = r1 at *
  have HC := hide hC
  have HG := hide (((Gr.refl w).alloc (.cells #[.int .u64 (x1 : Int), .int .u64 (x2 : Int), .int .u16 (x3 : Int)] 36)).alloc (.cells #[.int .u64 (y1 : Int), .int .u64 (y2 : Int), .int .u16 (y3 : Int)] 36))
  clear hC
  go_enter Tryz.func23, Tryz.ntmps23
  go_wp2_with (go_at_call 24; refine (HC.out _).mono ?_; rintro e w1 ⟨rfl, rfl⟩)
  go_ret
  exact ⟨rfl, HG.out⟩
theorem permIn_all {α : Type} [Inhabited α] {d d' : Array α} (h : PermIn 0 d.size d d') : d'.toList.Perm d.toList := by
  have h1 := h.2.2
  have e1 : d.extract 0 d.size = d := by simp
  have e2 : d'.extract 0 d.size = d' := by rw [← h.1]; simp
  rwa [e1, e2] at h1
theorem sorted_asc {l : List WinR} (h : SortedIn (ltOf cfW) 0 l.length l.toArray) : AscW l := by
  unfold AscW
  rw [List.pairwise_iff_getElem]
  intro i j hi hj hij
  have := h i j (Nat.zero_le _) hij hj
  rw [getElem!_pos _ _ (by simpa using hj), getElem!_pos _ _ (by simpa using hi), ltW] at this
  simpa using this
theorem SortW_calls (B : Nat) (ps : List WinR) (a : Option Addr) (c : Nat) (w : World) (own : w.ownsRow B 36 3 (.slice a ps.length c) ps.length (ps.flatMap winL)) (hl : ps.length ≤ 1000000000) :
    Calls Tryz.prog 37 #[.slice a ps.length c, .func (.func 23) #[] #[]] w fun e w' => e = .returned (.tuple #[]) ∧
      ∃ out : List WinR, out.Perm ps ∧ AscW out ∧ w'.ownsRow B 36 3 (.slice a ps.length c) ps.length (out.flatMap winL) ∧ But (fun k => (Value.slice a ps.length c).ownBlock = some k) w w' := by
  rcases own.2 with ⟨h0, h1⟩ | ⟨g, cap, cur, hv, hbs, hg, h1, h2, h3, h4⟩
  · have hps : ps = [] := List.eq_nil_of_length_eq_zero h1
    subst hps
    have hS := AnyF.slices_SortFunc_none (P := Tryz.prog) (ρ := Tryz.sortW_ren) { Tryz.sortW with } a c (.func (.func 23) #[] #[]) w
    change Calls Tryz.prog 37 _ _ _ at hS
    refine hS.mono ?_
    rintro e w' ⟨rfl, rfl⟩
    exact ⟨rfl, [], List.Perm.refl _, List.Pairwise.nil, own, But.refl _ _⟩
  · injection hv with e1 e2 e3
    subst e1 e3
    have hl' := own_lt own
    have eg : ∀ args w, (callFunc 23 args).run Tryz.prog w = .ok (.enter 23 args) w := enters_of Tryz.func23 (by kernel_rfl) rfl
    have hS := AnyQ.slices_SortFunc Tryz.sortW 3 Tryz.isAgg36 Tryz.sizeOf36 winL winL_len wn_one cfW swoW 23 #[] g 0 c ps.toArray w eg
      (fun _ _ _ _ x y => CmpW_calls x y _) (holdsK_of_own winL_len own rfl) hl'.2.1 (by rw [List.size_toArray]; omega)
    change Calls Tryz.prog 37 _ _ _ at hS
    rw [List.size_toArray] at hS
    refine hS.mono ?_
    rintro e w' ⟨rfl, d', m, os, hp, hso, rfl⟩
    have hp2 := permIn_all (d := ps.toArray) (by rw [List.size_toArray]; exact hp)
    have hlen : d'.toList.length = ps.length := by rw [hp2.length_eq]
    obtain ⟨q1, q2⟩ := own_sorted winL_len own rfl d'.toList hlen m os
    rw [Array.toArray_toList] at q1 q2
    exact ⟨rfl, d'.toList, hp2, sorted_asc (by rw [hlen, Array.toArray_toList]; exact hso), q1, q2.mono (fun k _ hk => by rw [hk]; rfl)⟩
/-- The windows in the order of their Start. -/
def ByStart (r : Row WinR) (w : World) (e : Ending) (w' : World) : Prop := ∃ out : List WinR, out.Perm r.l ∧ AscW out ∧ WinsV out w e w'
set_option maxHeartbeats 2000000 in
theorem SortedF_calls (r : Row WinR) (B n0 : Nat) (w : World) (h : VaEnv n0 B r w) (hn0 : n0 ≤ w.heap.size) (hl : r.l.length ≤ 1048576) :
    Calls Tryz.prog 21 #[.func (.func 38) #[] #[.pointer (some ⟨B, 0, none⟩)], .func (.func 23) #[] #[]] w (ByStart r w) := by
  have HC := hide (Collect_calls 38 #[.pointer (some ⟨B, 0, none⟩)] (enters_of Tryz.func38 (by kernel_rfl) rfl) r.l n0 w (va_seq n0 B r w h hn0 hl) hn0 hl)
  obtain ⟨n, hn⟩ : ∃ n, n = r.l.length := ⟨_, rfl⟩
  have HN := hide hn
  have HL : Hid (r.l.length ≤ 1000000000) := hide (by omega)
  clear h hn0 hl hn
  go_enter Tryz.func21, Tryz.ntmps21
  go_wp2_with (first
    | (go_at_call 36; refine HC.out.mono ?_; rintro e w1 ⟨a, c, rfl, ho, hb⟩; have HS := hide (SortW_calls _ _ _ _ _ ho HL.out); have HB := hide hb; have HO := hide ho; rw [← HN.out] at HS; try rw [← HN.out]; clear ho hb)
    | (go_at_call 37; refine HS.out.mono ?_; rintro e w2 ⟨rfl, out, hp, ha, ho, hb⟩; have HP := hide hp; have HA := hide ha; have HO2 := hide ho; have HB2 := hide hb; clear hp ha ho hb))
  go_ret
  have e1 : out.length = n := by rw [HP.out.length_eq, HN.out]
  refine ⟨out, HP.out, HA.out, a, c, by rw [e1]; rfl, by rw [e1]; exact HO2.out, HB.out.trans (HB2.out.below HB.out.size (fun k hk h => ?_))⟩
  have := own_block HO2.out _ h
  omega
theorem Values_env (r : Row WinR) (w : World) (h : RowAt winL 3 w.heap.size r w) :
    Calls Tryz.prog 22 #[.slice r.a r.l.length r.c] w fun e w' => ∃ B, e = .returned (.func (.func 38) #[] #[.pointer (some ⟨B, 0, none⟩)]) ∧ VaEnv w'.heap.size B r w' ∧ Below w.heap.size w w' := by
  refine (Values_calls r.a r.l.length r.c w).mono ?_
  rintro e w' ⟨rfl, rfl⟩
  have hb := (Below.refl w.heap.size w).alloc (Nat.le_refl _) (.cells #[.slice r.a r.l.length r.c] 24)
  exact ⟨w.heap.size, rfl, ⟨by simp, RowAt.more (h.below hb) hb.size, Blk.new w _ _⟩, hb⟩
end Go.Proofs.YthccadabblkalaaGreat
