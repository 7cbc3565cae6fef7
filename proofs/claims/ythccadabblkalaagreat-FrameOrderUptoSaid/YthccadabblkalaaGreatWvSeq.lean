/- slices.Values at windows, AppendSeq and Collect: an iterator over a slice that lay before. -/
import Derived.Test.YthccadabblkalaaGreatFrWins
import Derived.Test.YthccadabblkalaaGreatRf
import Derived.Test.YthccadabblkalaaGreatSortK
import Derived.Test.YthccadabblkalaaGreatShelf
import Derived.Handy
import Derived.StillTactics
import Derived.RangeFuncNested
import Derived.RangeFuncBound
import Derived.Shelf.Abstract
import Derived.Shelf.RegionOpen
import Derived.OwnWalkIn
import Derived.TacticsInMore
import Derived.LoopNIn
import Derived.LoopIn
import Derived.Maps.OwnIn
namespace Go.Proofs.YthccadabblkalaaGreat
open Go.RowKit Go.Sort Go.Shelf
attribute [local go_sem] Oper.semAt_some
set_option linter.unusedVariables false

instance : Inhabited WinR := ⟨⟨0, 0, 0⟩⟩
def encsV (x : WinR) : Array Value := #[.agg #[.int .u64 (x.st : Int), .int .u64 (x.len : Int), .int .u16 (x.part : Int)]]
/-- What the iterator needs. -/
structure VaEnv (n0 B : Nat) (r : Row WinR) (w : World) : Prop where
  lt : B < n0
  row : RowAt winL 3 n0 r w
  box : Blk w B 24 #[.slice r.a r.l.length r.c]
theorem VaEnv.but {M : Nat → Prop} {n0 B : Nat} {r : Row WinR} {w w' : World} (h : VaEnv n0 B r w) (hb : But M w w') (hn : n0 ≤ w.heap.size) (hM : ∀ i, M i → n0 ≤ i) : VaEnv n0 B r w' :=
  ⟨h.lt, h.row.below (hb.below hn (fun k hk hm => by have := hM k hm; omega)), hb.blk h.box (fun hm => by have := hM _ hm; have := h.lt; omega)⟩
theorem take_pre {α : Type} (l : List α) (k : Nat) : l.take k <+: l := List.take_prefix k l
set_option maxRecDepth 100000 in
set_option maxHeartbeats 4000000 in
theorem va_seq (n0 B : Nat) (r : Row WinR) (w : World) (h : VaEnv n0 B r w) (hn0 : n0 ≤ w.heap.size) (hsm : r.l.length ≤ 1048576) :
    SeqM Tryz.prog 38 #[.pointer (some ⟨B, 0, none⟩)] encsV (fun _ => False) 0 n0 (fun xs => xs = r.l) (fun pre => pre <+: r.l) r.l.length w := by
  intro l R J Jx W hW hR hJ hJx hY h0
  have hE : VaEnv n0 B r W := h.but (But.of_below (M := fun _ => False) hW) hn0 (fun i hi => hi.elim)
  have hR2 : ∀ i, R i → n0 ≤ i := fun i hi => (hR i hi).1
  have hnW : n0 ≤ W.heap.size := Nat.le_trans hn0 hW.size
  have HENV := hide (fun wr (hb : But R W wr) => hE.but hb hnW hR2)
  have hcap := hE.row.2
  obtain ⟨n, hn⟩ : ∃ n, n = r.l.length := ⟨_, rfl⟩
  obtain ⟨wa, hwa⟩ : ∃ a, a = r.a := ⟨_, rfl⟩
  have hnI : (n : Int) ≤ 1048576 := by omega
  have hcI : (n : Int) ≤ (r.c : Int) := by omega
  have HN := hide hn
  have HWA := hide hwa
  have HBC := hide (fun W (hW : VaEnv n0 B r W) => (hW.box.cell 0 : W.cell? ⟨B, 0, none⟩ = some (.slice r.a r.l.length r.c)))
  rw [← hn, ← hwa] at HBC
  have HY := hide hY
  have HJ := hide hJ
  have H0 := hide h0
  have hb2 := HBC.out W hE
  refine callsIn_wide (n := 3) |>.1 (callsIn_of_wp Tryz.func38 rfl trivial ?_ rfl)
  clear h hn0 hsm hW hR hJ hJx hY h0 hE hR2 hnW hcap hn hwa
  simp only [Tryz.ntmps38, List.size_toArray, List.length_cons, List.length_nil, Nat.reduceAdd, Nat.reduceSub, Array.replicate_succ, Array.replicate_zero, List.push_toArray, List.append_toArray, List.nil_append, List.cons_append]
  gi_wp2
  gi_loopw [7] (fun v wr => ∃ k : Nat, k ≤ n ∧ v = .int .i64 (k : Int) ∧ Hid (J (r.l.take k) wr ∧ But R W wr)) (fun v _ => n - (intOf v).toNat)
  case atStart => exact ⟨0, Nat.zero_le _, rfl, hide ⟨H0.out, But.refl _ _⟩⟩
  case round =>
    obtain ⟨k, hk, rfl, hrel⟩ := hrel
    have hE := HENV.out wr hrel.out.2
    by_cases hlt : k < n
    · have hlt2 : (k : Int) < (n : Int) := by omega
      have hkl : k < r.l.length := by have := HN.out; omega
      obtain ⟨b, o, ha, hab, x0, x1, x2⟩ := win_at hE.row k hkl
      obtain rfl : wa = some ⟨b, o, none⟩ := HWA.out.trans ha
      have hbz : b < wr.heap.size := cell_lt x0
      have HJ1 : Hid (J (r.l.take k) (wr.alloc (.cells (winC r.l[k]) 36)) ∧ But R W (wr.alloc (.cells (winC r.l[k]) 36))) := hide ⟨HJ.out _ _ _ hrel.out.1 ((But.refl _ wr).alloc _), hrel.out.2.alloc _⟩
      have htk : r.l.take (k + 1) = r.l.take k ++ [r.l[k]] := List.take_succ_eq_append_getElem hkl
      have hlen : (r.l.take k).length < r.l.length := by rw [List.length_take]; omega
      obtain ⟨fn, tmps, assign, body, hy, hRd⟩ := HY.out 2 (r.l.take k) r.l[k] _ HJ1.out.1 (by have := HJ1.out.2.size; omega) hlen
      rw [← htk] at hRd
      have HRD := hide hRd
      have HPRE := hide (take_pre r.l (k + 1))
      unfold winC at hy HRD HJ1
      dsimp only [encsV] at hy
      generalize r.l[k] = x at *
      clear hlen hRd hrel hE ha hab htk
      gi_wp2
      refine HRD.out.mono ?_
      rintro e W' (⟨rfl, hJ', hbut⟩ | ⟨rfl, hJx', hbut⟩)
      · have HJ2 : Hid (J (r.l.take (k + 1)) W' ∧ But R W W') := hide ⟨hJ', HJ1.out.2.trans hbut⟩
        clear hJ' hbut
        gi_wp2
        go_roundw
        case rel => exact ⟨k + 1, by omega, by go_num, HJ2⟩
        case measure => simp [intOf]; omega
      · gi_wp2
        refine bodyPost_ret (results_none rfl _ _ _) rfl ?_
        exact ⟨⟨_, rfl⟩, .inr ⟨_, HPRE.out, hJx'⟩⟩
    · have hkn : k = n := by omega
      subst hkn
      have HF : Hid (J r.l wr) := hide (by have := hrel.out.1; rwa [List.take_of_length_le (by rw [HN.out]; exact Nat.le_refl _)] at this)
      clear hlt hk hrel hE
      gi_wp2
      go_end0
      exact ⟨⟨_, rfl⟩, .inl ⟨_, rfl, HF.out⟩⟩
/-- The row that AppendSeq grows. -/
def ApI (w : World) (pre : List WinR) (W : World) : Prop :=
  ∃ a c, Blk W w.heap.size 24 #[.slice a pre.length c] ∧ W.ownsRow w.heap.size 36 3 (.slice a pre.length c) pre.length (pre.flatMap winL) ∧ (∀ r, (Value.slice a pre.length c).ownBlock = some r → w.heap.size + 3 ≤ r) ∧ Below w.heap.size w W
theorem zip1 (p : Tmp) (a : Value) (T : Array Value) : ((#[p] : Array Tmp).zip #[a]).foldl (fun t (x : Tmp × Value) => t.setIfInBounds x.1 x.2) T = T.setIfInBounds p a := by simp
theorem ApI.but {M : Nat → Prop} {w W W' : World} {pre : List WinR} (h : ApI w pre W) (hb : But M W W') (hM : ∀ i, M i → w.heap.size < i ∧ i < w.heap.size + 3) : ApI w pre W' := by
  obtain ⟨a, c, h1, h2, h3, h4⟩ := h
  exact ⟨a, c, hb.blk h1 (fun hm => by have := hM _ hm; omega), own_but h2 hb (fun k hk hm => by have := hM _ hm; have := h3 k hk; omega), h3, h4.trans (hb.below h4.size (fun k hk hm => by have := hM _ hm; omega))⟩
set_option maxRecDepth 100000 in
set_option maxHeartbeats 4000000 in
theorem appendSeq_calls (gf : Nat) (lb : Array Value) (eg : ∀ args w, (callFunc gf args).run Tryz.prog w = .ok (.enter gf args) w) (l : List WinR) (n0 : Nat) (w : World)
    (hseq : SeqM Tryz.prog gf lb encsV (fun _ => False) 0 n0 (fun xs => xs = l) (fun pre => pre <+: l) l.length w) (hn0 : n0 ≤ w.heap.size) (hl : l.length ≤ 1048576) :
    Calls Tryz.prog 64 #[.slice none 0 0, .func (.func gf) #[] lb] w (WinsV l w) := by
  have HSEQ := hide hseq
  obtain ⟨i0, hi, hz0, hz1, hz2⟩ := info_parts win_info3
  have HII := hide hi
  clear hseq hi
  refine callsIn_wide (n := 3) |>.1 (callsIn_of_wp_marks Tryz.func64 rfl trivial ?_ rfl)
  simp only [Tryz.ntmps64, List.size_toArray, List.length_cons, List.length_nil, Nat.reduceAdd, Nat.reduceSub, Array.replicate_succ, Array.replicate_zero, List.push_toArray, List.append_toArray, List.nil_append, List.cons_append]
  have hsz : (w.alloc (.cells #[.slice none 0 0] 24)).heap.size = w.heap.size + 1 := by simp
  have h0 : ApI w [] (w.alloc (.cells #[.slice none 0 0] 24)) := ⟨none, 0, Blk.new w _ _, World.ownsRow_nil _ _ _ _, (fun r hr => by cases hr), (Below.refl _ w).alloc (Nat.le_refl _) _⟩
  have hb0 : Below w.heap.size w (w.alloc (.cells #[.slice none 0 0] 24)) := (Below.refl _ w).alloc (Nat.le_refl _) _
  have H0 := hide h0
  have HB0 := hide hb0
  have HSZ := hide hsz
  clear h0 hb0 hsz
  gi_wp2
  generalize w.alloc (.cells #[.slice none 0 0] 24) = W0 at *
  refine wp_range_own (gf := gf) (lb := lb) rfl eg HSEQ.out HB0.out (fun _ => rfl)
    (fun i hi => hi.elim) (by rw [HSZ.out]; omega)
    (fun i => i = w.heap.size ∨ w.heap.size + 3 ≤ i) (by rintro i (rfl | hi) <;> rw [HSZ.out] <;> refine ⟨by omega, fun h => h.elim, by omega⟩)
    (fun pre W => ApI w pre W) (fun _ _ _ => False)
    (fun s A B hs hb => hs.but hb (by rintro i (hi | hi); exact hi.elim; rw [HSZ.out] at hi; omega)) (fun _ _ _ _ hs _ => hs) H0.out
    (fun x a' W => ∃ g, w.heap.size + 3 ≤ g ∧ Blk W g 36 (winC x) ∧ a' = { tmps := #[.slice none 0 0, .func (.func gf) #[] lb, .pointer (some ⟨w.heap.size, 0, none⟩), undef, .slice none 0 0, .pointer (some ⟨g, 0, none⟩), .func (.func gf) #[] lb, .agg (winC x), undef, undef, undef, undef, undef], defers := [] })
    (fun x a' A B ⟨g, h1, h2, h3⟩ hb => ⟨g, h1, hb.blk h2 (by rintro (hi | hi); exact hi.elim; rw [HSZ.out] at hi; omega), h3⟩)
    ?assign ?body ?done ?stop
  case assign =>
    intro l pre x W hi hsz K hK
    rw [HSZ.out] at hsz
    simp only [encsV, zip1, List.setIfInBounds_toArray, List.set_cons_succ, List.set_cons_zero]
    gi_wp2
    exact hK _ _ ⟨W.heap.size, by omega, Blk.new W _ _, rfl⟩ ((But.refl _ W).alloc _) (hi.but ((But.refl (fun _ => False) W).alloc _) (fun i h => h.elim))
  case body =>
    rintro l pre x a' W hi ⟨g, hg, hblk, rfl⟩ hsz hlen
    obtain ⟨a, c, h1, h2, h3, h4⟩ := hi
    have b0 : W.cell? ⟨w.heap.size, 0, none⟩ = some (.slice a pre.length c) := h1.cell 0
    have b1 : W.frozen? ⟨w.heap.size, 0, none⟩ = false := h1.frozen 0
    have x0 : W.cell? ⟨g, 0, none⟩ = some (.int .u64 (x.st : Int)) := hblk.cell 0
    have x1 : W.cell? ⟨g, 1, none⟩ = some (.int .u64 (x.len : Int)) := hblk.cell 1
    have x2 : W.cell? ⟨g, 2, none⟩ = some (.int .u16 (x.part : Int)) := hblk.cell 2
    have hz3 : w.heap.size < W.heap.size := h1.lt
    have hgz : g < W.heap.size := hblk.lt
    rw [HSZ.out] at hsz
    have HB1 := hide h1
    have HO := hide h2
    have HOB := hide h3
    have HBW := hide h4
    have HC := hide (fun W g hg => wn_cells_at W x 36 g hg)
    have H1 := hide (wn_one x)
    have hfl : (pre ++ [x]).flatMap winL = pre.flatMap winL ++ winL x := by rw [List.flatMap_append]; simp
    have HFL := hide hfl
    have hlL : (pre ++ [x]).length = pre.length + 1 := by simp
    have HLL := hide hlL
    have hnI : (pre.length : Int) ≤ 1048576 := by omega
    have HNL : Hid (pre.length ≤ 1048576) := hide (by omega)
    unfold winC
    clear h1 h2 h3 h4 hblk hfl hlL hlen
    gi_wp2_with (gi_at_builtin; refine wpListIn_append_own_at _ rfl (.tmp 8) (.tmp 10) 24 rfl w.heap.size 36 i0 _ 3 24 Tryz.underlying24 HII.out hz0 hz1 hz2 rfl (by decide) (.slice a pre.length c) pre.length (pre.flatMap winL) rfl (HO.out.alloc _) ⟨W.heap.size, 0, none⟩ 1 1 (winL x) rfl rfl (HC.out _ _ rfl) H1.out (by simp only [maxLen]; omega) (by omega) (by simp; omega) ?_; intro v' w4 hown' hgr hnl hat; obtain ⟨a4, k4, rfl⟩ := own_slice hown'; have HO4 := hide hown'; have HG4 := hide hgr; have HAT := hide hat; have HB4 := hide (Blk.grown (HB1.out.alloc _) hgr (fun e => by have := HOB.out _ e.symm; omega)); have y1 : w4.frozen? ⟨w.heap.size, 0, none⟩ = false := HB4.out.frozen 0; have y0 : w4.cell? ⟨w.heap.size, 0, none⟩ = some (.slice a pre.length c) := HB4.out.cell 0; clear hown' hgr hnl hat)
    have hob : ∀ r, (Value.slice a4 (pre.length + 1) k4).ownBlock = some r → w.heap.size + 3 ≤ r := fun r hr => by
      rcases HAT.out with h | h
      · exact HOB.out r (by rw [← h]; exact hr)
      · rw [h] at hr; injection hr with hr; simp at hr; omega
    have hbut := ((But.refl (fun i => i = w.heap.size ∨ w.heap.size + 3 ≤ i) W).alloc (.cells #[.int .u64 (x.st : Int), .int .u64 (x.len : Int), .int .u16 (x.part : Int)] 36)).grown HG4.out (fun r hr => .inl (.inr (HOB.out r hr)))
    refine ⟨hbut.setCell (p := ⟨w.heap.size, 0, none⟩) (.inl (.inl rfl)) _, a4, k4, ?_, ?_, ?_, ?_⟩
    · have := HB4.out.set_ 0 (.slice a4 (pre.length + 1) k4)
      rw [HLL.out]
      simpa using this
    · rw [HLL.out, HFL.out]
      exact own_but HO4.out (((But.refl (fun k => k = w.heap.size) w4).setCell (p := ⟨w.heap.size, 0, none⟩) (.inl rfl) _)) (fun k hk e => by have := hob k hk; omega)
    · rw [HLL.out]; exact hob
    · exact HBW.out.trans ((hbut.setCell (p := ⟨w.heap.size, 0, none⟩) (.inl (.inl rfl)) _).below HBW.out.size (fun k hk hm => by omega))
  case done =>
    rintro D xs W hD hD2 rfl hi hK
    obtain ⟨a, c, h1, h2, h3, h4⟩ := hi
    have b0 : W.cell? ⟨w.heap.size, 0, none⟩ = some (.slice a xs.length c) := h1.cell 0
    rw [HSZ.out] at hD hD2
    gi_wp2
    refine ⟨by simp, .inl ⟨_, _, rfl, run_takeDeferred hK, ?_⟩⟩
    refine ⟨_, results_tmp rfl _ _ _, a, c, rfl, ?_⟩
    exact ⟨own_but h2 ((But.refl (fun k => k = D) W).putObj _ (.inl rfl)) (fun k hk e => by have := h3 k hk; omega), h4.trans (((But.refl (fun k => k = D) W).putObj _ (.inl rfl)).below h4.size (fun k hk hm => by omega))⟩
  case stop =>
    rintro D c pre W _ _ _ h _
    exact h.elim
set_option maxHeartbeats 1000000 in
theorem Values_calls (a : Option Addr) (n c : Nat) (w : World) :
    Calls Tryz.prog 22 #[.slice a n c] w fun e w' => e = .returned (.func (.func 38) #[] #[.pointer (some ⟨w.heap.size, 0, none⟩)]) ∧ w' = w.alloc (.cells #[.slice a n c] 24) := by
  go_enter Tryz.func22, Tryz.ntmps22
  go_wp2
  go_ret
  exact ⟨rfl, rfl⟩
set_option maxHeartbeats 1000000 in
theorem Collect_calls (gf : Nat) (lb : Array Value) (eg : ∀ args w, (callFunc gf args).run Tryz.prog w = .ok (.enter gf args) w) (l : List WinR) (n0 : Nat) (w : World)
    (hseq : SeqM Tryz.prog gf lb encsV (fun _ => False) 0 n0 (fun xs => xs = l) (fun pre => pre <+: l) l.length w) (hn0 : n0 ≤ w.heap.size) (hl : l.length ≤ 1048576) :
    Calls Tryz.prog 36 #[.func (.func gf) #[] lb] w (WinsV l w) := by
  have HS := hide (appendSeq_calls gf lb eg l n0 w hseq hn0 hl)
  clear hseq hn0 hl
  go_enter Tryz.func36, Tryz.ntmps36
  go_wp2_with (go_at_call 64; refine HS.out.mono ?_; rintro e w1 ⟨a, c, rfl, ho, hb⟩; have HO := hide ho; have HB := hide hb; clear ho hb)
  go_ret
  exact ⟨a, c, rfl, HO.out, HB.out⟩
end Go.Proofs.YthccadabblkalaaGreat
