/- The walk of lex.Next (chapter 06). -/
import Derived.Test.YtglkpncjmmeihaaDoorLxToks
import Derived.Test.YtglkpncjmmeihaaDoorLxPlace
namespace Go.Proofs.YtglkpncjmmeihaaDoor
open Go.RowKit Go.Lib

theorem placeAt_le (s : ByteArray) (k : Nat) (hk : k ≤ s.size) : (placeAt s k).1 ≤ k + 1 ∧ (placeAt s k).2 ≤ k + 1 := by
  have h := place_law s k hk
  have h1 : -1 ≤ Lib.lastIdx s 10 k := by
    rcases Lib.lastIdx_spec s 10 k with ⟨e, _⟩ | ⟨i, _, e, _⟩ <;> omega
  have h2 : (s.data.toList.take k).count 10 ≤ k := Nat.le_trans List.count_le_length (by rw [List.length_take]; omega)
  unfold placeAt
  omega
theorem blk_made {w2 : World} {g : Nat} {t : TypeId} {cs : Array Value} (T F : Array Value) (h : Blk w2 g t cs) (hg : g < w2.heap.size) :
    Blk ((((w2.alloc (.cells #[.int .i64 0, .string ⟨#[]⟩, .int .u64 0, .int .i64 0, .int .i64 0] 37)).alloc (.cells #[.int .i64 0, .int .i64 0, .int .i64 0] 26)).setRow w2.heap.size T).setRow (w2.heap.size + 1) F) g t cs :=
  row_far (row_far ((h.alloc _).alloc _) (by omega)) (by omega)
theorem below_made {w w2 : World} (T F : Array Value) (h : Below w.heap.size w w2) (hw : w.heap.size < w2.heap.size) :
    Below w.heap.size w ((((w2.alloc (.cells #[.int .i64 0, .string ⟨#[]⟩, .int .u64 0, .int .i64 0, .int .i64 0] 37)).alloc (.cells #[.int .i64 0, .int .i64 0, .int .i64 0] 26)).setRow w2.heap.size T).setRow (w2.heap.size + 1) F) := by
  have e1 := (h.alloc (by omega) (.cells #[.int .i64 0, .string ⟨#[]⟩, .int .u64 0, .int .i64 0, .int .i64 0] 37)).alloc (by simp; omega) (.cells #[.int .i64 0, .int .i64 0, .int .i64 0] 26)
  exact ⟨e1.os, e1.tape, e1.output, Nat.le_trans e1.size (by simp [World.setRow]), fun i hi => ((setRow_other _ _ i _ (by omega)).trans (setRow_other _ _ i _ (by omega))).trans (e1.block i hi)⟩
theorem tok_made (T F : Array Value) (w2 : World) : Blk ((((w2.alloc (.cells #[.int .i64 0, .string ⟨#[]⟩, .int .u64 0, .int .i64 0, .int .i64 0] 37)).alloc (.cells #[.int .i64 0, .int .i64 0, .int .i64 0] 26)).setRow w2.heap.size T).setRow (w2.heap.size + 1) F) w2.heap.size 37 T :=
  row_far (row_put ((Blk.new w2 _ _).alloc _)) (by omega)
theorem flt_made (T F : Array Value) (w2 : World) : Blk ((((w2.alloc (.cells #[.int .i64 0, .string ⟨#[]⟩, .int .u64 0, .int .i64 0, .int .i64 0] 37)).alloc (.cells #[.int .i64 0, .int .i64 0, .int .i64 0] 26)).setRow w2.heap.size T).setRow (w2.heap.size + 1) F) (w2.heap.size + 1) 26 F :=
  row_put (row_far (by have := Blk.new (w2.alloc (.cells #[.int .i64 0, .string ⟨#[]⟩, .int .u64 0, .int .i64 0, .int .i64 0] 37)) 26 #[.int .i64 0, .int .i64 0, .int .i64 0]; simpa using this) (by omega))
theorem res_ctc {fn : Func} {p u q : Tmp} {ty ty2 : TypeId} (h : fn.results = #[.cell p ty, .tmp u, .cell q ty2]) (tmps : Array Value) (w : World) (g g2 : Nat) (cs cs2 : Array Value)
    (hp : tmps.getD p undef = .pointer (some ⟨g, 0, none⟩)) (hl : (loadVar ty ⟨g, 0, none⟩).run Tryd.prog w = .ok (.agg cs) w)
    (hp2 : tmps.getD q undef = .pointer (some ⟨g2, 0, none⟩)) (hl2 : (loadVar ty2 ⟨g2, 0, none⟩).run Tryd.prog w = .ok (.agg cs2) w) :
    (results fn tmps).run Tryd.prog w = .ok (.tuple #[.agg cs, tmps.getD u undef, .agg cs2]) w := by
  have hp' : tmps[p]?.getD undef = .pointer (some ⟨g, 0, none⟩) := by simpa using hp
  have hp2' : tmps[q]?.getD undef = .pointer (some ⟨g2, 0, none⟩) := by simpa using hp2
  simp [results, h, hp', hp2', asAddr, hl, hl2]
/-- Behind Next. -/
def NextFnT (P : Nat × Nat) (T : Tk) (w : World) (e : Ending) (w' : World) : Prop :=
  Below w.heap.size w w' ∧
  match T with
  | .tok kind text v stop => e = .returned (.tuple #[.agg (tokC kind ⟨text.toArray⟩ v P.1 P.2), .int .i64 (stop : Int), .agg (faultC 0 0 0)])
  | .bad code => e = .returned (.tuple #[.agg (tokC 0 ⟨#[]⟩ 0 0 0), .int .i64 0, .agg (faultC code P.1 P.2)])

set_option maxHeartbeats 4000000 in
theorem NextFn_calls (s : ByteArray) (k : Nat) (hk : k ≤ s.size) (hs : s.size ≤ 100000000000000) (w : World) (hv : Vars w) :
    Calls Tryd.prog 14 #[.string s, .int .i64 (k : Int), .int .i64 ((placeAt s k).1 : Int), .int .i64 ((placeAt s k).2 : Int)] w (NextFnT (placeAt s (skipAt s k)) (tokAt s (skipAt s k)) w) := by
  have hpl := placeAt_le s k hk
  have hgl := hv.glow (X := w.heap.size + 2) (by omega)
  have hNN := fun W (hC : Cur W (w.heap.size + 2) (placeAt s k) s k) (hV : Vars W) => next_calls (w.heap.size + 2) W (placeAt s k) s k hC hV hgl
  obtain ⟨J, hJ⟩ : ∃ J, J = skipAt s k := ⟨_, rfl⟩
  have hkJ : k ≤ J := by rw [hJ]; exact skipAt_ge s k
  have hJs : J ≤ s.size := by rw [hJ]; exact skipAt_le s k hk
  rw [← hJ] at hNN ⊢
  rw [placeAt_join s k J hkJ] at hNN
  obtain ⟨PL, hPL⟩ : ∃ n, n = (placeAt s J).1 := ⟨_, rfl⟩
  obtain ⟨PC, hPC⟩ : ∃ n, n = (placeAt s J).2 := ⟨_, rfl⟩
  have hpj := fun stop (h : k ≤ stop) => placeAt_join s k stop h
  obtain ⟨pk, hpk⟩ : ∃ p, p = placeAt s k := ⟨_, rfl⟩
  rw [← hpk] at hNN hpl ⊢
  have hpj : ∀ stop, k ≤ stop → placeFrom pk (piece s k stop) = placeAt s stop := by rw [hpk]; exact hpj
  obtain ⟨K1, K2⟩ := pk
  obtain ⟨hp1, hp2⟩ := hpl
  have hp1 : K1 ≤ k + 1 := hp1
  have hp2 : K2 ≤ k + 1 := hp2
  have HC0 := hide (show Cur (((w.alloc (.cells #[.int .i64 0, .string ⟨#[]⟩, .int .u64 0, .int .i64 0, .int .i64 0] 37)).alloc (.cells #[.int .i64 0, .int .i64 0, .int .i64 0] 26)).alloc (.cells (curA (K1, K2) s k) 53)) (w.heap.size + 2) (K1, K2) s k from
    ⟨by have h0 := Blk.new ((w.alloc (.cells #[.int .i64 0, .string ⟨#[]⟩, .int .u64 0, .int .i64 0, .int .i64 0] 37)).alloc (.cells #[.int .i64 0, .int .i64 0, .int .i64 0] 26)) 53 (curA (K1, K2) s k); simpa using h0, hp1, hp2, hk, hs⟩)
  have HZ0 := hide (((Blk.new w 37 #[.int .i64 0, .string ⟨#[]⟩, .int .u64 0, .int .i64 0, .int .i64 0]).alloc (.cells #[.int .i64 0, .int .i64 0, .int .i64 0] 26)).alloc (.cells (curA (K1, K2) s k) 53))
  have HZ1 := hide (show Blk (((w.alloc (.cells #[.int .i64 0, .string ⟨#[]⟩, .int .u64 0, .int .i64 0, .int .i64 0] 37)).alloc (.cells #[.int .i64 0, .int .i64 0, .int .i64 0] 26)).alloc (.cells (curA (K1, K2) s k) 53)) (w.heap.size + 1) 26 #[.int .i64 0, .int .i64 0, .int .i64 0] from by
    have h0 := (Blk.new (w.alloc (.cells #[.int .i64 0, .string ⟨#[]⟩, .int .u64 0, .int .i64 0, .int .i64 0] 37)) 26 #[.int .i64 0, .int .i64 0, .int .i64 0]).alloc (.cells (curA (K1, K2) s k) 53); simpa using h0)
  have HB00 := hide ((((Below.refl _ w).alloc (Nat.le_refl _) (.cells #[.int .i64 0, .string ⟨#[]⟩, .int .u64 0, .int .i64 0, .int .i64 0] 37)).alloc (by simp) (.cells #[.int .i64 0, .int .i64 0, .int .i64 0] 26)).alloc (by simp; omega) (.cells (curA (K1, K2) s k) 53))
  have HV := hide hv
  have gd := fun x y xs ys W => fault_guard x y xs ys W
  unfold NextFnT
  cases hT : tokAt s J with
  | bad code =>
      have hc0 := tokAt_code s J code hT
      have nq := fun W => fault_neq (code : Int) (PL : Int) (PC : Int) W
      have nb : (!((code : Int) == 0 && ((PL : Int) == 0 && (PC : Int) == 0))) = true := by
        have : ((code : Int) == 0) = false := by simp; omega
        rw [this]; rfl
      rw [nb] at nq
      rw [hT] at hNN
      unfold NextT at hNN
      simp only at hNN ⊢
      rw [← hPL, ← hPC] at hNN
      rw [← hPL, ← hPC]
      have HNN := hide hNN
      clear hNN hT hPL hPC nb hc0 hJ hpj hpk hv hgl
      go_enter Tryd.func14, Tryd.ntmps14
      go_wp2_with (first
        | (go_at_call 16; refine (HNN.out _ HC0.out (HV.out.below HB00.out)).mono ?_; rintro e w2 ⟨rfl, hO2⟩; have hs2 : w.heap.size + 2 < w2.heap.size := Nat.lt_of_lt_of_le HC0.out.lt hO2.size; have HB0 := hide (blk_made (tokC 0 ⟨#[]⟩ 0 0 0) (faultC code PL PC) (hO2.kept HZ0.out (by omega)) (by omega)); have HB1 := hide (blk_made (tokC 0 ⟨#[]⟩ 0 0 0) (faultC code PL PC) (hO2.kept HZ1.out (by omega)) (by omega)); have HBL := hide (below_made (tokC 0 ⟨#[]⟩ 0 0 0) (faultC code PL PC) (HB00.out.grown hO2 (by simp; omega) (fun r e => by injection e with e; omega)) (by omega)); have HT3 := hide (tok_made (tokC 0 ⟨#[]⟩ 0 0 0) (faultC code PL PC) w2); have HF3 := hide (flt_made (tokC 0 ⟨#[]⟩ 0 0 0) (faultC code PL PC) w2); clear hO2)
        | (refine wpList_store_row rfl 37 (.tmp 12) (.tmp 24) rfl w2.heap.size (tokC 0 ⟨#[]⟩ 0 0 0) rfl rfl 37 zTok ((Blk.new w2 _ _).alloc _) (tok_size _ rfl) rfl (tok_one _ _ _ _ _) ?_)
        | (refine wpList_store_row rfl 26 (.tmp 13) (.tmp 25) rfl (w2.heap.size + 1) (faultC code PL PC) rfl rfl 26 #[.int .i64 0, .int .i64 0, .int .i64 0] (row_far (by have := Blk.new (w2.alloc (.cells #[.int .i64 0, .string ⟨#[]⟩, .int .u64 0, .int .i64 0, .int .i64 0] 37)) 26 #[.int .i64 0, .int .i64 0, .int .i64 0]; simpa using this) (by omega)) (fault_size _ rfl) rfl (fault_one _ _ _) ?_; generalize (((w2.alloc (.cells #[.int .i64 0, .string ⟨#[]⟩, .int .u64 0, .int .i64 0, .int .i64 0] 37)).alloc (.cells #[.int .i64 0, .int .i64 0, .int .i64 0] 26)).setRow w2.heap.size (tokC 0 ⟨#[]⟩ 0 0 0)).setRow (w2.heap.size + 1) (faultC code PL PC) = w3 at *; generalize w2.heap.size = g6 at *)
        | (refine wpList_load_row rfl 26 (.tmp 13) rfl (g6 + 1) rfl 26 #[.int .i64 (code : Int), .int .i64 (PL : Int), .int .i64 (PC : Int)] (0, 0) _ HF3.out Tryd.underlying26 rfl (fault_size _ rfl) ?_))
      have b0 : w3.cell? ⟨w.heap.size, 0, none⟩ = some (.int .i64 0) := HB0.out.cell 0
      have b1 : w3.cell? ⟨w.heap.size, 1, none⟩ = some (.string ⟨#[]⟩) := HB0.out.cell 1
      have b2 : w3.cell? ⟨w.heap.size, 2, none⟩ = some (.int .u64 0) := HB0.out.cell 2
      have b3 : w3.cell? ⟨w.heap.size, 3, none⟩ = some (.int .i64 0) := HB0.out.cell 3
      have b4 : w3.cell? ⟨w.heap.size, 4, none⟩ = some (.int .i64 0) := HB0.out.cell 4
      have d0 : w3.cell? ⟨w.heap.size + 1, 0, none⟩ = some (.int .i64 0) := HB1.out.cell 0
      have d1 : w3.cell? ⟨w.heap.size + 1, 1, none⟩ = some (.int .i64 0) := HB1.out.cell 1
      have d2 : w3.cell? ⟨w.heap.size + 1, 2, none⟩ = some (.int .i64 0) := HB1.out.cell 2
      have f0 : w3.cell? ⟨g6 + 1, 0, none⟩ = some (.int .i64 (code : Int)) := HF3.out.cell 0
      have f1 : w3.cell? ⟨g6 + 1, 1, none⟩ = some (.int .i64 (PL : Int)) := HF3.out.cell 1
      have f2 : w3.cell? ⟨g6 + 1, 2, none⟩ = some (.int .i64 (PC : Int)) := HF3.out.cell 2
      have fb := fun i => HB0.out.frozen i
      have fd := fun i => HB1.out.frozen i
      go_region
      go_wp2_with fail
      have HX := hide (((((((((HB0.out.set_ 0 (.int .i64 0)).set_ 1 (.string ⟨#[]⟩)).set_ 2 (.int .u64 0)).set_ 3 (.int .i64 0)).set_ 4 (.int .i64 0)).far (p := ⟨w.heap.size + 1, 0, none⟩) (Nat.ne_of_lt (Nat.lt_succ_self _)) (.int .i64 (code : Int))).far (p := ⟨w.heap.size + 1, 1, none⟩) (Nat.ne_of_lt (Nat.lt_succ_self _)) (.int .i64 (PL : Int))).far (p := ⟨w.heap.size + 1, 2, none⟩) (Nat.ne_of_lt (Nat.lt_succ_self _)) (.int .i64 (PC : Int))).drew : Blk _ w.heap.size 37 (tokC 0 ⟨#[]⟩ 0 0 0))
      have HY := hide (((((((((HB1.out.far (p := ⟨w.heap.size, 0, none⟩) (Nat.ne_of_gt (Nat.lt_succ_self _)) (.int .i64 0)).far (p := ⟨w.heap.size, 1, none⟩) (Nat.ne_of_gt (Nat.lt_succ_self _)) (.string ⟨#[]⟩)).far (p := ⟨w.heap.size, 2, none⟩) (Nat.ne_of_gt (Nat.lt_succ_self _)) (.int .u64 0)).far (p := ⟨w.heap.size, 3, none⟩) (Nat.ne_of_gt (Nat.lt_succ_self _)) (.int .i64 0)).far (p := ⟨w.heap.size, 4, none⟩) (Nat.ne_of_gt (Nat.lt_succ_self _)) (.int .i64 0)).set_ 0 (.int .i64 (code : Int))).set_ 1 (.int .i64 (PL : Int))).set_ 2 (.int .i64 (PC : Int))).drew : Blk _ (w.heap.size + 1) 26 (faultC code PL PC))
      have HO := hide (((((((((HBL.out.setCell (p := ⟨w.heap.size, 0, none⟩) (Nat.le_refl _) (.int .i64 0)).setCell (p := ⟨w.heap.size, 1, none⟩) (Nat.le_refl _) (.string ⟨#[]⟩)).setCell (p := ⟨w.heap.size, 2, none⟩) (Nat.le_refl _) (.int .u64 0)).setCell (p := ⟨w.heap.size, 3, none⟩) (Nat.le_refl _) (.int .i64 0)).setCell (p := ⟨w.heap.size, 4, none⟩) (Nat.le_refl _) (.int .i64 0)).setCell (p := ⟨w.heap.size + 1, 0, none⟩) (Nat.le_succ _) (.int .i64 (code : Int))).setCell (p := ⟨w.heap.size + 1, 1, none⟩) (Nat.le_succ _) (.int .i64 (PL : Int))).setCell (p := ⟨w.heap.size + 1, 2, none⟩) (Nat.le_succ _) (.int .i64 (PC : Int))).drew)
      refine bodyPost_ret (res_ctc (p := 8) (u := 9) (q := 10) rfl _ _ w.heap.size (w.heap.size + 1) _ _ rfl (load_tok HX.out rfl) rfl (load_fault HY.out rfl)) rfl ⟨HO.out, rfl⟩
  | tok kind text v stop =>
      have nq := fun W => fault_neq 0 0 0 W
      have nb : (!((0 : Int) == 0 && ((0 : Int) == 0 && (0 : Int) == 0))) = false := by rfl
      rw [nb] at nq
      have hge := tokAt_ge s J kind v stop text hT hJs
      rw [hT] at hNN
      unfold NextT at hNN
      simp only at hNN ⊢
      rw [hpj stop (by omega), ← hPL, ← hPC] at hNN
      rw [← hPL, ← hPC]
      obtain ⟨x, hx⟩ : ∃ x : ByteArray, x = ⟨text.toArray⟩ := ⟨_, rfl⟩
      rw [← hx] at hNN ⊢
      have HNN := hide hNN
      clear hNN hT hPL hPC nb hJ hpj hpk hx hv hgl
      go_enter Tryd.func14, Tryd.ntmps14
      go_wp2_with (first
        | (go_at_call 16; refine (HNN.out _ HC0.out (HV.out.below HB00.out)).mono ?_; rintro e w2 ⟨rfl, hC2, hO2⟩; have hs2 : w.heap.size + 2 < w2.heap.size := Nat.lt_of_lt_of_le HC0.out.lt hO2.size; have HB0 := hide (blk_made (tokC kind x v PL PC) (faultC 0 0 0) (hO2.kept HZ0.out (by omega)) (by omega)); have HB1 := hide (blk_made (tokC kind x v PL PC) (faultC 0 0 0) (hO2.kept HZ1.out (by omega)) (by omega)); have HBL := hide (below_made (tokC kind x v PL PC) (faultC 0 0 0) (HB00.out.grown hO2 (by simp; omega) (fun r e => by injection e with e; omega)) (by omega)); have HT3 := hide (tok_made (tokC kind x v PL PC) (faultC 0 0 0) w2); have HF3 := hide (flt_made (tokC kind x v PL PC) (faultC 0 0 0) w2); have hC3 := hide (cur_made (tokC kind x v PL PC) (faultC 0 0 0) hC2); clear hO2 hC2)
        | (refine wpList_store_row rfl 37 (.tmp 12) (.tmp 24) rfl w2.heap.size (tokC kind x v PL PC) rfl rfl 37 zTok ((Blk.new w2 _ _).alloc _) (tok_size _ rfl) rfl (tok_one _ _ _ _ _) ?_)
        | (refine wpList_store_row rfl 26 (.tmp 13) (.tmp 25) rfl (w2.heap.size + 1) (faultC 0 0 0) rfl rfl 26 #[.int .i64 0, .int .i64 0, .int .i64 0] (row_far (by have := Blk.new (w2.alloc (.cells #[.int .i64 0, .string ⟨#[]⟩, .int .u64 0, .int .i64 0, .int .i64 0] 37)) 26 #[.int .i64 0, .int .i64 0, .int .i64 0]; simpa using this) (by omega)) (fault_size _ rfl) rfl (fault_one _ _ _) ?_; generalize (((w2.alloc (.cells #[.int .i64 0, .string ⟨#[]⟩, .int .u64 0, .int .i64 0, .int .i64 0] 37)).alloc (.cells #[.int .i64 0, .int .i64 0, .int .i64 0] 26)).setRow w2.heap.size (tokC kind x v PL PC)).setRow (w2.heap.size + 1) (faultC 0 0 0) = w3 at *; generalize w2.heap.size = g6 at *)
        | (refine wpList_load_row rfl 26 (.tmp 13) rfl (g6 + 1) rfl 26 #[.int .i64 0, .int .i64 0, .int .i64 0] (0, 0) _ HF3.out Tryd.underlying26 rfl (fault_size _ rfl) ?_))
      have b0 : w3.cell? ⟨w.heap.size, 0, none⟩ = some (.int .i64 0) := HB0.out.cell 0
      have b1 : w3.cell? ⟨w.heap.size, 1, none⟩ = some (.string ⟨#[]⟩) := HB0.out.cell 1
      have b2 : w3.cell? ⟨w.heap.size, 2, none⟩ = some (.int .u64 0) := HB0.out.cell 2
      have b3 : w3.cell? ⟨w.heap.size, 3, none⟩ = some (.int .i64 0) := HB0.out.cell 3
      have b4 : w3.cell? ⟨w.heap.size, 4, none⟩ = some (.int .i64 0) := HB0.out.cell 4
      have d0 : w3.cell? ⟨w.heap.size + 1, 0, none⟩ = some (.int .i64 0) := HB1.out.cell 0
      have d1 : w3.cell? ⟨w.heap.size + 1, 1, none⟩ = some (.int .i64 0) := HB1.out.cell 1
      have d2 : w3.cell? ⟨w.heap.size + 1, 2, none⟩ = some (.int .i64 0) := HB1.out.cell 2
      have f0 : w3.cell? ⟨g6 + 1, 0, none⟩ = some (.int .i64 0) := HF3.out.cell 0
      have f1 : w3.cell? ⟨g6 + 1, 1, none⟩ = some (.int .i64 0) := HF3.out.cell 1
      have f2 : w3.cell? ⟨g6 + 1, 2, none⟩ = some (.int .i64 0) := HF3.out.cell 2
      have fb := fun i => HB0.out.frozen i
      have fd := fun i => HB1.out.frozen i
      have t0 : w3.cell? ⟨g6, 0, none⟩ = some (.int .i64 (kind : Int)) := HT3.out.cell 0
      have t1 : w3.cell? ⟨g6, 1, none⟩ = some (.string x) := HT3.out.cell 1
      have t2 : w3.cell? ⟨g6, 2, none⟩ = some (.int .u64 (v : Int)) := HT3.out.cell 2
      have t3 : w3.cell? ⟨g6, 3, none⟩ = some (.int .i64 (PL : Int)) := HT3.out.cell 3
      have t4 : w3.cell? ⟨g6, 4, none⟩ = some (.int .i64 (PC : Int)) := HT3.out.cell 4
      have kc : w3.cell? ⟨w.heap.size + 2, 3, none⟩ = some (.int .i64 (stop : Int)) := hC3.out.1.cell 3
      go_region
      go_wp2_with fail
      have HX := hide (((((((((HB0.out.set_ 0 (.int .i64 (kind : Int))).set_ 1 (.string x)).set_ 2 (.int .u64 (v : Int))).set_ 3 (.int .i64 (PL : Int))).set_ 4 (.int .i64 (PC : Int))).far (p := ⟨w.heap.size + 1, 0, none⟩) (Nat.ne_of_lt (Nat.lt_succ_self _)) (.int .i64 0)).far (p := ⟨w.heap.size + 1, 1, none⟩) (Nat.ne_of_lt (Nat.lt_succ_self _)) (.int .i64 0)).far (p := ⟨w.heap.size + 1, 2, none⟩) (Nat.ne_of_lt (Nat.lt_succ_self _)) (.int .i64 0)).drew : Blk _ w.heap.size 37 (tokC kind x v PL PC))
      have HY := hide (((((((((HB1.out.far (p := ⟨w.heap.size, 0, none⟩) (Nat.ne_of_gt (Nat.lt_succ_self _)) (.int .i64 (kind : Int))).far (p := ⟨w.heap.size, 1, none⟩) (Nat.ne_of_gt (Nat.lt_succ_self _)) (.string x)).far (p := ⟨w.heap.size, 2, none⟩) (Nat.ne_of_gt (Nat.lt_succ_self _)) (.int .u64 (v : Int))).far (p := ⟨w.heap.size, 3, none⟩) (Nat.ne_of_gt (Nat.lt_succ_self _)) (.int .i64 (PL : Int))).far (p := ⟨w.heap.size, 4, none⟩) (Nat.ne_of_gt (Nat.lt_succ_self _)) (.int .i64 (PC : Int))).set_ 0 (.int .i64 0)).set_ 1 (.int .i64 0)).set_ 2 (.int .i64 0)).drew : Blk _ (w.heap.size + 1) 26 (faultC 0 0 0))
      have HO := hide (((((((((HBL.out.setCell (p := ⟨w.heap.size, 0, none⟩) (Nat.le_refl _) (.int .i64 (kind : Int))).setCell (p := ⟨w.heap.size, 1, none⟩) (Nat.le_refl _) (.string x)).setCell (p := ⟨w.heap.size, 2, none⟩) (Nat.le_refl _) (.int .u64 (v : Int))).setCell (p := ⟨w.heap.size, 3, none⟩) (Nat.le_refl _) (.int .i64 (PL : Int))).setCell (p := ⟨w.heap.size, 4, none⟩) (Nat.le_refl _) (.int .i64 (PC : Int))).setCell (p := ⟨w.heap.size + 1, 0, none⟩) (Nat.le_succ _) (.int .i64 0)).setCell (p := ⟨w.heap.size + 1, 1, none⟩) (Nat.le_succ _) (.int .i64 0)).setCell (p := ⟨w.heap.size + 1, 2, none⟩) (Nat.le_succ _) (.int .i64 0)).drew)
      refine bodyPost_ret (res_ctc (p := 8) (u := 9) (q := 10) rfl _ _ w.heap.size (w.heap.size + 1) _ _ rfl (load_tok HX.out rfl) rfl (load_fault HY.out rfl)) rfl ⟨HO.out, rfl⟩
end Go.Proofs.YtglkpncjmmeihaaDoor
