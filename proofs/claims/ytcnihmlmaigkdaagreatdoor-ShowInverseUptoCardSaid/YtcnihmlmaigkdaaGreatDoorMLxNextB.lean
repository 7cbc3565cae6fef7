/- The walk of the cursor's next, method by method (chapter 06). Written by gennext.py. The walk of the cursor's next (chapter 06). -/
import Derived.Test.YtcnihmlmaigkdaaGreatDoorMLxMeth
namespace Go.Proofs.YtcnihmlmaigkdaaGreatDoor
open Go.RowKit Go.Lib

set_option maxHeartbeats 4000000 in
theorem next_name (X : Nat) (w : World) (p : Nat × Nat) (s : ByteArray) (k J : Nat) (P : Nat × Nat) (T : Tk) (h : Cur w X p s k) (hJ : J = skipAt s k) (hP : P = placeFrom p (piece s k J))
    (hpk : pick s J = 250) (hT : ∀ code, T = .bad code → code ≠ 0)
    (hM : ∀ W, Cur W X P s J → Only X w W → Calls Tryz.prog 250 #[.pointer (some ⟨X, 0, none⟩)] W (MethV X P s J T W))
    (hS : ∀ kind text v stop, T = .tok kind text v stop → placeFrom P (piece s J stop) = placeFrom p (piece s k stop)) :
    Calls Tryz.prog 130 #[.pointer (some ⟨X, 0, none⟩)] w (NextT X p s k P T w) := by
  have hX := h.lt
  have H0 := hide (h.only (((Below.refl w.heap.size w).alloc (Nat.le_refl _) (.cells (tokC 0 ⟨#[]⟩ 0 0 0) 132)).alloc (by simp) (.cells (faultC 0 0 0) 43)))
  have I0 := hide (Held.init X w)
  have hsp := fun W hC => spacing_calls X W p s k hC
  rw [← hJ] at hsp
  unfold SpaceV at hsp
  rw [← hP] at hsp
  have HSP := hide hsp
  have hR : ∀ W, Cur W X P s J → Calls Tryz.prog 193 #[.pointer (some ⟨X, 0, none⟩)] W fun e w' => e = .returned (.func (.func 250) #[.pointer (some ⟨X, 0, none⟩)] #[]) ∧ Cur w' X P s J ∧ Below W.heap.size W w' := fun W hC => by
    have h1 := reader_calls X W P s J hC
    rw [hpk] at h1
    refine h1.mono ?_
    rintro e w' ⟨h2, n, rfl⟩
    exact ⟨h2, hC.drewN n, below_drewN (Below.refl _ W) n⟩
  have HR := hide hR
  have hsz := h.2.2.2.2
  clear h hsp hR hpk hJ hP
  cases T with
  | tok kind text v stop =>
    have hs := hS kind text v stop rfl
    have HM := hide hM
    obtain ⟨x, hx⟩ : ∃ x : ByteArray, x = ⟨text.toArray⟩ := ⟨_, rfl⟩
    unfold MethV at HM
    unfold NextT
    simp only at HM ⊢
    rw [← hx] at HM ⊢
    rw [hs] at HM
    obtain ⟨P1, P2⟩ := P
    clear hM hS hs hT hx
    go_enter Tryz.func130, Tryz.ntmps130
    go_wp2_with (first
      | (go_at_call 192; refine (HSP.out _ H0.out).mono ?_; rintro e w2 ⟨rfl, hC2, hO2⟩; have hl2 : w.heap.size < w2.heap.size := Nat.lt_of_succ_lt (I0.out.next hX hO2).lt; have HC2 := hide hC2; have HH2 := hide (I0.out.next hX hO2); clear hC2 hO2)
      | (refine wpList_load_mid rfl 200 (.tmp 12) rfl X 0 rfl [.int .i64 (P1 : Int), .int .i64 (P2 : Int)] _ (place_range HC2.out) Tryz.underlying200 rfl (by kernel_rfl) ?_)
      | (go_at_call 193; refine (HR.out _ (HC2.out.only ((Below.refl _ w2).alloc (Nat.le_refl _) _))).mono ?_; rintro e w3 ⟨rfl, hC3, hb3⟩; have HC3 := hide hC3; have HH3 := hide ((HH2.out.next hX ((Only.refl X w2).alloc (.cells (plA (P1, P2)) 200))).next hX (Only.of_below hb3)); have HG3 := hide ((Blk.new w2 200 (plA (P1, P2))).below hb3 (by simp)); clear hC3 hb3)
      | (go_at_call 250; refine (HM.out _ HC3.out HH3.out.2.2).mono ?_; rintro e w4 ⟨rfl, hC4, hO4⟩; have HC4 := hide hC4; have HH4 := hide (HH3.out.next hX hO4); have HG4 := hide (hO4.kept HG3.out (by omega)); clear hC4 hO4)
      | (refine wpList_store_row rfl 132 (.tmp 6) (.tmp 19) rfl w4.heap.size (tokC kind x v 0 0) rfl rfl 132 zTok (Blk.new w4 _ _) (tok_size _ rfl) rfl (tok_one _ _ _ _ _) ?_; have HT5 := hide (row_put (cs' := tokC kind x v 0 0) (Blk.new w4 132 #[.int .i64 0, .string ⟨#[]⟩, .int .u64 0, .int .i64 0, .int .i64 0])); have HC5 := hide ((HC4.out.only ((Below.refl _ w4).alloc (Nat.le_refl _) (.cells #[.int .i64 0, .string ⟨#[]⟩, .int .u64 0, .int .i64 0, .int .i64 0] 132))).row (g := w4.heap.size) (cs := tokC kind x v 0 0) (by have := HC4.out.lt; omega)); have HH5 := hide (HH4.out.next hX (((Only.refl X w4).alloc (.cells #[.int .i64 0, .string ⟨#[]⟩, .int .u64 0, .int .i64 0, .int .i64 0] 132)).setRow (Nat.le_refl _) (tokC kind x v 0 0))); have HG5 := hide (row_far (cs' := tokC kind x v 0 0) (HG4.out.alloc (.cells #[.int .i64 0, .string ⟨#[]⟩, .int .u64 0, .int .i64 0, .int .i64 0] 132)) (Nat.ne_of_lt HG4.out.lt)); have hl5 := HG4.out.lt))
    generalize (w4.alloc (Obj.cells #[.int .i64 0, .string ⟨#[]⟩, .int .u64 0, .int .i64 0, .int .i64 0] 132)).setRow w4.heap.size (tokC kind x v 0 0) = w5 at *
    generalize w4.heap.size = g6 at *
    have g0 : w5.cell? ⟨w2.heap.size, 0, none⟩ = some (.int .i64 (P1 : Int)) := HG5.out.cell 0
    have g1 : w5.cell? ⟨w2.heap.size, 1, none⟩ = some (.int .i64 (P2 : Int)) := HG5.out.cell 1
    have t3 : w5.cell? ⟨g6, 3, none⟩ = some (.int .i64 0) := HT5.out.cell 3
    have t4 : w5.cell? ⟨g6, 4, none⟩ = some (.int .i64 0) := HT5.out.cell 4
    have f3 := HT5.out.frozen 3
    have f4 := HT5.out.frozen 4
    have hne : g6 ≠ w2.heap.size := by omega
    go_region
    have HT6 := hide (((HT5.out.set_ 3 (.int .i64 (P1 : Int))).set_ 4 (.int .i64 (P2 : Int))).drew : Blk _ g6 132 (tokC kind x v P1 P2))
    have hg6 : w.heap.size + 1 < g6 := by have := HH2.out.lt; omega
    have hX6 : X < g6 := by omega
    have HC6 := hide ((HC5.out.put hX6 3 (.int .i64 (P1 : Int))).put hX6 4 (.int .i64 (P2 : Int))).drew
    have HH6 := hide (((HH5.out.put rfl hg6 3 (.int .i64 (P1 : Int))).put rfl hg6 4 (.int .i64 (P2 : Int))).drew)
    generalize ((w5.setCell ⟨g6, 3, none⟩ (.int .i64 (P1 : Int))).setCell ⟨g6, 4, none⟩ (.int .i64 (P2 : Int))).drew = w6 at *
    clear HT5 HC5 HH5 HG5 g0 g1 t3 t4 f3 f4
    go_wp2_with (first
      | (refine wpList_load_row rfl 132 (.tmp 6) rfl g6 rfl 132 (tokC kind x v P1 P2) (0, 0) _ HT6.out Tryz.underlying132 rfl (tok_size _ rfl) ?_)
      | (refine wpList_store_row rfl 132 (.tmp 2) (.tmp 36) rfl w.heap.size (tokC kind x v P1 P2) rfl rfl 132 zTok HH6.out.1 (tok_size _ rfl) rfl (tok_one _ _ _ _ _) ?_)
      | (refine wpList_store_row rfl 43 (.tmp 3) (.tmp 37) rfl (w.heap.size + 1) (faultC 0 0 0) rfl rfl 43 (faultC 0 0 0) (row_far HH6.out.2.1 (by omega)) (fault_size _ rfl) rfl (fault_one _ _ _) ?_))
    refine bodyPost_ret (res_cell_cell (p := 2) (q := 3) rfl _ _ w.heap.size (w.heap.size + 1) _ _ rfl (load_tok (row_far (row_put HH6.out.1) (by omega)) rfl) rfl (load_fault (row_put (row_far HH6.out.2.1 (by omega))) rfl)) rfl ⟨rfl, (HC6.out.row (by omega)).row (by omega), (HH6.out.2.2.setRow (Nat.le_refl _) _).setRow (Nat.le_succ _) _⟩
  | bad code =>
    have hc0 : ((code : Int) != 0) = true := by
      have := hT code rfl
      simp; omega
    have HM := hide hM
    unfold MethV at HM
    unfold NextT
    simp only at HM ⊢
    obtain ⟨P1, P2⟩ := P
    clear hM hS hT
    go_enter Tryz.func130, Tryz.ntmps130
    go_wp2_with (first
      | (go_at_call 192; refine (HSP.out _ H0.out).mono ?_; rintro e w2 ⟨rfl, hC2, hO2⟩; have hl2 : w.heap.size < w2.heap.size := Nat.lt_of_succ_lt (I0.out.next hX hO2).lt; have HC2 := hide hC2; have HH2 := hide (I0.out.next hX hO2); clear hC2 hO2)
      | (refine wpList_load_mid rfl 200 (.tmp 12) rfl X 0 rfl [.int .i64 (P1 : Int), .int .i64 (P2 : Int)] _ (place_range HC2.out) Tryz.underlying200 rfl (by kernel_rfl) ?_)
      | (go_at_call 193; refine (HR.out _ (HC2.out.only ((Below.refl _ w2).alloc (Nat.le_refl _) _))).mono ?_; rintro e w3 ⟨rfl, hC3, hb3⟩; have HC3 := hide hC3; have HH3 := hide ((HH2.out.next hX ((Only.refl X w2).alloc (.cells (plA (P1, P2)) 200))).next hX (Only.of_below hb3)); have HG3 := hide ((Blk.new w2 200 (plA (P1, P2))).below hb3 (by simp)); clear hC3 hb3)
      | (go_at_call 250; refine (HM.out _ HC3.out HH3.out.2.2).mono ?_; rintro e w4 ⟨rfl, hO4⟩; have HH4 := hide (HH3.out.next hX hO4); have HG4 := hide (hO4.kept HG3.out (by omega)); clear hO4)
      | (refine wpList_store_row rfl 132 (.tmp 6) (.tmp 19) rfl w4.heap.size (tokC 0 ⟨#[]⟩ 0 0 0) rfl rfl 132 zTok (Blk.new w4 _ _) (tok_size _ rfl) rfl (tok_one _ _ _ _ _) ?_; have HH5 := hide (HH4.out.next hX (((Only.refl X w4).alloc (.cells #[.int .i64 0, .string ⟨#[]⟩, .int .u64 0, .int .i64 0, .int .i64 0] 132)).setRow (Nat.le_refl _) (tokC 0 ⟨#[]⟩ 0 0 0))); have HG5 := hide (row_far (cs' := tokC 0 ⟨#[]⟩ 0 0 0) (HG4.out.alloc (.cells #[.int .i64 0, .string ⟨#[]⟩, .int .u64 0, .int .i64 0, .int .i64 0] 132)) (Nat.ne_of_lt HG4.out.lt))))
    generalize (w4.alloc (Obj.cells #[.int .i64 0, .string ⟨#[]⟩, .int .u64 0, .int .i64 0, .int .i64 0] 132)).setRow w4.heap.size (tokC 0 ⟨#[]⟩ 0 0 0) = w5 at *
    have g0 : w5.cell? ⟨w2.heap.size, 0, none⟩ = some (.int .i64 (P1 : Int)) := HG5.out.cell 0
    have g1 : w5.cell? ⟨w2.heap.size, 1, none⟩ = some (.int .i64 (P2 : Int)) := HG5.out.cell 1
    have b0 : w5.cell? ⟨w.heap.size, 0, none⟩ = some (.int .i64 0) := HH5.out.1.cell 0
    have b1 : w5.cell? ⟨w.heap.size, 1, none⟩ = some (.string ⟨#[]⟩) := HH5.out.1.cell 1
    have b2 : w5.cell? ⟨w.heap.size, 2, none⟩ = some (.int .u64 0) := HH5.out.1.cell 2
    have b3 : w5.cell? ⟨w.heap.size, 3, none⟩ = some (.int .i64 0) := HH5.out.1.cell 3
    have b4 : w5.cell? ⟨w.heap.size, 4, none⟩ = some (.int .i64 0) := HH5.out.1.cell 4
    have d0 : w5.cell? ⟨w.heap.size + 1, 0, none⟩ = some (.int .i64 0) := HH5.out.2.1.cell 0
    have d1 : w5.cell? ⟨w.heap.size + 1, 1, none⟩ = some (.int .i64 0) := HH5.out.2.1.cell 1
    have d2 : w5.cell? ⟨w.heap.size + 1, 2, none⟩ = some (.int .i64 0) := HH5.out.2.1.cell 2
    have f1 := fun i => HH5.out.1.frozen i
    have f2 := fun i => HH5.out.2.1.frozen i
    go_region
    go_wp2_with fail
    have HT := hide (((((((((HH5.out.1.set_ 0 (.int .i64 0)).set_ 1 (.string ⟨#[]⟩)).set_ 2 (.int .u64 0)).set_ 3 (.int .i64 0)).set_ 4 (.int .i64 0)).far (p := ⟨w.heap.size + 1, 0, none⟩) (Nat.ne_of_lt (Nat.lt_succ_self _)) (.int .i64 (code : Int))).far (p := ⟨w.heap.size + 1, 1, none⟩) (Nat.ne_of_lt (Nat.lt_succ_self _)) (.int .i64 (P1 : Int))).far (p := ⟨w.heap.size + 1, 2, none⟩) (Nat.ne_of_lt (Nat.lt_succ_self _)) (.int .i64 (P2 : Int))).drew : Blk _ w.heap.size 132 zTok)
    have HF := hide (((((((((HH5.out.2.1.far (p := ⟨w.heap.size, 0, none⟩) (Nat.ne_of_gt (Nat.lt_succ_self _)) (.int .i64 0)).far (p := ⟨w.heap.size, 1, none⟩) (Nat.ne_of_gt (Nat.lt_succ_self _)) (.string ⟨#[]⟩)).far (p := ⟨w.heap.size, 2, none⟩) (Nat.ne_of_gt (Nat.lt_succ_self _)) (.int .u64 0)).far (p := ⟨w.heap.size, 3, none⟩) (Nat.ne_of_gt (Nat.lt_succ_self _)) (.int .i64 0)).far (p := ⟨w.heap.size, 4, none⟩) (Nat.ne_of_gt (Nat.lt_succ_self _)) (.int .i64 0)).set_ 0 (.int .i64 (code : Int))).set_ 1 (.int .i64 (P1 : Int))).set_ 2 (.int .i64 (P2 : Int))).drew : Blk _ (w.heap.size + 1) 43 (faultC code P1 P2))
    have HO := hide (Only.drew (only_setCell (only_setCell (only_setCell (only_setCell (only_setCell (only_setCell (only_setCell (only_setCell HH5.out.2.2 (p := ⟨w.heap.size, 0, none⟩) (.inr (Nat.le_refl _)) (.int .i64 0)) (p := ⟨w.heap.size, 1, none⟩) (.inr (Nat.le_refl _)) (.string ⟨#[]⟩)) (p := ⟨w.heap.size, 2, none⟩) (.inr (Nat.le_refl _)) (.int .u64 0)) (p := ⟨w.heap.size, 3, none⟩) (.inr (Nat.le_refl _)) (.int .i64 0)) (p := ⟨w.heap.size, 4, none⟩) (.inr (Nat.le_refl _)) (.int .i64 0)) (p := ⟨w.heap.size + 1, 0, none⟩) (.inr (Nat.le_succ _)) (.int .i64 (code : Int))) (p := ⟨w.heap.size + 1, 1, none⟩) (.inr (Nat.le_succ _)) (.int .i64 (P1 : Int))) (p := ⟨w.heap.size + 1, 2, none⟩) (.inr (Nat.le_succ _)) (.int .i64 (P2 : Int))))
    refine bodyPost_ret (res_cell_cell (p := 2) (q := 3) rfl _ _ w.heap.size (w.heap.size + 1) _ _ rfl (load_tok HT.out rfl) rfl (load_fault HF.out rfl)) rfl ⟨rfl, HO.out⟩
set_option maxHeartbeats 4000000 in
theorem next_sign (X : Nat) (w : World) (p : Nat × Nat) (s : ByteArray) (k J : Nat) (P : Nat × Nat) (T : Tk) (h : Cur w X p s k) (hJ : J = skipAt s k) (hP : P = placeFrom p (piece s k J))
    (hpk : pick s J = 251) (hT : ∀ code, T = .bad code → code ≠ 0)
    (hM : ∀ W, Cur W X P s J → Only X w W → Calls Tryz.prog 251 #[.pointer (some ⟨X, 0, none⟩)] W (MethV X P s J T W))
    (hS : ∀ kind text v stop, T = .tok kind text v stop → placeFrom P (piece s J stop) = placeFrom p (piece s k stop)) :
    Calls Tryz.prog 130 #[.pointer (some ⟨X, 0, none⟩)] w (NextT X p s k P T w) := by
  have hX := h.lt
  have H0 := hide (h.only (((Below.refl w.heap.size w).alloc (Nat.le_refl _) (.cells (tokC 0 ⟨#[]⟩ 0 0 0) 132)).alloc (by simp) (.cells (faultC 0 0 0) 43)))
  have I0 := hide (Held.init X w)
  have hsp := fun W hC => spacing_calls X W p s k hC
  rw [← hJ] at hsp
  unfold SpaceV at hsp
  rw [← hP] at hsp
  have HSP := hide hsp
  have hR : ∀ W, Cur W X P s J → Calls Tryz.prog 193 #[.pointer (some ⟨X, 0, none⟩)] W fun e w' => e = .returned (.func (.func 251) #[.pointer (some ⟨X, 0, none⟩)] #[]) ∧ Cur w' X P s J ∧ Below W.heap.size W w' := fun W hC => by
    have h1 := reader_calls X W P s J hC
    rw [hpk] at h1
    refine h1.mono ?_
    rintro e w' ⟨h2, n, rfl⟩
    exact ⟨h2, hC.drewN n, below_drewN (Below.refl _ W) n⟩
  have HR := hide hR
  have hsz := h.2.2.2.2
  clear h hsp hR hpk hJ hP
  cases T with
  | tok kind text v stop =>
    have hs := hS kind text v stop rfl
    have HM := hide hM
    obtain ⟨x, hx⟩ : ∃ x : ByteArray, x = ⟨text.toArray⟩ := ⟨_, rfl⟩
    unfold MethV at HM
    unfold NextT
    simp only at HM ⊢
    rw [← hx] at HM ⊢
    rw [hs] at HM
    obtain ⟨P1, P2⟩ := P
    clear hM hS hs hT hx
    go_enter Tryz.func130, Tryz.ntmps130
    go_wp2_with (first
      | (go_at_call 192; refine (HSP.out _ H0.out).mono ?_; rintro e w2 ⟨rfl, hC2, hO2⟩; have hl2 : w.heap.size < w2.heap.size := Nat.lt_of_succ_lt (I0.out.next hX hO2).lt; have HC2 := hide hC2; have HH2 := hide (I0.out.next hX hO2); clear hC2 hO2)
      | (refine wpList_load_mid rfl 200 (.tmp 12) rfl X 0 rfl [.int .i64 (P1 : Int), .int .i64 (P2 : Int)] _ (place_range HC2.out) Tryz.underlying200 rfl (by kernel_rfl) ?_)
      | (go_at_call 193; refine (HR.out _ (HC2.out.only ((Below.refl _ w2).alloc (Nat.le_refl _) _))).mono ?_; rintro e w3 ⟨rfl, hC3, hb3⟩; have HC3 := hide hC3; have HH3 := hide ((HH2.out.next hX ((Only.refl X w2).alloc (.cells (plA (P1, P2)) 200))).next hX (Only.of_below hb3)); have HG3 := hide ((Blk.new w2 200 (plA (P1, P2))).below hb3 (by simp)); clear hC3 hb3)
      | (go_at_call 251; refine (HM.out _ HC3.out HH3.out.2.2).mono ?_; rintro e w4 ⟨rfl, hC4, hO4⟩; have HC4 := hide hC4; have HH4 := hide (HH3.out.next hX hO4); have HG4 := hide (hO4.kept HG3.out (by omega)); clear hC4 hO4)
      | (refine wpList_store_row rfl 132 (.tmp 6) (.tmp 19) rfl w4.heap.size (tokC kind x v 0 0) rfl rfl 132 zTok (Blk.new w4 _ _) (tok_size _ rfl) rfl (tok_one _ _ _ _ _) ?_; have HT5 := hide (row_put (cs' := tokC kind x v 0 0) (Blk.new w4 132 #[.int .i64 0, .string ⟨#[]⟩, .int .u64 0, .int .i64 0, .int .i64 0])); have HC5 := hide ((HC4.out.only ((Below.refl _ w4).alloc (Nat.le_refl _) (.cells #[.int .i64 0, .string ⟨#[]⟩, .int .u64 0, .int .i64 0, .int .i64 0] 132))).row (g := w4.heap.size) (cs := tokC kind x v 0 0) (by have := HC4.out.lt; omega)); have HH5 := hide (HH4.out.next hX (((Only.refl X w4).alloc (.cells #[.int .i64 0, .string ⟨#[]⟩, .int .u64 0, .int .i64 0, .int .i64 0] 132)).setRow (Nat.le_refl _) (tokC kind x v 0 0))); have HG5 := hide (row_far (cs' := tokC kind x v 0 0) (HG4.out.alloc (.cells #[.int .i64 0, .string ⟨#[]⟩, .int .u64 0, .int .i64 0, .int .i64 0] 132)) (Nat.ne_of_lt HG4.out.lt)); have hl5 := HG4.out.lt))
    generalize (w4.alloc (Obj.cells #[.int .i64 0, .string ⟨#[]⟩, .int .u64 0, .int .i64 0, .int .i64 0] 132)).setRow w4.heap.size (tokC kind x v 0 0) = w5 at *
    generalize w4.heap.size = g6 at *
    have g0 : w5.cell? ⟨w2.heap.size, 0, none⟩ = some (.int .i64 (P1 : Int)) := HG5.out.cell 0
    have g1 : w5.cell? ⟨w2.heap.size, 1, none⟩ = some (.int .i64 (P2 : Int)) := HG5.out.cell 1
    have t3 : w5.cell? ⟨g6, 3, none⟩ = some (.int .i64 0) := HT5.out.cell 3
    have t4 : w5.cell? ⟨g6, 4, none⟩ = some (.int .i64 0) := HT5.out.cell 4
    have f3 := HT5.out.frozen 3
    have f4 := HT5.out.frozen 4
    have hne : g6 ≠ w2.heap.size := by omega
    go_region
    have HT6 := hide (((HT5.out.set_ 3 (.int .i64 (P1 : Int))).set_ 4 (.int .i64 (P2 : Int))).drew : Blk _ g6 132 (tokC kind x v P1 P2))
    have hg6 : w.heap.size + 1 < g6 := by have := HH2.out.lt; omega
    have hX6 : X < g6 := by omega
    have HC6 := hide ((HC5.out.put hX6 3 (.int .i64 (P1 : Int))).put hX6 4 (.int .i64 (P2 : Int))).drew
    have HH6 := hide (((HH5.out.put rfl hg6 3 (.int .i64 (P1 : Int))).put rfl hg6 4 (.int .i64 (P2 : Int))).drew)
    generalize ((w5.setCell ⟨g6, 3, none⟩ (.int .i64 (P1 : Int))).setCell ⟨g6, 4, none⟩ (.int .i64 (P2 : Int))).drew = w6 at *
    clear HT5 HC5 HH5 HG5 g0 g1 t3 t4 f3 f4
    go_wp2_with (first
      | (refine wpList_load_row rfl 132 (.tmp 6) rfl g6 rfl 132 (tokC kind x v P1 P2) (0, 0) _ HT6.out Tryz.underlying132 rfl (tok_size _ rfl) ?_)
      | (refine wpList_store_row rfl 132 (.tmp 2) (.tmp 36) rfl w.heap.size (tokC kind x v P1 P2) rfl rfl 132 zTok HH6.out.1 (tok_size _ rfl) rfl (tok_one _ _ _ _ _) ?_)
      | (refine wpList_store_row rfl 43 (.tmp 3) (.tmp 37) rfl (w.heap.size + 1) (faultC 0 0 0) rfl rfl 43 (faultC 0 0 0) (row_far HH6.out.2.1 (by omega)) (fault_size _ rfl) rfl (fault_one _ _ _) ?_))
    refine bodyPost_ret (res_cell_cell (p := 2) (q := 3) rfl _ _ w.heap.size (w.heap.size + 1) _ _ rfl (load_tok (row_far (row_put HH6.out.1) (by omega)) rfl) rfl (load_fault (row_put (row_far HH6.out.2.1 (by omega))) rfl)) rfl ⟨rfl, (HC6.out.row (by omega)).row (by omega), (HH6.out.2.2.setRow (Nat.le_refl _) _).setRow (Nat.le_succ _) _⟩
  | bad code =>
    have hc0 : ((code : Int) != 0) = true := by
      have := hT code rfl
      simp; omega
    have HM := hide hM
    unfold MethV at HM
    unfold NextT
    simp only at HM ⊢
    obtain ⟨P1, P2⟩ := P
    clear hM hS hT
    go_enter Tryz.func130, Tryz.ntmps130
    go_wp2_with (first
      | (go_at_call 192; refine (HSP.out _ H0.out).mono ?_; rintro e w2 ⟨rfl, hC2, hO2⟩; have hl2 : w.heap.size < w2.heap.size := Nat.lt_of_succ_lt (I0.out.next hX hO2).lt; have HC2 := hide hC2; have HH2 := hide (I0.out.next hX hO2); clear hC2 hO2)
      | (refine wpList_load_mid rfl 200 (.tmp 12) rfl X 0 rfl [.int .i64 (P1 : Int), .int .i64 (P2 : Int)] _ (place_range HC2.out) Tryz.underlying200 rfl (by kernel_rfl) ?_)
      | (go_at_call 193; refine (HR.out _ (HC2.out.only ((Below.refl _ w2).alloc (Nat.le_refl _) _))).mono ?_; rintro e w3 ⟨rfl, hC3, hb3⟩; have HC3 := hide hC3; have HH3 := hide ((HH2.out.next hX ((Only.refl X w2).alloc (.cells (plA (P1, P2)) 200))).next hX (Only.of_below hb3)); have HG3 := hide ((Blk.new w2 200 (plA (P1, P2))).below hb3 (by simp)); clear hC3 hb3)
      | (go_at_call 251; refine (HM.out _ HC3.out HH3.out.2.2).mono ?_; rintro e w4 ⟨rfl, hO4⟩; have HH4 := hide (HH3.out.next hX hO4); have HG4 := hide (hO4.kept HG3.out (by omega)); clear hO4)
      | (refine wpList_store_row rfl 132 (.tmp 6) (.tmp 19) rfl w4.heap.size (tokC 0 ⟨#[]⟩ 0 0 0) rfl rfl 132 zTok (Blk.new w4 _ _) (tok_size _ rfl) rfl (tok_one _ _ _ _ _) ?_; have HH5 := hide (HH4.out.next hX (((Only.refl X w4).alloc (.cells #[.int .i64 0, .string ⟨#[]⟩, .int .u64 0, .int .i64 0, .int .i64 0] 132)).setRow (Nat.le_refl _) (tokC 0 ⟨#[]⟩ 0 0 0))); have HG5 := hide (row_far (cs' := tokC 0 ⟨#[]⟩ 0 0 0) (HG4.out.alloc (.cells #[.int .i64 0, .string ⟨#[]⟩, .int .u64 0, .int .i64 0, .int .i64 0] 132)) (Nat.ne_of_lt HG4.out.lt))))
    generalize (w4.alloc (Obj.cells #[.int .i64 0, .string ⟨#[]⟩, .int .u64 0, .int .i64 0, .int .i64 0] 132)).setRow w4.heap.size (tokC 0 ⟨#[]⟩ 0 0 0) = w5 at *
    have g0 : w5.cell? ⟨w2.heap.size, 0, none⟩ = some (.int .i64 (P1 : Int)) := HG5.out.cell 0
    have g1 : w5.cell? ⟨w2.heap.size, 1, none⟩ = some (.int .i64 (P2 : Int)) := HG5.out.cell 1
    have b0 : w5.cell? ⟨w.heap.size, 0, none⟩ = some (.int .i64 0) := HH5.out.1.cell 0
    have b1 : w5.cell? ⟨w.heap.size, 1, none⟩ = some (.string ⟨#[]⟩) := HH5.out.1.cell 1
    have b2 : w5.cell? ⟨w.heap.size, 2, none⟩ = some (.int .u64 0) := HH5.out.1.cell 2
    have b3 : w5.cell? ⟨w.heap.size, 3, none⟩ = some (.int .i64 0) := HH5.out.1.cell 3
    have b4 : w5.cell? ⟨w.heap.size, 4, none⟩ = some (.int .i64 0) := HH5.out.1.cell 4
    have d0 : w5.cell? ⟨w.heap.size + 1, 0, none⟩ = some (.int .i64 0) := HH5.out.2.1.cell 0
    have d1 : w5.cell? ⟨w.heap.size + 1, 1, none⟩ = some (.int .i64 0) := HH5.out.2.1.cell 1
    have d2 : w5.cell? ⟨w.heap.size + 1, 2, none⟩ = some (.int .i64 0) := HH5.out.2.1.cell 2
    have f1 := fun i => HH5.out.1.frozen i
    have f2 := fun i => HH5.out.2.1.frozen i
    go_region
    go_wp2_with fail
    have HT := hide (((((((((HH5.out.1.set_ 0 (.int .i64 0)).set_ 1 (.string ⟨#[]⟩)).set_ 2 (.int .u64 0)).set_ 3 (.int .i64 0)).set_ 4 (.int .i64 0)).far (p := ⟨w.heap.size + 1, 0, none⟩) (Nat.ne_of_lt (Nat.lt_succ_self _)) (.int .i64 (code : Int))).far (p := ⟨w.heap.size + 1, 1, none⟩) (Nat.ne_of_lt (Nat.lt_succ_self _)) (.int .i64 (P1 : Int))).far (p := ⟨w.heap.size + 1, 2, none⟩) (Nat.ne_of_lt (Nat.lt_succ_self _)) (.int .i64 (P2 : Int))).drew : Blk _ w.heap.size 132 zTok)
    have HF := hide (((((((((HH5.out.2.1.far (p := ⟨w.heap.size, 0, none⟩) (Nat.ne_of_gt (Nat.lt_succ_self _)) (.int .i64 0)).far (p := ⟨w.heap.size, 1, none⟩) (Nat.ne_of_gt (Nat.lt_succ_self _)) (.string ⟨#[]⟩)).far (p := ⟨w.heap.size, 2, none⟩) (Nat.ne_of_gt (Nat.lt_succ_self _)) (.int .u64 0)).far (p := ⟨w.heap.size, 3, none⟩) (Nat.ne_of_gt (Nat.lt_succ_self _)) (.int .i64 0)).far (p := ⟨w.heap.size, 4, none⟩) (Nat.ne_of_gt (Nat.lt_succ_self _)) (.int .i64 0)).set_ 0 (.int .i64 (code : Int))).set_ 1 (.int .i64 (P1 : Int))).set_ 2 (.int .i64 (P2 : Int))).drew : Blk _ (w.heap.size + 1) 43 (faultC code P1 P2))
    have HO := hide (Only.drew (only_setCell (only_setCell (only_setCell (only_setCell (only_setCell (only_setCell (only_setCell (only_setCell HH5.out.2.2 (p := ⟨w.heap.size, 0, none⟩) (.inr (Nat.le_refl _)) (.int .i64 0)) (p := ⟨w.heap.size, 1, none⟩) (.inr (Nat.le_refl _)) (.string ⟨#[]⟩)) (p := ⟨w.heap.size, 2, none⟩) (.inr (Nat.le_refl _)) (.int .u64 0)) (p := ⟨w.heap.size, 3, none⟩) (.inr (Nat.le_refl _)) (.int .i64 0)) (p := ⟨w.heap.size, 4, none⟩) (.inr (Nat.le_refl _)) (.int .i64 0)) (p := ⟨w.heap.size + 1, 0, none⟩) (.inr (Nat.le_succ _)) (.int .i64 (code : Int))) (p := ⟨w.heap.size + 1, 1, none⟩) (.inr (Nat.le_succ _)) (.int .i64 (P1 : Int))) (p := ⟨w.heap.size + 1, 2, none⟩) (.inr (Nat.le_succ _)) (.int .i64 (P2 : Int))))
    refine bodyPost_ret (res_cell_cell (p := 2) (q := 3) rfl _ _ w.heap.size (w.heap.size + 1) _ _ rfl (load_tok HT.out rfl) rfl (load_fault HF.out rfl)) rfl ⟨rfl, HO.out⟩
end Go.Proofs.YtcnihmlmaigkdaaGreatDoor
namespace Go.Proofs.YtcnihmlmaigkdaaGreatDoor
open Go.RowKit Go.Lib

theorem tokAt_ge (s : ByteArray) (k kind v stop : Nat) (text : List UInt8) (h : tokAt s k = .tok kind text v stop) (hk : k ≤ s.size) : k ≤ stop := by
  by_cases h0 : kind = 0
  · subst h0
    unfold tokAt at h
    cases hd : s.data.toList.drop k with
    | nil => rw [hd] at h; injection h with h1 h2 h3 h4; omega
    | cons c r =>
      rw [hd] at h
      simp only at h
      split at h
      · injection h with h1 h2 h3 h4; omega
      · split at h
        · split at h
          · injection h with h1 h2 h3 h4; omega
          · cases h
        · split at h
          · split at h
            · injection h with h1 h2 h3 h4; omega
            · cases h
          · split at h
            · injection h with h1 h2 h3 h4; omega
            · cases h
  · exact Nat.le_of_lt ((tokAt_stop s k kind v stop text h hk).2 h0)
theorem tokAt_code (s : ByteArray) (k code : Nat) (h : tokAt s k = .bad code) : code ≠ 0 := by
  unfold tokAt at h
  cases hd : s.data.toList.drop k with
  | nil => rw [hd] at h; cases h
  | cons c r =>
    rw [hd] at h
    simp only at h
    split at h
    · cases h
    · split at h
      · split at h
        · cases h
        · injection h with h; omega
      · split at h
        · split at h
          · cases h
          · injection h with h; omega
        · split at h
          · cases h
          · injection h with h; omega

theorem next_calls (X : Nat) (w : World) (p : Nat × Nat) (s : ByteArray) (k : Nat) (h : Cur w X p s k) (hv : Vars w) (hgl : GLow X) :
    Calls Tryz.prog 130 #[.pointer (some ⟨X, 0, none⟩)] w (NextT X p s k (placeFrom p (piece s k (skipAt s k))) (tokAt s (skipAt s k)) w) := by
  obtain ⟨J, hJ⟩ : ∃ J, J = skipAt s k := ⟨_, rfl⟩
  rw [← hJ]
  obtain ⟨P, hP⟩ : ∃ P, P = placeFrom p (piece s k J) := ⟨_, rfl⟩
  rw [← hP]
  have hJs : J ≤ s.size := by rw [hJ]; exact skipAt_le s k h.2.2.2.1
  have hkJ : k ≤ J := by rw [hJ]; exact skipAt_ge s k
  have hS : ∀ kind text v stop, tokAt s J = .tok kind text v stop → placeFrom P (piece s J stop) = placeFrom p (piece s k stop) := fun kind text v stop ht => by
    rw [hP]; exact place_join s p k J stop hkJ (tokAt_ge s J kind v stop text ht hJs)
  have hT : ∀ code, tokAt s J = .bad code → code ≠ 0 := fun code ht => tokAt_code s J code ht
  have hV : ∀ W, Only X w W → Vars W := fun W hO => hv.only hgl (hO.below h.lt)
  have hsz := Lib.size_eq s
  rcases Nat.lt_or_ge J s.size with hlt | hge
  · have hd := at_data s J hlt
    by_cases h1 : isLet s[J] = true
    · have e1 : tokAt s J = .tok 1 ((s.data.toList.drop J).take (runLen isLet (s.data.toList.drop J))) 0 (J + runLen isLet (s.data.toList.drop J)) := by
        unfold tokAt; rw [hd]; simp only; rw [if_pos h1]
      refine next_word X w p s k J P _ h hJ hP (by unfold pick; rw [hd]; simp only; rw [if_pos h1]) hT (fun W hC hO => ?_) hS
      rw [e1]
      exact word_calls X W P s J _ rfl hC
    · by_cases h2 : isDig s[J] = true
      · have e1 : tokAt s J = (match parseN ((s.data.toList.drop J).take (runLen isAl (s.data.toList.drop J))) with | some v => .tok 2 ((s.data.toList.drop J).take (runLen isAl (s.data.toList.drop J))) v (J + runLen isAl (s.data.toList.drop J)) | none => .bad 5) := by
          unfold tokAt; rw [hd]; simp only; rw [if_neg h1, if_pos h2]
          rfl
        refine next_number X w p s k J P _ h hJ hP (by unfold pick; rw [hd]; simp only; rw [if_neg h1, if_pos h2]) hT (fun W hC hO => ?_) hS
        rw [e1]
        exact number_calls X W P s J _ rfl hC (hV W hO) hgl
      · by_cases h3 : s[J] = 34
        · have e1 : tokAt s J = (if (scanR s (J : Int)).2.2 = 0 then .tok 3 (scanR s (J : Int)).1 0 (scanR s (J : Int)).2.1 else .bad 6) := by
            unfold tokAt; rw [hd]; simp only; rw [if_neg h1, if_neg h2, if_pos h3]
          refine next_name X w p s k J P _ h hJ hP (by unfold pick; rw [hd]; simp only; rw [if_neg h1, if_neg h2, if_pos h3]) hT (fun W hC hO => ?_) hS
          rw [e1]
          exact name_calls X W P s J hC
        · have e1 : tokAt s J = (if isSign s[J] = true then .tok 4 [s[J]] 0 (J + 1) else .bad 3) := by
            unfold tokAt; rw [hd]; simp only; rw [if_neg h1, if_neg h2, if_neg h3]
          refine next_sign X w p s k J P _ h hJ hP (by unfold pick; rw [hd]; simp only; rw [if_neg h1, if_neg h2, if_neg h3]) hT (fun W hC hO => ?_) hS
          rw [e1]
          exact sign_calls X W P s J hlt hC
  · have hd : s.data.toList.drop J = [] := List.drop_of_length_le (by omega)
    have e1 : tokAt s J = .tok 0 [] 0 J := by unfold tokAt; rw [hd]
    refine next_end X w p s k J P _ h hJ hP (by unfold pick; rw [hd]) hT (fun W hC hO => ?_) hS
    rw [e1]
    exact end_calls X W P s J hC
end Go.Proofs.YtcnihmlmaigkdaaGreatDoor
