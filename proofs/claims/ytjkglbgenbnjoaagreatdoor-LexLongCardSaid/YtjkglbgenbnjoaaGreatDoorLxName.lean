/- The walks of the cursor's name and sign, and of its reader (chapter 06). -/
import Derived.Test.YtjkglbgenbnjoaaGreatDoorLxMeth
namespace Go.Proofs.YtjkglbgenbnjoaaGreatDoor
open Go.RowKit Go.Lib

theorem scanV_form (r : List UInt8 × Nat × Nat) : scanV r = .tuple #[.string ⟨r.1.toArray⟩, .int .i64 (r.2.1 : Int), .int .i64 (r.2.2 : Int)] := rfl
theorem undrew {w w' : World} (h : Below w.drew.heap.size w.drew w') : Below w.heap.size w w' := ⟨h.os, h.tape, h.output, h.size, h.block⟩
theorem held_cells {w w' : World} {X : Nat} {v2 v3 : Value} (hX : X < w.heap.size) (h : w.cell? ⟨X, 2, none⟩ = some v2 ∧ w.cell? ⟨X, 3, none⟩ = some v3) (hb : Below w.heap.size w w') :
    w'.cell? ⟨X, 2, none⟩ = some v2 ∧ w'.cell? ⟨X, 3, none⟩ = some v3 := ⟨(hb.cell (p := ⟨X, 2, none⟩) hX).trans h.1, (hb.cell (p := ⟨X, 3, none⟩) hX).trans h.2⟩

set_option maxHeartbeats 1000000 in
theorem name_calls (X : Nat) (w : World) (p : Nat × Nat) (s : ByteArray) (k : Nat) (h : Cur w X p s k) :
    Calls Tryz.prog 44 #[.pointer (some ⟨X, 0, none⟩)] w (MethV X p s k (if (scanR s (k : Int)).2.2 = 0 then .tok 3 (scanR s (k : Int)).1 0 (scanR s (k : Int)).2.1 else .bad 6) w) := by
  have hX := h.lt
  have hS := fun W => Scan_calls s (k : Int) W h.2.2.2.2
  have hst := scanR_stop s k
  obtain ⟨R, hR⟩ : ∃ R, R = scanR s (k : Int) := ⟨_, rfl⟩
  rw [← hR] at hS hst ⊢
  obtain ⟨x, n, c⟩ := R
  simp only at hst
  have hsz := h.2.2.2.2
  have hks := h.2.2.2.1
  have H0 := hide (h.only ((Below.refl _ w).alloc (Nat.le_refl _) (.cells (tokC 0 ⟨#[]⟩ 0 0 0) 56)))
  have HT := hide (Blk.new w 56 (tokC 0 ⟨#[]⟩ 0 0 0))
  obtain ⟨_, _, c2, c3⟩ := H0.out.cells
  have hX1 : X < (w.alloc (.cells (tokC 0 ⟨#[]⟩ 0 0 0) 56)).heap.size := by simp; omega
  obtain ⟨X8, hX8⟩ : ∃ X8 : ByteArray, X8 = ⟨x.toArray⟩ := ⟨_, rfl⟩
  have hS2 : ∀ W, Calls Tryz.prog 51 #[.string s, .int .i64 (k : Int)] W fun e w' => e = .returned (.tuple #[.string X8, .int .i64 (n : Int), .int .i64 (c : Int)]) ∧ Below W.heap.size W w' := fun W => by
    have h1 := hS W
    rw [scanV_form] at h1
    rw [hX8]; exact h1
  have HS := hide hS2
  by_cases hc : c = 0
  · subst hc
    rw [if_pos rfl]
    obtain ⟨hs1, hs2⟩ := hst rfl
    have HX8 := hide hX8
    clear hS hS2 hR hst h hX8
    go_enter Tryz.func44, Tryz.ntmps44
    go_wp2_with fail
    go_region_held3 (fun W => W.cell? ⟨X, 2, none⟩ = some (.string s) ∧ W.cell? ⟨X, 3, none⟩ = some (.int .i64 (k : Int))) (first | assumption | exact ⟨c2, c3⟩ | exact held_cells hX1 ⟨c2, c3⟩ hb2)
      (first | (go_at_call 51; refine (HS.out _).mono ?_; rintro e w2 ⟨rfl, hbq⟩; have hb2 := undrew hbq; clear hbq))
    have HC2 := hide (H0.out.only hb2)
    have HT2 := hide (HT.out.below hb2 HT.out.lt)
    have HB2 := hide hb2
    clear hb2
    go_wp2
    go_loopw [23] (fun _ wr => ∃ m : Nat, k ≤ m ∧ m ≤ n ∧ Hid (Cur wr X (placeFrom p (piece s k m)) s m ∧ Blk wr w.heap.size 56 (tokC 0 ⟨#[]⟩ 0 0 0) ∧ Only X w wr)) (fun _ wr => s.size - atOf wr X)
    case atStart => exact ⟨k, Nat.le_refl _, by omega, by rw [piece_self]; exact HC2.out, HT2.out, ((Only.refl X w).alloc _).trans (Only.of_below HB2.out)⟩
    case round =>
      obtain ⟨m, hkm, hmn, hH⟩ := hrel
      obtain ⟨_, _, d2, d3⟩ := hH.out.1.cells
      by_cases hlt : m < n
      · have hms : m < s.size := by omega
        have hpl := place_next s p k m hkm hms
        have hst := fun W (hC : Cur W X (placeFrom p (piece s k m)) s m) => step_calls X W (placeFrom p (piece s k m)) s m hms hC
        rw [hpl] at hst
        have HST := hide hst
        clear hst hpl
        go_wp2_with (go_at_call 47; refine (HST.out _ hH.out.1).mono ?_; rintro e w3 ⟨rfl, hC3, hO3⟩; have HC3 := hide hC3; have HT3 := hide (hO3.kept hH.out.2.1 (by omega)); have HO3 := hide (hH.out.2.2.trans hO3); clear hC3 hO3)
        go_roundw
        case rel => first | exact ⟨m + 1, by omega, by omega, HC3.out, HT3.out, HO3.out⟩ | ((repeat apply Exists.intro); exact ⟨⟨m + 1, by omega, by omega, HC3.out, HT3.out, HO3.out⟩, rfl⟩)
        case measure => rw [HC3.out.atOf, hH.out.1.atOf]; omega
      · obtain rfl : m = n := by omega
        go_wp2_with (refine wpList_store_row rfl 56 (.tmp 2) (.tmp 32) rfl w.heap.size (tokC 3 X8 0 0 0) rfl rfl 56 (tokC 0 ⟨#[]⟩ 0 0 0) hH.out.2.1 (tok_size _ rfl) rfl (tok_one _ _ _ _ _) ?_)
        refine bodyPost_ret (res_cell_tmp (p := 2) (u := 3) rfl _ _ w.heap.size _ rfl (load_tok (row_put hH.out.2.1) rfl)) rfl ⟨?_, hH.out.1.row (by omega), hH.out.2.2.setRow (Nat.le_refl _) _⟩
        rw [HX8.out]; rfl
  · rw [if_neg hc]
    have hc1 : ((c : Int) == 0) = false := by simp; omega
    have hc2 : ((c : Int) != 0) = true := by rw [bne, hc1]; rfl
    clear hS hS2 hR hst h hX8 hc
    go_enter Tryz.func44, Tryz.ntmps44
    go_wp2_with fail
    go_region_held3 (fun W => W.cell? ⟨X, 2, none⟩ = some (.string s) ∧ W.cell? ⟨X, 3, none⟩ = some (.int .i64 (k : Int))) (first | assumption | exact ⟨c2, c3⟩ | exact held_cells hX1 ⟨c2, c3⟩ hb2)
      (first | (go_at_call 51; refine (HS.out _).mono ?_; rintro e w2 ⟨rfl, hbq⟩; have hb2 := undrew hbq; clear hbq))
    have HT2 := hide (HT.out.below hb2 HT.out.lt)
    have HB2 := hide hb2
    clear hb2
    go_wp2_with (refine wpList_store_row rfl 56 (.tmp 2) (.tmp 22) rfl w.heap.size (tokC 0 ⟨#[]⟩ 0 0 0) rfl rfl 56 (tokC 0 ⟨#[]⟩ 0 0 0) HT2.out (tok_size _ rfl) rfl (tok_one _ _ _ _ _) ?_)
    refine bodyPost_ret (res_cell_tmp (p := 2) (u := 3) rfl _ _ w.heap.size _ rfl (load_tok (row_put HT2.out) rfl)) rfl ⟨rfl, ?_⟩
    exact (((Only.refl X w).alloc _).trans (Only.of_below HB2.out)).setRow (Nat.le_refl _) _
end Go.Proofs.YtjkglbgenbnjoaaGreatDoor
