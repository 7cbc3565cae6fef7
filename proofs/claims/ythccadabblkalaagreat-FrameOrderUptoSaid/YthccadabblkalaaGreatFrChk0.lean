/- frame.spans (chapter 15). -/
import Derived.Test.YthccadabblkalaaGreatFrWnd
import Derived.Test.YthccadabblkalaaGreatSwGapW
import Derived.Test.YthccadabblkalaaGreatSortK
namespace Go.Proofs.YthccadabblkalaaGreat
open Go.RowKit Go.Sort
set_option linter.unusedVariables false

theorem sp_cells_at (w : World) (s : Nat × Nat) (t : TypeId) (g : Nat) (hg : g = w.heap.size) : ∀ j u, (spL s)[j]? = some u → (w.alloc (.cells #[.int .u64 (s.1 : Int), .int .u64 (s.2 : Int)] t)).cell? ((⟨g, 0, none⟩ : Addr).add j) = some u := by
  subst hg; exact sp_cells w s t
set_option maxRecDepth 100000 in
set_option maxHeartbeats 4000000 in
theorem spans_calls (r : Row WinR) (w : World) (h : RowAt winL 3 w.heap.size r w) (hl : r.l.length ≤ 1000000) :
    Calls Tryz.prog 20 #[.slice r.a r.l.length r.c] w (GapsV (r.l.map wsp) w) := by
  have hcap := h.2
  obtain ⟨l, A, c⟩ := r
  have HH := hide h
  simp only at hcap hl ⊢
  obtain ⟨i0, hi, hz0, hz1, hz2⟩ := info_parts span_info3
  have HII := hide hi
  obtain ⟨n, hn⟩ : ∃ n, n = l.length := ⟨_, rfl⟩
  have HN := hide hn
  rw [← hn] at hcap ⊢
  have hnI : (n : Int) ≤ 1000000 := by omega
  have hcI : (n : Int) ≤ (c : Int) := by omega
  clear h hn hcap hl hi
  go_enter Tryz.func20, Tryz.ntmps20
  go_wp2
  go_loopw [3, 8] (fun o v wr => ∃ (k : Nat) (a : Option Addr) (c' : Nat), k ≤ n ∧ v = .int .i64 (k : Int) ∧ o = .slice a k c' ∧ Hid (Below w.heap.size w wr ∧ wr.ownsRow w.heap.size 53 2 (.slice a k c') k (((l.take k).map wsp).flatMap spL))) (fun _ v _ => n - (intOf v).toNat)
  case atStart => exact ⟨0, none, 0, Nat.zero_le _, rfl, rfl, hide ⟨Below.refl _ _, World.ownsRow_nil _ _ _ _⟩⟩
  case round =>
    obtain ⟨k, a, c', hk, rfl, rfl, hrel⟩ := hrel
    by_cases hlt : k < n
    · have hkl : k < l.length := by have := HN.out; omega
      have hlt2 : (k : Int) < (n : Int) := by omega
      obtain ⟨b, o, rfl, hab, x0, x1, x2⟩ := win_at (HH.out.below hrel.out.1) k hkl
      simp only at x0 x1 x2
      have hsz := hrel.out.1.size
      have hsn : ((l.take (k + 1)).map wsp).flatMap spL = ((l.take k).map wsp).flatMap spL ++ spL (l[k].st, l[k].len) := by rw [List.take_succ_eq_append_getElem hkl, List.map_append, List.flatMap_append]; simp [wsp]
      have HSN := hide hsn
      generalize l[k] = x at *
      obtain ⟨lo, len, part⟩ := x
      simp only at x0 x1 x2 HSN
      have hb0 := Blk.new wr 36 #[.int .u64 (lo : Int), .int .u64 (len : Int), .int .u16 (part : Int)]
      have y0 : (wr.alloc (.cells #[.int .u64 (lo : Int), .int .u64 (len : Int), .int .u16 (part : Int)] 36)).cell? ⟨wr.heap.size, 0, none⟩ = some (.int .u64 (lo : Int)) := hb0.cell 0
      have y1 : (wr.alloc (.cells #[.int .u64 (lo : Int), .int .u64 (len : Int), .int .u16 (part : Int)] 36)).cell? ⟨wr.heap.size, 1, none⟩ = some (.int .u64 (len : Int)) := hb0.cell 1
      have HC := hide (fun W g hg => sp_cells_at W (lo, len) 53 g hg)
      have H1 := hide (sp_one (lo, len))
      have hol := hide (own_block hrel.out.2)
      clear hb0 hsn
      go_wp2_with (at_builtin; go_must (refine wpList_append_own_at _ rfl (.tmp 12) (.tmp 18) 49 rfl w.heap.size 53 i0 _ 2 16 Tryz.underlying49 HII.out hz0 hz1 hz2 rfl (by decide) (.slice a k c') k (((l.take k).map wsp).flatMap spL) rfl ((hrel.out.2.alloc _).alloc _) _ 1 1 (spL (lo, len)) rfl rfl (HC.out _ _ (by simp)) H1.out (by simp only [maxLen]; omega) (by omega) (by simp; omega) ?_); intro v' w4 hown' hg hnl hat; obtain ⟨a4, k4, rfl⟩ := own_slice hown'; have HO4 := hide hown'; have HB4 := hide (((hrel.out.1.alloc (by omega) (.cells #[.int .u64 (lo : Int), .int .u64 (len : Int), .int .u16 (part : Int)] 36)).alloc (by simp; omega) (.cells #[.int .u64 (lo : Int), .int .u64 (len : Int)] 53)).grown hg (by simp; omega) (fun r hr => (hol.out r hr).1)); clear hown' hg hnl hat)
      go_roundw
      case rel =>
        have e1 := HO4.out
        rw [← HSN.out] at e1
        first | exact ⟨k + 1, a4, k4, by omega, by go_num, rfl, hide ⟨HB4.out, e1⟩⟩ | ((repeat apply Exists.intro); exact ⟨⟨k + 1, a4, k4, by omega, by go_num, rfl, hide ⟨HB4.out, e1⟩⟩, rfl⟩)
      case measure => simp [intOf]; omega
    · have hkn : k = n := by omega
      subst hkn
      have e1 := hrel.out.2
      rw [List.take_of_length_le (by have := HN.out; omega)] at e1
      have HE := hide e1
      clear hlt hk e1
      go_wp2
      go_ret
      refine ⟨a, c', by rw [List.length_map, ← HN.out]; rfl, by rw [List.length_map, ← HN.out]; exact HE.out, hrel.out.1⟩
end Go.Proofs.YthccadabblkalaaGreat
