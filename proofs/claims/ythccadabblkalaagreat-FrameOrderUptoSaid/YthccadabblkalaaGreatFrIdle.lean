/- frame.Idle (chapter 15). -/
import Derived.Test.YthccadabblkalaaGreatFrCheck
import Derived.Test.YthccadabblkalaaGreatFrWins
namespace Go.Proofs.YthccadabblkalaaGreat
open Go.RowKit Go.Sort
set_option linter.unusedVariables false

def idW (s : Nat × Nat) : WinR := ⟨s.1, s.2, 0⟩
set_option maxRecDepth 100000 in
set_option maxHeartbeats 8000000 in
theorem Idle_calls (c : Cfg) (w : World) (h : CfgAt w.heap.size c w) (hok : c.Ok) (hw : c.wins.l.length ≤ 1000) (hsp : ∀ s ∈ c.wins.l.map wsp, okSpan s) (hgl : (gapsR c.frame (c.wins.l.map wsp)).length ≤ 1000000) :
    Calls Tryz.prog 7 #[cfgV c] w (WinsV ((gapsR c.frame (c.wins.l.map wsp)).map idW) w) := by
  have hB0 := Boxed1.start w c
  have HSP := hide (fun W (hW : Boxed1 w c W) => spans_calls c.wins W (RowAt.more (h.wins.below hW.1) hW.1.size) (by omega))
  have HG := hide (fun W a c' b (hW : W.ownsRow b 53 2 (.slice a (c.wins.l.map wsp).length c') (c.wins.l.map wsp).length ((c.wins.l.map wsp).flatMap spL)) => Gaps_calls c.frame (c.wins.l.map wsp) b c' a W hok.frame hW (by rw [List.length_map]; exact hw))
  rw [gaps_eq c.frame hok.frame hsp] at HG
  obtain ⟨m, hm⟩ : ∃ m, m = (c.wins.l.map wsp).length := ⟨_, rfl⟩
  unfold GapsV at HSP
  rw [← hm] at HG HSP
  generalize gapsR c.frame (c.wins.l.map wsp) = gs at *
  obtain ⟨i0, hi, hz0, hz1, hz2⟩ := info_parts win_info3
  have HII := hide hi
  have HBC := hide (fun W (hW : Boxed1 w c W) => hW.cells)
  obtain ⟨n, hn⟩ : ∃ n, n = gs.length := ⟨_, rfl⟩
  have hnI : (n : Int) ≤ 1000000 := by omega
  have HN := hide hn
  unfold cfgV
  unfold cfgC at hB0
  have HB0 := hide hB0
  have mixed := mixed_prog
  clear h hok hw hsp hgl hm hB0 hi hn
  go_enter Tryz.func7, Tryz.ntmps7
  go_wp2
  generalize w.alloc (.cells #[.int .u64 (c.frame : Int), .slice c.parts.a c.parts.l.length c.parts.c, .slice c.wins.a c.wins.l.length c.wins.c, .slice c.regs.a c.regs.l.length c.regs.c, .slice c.ports.a c.ports.l.length c.ports.c, .slice c.chans.a c.chans.l.length c.chans.c] 29) = W0 at *
  have HSX : Hid (∀ w', Boxed1 w c w' → (w'.cell? ⟨w.heap.size, 0, none⟩ = some (.int .u64 (c.frame : Int)) ∧ w'.cell? ⟨w.heap.size, 2, none⟩ = some (.slice c.wins.a c.wins.l.length c.wins.c) ∧ Boxed1 w c w')) := hide (fun w' hw => by obtain ⟨a0, a1, a2, a3, a4, a5⟩ := HBC.out w' hw; exact ⟨a0, a2, hw⟩)
  go_region_held3 (fun w' => (w'.cell? ⟨w.heap.size, 0, none⟩ = some (.int .u64 (c.frame : Int)) ∧ w'.cell? ⟨w.heap.size, 2, none⟩ = some (.slice c.wins.a c.wins.l.length c.wins.c) ∧ Boxed1 w c w'))
    (first | assumption | exact HSX.out _ HB0.out.drewB | exact HSX.out _ (Boxed1.below (And.right (And.right (by assumption))) hbG) | exact HSX.out _ (Boxed1.below (And.right (And.right (by assumption))) hbS))
    (first
      | (go_at_call 20; refine (HSP.out _ (And.right (And.right (by assumption)))).mono ?_; rintro e w2 ⟨a2, c2, rfl, ho2, hbS⟩)
      | (go_at_call 19; refine (HG.out _ _ _ _ ho2).mono ?_; rintro e w3 ⟨a3, c3, rfl, ho3, hbG⟩))
  have hbw : Below w.heap.size w w3 := (And.right (And.right (by assumption : _ ∧ _ ∧ Boxed1 w c w3))).1
  rw [← HN.out] at ho3 ⊢
  have HB3 := hide hbw
  have HO3 := hide ho3
  clear hbw ho3 ho2 hbS hbG HSX HB0 HG HSP HBC
  go_wp2
  obtain ⟨wo, rfl⟩ : ∃ wo : World, wo = w3 := ⟨_, rfl⟩
  go_loopw [3, 13] (fun o v wr => ∃ (k : Nat) (a : Option Addr) (c' : Nat), k ≤ n ∧ v = .int .i64 (k : Int) ∧ o = .slice a k c' ∧ Hid (Below wo.heap.size wo wr ∧ wr.ownsRow w.heap.size 36 3 (.slice a k c') k (((gs.take k).map idW).flatMap winL) ∧ ∀ r, (Value.slice a k c').ownBlock = some r → wo.heap.size ≤ r)) (fun _ v _ => n - (intOf v).toNat)
  case atStart => exact ⟨0, none, 0, Nat.zero_le _, rfl, rfl, hide ⟨Below.refl _ _, World.ownsRow_nil _ _ _ _, fun r hr => by cases hr⟩⟩
  case round =>
    obtain ⟨k, a, c', hk, rfl, rfl, hrel⟩ := hrel
    by_cases hlt : k < n
    · have hkl : k < gs.length := by have := HN.out; omega
      have hlt2 : (k : Int) < (n : Int) := by omega
      obtain ⟨g, rfl, _, hgc, hgl, hcell⟩ := own_cells (enc := spL) spL_len (own_below HO3.out hrel.out.1) HN.out.symm k hkl
      have hcI : (n : Int) ≤ (c3 : Int) := by omega
      have x0 : wr.cell? ⟨g, k * 2, none⟩ = some (.int .u64 (gs[k].1 : Int)) := hcell 0 (by omega)
      have x1 : wr.cell? ⟨g, k * 2 + 1, none⟩ = some (.int .u64 (gs[k].2 : Int)) := hcell 1 (by omega)
      have hsz := hrel.out.1.size
      have hws := HB3.out.size
      have hsn : ((gs.take (k + 1)).map idW).flatMap winL = ((gs.take k).map idW).flatMap winL ++ winL ⟨gs[k].1, gs[k].2, 0⟩ := by rw [List.take_succ_eq_append_getElem hkl, List.map_append, List.flatMap_append]; simp [idW]
      have HSN := hide hsn
      generalize gs[k] = x at *
      obtain ⟨lo, len⟩ := x
      simp only at x0 x1 HSN
      have HC := hide (fun W g hg => wn_cells_at W ⟨lo, len, 0⟩ 36 g hg)
      have H1 := hide (wn_one ⟨lo, len, 0⟩)
      have hol := hide (own_block hrel.out.2.1)
      have hol2 := hide hrel.out.2.2
      clear hsn hcell
      go_wp2_with (at_builtin; go_must (refine wpList_append_own_at _ rfl (.tmp 17) (.tmp 23) 24 rfl w.heap.size 36 i0 _ 3 24 Tryz.underlying24 HII.out hz0 hz1 hz2 rfl (by decide) (.slice a k c') k (((gs.take k).map idW).flatMap winL) rfl ((hrel.out.2.1.alloc _).alloc _) _ 1 1 (winL ⟨lo, len, 0⟩) rfl rfl (HC.out _ _ (by simp)) H1.out (by simp only [maxLen]; omega) (by omega) (by simp; omega) ?_); intro v' w4 hown' hg hnl hat; obtain ⟨a4, k4, rfl⟩ := own_slice hown'; have HO4 := hide hown'; have HB4 := hide (((hrel.out.1.alloc (by omega) (.cells #[.int .u64 (lo : Int), .int .u64 (len : Int)] 53)).alloc (by simp; omega) (.cells #[.int .u64 (lo : Int), .int .u64 (len : Int), .int .u16 0] 36)).grown hg (by simp; omega) (fun r hr => hol2.out r hr)); have HA4 : Hid (∀ r, (Value.slice a4 (k + 1) k4).ownBlock = some r → wo.heap.size ≤ r) := hide (fun r hr => by rcases hat with h | h; exact hol2.out r (by rw [← h]; exact hr); (rw [h] at hr; injection hr with hr; simp at hr; omega)); clear hown' hg hnl hat)
      go_roundw
      case rel =>
        have e1 := HO4.out
        rw [← HSN.out] at e1
        first | exact ⟨k + 1, a4, k4, by omega, by go_num, rfl, hide ⟨HB4.out, e1, HA4.out⟩⟩ | ((repeat apply Exists.intro); exact ⟨⟨k + 1, a4, k4, by omega, by go_num, rfl, hide ⟨HB4.out, e1, HA4.out⟩⟩, rfl⟩)
      case measure => simp [intOf]; omega
    · have hkn : k = n := by omega
      subst hkn
      have e1 := hrel.out.2.1
      rw [List.take_of_length_le (by have := HN.out; omega)] at e1
      have HE := hide e1
      clear hlt hk e1
      go_wp2
      go_ret
      refine ⟨a, c', by rw [List.length_map, ← HN.out]; rfl, by rw [List.length_map, ← HN.out]; exact HE.out, HB3.out.trans (hrel.out.1.mono HB3.out.size)⟩
end Go.Proofs.YthccadabblkalaaGreat
