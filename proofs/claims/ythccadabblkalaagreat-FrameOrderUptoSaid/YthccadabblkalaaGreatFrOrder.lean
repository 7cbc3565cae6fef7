/- frame.Order (chapter 15). -/
import Derived.Test.YthccadabblkalaaGreatWvSort
namespace Go.Proofs.YthccadabblkalaaGreat
open Go.RowKit Go.Sort
set_option linter.unusedVariables false

/-- A list of numbers of 16 bits in a row of the call's own. -/
def U16V (l : List Nat) (w : World) (e : Ending) (w' : World) : Prop :=
  ∃ a c, e = .returned (.slice a l.length c) ∧ w'.ownsRow w.heap.size 34 1 (.slice a l.length c) l.length (l.map destL) ∧ Below w.heap.size w w'
theorem u16_info : (Tryz.prog.info? 34).map (fun i => (i.zero, i.size, i.bytes)) = some (some (.int .u16 0), 1, 2) := by kernel_rfl
def partsOf (l : List WinR) : List Nat := l.map (·.part)
def OrderV (c : Cfg) (w : World) (e : Ending) (w' : World) : Prop := ∃ out : List WinR, out.Perm c.wins.l ∧ AscW out ∧ U16V (partsOf out) w e w'
set_option maxRecDepth 100000 in
set_option maxHeartbeats 8000000 in
theorem Order_calls (c : Cfg) (w : World) (h : CfgAt w.heap.size c w) (hw : c.wins.l.length ≤ 1000) :
    Calls Tryz.prog 12 #[cfgV c] w (OrderV c w) := by
  have hB0 := Boxed1.start w c
  have HV := hide (fun W (hW : Boxed1 w c W) => Values_env c.wins W (hW.cfg h).wins)
  have HS := hide (fun B W (hW : VaEnv W.heap.size B c.wins W) => SortedF_calls c.wins B W.heap.size W hW (Nat.le_refl _) (by omega))
  have HLW := hide hw
  obtain ⟨i0, hi, hz0, hz1, hz2⟩ := info_parts u16_info
  have HII := hide hi
  have HBC := hide (fun W (hW : Boxed1 w c W) => hW.cells)
  unfold cfgV
  unfold cfgC at hB0
  have HB0 := hide hB0
  clear h hw hB0 hi
  go_enter Tryz.func12, Tryz.ntmps12
  obtain ⟨b0, b1, b2, b3, b4, b5⟩ := HBC.out _ HB0.out
  go_wp2_with (first
    | (go_at_call 22; refine (HV.out _ HB0.out).mono ?_; rintro e w1 ⟨B, rfl, hva, hb⟩; have HVA := hide hva; have HB1 := hide (HB0.out.below hb); clear hva hb)
    | (go_at_call 21; refine (HS.out _ _ HVA.out).mono ?_; rintro e w2 ⟨out, hp, ha, a2, c2, rfl, ho, hb⟩; have HP := hide hp; have HA := hide ha; have HO := hide ho; have HB := hide (HB1.out.below hb); clear hp ha ho hb))
  clear b0 b1 b2 b3 b4 b5
  obtain ⟨n, hn⟩ : ∃ n, n = out.length := ⟨_, rfl⟩
  have hnI : (n : Int) ≤ 1000 := by have := HLW.out; have := HP.out.length_eq; omega
  have HN := hide hn
  rw [← hn] at HO ⊢
  clear hn
  obtain ⟨wo, rfl⟩ : ∃ wo : World, wo = w2 := ⟨_, rfl⟩
  go_loopw [4, 13] (fun o v wr => ∃ (k : Nat) (a : Option Addr) (c' : Nat), k ≤ n ∧ v = .int .i64 (k : Int) ∧ o = .slice a k c' ∧ Hid (Below wo.heap.size wo wr ∧ wr.ownsRow w.heap.size 34 1 (.slice a k c') k ((partsOf (out.take k)).map destL) ∧ ∀ r, (Value.slice a k c').ownBlock = some r → wo.heap.size ≤ r)) (fun _ v _ => n - (intOf v).toNat)
  case atStart => exact ⟨0, none, 0, Nat.zero_le _, rfl, rfl, hide ⟨Below.refl _ _, World.ownsRow_nil _ _ _ _, fun r hr => by cases hr⟩⟩
  case round =>
    obtain ⟨k, a, c', hk, rfl, rfl, hrel⟩ := hrel
    by_cases hlt : k < n
    · have hkl : k < out.length := by have := HN.out; omega
      have hlt2 : (k : Int) < (n : Int) := by omega
      obtain ⟨g, rfl, _, hgc, hgl, hcell⟩ := own_cells (enc := winL) winL_len (own_below HO.out hrel.out.1) HN.out.symm k hkl
      have hcI : (n : Int) ≤ (c2 : Int) := by omega
      have x0 : wr.cell? ⟨g, k * 3, none⟩ = some (.int .u64 (out[k].st : Int)) := hcell 0 (by omega)
      have x1 : wr.cell? ⟨g, k * 3 + 1, none⟩ = some (.int .u64 (out[k].len : Int)) := hcell 1 (by omega)
      have x2 : wr.cell? ⟨g, k * 3 + 2, none⟩ = some (.int .u16 (out[k].part : Int)) := hcell 2 (by omega)
      have hsz := hrel.out.1.size
      have hws := HB.out.1.size
      have hsn : (partsOf (out.take (k + 1))).map destL = (partsOf (out.take k)).map destL ++ [.int .u16 (out[k].part : Int)] := by unfold partsOf; rw [List.take_succ_eq_append_getElem hkl, List.map_append, List.map_append]; rfl
      have HSN := hide hsn
      generalize out[k] = x at *
      obtain ⟨lo, len, pt⟩ := x
      simp only at x0 x1 x2 HSN
      have HC := hide (fun W g hg => cell_one_at W (.int .u16 (pt : Int)) 34 g hg)
      have H1 : Hid (∀ u ∈ [Value.int .u16 (pt : Int)], u.oneCell' = true) := hide (fun u hu => by rw [List.mem_singleton] at hu; subst hu; rfl)
      have hol2 := hide hrel.out.2.2
      clear hsn hcell
      go_wp2_with (at_builtin; go_must (refine wpList_append_own_at _ rfl (.tmp 17) (.tmp 20) 33 rfl w.heap.size 34 i0 _ 1 2 Tryz.underlying33 HII.out hz0 hz1 hz2 rfl (by decide) (.slice a k c') k ((partsOf (out.take k)).map destL) rfl ((hrel.out.2.1.alloc _).alloc _) _ 1 1 [.int .u16 (pt : Int)] rfl rfl (HC.out _ _ (by simp)) H1.out (by simp only [maxLen]; omega) (by omega) (by simp; omega) ?_); intro v' w4 hown' hg hnl hat; obtain ⟨a4, k4, rfl⟩ := own_slice hown'; have HO4 := hide hown'; have HB4 := hide (((hrel.out.1.alloc (by omega) (.cells #[.int .u64 (lo : Int), .int .u64 (len : Int), .int .u16 (pt : Int)] 36)).alloc (by simp; omega) (.cells #[.int .u16 (pt : Int)] 34)).grown hg (by simp; omega) (fun r hr => hol2.out r hr)); have HA4 : Hid (∀ r, (Value.slice a4 (k + 1) k4).ownBlock = some r → wo.heap.size ≤ r) := hide (fun r hr => by rcases hat with h | h; exact hol2.out r (by rw [← h]; exact hr); (rw [h] at hr; injection hr with hr; simp at hr; omega)); clear hown' hg hnl hat)
      go_roundw
      case rel =>
        have e1 := HO4.out
        rw [← HSN.out] at e1
        first | exact ⟨k + 1, a4, k4, by omega, by go_num, rfl, hide ⟨HB4.out, e1, HA4.out⟩⟩ | ((repeat apply Exists.intro); exact ⟨⟨k + 1, a4, k4, by omega, by go_num, rfl, hide ⟨HB4.out, e1, HA4.out⟩⟩, rfl⟩)
      case measure => simp [intOf]; omega
    · have hkn : k = n := by omega
      subst hkn
      have e1 := hrel.out.2.1
      rw [List.take_of_length_le (by have := HN.out; omega)] at e1
      have HE := hide e1
      clear hlt hk e1
      go_wp2
      go_ret
      have e2 : (partsOf out).length = k := by unfold partsOf; rw [List.length_map, ← HN.out]
      refine ⟨out, HP.out, HA.out, a, c', by rw [e2]; rfl, by rw [e2]; exact HE.out, HB.out.1.trans (hrel.out.1.mono HB.out.1.size)⟩
end Go.Proofs.YthccadabblkalaaGreat
