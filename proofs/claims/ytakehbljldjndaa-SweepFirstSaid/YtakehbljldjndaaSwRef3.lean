/- The walk of fenestraref14.Pairs (chapter 14). -/
import Derived.Test.YtakehbljldjndaaSwRef2
import Derived.Test.YtakehbljldjndaaSwMeets
namespace Go.Proofs.Ytakehbljldjndaa
open Go.RowKit Go.Sort
set_option linter.unusedVariables false

def rowsTo (l : List (Nat × Nat)) (k : Nat) : List (Nat × Nat) := (List.range k).flatMap fun i => rowR l i l.length
theorem rowsTo_succ (l : List (Nat × Nat)) (k : Nat) : rowsTo l (k + 1) = rowsTo l k ++ rowR l k l.length := by
  unfold rowsTo; rw [List.range_succ, List.flatMap_append]; simp
theorem rowR_start (l : List (Nat × Nat)) (i : Nat) : rowR l i (i + 1) = [] := by
  unfold rowR
  rw [List.map_eq_nil_iff, List.filter_eq_nil_iff]
  intro j hj
  rw [List.mem_range] at hj
  simp; omega
theorem rowR_yes (l : List (Nat × Nat)) (i j : Nat) (h : i < j) (hm : meetS l[i]! l[j]! = true) : rowR l i (j + 1) = rowR l i j ++ [(i, j)] := by
  unfold rowR
  rw [List.range_succ, List.filter_append, List.map_append, List.filter_cons_of_pos (by rw [hm]; simp [h]), List.filter_nil]; rfl
theorem rowR_no (l : List (Nat × Nat)) (i j : Nat) (hm : meetS l[i]! l[j]! = false) : rowR l i (j + 1) = rowR l i j := by
  unfold rowR
  rw [List.range_succ, List.filter_append, List.map_append, List.filter_cons_of_neg (by rw [hm]; simp), List.filter_nil]; simp
theorem rowR_len (l : List (Nat × Nat)) (i m : Nat) : (rowR l i m).length ≤ m := by
  unfold rowR
  rw [List.length_map]
  exact Nat.le_trans (List.length_filter_le _ _) (by rw [List.length_range]; exact Nat.le_refl _)
theorem rowsTo_len (l : List (Nat × Nat)) (k : Nat) : (rowsTo l k).length ≤ k * l.length := by
  induction k with
  | zero => simp [rowsTo]
  | succ k ih =>
    rw [rowsTo_succ, List.length_append]
    have := rowR_len l k l.length
    rw [Nat.succ_mul]; omega
/-- What stands at the head of a round. -/
def RPR (w : World) (a : Option Addr) (c : Nat) (ps : List (Nat × Nat)) (wr : World) : Prop := Below w.heap.size w wr ∧ wr.ownsRow w.heap.size 27 2 (.slice a ps.length c) ps.length (ps.flatMap prL)
set_option maxRecDepth 100000 in
set_option maxHeartbeats 8000000 in
theorem RPairs_calls (l : List (Nat × Nat)) (c : Nat) (A : Option Addr) (w : World) (h : SpArg w.heap.size A c l w) (hok : ∀ s ∈ l, okSpan s) (hl : l.length ≤ 1000) :
    Calls Try.prog 14 #[.slice A l.length c] w (PairsV (pairsR l) w) := by
  have HH := hide h
  have HK := hide hok
  have hcap := h.2
  obtain ⟨i0, hi, hz0, hz1, hz2⟩ := info_parts pair_info3
  have HII := hide hi
  have mixed := mixed_prog
  obtain ⟨n, hn⟩ : ∃ n, n = l.length := ⟨_, rfl⟩
  have HN := hide hn
  have hp : pairsR l = rowsTo l l.length := rfl
  rw [← hn] at hcap hp ⊢
  rw [hp]
  have hnI : (n : Int) ≤ 1000 := by omega
  have hcI : (n : Int) ≤ (c : Int) := by omega
  clear h hn hcap hl hi hp hok
  go_enter Try.func14, Try.ntmps14
  go_wp2
  go_loopw [3, 4] (fun o v wr => ∃ (k m : Nat) (a : Option Addr) (c' : Nat), k ≤ n ∧ v = .int .i64 (k : Int) ∧ o = .slice a m c' ∧ Hid (m = (rowsTo l k).length ∧ RPR w a c' (rowsTo l k) wr)) (fun _ v _ => n - (intOf v).toNat)
  case atStart => exact ⟨0, 0, none, 0, Nat.zero_le _, rfl, rfl, hide ⟨rfl, Below.refl _ _, World.ownsRow_nil _ _ _ _⟩⟩
  case round =>
    obtain ⟨i, m, a, c', hk, rfl, rfl, hrel⟩ := hrel
    by_cases hlt : i < n
    · have hlt2 : (i : Int) < (n : Int) := by omega
      have H0 : Hid (m = (rowsTo l i ++ rowR l i (i + 1)).length ∧ RPR w a c' (rowsTo l i ++ rowR l i (i + 1)) wr) := hide (by rw [rowR_start, List.append_nil]; exact hrel.out)
      clear hrel
      go_wp2
      obtain ⟨wo, rfl⟩ : ∃ wo : World, wo = wr := ⟨_, rfl⟩
      go_loopw [3, 5] (fun o v wr => ∃ (j m : Nat) (a : Option Addr) (c' : Nat), j ≤ n ∧ i < j ∧ v = .int .i64 (j : Int) ∧ o = .slice a m c' ∧ Hid (m = (rowsTo l i ++ rowR l i j).length ∧ RPR w a c' (rowsTo l i ++ rowR l i j) wr)) (fun _ v _ => n - (intOf v).toNat)
      case atStart => exact ⟨i + 1, m, a, c', by omega, by omega, by go_num, rfl, H0⟩
      case round =>
        obtain ⟨j, m1, a1, c1, hj, hij, rfl, rfl, hrel⟩ := hrel
        by_cases hjn : j < n
        · have hjn2 : (j : Int) < (n : Int) := by omega
          have hil : i < l.length := by have := HN.out; omega
          have hjl : j < l.length := by have := HN.out; omega
          obtain ⟨b, o, rfl, hab, x0, x1⟩ := (HH.out.below hrel.out.2.1).at_ i hil
          obtain ⟨b2, o2, e2, _, y0, y1⟩ := (HH.out.below hrel.out.2.1).at_ j hjl
          injection e2 with e2
          injection e2 with e2 e3 _
          subst e2 e3
          have hsz := hrel.out.2.1.size
          have hms := meet_ok (HK.out l[i] (List.getElem_mem _)) (HK.out l[j] (List.getElem_mem _))
          have hmeet := fun W => RMeet_gr l[i] l[j] W
          rw [hms.2.1] at hmeet
          have hgi : l[i]! = l[i] := getElem!_pos l i hil
          have hgj : l[j]! = l[j] := getElem!_pos l j hjl
          have HMS : Hid (meetS l[i]! l[j]! = meetS l[i] l[j]) := hide (by rw [hgi, hgj])
          clear hms hgi hgj
          generalize meetS l[i] l[j] = mb at *
          generalize l[i] = si at *
          generalize l[j] = sj at *
          obtain ⟨lo, len⟩ := si
          obtain ⟨lp, lem⟩ := sj
          simp only at hmeet x0 x1 y0 y1
          have HMT := hide hmeet
          have g0 := fun n os => cell_grown (cell_lt x0) x0 n os
          have g1 := fun n os => cell_grown (cell_lt x1) x1 n os
          have g2 := fun n os => cell_grown (cell_lt y0) y0 n os
          have g3 := fun n os => cell_grown (cell_lt y1) y1 n os
          have hml : m1 ≤ 2000000 := by
            have h1 := rowsTo_len l i
            have h2 := rowR_len l i j
            have h3 := hrel.out.1
            rw [List.length_append] at h3
            have h5 := HN.out
            have h4 : i * l.length ≤ 1000 * 1000 := Nat.mul_le_mul (by omega) (by omega)
            omega
          clear hmeet x0 x1 y0 y1
          cases mb
          · go_wp2_with fail
            go_quiet_grown ((go_at_call 22; exact Calls.grown_of (HMT.out _)))
            have hb2 := hrel.out.2.1.trans ((Gr.below ⟨nq, osq, rfl⟩ : Below wr.heap.size wr (grow (wr.drewN nq) osq)).mono hsz)
            have ho2 := own_below hrel.out.2.2 (Gr.below ⟨nq, osq, rfl⟩ : Below wr.heap.size wr (grow (wr.drewN nq) osq))
            have HB2 := hide hb2
            have HO2 := hide ho2
            clear g0 g1 g2 g3 hb2 ho2
            generalize grow (wr.drewN nq) osq = w2 at *
            go_wp2
            go_roundw
            case rel => exact ⟨j + 1, m1, a1, c1, by omega, by omega, by go_num, rfl, hide (by rw [rowR_no l i j HMS.out]; exact ⟨hrel.out.1, HB2.out, HO2.out⟩)⟩
            case measure => simp [intOf]; omega
          · go_wp2_with fail
            go_quiet_grown ((go_at_call 22; exact Calls.grown_of (HMT.out _)))
            have hb2 := hrel.out.2.1.trans ((Gr.below ⟨nq, osq, rfl⟩ : Below wr.heap.size wr (grow (wr.drewN nq) osq)).mono hsz)
            have ho2 := own_below hrel.out.2.2 (Gr.below ⟨nq, osq, rfl⟩ : Below wr.heap.size wr (grow (wr.drewN nq) osq))
            rw [← hrel.out.1] at ho2
            have HB2 := hide hb2
            have HO2 := hide ho2
            have hs2 := hb2.size
            have hol := hide (own_block ho2)
            have HC := hide (fun W g hg => pr_cells W (i, j) 27 g hg)
            have H1 := hide (pr_one (i, j))
            have HP := hide (show rowsTo l i ++ rowR l i (j + 1) = rowsTo l i ++ rowR l i j ++ [(i, j)] by rw [rowR_yes l i j hij HMS.out, List.append_assoc])
            clear g0 g1 g2 g3 hb2 ho2
            generalize grow (wr.drewN nq) osq = w2 at *
            go_wp2_with (at_builtin; go_must (refine wpList_append_own_at _ rfl (.tmp 29) (.tmp 33) 26 rfl w.heap.size 27 i0 _ 2 16 Try.underlying26 HII.out hz0 hz1 hz2 rfl (by decide) (.slice a1 m1 c1) m1 ((rowsTo l i ++ rowR l i j).flatMap prL) rfl (HO2.out.alloc _) _ 1 1 (prL (i, j)) rfl rfl (HC.out _ _ (by simp)) H1.out (by simp only [maxLen]; omega) (by omega) (by simp; omega) ?_); intro v' w4 hown' hg hnl hat; obtain ⟨a4, k4, rfl⟩ := own_slice hown'; have HO4 := hide hown'; have HB4 := hide ((HB2.out.alloc (by omega) (.cells #[.int .i64 (i : Int), .int .i64 (j : Int)] 27)).grown hg (by simp; omega) (fun r hr => (hol.out r hr).1)); clear hown' hg hnl hat)
            go_roundw
            case rel =>
              have e1 := HO4.out
              have e2 : (rowsTo l i ++ rowR l i (j + 1)).flatMap prL = (rowsTo l i ++ rowR l i j).flatMap prL ++ prL (i, j) := by rw [HP.out, List.flatMap_append]; simp
              have e3 : m1 + 1 = (rowsTo l i ++ rowR l i (j + 1)).length := by rw [HP.out, List.length_append, ← hrel.out.1]; rfl
              have hfin : Hid (m1 + 1 = (rowsTo l i ++ rowR l i (j + 1)).length ∧ RPR w a4 k4 (rowsTo l i ++ rowR l i (j + 1)) w4) := hide ⟨e3, HB4.out, by rw [e2, ← e3]; exact e1⟩
              first | exact ⟨j + 1, m1 + 1, a4, k4, by omega, by omega, by go_num, rfl, hfin⟩ | ((repeat apply Exists.intro); exact ⟨⟨j + 1, m1 + 1, a4, k4, by omega, by omega, by go_num, rfl, hfin⟩, rfl⟩)
            case measure => simp [intOf]; omega
        · have hjn2 : j = n := by omega
          subst hjn2
          have HF : Hid (m1 = (rowsTo l (i + 1)).length ∧ RPR w a1 c1 (rowsTo l (i + 1)) wr) := hide (by rw [rowsTo_succ, ← HN.out]; exact hrel.out)
          clear hj hjn
          go_wp2
          go_roundw
          case rel => exact ⟨i + 1, m1, a1, c1, by omega, by go_num, rfl, HF⟩
          case measure => simp [intOf]; omega
    · have hkn : i = n := by omega
      subst hkn
      clear hlt hk
      go_wp2
      go_ret
      exact ⟨a, c', by rw [← hrel.out.1]; rfl, hrel.out.2.2, hrel.out.2.1⟩
end Go.Proofs.Ytakehbljldjndaa
