/- The walk of fenestraref14.Depth (chapter 14). -/
import Derived.Test.YtakehbljldjndaaSwRef2
import Derived.Test.YtakehbljldjndaaSwMeets
namespace Go.Proofs.Ytakehbljldjndaa
open Go.RowKit Go.Sort
set_option linter.unusedVariables false

def cntTo (l : List (Nat × Nat)) (t k : Nat) : Nat := (l.take k).countP fun s => hasS s t
theorem cntTo_succ (l : List (Nat × Nat)) (t k : Nat) (h : k < l.length) : cntTo l t (k + 1) = cntTo l t k + if hasS l[k] t = true then 1 else 0 := by
  unfold cntTo
  rw [List.take_succ_eq_append_getElem h, List.countP_append, List.countP_cons, List.countP_nil]
  simp
theorem cntTo_le (l : List (Nat × Nat)) (t k : Nat) : cntTo l t k ≤ k := by
  unfold cntTo
  exact Nat.le_trans List.countP_le_length (by rw [List.length_take]; omega)
theorem cntTo_all (l : List (Nat × Nat)) (t : Nat) : cntTo l t l.length = countAt l t := by
  unfold cntTo countAt; rw [List.take_of_length_le (Nat.le_refl _)]
def depTo (l : List (Nat × Nat)) (k : Nat) : Nat := maxOf (fun s => countAt l s.1) (l.take k)
theorem depTo_succ (l : List (Nat × Nat)) (k : Nat) (h : k < l.length) : depTo l (k + 1) = max (depTo l k) (countAt l l[k].1) := by
  unfold depTo; rw [List.take_succ_eq_append_getElem h, maxOf_snoc]
theorem depTo_le (l : List (Nat × Nat)) (k : Nat) : depTo l k ≤ l.length := maxOf_le _ fun s _ => List.countP_le_length
theorem has_ok {s : Nat × Nat} (h : okSpan s) (t : Nat) : Go.Proofs.Ytakehbljldjndaa.hasB s t = hasS s t := by
  unfold Go.Proofs.Ytakehbljldjndaa.hasB hasS lastS
  rw [(lastW_ok h).1]
set_option maxRecDepth 100000 in
set_option maxHeartbeats 8000000 in
theorem RDepth_calls (l : List (Nat × Nat)) (c : Nat) (A : Option Addr) (w : World) (h : SpArg w.heap.size A c l w) (hok : ∀ s ∈ l, okSpan s) (hl : l.length ≤ 1000) :
    Calls Try.prog 16 #[.slice A l.length c] w fun e w' => e = .returned (.int .i64 ((depthR l : Nat) : Int)) ∧ Below w.heap.size w w' := by
  have HH := hide h
  have HK := hide hok
  have hcap := h.2
  have mixed := mixed_prog
  obtain ⟨n, hn⟩ : ∃ n, n = l.length := ⟨_, rfl⟩
  have HN := hide hn
  have hp : depthR l = depTo l l.length := by unfold depTo depthR; rw [List.take_of_length_le (Nat.le_refl _)]
  rw [← hn] at hcap hp ⊢
  rw [hp]
  have hnI : (n : Int) ≤ 1000 := by omega
  have hcI : (n : Int) ≤ (c : Int) := by omega
  clear h hn hcap hl hp hok
  go_enter Try.func16, Try.ntmps16
  go_wp2
  go_loopw [3, 4] (fun o v wr => ∃ (k m : Nat), k ≤ n ∧ v = .int .i64 (k : Int) ∧ o = .int .i64 (m : Int) ∧ Hid (m = depTo l k ∧ Below w.heap.size w wr)) (fun _ v _ => n - (intOf v).toNat)
  case atStart => exact ⟨0, 0, Nat.zero_le _, rfl, rfl, hide ⟨rfl, Below.refl _ _⟩⟩
  case round =>
    obtain ⟨i, m, hk, rfl, rfl, hrel⟩ := hrel
    by_cases hlt : i < n
    · have hlt2 : (i : Int) < (n : Int) := by omega
      have hil : i < l.length := by have := HN.out; omega
      have H0 : Hid (0 = cntTo l l[i].1 0 ∧ Below w.heap.size w wr) := hide ⟨rfl, hrel.out.2⟩
      have HM : Hid (m = depTo l i) := hide hrel.out.1
      have hmI : (m : Int) ≤ 1000 := by have := depTo_le l i; have := HM.out; have := HN.out; omega
      clear hrel
      go_wp2
      obtain ⟨wo, rfl⟩ : ∃ wo : World, wo = wr := ⟨_, rfl⟩
      go_loopw [5, 6] (fun o v wr => ∃ (j q : Nat), j ≤ n ∧ v = .int .i64 (j : Int) ∧ o = .int .i64 (q : Int) ∧ Hid (q = cntTo l l[i].1 j ∧ Below w.heap.size w wr)) (fun _ v _ => n - (intOf v).toNat)
      case atStart => exact ⟨0, 0, Nat.zero_le _, rfl, rfl, H0⟩
      case round =>
        obtain ⟨j, q, hj, rfl, rfl, hrel⟩ := hrel
        by_cases hjn : j < n
        · have hjn2 : (j : Int) < (n : Int) := by omega
          have hjl : j < l.length := by have := HN.out; omega
          obtain ⟨b, o, rfl, hab, x0, x1⟩ := (HH.out.below hrel.out.2).at_ i hil
          obtain ⟨b2, o2, e2, _, y0, y1⟩ := (HH.out.below hrel.out.2).at_ j hjl
          injection e2 with e2
          injection e2 with e2 e3 _
          subst e2 e3
          have hsz := hrel.out.2.size
          have hms := has_ok (HK.out l[j] (List.getElem_mem _)) l[i].1
          have hmeet := fun W => RHas_gr l[j] l[i].1 W
          rw [hms] at hmeet
          have HCS := hide (cntTo_succ l l[i].1 j hjl)
          have hqI : (q : Int) ≤ 1000 := by have := cntTo_le l l[i].1 j; have := hrel.out.1; omega
          clear hms
          generalize hasS l[j] l[i].1 = mb at *
          generalize l[i].1 = lo at *
          generalize l[j] = sj at *
          obtain ⟨lp, lem⟩ := sj
          simp only at hmeet y0 y1
          have HMT := hide hmeet
          have g0 := fun n os => cell_grown (cell_lt x0) x0 n os
          have g2 := fun n os => cell_grown (cell_lt y0) y0 n os
          have g3 := fun n os => cell_grown (cell_lt y1) y1 n os
          clear hmeet x0 x1 y0 y1
          cases mb
          · go_wp2_with fail
            go_quiet_grown ((go_at_call 35; exact Calls.grown_of (HMT.out _)))
            have HB2 := hide (hrel.out.2.trans ((Gr.below ⟨nq, osq, rfl⟩ : Below wr.heap.size wr (grow (wr.drewN nq) osq)).mono hsz))
            clear g0 g2 g3
            generalize grow (wr.drewN nq) osq = w2 at *
            go_wp2
            go_roundw
            case rel => exact ⟨j + 1, q, by omega, by go_num, rfl, hide ⟨by rw [HCS.out, hrel.out.1]; simp, HB2.out⟩⟩
            case measure => simp [intOf]; omega
          · go_wp2_with fail
            go_quiet_grown ((go_at_call 35; exact Calls.grown_of (HMT.out _)))
            have HB2 := hide (hrel.out.2.trans ((Gr.below ⟨nq, osq, rfl⟩ : Below wr.heap.size wr (grow (wr.drewN nq) osq)).mono hsz))
            clear g0 g2 g3
            generalize grow (wr.drewN nq) osq = w2 at *
            go_wp2
            go_roundw
            case rel => exact ⟨j + 1, q + 1, by omega, by go_num, by go_num, hide ⟨by rw [HCS.out, hrel.out.1]; simp, HB2.out⟩⟩
            case measure => simp [intOf]; omega
        · have hjn2 : j = n := by omega
          subst hjn2
          have HQ : Hid (q = countAt l l[i].1) := hide (by rw [hrel.out.1, HN.out, cntTo_all])
          have hqI : (q : Int) ≤ 1000 := by have := cntTo_le l l[i].1 j; have := hrel.out.1; omega
          obtain ⟨M, hM⟩ : ∃ M, M = max m q := ⟨_, rfl⟩
          have hmax : max (m : Int) (q : Int) = (M : Int) := by rw [hM]; omega
          have HF : Hid (M = depTo l (i + 1) ∧ Below w.heap.size w wr) := hide ⟨by rw [depTo_succ l i hil, hM, HM.out, HQ.out], hrel.out.2⟩
          clear hj hjn hM
          go_wp2
          go_roundw
          case rel => exact ⟨i + 1, M, by omega, by go_num, rfl, HF⟩
          case measure => simp [intOf]; omega
    · have hkn : i = n := by omega
      subst hkn
      clear hlt hk
      go_wp2
      go_ret
      exact ⟨by rw [← hrel.out.1]; rfl, hrel.out.2⟩
end Go.Proofs.Ytakehbljldjndaa
