/- The walk of fenestraref14.Gaps (chapter 14). -/
import Derived.Test.YtakehbljldjndaaSwRef5
namespace Go.Proofs.Ytakehbljldjndaa
open Go.RowKit Go.Sort
set_option linter.unusedVariables false

def gapTo (total : Nat) (l : List (Nat × Nat)) (k : Nat) : List (Nat × Nat) := (l.take k).foldl Go.Proofs.Ytakehbljldjndaa.cutR [(0, total)]
theorem gapTo_succ (total : Nat) (l : List (Nat × Nat)) (k : Nat) (h : k < l.length) : gapTo total l (k + 1) = cutR (gapTo total l k) l[k] := by
  unfold gapTo; rw [List.take_succ_eq_append_getElem h, List.foldl_append]; rfl
theorem gapTo_ok (total : Nat) (ht : 0 < total) (h2 : total < 18446744073709551616) {l : List (Nat × Nat)} (hl : ∀ s ∈ l, okSpan s) (k : Nat) : ∀ s ∈ gapTo total l k, okSpan s := by
  have h : gapTo total l k = gapsR total (l.take k) := by unfold gapTo gapsR; rw [if_neg (by omega)]
  rw [h]
  intro s hs
  have := gapsR_ok total (l := l.take k) (fun s hs => hl s (List.mem_of_mem_take hs)) s hs
  unfold okSpan
  omega
theorem gapTo_len (total : Nat) (ht : 0 < total) (h2 : total < 18446744073709551616) {l : List (Nat × Nat)} (hl : ∀ s ∈ l, okSpan s) (k : Nat) : (gapTo total l k).length ≤ l.length + 1 := by
  have h : gapTo total l k = gapsR total (l.take k) := by unfold gapTo gapsR; rw [if_neg (by omega)]
  rw [h, ← gaps_eq total h2 (fun s hs => hl s (List.mem_of_mem_take hs))]
  unfold gapsV
  have h1 := gadd_len total (gaps0 total ((visitL (l.take k)).map Prod.fst))
  have h3 := (gaps0_small total ((visitL (l.take k)).map Prod.fst)).1
  rw [List.length_map, visitL_length, List.length_take] at h3
  omega
/-- In the loop of the reference's Gaps. -/
def RGS (w : World) (a : Option Addr) (c m : Nat) (P : List (Nat × Nat)) (wr : World) : Prop := m = P.length ∧ Below w.heap.size w wr ∧ wr.ownsRow w.heap.size 39 2 (.slice a m c) m (P.flatMap spL)
set_option maxRecDepth 100000 in
set_option maxHeartbeats 8000000 in
theorem RGaps_calls (total : Nat) (l : List (Nat × Nat)) (c : Nat) (A : Option Addr) (w : World) (ht : total < 18446744073709551616) (h : SpArg w.heap.size A c l w) (hok : ∀ s ∈ l, okSpan s) (hl : l.length ≤ 1000) :
    Calls Try.prog 18 #[.int .u64 (total : Int), .slice A l.length c] w (CutV (gapsR total l) w) := by
  have HH := hide h
  have HK := hide hok
  have hcap := h.2
  obtain ⟨n, hn⟩ : ∃ n, n = l.length := ⟨_, rfl⟩
  have HN := hide hn
  rw [← hn] at hcap ⊢
  have hnI : (n : Int) ≤ 1000 := by omega
  have hcI : (n : Int) ≤ (c : Int) := by omega
  by_cases h0 : total = 0
  · subst h0
    have e : gapsR 0 l = [] := by unfold gapsR; rw [if_pos rfl]
    rw [e]
    clear h hn hcap hl hok e
    go_enter Try.func18, Try.ntmps18
    go_wp2
    go_ret
    exact ⟨none, 0, rfl, World.ownsRow_nil _ _ _ _, Below.refl _ _⟩
  · have e1 : ((total : Int) == 0) = false := by rw [beq_eq_false_iff_ne]; omega
    have e2 : gapsR total l = gapTo total l n := by unfold gapTo gapsR; rw [if_neg h0, List.take_of_length_le (by omega)]
    rw [e2]
    have HT := hide (And.intro (show 0 < total by omega) ht)
    have H0 : Hid (RGS w (some ⟨w.heap.size, 0, none⟩) 1 1 (gapTo total l 0) (w.alloc (.cells #[.int .u64 0, .int .u64 (total : Int)] 39))) := by
      refine hide ⟨rfl, (Below.refl _ w).alloc (Nat.le_refl _) _, ?_⟩
      exact own_new w w.heap.size 1 2 39 #[.int .u64 0, .int .u64 (total : Int)] _ (Nat.le_refl _) rfl rfl (by omega)
    clear h hn hcap hl hok e2 h0 ht
    go_enter Try.func18, Try.ntmps18
    go_wp2
    go_loopw [5, 6] (fun o v wr => ∃ (k m : Nat) (a : Option Addr) (c' : Nat), k ≤ n ∧ v = .int .i64 (k : Int) ∧ o = .slice a m c' ∧ Hid (RGS w a c' m (gapTo total l k) wr)) (fun _ v _ => n - (intOf v).toNat)
    case atStart => exact ⟨0, 1, _, 1, Nat.zero_le _, rfl, rfl, H0⟩
    case round =>
      obtain ⟨k, m, a, c', hk, rfl, rfl, hrel⟩ := hrel
      by_cases hlt : k < n
      · have hlt2 : (k : Int) < (n : Int) := by omega
        have hkl : k < l.length := by have := HN.out; omega
        obtain ⟨b, o, rfl, hab, x0, x1⟩ := (HH.out.below hrel.out.2.1).at_ k hkl
        have hsz := hrel.out.2.1.size
        have hcut : Calls Try.prog 39 #[.slice a m c', .agg #[.int .u64 (l[k].1 : Int), .int .u64 (l[k].2 : Int)]] wr (CutV (gapTo total l (k + 1)) wr) := by
          have hg := gapTo_len total HT.out.1 HT.out.2 HK.out k
          have hc := Cut_calls (gapTo total l k) l[k] w.heap.size c' a wr (by have := hrel.out.2.2; rw [hrel.out.1] at this; exact this) (gapTo_ok total HT.out.1 HT.out.2 HK.out k) (HK.out _ (List.getElem_mem _)) (by have := HN.out; omega)
          rw [← hrel.out.1] at hc
          rw [gapTo_succ total l k hkl]
          exact hc
        generalize l[k] = s at *
        obtain ⟨sl, sn⟩ := s
        simp only at hcut x0 x1
        have HCU := hide hcut
        clear hcut
        go_wp2_with (go_at_call 39; refine HCU.out.mono ?_; rintro e w1 ⟨a1, c1, rfl, ho, hb⟩; have HR : Hid (RGS w a1 c1 (gapTo total l (k + 1)).length (gapTo total l (k + 1)) w1) := hide ⟨rfl, hrel.out.2.1.trans (hb.mono hsz), own_base ho hsz⟩; clear ho hb)
        go_roundw
        case rel => exact ⟨k + 1, _, a1, c1, by omega, by go_num, rfl, HR⟩
        case measure => simp [intOf]; omega
      · have hkn : k = n := by omega
        subst hkn
        clear hlt hk
        go_wp2
        go_ret
        exact ⟨a, c', by rw [← hrel.out.1]; rfl, by rw [← hrel.out.1]; exact hrel.out.2.2, hrel.out.2.1⟩
end Go.Proofs.Ytakehbljldjndaa
