/- The walk of the law NameUnpads. -/
import Derived.Test.YtjmbpnakifefeaaNmPads
namespace Go.Proofs.Ytjmbpnakifefeaa
open Go.RowKit Go.Lib

def cntU (b : List UInt8) : Nat → Nat
  | 0 => 0
  | k + 1 => cntU b k + (if unpadOk b k = true then 1 else 0)
theorem unpad_once (b : List UInt8) (n m : Nat) (hnm : n < m) (hm30 : m ≤ 30) (hn : unpadOk b n = true) (hm : unpadOk b m = true) : False := by
  unfold unpadOk at hn hm
  simp only [Bool.and_eq_true, beq_iff_eq] at hn hm
  have h1 : b[n]? = some 0 := by
    have h2 := congrArg (fun l => l[0]?) hn.2
    simp only [List.getElem?_drop, zeros, List.getElem?_replicate] at h2
    rw [if_pos (by omega)] at h2
    exact h2
  have h3 := hm.1
  unfold validL at h3
  simp only [Bool.and_eq_true] at h3
  have h5 : (b.take m)[n]? = some 0 := by rw [List.getElem?_take, if_pos hnm]; exact h1
  have h4 := List.all_eq_true.1 h3.2 0 (List.mem_of_getElem? h5)
  exact absurd h4 (by decide)
theorem cntU_le (b : List UInt8) : ∀ k, k ≤ 31 → cntU b k ≤ 1 ∧ (cntU b k = 1 → ∃ j, j < k ∧ unpadOk b j = true) := by
  intro k
  induction k with
  | zero => intro _; exact ⟨by simp [cntU], by simp [cntU]⟩
  | succ k ih =>
    intro hk
    obtain ⟨h1, h2⟩ := ih (by omega)
    by_cases hu : unpadOk b k = true
    · have h0 : cntU b k = 0 := by
        rcases Nat.lt_or_ge 0 (cntU b k) with h | h
        · obtain ⟨j, hj, hj2⟩ := h2 (by omega)
          exact (unpad_once b j k hj (by omega) hj2 hu).elim
        · omega
      exact ⟨by rw [cntU, h0, if_pos hu]; omega, fun _ => ⟨k, by omega, hu⟩⟩
    · rw [cntU, if_neg hu]
      exact ⟨by omega, fun h => by obtain ⟨j, hj, hj2⟩ := h2 (by omega); exact ⟨j, by omega, hj2⟩⟩
theorem unpadV_form (b : List UInt8) (n : Int) : ∃ s f, unpadV b n = .tuple #[.string s, .bool f] := by
  unfold unpadV; split
  · exact ⟨_, _, rfl⟩
  · exact ⟨_, _, rfl⟩

set_option maxRecDepth 100000 in
set_option maxHeartbeats 1000000 in
theorem NameUnpads_calls (b : List UInt8) (hb : b.length = 30) (n : Int) (w : World) :
    Calls Try.prog 7 #[arrV b, .int .i64 n] w fun e w' => e = .returned (.bool true) ∧ Below w.heap.size w w' := by
  obtain ⟨pr, hpr⟩ : ∃ pr, pr = (b.map byteV).toArray := ⟨_, rfl⟩
  have hps : pr.size = 30 := by rw [hpr]; simp [hb]
  have hU := fun n W => Unpad_calls b hb n W
  have hR := fun n W => RefUnpad_calls b hb n W
  have hz : arrV b = .agg pr := by rw [hpr]; rfl
  rw [hz] at hU hR
  rw [hz]
  obtain ⟨x, f, hxf⟩ := unpadV_form b n
  have hi30 : ∀ cs : Array Value, cs.size = 30 → (Try.prog.info? 32).map (·.size) = some cs.size := fun cs h => by rw [h]; exact arr_info
  have HU1 : Hid (∀ W, Calls Try.prog 16 #[.agg pr, .int .i64 n] W fun e w' => e = .returned (.tuple #[.string x, .bool f]) ∧ Below W.heap.size W w') := by
    intro W; have := hU n W; rw [hxf] at this; exact this
  have HR1 : Hid (∀ W, Calls Try.prog 17 #[.agg pr, .int .i64 n] W fun e w' => e = .returned (.tuple #[.string x, .bool f]) ∧ Below W.heap.size W w') := by
    intro W; have := hR n W; rw [hxf] at this; exact this
  have HU := hide hU
  have Hi := hide hi30
  have Hps := hide hps
  have Hb := hide hb
  clear hU hR hi30 hps hb hpr hz hxf
  go_enter Try.func7, Try.ntmps7
  go_wp2_with (first
    | (go_at_call 16; refine (HU1.out _).mono ?_; rintro e w1 ⟨rfl, hb1⟩; have HB1 := hide ((Blk.new w 32 pr).below hb1 (Blk.new w 32 pr).lt))
    | (go_at_call 17; refine (HR1.out _).mono ?_; rintro e w2 ⟨rfl, hb2⟩; have HB2 := hide (HB1.out.below hb2 HB1.out.lt))
    | (refine wpList_load_row rfl 32 (.tmp 2) rfl w.heap.size rfl 32 pr (0, 0) _ (Blk.new w 32 pr) Try.underlying32 rfl (Hi.out _ Hps.out) ?_)
    | (refine wpList_load_row rfl 32 (.tmp 2) rfl w.heap.size rfl 32 pr (0, 0) _ HB1.out Try.underlying32 rfl (Hi.out _ Hps.out) ?_))
  have h1 : Below w.heap.size w w1 := ((Below.refl _ w).alloc (Nat.le_refl _) _).trans (hb1.mono (by simp))
  have H2 := hide (h1.trans (hb2.mono h1.size))
  clear HU1 HR1 HB1 hb1 hb2 h1
  go_loopw [9, 10, 11, 12, 25] (fun c _ _ _ i wr => ∃ k : Nat, k ≤ 31 ∧ i = .int .i64 k ∧ c = .int .i64 ((cntU b k : Nat) : Int) ∧ Hid (Below w.heap.size w wr) ∧ Hid (Blk wr w.heap.size 32 pr)) (fun _ _ _ _ i _ => 31 - (intOf i).toNat)
  case atStart => exact ⟨0, by omega, rfl, rfl, H2, HB2⟩
  case round =>
    obtain ⟨k, hk, rfl, rfl, hb, hB⟩ := hrel
    have hc1 := (cntU_le b k hk).1
    by_cases hlt : k < 31
    · cases hu : unpadOk b k
      · have HV := hide (unpadV_no b k hu)
        have HC : Hid (cntU b (k + 1) = cntU b k) := by show _ = _; rw [cntU, if_neg (by rw [hu]; simp)]; rfl
        clear hu
        go_wp2_with (first
          | (go_at_call 16; refine (HU.out _ _).mono ?_; rintro e w3 ⟨rfl, hb3⟩; rw [HV.out]; have HB3 := hide (hB.out.below hb3 hB.out.lt); have H3 := hide (hb.out.trans (hb3.mono hb.out.size)))
          | (refine wpList_load_row rfl 32 (.tmp 2) rfl w.heap.size rfl 32 pr (0, 0) _ hB.out Try.underlying32 rfl (Hi.out _ Hps.out) ?_))
        go_round
        case rel => exact ⟨k + 1, by omega, by go_num, by rw [HC.out], H3, HB3⟩
        case measure => simp [intOf]; omega
      · have HV := hide (unpadV_yes b k (by omega) hu)
        have HC : Hid (cntU b (k + 1) = cntU b k + 1) := by show _ = _; rw [cntU, if_pos hu]
        clear hu
        go_wp2_with (first
          | (go_at_call 16; refine (HU.out _ _).mono ?_; rintro e w3 ⟨rfl, hb3⟩; rw [HV.out]; have HB3 := hide (hB.out.below hb3 hB.out.lt); have H3 := hide (hb.out.trans (hb3.mono hb.out.size)))
          | (refine wpList_load_row rfl 32 (.tmp 2) rfl w.heap.size rfl 32 pr (0, 0) _ hB.out Try.underlying32 rfl (Hi.out _ Hps.out) ?_))
        go_round
        case rel => exact ⟨k + 1, by omega, by go_num, by rw [HC.out]; go_num, H3, HB3⟩
        case measure => simp [intOf]; omega
    · obtain rfl : k = 31 := by omega
      go_wp2_with (go_at_call 8; refine (alive_calls _).mono ?_; rintro e w4 ⟨rfl, hb4⟩)
      have hd : decide (((cntU b 31 : Nat) : Int) ≤ 1) = true := by simp; omega
      go_ret
      exact ⟨by show Ending.returned (.bool (decide _)) = _; rw [hd], hb.out.trans (hb4.mono hb.out.size)⟩
end Go.Proofs.Ytjmbpnakifefeaa
