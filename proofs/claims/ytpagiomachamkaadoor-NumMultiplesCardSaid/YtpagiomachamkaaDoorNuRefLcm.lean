/- The walks of the reference's Lcm and Align (chapter 01). -/
import Derived.Test.YtpagiomachamkaaDoorNuRefMul
namespace Go.Proofs.YtpagiomachamkaaDoor
open Go.RowKit Go.Lib

theorem mulL_two (a b : Nat) (ha : a < top64) (h0 : 0 < a) (h1 : 0 < b) : mulL [a, b] = timesO a b := by
  unfold mulL
  rw [if_neg (by simp; omega)]
  have h1 : timesO 1 a = some a := by unfold timesO fitO; rw [Nat.one_mul, if_pos ha]
  simp only [foldO, h1]
  cases timesO a b <;> rfl
theorem mulL_two_zero (b : Nat) : mulL [0, b] = some 0 := by unfold mulL; rw [if_pos (by simp)]
/-- The reference's Mul at two numbers in a new slice. -/
theorem RefMul_two (a b : Nat) (ha : a < top64) (hb : b < top64) (w : World) (t : TypeId) :
    Calls Tryd.prog 24 #[.slice (some ⟨w.heap.size, 0, none⟩) 2 2] (w.alloc (.cells #[.int .u64 (a : Int), .int .u64 (b : Int)] t)) fun e w' => e = .returned (optV (mulL [a, b])) ∧ Below w.heap.size w w' :=
  (RefMul_calls _ 2 2 [a, b] rfl (by omega) (by intro x hx; simp at hx; rcases hx with rfl | rfl <;> assumption) _ (reads_two w a b t)).mono fun e w' ⟨he, hb⟩ =>
    ⟨he, ((Below.refl _ w).alloc (Nat.le_refl _) _).trans (hb.mono (by simp))⟩
theorem Mul_two (a b : Nat) (ha : a < top64) (hb : b < top64) (w : World) (t : TypeId) :
    Calls Tryd.prog 23 #[.slice (some ⟨w.heap.size, 0, none⟩) 2 2] (w.alloc (.cells #[.int .u64 (a : Int), .int .u64 (b : Int)] t)) fun e w' => e = .returned (optV (mulL [a, b])) ∧ Below w.heap.size w w' :=
  (Mul_calls _ 2 2 [a, b] rfl (by omega) (by intro x hx; simp at hx; rcases hx with rfl | rfl <;> assumption) _ (reads_two w a b t)).mono fun e w' ⟨he, hb⟩ =>
    ⟨he, ((Below.refl _ w).alloc (Nat.le_refl _) _).trans (hb.mono (by simp))⟩

theorem RefMul_blk (a b : Nat) (ha : a < top64) (hb : b < top64) (g : Nat) (t : TypeId) (w : World) (hB : Blk w g t #[.int .u64 (a : Int), .int .u64 (b : Int)]) :
    Calls Tryd.prog 24 #[.slice (some ⟨g, 0, none⟩) 2 2] w fun e w' => e = .returned (optV (mulL [a, b])) ∧ Below w.heap.size w w' :=
  RefMul_calls _ 2 2 [a, b] rfl (by omega) (by intro x hx; simp at hx; rcases hx with rfl | rfl <;> assumption) _
    ⟨rfl, fun _ => ⟨_, rfl, hB.lt, fun j u hu => by
      have e : (⟨g, 0, none⟩ : Addr).add j = ⟨g, j, none⟩ := by unfold Addr.add; split <;> simp_all
      rw [e, hB.cell, ← Array.getElem?_toList]
      exact hu⟩⟩
theorem new_below {w w3 : World} {o : Obj} (h : Below ((w.alloc o).drew).heap.size ((w.alloc o).drew) w3) : Below w.heap.size w w3 :=
  (((Below.refl _ w).alloc (Nat.le_refl _) o).drew).trans (h.mono (by simp))
theorem lcm_keep {w W w2 : World} {ad : Addr} {k : Nat} {v : Value} (h : W.cell? (ad.add k) = some v ∧ Below w.heap.size w W) (hb : Below W.heap.size W w2) (hbk : ad.block < w.heap.size) : w2.cell? (ad.add k) = some v ∧ Below w.heap.size w w2 :=
  ⟨(hb.cell (by rw [block_of_add]; have := h.2.size; omega)).trans h.1, h.2.trans (hb.mono h.2.size)⟩
theorem div_wrap (x g d : Nat) (hx : x < top64) (hd : d = x / g) : IntKind.u64.wrap ((x : Int).tdiv (g : Int)) = (d : Int) := by
  have h := Nat.div_le_self x g
  unfold top64 at hx
  rw [Int.tdiv_eq_ediv_of_nonneg (by omega), ← Int.natCast_ediv, ← hd, IntKind.wrap_u64]
  omega

set_option maxHeartbeats 1000000 in
theorem RefLcm_calls (A : Option Addr) (len cap : Nat) (l : List Nat) (hl : l.length = len) (hlen : len ≤ 9223372036854775807) (hx : ∀ x ∈ l, x < top64) (w : World)
    (hr : Reads w w.heap.size 1 A len (l.map U64)) :
    Calls Tryd.prog 19 #[.slice A len cap] w (FoldV (foldO commonO 1 l) w) := by
  have HL := hide hl
  have HX := hide hx
  have HR := hide hr
  clear hl hx hr
  go_enter Tryd.func19, Tryd.ntmps19
  go_wp2
  go_loopw [4, 5] (fun n i wr => ∃ (k acc : Nat), k ≤ len ∧ 0 < acc ∧ n = .int .u64 (acc : Int) ∧ i = .int .i64 (k : Int) ∧ Hid (acc < top64 ∧ foldO commonO 1 l = foldO commonO acc (l.drop k)) ∧ Below w.heap.size w wr) (fun _ i _ => len - (RowKit.intOf i).toNat)
  case atStart => exact ⟨0, 1, Nat.zero_le _, by omega, rfl, rfl, ⟨by decide, rfl⟩, Below.refl _ _⟩
  case round =>
    obtain ⟨k, acc, hk, ha0, rfl, rfl, hH, hbl⟩ := hrel
    by_cases hlt : k < len
    · obtain ⟨ad, x, hA, hbk, hcell, hxl, hdrop⟩ := reads_at HR.out HL.out HX.out hlt hbl
      subst hA
      have e1 : foldO commonO 1 l = (match commonO acc x with | none => none | some m => foldO commonO m (l.drop (k + 1))) := by rw [hH.out.2, hdrop]; rfl
      have E1 := hide e1
      clear hdrop e1
      by_cases hx0 : x = 0
      · subst hx0
        have e2 : Hid (foldO commonO 1 l = none) := by
          show _ = _
          rw [E1.out]
          have : commonO acc 0 = none := by unfold commonO; rw [if_pos (.inr rfl)]
          rw [this]
        go_wp2
        go_ret2
        exact ⟨by rw [e2.out]; rfl, hbl⟩
      · have hx1 : ((x : Int) == 0) = false := by simp; omega
        have hxp : 0 < x := by omega
        obtain ⟨g, hg⟩ : ∃ g, g = Nat.gcd acc x := ⟨_, rfl⟩
        obtain ⟨d, hd⟩ : ∃ d, d = x / g := ⟨_, rfl⟩
        have hgp : 0 < g := by rw [hg]; exact Nat.gcd_pos_of_pos_left _ ha0
        have hgc := fun W => gcd_calls acc x W
        have hdw := div_wrap x g d hxl hd
        have hdw2 : IntKind.u64.wrap ((x : Int) / (g : Int)) = (d : Int) := by rw [← hdw, Int.tdiv_eq_ediv_of_nonneg (by omega)]
        have hdl : d < top64 := by rw [hd]; exact Nat.lt_of_le_of_lt (Nat.div_le_self _ _) hxl
        have hdp : 0 < d := by rw [hd]; exact Nat.div_pos (Nat.le_of_dvd hxp (by rw [hg]; exact Nat.gcd_dvd_right acc x)) hgp
        have hM := RefMul_blk acc d hH.out.1 hdl
        rw [mulL_two acc d hH.out.1 ha0 hdp] at hM
        have hcm : commonO acc x = timesO acc d := by unfold commonO; rw [if_neg (by omega), hd, hg]
        rw [← hcm] at hM
        rw [← hg] at hgc
        have HG := hide hgc
        have HM := hide hM
        have HH := hide (hH.out.1)
        have HD := hide (And.intro hcm hdp)
        have hgz : ((g : Int) == 0) = false := by simp; omega
        have hgz2 : (0 : Int) < (g : Int) := by omega
        have hgn : ¬ g = 0 := by omega
        clear hx0 hgc hM hcm hd hg hxl hdl hxp hH
        have hS : wr.cell? (ad.add k) = some (.int .u64 (x : Int)) ∧ Below w.heap.size w wr := ⟨hcell, hbl⟩
        rcases hc : commonO acc x with _ | m
        · have e2 : foldO commonO 1 l = none := by rw [E1.out, hc]
          rw [hc] at HM
          have E2 := hide e2
          clear hc e2
          go_wp2
          go_region_held3 (fun W => W.cell? (ad.add k) = some (.int .u64 (x : Int)) ∧ Below w.heap.size w W) (first | assumption | (refine lcm_keep hS ?_ hbk; first | assumption | exact Below.drew (Below.refl _ _) | exact (Below.refl _ _).alloc (Nat.le_refl _) _ | exact ((Below.refl _ _).alloc (Nat.le_refl _) _).drew))
            (first | (go_at_call 35; refine (HG.out _).mono ?_; rintro e w2 ⟨rfl, rfl⟩) | (go_at_call 24; refine (HM.out _ _ _ (Blk.drew (Blk.new _ _ _))).mono ?_; rintro e w3 ⟨rfl, hbx⟩; have hb3 := new_below hbx; rw [optV]))
          go_wp2
          go_ret2
          exact ⟨by rw [E2.out]; rfl, And.right (by assumption : _ ∧ Below w.heap.size w w3)⟩
        · have HC := hide hc
          have e2 : foldO commonO 1 l = foldO commonO m (l.drop (k + 1)) := by rw [E1.out, hc]
          have hml : m < top64 := commonO_lt hc
          have hm0 : 0 < m := by
            rw [HD.out.1] at hc
            obtain ⟨rfl, _⟩ := fitO_some hc
            exact Nat.mul_pos ha0 HD.out.2
          rw [hc] at HM
          have E2 := hide (And.intro hml e2)
          clear hc e2 hml
          go_wp2
          go_region_held3 (fun W => W.cell? (ad.add k) = some (.int .u64 (x : Int)) ∧ Below w.heap.size w W) (first | assumption | (refine lcm_keep hS ?_ hbk; first | assumption | exact Below.drew (Below.refl _ _) | exact (Below.refl _ _).alloc (Nat.le_refl _) _ | exact ((Below.refl _ _).alloc (Nat.le_refl _) _).drew))
            (first | (go_at_call 35; refine (HG.out _).mono ?_; rintro e w2 ⟨rfl, rfl⟩) | (go_at_call 24; refine (HM.out _ _ _ (Blk.drew (Blk.new _ _ _))).mono ?_; rintro e w3 ⟨rfl, hbx⟩; have hb3 := new_below hbx; rw [optV]))
          have hb4 : Below w.heap.size w w3 := And.right (by assumption : _ ∧ Below w.heap.size w w3)
          go_wp2
          go_roundw
          case rel => first | exact ⟨k + 1, m, by omega, hm0, rfl, by go_num, E2.out, hb4⟩ | ((repeat apply Exists.intro); exact ⟨⟨k + 1, m, by omega, hm0, rfl, by go_num, E2.out, hb4⟩, rfl⟩)
          case measure => simp [RowKit.intOf]; omega
    · obtain rfl : k = len := by omega
      have e2 : foldO commonO 1 l = some acc := by rw [hH.out.2, List.drop_of_length_le (by rw [HL.out]; omega)]; rfl
      have E2 := hide e2
      clear e2
      go_wp2
      go_ret2
      exact ⟨by rw [E2.out]; rfl, hbl⟩
end Go.Proofs.YtpagiomachamkaaDoor
