/- num.Add, at two numbers too (chapter 01): cut out of the texts of chapter 01. -/
import Derived.Test.YthccadabblkalaaGreatNuWord
import Derived.Test.YthccadabblkalaaGreatNuV
namespace Go.Proofs.YthccadabblkalaaGreat
open Go.RowKit Go.Lib
set_option linter.unusedVariables false

theorem fitO_lt {n m : Nat} (h : fitO n = some m) : m < top64 := by obtain ⟨rfl, h⟩ := fitO_some h; exact h
theorem plusO_lt {a b m : Nat} (h : plusO a b = some m) : m < top64 := fitO_lt h
theorem timesO_lt {a b m : Nat} (h : timesO a b = some m) : m < top64 := fitO_lt h
theorem reads_at {w wr : World} {A : Option Addr} {len k : Nat} {l : List Nat} (hr : Reads w w.heap.size 1 A len (l.map U64)) (hl : l.length = len) (hx : ∀ x ∈ l, x < top64) (hk : k < len) (hb : Below w.heap.size w wr) :
    ∃ (ad : Addr) (x : Nat), A = some ad ∧ ad.block < w.heap.size ∧ wr.cell? (ad.add k) = some (.int .u64 (x : Int)) ∧ x < top64 ∧ l.drop k = x :: l.drop (k + 1) := by
  obtain ⟨ad, u, hA, hbk, hu, hc⟩ := (hr.below hb).at_ hk
  have hk2 : k < l.length := by omega
  rw [List.getElem?_map, List.getElem?_eq_getElem hk2] at hu
  injection hu with hu
  subst hu
  exact ⟨ad, l[k], hA, hbk, hc, hx _ (List.getElem_mem hk2), List.drop_eq_getElem_cons hk2⟩

set_option maxHeartbeats 400000 in
theorem foldW_plus (n0 : Nat) (h0 : n0 < top64) (A : Option Addr) (len cap : Nat) (l : List Nat) (hl : l.length = len) (hlen : len ≤ 9223372036854775807) (hx : ∀ x ∈ l, x < top64) (w : World)
    (hr : Reads w w.heap.size 1 A len (l.map U64)) :
    Calls Tryz.prog 68 #[.int .u64 (n0 : Int), .func (.func 69) #[] #[], .slice A len cap] w (FoldV (foldO plusO n0 l) w) := by
  have HL := hide hl
  have HX := hide hx
  have HR := hide hr
  have H0 := hide h0
  clear hl hx hr h0
  go_enter Tryz.func68, Tryz.ntmps68
  go_wp2
  go_loopw [8, 15] (fun n i wr => ∃ k acc : Nat, k ≤ len ∧ n = .int .u64 (acc : Int) ∧ i = .int .i64 (k : Int) ∧ Hid (acc < top64 ∧ foldO plusO n0 l = foldO plusO acc (l.drop k)) ∧ Below w.heap.size w wr) (fun _ i _ => len - (RowKit.intOf i).toNat)
  case atStart => exact ⟨0, n0, Nat.zero_le _, rfl, rfl, ⟨H0.out, rfl⟩, Below.refl _ _⟩
  case round =>
    obtain ⟨k, acc, hk, rfl, rfl, hH, hbl⟩ := hrel
    by_cases hlt : k < len
    · obtain ⟨ad, x, hA, hbk, hcell, hxl, hdrop⟩ := reads_at HR.out HL.out HX.out hlt hbl
      subst hA
      have hP := fun W => plus_calls acc x hH.out.1 hxl W
      have e1 : foldO plusO n0 l = (match plusO acc x with | none => none | some m => foldO plusO m (l.drop (k + 1))) := by rw [hH.out.2, hdrop]; rfl
      have HP := hide hP
      have E1 := hide e1
      clear hP e1 hdrop hxl
      rcases hc : plusO acc x with _ | m
      · have e2 : foldO plusO n0 l = none := by rw [E1.out, hc]
        have HC := hide hc
        have E2 := hide e2
        clear hc e2
        go_wp2_with (go_at_call 69; refine (HP.out _).mono ?_; rintro e w' hO; obtain ⟨m, rfl, hb2⟩ := hO.no HC.out)
        go_ret2
        exact ⟨by rw [E2.out]; rfl, hbl.trans (hb2.mono hbl.size)⟩
      · have e2 : foldO plusO n0 l = foldO plusO m (l.drop (k + 1)) := by rw [E1.out, hc]
        have hm : m < top64 := plusO_lt hc
        have HC := hide hc
        have E2 := hide (And.intro hm e2)
        clear hc e2 hm
        go_wp2_with (go_at_call 69; refine (HP.out _).mono ?_; rintro e w' hO; obtain ⟨rfl, hb2⟩ := hO.yes HC.out)
        go_roundw
        case rel => exact ⟨k + 1, m, by omega, rfl, by go_num, E2.out, hbl.trans (hb2.mono hbl.size)⟩
        case measure => simp [RowKit.intOf]; omega
    · obtain rfl : k = len := by omega
      have e2 : foldO plusO n0 l = some acc := by rw [hH.out.2, List.drop_of_length_le (by rw [HL.out]; omega)]; rfl
      have E2 := hide e2
      clear e2
      go_wp2_with fail
      go_ret2
      exact ⟨by rw [E2.out]; rfl, hbl⟩

theorem NumAdd_calls (A : Option Addr) (len cap : Nat) (l : List Nat) (hl : l.length = len) (hlen : len ≤ 9223372036854775807) (hx : ∀ x ∈ l, x < top64) (w : World) (hr : Reads w w.heap.size 1 A len (l.map U64)) :
    Calls Tryz.prog 52 #[.slice A len cap] w (FoldV (foldO plusO 0 l) w) := by
  have hf := foldW_plus 0 (by decide) A len cap l hl hlen hx w hr
  unfold FoldV at hf ⊢
  obtain ⟨m, k, hv⟩ := optV_shape (foldO plusO 0 l)
  rw [hv] at hf ⊢
  have H := hide hf
  clear hr hx hl hf hv
  go_enter Tryz.func52, Tryz.ntmps52
  go_wp2_with (go_at_call 68; refine H.out.mono ?_; rintro e w' ⟨rfl, hb⟩)
  go_ret2
  exact ⟨rfl, hb⟩
theorem reads_two (w : World) (a b : Nat) (t : TypeId) : Reads (w.alloc (.cells #[.int .u64 (a : Int), .int .u64 (b : Int)] t)) (w.alloc (.cells #[.int .u64 (a : Int), .int .u64 (b : Int)] t)).heap.size 1 (some ⟨w.heap.size, 0, none⟩) 2 ([a, b].map U64) := by
  refine ⟨rfl, fun _ => ⟨_, rfl, by simp, fun j u hu => ?_⟩⟩
  have hB := Blk.new w t #[.int .u64 (a : Int), .int .u64 (b : Int)]
  have e : (⟨w.heap.size, 0, none⟩ : Addr).add j = ⟨w.heap.size, j, none⟩ := by unfold Addr.add; split <;> simp_all
  rw [e, hB.cell, ← Array.getElem?_toList]
  exact hu
theorem foldO_two_plus (a b : Nat) (ha : a < top64) : foldO plusO 0 [a, b] = plusO a b := by
  have h1 : plusO 0 a = some a := by unfold plusO fitO; rw [Nat.zero_add, if_pos ha]
  simp only [foldO, h1]
  cases plusO a b <;> rfl
/-- num.Add at two numbers in a new slice. -/
theorem Add_two (a b : Nat) (ha : a < top64) (hb : b < top64) (w : World) (t : TypeId) :
    Calls Tryz.prog 52 #[.slice (some ⟨w.heap.size, 0, none⟩) 2 2] (w.alloc (.cells #[.int .u64 (a : Int), .int .u64 (b : Int)] t)) fun e w' => e = .returned (optV (plusO a b)) ∧ Below w.heap.size w w' :=
  (NumAdd_calls _ 2 2 [a, b] rfl (by omega) (by intro x hx; simp at hx; rcases hx with rfl | rfl <;> assumption) _ (reads_two w a b t)).mono fun e w' ⟨he, hb⟩ =>
    ⟨by rw [he, foldO_two_plus a b ha], ((Below.refl _ w).alloc (Nat.le_refl _) _).trans (hb.mono (by simp))⟩
end Go.Proofs.YthccadabblkalaaGreat
