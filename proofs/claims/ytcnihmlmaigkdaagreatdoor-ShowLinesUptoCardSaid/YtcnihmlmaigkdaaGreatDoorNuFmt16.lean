/- The walk of FormatUint at base 16, and of num.Hex (chapter 01). -/
import Derived.Test.YtcnihmlmaigkdaaGreatDoorNuFmt10
import Derived.Laws.Bits64
import Derived.Laws.BitsAllLaws
import Derived.Outline
import Derived.Deep.DeepMust
namespace Go.Proofs.YtcnihmlmaigkdaaGreatDoor
open Go.RowKit Go.Lib Go.Sort

/-- The table that TrailingZeros64 reads holds 4 where it looks at 16. -/
def Tab64 (w : World) : Prop := w.cell? ⟨5, 15, none⟩ = some (.int .u8 4)

theorem Tab64.below {w w' : World} (h : Tab64 w) (hb : Below w.heap.size w w') : Tab64 w' := by
  have hl := cell_lt h
  unfold Tab64 at h ⊢
  exact (hb.cell (p := ⟨5, 15, none⟩) hl).trans h
theorem tz16 (w : World) (h : Tab64 w) : Calls Tryz.prog 232 #[.int .u64 16] w fun e w' => e = .returned (.int .i64 4) ∧ w' = w := by
  unfold Tab64 at h
  have e1 : bits .and .u64 16 (IntKind.u64.wrap (-16)) = 16 := by decide +kernel
  have e2 : IntKind.u64.wrap (16 * 285870213051353865) = 4573923408821661840 := by decide +kernel
  go_enter Tryz.func232, Tryz.ntmps232
  go_wp2
  go_ret
  exact ⟨rfl, rfl⟩
set_option maxRecDepth 100000 in
theorem digit_run (r : Nat) (h : r < 16) (w : World) : (Instr.index 9 (.string ⟨#[48, 49, 50, 51, 52, 53, 54, 55, 56, 57, 97, 98, 99, 100, 101, 102, 103, 104, 105, 106, 107, 108, 109, 110, 111, 112, 113, 114, 115, 116, 117, 118, 119, 120, 121, 122]⟩) (.int .u64 (r : Int))).run Tryz.prog w = .ok (.int .u8 ((dg r).toNat : Int)) w := by
  have : r = 0 ∨ r = 1 ∨ r = 2 ∨ r = 3 ∨ r = 4 ∨ r = 5 ∨ r = 6 ∨ r = 7 ∨ r = 8 ∨ r = 9 ∨ r = 10 ∨ r = 11 ∨ r = 12 ∨ r = 13 ∨ r = 14 ∨ r = 15 := by omega
  rcases this with rfl | rfl | rfl | rfl | rfl | rfl | rfl | rfl | rfl | rfl | rfl | rfl | rfl | rfl | rfl | rfl <;> rfl
theorem pow16 (w : World) : Calls Tryz.prog 231 #[.int .i64 16] w fun e w' => e = .returned (.bool true) ∧ w' = w := by
  have hp2 : bits .and .i64 16 15 = 0 := by decide +kernel
  go_enter Tryz.func231, Tryz.ntmps231
  go_wp2
  go_ret
  exact ⟨rfl, rfl⟩
/-- The digits that lie at the end of the array. -/
def Digits (X i m u : Nat) (w : World) : Prop :=
  ∃ (l : List UInt8) (cs : Array Value), Blk w X 305 cs ∧ cs.size = 65 ∧ i + l.length = 65 ∧ digL 16 u = digL 16 m ++ l ∧ (∀ (j : Nat) (c : UInt8), l[j]? = some c → cs[i + j]? = some (.int .u8 (c.toNat : Int))) ∧ m < 16 ^ (16 - l.length) ∧ l.length ≤ 15
theorem Digits.cell {X i m u : Nat} {w : World} (h : Digits X (i + 1) m u w) : ∃ v, w.cell? ⟨X, i, none⟩ = some v := by
  obtain ⟨l, cs, hB, hsz, hi, _⟩ := h
  exact ⟨cs[i], by rw [hB.cell, Array.getElem?_eq_getElem (by omega)]⟩
theorem Digits.free {X i m u : Nat} {w : World} (h : Digits X i m u w) (j : Nat) : w.frozen? ⟨X, j, none⟩ = false := by
  obtain ⟨l, cs, hB, _⟩ := h
  exact hB.frozen j
theorem Digits.put {X i m u : Nat} {w : World} (h : Digits X (i + 1) m u w) (d : UInt8) : ∃ (l : List UInt8) (cs : Array Value), Blk (w.setCell ⟨X, i, none⟩ (.int .u8 (d.toNat : Int))) X 305 cs ∧ cs.size = 65 ∧ i + 1 + l.length = 65 ∧ digL 16 u = digL 16 m ++ l ∧
    (∀ (j : Nat) (c : UInt8), (d :: l)[j]? = some c → cs[i + j]? = some (.int .u8 (c.toNat : Int))) ∧ m < 16 ^ (16 - l.length) ∧ l.length ≤ 15 := by
  obtain ⟨l, cs, hB, hsz, hi, hd, hc, hm, hl⟩ := h
  refine ⟨l, _, hB.set_ i _, by simpa using hsz, hi, hd, ?_, hm, hl⟩
  intro j c hj
  cases j with
  | zero =>
    simp at hj
    subst hj
    simp [Array.getElem?_setIfInBounds]
    omega
  | succ j =>
    have := hc j c (by simpa using hj)
    rw [Array.getElem?_setIfInBounds, if_neg (by omega)]
    rw [← this]; congr 1; omega
theorem Digits.big {X i m u : Nat} {w : World} (h : Digits X i m u w) (hm : 16 ≤ m) : 51 ≤ i := by
  obtain ⟨l, cs, _, _, hi, _, _, h2, _⟩ := h
  rcases Nat.lt_or_ge 14 l.length with hl | hl
  · have : 16 - l.length ≤ 1 := by omega
    have h3 : 16 ^ (16 - l.length) ≤ 16 ^ 1 := Nat.pow_le_pow_right (by omega) this
    omega
  · omega
theorem Digits.pos {X i m u : Nat} {w : World} (h : Digits X i m u w) : 50 ≤ i := by
  obtain ⟨l, cs, _, _, hi, _, _, _, _⟩ := h
  omega
theorem Digits.next {X i m u : Nat} {w : World} (h : Digits X (i + 1) m u w) (hm : 16 ≤ m) : Digits X i (m / 16) u (w.setCell ⟨X, i, none⟩ (.int .u8 ((dg (m % 16)).toNat : Int))) := by
  have hb := h.big hm
  obtain ⟨l, cs, hB, hsz, hi, hd, hc, h2, hl⟩ := h.put (dg (m % 16))
  have hl14 : l.length ≤ 14 := by omega
  refine ⟨dg (m % 16) :: l, cs, hB, hsz, by simp; omega, ?_, hc, ?_, by simp; omega⟩
  · rw [hd, digL_big (by omega) hm]; simp
  · rw [Nat.div_lt_iff_lt_mul (by omega), List.length_cons, ← Nat.pow_succ]
    show m < 16 ^ ((16 - (l.length + 1)) + 1)
    rwa [show (16 - (l.length + 1)) + 1 = 16 - l.length by omega]
theorem Digits.last {X i m u : Nat} {w : World} (h : Digits X (i + 1) m u w) (hm : m < 16) :
    (convert 97 9 (.slice (some ⟨X, i, none⟩) (65 - i) (65 - i))).run Tryz.prog (w.setCell ⟨X, i, none⟩ (.int .u8 ((dg m).toNat : Int))) = .ok (.string ⟨(digL 16 u).toArray⟩) (w.setCell ⟨X, i, none⟩ (.int .u8 ((dg m).toNat : Int))) := by
  obtain ⟨l, cs, hB, hsz, hi, hd, hc, h2, hl⟩ := h.put (dg m)
  rw [digL_small hm] at hd
  have hd2 : digL 16 u = dg m :: l := hd
  have e : (digL 16 u).length = 65 - i := by rw [hd2, List.length_cons]; omega
  have h := run_convert_bytes_back (P := Tryz.prog) (w.setCell ⟨X, i, none⟩ (.int .u8 ((dg m).toNat : Int))) 97 9 5 ⟨X, i, none⟩ (65 - i) (digL 16 u) Tryz.underlying97 Tryz.underlying5 Tryz.underlying9 (fun j hj => by
    have hadd : (⟨X, i, none⟩ : Addr).add j = ⟨X, i + j, none⟩ := by unfold Addr.add; split <;> simp_all
    rw [hadd, hB.cell]
    exact hc j _ (by rw [← hd2]; exact List.getElem?_eq_getElem hj))
  rwa [e] at h
theorem mod16 (m : Nat) (hm : m < top64) : bits .and .u64 (m : Int) 15 = ((m % 16 : Nat) : Int) := by
  have h := bits_and_u64_nat m 15 hm (by omega)
  have e : m &&& 15 = m % 16 := Nat.and_two_pow_sub_one_eq_mod m 4
  rw [e] at h
  exact h
set_option maxHeartbeats 800000 in
set_option maxRecDepth 100000 in
theorem bits16 (u : Nat) (hu : u < top64) (w : World) (htab : Tab64 w) :
    Calls Tryz.prog 180 #[.slice none 0 0, .int .u64 (u : Int), .int .i64 16, .bool false, .bool false] w fun e w' => e = .returned (.tuple #[.slice none 0 0, .string ⟨(digL 16 u).toArray⟩]) ∧ Below w.heap.size w w' := by
  have HT := hide (Tab64.below htab ((Below.refl _ _).alloc (Nat.le_refl _) (.cells Tryz.zeroCells305 305)))
  have HU := hide hu
  have hD := hide (show Digits w.heap.size 65 u u (w.alloc (.cells Tryz.zeroCells305 305)) from ⟨[], _, Blk.new _ _ _, rfl, rfl, by simp, by intro j c h; simp at h, by unfold top64 at hu; simpa using hu, by simp⟩)
  clear htab hu
  go_enter Tryz.func180, Tryz.ntmps180
  go_wp2_with (first
    | (go_at_call 231; refine (pow16 _).mono ?_; rintro e w' ⟨rfl, rfl⟩)
    | (go_at_call 232; refine (tz16 _ HT.out).mono ?_; rintro e w' ⟨rfl, rfl⟩))
  go_loopw [1, 13] (fun vu vi wr => ∃ (m i : Nat), vu = .int .u64 (m : Int) ∧ vi = .int .i64 (i : Int) ∧ i ≤ 65 ∧ Hid (m < top64 ∧ Digits w.heap.size i m u wr) ∧ Below w.heap.size w wr) (fun vu _ _ => (RowKit.intOf vu).toNat)
  case atStart => exact ⟨u, 65, rfl, rfl, by omega, ⟨HU.out, hD.out⟩, (Below.refl _ _).alloc (Nat.le_refl _) _⟩
  case round =>
    obtain ⟨m, i, rfl, rfl, hi, hH, hbl⟩ := hrel
    obtain ⟨j, rfl⟩ : ∃ j, i = j + 1 := ⟨i - 1, by have := hH.out.2.pos; omega⟩
    obtain ⟨v0, hc⟩ := hH.out.2.cell
    have hf := hH.out.2.free j
    by_cases hm : 16 ≤ m
    · have hdg := digit_run (m % 16) (by omega)
      obtain ⟨r, hr⟩ : ∃ r, r = m % 16 := ⟨_, rfl⟩
      have hmr := mod16 m hH.out.1
      have hN := hide (hH.out.2.next hm)
      rw [← hr] at hmr hdg hN
      have hlt := hide (show m / 16 < top64 from Nat.lt_of_le_of_lt (Nat.div_le_self _ _) hH.out.1)
      clear hr
      go_wp2
      refine ⟨⟨m / 16, j, (by first | rfl | (congr 1; omega)), rfl, by omega, ⟨hlt.out, hN.out⟩, hbl.setCell (Nat.le_refl _) _⟩, by simp [RowKit.intOf]; omega⟩
    · have hdg := digit_run m (by omega)
      have hN := hH.out.2.last (by omega)
      have hal : Tryz.prog.arrayLen 305 = 65 := by simp [Program.arrayLen, Tryz.underlying305]
      have hsl : ∀ W, (Instr.sliceAt 305 (.pointer (some ⟨w.heap.size, 0, none⟩)) (some (.int .i64 (j : Int))) none none).run Tryz.prog W = .ok (.slice (some ⟨w.heap.size, j, none⟩) (65 - j) (65 - j)) W := fun W => by
        rw [run_sliceAt_array_l W 305 ⟨w.heap.size, 0, none⟩ (by simp [Program.arrayLen, Program.elem, Tryz.underlying305]) .i64 (j : Int) (by omega) (by rw [hal]; omega), hal]
        go_simp
        first | done | (constructor <;> omega) | omega
      clear hal
      go_wp2
      go_ret2
      exact ⟨rfl, hbl.setCell (Nat.le_refl _) _⟩
end Go.Proofs.YtcnihmlmaigkdaaGreatDoor
