/- The walks of container/heap's down and up at the queue (chapter 14). -/
import Derived.Test.YthccadabblkalaaSwQ3
namespace Go.Proofs.Ythccadabblkalaa
open Go.RowKit Go.Sort

/-- An order that the queue may have. -/
def Known (fn : Nat) (key : Itm → Nat) : Prop := (fn = 62 ∧ key = Itm.lo) ∨ (fn = 63 ∧ key = lastI)
theorem meth_Len (p : Value) (w : World) : (method 282 125 p "Len").run Try.prog w = .ok (66, p) w := by kernel_rfl
theorem meth_Less (p : Value) (w : World) : (method 282 125 p "Less").run Try.prog w = .ok (111, p) w := by kernel_rfl
theorem meth_Swap (p : Value) (w : World) : (method 282 125 p "Swap").run Try.prog w = .ok (113, p) w := by kernel_rfl
theorem meth_Push (p : Value) (w : World) : (method 282 125 p "Push").run Try.prog w = .ok (65, p) w := by kernel_rfl
theorem meth_Pop (p : Value) (w : World) : (method 282 125 p "Pop").run Try.prog w = .ok (112, p) w := by kernel_rfl
def hq (Q : Nat) : Value := .iface 125 (.pointer (some ⟨Q, 0, none⟩))
theorem Less_bool (Q fn g : Nat) (key : Itm → Nat) (d : Array Itm) (hf : Known fn key) (i j : Nat) (hi : i < d.size) (hj : j < d.size) (b : Bool) (hb : decide (key d[i]! < key d[j]!) = b) :
    ∀ w, Que w Q fn (some g) d → Calls Try.prog 111 #[.pointer (some ⟨Q, 0, none⟩), .int .i64 (i : Int), .int .i64 (j : Int)] w fun e w' => e = .returned (.bool b) ∧ Below w.heap.size w w' := by
  intro w h
  have := Less_calls Q fn g key d w h hf i j hi hj
  rwa [hb] at this
/-- Behind a step of the heap's: the items, nothing but the row turned. -/
def DownV (Q fn g : Nat) (D : Array Itm) (leaf : Prop) (w : World) (e : Ending) (w' : World) : Prop :=
  ∃ b, e = .returned (.bool b) ∧ Que w' Q fn (some g) D ∧ But (· = g) w w' ∧ (leaf → b = false)
def DownR (Q fn g : Nat) (key : Itm → Nat) (n i0 : Nat) (D : Array Itm) (w wr : World) (k : Nat) (d' : Array Itm) : Prop :=
  Que wr Q fn (some g) d' ∧ But (· = g) w wr ∧ D = hdown key n k d' ∧ (n ≤ 2 * i0 + 1 → k = i0) ∧ n ≤ d'.size ∧ d'.size ≤ 1000000
set_option maxRecDepth 100000 in
set_option maxHeartbeats 8000000 in
theorem down_calls (Q fn g : Nat) (key : Itm → Nat) (d : Array Itm) (w : World) (hf : Known fn key) (h : Que w Q fn (some g) d) (i0 n : Nat) (hn : n ≤ d.size) (hsz : d.size ≤ 1000000) (hi0 : i0 ≤ 1000000) :
    Calls Try.prog 73 #[hq Q, .int .i64 (i0 : Int), .int .i64 (n : Int)] w (DownV Q fn g (hdown key n i0 d) (n ≤ 2 * i0 + 1) w) := by
  obtain ⟨D, hD⟩ : ∃ D, D = hdown key n i0 d := ⟨_, rfl⟩
  rw [← hD]
  have HR0 := hide (show DownR Q fn g key n i0 D w w i0 d from ⟨h, But.refl _ _, hD, fun _ => rfl, hn, hsz⟩)
  have HF := hide hf
  have hn1 : (n : Int) ≤ 1000000 := by omega
  have hi1 : (i0 : Int) ≤ 1000000 := by omega
  have m1 := fun p w => meth_Less p w
  have m2 := fun p w => meth_Swap p w
  clear h hD hf hn hsz hi0
  show Calls Try.prog 73 #[.iface 125 (.pointer (some ⟨Q, 0, none⟩)), .int .i64 (i0 : Int), .int .i64 (n : Int)] w _
  go_enter Try.func73, Try.ntmps73
  go_wp2
  go_loopw [7] (fun i wr => ∃ (k : Nat) (d' : Array Itm), i = .int .i64 (k : Int) ∧ k ≤ 1000000 ∧ Hid (DownR Q fn g key n i0 D w wr k d')) (fun i _ => n - (intOf i).toNat)
  case atStart => exact ⟨i0, d, rfl, by omega, HR0⟩
  case round =>
    obtain ⟨k, d', rfl, hk, hrel⟩ := hrel
    have hk1 : (k : Int) ≤ 1000000 := by omega
    have HQ0 : Hid (Que wr Q fn (some g) d') := hrel.out.1
    have HB0 : Hid (But (· = g) w wr) := hrel.out.2.1
    obtain ⟨J1, hJ1⟩ : ∃ J1, J1 = 2 * k + 1 := ⟨_, rfl⟩
    obtain ⟨J2, hJ2⟩ : ∃ J2, J2 = 2 * k + 2 := ⟨_, rfl⟩
    have e1 : 2 * (k : Int) + 1 = (J1 : Int) := by omega
    have e2 : (J1 : Int) + 1 = (J2 : Int) := by omega
    have b1 : (J1 : Int) ≤ 2000001 := by omega
    have nn : decide ((J1 : Int) < 0) = false := by simp
    have b2 : (J2 : Int) ≤ 2000002 := by omega
    by_cases hlt : J1 < n
    · have hl1 : (J1 : Int) < (n : Int) := by omega
      have dn : decide (n ≤ J1) = false := by simp; omega
      have hnd := hrel.out.2.2.2.2.1
      obtain ⟨c, hc⟩ : ∃ c, c = childOf key n k d' := ⟨_, rfl⟩
      have hcl := childOf_lt key n k d' (by omega)
      rw [← hc] at hcl
      have HS := hide (fun W hW => Swap_calls Q fn g d' W hW k c (by omega) (by omega))
      have HST := hide (hdown_step key n k d' (by omega))
      have HSP := hide (hdown_stop key n k d' (by omega))
      rw [← hc] at HST HSP
      have done : ∀ W, Que W Q fn (some g) d' → But (· = g) w W → key d'[k]! ≤ key d'[c]! → DownV Q fn g D (n ≤ 2 * i0 + 1) w (.returned (.bool (decide (i0 < k)))) W := by
        intro W hQ hB hle
        refine ⟨_, rfl, ?_, hB, fun hl => ?_⟩
        · rw [hrel.out.2.2.1, HSP.out hle]; exact hQ
        · have := hrel.out.2.2.2.1 hl; subst this; simp
      have next : ∀ W, Que W Q fn (some g) (swp d' k c) → But (· = g) w W → key d'[c]! < key d'[k]! → DownR Q fn g key n i0 D w W c (swp d' k c) := by
        intro W hQ hB hle
        refine ⟨hQ, hB, by rw [hrel.out.2.2.1, HST.out hle], fun hl => ?_, by rw [size_swp]; exact hnd, by rw [size_swp]; exact hrel.out.2.2.2.2.2⟩
        have := hrel.out.2.2.2.1 hl; omega
      have HDN := hide done
      have HNX := hide next
      clear done next
      by_cases hr : J2 < n
      · have hl2 : (J2 : Int) < (n : Int) := by omega
        have dm : decide (J2 < n) = true := by simp; omega
        by_cases hcmp : key d'[J2]! < key d'[J1]!
        · have hcc : c = J2 := by rw [hc, childOf, if_pos ⟨by omega, by rw [← hJ1, ← hJ2]; exact hcmp⟩, hJ2]
          have HL1 := hide (Less_bool Q fn g key d' HF.out J2 J1 (by omega) (by omega) true (by simpa using hcmp))
          clear hJ1 hJ2
          by_cases hgo : key d'[c]! < key d'[k]!
          · have HL2 := hide (Less_bool Q fn g key d' HF.out c k (by omega) (by omega) true (by simpa using hgo))
            have HGO := hide hgo
            clear hc hgo HST HSP hcmp
            subst hcc
            go_wp2_with (first
              | (go_at_call 111; first | ((with_reducible refine (HL1.out _ HQ0.out).mono ?_); rintro e w2 ⟨rfl, hb2⟩; have HQ2 := hide (HQ0.out.below hb2); have HB2 := hide (HB0.out.trans (But.of_below hb2)); clear hb2) | ((with_reducible refine (HL2.out _ HQ2.out).mono ?_); rintro e w3 ⟨rfl, hb3⟩; have HQ3 := hide (HQ2.out.below hb3); have HB3 := hide (HB2.out.trans (But.of_below hb3)); clear hb3))
              | (go_at_call 113; (with_reducible refine (HS.out _ HQ3.out).mono ?_); rintro e w4 ⟨rfl, hQ4, hB4⟩; have HQ4 := hide hQ4; have HB4 := hide (HB3.out.trans hB4); clear hQ4 hB4))
            go_roundw
            case rel => first | exact ⟨c, swp d' k c, rfl, by omega, hide (HNX.out _ HQ4.out HB4.out HGO.out)⟩ | ((repeat apply Exists.intro); exact ⟨⟨c, swp d' k c, rfl, by omega, hide (HNX.out _ HQ4.out HB4.out HGO.out)⟩, rfl⟩)
            case measure => simp [intOf]; omega
          · have HL2 := hide (Less_bool Q fn g key d' HF.out c k (by omega) (by omega) false (by simpa using hgo))
            have HGO := hide hgo
            clear hc hgo HST HSP hcmp
            subst hcc
            go_wp2_with (first
              | (go_at_call 111; first | ((with_reducible refine (HL1.out _ HQ0.out).mono ?_); rintro e w2 ⟨rfl, hb2⟩; have HQ2 := hide (HQ0.out.below hb2); have HB2 := hide (HB0.out.trans (But.of_below hb2)); clear hb2) | ((with_reducible refine (HL2.out _ HQ2.out).mono ?_); rintro e w3 ⟨rfl, hb3⟩; have HQ3 := hide (HQ2.out.below hb3); have HB3 := hide (HB2.out.trans (But.of_below hb3)); clear hb3)))
            go_ret
            exact HDN.out _ HQ3.out HB3.out (by have := HGO.out; omega)
        · have hcc : c = J1 := by rw [hc, childOf, if_neg (fun h => hcmp (by rw [hJ1, hJ2]; exact h.2)), hJ1]
          have HL1 := hide (Less_bool Q fn g key d' HF.out J2 J1 (by omega) (by omega) false (by simpa using hcmp))
          clear hJ1 hJ2
          by_cases hgo : key d'[c]! < key d'[k]!
          · have HL2 := hide (Less_bool Q fn g key d' HF.out c k (by omega) (by omega) true (by simpa using hgo))
            have HGO := hide hgo
            clear hc hgo HST HSP hcmp
            subst hcc
            go_wp2_with (first
              | (go_at_call 111; first | ((with_reducible refine (HL1.out _ HQ0.out).mono ?_); rintro e w2 ⟨rfl, hb2⟩; have HQ2 := hide (HQ0.out.below hb2); have HB2 := hide (HB0.out.trans (But.of_below hb2)); clear hb2) | ((with_reducible refine (HL2.out _ HQ2.out).mono ?_); rintro e w3 ⟨rfl, hb3⟩; have HQ3 := hide (HQ2.out.below hb3); have HB3 := hide (HB2.out.trans (But.of_below hb3)); clear hb3))
              | (go_at_call 113; (with_reducible refine (HS.out _ HQ3.out).mono ?_); rintro e w4 ⟨rfl, hQ4, hB4⟩; have HQ4 := hide hQ4; have HB4 := hide (HB3.out.trans hB4); clear hQ4 hB4))
            go_roundw
            case rel => first | exact ⟨c, swp d' k c, rfl, by omega, hide (HNX.out _ HQ4.out HB4.out HGO.out)⟩ | ((repeat apply Exists.intro); exact ⟨⟨c, swp d' k c, rfl, by omega, hide (HNX.out _ HQ4.out HB4.out HGO.out)⟩, rfl⟩)
            case measure => simp [intOf]; omega
          · have HL2 := hide (Less_bool Q fn g key d' HF.out c k (by omega) (by omega) false (by simpa using hgo))
            have HGO := hide hgo
            clear hc hgo HST HSP hcmp
            subst hcc
            go_wp2_with (first
              | (go_at_call 111; first | ((with_reducible refine (HL1.out _ HQ0.out).mono ?_); rintro e w2 ⟨rfl, hb2⟩; have HQ2 := hide (HQ0.out.below hb2); have HB2 := hide (HB0.out.trans (But.of_below hb2)); clear hb2) | ((with_reducible refine (HL2.out _ HQ2.out).mono ?_); rintro e w3 ⟨rfl, hb3⟩; have HQ3 := hide (HQ2.out.below hb3); have HB3 := hide (HB2.out.trans (But.of_below hb3)); clear hb3)))
            go_ret
            exact HDN.out _ HQ3.out HB3.out (by have := HGO.out; omega)
      · have hl2 : decide ((J2 : Int) < (n : Int)) = false := by simp; omega
        have dm : decide (J2 < n) = false := by simp; omega
        have hcc : c = J1 := by rw [hc, childOf, if_neg (fun h => hr (by omega)), hJ1]
        clear hJ1 hJ2
        by_cases hgo : key d'[c]! < key d'[k]!
        · have HL2 := hide (Less_bool Q fn g key d' HF.out c k (by omega) (by omega) true (by simpa using hgo))
          have HGO := hide hgo
          clear hc hgo HST HSP
          subst hcc
          go_wp2_with (first
            | (go_at_call 111; ((with_reducible refine (HL2.out _ HQ0.out).mono ?_); rintro e w3 ⟨rfl, hb3⟩; have HQ3 := hide (HQ0.out.below hb3); have HB3 := hide (HB0.out.trans (But.of_below hb3)); clear hb3))
            | (go_at_call 113; (with_reducible refine (HS.out _ HQ3.out).mono ?_); rintro e w4 ⟨rfl, hQ4, hB4⟩; have HQ4 := hide hQ4; have HB4 := hide (HB3.out.trans hB4); clear hQ4 hB4))
          go_roundw
          case rel => first | exact ⟨c, swp d' k c, rfl, by omega, hide (HNX.out _ HQ4.out HB4.out HGO.out)⟩ | ((repeat apply Exists.intro); exact ⟨⟨c, swp d' k c, rfl, by omega, hide (HNX.out _ HQ4.out HB4.out HGO.out)⟩, rfl⟩)
          case measure => simp [intOf]; omega
        · have HL2 := hide (Less_bool Q fn g key d' HF.out c k (by omega) (by omega) false (by simpa using hgo))
          have HGO := hide hgo
          clear hc hgo HST HSP
          subst hcc
          go_wp2_with (first
            | (go_at_call 111; ((with_reducible refine (HL2.out _ HQ0.out).mono ?_); rintro e w3 ⟨rfl, hb3⟩; have HQ3 := hide (HQ0.out.below hb3); have HB3 := hide (HB0.out.trans (But.of_below hb3)); clear hb3)))
          go_ret
          exact HDN.out _ HQ3.out HB3.out (by have := HGO.out; omega)
    · have hl1 : (n : Int) ≤ (J1 : Int) := by omega
      have dn : decide (n ≤ J1) = true := by simp; omega
      have hD := hdown_leaf key n k d' (by omega)
      clear hJ1 hJ2 hlt
      go_wp2
      go_ret
      refine ⟨_, rfl, ?_, hrel.out.2.1, fun hl => ?_⟩
      · rw [hrel.out.2.2.1, hD]; exact hrel.out.1
      · have := hrel.out.2.2.2.1 hl; subst this; simp
end Go.Proofs.Ythccadabblkalaa
