/- The walks of container/heap's down and up at the queue (chapter 14). The walks of container/heap's up, Init, Pop, Fix at the queue (chapter 14). The walk of container/heap's Init at the queue (chapter 14). -/
import Derived.Test.YthccadabblkalaaGreatSwQ
namespace Go.Proofs.YthccadabblkalaaGreat
open Go.RowKit Go.Sort

/-- An order that the queue may have. -/
def Known (fn : Nat) (key : Itm → Nat) : Prop := (fn = 57 ∧ key = Itm.lo) ∨ (fn = 58 ∧ key = lastI)
theorem meth_Len (p : Value) (w : World) : (method 300 121 p "Len").run Tryz.prog w = .ok (61, p) w := by kernel_rfl
theorem meth_Less (p : Value) (w : World) : (method 300 121 p "Less").run Tryz.prog w = .ok (129, p) w := by kernel_rfl
theorem meth_Swap (p : Value) (w : World) : (method 300 121 p "Swap").run Tryz.prog w = .ok (131, p) w := by kernel_rfl
theorem meth_Push (p : Value) (w : World) : (method 300 121 p "Push").run Tryz.prog w = .ok (60, p) w := by kernel_rfl
theorem meth_Pop (p : Value) (w : World) : (method 300 121 p "Pop").run Tryz.prog w = .ok (130, p) w := by kernel_rfl
def hq (Q : Nat) : Value := .iface 121 (.pointer (some ⟨Q, 0, none⟩))
theorem Less_bool (Q fn g : Nat) (key : Itm → Nat) (d : Array Itm) (hf : Known fn key) (i j : Nat) (hi : i < d.size) (hj : j < d.size) (b : Bool) (hb : decide (key d[i]! < key d[j]!) = b) :
    ∀ w, Que w Q fn (some g) d → Calls Tryz.prog 129 #[.pointer (some ⟨Q, 0, none⟩), .int .i64 (i : Int), .int .i64 (j : Int)] w fun e w' => e = .returned (.bool b) ∧ Below w.heap.size w w' := by
  intro w h
  have := Less_calls Q fn g key d w h hf i j hi hj
  rwa [hb] at this
/-- Behind a step of the heap's: the items, nothing but the row turned. -/
def DownV (Q fn g : Nat) (D : Array Itm) (leaf : Prop) (w : World) (e : Ending) (w' : World) : Prop :=
  ∃ b, e = .returned (.bool b) ∧ Que w' Q fn (some g) D ∧ But (· = g) w w' ∧ (leaf → b = false)
def DownR (Q fn g : Nat) (key : Itm → Nat) (n i0 : Nat) (D : Array Itm) (w wr : World) (k : Nat) (d' : Array Itm) : Prop :=
  Que wr Q fn (some g) d' ∧ But (· = g) w wr ∧ D = hdown key n k d' ∧ (n ≤ 2 * i0 + 1 → k = i0) ∧ n ≤ d'.size ∧ d'.size ≤ 1000000
set_option maxRecDepth 100000 in
set_option maxHeartbeats 8000000 in
theorem down_calls (Q fn g : Nat) (key : Itm → Nat) (d : Array Itm) (w : World) (hf : Known fn key) (h : Que w Q fn (some g) d) (i0 n : Nat) (hn : n ≤ d.size) (hsz : d.size ≤ 1000000) (hi0 : i0 ≤ 1000000) :
    Calls Tryz.prog 76 #[hq Q, .int .i64 (i0 : Int), .int .i64 (n : Int)] w (DownV Q fn g (hdown key n i0 d) (n ≤ 2 * i0 + 1) w) := by
  obtain ⟨D, hD⟩ : ∃ D, D = hdown key n i0 d := ⟨_, rfl⟩
  rw [← hD]
  have HR0 := hide (show DownR Q fn g key n i0 D w w i0 d from ⟨h, But.refl _ _, hD, fun _ => rfl, hn, hsz⟩)
  have HF := hide hf
  have hn1 : (n : Int) ≤ 1000000 := by omega
  have hi1 : (i0 : Int) ≤ 1000000 := by omega
  have m1 := fun p w => meth_Less p w
  have m2 := fun p w => meth_Swap p w
  clear h hD hf hn hsz hi0
  show Calls Tryz.prog 76 #[.iface 121 (.pointer (some ⟨Q, 0, none⟩)), .int .i64 (i0 : Int), .int .i64 (n : Int)] w _
  go_enter Tryz.func76, Tryz.ntmps76
  go_wp2
  go_loopw [7] (fun i wr => ∃ (k : Nat) (d' : Array Itm), i = .int .i64 (k : Int) ∧ k ≤ 1000000 ∧ Hid (DownR Q fn g key n i0 D w wr k d')) (fun i _ => n - (intOf i).toNat)
  case atStart => exact ⟨i0, d, rfl, by omega, HR0⟩
  case round =>
    obtain ⟨k, d', rfl, hk, hrel⟩ := hrel
    have hk1 : (k : Int) ≤ 1000000 := by omega
    have HQ0 : Hid (Que wr Q fn (some g) d') := hrel.out.1
    have HB0 : Hid (But (· = g) w wr) := hrel.out.2.1
    obtain ⟨J1, hJ1⟩ : ∃ J1, J1 = 2 * k + 1 := ⟨_, rfl⟩
    obtain ⟨J2, hJ2⟩ : ∃ J2, J2 = 2 * k + 2 := ⟨_, rfl⟩
    have e1 : 2 * (k : Int) + 1 = (J1 : Int) := by omega
    have e2 : (J1 : Int) + 1 = (J2 : Int) := by omega
    have b1 : (J1 : Int) ≤ 2000001 := by omega
    have nn : decide ((J1 : Int) < 0) = false := by simp
    have b2 : (J2 : Int) ≤ 2000002 := by omega
    by_cases hlt : J1 < n
    · have hl1 : (J1 : Int) < (n : Int) := by omega
      have dn : decide (n ≤ J1) = false := by simp; omega
      have hnd := hrel.out.2.2.2.2.1
      obtain ⟨c, hc⟩ : ∃ c, c = childOf key n k d' := ⟨_, rfl⟩
      have hcl := childOf_lt key n k d' (by omega)
      rw [← hc] at hcl
      have HS := hide (fun W hW => Swap_calls Q fn g d' W hW k c (by omega) (by omega))
      have HST := hide (hdown_step key n k d' (by omega))
      have HSP := hide (hdown_stop key n k d' (by omega))
      rw [← hc] at HST HSP
      have done : ∀ W, Que W Q fn (some g) d' → But (· = g) w W → key d'[k]! ≤ key d'[c]! → DownV Q fn g D (n ≤ 2 * i0 + 1) w (.returned (.bool (decide (i0 < k)))) W := by
        intro W hQ hB hle
        refine ⟨_, rfl, ?_, hB, fun hl => ?_⟩
        · rw [hrel.out.2.2.1, HSP.out hle]; exact hQ
        · have := hrel.out.2.2.2.1 hl; subst this; simp
      have next : ∀ W, Que W Q fn (some g) (swp d' k c) → But (· = g) w W → key d'[c]! < key d'[k]! → DownR Q fn g key n i0 D w W c (swp d' k c) := by
        intro W hQ hB hle
        refine ⟨hQ, hB, by rw [hrel.out.2.2.1, HST.out hle], fun hl => ?_, by rw [size_swp]; exact hnd, by rw [size_swp]; exact hrel.out.2.2.2.2.2⟩
        have := hrel.out.2.2.2.1 hl; omega
      have HDN := hide done
      have HNX := hide next
      clear done next
      by_cases hr : J2 < n
      · have hl2 : (J2 : Int) < (n : Int) := by omega
        have dm : decide (J2 < n) = true := by simp; omega
        by_cases hcmp : key d'[J2]! < key d'[J1]!
        · have hcc : c = J2 := by rw [hc, childOf, if_pos ⟨by omega, by rw [← hJ1, ← hJ2]; exact hcmp⟩, hJ2]
          have HL1 := hide (Less_bool Q fn g key d' HF.out J2 J1 (by omega) (by omega) true (by simpa using hcmp))
          clear hJ1 hJ2
          by_cases hgo : key d'[c]! < key d'[k]!
          · have HL2 := hide (Less_bool Q fn g key d' HF.out c k (by omega) (by omega) true (by simpa using hgo))
            have HGO := hide hgo
            clear hc hgo HST HSP hcmp
            subst hcc
            go_wp2_with (first
              | (go_at_call 129; first | ((with_reducible refine (HL1.out _ HQ0.out).mono ?_); rintro e w2 ⟨rfl, hb2⟩; have HQ2 := hide (HQ0.out.below hb2); have HB2 := hide (HB0.out.trans (But.of_below hb2)); clear hb2) | ((with_reducible refine (HL2.out _ HQ2.out).mono ?_); rintro e w3 ⟨rfl, hb3⟩; have HQ3 := hide (HQ2.out.below hb3); have HB3 := hide (HB2.out.trans (But.of_below hb3)); clear hb3))
              | (go_at_call 131; (with_reducible refine (HS.out _ HQ3.out).mono ?_); rintro e w4 ⟨rfl, hQ4, hB4⟩; have HQ4 := hide hQ4; have HB4 := hide (HB3.out.trans hB4); clear hQ4 hB4))
            go_roundw
            case rel => first | exact ⟨c, swp d' k c, rfl, by omega, hide (HNX.out _ HQ4.out HB4.out HGO.out)⟩ | ((repeat apply Exists.intro); exact ⟨⟨c, swp d' k c, rfl, by omega, hide (HNX.out _ HQ4.out HB4.out HGO.out)⟩, rfl⟩)
            case measure => simp [intOf]; omega
          · have HL2 := hide (Less_bool Q fn g key d' HF.out c k (by omega) (by omega) false (by simpa using hgo))
            have HGO := hide hgo
            clear hc hgo HST HSP hcmp
            subst hcc
            go_wp2_with (first
              | (go_at_call 129; first | ((with_reducible refine (HL1.out _ HQ0.out).mono ?_); rintro e w2 ⟨rfl, hb2⟩; have HQ2 := hide (HQ0.out.below hb2); have HB2 := hide (HB0.out.trans (But.of_below hb2)); clear hb2) | ((with_reducible refine (HL2.out _ HQ2.out).mono ?_); rintro e w3 ⟨rfl, hb3⟩; have HQ3 := hide (HQ2.out.below hb3); have HB3 := hide (HB2.out.trans (But.of_below hb3)); clear hb3)))
            go_ret
            exact HDN.out _ HQ3.out HB3.out (by have := HGO.out; omega)
        · have hcc : c = J1 := by rw [hc, childOf, if_neg (fun h => hcmp (by rw [hJ1, hJ2]; exact h.2)), hJ1]
          have HL1 := hide (Less_bool Q fn g key d' HF.out J2 J1 (by omega) (by omega) false (by simpa using hcmp))
          clear hJ1 hJ2
          by_cases hgo : key d'[c]! < key d'[k]!
          · have HL2 := hide (Less_bool Q fn g key d' HF.out c k (by omega) (by omega) true (by simpa using hgo))
            have HGO := hide hgo
            clear hc hgo HST HSP hcmp
            subst hcc
            go_wp2_with (first
              | (go_at_call 129; first | ((with_reducible refine (HL1.out _ HQ0.out).mono ?_); rintro e w2 ⟨rfl, hb2⟩; have HQ2 := hide (HQ0.out.below hb2); have HB2 := hide (HB0.out.trans (But.of_below hb2)); clear hb2) | ((with_reducible refine (HL2.out _ HQ2.out).mono ?_); rintro e w3 ⟨rfl, hb3⟩; have HQ3 := hide (HQ2.out.below hb3); have HB3 := hide (HB2.out.trans (But.of_below hb3)); clear hb3))
              | (go_at_call 131; (with_reducible refine (HS.out _ HQ3.out).mono ?_); rintro e w4 ⟨rfl, hQ4, hB4⟩; have HQ4 := hide hQ4; have HB4 := hide (HB3.out.trans hB4); clear hQ4 hB4))
            go_roundw
            case rel => first | exact ⟨c, swp d' k c, rfl, by omega, hide (HNX.out _ HQ4.out HB4.out HGO.out)⟩ | ((repeat apply Exists.intro); exact ⟨⟨c, swp d' k c, rfl, by omega, hide (HNX.out _ HQ4.out HB4.out HGO.out)⟩, rfl⟩)
            case measure => simp [intOf]; omega
          · have HL2 := hide (Less_bool Q fn g key d' HF.out c k (by omega) (by omega) false (by simpa using hgo))
            have HGO := hide hgo
            clear hc hgo HST HSP hcmp
            subst hcc
            go_wp2_with (first
              | (go_at_call 129; first | ((with_reducible refine (HL1.out _ HQ0.out).mono ?_); rintro e w2 ⟨rfl, hb2⟩; have HQ2 := hide (HQ0.out.below hb2); have HB2 := hide (HB0.out.trans (But.of_below hb2)); clear hb2) | ((with_reducible refine (HL2.out _ HQ2.out).mono ?_); rintro e w3 ⟨rfl, hb3⟩; have HQ3 := hide (HQ2.out.below hb3); have HB3 := hide (HB2.out.trans (But.of_below hb3)); clear hb3)))
            go_ret
            exact HDN.out _ HQ3.out HB3.out (by have := HGO.out; omega)
      · have hl2 : decide ((J2 : Int) < (n : Int)) = false := by simp; omega
        have dm : decide (J2 < n) = false := by simp; omega
        have hcc : c = J1 := by rw [hc, childOf, if_neg (fun h => hr (by omega)), hJ1]
        clear hJ1 hJ2
        by_cases hgo : key d'[c]! < key d'[k]!
        · have HL2 := hide (Less_bool Q fn g key d' HF.out c k (by omega) (by omega) true (by simpa using hgo))
          have HGO := hide hgo
          clear hc hgo HST HSP
          subst hcc
          go_wp2_with (first
            | (go_at_call 129; ((with_reducible refine (HL2.out _ HQ0.out).mono ?_); rintro e w3 ⟨rfl, hb3⟩; have HQ3 := hide (HQ0.out.below hb3); have HB3 := hide (HB0.out.trans (But.of_below hb3)); clear hb3))
            | (go_at_call 131; (with_reducible refine (HS.out _ HQ3.out).mono ?_); rintro e w4 ⟨rfl, hQ4, hB4⟩; have HQ4 := hide hQ4; have HB4 := hide (HB3.out.trans hB4); clear hQ4 hB4))
          go_roundw
          case rel => first | exact ⟨c, swp d' k c, rfl, by omega, hide (HNX.out _ HQ4.out HB4.out HGO.out)⟩ | ((repeat apply Exists.intro); exact ⟨⟨c, swp d' k c, rfl, by omega, hide (HNX.out _ HQ4.out HB4.out HGO.out)⟩, rfl⟩)
          case measure => simp [intOf]; omega
        · have HL2 := hide (Less_bool Q fn g key d' HF.out c k (by omega) (by omega) false (by simpa using hgo))
          have HGO := hide hgo
          clear hc hgo HST HSP
          subst hcc
          go_wp2_with (first
            | (go_at_call 129; ((with_reducible refine (HL2.out _ HQ0.out).mono ?_); rintro e w3 ⟨rfl, hb3⟩; have HQ3 := hide (HQ0.out.below hb3); have HB3 := hide (HB0.out.trans (But.of_below hb3)); clear hb3)))
          go_ret
          exact HDN.out _ HQ3.out HB3.out (by have := HGO.out; omega)
    · have hl1 : (n : Int) ≤ (J1 : Int) := by omega
      have dn : decide (n ≤ J1) = true := by simp; omega
      have hD := hdown_leaf key n k d' (by omega)
      clear hJ1 hJ2 hlt
      go_wp2
      go_ret
      refine ⟨_, rfl, ?_, hrel.out.2.1, fun hl => ?_⟩
      · rw [hrel.out.2.2.1, hD]; exact hrel.out.1
      · have := hrel.out.2.2.2.1 hl; subst this; simp
end Go.Proofs.YthccadabblkalaaGreat
namespace Go.Proofs.YthccadabblkalaaGreat
open Go.RowKit Go.Sort

def UpR (Q fn g : Nat) (key : Itm → Nat) (D : Array Itm) (w wr : World) (j : Nat) (d' : Array Itm) : Prop :=
  Que wr Q fn (some g) d' ∧ But (· = g) w wr ∧ D = hup key j d' ∧ j < d'.size ∧ d'.size ≤ 1000000
def UpV (Q fn g : Nat) (D : Array Itm) (w : World) (e : Ending) (w' : World) : Prop :=
  e = .returned (.tuple #[]) ∧ Que w' Q fn (some g) D ∧ But (· = g) w w'
set_option maxRecDepth 100000 in
set_option maxHeartbeats 8000000 in
theorem up_calls (Q fn g : Nat) (key : Itm → Nat) (d : Array Itm) (w : World) (hf : Known fn key) (h : Que w Q fn (some g) d) (j0 : Nat) (hj : j0 < d.size) (hsz : d.size ≤ 1000000) :
    Calls Tryz.prog 77 #[hq Q, .int .i64 (j0 : Int)] w (UpV Q fn g (hup key j0 d) w) := by
  obtain ⟨D, hD⟩ : ∃ D, D = hup key j0 d := ⟨_, rfl⟩
  rw [← hD]
  have HR0 := hide (show UpR Q fn g key D w w j0 d from ⟨h, But.refl _ _, hD, hj, hsz⟩)
  have HF := hide hf
  have m1 := fun p w => meth_Less p w
  have m2 := fun p w => meth_Swap p w
  clear h hD hf hj hsz
  show Calls Tryz.prog 77 #[.iface 121 (.pointer (some ⟨Q, 0, none⟩)), .int .i64 (j0 : Int)] w _
  go_enter Tryz.func77, Tryz.ntmps77
  go_wp2
  go_loopw [1] (fun i wr => ∃ (j : Nat) (d' : Array Itm), i = .int .i64 (j : Int) ∧ Hid (UpR Q fn g key D w wr j d')) (fun i _ => (intOf i).toNat)
  case atStart => exact ⟨j0, d, rfl, HR0⟩
  case round =>
    obtain ⟨j, d', rfl, hrel⟩ := hrel
    have HQ0 : Hid (Que wr Q fn (some g) d') := hrel.out.1
    have HB0 : Hid (But (· = g) w wr) := hrel.out.2.1
    have hjs := hrel.out.2.2.2.1
    have hs := hrel.out.2.2.2.2
    have hj1 : (j : Int) ≤ 1000000 := by omega
    by_cases h0 : j = 0
    · subst h0
      have hD := hide (hup_zero key d')
      go_wp2
      go_end0
      exact ⟨rfl, by rw [hrel.out.2.2.1, hD.out]; exact HQ0.out, HB0.out⟩
    · obtain ⟨p, hp⟩ : ∃ p, p = (j - 1) / 2 := ⟨_, rfl⟩
      have e1 : ((j : Int) - 1).tdiv 2 = (p : Int) := by rw [Int.tdiv_eq_ediv_of_nonneg (by omega)]; omega
      have e2 : ((j : Int) - 1) / 2 = (p : Int) := by omega
      have hj0 : 1 ≤ (j : Int) := by omega
      have hpj : (p : Int) < (j : Int) := by omega
      have hne : ((p : Int) == (j : Int)) = false := by simp; omega
      have hne2 : (p == j) = false := by simp; omega
      have HS := hide (fun W hW => Swap_calls Q fn g d' W hW p j (by omega) hjs)
      by_cases hgo : key d'[j]! < key d'[p]!
      · have HL2 := hide (Less_bool Q fn g key d' HF.out j p hjs (by omega) true (by simpa using hgo))
        have next : ∀ W, Que W Q fn (some g) (swp d' p j) → But (· = g) w W → UpR Q fn g key D w W p (swp d' p j) := by
          intro W hQ hB
          refine ⟨hQ, hB, by rw [hrel.out.2.2.1, hup_step key j d' (by omega) (by rw [← hp]; exact hgo), hp], by rw [size_swp]; omega, by rw [size_swp]; exact hs⟩
        have HNX := hide next
        clear next hgo hp h0
        go_wp2_with (first
          | (go_at_call 129; ((with_reducible refine (HL2.out _ HQ0.out).mono ?_); rintro e w3 ⟨rfl, hb3⟩; have HQ3 := hide (HQ0.out.below hb3); have HB3 := hide (HB0.out.trans (But.of_below hb3)); clear hb3))
          | (go_at_call 131; (with_reducible refine (HS.out _ HQ3.out).mono ?_); rintro e w4 ⟨rfl, hQ4, hB4⟩; have HQ4 := hide hQ4; have HB4 := hide (HB3.out.trans hB4); clear hQ4 hB4))
        go_roundw
        case rel => first | exact ⟨p, swp d' p j, rfl, hide (HNX.out _ HQ4.out HB4.out)⟩ | ((repeat apply Exists.intro); exact ⟨⟨p, swp d' p j, rfl, hide (HNX.out _ HQ4.out HB4.out)⟩, rfl⟩)
        case measure => simp [intOf]; omega
      · have HL2 := hide (Less_bool Q fn g key d' HF.out j p hjs (by omega) false (by simpa using hgo))
        have hD := hide (hup_stop key j d' (by rw [← hp]; omega))
        clear hgo hp h0
        go_wp2_with (go_at_call 129; ((with_reducible refine (HL2.out _ HQ0.out).mono ?_); rintro e w3 ⟨rfl, hb3⟩; have HQ3 := hide (HQ0.out.below hb3); have HB3 := hide (HB0.out.trans (But.of_below hb3)); clear hb3))
        go_end0
        exact ⟨rfl, by rw [hrel.out.2.2.1, hD.out]; exact HQ3.out, HB3.out⟩

theorem Len_at (Q fn : Nat) (R : Option Nat) (d : Array Itm) (n : Nat) (hn : n = d.size) (w : World) (h : Que w Q fn R d) :
    Calls Tryz.prog 61 #[.pointer (some ⟨Q, 0, none⟩)] w fun e w' => e = .returned (.int .i64 (n : Int)) ∧ w = w' := by
  subst hn; exact Len_calls Q fn R d w h
set_option maxRecDepth 100000 in
set_option maxHeartbeats 4000000 in
theorem Fix_calls (Q fn g : Nat) (key : Itm → Nat) (d : Array Itm) (w : World) (hf : Known fn key) (h : Que w Q fn (some g) d) (j : Nat) (hj : d.size = j + 1) (hsz : d.size ≤ 1000000) :
    Calls Tryz.prog 63 #[hq Q, .int .i64 (j : Int)] w (UpV Q fn g (hup key j d) w) := by
  have HL := hide (Len_at Q fn (some g) d (j + 1) hj.symm w h)
  have HDN := hide (down_calls Q fn g key d w hf h j (j + 1) (by omega) hsz (by omega))
  have HUP := hide (fun W hW => up_calls Q fn g key d W hf hW j (by omega) hsz)
  have hleaf := hide (hdown_leaf key (j + 1) j d (by omega))
  have m1 := fun p w => meth_Len p w
  unfold hq at *
  have hj1 : (j : Int) ≤ 1000000 := by omega
  clear h hf hj hsz
  go_enter Tryz.func63, Tryz.ntmps63
  go_wp2_with (first
    | (go_at_call 61; refine HL.out.mono ?_; rintro e w1 ⟨rfl, rfl⟩)
    | (go_at_call 76; refine HDN.out.mono ?_; rintro e w2 ⟨b, rfl, hq2, hb2, hl2⟩; obtain rfl := hl2 (by omega); rw [hleaf.out] at hq2; have HQ2 := hide hq2; have HB2 := hide hb2; clear hq2 hb2)
    | (go_at_call 77; refine (HUP.out _ HQ2.out).mono ?_; rintro e w3 ⟨rfl, hq3, hb3⟩; have HQ3 := hide hq3; have HB3 := hide (HB2.out.trans hb3); clear hq3 hb3))
  go_end0
  exact ⟨rfl, HQ3.out, HB3.out⟩
set_option maxRecDepth 100000 in
set_option maxHeartbeats 4000000 in
theorem HPop_calls (Q fn g : Nat) (key : Itm → Nat) (d : Array Itm) (w : World) (hf : Known fn key) (h : Que w Q fn (some g) d) (hh : IsHeap key d.size d) (h0 : 0 < d.size) (hsz : d.size ≤ 1000000) :
    Calls Tryz.prog 62 #[hq Q] w fun e w' => e = .returned (.iface 81 (.agg (itA d[0]!))) ∧ Que w' Q fn (some g) (hpop key d) ∧ But (qset Q (some g)) w w' := by
  obtain ⟨m, hm⟩ : ∃ m, d.size = m + 1 := ⟨d.size - 1, by omega⟩
  obtain ⟨s1, s2, s3, s4⟩ := hpopAll_spec key d hh h0
  have hm1 : d.size - 1 = m := by omega
  have HL := hide (Len_at Q fn (some g) d (m + 1) hm.symm w h)
  have HS := hide (Swap_calls Q fn g d w h 0 m h0 (by omega))
  have HDN := hide (fun W hW => down_calls Q fn g key (swp d 0 m) W hf hW 0 m (by rw [size_swp]; omega) (by rw [size_swp]; exact hsz) (by omega))
  have hpa : hdown key m 0 (swp d 0 m) = hpopAll key d := by unfold hpopAll; rw [hm1]
  rw [hpa] at HDN
  have HP := hide (fun W hW => QPop_calls Q fn g (hpopAll key d) W hW (by omega) (by omega))
  have e2 : (hpopAll key d)[(hpopAll key d).size - 1]! = d[0]! := by rw [s1]; exact s2
  rw [e2] at HP
  have m1 := fun p w => meth_Len p w
  have m2 := fun p w => meth_Swap p w
  have m3 := fun p w => meth_Pop p w
  have hj1 : (m : Int) ≤ 1000000 := by omega
  unfold hq at *
  unfold DownV at HDN
  have hpd : hpop key d = (hpopAll key d).pop := rfl
  rw [hpd]
  generalize hpopAll key d = DD at *
  generalize d[0]! = x0 at *
  clear h hf hh h0 hm s1 s2 s3 s4 hm1 hpa e2 hpd
  obtain ⟨xlo, xlen, xi⟩ := x0
  have hx : itA ⟨xlo, xlen, xi⟩ = #[.int .u64 (xlo : Int), .int .u64 (xlen : Int), .int .i64 (xi : Int)] := rfl
  rw [hx] at HP ⊢
  clear hx
  go_enter Tryz.func62, Tryz.ntmps62
  go_wp2_with (first
    | (go_at_call 61; refine HL.out.mono ?_; rintro e w1 ⟨rfl, rfl⟩)
    | (go_at_call 131; refine HS.out.mono ?_; rintro e w2 ⟨rfl, hq2, hb2⟩; have HQ2 := hide hq2; have HB2 := hide hb2; clear hq2 hb2)
    | (go_at_call 76; refine (HDN.out _ HQ2.out).mono ?_; rintro e w3 ⟨b, rfl, hq3, hb3, _⟩; have HQ3 := hide hq3; have HB3 := hide (HB2.out.trans hb3); clear hq3 hb3)
    | (go_at_call 130; refine (HP.out _ HQ3.out).mono ?_; rintro e w4 ⟨rfl, hq4, hb4⟩; have HQ4 := hide hq4; have HB4 := hide ((HB3.out.mono (M' := qset Q (some g)) (fun k _ e => .inr (by rw [e]))).trans (hb4.mono (fun k _ e => .inl e))); clear hq4 hb4))
  go_ret
  exact ⟨rfl, HQ4.out, HB4.out⟩
end Go.Proofs.YthccadabblkalaaGreat
namespace Go.Proofs.YthccadabblkalaaGreat
open Go.RowKit Go.Sort

def InitR (Q fn g : Nat) (key : Itm → Nat) (D : Array Itm) (n : Nat) (w wr : World) (k : Nat) (d' : Array Itm) : Prop :=
  Que wr Q fn (some g) d' ∧ But (· = g) w wr ∧ D = heapBuild (ltK key) n 0 k d' ∧ d'.size = n ∧ n ≤ 1000000 ∧ k ≤ n
theorem build_step (key : Itm → Nat) (n k : Nat) (d : Array Itm) : heapBuild (ltK key) n 0 (k + 1) d = heapBuild (ltK key) n 0 k (hdown key n k d) := rfl
set_option maxRecDepth 100000 in
set_option maxHeartbeats 4000000 in
theorem Init_some (Q fn g : Nat) (key : Itm → Nat) (d : Array Itm) (w : World) (hf : Known fn key) (h : Que w Q fn (some g) d) (hsz : d.size ≤ 1000000) :
    Calls Tryz.prog 59 #[hq Q] w (UpV Q fn g (hinit key d) w) := by
  obtain ⟨n, hn⟩ : ∃ n, n = d.size := ⟨_, rfl⟩
  obtain ⟨D, hD⟩ : ∃ D, D = hinit key d := ⟨_, rfl⟩
  rw [← hD]
  have hR : InitR Q fn g key D n w w (n / 2) d := ⟨h, But.refl _ _, by rw [hD, hinit, hn], hn.symm, by omega, by omega⟩
  have HR0 := hide hR
  have HF := hide hf
  have HL := hide (Len_at Q fn (some g) d n hn w h)
  have m1 := fun p w => meth_Len p w
  have hn1 : (n : Int) ≤ 1000000 := by omega
  obtain ⟨h2, hh2⟩ : ∃ h2, h2 = n / 2 := ⟨_, rfl⟩
  have e1 : (n : Int).tdiv 2 = (h2 : Int) := by rw [Int.tdiv_eq_ediv_of_nonneg (by omega)]; omega
  have e2 : (n : Int) / 2 = (h2 : Int) := by omega
  have hb2 : (h2 : Int) ≤ 1000000 := by omega
  rw [← hh2] at HR0
  unfold hq
  clear h hD hf hsz hR hn hh2
  go_enter Tryz.func59, Tryz.ntmps59
  go_wp2_with (go_at_call 61; refine HL.out.mono ?_; rintro e w1 ⟨rfl, rfl⟩)
  clear HL
  go_loopw [3] (fun i wr => ∃ (k : Nat) (d' : Array Itm), i = .int .i64 ((k : Int) - 1) ∧ Hid (InitR Q fn g key D n w wr k d')) (fun i _ => (intOf i + 1).toNat)
  case atStart => exact ⟨h2, d, rfl, HR0⟩
  case round =>
    obtain ⟨k, d', rfl, hrel⟩ := hrel
    have HQ0 : Hid (Que wr Q fn (some g) d') := hrel.out.1
    have HB0 : Hid (But (· = g) w wr) := hrel.out.2.1
    have hk := hrel.out.2.2.2.2.2
    cases k with
    | zero =>
      go_wp2
      go_end0
      exact ⟨rfl, by rw [hrel.out.2.2.1]; exact HQ0.out, HB0.out⟩
    | succ k =>
      have hq : ((((k + 1 : Nat)) : Int) - 1) = (k : Int) := by omega
      rw [hq]
      have hk1 : (k : Int) ≤ 1000000 := by omega
      have HDN := hide (down_calls Q fn g key d' wr HF.out HQ0.out k n (by rw [hrel.out.2.2.2.1]; exact Nat.le_refl _) (by rw [hrel.out.2.2.2.1]; omega) (by omega))
      unfold Go.Proofs.YthccadabblkalaaGreat.hq at HDN
      have next : ∀ W, Que W Q fn (some g) (hdown key n k d') → But (· = g) w W → InitR Q fn g key D n w W k (hdown key n k d') := by
        intro W hQ hB
        exact ⟨hQ, hB, by rw [hrel.out.2.2.1, build_step], by rw [hdown_size key n (n - k) k d' (Nat.le_refl _)]; exact hrel.out.2.2.2.1, hrel.out.2.2.2.2.1, by omega⟩
      have HNX := hide next
      clear next hq
      go_wp2_with (go_at_call 76; refine HDN.out.mono ?_; rintro e w3 ⟨b, rfl, hq3, hb3, _⟩; have HQ3 := hide hq3; have HB3 := hide (HB0.out.trans hb3); clear hq3 hb3)
      go_roundw
      case rel => first | exact ⟨k, _, rfl, hide (HNX.out _ HQ3.out HB3.out)⟩ | ((repeat apply Exists.intro); exact ⟨⟨k, _, rfl, hide (HNX.out _ HQ3.out HB3.out)⟩, rfl⟩)
      case measure => simp [intOf]
set_option maxRecDepth 100000 in
set_option maxHeartbeats 4000000 in
theorem Init_none (Q fn : Nat) (w : World) (h : Que w Q fn none #[]) : Calls Tryz.prog 59 #[hq Q] w fun e w' => e = .returned (.tuple #[]) ∧ w = w' := by
  have HL := hide (Len_at Q fn none #[] 0 rfl w h)
  have m1 := fun p w => meth_Len p w
  unfold hq
  clear h
  go_enter Tryz.func59, Tryz.ntmps59
  go_wp2_with (go_at_call 61; refine HL.out.mono ?_; rintro e w1 ⟨rfl, rfl⟩)
  go_loopw [3] (fun i wr => i = .int .i64 (-1) ∧ w = wr) (fun _ _ => 0)
  case atStart => exact ⟨rfl, rfl⟩
  case round =>
    obtain ⟨rfl, rfl⟩ := hrel
    go_wp2
    go_end0
    exact ⟨rfl, rfl⟩
end Go.Proofs.YthccadabblkalaaGreat
