/- The walk of container/heap's Init at the queue (chapter 14). -/
import Derived.Test.YthccadabblkalaaSwUp
namespace Go.Proofs.Ythccadabblkalaa
open Go.RowKit Go.Sort

def InitR (Q fn g : Nat) (key : Itm → Nat) (D : Array Itm) (n : Nat) (w wr : World) (k : Nat) (d' : Array Itm) : Prop :=
  Que wr Q fn (some g) d' ∧ But (· = g) w wr ∧ D = heapBuild (ltK key) n 0 k d' ∧ d'.size = n ∧ n ≤ 1000000 ∧ k ≤ n
theorem build_step (key : Itm → Nat) (n k : Nat) (d : Array Itm) : heapBuild (ltK key) n 0 (k + 1) d = heapBuild (ltK key) n 0 k (hdown key n k d) := rfl
set_option maxRecDepth 100000 in
set_option maxHeartbeats 4000000 in
theorem Init_some (Q fn g : Nat) (key : Itm → Nat) (d : Array Itm) (w : World) (hf : Known fn key) (h : Que w Q fn (some g) d) (hsz : d.size ≤ 1000000) :
    Calls Try.prog 64 #[hq Q] w (UpV Q fn g (hinit key d) w) := by
  obtain ⟨n, hn⟩ : ∃ n, n = d.size := ⟨_, rfl⟩
  obtain ⟨D, hD⟩ : ∃ D, D = hinit key d := ⟨_, rfl⟩
  rw [← hD]
  have hR : InitR Q fn g key D n w w (n / 2) d := ⟨h, But.refl _ _, by rw [hD, hinit, hn], hn.symm, by omega, by omega⟩
  have HR0 := hide hR
  have HF := hide hf
  have HL := hide (Len_at Q fn (some g) d n hn w h)
  have m1 := fun p w => meth_Len p w
  have hn1 : (n : Int) ≤ 1000000 := by omega
  obtain ⟨h2, hh2⟩ : ∃ h2, h2 = n / 2 := ⟨_, rfl⟩
  have e1 : (n : Int).tdiv 2 = (h2 : Int) := by rw [Int.tdiv_eq_ediv_of_nonneg (by omega)]; omega
  have e2 : (n : Int) / 2 = (h2 : Int) := by omega
  have hb2 : (h2 : Int) ≤ 1000000 := by omega
  rw [← hh2] at HR0
  unfold hq
  clear h hD hf hsz hR hn hh2
  go_enter Try.func64, Try.ntmps64
  go_wp2_with (go_at_call 66; refine HL.out.mono ?_; rintro e w1 ⟨rfl, rfl⟩)
  clear HL
  go_loopw [3] (fun i wr => ∃ (k : Nat) (d' : Array Itm), i = .int .i64 ((k : Int) - 1) ∧ Hid (InitR Q fn g key D n w wr k d')) (fun i _ => (intOf i + 1).toNat)
  case atStart => exact ⟨h2, d, rfl, HR0⟩
  case round =>
    obtain ⟨k, d', rfl, hrel⟩ := hrel
    have HQ0 : Hid (Que wr Q fn (some g) d') := hrel.out.1
    have HB0 : Hid (But (· = g) w wr) := hrel.out.2.1
    have hk := hrel.out.2.2.2.2.2
    cases k with
    | zero =>
      go_wp2
      go_end0
      exact ⟨rfl, by rw [hrel.out.2.2.1]; exact HQ0.out, HB0.out⟩
    | succ k =>
      have hq : ((((k + 1 : Nat)) : Int) - 1) = (k : Int) := by omega
      rw [hq]
      have hk1 : (k : Int) ≤ 1000000 := by omega
      have HDN := hide (down_calls Q fn g key d' wr HF.out HQ0.out k n (by rw [hrel.out.2.2.2.1]; exact Nat.le_refl _) (by rw [hrel.out.2.2.2.1]; omega) (by omega))
      unfold Go.Proofs.Ythccadabblkalaa.hq at HDN
      have next : ∀ W, Que W Q fn (some g) (hdown key n k d') → But (· = g) w W → InitR Q fn g key D n w W k (hdown key n k d') := by
        intro W hQ hB
        exact ⟨hQ, hB, by rw [hrel.out.2.2.1, build_step], by rw [hdown_size key n (n - k) k d' (Nat.le_refl _)]; exact hrel.out.2.2.2.1, hrel.out.2.2.2.2.1, by omega⟩
      have HNX := hide next
      clear next hq
      go_wp2_with (go_at_call 73; refine HDN.out.mono ?_; rintro e w3 ⟨b, rfl, hq3, hb3, _⟩; have HQ3 := hide hq3; have HB3 := hide (HB0.out.trans hb3); clear hq3 hb3)
      go_roundw
      case rel => first | exact ⟨k, _, rfl, hide (HNX.out _ HQ3.out HB3.out)⟩ | ((repeat apply Exists.intro); exact ⟨⟨k, _, rfl, hide (HNX.out _ HQ3.out HB3.out)⟩, rfl⟩)
      case measure => simp [intOf]
set_option maxRecDepth 100000 in
set_option maxHeartbeats 4000000 in
theorem Init_none (Q fn : Nat) (w : World) (h : Que w Q fn none #[]) : Calls Try.prog 64 #[hq Q] w fun e w' => e = .returned (.tuple #[]) ∧ w = w' := by
  have HL := hide (Len_at Q fn none #[] 0 rfl w h)
  have m1 := fun p w => meth_Len p w
  unfold hq
  clear h
  go_enter Try.func64, Try.ntmps64
  go_wp2_with (go_at_call 66; refine HL.out.mono ?_; rintro e w1 ⟨rfl, rfl⟩)
  go_loopw [3] (fun i wr => i = .int .i64 (-1) ∧ w = wr) (fun _ _ => 0)
  case atStart => exact ⟨rfl, rfl⟩
  case round =>
    obtain ⟨rfl, rfl⟩ := hrel
    go_wp2
    go_end0
    exact ⟨rfl, rfl⟩
end Go.Proofs.Ythccadabblkalaa
