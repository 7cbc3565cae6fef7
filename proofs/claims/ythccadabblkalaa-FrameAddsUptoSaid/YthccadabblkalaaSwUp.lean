/- The walks of container/heap's up, Init, Pop, Fix at the queue (chapter 14). -/
import Derived.Test.YthccadabblkalaaSwDown
namespace Go.Proofs.Ythccadabblkalaa
open Go.RowKit Go.Sort

def UpR (Q fn g : Nat) (key : Itm → Nat) (D : Array Itm) (w wr : World) (j : Nat) (d' : Array Itm) : Prop :=
  Que wr Q fn (some g) d' ∧ But (· = g) w wr ∧ D = hup key j d' ∧ j < d'.size ∧ d'.size ≤ 1000000
def UpV (Q fn g : Nat) (D : Array Itm) (w : World) (e : Ending) (w' : World) : Prop :=
  e = .returned (.tuple #[]) ∧ Que w' Q fn (some g) D ∧ But (· = g) w w'
set_option maxRecDepth 100000 in
set_option maxHeartbeats 8000000 in
theorem up_calls (Q fn g : Nat) (key : Itm → Nat) (d : Array Itm) (w : World) (hf : Known fn key) (h : Que w Q fn (some g) d) (j0 : Nat) (hj : j0 < d.size) (hsz : d.size ≤ 1000000) :
    Calls Try.prog 74 #[hq Q, .int .i64 (j0 : Int)] w (UpV Q fn g (hup key j0 d) w) := by
  obtain ⟨D, hD⟩ : ∃ D, D = hup key j0 d := ⟨_, rfl⟩
  rw [← hD]
  have HR0 := hide (show UpR Q fn g key D w w j0 d from ⟨h, But.refl _ _, hD, hj, hsz⟩)
  have HF := hide hf
  have m1 := fun p w => meth_Less p w
  have m2 := fun p w => meth_Swap p w
  clear h hD hf hj hsz
  show Calls Try.prog 74 #[.iface 125 (.pointer (some ⟨Q, 0, none⟩)), .int .i64 (j0 : Int)] w _
  go_enter Try.func74, Try.ntmps74
  go_wp2
  go_loopw [1] (fun i wr => ∃ (j : Nat) (d' : Array Itm), i = .int .i64 (j : Int) ∧ Hid (UpR Q fn g key D w wr j d')) (fun i _ => (intOf i).toNat)
  case atStart => exact ⟨j0, d, rfl, HR0⟩
  case round =>
    obtain ⟨j, d', rfl, hrel⟩ := hrel
    have HQ0 : Hid (Que wr Q fn (some g) d') := hrel.out.1
    have HB0 : Hid (But (· = g) w wr) := hrel.out.2.1
    have hjs := hrel.out.2.2.2.1
    have hs := hrel.out.2.2.2.2
    have hj1 : (j : Int) ≤ 1000000 := by omega
    by_cases h0 : j = 0
    · subst h0
      have hD := hide (hup_zero key d')
      go_wp2
      go_end0
      exact ⟨rfl, by rw [hrel.out.2.2.1, hD.out]; exact HQ0.out, HB0.out⟩
    · obtain ⟨p, hp⟩ : ∃ p, p = (j - 1) / 2 := ⟨_, rfl⟩
      have e1 : ((j : Int) - 1).tdiv 2 = (p : Int) := by rw [Int.tdiv_eq_ediv_of_nonneg (by omega)]; omega
      have e2 : ((j : Int) - 1) / 2 = (p : Int) := by omega
      have hj0 : 1 ≤ (j : Int) := by omega
      have hpj : (p : Int) < (j : Int) := by omega
      have hne : ((p : Int) == (j : Int)) = false := by simp; omega
      have hne2 : (p == j) = false := by simp; omega
      have HS := hide (fun W hW => Swap_calls Q fn g d' W hW p j (by omega) hjs)
      by_cases hgo : key d'[j]! < key d'[p]!
      · have HL2 := hide (Less_bool Q fn g key d' HF.out j p hjs (by omega) true (by simpa using hgo))
        have next : ∀ W, Que W Q fn (some g) (swp d' p j) → But (· = g) w W → UpR Q fn g key D w W p (swp d' p j) := by
          intro W hQ hB
          refine ⟨hQ, hB, by rw [hrel.out.2.2.1, hup_step key j d' (by omega) (by rw [← hp]; exact hgo), hp], by rw [size_swp]; omega, by rw [size_swp]; exact hs⟩
        have HNX := hide next
        clear next hgo hp h0
        go_wp2_with (first
          | (go_at_call 111; ((with_reducible refine (HL2.out _ HQ0.out).mono ?_); rintro e w3 ⟨rfl, hb3⟩; have HQ3 := hide (HQ0.out.below hb3); have HB3 := hide (HB0.out.trans (But.of_below hb3)); clear hb3))
          | (go_at_call 113; (with_reducible refine (HS.out _ HQ3.out).mono ?_); rintro e w4 ⟨rfl, hQ4, hB4⟩; have HQ4 := hide hQ4; have HB4 := hide (HB3.out.trans hB4); clear hQ4 hB4))
        go_roundw
        case rel => first | exact ⟨p, swp d' p j, rfl, hide (HNX.out _ HQ4.out HB4.out)⟩ | ((repeat apply Exists.intro); exact ⟨⟨p, swp d' p j, rfl, hide (HNX.out _ HQ4.out HB4.out)⟩, rfl⟩)
        case measure => simp [intOf]; omega
      · have HL2 := hide (Less_bool Q fn g key d' HF.out j p hjs (by omega) false (by simpa using hgo))
        have hD := hide (hup_stop key j d' (by rw [← hp]; omega))
        clear hgo hp h0
        go_wp2_with (go_at_call 111; ((with_reducible refine (HL2.out _ HQ0.out).mono ?_); rintro e w3 ⟨rfl, hb3⟩; have HQ3 := hide (HQ0.out.below hb3); have HB3 := hide (HB0.out.trans (But.of_below hb3)); clear hb3))
        go_end0
        exact ⟨rfl, by rw [hrel.out.2.2.1, hD.out]; exact HQ3.out, HB3.out⟩

theorem Len_at (Q fn : Nat) (R : Option Nat) (d : Array Itm) (n : Nat) (hn : n = d.size) (w : World) (h : Que w Q fn R d) :
    Calls Try.prog 66 #[.pointer (some ⟨Q, 0, none⟩)] w fun e w' => e = .returned (.int .i64 (n : Int)) ∧ w = w' := by
  subst hn; exact Len_calls Q fn R d w h
set_option maxRecDepth 100000 in
set_option maxHeartbeats 4000000 in
theorem Fix_calls (Q fn g : Nat) (key : Itm → Nat) (d : Array Itm) (w : World) (hf : Known fn key) (h : Que w Q fn (some g) d) (j : Nat) (hj : d.size = j + 1) (hsz : d.size ≤ 1000000) :
    Calls Try.prog 68 #[hq Q, .int .i64 (j : Int)] w (UpV Q fn g (hup key j d) w) := by
  have HL := hide (Len_at Q fn (some g) d (j + 1) hj.symm w h)
  have HDN := hide (down_calls Q fn g key d w hf h j (j + 1) (by omega) hsz (by omega))
  have HUP := hide (fun W hW => up_calls Q fn g key d W hf hW j (by omega) hsz)
  have hleaf := hide (hdown_leaf key (j + 1) j d (by omega))
  have m1 := fun p w => meth_Len p w
  unfold hq at *
  have hj1 : (j : Int) ≤ 1000000 := by omega
  clear h hf hj hsz
  go_enter Try.func68, Try.ntmps68
  go_wp2_with (first
    | (go_at_call 66; refine HL.out.mono ?_; rintro e w1 ⟨rfl, rfl⟩)
    | (go_at_call 73; refine HDN.out.mono ?_; rintro e w2 ⟨b, rfl, hq2, hb2, hl2⟩; obtain rfl := hl2 (by omega); rw [hleaf.out] at hq2; have HQ2 := hide hq2; have HB2 := hide hb2; clear hq2 hb2)
    | (go_at_call 74; refine (HUP.out _ HQ2.out).mono ?_; rintro e w3 ⟨rfl, hq3, hb3⟩; have HQ3 := hide hq3; have HB3 := hide (HB2.out.trans hb3); clear hq3 hb3))
  go_end0
  exact ⟨rfl, HQ3.out, HB3.out⟩
set_option maxRecDepth 100000 in
set_option maxHeartbeats 4000000 in
theorem HPop_calls (Q fn g : Nat) (key : Itm → Nat) (d : Array Itm) (w : World) (hf : Known fn key) (h : Que w Q fn (some g) d) (hh : IsHeap key d.size d) (h0 : 0 < d.size) (hsz : d.size ≤ 1000000) :
    Calls Try.prog 67 #[hq Q] w fun e w' => e = .returned (.iface 110 (.agg (itA d[0]!))) ∧ Que w' Q fn (some g) (hpop key d) ∧ But (qset Q (some g)) w w' := by
  obtain ⟨m, hm⟩ : ∃ m, d.size = m + 1 := ⟨d.size - 1, by omega⟩
  obtain ⟨s1, s2, s3, s4⟩ := hpopAll_spec key d hh h0
  have hm1 : d.size - 1 = m := by omega
  have HL := hide (Len_at Q fn (some g) d (m + 1) hm.symm w h)
  have HS := hide (Swap_calls Q fn g d w h 0 m h0 (by omega))
  have HDN := hide (fun W hW => down_calls Q fn g key (swp d 0 m) W hf hW 0 m (by rw [size_swp]; omega) (by rw [size_swp]; exact hsz) (by omega))
  have hpa : hdown key m 0 (swp d 0 m) = hpopAll key d := by unfold hpopAll; rw [hm1]
  rw [hpa] at HDN
  have HP := hide (fun W hW => QPop_calls Q fn g (hpopAll key d) W hW (by omega) (by omega))
  have e2 : (hpopAll key d)[(hpopAll key d).size - 1]! = d[0]! := by rw [s1]; exact s2
  rw [e2] at HP
  have m1 := fun p w => meth_Len p w
  have m2 := fun p w => meth_Swap p w
  have m3 := fun p w => meth_Pop p w
  have hj1 : (m : Int) ≤ 1000000 := by omega
  unfold hq at *
  unfold DownV at HDN
  have hpd : hpop key d = (hpopAll key d).pop := rfl
  rw [hpd]
  generalize hpopAll key d = DD at *
  generalize d[0]! = x0 at *
  clear h hf hh h0 hm s1 s2 s3 s4 hm1 hpa e2 hpd
  obtain ⟨xlo, xlen, xi⟩ := x0
  have hx : itA ⟨xlo, xlen, xi⟩ = #[.int .u64 (xlo : Int), .int .u64 (xlen : Int), .int .i64 (xi : Int)] := rfl
  rw [hx] at HP ⊢
  clear hx
  go_enter Try.func67, Try.ntmps67
  go_wp2_with (first
    | (go_at_call 66; refine HL.out.mono ?_; rintro e w1 ⟨rfl, rfl⟩)
    | (go_at_call 113; refine HS.out.mono ?_; rintro e w2 ⟨rfl, hq2, hb2⟩; have HQ2 := hide hq2; have HB2 := hide hb2; clear hq2 hb2)
    | (go_at_call 73; refine (HDN.out _ HQ2.out).mono ?_; rintro e w3 ⟨b, rfl, hq3, hb3, _⟩; have HQ3 := hide hq3; have HB3 := hide (HB2.out.trans hb3); clear hq3 hb3)
    | (go_at_call 112; refine (HP.out _ HQ3.out).mono ?_; rintro e w4 ⟨rfl, hq4, hb4⟩; have HQ4 := hide hq4; have HB4 := hide ((HB3.out.mono (M' := qset Q (some g)) (fun k _ e => .inr (by rw [e]))).trans (hb4.mono (fun k _ e => .inl e))); clear hq4 hb4))
  go_ret
  exact ⟨rfl, HQ4.out, HB4.out⟩
end Go.Proofs.Ythccadabblkalaa
