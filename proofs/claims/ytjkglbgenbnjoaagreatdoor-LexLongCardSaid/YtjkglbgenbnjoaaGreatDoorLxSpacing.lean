/- The walk of the cursor's spacing (chapter 06). -/
import Derived.Test.YtjkglbgenbnjoaaGreatDoorLxWhile
namespace Go.Proofs.YtjkglbgenbnjoaaGreatDoor
open Go.RowKit Go.Lib

theorem piece_join (s : ByteArray) (a b c : Nat) (h1 : a ≤ b) (h2 : b ≤ c) : piece s a b ++ piece s b c = piece s a c := by
  unfold piece
  have e : c - a = (b - a) + (c - b) := by omega
  rw [e, List.take_add, List.drop_drop]
  congr 3; omega
theorem place_join (s : ByteArray) (p : Nat × Nat) (a b c : Nat) (h1 : a ≤ b) (h2 : b ≤ c) : placeFrom (placeFrom p (piece s a b)) (piece s b c) = placeFrom p (piece s a c) := by
  rw [← placeFrom_append, piece_join s a b c h1 h2]
/-- Behind spacing. -/
def SpaceV (X : Nat) (p : Nat × Nat) (s : ByteArray) (k J : Nat) (w : World) (e : Ending) (w' : World) : Prop :=
  e = .returned (.tuple #[]) ∧ Cur w' X (placeFrom p (piece s k J)) s J ∧ Only X w w'
theorem run_le (P : UInt8 → Bool) (s : ByteArray) (k : Nat) (h : k ≤ s.size) : k + runLen P (s.data.toList.drop k) ≤ s.size := by
  have h1 := runLen_le P (s.data.toList.drop k)
  have h2 := Lib.size_eq s
  rw [List.length_drop] at h1
  omega

set_option maxHeartbeats 1000000 in
theorem spacing_calls (X : Nat) (w : World) (p : Nat × Nat) (s : ByteArray) (k : Nat) (h : Cur w X p s k) :
    Calls Tryz.prog 27 #[.pointer (some ⟨X, 0, none⟩)] w (SpaceV X p s k (skipAt s k) w) := by
  obtain ⟨J, hJ⟩ : ∃ J, J = skipAt s k := ⟨_, rfl⟩
  rw [← hJ]
  have HJ := hide hJ
  have H := hide h
  have hsz := h.2.2.2.2
  have hks := h.2.2.2.1
  clear h hJ
  go_enter Tryz.func27, Tryz.ntmps27
  go_wp2
  go_loopw [2] (fun _ wr => ∃ m : Nat, k ≤ m ∧ Hid (Cur wr X (placeFrom p (piece s k m)) s m ∧ skipAt s m = J ∧ Only X w wr)) (fun _ wr => s.size - atOf wr X)
  case atStart => exact ⟨k, Nat.le_refl _, by rw [piece_self]; exact H.out, HJ.out.symm, Only.refl _ _⟩
  case round =>
    obtain ⟨m, hkm, hH⟩ := hrel
    have hms := hH.out.1.2.2.2.1
    obtain ⟨m1, hm1⟩ : ∃ m1, m1 = m + runLen isSp (s.data.toList.drop m) := ⟨_, rfl⟩
    have h1 := fun W (hC : Cur W X (placeFrom p (piece s k m)) s m) => while_sp X W (placeFrom p (piece s k m)) s m hC
    have hm1s : m1 ≤ s.size := by rw [hm1]; exact run_le isSp s m hms
    have hmm1 : m ≤ m1 := by omega
    have hsk : skipAt s m1 = J := by
      have h2 := hH.out.2.1
      unfold skipAt at h2 ⊢
      rw [spc_spaces, List.drop_drop, ← hm1] at h2
      omega
    rw [← hm1] at h1
    have H1 := hide h1
    have HSK := hide hsk
    have HM1 := hide hm1
    clear h1 hsk hm1
    by_cases hend : m1 < s.size
    · have hdrop := at_data s m1 hend
      by_cases hh : s[m1] = 35
      · have hb : ((s[m1].toNat : Int) == 35) = true := by rw [hh]; rfl
        have hb2 : ((s[m1].toNat : Int) != 35) = false := by rw [bne, hb]; rfl
        have he : ((m1 : Int) == (s.size : Int)) = false := by simp; omega
        have hi : (m1 : Int) < (s.size : Int) := by omega
        obtain ⟨m2, hm2⟩ : ∃ m2, m2 = m1 + runLen notFeed (s.data.toList.drop m1) := ⟨_, rfl⟩
        have hm2s : m2 ≤ s.size := by rw [hm2]; exact run_le notFeed s m1 hm1s
        have hm12 : m1 < m2 := by
          rw [hm2, hdrop, runLen_cons_yes _ _ _ (by rw [hh]; rfl)]; omega
        have hsk2 : skipAt s m2 = J := by
          have h2 := HSK.out
          unfold skipAt at h2 ⊢
          rw [hdrop, hh, spc_hash, ← hh, ← hdrop, spc_comment, List.drop_drop, ← hm2] at h2
          omega
        have hpj := place_join s p k m m1 hkm hmm1
        have h2 := fun W (hC : Cur W X (placeFrom p (piece s k m1)) s m1) => while_feed X W (placeFrom p (piece s k m1)) s m1 hC
        rw [← hm2] at h2
        have H2 := hide h2
        have HSK2 := hide hsk2
        have HPJ := hide hpj
        have HPJ2 := hide (place_join s p k m1 m2 (by omega) (by omega))
        clear h2 hsk2 hm2 hh hdrop hpj
        go_wp2_with (go_at_call 35; refine (H1.out _ hH.out.1).mono ?_; rintro e w2 ⟨rfl, hC2, hO2⟩; obtain ⟨d0, d1, d2, d3⟩ := hC2.cells; have HC2 := hide hC2; have HO2 := hide hO2; clear hC2 hO2)
        go_quiet (fail)
        have hC2q := hide (show Cur (w2.drewN nq) X (placeFrom p (piece s k m1)) s m1 from by have h := HC2.out.drewN nq; rwa [HPJ.out] at h)
        go_wp2_with (go_at_call 35; refine (H2.out _ hC2q.out).mono ?_; rintro e w3 ⟨rfl, hC3, hO3⟩; have HC3 := hide hC3; have HO3 := hide hO3; clear hC3 hO3)
        have hfin := hide (show Cur w3 X (placeFrom p (piece s k m2)) s m2 from by have h := HC3.out; rwa [HPJ2.out] at h)
        have hon := hide ((hH.out.2.2.trans (HO2.out.drewN nq)).trans HO3.out)
        go_roundw
        case rel => first | exact ⟨m2, by omega, hfin.out, HSK2.out, hon.out⟩ | ((repeat apply Exists.intro); exact ⟨⟨m2, by omega, hfin.out, HSK2.out, hon.out⟩, rfl⟩)
        case measure => rw [hfin.out.atOf, hH.out.1.atOf]; omega
      · have e1 : m1 = J := by
          have h2 := HSK.out
          unfold skipAt at h2
          have hns : isSp s[m1] = false := runLen_head isSp (s.data.toList.drop m) s[m1] (s.data.toList.drop (m1 + 1)) (by rw [List.drop_drop, ← HM1.out]; exact hdrop)
          rw [hdrop, spc_stop _ _ hh hns] at h2
          exact h2
        have hb : ((s[m1].toNat : Int) == 35) = false := by
          have : s[m1].toNat ≠ 35 := fun e => hh (UInt8.toNat_inj.1 (by rw [e]; rfl))
          simp; omega
        have hb2 : ((s[m1].toNat : Int) != 35) = true := by rw [bne, hb]; rfl
        have he : ((m1 : Int) == (s.size : Int)) = false := by simp; omega
        have hi : (m1 : Int) < (s.size : Int) := by omega
        subst e1
        have HPJ := hide (place_join s p k m m1 hkm hmm1)
        clear hdrop hh
        go_wp2_with (go_at_call 35; refine (H1.out _ hH.out.1).mono ?_; rintro e w2 ⟨rfl, hC2, hO2⟩; obtain ⟨d0, d1, d2, d3⟩ := hC2.cells; have HC2 := hide hC2; have HO2 := hide hO2; clear hC2 hO2)
        go_quiet (fail)
        go_wp2
        refine bodyPost_ret (results_none rfl _ _ _) rfl ⟨rfl, ?_, (hH.out.2.2.trans HO2.out).drewN _⟩
        have h := HC2.out.drewN nq
        rwa [HPJ.out] at h
    · have e1 : m1 = J := by
        have h2 := HSK.out
        unfold skipAt at h2
        rw [List.drop_of_length_le (by have := Lib.size_eq s; omega)] at h2
        exact h2
      have he : ((m1 : Int) == (s.size : Int)) = true := by simp; omega
      subst e1
      have HPJ := hide (place_join s p k m m1 hkm hmm1)
      go_wp2_with (go_at_call 35; refine (H1.out _ hH.out.1).mono ?_; rintro e w2 ⟨rfl, hC2, hO2⟩; obtain ⟨d0, d1, d2, d3⟩ := hC2.cells; have HC2 := hide hC2; have HO2 := hide hO2; clear hC2 hO2)
      go_quiet (fail)
      go_wp2
      refine bodyPost_ret (results_none rfl _ _ _) rfl ⟨rfl, ?_, (hH.out.2.2.trans HO2.out).drewN _⟩
      have h := HC2.out.drewN nq
      rwa [HPJ.out] at h
end Go.Proofs.YtjkglbgenbnjoaaGreatDoor
