/- The reference's Print and Records (chapter 08). -/
import Derived.Test.YtcnihmlmaigkdaaGreatDoorShRefL
import Derived.Test.YtcnihmlmaigkdaaGreatDoorMShRef
namespace Go.Proofs.YtcnihmlmaigkdaaGreatDoor
open Go.RowKit Go.Lib Go.Sort
set_option linter.unusedVariables false

set_option maxRecDepth 100000 in
set_option maxHeartbeats 4000000 in
theorem RRecords8_calls (c : Cfg) (w : World) (h : CfgAt w.heap.size c w) (hok : c.Ok) (hf : FewC c) :
    Calls Tryz.prog 13 #[cfgV c] w fun e w' => e = .returned (.string (ofL (recordsL c))) ∧ Below w.heap.size w w' := by
  have hB0 := Boxed1.start w c
  obtain ⟨n, hn⟩ : ∃ n, n = (linesS c).length := ⟨_, rfl⟩
  have HLN : Hid (Calls Tryz.prog 16 #[cfgV c] (w.alloc (.cells (cfgC c) 29)) fun e w' => ∃ a k, e = .returned (.slice a n k) ∧ w'.ownsRow (w.alloc (.cells (cfgC c) 29)).heap.size 9 1 (.slice a n k) n (strsV (linesS c)) ∧ Below (w.alloc (.cells (cfgC c) 29)).heap.size (w.alloc (.cells (cfgC c) 29)) w') := hide (by rw [hn]; exact RLines_calls c _ (hB0.cfg h) hok hf)
  have HB0 := hide hB0
  have HSZ := hide (lines_len hok hf)
  have hn5 := lines_num hf
  have HTL := hide (text_len [] (linesS c) (by decide) (by omega) (lines_len hok hf))
  have HRE : Hid (ofL (textB [] (bytesOf (linesS c))) = ofL (recordsL c)) := hide (by rw [linesS_eq]; rfl)
  rw [← hn] at hn5
  have HN := hide hn
  generalize recordsL c = R at *
  generalize linesS c = LS at *
  unfold cfgC at HLN HB0
  unfold cfgV at HLN ⊢
  clear h hok hf hB0 hn
  go_enter Tryz.func13, Tryz.ntmps13
  go_wp2_with (go_at_call 16; refine HLN.out.mono ?_; rintro e w1 ⟨a, kc, rfl, ho, hb⟩; have HO := hide ho; have HB1 := hide (HB0.out.below hb); clear ho hb)
  go_loop [3, 5] (fun t v => ∃ (k : Nat) (U : ByteArray), k ≤ n ∧ v = .int .i64 (k : Int) ∧ t = .string U ∧ Hid (U = ofL (textB [] ((bytesOf LS).take k)))) (fun _ v => n - (intOf v).toNat)
  case atStart => exact ⟨0, ⟨#[]⟩, Nat.zero_le _, rfl, rfl, hide (by rfl)⟩
  case round =>
    obtain ⟨k, U, hk, rfl, rfl, hrel⟩ := hrel
    by_cases hlt : k < n
    · have hlt2 : (k : Int) < (n : Int) := by omega
      have hkl : k < LS.length := by have := HN.out; omega
      have hkb : k < (bytesOf LS).length := by simpa [bytesOf] using hkl
      obtain ⟨g, ha, _, hcn, hgl, x0⟩ := str_cell HO.out HN.out.symm k hkl
      subst ha
      have hcI : (n : Int) ≤ (kc : Int) := by omega
      have hs := HSZ.out LS[k] (List.getElem_mem _)
      have hU : U.size ≤ 200000000 := by rw [hrel.out, ofL_size]; exact Nat.le_trans (textB_mono [] (bytesOf LS) k) HTL.out
      have HE : Hid (((U ++ LS[k]) ++ ⟨#[10]⟩) = ofL (textB [] ((bytesOf LS).take (k + 1)))) := hide (by
        rw [textB_take [] (bytesOf LS) k hkb, show (bytesOf LS)[k] = LS[k].data.toList by simp [bytesOf]]
        apply bytes_eq
        rw [hrel.out]
        simp only [list_append, ofL_list]
        simp)
      have q0 : (9223372036854775807 < U.size + LS[k].size) = False := by simp; omega
      have q1 : (9223372036854775807 < U.size + LS[k].size + 1) = False := by simp; omega
      clear hkb hrel
      generalize LS[k] = s at *
      go_wp2
      go_round
      case rel => exact ⟨k + 1, _, by omega, by go_num, rfl, HE⟩
      case measure => simp [intOf]; omega
    · obtain rfl : k = n := by omega
      have hfin := hrel.out
      rw [List.take_of_length_le (by rw [HN.out]; simp [bytesOf]), HRE.out] at hfin
      have HF := hide hfin
      clear hfin hrel hlt hk
      go_wp2
      go_ret
      exact ⟨ret_s HF.out, HB1.out.1⟩
set_option maxRecDepth 100000 in
set_option maxHeartbeats 4000000 in
theorem RPrint8_calls (c : Cfg) (w : World) (h : CfgAt w.heap.size c w) (hok : c.Ok) (hf : FewC c) :
    Calls Tryz.prog 11 #[cfgV c] w fun e w' => e = .returned (.string (ofL (printL c))) ∧ Below w.heap.size w w' := by
  have hB0 := Boxed1.start w c
  have hfr : c.frame < 18446744073709551616 := hok.frame
  obtain ⟨n, hn⟩ : ∃ n, n = (linesS c).length := ⟨_, rfl⟩
  have HLN : Hid (∀ W, Boxed1 w c W → Calls Tryz.prog 16 #[cfgV c] W fun e w' => ∃ a k, e = .returned (.slice a n k) ∧ w'.ownsRow W.heap.size 9 1 (.slice a n k) n (strsV (linesS c)) ∧ Below W.heap.size W w') := hide (fun W hW => by rw [hn]; exact RLines_calls c _ (hW.cfg h) hok hf)
  have HB0 := hide hB0
  have HBC := hide (fun W (hW : Boxed1 w c W) => hW.cells)
  have HSZ := hide (lines_len hok hf)
  have hn5 := lines_num hf
  have HTL := hide (text_len [9] (linesS c) (by decide) (by omega) (lines_len hok hf))
  have HC0 := hide (fun W => RNum_calls c.frame hfr W)
  obtain ⟨s0, hs0⟩ : ∃ s, s = ofL (numB c.frame) := ⟨_, rfl⟩
  rw [← hs0] at HC0
  have z0 : s0.size ≤ 20 := by rw [hs0, ofL_size]; exact num_size hfr
  obtain ⟨U0, hU0⟩ : ∃ U, U = (((⟨#[109, 111, 100, 117, 108, 101, 32, 123, 10, 9, 102, 114, 97, 109, 101, 32]⟩ : ByteArray) ++ s0) ++ ⟨#[59, 10]⟩) := ⟨_, rfl⟩
  have zU : U0.size ≤ 60 := by rw [hU0]; simp only [ByteArray.size_append]; simp only [lit_size, List.length_cons, List.length_nil]; omega
  have p0 : (9223372036854775807 < 16 + s0.size) = False := by simp; omega
  have p1 : (9223372036854775807 < 16 + s0.size + 2) = False := by simp; omega
  have HRE : Hid ((U0 ++ ofL (textB [9] (bytesOf (linesS c)))) ++ ⟨#[125, 10]⟩ = ofL (printL c)) := hide (by
    apply bytes_eq
    rw [linesS_eq]
    simp only [hU0, hs0, list_append, ofL_list]
    simp [printL, textB, frameB])
  rw [← hn] at hn5
  have HN := hide hn
  have HU0 := hide hU0
  generalize printL c = R at *
  generalize linesS c = LS at *
  unfold cfgC at HB0
  unfold cfgV at HLN ⊢
  clear h hok hf hB0 hn hs0 hfr hU0
  go_enter Tryz.func11, Tryz.ntmps11
  go_wp2_with (first
    | (go_at_call 29; refine (HC0.out _).mono ?_; rintro e w2 ⟨rfl, hb⟩; have HB2 := hide (HB0.out.below hb); obtain ⟨b0, b1, b2, b3, b4, b5⟩ := HBC.out w2 HB2.out; clear hb)
    | (go_at_call 16; refine (HLN.out _ HB2.out).mono ?_; rintro e w1 ⟨a, kc, rfl, ho, hb⟩; have HO := hide ho; have HB1 := hide (HB2.out.below hb); clear ho hb))
  rw [← HU0.out]
  go_loop [3, 5] (fun t v => ∃ (k : Nat) (U : ByteArray), k ≤ n ∧ v = .int .i64 (k : Int) ∧ t = .string U ∧ Hid (U = U0 ++ ofL (textB [9] ((bytesOf LS).take k)))) (fun _ v => n - (intOf v).toNat)
  case atStart => exact ⟨0, U0, Nat.zero_le _, rfl, rfl, hide (bytes_eq (by rw [list_append, ofL_list]; simp [textB]))⟩
  case round =>
    obtain ⟨k, U, hk, rfl, rfl, hrel⟩ := hrel
    have hU : U.size ≤ 200000060 := by rw [hrel.out, ByteArray.size_append, ofL_size]; have := Nat.le_trans (textB_mono [9] (bytesOf LS) k) HTL.out; omega
    by_cases hlt : k < n
    · have hlt2 : (k : Int) < (n : Int) := by omega
      have hkl : k < LS.length := by have := HN.out; omega
      have hkb : k < (bytesOf LS).length := by simpa [bytesOf] using hkl
      obtain ⟨g, ha, _, hcn, hgl, x0⟩ := str_cell HO.out HN.out.symm k hkl
      subst ha
      have hcI : (n : Int) ≤ (kc : Int) := by omega
      have hs := HSZ.out LS[k] (List.getElem_mem _)
      have HE : Hid ((((U ++ ⟨#[9]⟩) ++ LS[k]) ++ ⟨#[10]⟩) = U0 ++ ofL (textB [9] ((bytesOf LS).take (k + 1)))) := hide (by
        rw [textB_take [9] (bytesOf LS) k hkb, show (bytesOf LS)[k] = LS[k].data.toList by simp [bytesOf]]
        apply bytes_eq
        rw [hrel.out]
        simp only [list_append, ofL_list]
        simp)
      have q0 : (9223372036854775807 < U.size + 1) = False := by simp; omega
      have q1 : (9223372036854775807 < U.size + 1 + LS[k].size) = False := by simp; omega
      have q2 : (9223372036854775807 < U.size + 1 + LS[k].size + 1) = False := by simp; omega
      clear hkb hrel
      generalize LS[k] = s at *
      go_wp2
      go_round
      case rel => exact ⟨k + 1, _, by omega, by go_num, rfl, HE⟩
      case measure => simp [intOf]; omega
    · obtain rfl : k = n := by omega
      have hfin := hrel.out
      rw [List.take_of_length_le (by rw [HN.out]; simp [bytesOf])] at hfin
      have HF := hide hfin
      have q3 : (9223372036854775807 < U.size + 2) = False := by simp; omega
      clear hfin hrel hlt hk
      go_wp2
      go_ret
      exact ⟨ret_s (by rw [HF.out]; exact HRE.out), HB1.out.1⟩
end Go.Proofs.YtcnihmlmaigkdaaGreatDoor
