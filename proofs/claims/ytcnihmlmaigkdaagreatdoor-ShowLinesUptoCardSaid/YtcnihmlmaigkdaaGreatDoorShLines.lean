/- The walk of the law ShowLines (chapter 08). -/
import Derived.Test.YtcnihmlmaigkdaaGreatDoorShAlive
import Derived.Test.YtcnihmlmaigkdaaGreatDoorShRefL
import Derived.Test.YtcnihmlmaigkdaaGreatDoorShLnO
import Derived.Test.YtcnihmlmaigkdaaGreatDoorShSplit
import Derived.Test.YtcnihmlmaigkdaaGreatDoorShSplitS
namespace Go.Proofs.YtcnihmlmaigkdaaGreatDoor
open Go.RowKit Go.Lib Go.Sort
set_option linter.unusedVariables false

theorem split_calls (s sep : ByteArray) (w : World) (hm : ∃ m : Int, w.cell? ⟨0, 0, none⟩ = some (.int .i64 m)) (hs : s.size < 4294967281) (h1 : 1 ≤ sep.size) :
    Calls Tryz.prog 15 #[.string s, .string sep] w fun e w' => e = .returned (.slice (some ⟨w.heap.size, 0, none⟩) (Lib.countB s sep + 1) (Lib.countB s sep + 1)) ∧ w' = w.alloc (.cells ((Lib.splitB sep 0 (Lib.countB s sep) s).map Value.string).toArray 9) := by
  obtain ⟨m, hm⟩ := hm
  exact Any.strings_Split { Tryz.laysM146 with } Tryz.laysM146.i9 s sep m w hs hm h1
theorem sum_six (c : Cfg) : sumC c 6 = (linesL c).length := by
  unfold linesL
  simp only [List.length_append, List.length_map]
  simp [sumC, cntN, List.range_succ]
  try omega
theorem sum_mono (c : Cfg) : ∀ (k d : Nat), sumC c k ≤ sumC c (k + d)
  | k, 0 => Nat.le_refl _
  | k, d + 1 => by rw [← Nat.add_assoc, sumC_succ]; have := sum_mono c k d; omega
section
variable {w W W' : World} {c : Cfg} {bS bN n kc : Nat} {SP LS : List ByteArray} {A : Option Addr}
/-- The text's pieces, the reference's lines, the numbers. -/
def SLn (w : World) (c : Cfg) (bS bN n kc : Nat) (SP LS : List ByteArray) (A : Option Addr) (W : World) : Prop :=
  Boxed1 w c W ∧ Blk W bS 9 (SP.map Value.string).toArray ∧ W.ownsRow (w.heap.size + 1) 9 1 (.slice A n kc) n (strsV LS) ∧ Blk W bN 37 #[.int .i64 0, .int .i64 (c.parts.l.length : Int), .int .i64 (c.wins.l.length : Int), .int .i64 (c.regs.l.length : Int), .int .i64 (c.ports.l.length : Int), .int .i64 (c.chans.l.length : Int), .int .i64 (linksN c.chans.l : Int)]
theorem SLn.below (h : SLn w c bS bN n kc SP LS A W) (hb : Below W.heap.size W W') : SLn w c bS bN n kc SP LS A W' := ⟨h.1.below hb, h.2.1.below hb h.2.1.lt, own_below h.2.2.1 hb, h.2.2.2.below hb h.2.2.2.lt⟩
end
set_option maxRecDepth 100000 in
set_option maxHeartbeats 8000000 in
theorem ShowLines_calls (c : Cfg) (s0 i0 : Int) (w : World) (h : CfgAt w.heap.size c w) (hok : c.Ok) (hsm : c.Small) (hv : VarT w) (hm : ∃ m : Int, w.cell? ⟨0, 0, none⟩ = some (.int .i64 m)) :
    Calls Tryz.prog 5 #[cfgV c, .int .i64 s0, .int .i64 i0] w fun e w' => e = .returned (.bool true) ∧ Below w.heap.size w w' := by
  have HAL := hide (fun W (hW : Boxed1 w c W) => alive8_calls W (hv.below hW.1))
  have hB0 := Boxed1.start w c
  have HSM := hide (Small_calls c _ (hB0.cfg h) hok hsm)
  have HBC := hide (fun W (hW : Boxed1 w c W) => hW.cells)
  have HB0 := hide hB0
  have hsf := fun (hs : smallB c = true) => small_few hok (small_both hs).1 (small_both hs).2
  by_cases hF : smallB c = true
  · have hf := hsf hF
    have hg := within_good (small_both hF).2
    have hmW : ∀ W, Boxed1 w c W → ∃ m : Int, W.cell? ⟨0, 0, none⟩ = some (.int .i64 m) := fun W hW => by
      obtain ⟨m, hm⟩ := hm
      exact ⟨m, (hW.1.cell (p := ⟨0, 0, none⟩) (cell_lt hm)).trans hm⟩
    have HPR := hide (fun W (hW : Boxed1 w c W) => SPrint_calls c W (hW.cfg h) hok hf (hv.below hW.1))
    obtain ⟨n, hn⟩ : ∃ n, n = (linesS c).length := ⟨_, rfl⟩
    obtain ⟨N4, hN4⟩ : ∃ N, N = n + 4 := ⟨_, rfl⟩
    have hnL : n = (linesL c).length := by rw [hn, ← linesS_eq]; simp [bytesOf]
    obtain ⟨hc1, hc2⟩ := print_cut hg
    rw [← hnL] at hc1 hc2
    obtain ⟨SP, hSP⟩ : ∃ SP, SP = (piecesL c ++ [[]]).map ofL := ⟨_, rfl⟩
    have hps : (ofL (printL c)).size < 4294967281 := by
      rw [ofL_size]
      have h1 := text_len [9] (ofL (frameB c.frame) :: linesS c) (by decide) (by rw [List.length_cons]; have := lines_num hf; omega) (fun s hs => by
        rcases List.mem_cons.1 hs with rfl | hs
        · rw [ofL_size]; unfold frameB; have : (numB c.frame).length ≤ 20 := num_size hok.frame; simp only [List.length_append, List.length_cons, List.length_nil]; omega
        · exact lines_len hok hf s hs)
      have h2 : bytesOf (ofL (frameB c.frame) :: linesS c) = frameB c.frame :: linesL c := by
        show (ofL (frameB c.frame)).data.toList :: bytesOf (linesS c) = _
        rw [ofL_list, linesS_eq]
      rw [h2] at h1
      unfold printL
      simp only [List.length_append, List.length_cons, List.length_nil]
      omega
    have HSP : Hid (∀ W, Boxed1 w c W → Calls Tryz.prog 15 #[.string (ofL (printL c)), .string ⟨#[10]⟩] W fun e w' => e = .returned (.slice (some ⟨W.heap.size, 0, none⟩) N4 N4) ∧ w' = W.alloc (.cells (SP.map Value.string).toArray 9)) := hide (fun W hW => by
      have h1 := split_calls (ofL (printL c)) ⟨#[10]⟩ W (hmW W hW) hps (by decide)
      rw [hc1, hc2, ← hSP] at h1
      rw [hN4]
      exact h1)
    have HRL : Hid (∀ W, Boxed1 w c W → Calls Tryz.prog 16 #[cfgV c] W fun e w' => ∃ a k, e = .returned (.slice a n k) ∧ w'.ownsRow W.heap.size 9 1 (.slice a n k) n (strsV (linesS c)) ∧ Below W.heap.size W w') := hide (fun W hW => by rw [hn]; exact RLines_calls c W (hW.cfg h) hok hf)
    have HCO := hide (fun W (hW : Boxed1 w c W) => Counts_calls c W (hW.cfg h) hsm)
    have HLI := hide (fun W (hW : Boxed1 w c W) s i h1 h5 hi => Line_in c s i W (hW.cfg h) hsm h1 h5 hi)
    have HLO := hide (fun W (hW : Boxed1 w c W) ho => Line_out c s0 i0 W (hW.cfg h) hsm ho)
    have HPL : Hid (∀ k (hk : k < (linesS c).length), SP[k + 2]? = some ((⟨#[9]⟩ : ByteArray) ++ (linesS c)[k])) := hide (fun k hk => by
      have hk2 : k < (linesL c).length := by rw [← hnL, hn]; exact hk
      rw [hSP, piece_line c k hk2]
      have e : (linesL c)[k] = ((linesS c)[k]).data.toList := by
        have : (linesL c)[k]? = some (((linesS c)[k]).data.toList) := by rw [← linesS_eq]; simp [bytesOf, hk]
        rw [List.getElem?_eq_getElem hk2] at this
        exact Option.some.inj this
      rw [e]
      exact congrArg some (bytes_eq (by rw [ofL_list, list_append])))
    have HS6 : Hid (sumC c 6 = n) := hide (by rw [sum_six, hnL])
    have HLS := hide (lines_len hok hf)
    have hn5 : n ≤ 5120 := by rw [hn]; exact lines_num hf
    have HN := hide hn
    have hN5 : (N4 : Int) = (n : Int) + 4 := by omega
    have HCK := hide (fun k hk => cnt_small hsm k hk)
    have HSU := hide (fun k => sumC_succ c k)
    have HMO := hide (sum_mono c)
    have HCA := hide (fun k hk => cnt_at c k hk)
    rw [hF] at HSM
    generalize ofL (printL c) = PS at *
    generalize linesS c = LS at *
    unfold cfgC at HSM HB0
    unfold cfgV at HSM HPR HRL HCO HLI HLO ⊢
    unfold countsV at HCO
    clear h hok hsm hv hm hB0 hsf hf hg hmW hnL hc1 hc2 hSP hps hn hF hN4
    go_enter Tryz.func5, Tryz.ntmps5
    go_wp2_with (first
      | (go_at_call 8; refine HSM.out.mono ?_; rintro e w1 ⟨rfl, hb⟩; have HB1 := hide (HB0.out.below hb); obtain ⟨b0, b1, b2, b3, b4, b5⟩ := HBC.out w1 HB1.out; clear hb)
      | (go_at_call 10; refine (HPR.out _ HB1.out).mono ?_; rintro e w2 ⟨rfl, hb⟩; have HB2 := hide (HB1.out.below hb); clear hb b0 b1 b2 b3 b4 b5)
      | (go_at_call 15; refine (HSP.out _ HB2.out).mono ?_; rintro e w3 ⟨rfl, hw3⟩; have HB3 : Hid (Boxed1 w c w3) := hide (by rw [hw3]; exact HB2.out.alloc _); have HK3 : Hid (Blk w3 w2.heap.size 9 (SP.map Value.string).toArray) := hide (by rw [hw3]; exact Blk.new w2 _ _); clear hw3; obtain ⟨b0, b1, b2, b3, b4, b5⟩ := HBC.out w3 HB3.out)
      | (go_at_call 16; refine (HRL.out _ HB3.out).mono ?_; rintro e w4 ⟨A, kc, rfl, ho, hb⟩; have HB4 := hide (HB3.out.below hb); have HK4 := hide (HK3.out.below hb HK3.out.lt); have HO4 : Hid (w4.ownsRow (w.heap.size + 1) 9 1 (.slice A n kc) n (strsV LS)) := hide (own_base ho HB3.out.2.lt); clear ho hb b0 b1 b2 b3 b4 b5; obtain ⟨b0, b1, b2, b3, b4, b5⟩ := HBC.out w4 HB4.out)
      | (go_at_call 17; refine (HCO.out _ HB4.out).mono ?_; rintro e w5 ⟨rfl, hb⟩; have HI5 : Hid (SLn w c w2.heap.size w5.heap.size n kc SP LS A (w5.alloc (.cells #[.int .i64 0, .int .i64 (c.parts.l.length : Int), .int .i64 (c.wins.l.length : Int), .int .i64 (c.regs.l.length : Int), .int .i64 (c.ports.l.length : Int), .int .i64 (c.chans.l.length : Int), .int .i64 (linksN c.chans.l : Int)] 37))) := hide ⟨(HB4.out.below hb).alloc _, (HK4.out.below hb HK4.out.lt).alloc _, (own_below HO4.out hb).alloc _, Blk.new w5 _ _⟩; clear hb b0 b1 b2 b3 b4 b5))
    have HII := HI5
    generalize w5.alloc (.cells #[.int .i64 0, .int .i64 (c.parts.l.length : Int), .int .i64 (c.wins.l.length : Int), .int .i64 (c.regs.l.length : Int), .int .i64 (c.ports.l.length : Int), .int .i64 (c.chans.l.length : Int), .int .i64 (linksN c.chans.l : Int)] 37) = W0 at *
    clear HI5 HB1 HB2 HB3 HB4 HK3 HK4 HO4 HB0 HSM HPR HSP HRL HCO
    generalize w2.heap.size = bS at *
    generalize w5.heap.size = bN at *
    go_loopw [10, 11] (fun o v wr => ∃ s T : Nat, 1 ≤ s ∧ s ≤ 6 ∧ v = .int .i64 (s : Int) ∧ o = .int .i64 (T : Int) ∧ Hid (T = sumC c s ∧ SLn w c bS bN n kc SP LS A wr)) (fun _ v _ => 6 - (intOf v).toNat)
    case atStart => exact ⟨1, 0, by omega, by omega, rfl, rfl, hide ⟨rfl, HII.out⟩⟩
    case round =>
      obtain ⟨s, T, h1, h6, rfl, rfl, hrel⟩ := hrel
      by_cases hlt : s ≤ 5
      · have hlt2 : (s : Int) ≤ 5 := by omega
        have hs7 : (s : Int) < 7 := by omega
        obtain ⟨m, hm⟩ : ∃ m, m = cntN c s := ⟨_, rfl⟩
        have a0 : wr.cell? ⟨bN, s, none⟩ = some (.int .i64 (m : Int)) := by rw [hm]; exact (hrel.out.2.2.2.2.cell s).trans (HCA.out s (by omega))
        have hm1 : m ≤ 1048576 := by rw [hm]; exact HCK.out s (by omega)
        have hT := hrel.out.1
        have hsu := HSU.out s
        rw [← hT, ← hm] at hsu
        have hTm : T + m ≤ n := by
          have h8 := HMO.out (s + 1) (5 - s)
          rw [show s + 1 + (5 - s) = 6 by omega, HS6.out, hsu] at h8
          exact h8
        have HT := hide hT
        have HM := hide hm
        have HSS := hide hsu
        have HI1 := hide hrel.out.2
        clear hrel hT hm hsu
        go_wp2
        go_loopw [10, 39] (fun o v wq => ∃ i U : Nat, i ≤ m ∧ v = .int .i64 (i : Int) ∧ o = .int .i64 (U : Int) ∧ U = T + i ∧ Hid (SLn w c bS bN n kc SP LS A wq)) (fun _ v _ => m - (intOf v).toNat)
        case atStart => exact ⟨0, T, Nat.zero_le _, rfl, rfl, by omega, HI1⟩
        case round =>
          obtain ⟨i, U, hi, rfl, rfl, hU, hrel⟩ := hrel
          by_cases hlt3 : i < m
          · have hlt4 : (i : Int) < (m : Int) := by omega
            have hUn : U < n := by omega
            obtain ⟨K, hK⟩ : ∃ K, K = U + 3 := ⟨_, rfl⟩
            obtain ⟨J, hJ⟩ : ∃ J, J = U + 2 := ⟨_, rfl⟩
            have hUl : U < LS.length := by have := HN.out; omega
            have HLX : Hid (∀ W, Boxed1 w c W → Calls Tryz.prog 18 #[.agg #[.int .u64 (c.frame : Int), .slice c.parts.a c.parts.l.length c.parts.c, .slice c.wins.a c.wins.l.length c.wins.c, .slice c.regs.a c.regs.l.length c.regs.c, .slice c.ports.a c.ports.l.length c.ports.c, .slice c.chans.a c.chans.l.length c.chans.c], .int .i64 (s : Int), .int .i64 (i : Int)] W fun e w' => e = .returned (.int .i64 (K : Int)) ∧ Below W.heap.size W w') := hide (fun W hW => by
              have h9 := HLI.out W hW s i h1 hlt (by rw [← HM.out]; exact hlt3)
              rw [show 3 + i + sumC c s = K by have := HT.out; omega] at h9
              exact h9)
            have HPC : Hid (∀ W, SLn w c bS bN n kc SP LS A W → W.cell? ⟨bS, J, none⟩ = some (.string ((⟨#[9]⟩ : ByteArray) ++ LS[U]))) := hide (fun W hW => by
              rw [hW.2.1.cell J, hJ]
              have h9 := HPL.out U hUl
              simp [h9])
            have HLC : Hid (∀ W, SLn w c bS bN n kc SP LS A W → ∃ g, A = some ⟨g, 0, none⟩ ∧ n ≤ kc ∧ W.cell? ⟨g, U, none⟩ = some (.string LS[U])) := hide (fun W hW => by
              obtain ⟨g, e1, _, e3, _, e5⟩ := str_cell hW.2.2.1 HN.out.symm U hUl
              exact ⟨g, e1, e3, e5⟩)
            have hsz := HLS.out LS[U] (List.getElem_mem _)
            have j1 : (K : Int) - 1 = (J : Int) := by omega
            have j2 : ¬ ((K : Int) < 1) := by omega
            have j3 : ¬ ((N4 : Int) < (K : Int)) := by omega
            have j4 : (J : Int) < (N4 : Int) := by omega
            have j5 : (U : Int) + 3 = (K : Int) := by omega
            have j6 : (U : Int) < (n : Int) := by omega
            have j7 : (U : Int) ≤ 6000 := by omega
            have j8 : (K : Int) ≤ 6003 := by omega
            have q0 : (9223372036854775807 < 1 + LS[U].size) = False := by simp; omega
            obtain ⟨b0, b1, b2, b3, b4, b5⟩ := HBC.out wr hrel.out.1
            obtain ⟨g, ha, hkc, _⟩ := HLC.out wr hrel.out
            subst ha
            have hkI : (n : Int) ≤ (kc : Int) := by omega
            have HLD : Hid (∀ W, SLn w c bS bN n kc SP LS (some ⟨g, 0, none⟩) W → W.cell? ⟨g, U, none⟩ = some (.string LS[U])) := hide (fun W hW => by
              obtain ⟨g2, e1, _, e3⟩ := HLC.out W hW
              injection e1 with e1
              injection e1 with e1 _ _
              rw [e1]
              exact e3)
            have HU := hide hU
            clear HLC hK hJ hU hN5
            generalize LS[U] = X at *
            go_wp2_with (go_at_call 18; refine (HLX.out _ hrel.out.1).mono ?_; rintro e w6 ⟨rfl, hb⟩; have HI6 := hide (hrel.out.below hb); have y1 := HPC.out w6 HI6.out; have y2 := HLD.out w6 HI6.out; clear hb b0 b1 b2 b3 b4 b5)
            have d1 : decide ((K : Int) < 1) = false := decide_eq_false (by omega)
            have d2 : decide ((N4 : Int) < (K : Int)) = false := decide_eq_false (by omega)
            have d3 : (((⟨#[9]⟩ : ByteArray) ++ X).toList == ((⟨#[9]⟩ : ByteArray) ++ X).toList) = true := by simp
            have d4 : (((⟨#[9]⟩ : ByteArray) ++ X).toList != ((⟨#[9]⟩ : ByteArray) ++ X).toList) = false := by simp
            have d5 : ((K : Int) == (U : Int) + 3) = true := by rw [j5]; simp
            have d6 : ((K : Int) != (U : Int) + 3) = false := by rw [j5]; simp
            have d7 : ((K : Int) == (K : Int)) = true := by simp
            have d8 : ((K : Int) != (K : Int)) = false := by simp
            have d9 : decide (N4 < K) = false := decide_eq_false (by omega)
            have d10 : J < N4 := by omega
            have d11 : decide (K < 1) = false := decide_eq_false (by omega)
            have d12 : (K == U + 3) = true := by rw [beq_iff_eq]; omega
            have d13 : (K != U + 3) = false := by simp; omega
            go_quiet (fail)
            go_wp2
            go_roundw
            case rel => exact ⟨i + 1, U + 1, by omega, by go_num, by go_num, (by have := HU.out; omega), hide (HI6.out.below (below_drewN (Below.refl _ _) _))⟩
            case measure => simp [intOf]; omega
          · have him : i = m := by omega
            have HI7 := hrel
            have HS2 : Hid (U = sumC c (s + 1)) := hide (by rw [HSS.out, hU, him])
            have hge : ¬ ((i : Int) < (m : Int)) := by omega
            clear hrel hU him
            go_wp2
            go_roundw
            case rel => exact ⟨s + 1, U, by omega, by omega, by go_num, rfl, hide ⟨HS2.out, HI7.out⟩⟩
            case measure => simp [intOf]; omega
      · have hlt2 : ¬ ((s : Int) ≤ 5) := by omega
        have HIF := hide hrel.out.2
        have HCC := hide (fun W (hW : SLn w c bS bN n kc SP LS A W) k (hk : k ≤ 6) => (hW.2.2.2.cell k).trans (cnt_at c k hk))
        clear hrel
        by_cases g1 : s0 < 1
        · have HOU : Hid (OutL c s0 i0) := hide (.inl g1)
          go_wp2_with (first
            | (go_at_call 9; refine (HAL.out _ HIF.out.1).mono ?_; rintro e w7 ⟨rfl, hb⟩; have HI7 := hide (HIF.out.below hb); obtain ⟨b0, b1, b2, b3, b4, b5⟩ := HBC.out w7 HI7.out.1; clear hb)
            | (go_at_call 18; refine (HLO.out _ HI7.out.1 HOU.out).mono ?_; rintro e w8 ⟨rfl, hb⟩; have HI8 := hide (HI7.out.below hb); clear hb))
          go_ret
          exact ⟨rfl, HI8.out.1.1⟩
        · by_cases g2 : 5 < s0
          · have HOU : Hid (OutL c s0 i0) := hide (.inr (.inl g2))
            go_wp2_with (first
              | (go_at_call 9; refine (HAL.out _ HIF.out.1).mono ?_; rintro e w7 ⟨rfl, hb⟩; have HI7 := hide (HIF.out.below hb); obtain ⟨b0, b1, b2, b3, b4, b5⟩ := HBC.out w7 HI7.out.1; clear hb)
              | (go_at_call 18; refine (HLO.out _ HI7.out.1 HOU.out).mono ?_; rintro e w8 ⟨rfl, hb⟩; have HI8 := hide (HI7.out.below hb); clear hb))
            go_ret
            exact ⟨rfl, HI8.out.1.1⟩
          · by_cases g3 : i0 < 0
            · have HOU : Hid (OutL c s0 i0) := hide (.inr (.inr (.inl g3)))
              go_wp2_with (first
                | (go_at_call 9; refine (HAL.out _ HIF.out.1).mono ?_; rintro e w7 ⟨rfl, hb⟩; have HI7 := hide (HIF.out.below hb); obtain ⟨b0, b1, b2, b3, b4, b5⟩ := HBC.out w7 HI7.out.1; clear hb)
                | (go_at_call 18; refine (HLO.out _ HI7.out.1 HOU.out).mono ?_; rintro e w8 ⟨rfl, hb⟩; have HI8 := hide (HI7.out.below hb); clear hb))
              go_ret
              exact ⟨rfl, HI8.out.1.1⟩
            · obtain ⟨k, rfl⟩ := Int.eq_ofNat_of_zero_le (show 0 ≤ s0 by omega)
              have g5 : (k : Int) < 7 := by omega
              have a0 := HCC.out wr HIF.out k (by omega)
              by_cases g4 : (cntN c k : Int) ≤ i0
              · have HOU : Hid (OutL c (k : Int) i0) := hide (.inr (.inr (.inr ⟨k, rfl, by omega, g4⟩)))
                go_wp2_with (first
                  | (go_at_call 9; refine (HAL.out _ HIF.out.1).mono ?_; rintro e w7 ⟨rfl, hb⟩; have HI7 := hide (HIF.out.below hb); obtain ⟨b0, b1, b2, b3, b4, b5⟩ := HBC.out w7 HI7.out.1; clear hb)
                  | (go_at_call 18; refine (HLO.out _ HI7.out.1 HOU.out).mono ?_; rintro e w8 ⟨rfl, hb⟩; have HI8 := hide (HI7.out.below hb); clear hb))
                go_ret
                exact ⟨rfl, HI8.out.1.1⟩
              · go_wp2_with (go_at_call 9; refine (HAL.out _ HIF.out.1).mono ?_; rintro e w7 ⟨rfl, hb⟩; have HI7 := hide (HIF.out.below hb); clear hb)
                go_ret
                exact ⟨rfl, HI7.out.1.1⟩
  · rw [Bool.not_eq_true] at hF
    rw [hF] at HSM
    unfold cfgC at HSM HB0
    unfold cfgV at HSM ⊢
    clear h hok hsm hv hm hB0 hsf hF
    go_enter Tryz.func5, Tryz.ntmps5
    go_wp2_with (first
      | (go_at_call 8; refine HSM.out.mono ?_; rintro e w1 ⟨rfl, hb⟩; have HB1 := hide (HB0.out.below hb); clear hb)
      | (go_at_call 9; refine (HAL.out _ HB1.out).mono ?_; rintro e w2 ⟨rfl, hb⟩; have HB2 := hide (HB1.out.below hb); clear hb))
    go_ret
    exact ⟨rfl, HB2.out.1⟩
end Go.Proofs.YtcnihmlmaigkdaaGreatDoor
