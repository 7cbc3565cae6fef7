/- ParseBreaks, the walk (chapter 07). -/
import Derived.Test.YtdpieljopelkhaaGreatDoorLw7Same
import Derived.Test.YtdpieljopelkhaaGreatDoorPaPos
import Derived.Test.YtdpieljopelkhaaGreatDoorLw7BrkL
namespace Go.Proofs.YtdpieljopelkhaaGreatDoor
open Go.RowKit Go.Lib
set_option linter.unusedVariables false

theorem cut_lenB (a : ByteArray) : (a.extract 0 (min (a.size : Int) 5000).toNat).size ≤ 5000 := by
  rw [ByteArray.size_extract]
  omega
theorem cut_takeB (a : ByteArray) (S : Nat) : (a.extract 0 S).data.toList = a.data.toList.take S := by
  have := extract_piece a 0 S
  unfold piece at this
  rw [List.drop_zero, Nat.sub_zero] at this
  rw [this]
theorem cut_allB (a : ByteArray) (h : a.size ≤ 5000) : a.extract 0 (min (a.size : Int) 5000).toNat = a := by
  rw [show (min (a.size : Int) 5000).toNat = a.size by omega]
  apply ByteArray.ext
  apply Array.toList_inj.1
  rw [cut_takeB, List.take_of_length_le (by rw [← Lib.size_eq]; exact Nat.le_refl _)]
/-- The token's place in memory. -/
theorem rtok_place {w : World} {base e n : Nat} {A : Option Addr} {c : Nat} {l : List Token} (h : w.ownsRow base e 5 (.slice A n c) n (tokCells l)) (hn : n = l.length) (i : Nat) (hi : i < l.length) :
    ∃ g, A = some ⟨g, 0, none⟩ ∧ n ≤ c ∧ w.cell? ⟨g, i * 5 + 3, none⟩ = some (.int .i64 (l[i].line : Int)) ∧ w.cell? ⟨g, i * 5 + 4, none⟩ = some (.int .i64 (l[i].col : Int)) := by
  subst hn
  obtain ⟨g, h1, h2, _, h4⟩ := tok_cell h i hi
  exact ⟨g, h1, h2, h4 3 (by omega), h4 4 (by omega)⟩
set_option maxRecDepth 100000 in
set_option maxHeartbeats 2000000 in
theorem ParseBreaks_calls (x : ByteArray) (k : Nat) (hk : k < 65536) (w : World) (hv : Vars w) :
    Calls Tryz.prog 4 #[.string x, .int .u16 (k : Int)] w fun e w' => e = .returned (.bool true) ∧ Below w.heap.size w w' := by
  have HAL := hide (fun W (hW : Vars W) => alive7_calls W hW)
  have HV := hide hv
  by_cases hx : x.size ≤ 5000
  · have HQ0 := fun W => (RParse_calls x (by omega) W).mono fun e w' h => h.uni
    have HQ : Hid (∀ W, Calls Tryz.prog 11 #[.string (x.extract 0 (min (x.size : Int) 5000).toNat)] W (RefV (pcD (parseO x)) (fD (parseO x)) W)) := hide (fun W => by rw [cut_allB x hx]; exact HQ0 W)
    have hxI : ¬ (5000 : Int) < (x.size : Int) := by omega
    have hxd : decide ((5000 : Int) < (x.size : Int)) = false := by simp; omega
    clear HQ0
    cases ho : parseO x with
    | error f =>
      rw [ho] at HQ
      have hp := parseO_pos ho
      obtain ⟨f1, f2, f3⟩ := f
      unfold RefV at HQ
      simp only [pcD, fD] at HQ hp
      have d0 : ((f1 : Int) != 0) = true := by rw [bne_iff_ne]; omega
      clear hv hx hp ho
      go_enter Tryz.func4, Tryz.ntmps4
      go_wp2_with fail
      refine (HQ.out _).mono ?_
      rintro e w2 ⟨d, rfl, _, _, hb2⟩
      have hW := hb2.alloc hb2.size (.cells #[.int .u64 (d.frame : Int), .slice d.parts.a d.parts.l.length d.parts.c, .slice d.wins.a d.wins.l.length d.wins.c, .slice d.regs.a d.regs.l.length d.regs.c, .slice d.ports.a d.ports.l.length d.ports.c, .slice d.chans.a d.chans.l.length d.chans.c] 30)
      have HW := hide hW
      clear hb2 hW
      unfold cfgV
      go_wp2_with fail
      refine (HAL.out _ (HV.out.below HW.out)).mono ?_
      rintro e w3 ⟨rfl, hb3⟩
      go_wp2
      go_ret
      exact ⟨rfl, HW.out.trans (hb3.mono HW.out.size)⟩
    | ok pc =>
      obtain ⟨L, hoL, h2, hln, hBR⟩ := breaks_law ho
      have HBR := hide hBR
      have HT0 := fun W => RefTokens_calls x (by omega) W
      rw [hoL] at HT0
      obtain ⟨n, hn⟩ : ∃ n, n = L.length := ⟨_, rfl⟩
      have HN := hide hn
      have HT : Hid (∀ W, Calls Tryz.prog 13 #[.string x] W fun e w' => Below W.heap.size W w' ∧ ∃ v, e = .returned (.tuple #[v, .int .i64 0, .int .i64 0, .int .i64 0]) ∧ w'.ownsRow W.heap.size 45 5 v n (tokCells L)) := hide (fun W => by rw [hn]; exact HT0 W)
      rw [ho] at HQ
      unfold RefV at HQ
      simp only [pcD, fD] at HQ
      have HS := hide (fun a b W => same_calls7 (P := zeroPC) (ok_zero (n := 0) (by omega)) a b W)
      rw [← hn] at h2 hln
      clear hv ho hoL HT0 hn hBR
      -- the token's number
      obtain ⟨i, hi⟩ : ∃ i, i = k % (n - 1) := ⟨_, rfl⟩
      have hin : i + 1 < n := by have := Nat.mod_lt k (show 0 < n - 1 by omega); omega
      have hil : i + 1 < L.length := by have := HN.out; omega
      have hi2 : i < L.length := Nat.lt_of_succ_lt hil
      have hmd : ((k : Int)).tmod ((n - 1 : Nat) : Int) = (i : Int) := by rw [hi]; rfl
      clear hi
      obtain ⟨S, hS, hpl, hcut⟩ := HBR.out i hil
      have HCUT := hide hcut
      obtain ⟨tl, htl⟩ : ∃ a, a = (L[i]'hi2).line := ⟨_, rfl⟩
      obtain ⟨tc, htc⟩ : ∃ a, a = (L[i]'hi2).col := ⟨_, rfl⟩
      rw [← htl, ← htc] at hpl
      have HPL := hide hpl
      have HTL := hide htl
      have HTC := hide htc
      have hxs : (x.size : Int) ≤ 5000 := by omega
      have hw1 : IntKind.i64.wrap (k : Int) = (k : Int) := by rw [IntKind.wrap_i64]; omega
      have hwn : IntKind.i64.wrap ((n : Int) - 1) = ((n - 1 : Nat) : Int) := by rw [IntKind.wrap_i64]; omega
      have hn0 : ¬ ((n - 1 : Nat) : Int) = 0 := by omega
      clear hcut hpl htl htc
      go_enter Tryz.func4, Tryz.ntmps4
      go_wp2_with fail
      refine (HQ.out _).mono ?_
      rintro e w2 ⟨d, rfl, _, _, hb2⟩
      have HW3 := hide (hb2.alloc hb2.size (.cells #[.int .u64 (d.frame : Int), .slice d.parts.a d.parts.l.length d.parts.c, .slice d.wins.a d.wins.l.length d.wins.c, .slice d.regs.a d.regs.l.length d.regs.c, .slice d.ports.a d.ports.l.length d.ports.c, .slice d.chans.a d.chans.l.length d.chans.c] 30))
      clear hb2
      unfold cfgV
      go_wp2_with fail
      refine (HT.out _).mono ?_
      rintro e w4 ⟨hb4, v, rfl, hov⟩
      obtain ⟨A, cA, rfl⟩ := own_slice5 hov
      have HW4 := hide (HW3.out.trans (hb4.mono HW3.out.size))
      obtain ⟨g, rfl, hcA, x3, x4⟩ := rtok_place hov HN.out i hi2
      rw [← HTL.out] at x3
      rw [← HTC.out] at x4
      have hcI : (n : Int) ≤ (cA : Int) := by omega
      have hiI : (i : Int) < (n : Int) := by omega
      clear hb4 hov HW3 hcA
      obtain ⟨f2, f3, hf⟩ := HCUT.out (x.extract 0 S) (cut_takeB x S)
      have HP : Hid (∀ W, Vars W → Calls Tryz.prog 10 #[.string (x.extract 0 S)] W (ParV zeroPC (4, f2, f3) W)) := hide (fun W hW => by
        have := (PParse_calls (x.extract 0 S) W hW).mono fun e w' h => h.uni
        rw [hf] at this
        exact this)
      have HR : Hid (∀ W, Calls Tryz.prog 11 #[.string (x.extract 0 S)] W (RefV zeroPC (4, f2, f3) W)) := hide (fun W => by
        have := (RParse_calls (x.extract 0 S) (by rw [ByteArray.size_extract]; omega) W).mono fun e w' h => h.uni
        rw [hf] at this
        exact this)
      unfold ParV at HP
      unfold RefV at HR
      simp only at HP HR
      clear hf HCUT HBR HQ HT
      go_wp2
      go_loop [14, 15, 16] (fun a l c => ∃ j : Nat, j ≤ S ∧ a = .int .i64 (j : Int) ∧ l = .int .i64 ((placeAt x j).1 : Int) ∧ c = .int .i64 ((placeAt x j).2 : Int)) (fun a _ _ => S - (intOf a).toNat)
      case atStart => exact ⟨0, Nat.zero_le _, rfl, rfl, rfl⟩
      case round =>
        obtain ⟨j, hj, rfl, rfl, rfl⟩ := hrel
        have pb := place_boundB x j
        by_cases hjS : j < S
        · have hjz : j < x.size := by omega
          have hjI : (j : Int) < (x.size : Int) := by omega
          have hst := place_stopB x hjS hS
          rw [← HPL.out] at hst
          simp only at hst
          have hnx := place_nextB x j hjz
          have hu := UInt8.toNat_lt x[j]
          obtain ⟨u, hu2⟩ : ∃ u, u = x[j] := ⟨_, rfl⟩
          have HU := hide hu2
          obtain ⟨pl, hp1⟩ : ∃ a, a = (placeAt x j).1 := ⟨_, rfl⟩
          obtain ⟨pc, hp2⟩ : ∃ a, a = (placeAt x j).2 := ⟨_, rfl⟩
          have hpe : placeAt x j = (pl, pc) := by rw [hp1, hp2]
          rw [hpe] at hnx
          rw [← hp1, ← hp2] at hst pb ⊢
          have plI : (pl : Int) ≤ 5001 := by omega
          have pcI : (pc : Int) ≤ 5002 := by omega
          by_cases h10 : u = 10
          · have e10 : (((x[j].toNat : Nat) : Int) == 10) = true := by rw [← hu2, h10]; rfl
            rw [← hu2, h10] at hnx
            have HN1 : Hid ((placeAt x (j + 1)).1 = pl + 1) := hide (by rw [hnx]; rfl)
            have HN2 : Hid ((placeAt x (j + 1)).2 = 1) := hide (by rw [hnx]; rfl)
            clear hnx hp1 hp2 hpe hu2 h10 hu pb
            rcases hst with hA | ⟨hB, hC⟩
            · have dA : decide ((pl : Int) < (tl : Int)) = true := by simp; omega
              have dA2 : decide (pl < tl) = true := by simp; omega
              have hAI : (pl : Int) < (tl : Int) := by omega
              clear hA
              go_wp2
              go_round
              case rel => exact ⟨j + 1, by omega, by go_num, by rw [HN1.out]; go_num, by rw [HN2.out]; go_num⟩
              case measure => simp [intOf]; omega
            · have dA : decide ((pl : Int) < (tl : Int)) = false := by simp; omega
              have dB : ((pl : Int) == (tl : Int)) = true := by simp; omega
              have dC : decide ((pc : Int) < (tc : Int)) = true := by simp; omega
              have dC2 : decide (pc < tc) = true := by simp; omega
              have hCI : (pc : Int) < (tc : Int) := by omega
              clear hC; subst hB
              go_wp2
              go_round
              case rel => exact ⟨j + 1, by omega, by go_num, by rw [HN1.out]; go_num, by rw [HN2.out]; go_num⟩
              case measure => simp [intOf]; omega
          · have e10 : (((x[j].toNat : Nat) : Int) == 10) = false := by
              rw [beq_eq_false_iff_ne]
              intro h
              apply h10
              rw [hu2]
              exact UInt8.toNat_inj.1 (by have h3 : (10 : UInt8).toNat = 10 := rfl; rw [h3]; omega)
            have HN1 : Hid ((placeAt x (j + 1)).1 = pl) := hide (by rw [hnx, ← hu2]; unfold pass; rw [if_neg h10])
            have HN2 : Hid ((placeAt x (j + 1)).2 = pc + 1) := hide (by rw [hnx, ← hu2]; unfold pass; rw [if_neg h10])
            clear hnx hp1 hp2 hpe hu2 h10 hu pb
            rcases hst with hA | ⟨hB, hC⟩
            · have dA : decide ((pl : Int) < (tl : Int)) = true := by simp; omega
              have dA2 : decide (pl < tl) = true := by simp; omega
              have hAI : (pl : Int) < (tl : Int) := by omega
              clear hA
              go_wp2
              go_round
              case rel => exact ⟨j + 1, by omega, by go_num, by rw [HN1.out], by rw [HN2.out]; go_num⟩
              case measure => simp [intOf]; omega
            · have dA : decide ((pl : Int) < (tl : Int)) = false := by simp; omega
              have dB : ((pl : Int) == (tl : Int)) = true := by simp; omega
              have dC : decide ((pc : Int) < (tc : Int)) = true := by simp; omega
              have dC2 : decide (pc < tc) = true := by simp; omega
              have hCI : (pc : Int) < (tc : Int) := by omega
              clear hC; subst hB
              go_wp2
              go_round
              case rel => exact ⟨j + 1, by omega, by go_num, by rw [HN1.out], by rw [HN2.out]; go_num⟩
              case measure => simp [intOf]; omega
        · obtain rfl : j = S := by omega
          have hp1 : (placeAt x j).1 = tl := by rw [← HPL.out]
          have hp2 : (placeAt x j).2 = tc := by rw [← HPL.out]
          rw [hp1, hp2]
          have hjI : (j : Int) ≤ (x.size : Int) := by omega
          have dA : decide ((tl : Int) < (tl : Int)) = false := by simp
          have dB : ((tl : Int) == (tl : Int)) = true := by simp
          have dC : decide ((tc : Int) < (tc : Int)) = false := by simp
          have dA2 : decide (tl < tl) = false := by simp
          have dC2 : decide (tc < tc) = false := by simp
          clear hp1 hp2 pb hjS
          rcases Nat.lt_or_ge j x.size with hz | hz
          · have d0 : decide ((j : Int) < (x.size : Int)) = true := by simp; omega
            have d02 : decide (j < x.size) = true := by simp; omega
            have hzI : (j : Int) < (x.size : Int) := by omega
            clear hz
            go_wp2_with fail
            refine (HP.out _ (HV.out.below HW4.out)).mono ?_
            rintro e w6 ⟨c, rfl, hoc, hpc, hb6⟩
            have HCC := hide hoc.at_
            have HPC := hide hpc
            have HW6 := hide (HW4.out.trans (hb6.mono HW4.out.size))
            clear hb6 hoc hpc x3 x4
            unfold cfgV
            go_wp2_with fail
            refine (HR.out _).mono ?_
            rintro e w8 ⟨d2, rfl, hdc, hpd, hb8⟩
            have HBc := hide (show Blk w8 w6.heap.size 30 (cfgCs c) from ((Blk.new w6 _ _).alloc _).below hb8 (by simp; omega))
            have HBf := hide (show Blk w8 (w6.heap.size + 1) 33 #[.int .i64 4, .int .i64 (f2 : Int), .int .i64 (f3 : Int)] from (Blk.newAt (by simp)).below hb8 (by simp))
            have HW8 := hide (show Below w.heap.size w w8 from ((HW6.out.alloc HW6.out.size _).alloc (by have := HW6.out.size; simp; omega) _).trans (hb8.mono (by have := HW6.out.size; simp; omega)))
            have HCC8 := hide (show CfgAt w6.heap.size c w8 from HCC.out.below ((((Below.refl _ w6).alloc (Nat.le_refl _) _).alloc (by simp) _).trans (hb8.mono (by simp; omega))))
            have hz8 : w6.heap.size + 1 < w8.heap.size := HBf.out.lt
            have HDC := hide hdc
            have HPD := hide hpd
            clear hb8 hdc hpd HCC
            unfold cfgV
            go_wp2_with fail
            refine (HAL.out _ (HV.out.below (HW8.out.alloc HW8.out.size _))).mono ?_
            rintro e w10 ⟨rfl, hb10⟩
            have hA10 := (Below.alloc (Below.refl w8.heap.size w8) (Nat.le_refl _) _).trans (hb10.mono (by simp))
            have hBc10 := HBc.out.below hA10 HBc.out.lt
            have hBf10 := HBf.out.below hA10 HBf.out.lt
            have hBd10 := (show Blk w10 w8.heap.size 30 (cfgCs d2) from (Blk.new w8 _ _).below hb10 (by simp))
            have HW10 := hide (HW8.out.trans (hA10.mono HW8.out.size))
            have HC10 := hide (show CfgAt w10.heap.size c w10 from CfgAt.more (HCC8.out.below (hA10.mono (by omega))) (by have := hBc10.lt; omega))
            have HD10 := hide (show CfgAt w10.heap.size d2 w10 from CfgAt.more (HDC.out.below hA10) (by have := hBd10.lt; omega))
            obtain ⟨p0, p1, p2, p3, p4, p5⟩ := cfg6 hBc10
            obtain ⟨q0, q1, q2, q3, q4, q5⟩ := cfg6 hBd10
            obtain ⟨r0, r1, r2⟩ := flt3 hBf10
            have HBf10 := hide hBf10
            clear hb10 hA10 hBc10 hBf10 hBd10
            go_wp2_with fail
            refine (HS.out c d2 w10 HC10.out HD10.out HPC.out HPD.out).mono ?_
            rintro e w12 ⟨rfl, hb12⟩
            have HW12 := hide (HW10.out.trans (hb12.mono HW10.out.size))
            clear p0 p1 p2 p3 p4 p5 q0 q1 q2 q3 q4 q5 r0 r1 r2
            obtain ⟨r0, r1, r2⟩ := flt3 (HBf10.out.below hb12 HBf10.out.lt)
            clear hb12
            go_wp2
            go_ret
            exact ⟨rfl, HW12.out⟩
          · have d0 : decide ((j : Int) < (x.size : Int)) = false := by simp; omega
            have d02 : decide (j < x.size) = false := by simp; omega
            have hzI : ¬ (j : Int) < (x.size : Int) := by omega
            clear hz
            go_wp2_with fail
            refine (HP.out _ (HV.out.below HW4.out)).mono ?_
            rintro e w6 ⟨c, rfl, hoc, hpc, hb6⟩
            have HCC := hide hoc.at_
            have HPC := hide hpc
            have HW6 := hide (HW4.out.trans (hb6.mono HW4.out.size))
            clear hb6 hoc hpc x3 x4
            unfold cfgV
            go_wp2_with fail
            refine (HR.out _).mono ?_
            rintro e w8 ⟨d2, rfl, hdc, hpd, hb8⟩
            have HBc := hide (show Blk w8 w6.heap.size 30 (cfgCs c) from ((Blk.new w6 _ _).alloc _).below hb8 (by simp; omega))
            have HBf := hide (show Blk w8 (w6.heap.size + 1) 33 #[.int .i64 4, .int .i64 (f2 : Int), .int .i64 (f3 : Int)] from (Blk.newAt (by simp)).below hb8 (by simp))
            have HW8 := hide (show Below w.heap.size w w8 from ((HW6.out.alloc HW6.out.size _).alloc (by have := HW6.out.size; simp; omega) _).trans (hb8.mono (by have := HW6.out.size; simp; omega)))
            have HCC8 := hide (show CfgAt w6.heap.size c w8 from HCC.out.below ((((Below.refl _ w6).alloc (Nat.le_refl _) _).alloc (by simp) _).trans (hb8.mono (by simp; omega))))
            have hz8 : w6.heap.size + 1 < w8.heap.size := HBf.out.lt
            have HDC := hide hdc
            have HPD := hide hpd
            clear hb8 hdc hpd HCC
            unfold cfgV
            go_wp2_with fail
            refine (HAL.out _ (HV.out.below (HW8.out.alloc HW8.out.size _))).mono ?_
            rintro e w10 ⟨rfl, hb10⟩
            have hA10 := (Below.alloc (Below.refl w8.heap.size w8) (Nat.le_refl _) _).trans (hb10.mono (by simp))
            have hBc10 := HBc.out.below hA10 HBc.out.lt
            have hBf10 := HBf.out.below hA10 HBf.out.lt
            have hBd10 := (show Blk w10 w8.heap.size 30 (cfgCs d2) from (Blk.new w8 _ _).below hb10 (by simp))
            have HW10 := hide (HW8.out.trans (hA10.mono HW8.out.size))
            have HC10 := hide (show CfgAt w10.heap.size c w10 from CfgAt.more (HCC8.out.below (hA10.mono (by omega))) (by have := hBc10.lt; omega))
            have HD10 := hide (show CfgAt w10.heap.size d2 w10 from CfgAt.more (HDC.out.below hA10) (by have := hBd10.lt; omega))
            obtain ⟨p0, p1, p2, p3, p4, p5⟩ := cfg6 hBc10
            obtain ⟨q0, q1, q2, q3, q4, q5⟩ := cfg6 hBd10
            obtain ⟨r0, r1, r2⟩ := flt3 hBf10
            have HBf10 := hide hBf10
            clear hb10 hA10 hBc10 hBf10 hBd10
            go_wp2_with fail
            refine (HS.out c d2 w10 HC10.out HD10.out HPC.out HPD.out).mono ?_
            rintro e w12 ⟨rfl, hb12⟩
            have HW12 := hide (HW10.out.trans (hb12.mono HW10.out.size))
            clear p0 p1 p2 p3 p4 p5 q0 q1 q2 q3 q4 q5 r0 r1 r2
            obtain ⟨r0, r1, r2⟩ := flt3 (HBf10.out.below hb12 HBf10.out.lt)
            clear hb12
            go_wp2
            go_ret
            exact ⟨rfl, HW12.out⟩
  · have hxI : (5000 : Int) < (x.size : Int) := by omega
    obtain ⟨y, hy⟩ : ∃ y, y = x.extract 0 (min (x.size : Int) 5000).toNat := ⟨_, rfl⟩
    have hys : y.size ≤ 5000 := by rw [hy]; exact cut_lenB x
    have HQ : Hid (∀ W, Calls Tryz.prog 11 #[.string (x.extract 0 (min (x.size : Int) 5000).toNat)] W (RefV (pcD (parseO y)) (fD (parseO y)) W)) := hide (fun W => by rw [← hy]; exact (RParse_calls y (by omega) W).mono fun e w' h => h.uni)
    generalize pcD (parseO y) = P at HQ
    generalize fD (parseO y) = F at HQ
    unfold RefV at HQ
    clear hv hx hy hys
    go_enter Tryz.func4, Tryz.ntmps4
    go_wp2_with fail
    refine (HQ.out _).mono ?_
    rintro e w2 ⟨d, rfl, _, _, hb2⟩
    have hW := hb2.alloc hb2.size (.cells #[.int .u64 (d.frame : Int), .slice d.parts.a d.parts.l.length d.parts.c, .slice d.wins.a d.wins.l.length d.wins.c, .slice d.regs.a d.regs.l.length d.regs.c, .slice d.ports.a d.ports.l.length d.ports.c, .slice d.chans.a d.chans.l.length d.chans.c] 30)
    have HW := hide hW
    clear hb2 hW
    unfold cfgV
    go_wp2_with fail
    refine (HAL.out _ (HV.out.below HW.out)).mono ?_
    rintro e w3 ⟨rfl, hb3⟩
    go_wp2
    go_ret
    exact ⟨rfl, HW.out.trans (hb3.mono HW.out.size)⟩
theorem ParseBreaks_at (x : ByteArray) (a : Int) (ha : (Lit.int .u16 a).wf = true) (w : World) (hv : Vars w) :
    Calls Tryz.prog 4 #[.string x, .int .u16 a] w fun e w' => e = .returned (.bool true) ∧ Below w.heap.size w w' := by
  have h : 0 ≤ a ∧ a < 65536 := by
    simp [Lit.wf] at ha
    have h1 : IntKind.u16.min = 0 := by decide
    have h2 : IntKind.u16.max = 65535 := by decide
    omega
  obtain ⟨n, rfl⟩ : ∃ n : Nat, a = (n : Int) := ⟨a.toNat, by omega⟩
  exact ParseBreaks_calls x n (by omega) w hv
end Go.Proofs.YtdpieljopelkhaaGreatDoor
