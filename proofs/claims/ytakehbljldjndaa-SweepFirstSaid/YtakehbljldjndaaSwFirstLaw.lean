/- The walk of the law SweepFirst (chapter 14). -/
import Derived.Test.YtakehbljldjndaaSwFirstFn
namespace Go.Proofs.Ytakehbljldjndaa
open Go.RowKit Go.Sort
set_option linter.unusedVariables false

theorem But.row {M : Nat → Prop} {a b : World} {g : Nat} (h : But M a b) (hg : M g ∨ a.heap.size ≤ g) (cs : Array Value) : But M a (b.setRow g cs) :=
  ⟨h.os, h.tape, h.output, Nat.le_trans h.size (by simp [World.setRow]), fun i hi hn => (setRow_other b g i cs (by rintro rfl; rcases hg with h1 | h1; exact hn h1; omega)).trans (h.block i hi hn)⟩
theorem row_put2 {w : World} {B : Nat} {t : TypeId} {cs cs' : Array Value} (h : Blk w B t cs) : Blk (w.setRow B cs') B t cs' := setRow_heap w B cs cs' t (0, 0) h
theorem row_far2 {w : World} {B g : Nat} {t : TypeId} {cs cs' : Array Value} (h : Blk w g t cs) (hne : g ≠ B) : Blk (w.setRow B cs') g t cs := (setRow_other w B g cs' hne).trans h
theorem pr_size (a b : Int) (T : TypeId) (hT : T = 27) : (Try.prog.info? T).map (·.size) = some (#[Value.int .i64 a, Value.int .i64 b] : Array Value).size := by subst hT; kernel_rfl
theorem pr_oneCell (a b : Int) : (#[Value.int .i64 a, Value.int .i64 b] : Array Value).all (·.oneCell') = true := by rw [← Array.all_toList]; rfl
theorem bo_more {B B' c : Nat} {A : Option Addr} {l : List Bool} {w : World} (h : BoArg B A c l w) (hB : B ≤ B') : BoArg B' A c l w := ⟨h.1.more hB, h.2⟩
theorem pr_eql_self (a b : Int) (w : World) : (binOp .eql 27 (.agg #[.int .i64 a, .int .i64 b]) (.agg #[.int .i64 a, .int .i64 b])).run Try.prog w = .ok (.bool true) w := by
  rw [pr_eql]; simp
set_option maxRecDepth 100000 in
set_option maxHeartbeats 16000000 in
theorem SweepFirst_calls (l : List (Nat × Nat)) (c : Nat) (A : Option Addr) (sh : List Bool) (c2 : Nat) (A2 : Option Addr) (w : World) (hb : ∀ s ∈ l, s.1 < 18446744073709551616 ∧ s.2 < 18446744073709551616) (h : SpArg w.heap.size A c l w) (h2 : BoArg w.heap.size A2 c2 sh w) (hl2 : sh.length ≤ 9223372036854775807) :
    Calls Try.prog 8 #[.slice A l.length c, .slice A2 sh.length c2] w fun e w' => e = .returned (.bool true) ∧ Below w.heap.size w w' := by
  have HBX := hide (Blk.new w 47 #[.slice A2 sh.length c2])
  have HB0 := hide ((Below.refl w.heap.size w).alloc (Nat.le_refl _) (.cells #[.slice A2 sh.length c2] 47))
  have HF := hide (fits_calls l c A _ (SpArg.more (h.below HB0.out) HB0.out.size))
  have HAL := hide (fun W => alive_calls W)
  have hfo := fun hf => fits_ok hb hf
  have eF : ∀ args w, (callFunc 25 args).run Try.prog w = .ok (.enter 25 args) w := enters_of Try.func25 (by kernel_rfl) rfl
  generalize FitsR l = F at *
  cases F
  · clear hfo hb h h2 hl2
    generalize l.length = n at *
    generalize sh.length = n2 at *
    go_enter Try.func8, Try.ntmps8
    go_wp2_with (first
      | (go_at_call 9; refine HF.out.mono ?_; rintro e w1 ⟨rfl, hb⟩; have HB1 := hide (HB0.out.trans (hb.mono HB0.out.size)); clear hb)
      | (go_at_call 10; refine (HAL.out _).mono ?_; rintro e w2 ⟨rfl, hb⟩; have HB2 := hide (HB1.out.trans (hb.mono HB1.out.size)); clear hb))
    go_ret
    exact ⟨rfl, HB2.out⟩
  · obtain ⟨hl, hok⟩ := hfo rfl
    have HS := hide (fun W (hW : Below w.heap.size w W) => spans_calls l c A W (SpArg.more (h.below hW) hW.size) (by omega))
    have HR := hide (fun W (hW : Below w.heap.size w W) => RPairs_calls l c A W (SpArg.more (h.below hW) hW.size) hok (by omega))
    have HN0 := hide (fun W a c' (hW : W.ownsRow 0 38 2 (.slice a l.length c') l.length (l.flatMap spL)) => First_nil l 0 c' a W hok hW (by omega))
    have HFN := hide (fun W a c' S (hc : W.cell? ⟨S, 0, none⟩ = some (.slice A2 sh.length c2)) (hS : S < W.heap.size) (hB : Below w.heap.size w W) (hW : W.ownsRow 0 38 2 (.slice a l.length c') l.length (l.flatMap spL)) => First_fn l 0 c' a W (alB sh) #[.pointer (some ⟨S, 0, none⟩)] (fun W' hW' p => allow_calls S w.heap.size c2 A2 sh W' ((hW'.cell (p := ⟨S, 0, none⟩) hS).trans hc) (h2.below (hB.trans (hW'.mono hB.size))) hl2 p) hok hW (by omega))
    have HAW := hide (fun W S (hc : W.cell? ⟨S, 0, none⟩ = some (.slice A2 sh.length c2)) (hB : Below w.heap.size w W) p => allow_calls S w.heap.size c2 A2 sh W hc (h2.below hB) hl2 p)
    have hpl : (pairsR l).length ≤ 1000000 := by have := rowsTo_len l l.length; have h2 : l.length * l.length ≤ 60 * 60 := Nat.mul_le_mul hl hl; show (rowsTo l l.length).length ≤ _; omega
    clear hfo hb h hok h2 hl2
    generalize hPR : pairsR l = PR at *
    clear hPR
    obtain ⟨n, hn⟩ : ∃ n, n = l.length := ⟨_, rfl⟩
    obtain ⟨m, hm⟩ : ∃ m, m = PR.length := ⟨_, rfl⟩
    have HN := hide hn
    have HM := hide hm
    rw [← hn] at HS HF HR HN0 HFN hl ⊢
    rw [← hm] at hpl
    have hmI : (m : Int) ≤ 1000000 := by omega
    generalize hal : alB sh = al at *
    clear hn hm hal
    generalize sh.length = n2 at *
    go_enter Try.func8, Try.ntmps8
    go_wp2_with (first
      | (go_at_call 9; refine HF.out.mono ?_; rintro e w1 ⟨rfl, hb⟩; have HB1 := hide (HB0.out.trans (hb.mono HB0.out.size)); have HBX1 := hide (HBX.out.below hb HBX.out.lt); clear hb)
      | (go_at_call 14; refine (HR.out _ ((HB1.out.alloc HB1.out.size _).alloc (Nat.le_trans HB1.out.size (by simp)) _)).mono ?_; rintro e w4 ⟨a4, c4, rfl, ho, hb⟩; rw [← HM.out] at ho ⊢; have HO4 := hide ho; have HB4 := hide (((HB1.out.alloc HB1.out.size _).alloc (Nat.le_trans HB1.out.size (by simp)) _).trans (hb.mono (((HB1.out.alloc HB1.out.size _).alloc (Nat.le_trans HB1.out.size (by simp)) _).size))); have HP6 := hide (((Blk.new w1 27 #[.int .i64 (-1), .int .i64 (-1)]).alloc (.cells #[.int .i64 (-1), .int .i64 (-1)] 27)).below hb (by simp; omega)); have HP7 := hide ((Blk.new (w1.alloc (.cells #[.int .i64 (-1), .int .i64 (-1)] 27)) 27 #[.int .i64 (-1), .int .i64 (-1)]).below hb (by simp)); have HPX := hide (((HBX1.out.alloc (.cells #[.int .i64 (-1), .int .i64 (-1)] 27)).alloc (.cells #[.int .i64 (-1), .int .i64 (-1)] 27)).below hb (by have := HBX1.out.lt; simp; omega)); clear ho hb))
    obtain ⟨wo, rfl⟩ : ∃ wo : World, wo = w4 := ⟨_, rfl⟩
    have hSX := HBX1.out.lt
    have hX0 := HB1.out.size
    simp only [World.size_alloc] at HO4 HP7 ⊢
    clear HBX HB0 HBX1 HF
    generalize hX6 : w1.heap.size = X6 at *
    obtain ⟨S, hS⟩ : ∃ S, S = w.heap.size := ⟨_, rfl⟩
    have HSI := hide hS
    rw [← hS] at hSX HPX ⊢
    have hS6 : S < X6 := hSX
    clear hX6 hS hX0
    go_loopw [24] (fun v wr => ∃ (k : Nat) (fw sw fa sa : Int), k ≤ m ∧ v = .int .i64 (k : Int) ∧ Hid ((fw, sw) = firstOf al (PR.take k) ∧ (fa, sa) = firstOf (fun _ => false) (PR.take k) ∧ Blk wr X6 27 #[.int .i64 fw, .int .i64 sw] ∧ Blk wr (X6 + 1) 27 #[.int .i64 fa, .int .i64 sa] ∧ But (fun k => k = X6 ∨ k = X6 + 1) wo wr)) (fun v _ => m - (intOf v).toNat)
    case atStart => exact ⟨0, -1, -1, -1, -1, Nat.zero_le _, rfl, hide ⟨rfl, rfl, HP6.out, HP7.out, But.refl _ _⟩⟩
    case round =>
      obtain ⟨k, fw, sw, fa, sa, hk, rfl, hrel⟩ := hrel
      have HBW := hide (show Below w.heap.size w wr from HB4.out.trans (hrel.out.2.2.2.2.below HB4.out.size (by have := HSI.out; intro k hk; omega)))
      have HPX2 := hide (hrel.out.2.2.2.2.blk HPX.out (by omega))
      have HO5 := hide (own_but HO4.out hrel.out.2.2.2.2 (by intro k hk; have := own_block HO4.out k hk; omega))
      by_cases hlt : k < m
      · have hlt2 : (k : Int) < (m : Int) := by omega
        have hkl : k < PR.length := by have := HM.out; omega
        obtain ⟨g, rfl, _, hgc, hgl, hcell⟩ := own_cells prL_len HO5.out HM.out.symm k hkl
        have hcI : (m : Int) ≤ (c4 : Int) := by omega
        have x0 : wr.cell? ⟨g, k * 2, none⟩ = some (.int .i64 (PR[k].1 : Int)) := hcell 0 (by omega)
        have x1 : wr.cell? ⟨g, k * 2 + 1, none⟩ = some (.int .i64 (PR[k].2 : Int)) := hcell 1 (by omega)
        have hst := firstOf_succ al PR k hkl
        rw [← hrel.out.1] at hst
        have hsta := firstOf_succ (fun _ => false) PR k hkl
        rw [← hrel.out.2.1] at hsta
        obtain ⟨p, hp⟩ : ∃ p, p = PR[k] := ⟨_, rfl⟩
        rw [← hp] at x0 x1 hst hsta
        have HST := hide hst
        have HSA := hide hsta
        have HAP := hide (fun W S hc hB => HAW.out W S hc hB p)
        clear hcell hp hst hsta
        obtain ⟨p1, p2⟩ := p
        simp only at *
        have HSZ := hide (show X6 + 1 < wr.heap.size from hrel.out.2.2.2.1.lt)
        have HZ := hide (Blk.new wr 27 #[.int .i64 (p1 : Int), .int .i64 (p2 : Int)])
        have H6 := hide (hrel.out.2.2.1.alloc (.cells #[.int .i64 (p1 : Int), .int .i64 (p2 : Int)] 27))
        have H7 := hide (hrel.out.2.2.2.1.alloc (.cells #[.int .i64 (p1 : Int), .int .i64 (p2 : Int)] 27))
        have HBU := hide (hrel.out.2.2.2.2.alloc (.cells #[.int .i64 (p1 : Int), .int .i64 (p2 : Int)] 27))
        have HPX3 := hide (HPX2.out.alloc (.cells #[.int .i64 (p1 : Int), .int .i64 (p2 : Int)] 27))
        have HBW3 := hide (HBW.out.alloc HBW.out.size (.cells #[.int .i64 (p1 : Int), .int .i64 (p2 : Int)] 27))
        have HBS := hide (show w.heap.size ≤ X6 by have := HSI.out; omega)
        clear hrel
        obtain ⟨b, hb⟩ : ∃ b, b = al (p1, p2) := ⟨_, rfl⟩
        rw [← hb] at HAP
        have HA0 := hide hb.symm
        clear hb
        have z0 : (wr.alloc (.cells #[.int .i64 (p1 : Int), .int .i64 (p2 : Int)] 27)).cell? ⟨wr.heap.size, 0, none⟩ = some (.int .i64 (p1 : Int)) := HZ.out.cell 0
        have z1 : (wr.alloc (.cells #[.int .i64 (p1 : Int), .int .i64 (p2 : Int)] 27)).cell? ⟨wr.heap.size, 1, none⟩ = some (.int .i64 (p2 : Int)) := HZ.out.cell 1
        have u1 : (wr.alloc (.cells #[.int .i64 (p1 : Int), .int .i64 (p2 : Int)] 27)).cell? ⟨X6, 1, none⟩ = some (.int .i64 sw) := H6.out.cell 1
        have v1 : (wr.alloc (.cells #[.int .i64 (p1 : Int), .int .i64 (p2 : Int)] 27)).cell? ⟨X6 + 1, 1, none⟩ = some (.int .i64 sa) := H7.out.cell 1
        by_cases ht0 : sa < 0
        · have e1 : decide (sa < (0 : Int)) = true := by simpa using ht0
          have HD : Hid (sa < 0 ∨ (p2 : Int) < sa) := hide (.inl ht0)
          have HZ2 : Hid (Blk ((wr.alloc (.cells #[.int .i64 (p1 : Int), .int .i64 (p2 : Int)] 27)).setRow (X6 + 1) #[.int .i64 (p1 : Int), .int .i64 (p2 : Int)]) wr.heap.size 27 #[.int .i64 (p1 : Int), .int .i64 (p2 : Int)]) := hide (row_far2 HZ.out (by have := HSZ.out; omega))
          have H62 : Hid (Blk ((wr.alloc (.cells #[.int .i64 (p1 : Int), .int .i64 (p2 : Int)] 27)).setRow (X6 + 1) #[.int .i64 (p1 : Int), .int .i64 (p2 : Int)]) X6 27 #[.int .i64 fw, .int .i64 sw]) := hide (row_far2 H6.out (by omega))
          have H72 : Hid (Blk ((wr.alloc (.cells #[.int .i64 (p1 : Int), .int .i64 (p2 : Int)] 27)).setRow (X6 + 1) #[.int .i64 (p1 : Int), .int .i64 (p2 : Int)]) (X6 + 1) 27 #[.int .i64 (p1 : Int), .int .i64 (p2 : Int)]) := hide (row_put2 H7.out)
          have HBU2 : Hid (But (fun k => k = X6 ∨ k = X6 + 1) wo ((wr.alloc (.cells #[.int .i64 (p1 : Int), .int .i64 (p2 : Int)] 27)).setRow (X6 + 1) #[.int .i64 (p1 : Int), .int .i64 (p2 : Int)])) := hide (HBU.out.row (.inl (.inr rfl)) _)
          have HPX4 : Hid (Blk ((wr.alloc (.cells #[.int .i64 (p1 : Int), .int .i64 (p2 : Int)] 27)).setRow (X6 + 1) #[.int .i64 (p1 : Int), .int .i64 (p2 : Int)]) S 47 #[.slice A2 n2 c2]) := hide (row_far2 HPX3.out (by omega))
          have HBW4 : Hid (Below w.heap.size w ((wr.alloc (.cells #[.int .i64 (p1 : Int), .int .i64 (p2 : Int)] 27)).setRow (X6 + 1) #[.int .i64 (p1 : Int), .int .i64 (p2 : Int)])) := hide (HB4.out.trans (HBU2.out.below HB4.out.size (by have := HBS.out; intro k hk; omega)))
          have z0s : ((wr.alloc (.cells #[.int .i64 (p1 : Int), .int .i64 (p2 : Int)] 27)).setRow (X6 + 1) #[.int .i64 (p1 : Int), .int .i64 (p2 : Int)]).cell? ⟨wr.heap.size, 0, none⟩ = some (.int .i64 (p1 : Int)) := HZ2.out.cell 0
          have z1s : ((wr.alloc (.cells #[.int .i64 (p1 : Int), .int .i64 (p2 : Int)] 27)).setRow (X6 + 1) #[.int .i64 (p1 : Int), .int .i64 (p2 : Int)]).cell? ⟨wr.heap.size, 1, none⟩ = some (.int .i64 (p2 : Int)) := HZ2.out.cell 1
          have u1s : ((wr.alloc (.cells #[.int .i64 (p1 : Int), .int .i64 (p2 : Int)] 27)).setRow (X6 + 1) #[.int .i64 (p1 : Int), .int .i64 (p2 : Int)]).cell? ⟨X6, 1, none⟩ = some (.int .i64 sw) := H62.out.cell 1
          have v1s : ((wr.alloc (.cells #[.int .i64 (p1 : Int), .int .i64 (p2 : Int)] 27)).setRow (X6 + 1) #[.int .i64 (p1 : Int), .int .i64 (p2 : Int)]).cell? ⟨X6 + 1, 1, none⟩ = some (.int .i64 (p2 : Int)) := H72.out.cell 1
          cases b
          · by_cases hs0 : sw < 0
            · have d1 : decide (sw < (0 : Int)) = true := by simpa using hs0
              have HC : Hid (sw < 0 ∨ (p2 : Int) < sw) := hide (.inl hs0)
              go_wp2_with (refine wpList_store_row rfl 27 (.tmp 7) (.tmp 38) rfl (X6 + 1) #[.int .i64 (p1 : Int), .int .i64 (p2 : Int)] rfl rfl 27 #[.int .i64 fa, .int .i64 sa] H7.out (pr_size _ _ _ rfl) rfl (pr_oneCell _ _) ?_; clear z0 z1 u1 v1 x0 x1 H7 H6 HZ HBU HPX3 HBW3; generalize ((wr.alloc (.cells #[.int .i64 (p1 : Int), .int .i64 (p2 : Int)] 27)).setRow (X6 + 1) #[.int .i64 (p1 : Int), .int .i64 (p2 : Int)]) = W2 at *)
              go_wp2_with (first | (go_at_call 25; refine (HAP.out _ _ (HPX4.out.cell 0) HBW4.out).mono ?_; rintro e w5 ⟨rfl, rfl⟩) | (refine wpList_store_row rfl 27 (.tmp 6) (.tmp 58) rfl X6 #[.int .i64 (p1 : Int), .int .i64 (p2 : Int)] rfl rfl 27 #[.int .i64 fw, .int .i64 sw] H62.out (pr_size _ _ _ rfl) rfl (pr_oneCell _ _) ?_))
              go_roundw
              case rel => exact ⟨k + 1, (p1 : Int), (p2 : Int), (p1 : Int), (p2 : Int), by omega, by go_num, hide ⟨by rw [HST.out]; unfold firstStep; rw [if_neg (by rw [HA0.out]; simp), if_pos HC.out], by rw [HSA.out]; unfold firstStep; rw [if_neg (by simp), if_pos HD.out], (row_put2 H62.out), (row_far2 H72.out (by omega)), (HBU2.out.row (.inl (.inl rfl)) _)⟩⟩
              case measure => simp [intOf]; omega
            · have d1 : decide (sw < (0 : Int)) = false := by simpa using hs0
              by_cases hp2 : (p2 : Int) < sw
              · have d2 : decide ((p2 : Int) < sw) = true := by simpa using hp2
                have HC : Hid (sw < 0 ∨ (p2 : Int) < sw) := hide (.inr hp2)
                go_wp2_with (refine wpList_store_row rfl 27 (.tmp 7) (.tmp 38) rfl (X6 + 1) #[.int .i64 (p1 : Int), .int .i64 (p2 : Int)] rfl rfl 27 #[.int .i64 fa, .int .i64 sa] H7.out (pr_size _ _ _ rfl) rfl (pr_oneCell _ _) ?_; clear z0 z1 u1 v1 x0 x1 H7 H6 HZ HBU HPX3 HBW3; generalize ((wr.alloc (.cells #[.int .i64 (p1 : Int), .int .i64 (p2 : Int)] 27)).setRow (X6 + 1) #[.int .i64 (p1 : Int), .int .i64 (p2 : Int)]) = W2 at *)
                go_wp2_with (first | (go_at_call 25; refine (HAP.out _ _ (HPX4.out.cell 0) HBW4.out).mono ?_; rintro e w5 ⟨rfl, rfl⟩) | (refine wpList_store_row rfl 27 (.tmp 6) (.tmp 58) rfl X6 #[.int .i64 (p1 : Int), .int .i64 (p2 : Int)] rfl rfl 27 #[.int .i64 fw, .int .i64 sw] H62.out (pr_size _ _ _ rfl) rfl (pr_oneCell _ _) ?_))
                go_roundw
                case rel => exact ⟨k + 1, (p1 : Int), (p2 : Int), (p1 : Int), (p2 : Int), by omega, by go_num, hide ⟨by rw [HST.out]; unfold firstStep; rw [if_neg (by rw [HA0.out]; simp), if_pos HC.out], by rw [HSA.out]; unfold firstStep; rw [if_neg (by simp), if_pos HD.out], (row_put2 H62.out), (row_far2 H72.out (by omega)), (HBU2.out.row (.inl (.inl rfl)) _)⟩⟩
                case measure => simp [intOf]; omega
              · have d2 : decide ((p2 : Int) < sw) = false := by simpa using hp2
                have HC : Hid (¬ (sw < 0 ∨ (p2 : Int) < sw)) := hide (by omega)
                go_wp2_with (refine wpList_store_row rfl 27 (.tmp 7) (.tmp 38) rfl (X6 + 1) #[.int .i64 (p1 : Int), .int .i64 (p2 : Int)] rfl rfl 27 #[.int .i64 fa, .int .i64 sa] H7.out (pr_size _ _ _ rfl) rfl (pr_oneCell _ _) ?_; clear z0 z1 u1 v1 x0 x1 H7 H6 HZ HBU HPX3 HBW3; generalize ((wr.alloc (.cells #[.int .i64 (p1 : Int), .int .i64 (p2 : Int)] 27)).setRow (X6 + 1) #[.int .i64 (p1 : Int), .int .i64 (p2 : Int)]) = W2 at *)
                go_wp2_with (first | (go_at_call 25; refine (HAP.out _ _ (HPX4.out.cell 0) HBW4.out).mono ?_; rintro e w5 ⟨rfl, rfl⟩))
                go_roundw
                case rel => exact ⟨k + 1, fw, sw, (p1 : Int), (p2 : Int), by omega, by go_num, hide ⟨by rw [HST.out]; unfold firstStep; rw [if_neg (by rw [HA0.out]; simp), if_neg HC.out], by rw [HSA.out]; unfold firstStep; rw [if_neg (by simp), if_pos HD.out], H62.out, H72.out, HBU2.out⟩⟩
                case measure => simp [intOf]; omega
          · skip
            go_wp2_with (refine wpList_store_row rfl 27 (.tmp 7) (.tmp 38) rfl (X6 + 1) #[.int .i64 (p1 : Int), .int .i64 (p2 : Int)] rfl rfl 27 #[.int .i64 fa, .int .i64 sa] H7.out (pr_size _ _ _ rfl) rfl (pr_oneCell _ _) ?_; clear z0 z1 u1 v1 x0 x1 H7 H6 HZ HBU HPX3 HBW3; generalize ((wr.alloc (.cells #[.int .i64 (p1 : Int), .int .i64 (p2 : Int)] 27)).setRow (X6 + 1) #[.int .i64 (p1 : Int), .int .i64 (p2 : Int)]) = W2 at *)
            go_wp2_with (first | (go_at_call 25; refine (HAP.out _ _ (HPX4.out.cell 0) HBW4.out).mono ?_; rintro e w5 ⟨rfl, rfl⟩))
            go_roundw
            case rel => exact ⟨k + 1, fw, sw, (p1 : Int), (p2 : Int), by omega, by go_num, hide ⟨by rw [HST.out]; unfold firstStep; rw [if_pos HA0.out], by rw [HSA.out]; unfold firstStep; rw [if_neg (by simp), if_pos HD.out], H62.out, H72.out, HBU2.out⟩⟩
            case measure => simp [intOf]; omega
        · have e1 : decide (sa < (0 : Int)) = false := by simpa using ht0
          by_cases hp3 : (p2 : Int) < sa
          · have e2 : decide ((p2 : Int) < sa) = true := by simpa using hp3
            have HD : Hid (sa < 0 ∨ (p2 : Int) < sa) := hide (.inr hp3)
            have HZ2 : Hid (Blk ((wr.alloc (.cells #[.int .i64 (p1 : Int), .int .i64 (p2 : Int)] 27)).setRow (X6 + 1) #[.int .i64 (p1 : Int), .int .i64 (p2 : Int)]) wr.heap.size 27 #[.int .i64 (p1 : Int), .int .i64 (p2 : Int)]) := hide (row_far2 HZ.out (by have := HSZ.out; omega))
            have H62 : Hid (Blk ((wr.alloc (.cells #[.int .i64 (p1 : Int), .int .i64 (p2 : Int)] 27)).setRow (X6 + 1) #[.int .i64 (p1 : Int), .int .i64 (p2 : Int)]) X6 27 #[.int .i64 fw, .int .i64 sw]) := hide (row_far2 H6.out (by omega))
            have H72 : Hid (Blk ((wr.alloc (.cells #[.int .i64 (p1 : Int), .int .i64 (p2 : Int)] 27)).setRow (X6 + 1) #[.int .i64 (p1 : Int), .int .i64 (p2 : Int)]) (X6 + 1) 27 #[.int .i64 (p1 : Int), .int .i64 (p2 : Int)]) := hide (row_put2 H7.out)
            have HBU2 : Hid (But (fun k => k = X6 ∨ k = X6 + 1) wo ((wr.alloc (.cells #[.int .i64 (p1 : Int), .int .i64 (p2 : Int)] 27)).setRow (X6 + 1) #[.int .i64 (p1 : Int), .int .i64 (p2 : Int)])) := hide (HBU.out.row (.inl (.inr rfl)) _)
            have HPX4 : Hid (Blk ((wr.alloc (.cells #[.int .i64 (p1 : Int), .int .i64 (p2 : Int)] 27)).setRow (X6 + 1) #[.int .i64 (p1 : Int), .int .i64 (p2 : Int)]) S 47 #[.slice A2 n2 c2]) := hide (row_far2 HPX3.out (by omega))
            have HBW4 : Hid (Below w.heap.size w ((wr.alloc (.cells #[.int .i64 (p1 : Int), .int .i64 (p2 : Int)] 27)).setRow (X6 + 1) #[.int .i64 (p1 : Int), .int .i64 (p2 : Int)])) := hide (HB4.out.trans (HBU2.out.below HB4.out.size (by have := HBS.out; intro k hk; omega)))
            have z0s : ((wr.alloc (.cells #[.int .i64 (p1 : Int), .int .i64 (p2 : Int)] 27)).setRow (X6 + 1) #[.int .i64 (p1 : Int), .int .i64 (p2 : Int)]).cell? ⟨wr.heap.size, 0, none⟩ = some (.int .i64 (p1 : Int)) := HZ2.out.cell 0
            have z1s : ((wr.alloc (.cells #[.int .i64 (p1 : Int), .int .i64 (p2 : Int)] 27)).setRow (X6 + 1) #[.int .i64 (p1 : Int), .int .i64 (p2 : Int)]).cell? ⟨wr.heap.size, 1, none⟩ = some (.int .i64 (p2 : Int)) := HZ2.out.cell 1
            have u1s : ((wr.alloc (.cells #[.int .i64 (p1 : Int), .int .i64 (p2 : Int)] 27)).setRow (X6 + 1) #[.int .i64 (p1 : Int), .int .i64 (p2 : Int)]).cell? ⟨X6, 1, none⟩ = some (.int .i64 sw) := H62.out.cell 1
            have v1s : ((wr.alloc (.cells #[.int .i64 (p1 : Int), .int .i64 (p2 : Int)] 27)).setRow (X6 + 1) #[.int .i64 (p1 : Int), .int .i64 (p2 : Int)]).cell? ⟨X6 + 1, 1, none⟩ = some (.int .i64 (p2 : Int)) := H72.out.cell 1
            cases b
            · by_cases hs0 : sw < 0
              · have d1 : decide (sw < (0 : Int)) = true := by simpa using hs0
                have HC : Hid (sw < 0 ∨ (p2 : Int) < sw) := hide (.inl hs0)
                go_wp2_with (refine wpList_store_row rfl 27 (.tmp 7) (.tmp 38) rfl (X6 + 1) #[.int .i64 (p1 : Int), .int .i64 (p2 : Int)] rfl rfl 27 #[.int .i64 fa, .int .i64 sa] H7.out (pr_size _ _ _ rfl) rfl (pr_oneCell _ _) ?_; clear z0 z1 u1 v1 x0 x1 H7 H6 HZ HBU HPX3 HBW3; generalize ((wr.alloc (.cells #[.int .i64 (p1 : Int), .int .i64 (p2 : Int)] 27)).setRow (X6 + 1) #[.int .i64 (p1 : Int), .int .i64 (p2 : Int)]) = W2 at *)
                go_wp2_with (first | (go_at_call 25; refine (HAP.out _ _ (HPX4.out.cell 0) HBW4.out).mono ?_; rintro e w5 ⟨rfl, rfl⟩) | (refine wpList_store_row rfl 27 (.tmp 6) (.tmp 58) rfl X6 #[.int .i64 (p1 : Int), .int .i64 (p2 : Int)] rfl rfl 27 #[.int .i64 fw, .int .i64 sw] H62.out (pr_size _ _ _ rfl) rfl (pr_oneCell _ _) ?_))
                go_roundw
                case rel => exact ⟨k + 1, (p1 : Int), (p2 : Int), (p1 : Int), (p2 : Int), by omega, by go_num, hide ⟨by rw [HST.out]; unfold firstStep; rw [if_neg (by rw [HA0.out]; simp), if_pos HC.out], by rw [HSA.out]; unfold firstStep; rw [if_neg (by simp), if_pos HD.out], (row_put2 H62.out), (row_far2 H72.out (by omega)), (HBU2.out.row (.inl (.inl rfl)) _)⟩⟩
                case measure => simp [intOf]; omega
              · have d1 : decide (sw < (0 : Int)) = false := by simpa using hs0
                by_cases hp2 : (p2 : Int) < sw
                · have d2 : decide ((p2 : Int) < sw) = true := by simpa using hp2
                  have HC : Hid (sw < 0 ∨ (p2 : Int) < sw) := hide (.inr hp2)
                  go_wp2_with (refine wpList_store_row rfl 27 (.tmp 7) (.tmp 38) rfl (X6 + 1) #[.int .i64 (p1 : Int), .int .i64 (p2 : Int)] rfl rfl 27 #[.int .i64 fa, .int .i64 sa] H7.out (pr_size _ _ _ rfl) rfl (pr_oneCell _ _) ?_; clear z0 z1 u1 v1 x0 x1 H7 H6 HZ HBU HPX3 HBW3; generalize ((wr.alloc (.cells #[.int .i64 (p1 : Int), .int .i64 (p2 : Int)] 27)).setRow (X6 + 1) #[.int .i64 (p1 : Int), .int .i64 (p2 : Int)]) = W2 at *)
                  go_wp2_with (first | (go_at_call 25; refine (HAP.out _ _ (HPX4.out.cell 0) HBW4.out).mono ?_; rintro e w5 ⟨rfl, rfl⟩) | (refine wpList_store_row rfl 27 (.tmp 6) (.tmp 58) rfl X6 #[.int .i64 (p1 : Int), .int .i64 (p2 : Int)] rfl rfl 27 #[.int .i64 fw, .int .i64 sw] H62.out (pr_size _ _ _ rfl) rfl (pr_oneCell _ _) ?_))
                  go_roundw
                  case rel => exact ⟨k + 1, (p1 : Int), (p2 : Int), (p1 : Int), (p2 : Int), by omega, by go_num, hide ⟨by rw [HST.out]; unfold firstStep; rw [if_neg (by rw [HA0.out]; simp), if_pos HC.out], by rw [HSA.out]; unfold firstStep; rw [if_neg (by simp), if_pos HD.out], (row_put2 H62.out), (row_far2 H72.out (by omega)), (HBU2.out.row (.inl (.inl rfl)) _)⟩⟩
                  case measure => simp [intOf]; omega
                · have d2 : decide ((p2 : Int) < sw) = false := by simpa using hp2
                  have HC : Hid (¬ (sw < 0 ∨ (p2 : Int) < sw)) := hide (by omega)
                  go_wp2_with (refine wpList_store_row rfl 27 (.tmp 7) (.tmp 38) rfl (X6 + 1) #[.int .i64 (p1 : Int), .int .i64 (p2 : Int)] rfl rfl 27 #[.int .i64 fa, .int .i64 sa] H7.out (pr_size _ _ _ rfl) rfl (pr_oneCell _ _) ?_; clear z0 z1 u1 v1 x0 x1 H7 H6 HZ HBU HPX3 HBW3; generalize ((wr.alloc (.cells #[.int .i64 (p1 : Int), .int .i64 (p2 : Int)] 27)).setRow (X6 + 1) #[.int .i64 (p1 : Int), .int .i64 (p2 : Int)]) = W2 at *)
                  go_wp2_with (first | (go_at_call 25; refine (HAP.out _ _ (HPX4.out.cell 0) HBW4.out).mono ?_; rintro e w5 ⟨rfl, rfl⟩))
                  go_roundw
                  case rel => exact ⟨k + 1, fw, sw, (p1 : Int), (p2 : Int), by omega, by go_num, hide ⟨by rw [HST.out]; unfold firstStep; rw [if_neg (by rw [HA0.out]; simp), if_neg HC.out], by rw [HSA.out]; unfold firstStep; rw [if_neg (by simp), if_pos HD.out], H62.out, H72.out, HBU2.out⟩⟩
                  case measure => simp [intOf]; omega
            · skip
              go_wp2_with (refine wpList_store_row rfl 27 (.tmp 7) (.tmp 38) rfl (X6 + 1) #[.int .i64 (p1 : Int), .int .i64 (p2 : Int)] rfl rfl 27 #[.int .i64 fa, .int .i64 sa] H7.out (pr_size _ _ _ rfl) rfl (pr_oneCell _ _) ?_; clear z0 z1 u1 v1 x0 x1 H7 H6 HZ HBU HPX3 HBW3; generalize ((wr.alloc (.cells #[.int .i64 (p1 : Int), .int .i64 (p2 : Int)] 27)).setRow (X6 + 1) #[.int .i64 (p1 : Int), .int .i64 (p2 : Int)]) = W2 at *)
              go_wp2_with (first | (go_at_call 25; refine (HAP.out _ _ (HPX4.out.cell 0) HBW4.out).mono ?_; rintro e w5 ⟨rfl, rfl⟩))
              go_roundw
              case rel => exact ⟨k + 1, fw, sw, (p1 : Int), (p2 : Int), by omega, by go_num, hide ⟨by rw [HST.out]; unfold firstStep; rw [if_pos HA0.out], by rw [HSA.out]; unfold firstStep; rw [if_neg (by simp), if_pos HD.out], H62.out, H72.out, HBU2.out⟩⟩
              case measure => simp [intOf]; omega
          · have e2 : decide ((p2 : Int) < sa) = false := by simpa using hp3
            have HD : Hid (¬ (sa < 0 ∨ (p2 : Int) < sa)) := hide (by omega)
            cases b
            · by_cases hs0 : sw < 0
              · have d1 : decide (sw < (0 : Int)) = true := by simpa using hs0
                have HC : Hid (sw < 0 ∨ (p2 : Int) < sw) := hide (.inl hs0)
                go_wp2_with (first | (go_at_call 25; refine (HAP.out _ _ (HPX3.out.cell 0) HBW3.out).mono ?_; rintro e w5 ⟨rfl, rfl⟩) | (refine wpList_store_row rfl 27 (.tmp 6) (.tmp 58) rfl X6 #[.int .i64 (p1 : Int), .int .i64 (p2 : Int)] rfl rfl 27 #[.int .i64 fw, .int .i64 sw] H6.out (pr_size _ _ _ rfl) rfl (pr_oneCell _ _) ?_))
                go_roundw
                case rel => exact ⟨k + 1, (p1 : Int), (p2 : Int), fa, sa, by omega, by go_num, hide ⟨by rw [HST.out]; unfold firstStep; rw [if_neg (by rw [HA0.out]; simp), if_pos HC.out], by rw [HSA.out]; unfold firstStep; rw [if_neg (by simp), if_neg HD.out], (row_put2 H6.out), (row_far2 H7.out (by omega)), (HBU.out.row (.inl (.inl rfl)) _)⟩⟩
                case measure => simp [intOf]; omega
              · have d1 : decide (sw < (0 : Int)) = false := by simpa using hs0
                by_cases hp2 : (p2 : Int) < sw
                · have d2 : decide ((p2 : Int) < sw) = true := by simpa using hp2
                  have HC : Hid (sw < 0 ∨ (p2 : Int) < sw) := hide (.inr hp2)
                  go_wp2_with (first | (go_at_call 25; refine (HAP.out _ _ (HPX3.out.cell 0) HBW3.out).mono ?_; rintro e w5 ⟨rfl, rfl⟩) | (refine wpList_store_row rfl 27 (.tmp 6) (.tmp 58) rfl X6 #[.int .i64 (p1 : Int), .int .i64 (p2 : Int)] rfl rfl 27 #[.int .i64 fw, .int .i64 sw] H6.out (pr_size _ _ _ rfl) rfl (pr_oneCell _ _) ?_))
                  go_roundw
                  case rel => exact ⟨k + 1, (p1 : Int), (p2 : Int), fa, sa, by omega, by go_num, hide ⟨by rw [HST.out]; unfold firstStep; rw [if_neg (by rw [HA0.out]; simp), if_pos HC.out], by rw [HSA.out]; unfold firstStep; rw [if_neg (by simp), if_neg HD.out], (row_put2 H6.out), (row_far2 H7.out (by omega)), (HBU.out.row (.inl (.inl rfl)) _)⟩⟩
                  case measure => simp [intOf]; omega
                · have d2 : decide ((p2 : Int) < sw) = false := by simpa using hp2
                  have HC : Hid (¬ (sw < 0 ∨ (p2 : Int) < sw)) := hide (by omega)
                  go_wp2_with (first | (go_at_call 25; refine (HAP.out _ _ (HPX3.out.cell 0) HBW3.out).mono ?_; rintro e w5 ⟨rfl, rfl⟩))
                  go_roundw
                  case rel => exact ⟨k + 1, fw, sw, fa, sa, by omega, by go_num, hide ⟨by rw [HST.out]; unfold firstStep; rw [if_neg (by rw [HA0.out]; simp), if_neg HC.out], by rw [HSA.out]; unfold firstStep; rw [if_neg (by simp), if_neg HD.out], H6.out, H7.out, HBU.out⟩⟩
                  case measure => simp [intOf]; omega
            · skip
              go_wp2_with (first | (go_at_call 25; refine (HAP.out _ _ (HPX3.out.cell 0) HBW3.out).mono ?_; rintro e w5 ⟨rfl, rfl⟩))
              go_roundw
              case rel => exact ⟨k + 1, fw, sw, fa, sa, by omega, by go_num, hide ⟨by rw [HST.out]; unfold firstStep; rw [if_pos HA0.out], by rw [HSA.out]; unfold firstStep; rw [if_neg (by simp), if_neg HD.out], H6.out, H7.out, HBU.out⟩⟩
              case measure => simp [intOf]; omega
      · have hkm : k = m := by omega
        subst hkm
        have e1 := hrel.out.1
        have e2 := hrel.out.2.1
        rw [List.take_of_length_le (by have := HM.out; omega)] at e1 e2
        rw [← e1] at HFN
        rw [← e2] at HN0
        have H6 := hide hrel.out.2.2.1
        have H7 := hide hrel.out.2.2.2.1
        have q1 := fun W => pr_eql_self fw sw W
        have q2 := fun W => pr_eql_self fa sa W
        have gd := fun o x y xs ys W => pr_guard o x y xs ys W
        clear hlt hk e1 e2 hrel
        go_wp2_with (first
          | (go_at_call 13; refine (HS.out _ HBW.out).mono ?_; rintro e w5 ⟨a5, c5, rfl, ho, hb⟩; rw [← HN.out] at ho ⊢; have HO7 := hide (own_base ho (Nat.zero_le _)); have HB5 := hide (HBW.out.trans (hb.mono HBW.out.size)); have HPX5 := hide (HPX2.out.below hb HPX2.out.lt); have H65 := hide (H6.out.below hb H6.out.lt); have H75 := hide (H7.out.below hb H7.out.lt); clear ho hb HBW H6 H7)
          | (go_at_call 26; refine (HFN.out _ _ _ _ (HPX5.out.cell 0) HPX5.out.lt HB5.out HO7.out).mono ?_; rintro e w6 ⟨rfl, hb⟩; have HB6 := hide (HB5.out.trans (hb.mono HB5.out.size)); have H66 := hide (H65.out.below hb H65.out.lt); have H76 := hide (H75.out.below hb H75.out.lt); clear hb HPX5 HB5 H65 H75)
          | (go_at_call 13; refine (HS.out _ HB6.out).mono ?_; rintro e w7 ⟨a7, c7, rfl, ho, hb⟩; rw [← HN.out] at ho ⊢; have HO8 := hide (own_base ho (Nat.zero_le _)); have HB7 := hide (HB6.out.trans (hb.mono HB6.out.size)); have H67 := hide (H66.out.below hb H66.out.lt); have H77 := hide (H76.out.below hb H76.out.lt); clear ho hb HB6 H66 H76)
          | (go_at_call 26; refine (HN0.out _ _ _ HO8.out).mono ?_; rintro e w8 ⟨rfl, hb⟩; have HB8 := hide (HB7.out.trans (hb.mono HB7.out.size)); have H68 := hide (H67.out.below hb H67.out.lt); have H78 := hide (H77.out.below hb H77.out.lt); clear hb HB7 H67 H77)
          | (go_at_call 10; refine (HAL.out _).mono ?_; rintro e w9 ⟨rfl, hb⟩; have HB9 := hide (HB8.out.trans (hb.mono HB8.out.size)); have H69 := H68.out.below hb H68.out.lt; have H79 := H78.out.below hb H78.out.lt; have u0 : w9.cell? ⟨X6, 0, none⟩ = some (.int .i64 fw) := H69.cell 0; have u1 : w9.cell? ⟨X6, 1, none⟩ = some (.int .i64 sw) := H69.cell 1; have v0 : w9.cell? ⟨X6 + 1, 0, none⟩ = some (.int .i64 fa) := H79.cell 0; have v1 : w9.cell? ⟨X6 + 1, 1, none⟩ = some (.int .i64 sa) := H79.cell 1; have H6A := hide H69; have H7A := hide H79; clear hb HB8 H68 H78 H69 H79))
        go_ret
        exact ⟨rfl, HB9.out⟩
end Go.Proofs.Ytakehbljldjndaa
