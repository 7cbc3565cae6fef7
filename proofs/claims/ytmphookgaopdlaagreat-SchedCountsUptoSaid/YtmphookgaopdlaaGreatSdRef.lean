/- The reference's Window, Lookup, Until and Next (chapter 21). The reference's Until (chapter 21). The reference's Next and Trace (chapter 21). -/
import Derived.Test.YtmphookgaopdlaaGreatSdMeth
import Derived.Test.YtmphookgaopdlaaGreatSdLaw
import Derived.Lib.MinMax
import Derived.Test.YtmphookgaopdlaaGreatFrWins
namespace Go.Proofs.YtmphookgaopdlaaGreat
open Go.RowKit Go.Sort
set_option linter.unusedVariables false

theorem find_hit {α : Type} {p : α → Bool} {l : List α} {k : Nat} (hk : k < l.length) (hn : (l.take k).find? p = none) (hp : p l[k] = true) : l.find? p = some l[k] := by
  have e : l = l.take k ++ l[k] :: l.drop (k + 1) := by rw [← List.drop_eq_getElem_cons hk, List.take_append_drop]
  generalize l[k] = y at *
  rw [e, List.find?_append, hn, List.find?_cons_of_pos hp]; rfl
theorem find_on {α : Type} {p : α → Bool} {l : List α} {k : Nat} (hk : k < l.length) (hn : (l.take k).find? p = none) (hp : p l[k] = false) : (l.take (k + 1)).find? p = none := by
  rw [List.take_succ_eq_append_getElem hk, List.find?_append, hn, List.find?_cons_of_neg (by rw [hp]; decide)]; rfl
def winRD (l : List WinR) (x : Nat) : WinR := (winR l x).getD ⟨0, 0, 0⟩
set_option maxRecDepth 100000 in
set_option maxHeartbeats 4000000 in
theorem RWindow_calls (c : Cfg) (t : Nat) (w : World) (h : CfgAt w.heap.size c w) (hsm : c.Small) (hf0 : 0 < c.frame) (hf : c.frame < 18446744073709551616) (ht : t < 18446744073709551616) :
    Calls Tryz.prog 16 #[cfgV c, .int .u64 (t : Int)] w fun e w' => e = .returned (.tuple #[.agg (winC (winRD c.wins.l (t % c.frame))), .bool (winR c.wins.l (t % c.frame)).isSome]) ∧ Below w.heap.size w w' := by
  have hB0 := (Boxed1.start w c).alloc (.cells #[.int .u64 0, .int .u64 0, .int .u16 0] 38)
  have hR0 := Blk.new (w.alloc (.cells (cfgC c) 29)) 38 #[.int .u64 0, .int .u64 0, .int .u16 0]
  rw [World.size_alloc] at hR0
  have HCF := hide (fun W (hW : Boxed1 w c W) => hW.cfg h)
  have hcap := h.wins.2
  have hx64 : t % c.frame < 18446744073709551616 := by have := Nat.mod_lt t hf0; omega
  have hm1 : (t : Int).tmod (c.frame : Int) = ((t % c.frame : Nat) : Int) := by rw [Int.ofNat_tmod]
  have hm2 : (t : Int) % (c.frame : Int) = ((t % c.frame : Nat) : Int) := by omega
  have hfz : ((c.frame : Int) == 0) = false := by rw [beq_eq_false_iff_ne]; omega
  have hfp : (0 : Int) < (c.frame : Int) := by omega
  obtain ⟨x, hx⟩ : ∃ x, x = t % c.frame := ⟨_, rfl⟩
  rw [← hx] at hx64 hm1 hm2 ⊢
  have HX64 := hide hx64
  obtain ⟨n, hn⟩ : ∃ n, n = c.wins.l.length := ⟨_, rfl⟩
  obtain ⟨wa, hwa⟩ : ∃ a, a = c.wins.a := ⟨_, rfl⟩
  have hnI : (n : Int) ≤ 1048576 := by unfold Cfg.Small at hsm; omega
  have hcI : (n : Int) ≤ (c.wins.c : Int) := by omega
  have HN := hide hn
  have HWA := hide hwa
  have HBC := hide (fun W (hW : Boxed1 w c W) => hW.cells)
  unfold cfgV
  unfold cfgC at hB0 hR0
  rw [← hn, ← hwa] at HBC hB0 hR0 ⊢
  have HB0 := hide hB0
  have HR0 := hide hR0
  have HFI : Hid (∀ r, winR c.wins.l x = r → (winRD c.wins.l x = r.getD ⟨0, 0, 0⟩ ∧ winR c.wins.l x = r)) := hide (fun r hr => ⟨by unfold winRD; rw [hr], hr⟩)
  clear h hsm hcap hn hB0 hR0 hwa ht hf hf0 hx hx64
  have hfr := (HBC.out _ HB0.out).1
  go_enter Tryz.func16, Tryz.ntmps16
  go_wp2
  clear hfr
  generalize (w.alloc (.cells #[.int .u64 (c.frame : Int), .slice c.parts.a c.parts.l.length c.parts.c, .slice wa n c.wins.c, .slice c.regs.a c.regs.l.length c.regs.c, .slice c.ports.a c.ports.l.length c.ports.c, .slice c.chans.a c.chans.l.length c.chans.c] 29)).alloc (.cells #[.int .u64 0, .int .u64 0, .int .u16 0] 38) = W0 at *
  go_loopw [7] (fun v wr => ∃ k : Nat, k ≤ n ∧ v = .int .i64 (k : Int) ∧ Hid (Boxed1 w c wr ∧ Blk wr (w.heap.size + 1) 38 #[.int .u64 0, .int .u64 0, .int .u16 0] ∧ (c.wins.l.take k).find? (hasW x) = none)) (fun v _ => n - (intOf v).toNat)
  case atStart => exact ⟨0, Nat.zero_le _, rfl, hide ⟨HB0.out, HR0.out, rfl⟩⟩
  case round =>
    obtain ⟨k, hk, rfl, hrel⟩ := hrel
    obtain ⟨_, _, b2, _, _, _⟩ := HBC.out wr hrel.out.1
    have hz : w.heap.size + 1 < wr.heap.size := hrel.out.2.1.lt
    have q0 : wr.frozen? ⟨w.heap.size + 1, 0, none⟩ = false := hrel.out.2.1.frozen 0
    have q1 : wr.frozen? ⟨w.heap.size + 1, 1, none⟩ = false := hrel.out.2.1.frozen 1
    have q2 : wr.frozen? ⟨w.heap.size + 1, 2, none⟩ = false := hrel.out.2.1.frozen 2
    have r0 : wr.cell? ⟨w.heap.size + 1, 0, none⟩ = some (.int .u64 0) := hrel.out.2.1.cell 0
    have r1 : wr.cell? ⟨w.heap.size + 1, 1, none⟩ = some (.int .u64 0) := hrel.out.2.1.cell 1
    have r2 : wr.cell? ⟨w.heap.size + 1, 2, none⟩ = some (.int .u16 0) := hrel.out.2.1.cell 2
    by_cases hlt : k < n
    · have hlt2 : (k : Int) < (n : Int) := by omega
      have hkl : k < c.wins.l.length := by have := HN.out; omega
      obtain ⟨b, o, ha, hab, x0, x1, x2⟩ := win_at (HCF.out wr hrel.out.1).wins k hkl
      obtain rfl : wa = some ⟨b, o, none⟩ := HWA.out.trans ha
      have HHA := hide ha
      have hbz : b < wr.heap.size := cell_lt x0
      have HHIT := hide (fun hp => find_hit (p := hasW x) hkl hrel.out.2.2 hp)
      have HON := hide (fun hp => find_on (p := hasW x) hkl hrel.out.2.2 hp)
      generalize c.wins.l[k] = y at *
      obtain ⟨lo, len, pt⟩ := y
      simp only at x0 x1 x2
      clear ha hab
      by_cases hle : lo ≤ x
      · obtain ⟨d, hd⟩ : ∃ d, d = x - lo := ⟨_, rfl⟩
        have hsub : IntKind.u64.wrap ((x : Int) - (lo : Int)) = (d : Int) := wrapU (by omega) (by have := HX64.out; omega)
        have e0 : decide ((lo : Int) ≤ (x : Int)) = true := by simpa using hle
        have e1 : decide (lo ≤ x) = true := by simpa using hle
        by_cases hdl : d < len
        · have e2 : decide ((d : Int) < (len : Int)) = true := by simpa using hdl
          have e3 : decide (d < len) = true := by simpa using hdl
          have HV := hide (HFI.out _ (HHIT.out (by rw [hasW_iff]; simp only; omega)))
          have HB1 := hide hrel.out.1
          have HR := hide ((((hrel.out.2.1.set_ 0 (.int .u64 (lo : Int))).set_ 1 (.int .u64 (len : Int))).set_ 2 (.int .u16 (pt : Int))).alloc (.cells #[.int .u64 (lo : Int), .int .u64 (len : Int), .int .u16 (pt : Int)] 38))
          clear hd hle hdl
          go_wp2
          refine bodyPost_ret (res_cell_tmp rfl _ _ (w.heap.size + 1) #[.int .u64 (lo : Int), .int .u64 (len : Int), .int .u16 (pt : Int)] rfl (load_win HR.out rfl)) rfl ⟨?_, ?_⟩
          · rw [HV.out.1, HV.out.2]; rfl
          · exact (((HB1.out.1.setCell (p := ⟨w.heap.size + 1, 0, none⟩) (by simp) _).setCell (p := ⟨w.heap.size + 1, 1, none⟩) (by simp) _).setCell (p := ⟨w.heap.size + 1, 2, none⟩) (by simp) _).alloc (by have := HB1.out.1.size; simpa [World.setCell] using this) _
        · have e2 : decide ((d : Int) < (len : Int)) = false := by simpa using hdl
          have e3 : decide (d < len) = false := by simpa using hdl
          have HF := hide (HON.out (by rw [Bool.eq_false_iff]; intro hh; rw [hasW_iff] at hh; simp only at hh; omega))
          clear hd hle hdl
          go_wp2
          go_roundw
          case rel => exact ⟨k + 1, by omega, by go_num, hide ⟨hrel.out.1.alloc _, hrel.out.2.1.alloc _, HF.out⟩⟩
          case measure => simp [intOf]; omega
      · have e0 : decide ((lo : Int) ≤ (x : Int)) = false := by simpa using hle
        have e1 : decide (lo ≤ x) = false := by simpa using hle
        have HF := hide (HON.out (by rw [Bool.eq_false_iff]; intro hh; rw [hasW_iff] at hh; simp only at hh; omega))
        clear hle
        go_wp2
        go_roundw
        case rel => exact ⟨k + 1, by omega, by go_num, hide ⟨hrel.out.1.alloc _, hrel.out.2.1.alloc _, HF.out⟩⟩
        case measure => simp [intOf]; omega
    · have hkn : k = n := by omega
      subst hkn
      have HV := hide (HFI.out none (by have := hrel.out.2.2; rwa [List.take_of_length_le (by rw [HN.out]; exact Nat.le_refl _)] at this))
      have HR := hide ((((hrel.out.2.1).set_ 0 (.int .u64 0)).set_ 1 (.int .u64 0)).set_ 2 (.int .u16 0))
      clear hlt hk
      go_wp2
      refine bodyPost_ret (res_cell_tmp rfl _ _ (w.heap.size + 1) #[.int .u64 0, .int .u64 0, .int .u16 0] rfl (load_win HR.out rfl)) rfl ⟨?_, ?_⟩
      · rw [HV.out.1, HV.out.2]; rfl
      · exact ((hrel.out.1.1.setCell (p := ⟨w.heap.size + 1, 0, none⟩) (by simp) _).setCell (p := ⟨w.heap.size + 1, 1, none⟩) (by simp) _).setCell (p := ⟨w.heap.size + 1, 2, none⟩) (by simp) _
/-- What a schedule of a configuration is. -/
structure SchC (c : Cfg) (l : List WinR) : Prop where
  sch : Sch c.frame l
  perm : l.Perm c.wins.l
theorem SchC.winR {c : Cfg} {l : List WinR} (h : SchC c l) (x : Nat) : winRD c.wins.l x = winD l x ∧ (Go.Proofs.YtmphookgaopdlaaGreat.winR c.wins.l x).isSome = winB l x := by
  unfold winRD winD winB
  rw [winS_eq h.sch, winR_perm h.sch h.perm]
  exact ⟨rfl, rfl⟩
set_option maxRecDepth 100000 in
set_option maxHeartbeats 2000000 in
theorem RLookup_calls (c : Cfg) (l : List WinR) (t : Nat) (w : World) (h : CfgAt w.heap.size c w) (hsm : c.Small) (hS : SchC c l) (ht : t < 18446744073709551616) :
    Calls Tryz.prog 15 #[cfgV c, .int .u64 (t : Int)] w fun e w' => e = .returned (.tuple #[.int .u16 ((winD l (t % c.frame)).part : Int), .bool (winB l (t % c.frame))]) ∧ Below w.heap.size w w' := by
  have hB0 := Boxed1.start w c
  have HW := hide (RWindow_calls c t _ (hB0.cfg h) hsm hS.sch.pos hS.sch.lt ht)
  rw [(hS.winR _).1, (hS.winR _).2] at HW
  have HBC := hide (fun W (hW : Boxed1 w c W) => hW.cells)
  generalize winD l (t % c.frame) = y at *
  generalize winB l (t % c.frame) = b at *
  obtain ⟨lo, len, pt⟩ := y
  unfold winC at HW
  simp only at HW ⊢
  unfold cfgV at HW ⊢
  unfold cfgC at hB0 HW
  have HB0 := hide hB0
  clear h hS hsm ht hB0
  go_enter Tryz.func15, Tryz.ntmps15
  obtain ⟨b0, b1, b2, b3, b4, b5⟩ := HBC.out _ HB0.out
  go_wp2_with (go_at_call 16; refine HW.out.mono ?_; rintro e w1 ⟨rfl, hb⟩; have HB1 := hide (HB0.out.below hb); clear hb)
  go_ret2
  exact ⟨rfl, (HB1.out.alloc _).1⟩
set_option maxHeartbeats 400000 in
theorem Top_calls (w : World) : Calls Tryz.prog 35 #[] w fun e w' => e = .returned (.int .u64 18446744073709551615) ∧ w = w' := by
  go_enter Tryz.func35, Tryz.ntmps35
  go_wp2
  go_ret
  exact ⟨rfl, rfl⟩
end Go.Proofs.YtmphookgaopdlaaGreat
namespace Go.Proofs.YtmphookgaopdlaaGreat
open Go.RowKit Go.Sort
set_option linter.unusedVariables false

theorem fold_take {α β : Type} (f : β → α → β) (l : List α) (k : Nat) (hk : k < l.length) (b : β) : (l.take (k + 1)).foldl f b = f ((l.take k).foldl f b) l[k] := by
  rw [List.take_succ_eq_append_getElem hk, List.foldl_append]; rfl
theorem untilC {c : Cfg} {l : List WinR} (h : SchC c l) (t : Nat) : untilS c.frame l t = untilR c.frame c.wins.l t := untilS_eq h.sch h.perm t
/-- The reference's number ahead of the cut is not 0. -/
theorem gap_pos {x F : Nat} (hx : x < F) (l : List WinR) : 1 ≤ l.foldl (gapF x) (F - x) ∧ l.foldl (gapF x) (F - x) ≤ F - x := by
  obtain ⟨h1, h2, h3⟩ := gap_spec x l (F - x)
  rcases h3 with h3 | ⟨y, _, h4, h5⟩ <;> omega
/-- The tail of Until: the number is cut. -/
structure CutF (d t v : Nat) : Prop where
  v : v = cutT d t
  pos : 1 ≤ d
  lt : d < 18446744073709551616
  t : t < 18446744073709551616
set_option maxRecDepth 100000 in
set_option maxHeartbeats 4000000 in
theorem RUntil_calls (c : Cfg) (l : List WinR) (t : Nat) (w : World) (h : CfgAt w.heap.size c w) (hsm : c.Small) (hS : SchC c l) (ht : t < 18446744073709551616) :
    Calls Tryz.prog 20 #[cfgV c, .int .u64 (t : Int)] w fun e w' => e = .returned (.int .u64 ((untilS c.frame l t : Nat) : Int)) ∧ Below w.heap.size w w' := by
  rw [untilC hS t]
  have HEACH := hide (fun y (hy : y ∈ c.wins.l) => hS.sch.each y (hS.perm.symm.subset hy))
  have hf0 := hS.sch.pos
  have hf := hS.sch.lt
  have hB0 := Boxed1.start w c
  have HWI := hide (RWindow_calls c t _ (hB0.cfg h) hsm hf0 hf ht)
  have HTP := hide (fun W => Top_calls W)
  have HCF := hide (fun W (hW : Boxed1 w c W) => hW.cfg h)
  have hcap := h.wins.2
  have hx64 : t % c.frame < c.frame := Nat.mod_lt t hf0
  have hm1 : (t : Int).tmod (c.frame : Int) = ((t % c.frame : Nat) : Int) := by rw [Int.ofNat_tmod]
  have hm2 : (t : Int) % (c.frame : Int) = ((t % c.frame : Nat) : Int) := by omega
  have hfz : ((c.frame : Int) == 0) = false := by rw [beq_eq_false_iff_ne]; omega
  have hfp : (0 : Int) < (c.frame : Int) := by omega
  have HUR : Hid (untilR c.frame c.wins.l t = cutT (match winR c.wins.l (t % c.frame) with | some w => w.len - (t % c.frame - w.st) | none => c.wins.l.foldl (gapF (t % c.frame)) (c.frame - t % c.frame)) t) := hide rfl
  obtain ⟨x, hx⟩ : ∃ x, x = t % c.frame := ⟨_, rfl⟩
  rw [← hx] at hx64 hm1 hm2 HWI HUR
  obtain ⟨v, hv⟩ : ∃ v, v = untilR c.frame c.wins.l t := ⟨_, rfl⟩
  rw [← hv] at HUR ⊢
  obtain ⟨n0, hn0⟩ : ∃ n0, n0 = c.frame - x := ⟨_, rfl⟩
  have hs0 : IntKind.u64.wrap ((c.frame : Int) - (x : Int)) = (n0 : Int) := wrapU (by omega) (by omega)
  have HX64 := hide hx64
  have HN0 := hide hn0
  obtain ⟨n, hn⟩ : ∃ n, n = c.wins.l.length := ⟨_, rfl⟩
  obtain ⟨wa, hwa⟩ : ∃ a, a = c.wins.a := ⟨_, rfl⟩
  have hnI : (n : Int) ≤ 1048576 := by unfold Cfg.Small at hsm; omega
  have hcI : (n : Int) ≤ (c.wins.c : Int) := by omega
  have HN := hide hn
  have HWA := hide hwa
  have HT := hide ht
  have HF64 := hide hf
  obtain ⟨lf, hlf⟩ : ∃ lf, lf = 18446744073709551615 - t := ⟨_, rfl⟩
  have f3 : IntKind.u64.wrap (18446744073709551615 - (t : Int)) = (lf : Int) := wrapU (by omega) (by omega)
  have HLF := hide hlf
  have HCUT : Hid (∀ d : Nat, 1 ≤ d → d < 18446744073709551616 → ∃ d1 : Nat, IntKind.u64.wrap ((d : Int) - 1) = (d1 : Int) ∧ ((lf < d1 ∧ IntKind.u64.wrap ((lf : Int) + 1) = ((cutT d t : Nat) : Int)) ∨ (¬ lf < d1 ∧ d = cutT d t))) := hide (fun d h1 h2 => by
    refine ⟨d - 1, wrapU (by omega) (by omega), ?_⟩
    by_cases hc : lf < d - 1
    · left
      have e : cutT d t = lf + 1 := by unfold cutT; rw [if_pos (by omega), hlf]
      rw [e]
      exact ⟨hc, wrapU (by omega) (by omega)⟩
    · right
      have e : cutT d t = d := by unfold cutT; rw [if_neg (by omega)]
      exact ⟨hc, e.symm⟩)
  have HBC := hide (fun W (hW : Boxed1 w c W) => hW.cells)
  unfold cfgV at HWI ⊢
  unfold cfgC at hB0 HWI
  rw [← hn, ← hwa] at HBC hB0 HWI ⊢
  have HB0 := hide hB0
  cases hwr : winR c.wins.l x with
  | some y =>
    rw [hwr] at HUR
    have hy := hasW_iff.1 (List.find?_some hwr)
    have hye := HEACH.out y (List.mem_of_find?_eq_some hwr)
    have hWD : winRD c.wins.l x = y := by unfold winRD; rw [hwr]; rfl
    rw [hwr, hWD] at HWI
    obtain ⟨lo, len, pt⟩ := y
    unfold winC at HWI
    simp only [Option.isSome] at HWI HUR hy hye
    obtain ⟨d0, hd0⟩ : ∃ d0, d0 = x - lo := ⟨_, rfl⟩
    obtain ⟨d, hd⟩ : ∃ d, d = len - d0 := ⟨_, rfl⟩
    have s1 : IntKind.u64.wrap ((x : Int) - (lo : Int)) = (d0 : Int) := wrapU (by omega) (by omega)
    have s2 : IntKind.u64.wrap ((len : Int) - (d0 : Int)) = (d : Int) := wrapU (by omega) (by omega)
    rw [← hd0, ← hd] at HUR
    obtain ⟨d1, s3, s4⟩ := HCUT.out d (by omega) (by omega)
    rw [← HUR.out] at s4
    clear h hS hsm ht hf hf0 hB0 hcap hx hx64 hv hn0 hn hwa hlf hwr hy hye hWD hd0 hd
    rcases s4 with ⟨s4, s5⟩ | ⟨s4, s5⟩
    · have g1 : decide ((lf : Int) < (d1 : Int)) = true := by simpa using s4
      have g2 : decide (lf < d1) = true := by simpa using s4
      clear s4
      go_enter Tryz.func20, Tryz.ntmps20
      obtain ⟨b0, b1, b2, b3, b4, b5⟩ := HBC.out _ HB0.out
      go_wp2_with (first
        | (go_at_call 16; refine HWI.out.mono ?_; rintro e w1 ⟨rfl, hb⟩; have HB1 := hide (HB0.out.below hb); clear hb b0 b1 b2 b3 b4 b5)
        | (go_at_call 35; refine (HTP.out _).mono ?_; rintro e w2 ⟨rfl, rfl⟩))
      go_ret
      exact ⟨rfl, (HB1.out.alloc _).1⟩
    · have g1 : decide ((lf : Int) < (d1 : Int)) = false := by simpa using s4
      have g2 : decide (lf < d1) = false := by simpa using s4
      obtain rfl : d = v := s5
      clear s4
      go_enter Tryz.func20, Tryz.ntmps20
      obtain ⟨b0, b1, b2, b3, b4, b5⟩ := HBC.out _ HB0.out
      go_wp2_with (first
        | (go_at_call 16; refine HWI.out.mono ?_; rintro e w1 ⟨rfl, hb⟩; have HB1 := hide (HB0.out.below hb); clear hb b0 b1 b2 b3 b4 b5)
        | (go_at_call 35; refine (HTP.out _).mono ?_; rintro e w2 ⟨rfl, rfl⟩))
      go_ret
      exact ⟨rfl, (HB1.out.alloc _).1⟩
  | none =>
    rw [hwr] at HUR HWI
    simp only [Option.isSome] at HWI HUR
    rw [← hn0] at HUR
    generalize winRD c.wins.l x = y at *
    obtain ⟨lo, len, pt⟩ := y
    unfold winC at HWI
    simp only at HWI
    have HGP := hide (fun m => gap_pos hx64 m)
    rw [← hn0] at HGP
    clear h hS hsm ht hf hf0 hB0 hcap hx hx64 hv hn0 hn hwa hlf hwr
    go_enter Tryz.func20, Tryz.ntmps20
    obtain ⟨b0, b1, b2, b3, b4, b5⟩ := HBC.out _ HB0.out
    go_wp2_with (go_at_call 16; refine HWI.out.mono ?_; rintro e w1 ⟨rfl, hb⟩; have HB1 := hide ((HB0.out.below hb).alloc (.cells #[.int .u64 (lo : Int), .int .u64 (len : Int), .int .u16 (pt : Int)] 38)); clear hb b0 b1 b2 b3 b4 b5)
    generalize w1.alloc (.cells #[.int .u64 (lo : Int), .int .u64 (len : Int), .int .u16 (pt : Int)] 38) = W1 at *
    go_loopw [6, 9] (fun m v wr => ∃ k q : Nat, k ≤ n ∧ v = .int .i64 (k : Int) ∧ m = .int .u64 (q : Int) ∧ Hid (Boxed1 w c wr ∧ q = (c.wins.l.take k).foldl (gapF x) n0)) (fun _ v _ => n - (intOf v).toNat)
    case atStart => exact ⟨0, n0, Nat.zero_le _, rfl, rfl, hide ⟨HB1.out, rfl⟩⟩
    case round =>
      obtain ⟨k, q, hk, rfl, rfl, hrel⟩ := hrel
      obtain ⟨_, _, b2, _, _, _⟩ := HBC.out wr hrel.out.1
      have hz : w.heap.size < wr.heap.size := hrel.out.1.2.lt
      by_cases hlt : k < n
      · have hlt2 : (k : Int) < (n : Int) := by omega
        have hkl : k < c.wins.l.length := by have := HN.out; omega
        obtain ⟨b, o, ha, hab, x0, x1, x2⟩ := win_at (HCF.out wr hrel.out.1).wins k hkl
        obtain rfl : wa = some ⟨b, o, none⟩ := HWA.out.trans ha
        have HHA := hide ha
        have hye := HEACH.out _ (List.getElem_mem hkl)
        have hfo := fold_take (gapF x) c.wins.l k hkl n0
        rw [← hrel.out.2] at hfo
        generalize c.wins.l[k] = y at *
        obtain ⟨ylo, ylen, ypt⟩ := y
        simp only at x0 x1 x2 hye
        unfold gapF at hfo
        simp only at hfo
        have hq := (HGP.out (c.wins.l.take k)).2
        rw [← hrel.out.2] at hq
        have hxF := HX64.out
        have hF64 := HF64.out
        clear ha hab
        by_cases hle : x < ylo
        · rw [if_pos hle] at hfo
          obtain ⟨d, hd⟩ : ∃ d, d = ylo - x := ⟨_, rfl⟩
          have hsub : IntKind.u64.wrap ((ylo : Int) - (x : Int)) = (d : Int) := wrapU (by omega) (by omega)
          have hmin : min (q : Int) (d : Int) = ((min q d : Nat) : Int) := by omega
          have e0 : decide ((x : Int) < (ylo : Int)) = true := by simpa using hle
          have e1 : decide (x < ylo) = true := by simpa using hle
          rw [← hd] at hfo
          obtain ⟨q2, hq2⟩ : ∃ q2, q2 = min q d := ⟨_, rfl⟩
          rw [← hq2] at hfo hmin
          have HF := hide hfo
          clear hd hle hfo hq2 hq hxF hF64 hye
          go_wp2
          go_roundw
          case rel => exact ⟨k + 1, q2, by omega, by go_num, rfl, hide ⟨hrel.out.1, HF.out.symm⟩⟩
          case measure => simp [intOf]; omega
        · rw [if_neg hle] at hfo
          have e0 : decide ((x : Int) < (ylo : Int)) = false := by simpa using hle
          have e1 : decide (x < ylo) = false := by simpa using hle
          have HF := hide hfo
          clear hle hfo hq hxF hF64 hye
          go_wp2
          go_roundw
          case rel => exact ⟨k + 1, q, by omega, by go_num, rfl, hide ⟨hrel.out.1, HF.out.symm⟩⟩
          case measure => simp [intOf]; omega
      · have hkn : k = n := by omega
        subst hkn
        have hqe := hrel.out.2
        rw [List.take_of_length_le (by rw [HN.out]; exact Nat.le_refl _)] at hqe
        have hgp := HGP.out c.wins.l
        rw [← hqe] at hgp
        have hxF := HX64.out
        have hF64 := HF64.out
        have hn00 := HN0.out
        obtain ⟨d1, s3, s4⟩ := HCUT.out q (by omega) (by omega)
        have hur := HUR.out
        rw [← hqe] at hur
        rw [← hur] at s4
        clear hlt hk hqe hgp hxF hF64 hn00 hur
        rcases s4 with ⟨s4, s5⟩ | ⟨s4, s5⟩
        · have g1 : decide ((lf : Int) < (d1 : Int)) = true := by simpa using s4
          have g2 : decide (lf < d1) = true := by simpa using s4
          clear s4
          go_wp2_with (go_at_call 35; refine (HTP.out _).mono ?_; rintro e w2 ⟨rfl, rfl⟩)
          go_ret
          exact ⟨rfl, hrel.out.1.1⟩
        · have g1 : decide ((lf : Int) < (d1 : Int)) = false := by simpa using s4
          have g2 : decide (lf < d1) = false := by simpa using s4
          obtain rfl : q = v := s5
          clear s4
          go_wp2_with (go_at_call 35; refine (HTP.out _).mono ?_; rintro e w2 ⟨rfl, rfl⟩)
          go_ret
          exact ⟨rfl, hrel.out.1.1⟩
end Go.Proofs.YtmphookgaopdlaaGreat
namespace Go.Proofs.YtmphookgaopdlaaGreat
open Go.RowKit Go.Sort
set_option linter.unusedVariables false

theorem hitS_eq (F : Nat) (l : List WinR) (p t : Nat) : hitS F l p t = (winB l (t % F) && ((winD l (t % F)).part == p)) := by
  unfold hitS winB winD
  cases winS l (t % F) <;> rfl
theorem nextK_yes {F : Nat} {l : List WinR} {p k t : Nat} (h : hitS F l p t = true) : nextK F l p (k + 1) t = some t := by unfold nextK; rw [if_pos h]
theorem nextK_last {F : Nat} {l : List WinR} {p k t : Nat} (h : hitS F l p t = false) (he : t + untilS F l t = 18446744073709551616) : nextK F l p (k + 1) t = none := by
  unfold nextK; rw [if_neg (by rw [h]; decide), if_pos he]
theorem nextK_on {F : Nat} {l : List WinR} {p k t : Nat} (h : hitS F l p t = false) (he : t + untilS F l t ≠ 18446744073709551616) : nextK F l p (k + 1) t = nextK F l p k (t + untilS F l t) := by
  conv => lhs; unfold nextK
  rw [if_neg (by rw [h]; decide), if_neg he]
set_option maxRecDepth 100000 in
set_option maxHeartbeats 4000000 in
theorem RNext_calls (c : Cfg) (l : List WinR) (p t : Nat) (w : World) (h : CfgAt w.heap.size c w) (hsm : c.Small) (hS : SchC c l) (ht : t < 18446744073709551616) :
    Calls Tryz.prog 22 #[cfgV c, .int .u16 (p : Int), .int .u64 (t : Int)] w fun e w' => e = .returned (.tuple #[.int .u64 (((nextK c.frame l p (4 * l.length + 4) t).getD 0 : Nat) : Int), .bool (nextK c.frame l p (4 * l.length + 4) t).isSome]) ∧ Below w.heap.size w w' := by
  have hB0 := Boxed1.start w c
  have HLK := hide (fun T W (hW : Boxed1 w c W) (hT : T < 18446744073709551616) => RLookup_calls c l T W (hW.cfg h) hsm hS hT)
  have HUN := hide (fun T W (hW : Boxed1 w c W) (hT : T < 18446744073709551616) => RUntil_calls c l T W (hW.cfg h) hsm hS hT)
  have HUB := hide (fun T (hT : T < 18446744073709551616) => until_bd hS.sch hT)
  have HTP := hide (fun W => Top_calls W)
  obtain ⟨n, hn⟩ : ∃ n, n = c.wins.l.length := ⟨_, rfl⟩
  have hll : l.length = n := by rw [hn]; exact hS.perm.length_eq
  rw [hll]
  have hnI : (n : Int) ≤ 1048576 := by unfold Cfg.Small at hsm; omega
  have HBC := hide (fun W (hW : Boxed1 w c W) => hW.cells)
  have HR : Hid (∀ r, nextK c.frame l p (4 * n + 4) t = r → nextK c.frame l p (4 * n + 4) t = r) := hide (fun r hr => hr)
  obtain ⟨st, hst⟩ : ∃ s, s = 4 * n + 4 := ⟨_, rfl⟩
  obtain ⟨s1, hs1⟩ : ∃ s, s = 2 * n + 2 := ⟨_, rfl⟩
  have m1 : (2 : Int) * (n : Int) + 2 = (s1 : Int) := by omega
  have m2 : (2 : Int) * (s1 : Int) = (st : Int) := by omega
  have hs1I : (s1 : Int) ≤ 10000000 := by omega
  have hstI : (st : Int) ≤ 10000000 := by omega
  rw [← hst] at HR ⊢
  have HT := hide ht
  unfold cfgV at HLK HUN ⊢
  unfold cfgC at hB0
  rw [← hn] at HLK HUN HBC hB0 ⊢
  have HB0 := hide hB0
  clear h hsm hS ht hB0 hn hll hst hs1
  go_enter Tryz.func22, Tryz.ntmps22
  obtain ⟨b0, b1, b2, b3, b4, b5⟩ := HBC.out _ HB0.out
  go_wp2
  clear b0 b1 b2 b3 b4 b5 m1 m2 hs1I
  generalize w.alloc (.cells #[.int .u64 (c.frame : Int), .slice c.parts.a c.parts.l.length c.parts.c, .slice c.wins.a n c.wins.c, .slice c.regs.a c.regs.l.length c.regs.c, .slice c.ports.a c.ports.l.length c.ports.c, .slice c.chans.a c.chans.l.length c.chans.c] 29) = W0 at *
  go_loopw [2, 9] (fun tv v wr => ∃ k T : Nat, k ≤ st ∧ v = .int .i64 (k : Int) ∧ tv = .int .u64 (T : Int) ∧ Hid (Boxed1 w c wr ∧ T < 18446744073709551616 ∧ nextK c.frame l p (st - k) T = nextK c.frame l p st t)) (fun _ v _ => st - (intOf v).toNat)
  case atStart => exact ⟨0, t, Nat.zero_le _, rfl, rfl, hide ⟨HB0.out, HT.out, rfl⟩⟩
  case round =>
    obtain ⟨k, T, hk, rfl, rfl, hrel⟩ := hrel
    obtain ⟨b0, b1, b2, b3, b4, b5⟩ := HBC.out wr hrel.out.1
    have hz : w.heap.size < wr.heap.size := hrel.out.1.2.lt
    by_cases hlt : k < st
    · have hlt2 : (k : Int) < (st : Int) := by omega
      have hT := hrel.out.2.1
      have hNX := hrel.out.2.2
      obtain ⟨m, hm⟩ : ∃ m, st - k = m + 1 := ⟨st - k - 1, by omega⟩
      rw [hm] at hNX
      have hub := HUB.out T hT
      have hlk := HLK.out T
      have hun := HUN.out T
      have hhs := hitS_eq c.frame l p T
      have y1 := fun h => nextK_yes (F := c.frame) (l := l) (p := p) (k := m) (t := T) h
      have y2 := fun h h2 => nextK_last (F := c.frame) (l := l) (p := p) (k := m) (t := T) h h2
      have y3 := fun h h2 => nextK_on (F := c.frame) (l := l) (p := p) (k := m) (t := T) h h2
      generalize untilS c.frame l T = U at *
      generalize (winD l (T % c.frame)).part = PT at *
      generalize winB l (T % c.frame) = PB at *
      have HLK1 := hide hlk
      have HUN1 := hide hun
      have HMM := hide hm
      clear hlk hun hm
      cases hh : hitS c.frame l p T with
      | true =>
        rw [hh] at hhs
        have hh2 := hhs.symm
        rw [Bool.and_eq_true] at hh2
        obtain ⟨hpb, hpt⟩ := hh2
        have e0 : ((PT : Int) == (p : Int)) = true := by rw [beq_iff_eq] at hpt ⊢; omega
        subst hpb
        have HV : Hid (nextK c.frame l p st t = some T) := hide (by rw [← hNX, y1 hh])
        clear y1 y2 y3 hNX hub hhs hpt hh hT
        go_wp2_with (go_at_call 15; refine (HLK1.out wr hrel.out.1 hrel.out.2.1).mono ?_; rintro e w1 ⟨rfl, hb⟩; have HB1 := hide (hrel.out.1.below hb); clear hb)
        go_ret2
        refine ⟨?_, HB1.out.1⟩
        rw [HV.out]; rfl
      | false =>
        rw [hh] at hhs
        have hne := y2 hh
        have hon := y3 hh
        obtain ⟨u1, hu1⟩ : ∃ u, u = U - 1 := ⟨_, rfl⟩
        obtain ⟨lf, hlf⟩ : ∃ u, u = 18446744073709551615 - T := ⟨_, rfl⟩
        have f1 : IntKind.u64.wrap ((U : Int) - 1) = (u1 : Int) := wrapU (by omega) (by omega)
        have f2 : IntKind.u64.wrap (18446744073709551615 - (T : Int)) = (lf : Int) := wrapU (by omega) (by omega)
        have hcond : PB = false ∨ (PB = true ∧ ((PT : Int) == (p : Int)) = false) := by
          cases PB with
          | false => exact .inl rfl
          | true =>
            right
            refine ⟨rfl, ?_⟩
            have : (PT == p) = false := by simpa using hhs.symm
            rw [beq_eq_false_iff_ne] at this ⊢
            omega
        by_cases hend : T + U = 18446744073709551616
        · have e3 : ((u1 : Int) == (lf : Int)) = true := by rw [beq_iff_eq]; omega
          have HV : Hid (nextK c.frame l p st t = none) := hide (by rw [← hNX, hne hend])
          clear y1 y2 y3 hne hon hNX hub hhs hh hT hu1 hlf hend
          rcases hcond with rfl | ⟨rfl, e0⟩
          all_goals
            go_wp2_with (first
              | (go_at_call 15; refine (HLK1.out wr hrel.out.1 hrel.out.2.1).mono ?_; rintro e w1 ⟨rfl, hb⟩; have HB1 := hide (hrel.out.1.below hb); clear hb b0 b1 b2 b3 b4 b5; obtain ⟨b0, b1, b2, b3, b4, b5⟩ := HBC.out w1 HB1.out)
              | (go_at_call 20; refine (HUN1.out w1 HB1.out hrel.out.2.1).mono ?_; rintro e w2 ⟨rfl, hb⟩; have HB2 := hide (HB1.out.below hb); clear hb b0 b1 b2 b3 b4 b5)
              | (go_at_call 35; refine (HTP.out _).mono ?_; rintro e w3 ⟨rfl, rfl⟩))
            go_ret2
            refine ⟨?_, HB2.out.1⟩
            rw [HV.out]; rfl
        · obtain ⟨T2, hT2⟩ : ∃ u, u = T + U := ⟨_, rfl⟩
          have e3 : ((u1 : Int) == (lf : Int)) = false := by rw [beq_eq_false_iff_ne]; omega
          have f3 : IntKind.u64.wrap ((T : Int) + (U : Int)) = (T2 : Int) := wrapU (by omega) (by omega)
          have HV : Hid (T2 < 18446744073709551616 ∧ nextK c.frame l p (st - (k + 1)) T2 = nextK c.frame l p st t) := hide ⟨by omega, by rw [← hNX, hon hend, hT2]; congr 1; have := HMM.out; omega⟩
          clear y1 y2 y3 hne hon hNX hub hhs hh hT hu1 hlf hend hT2
          rcases hcond with rfl | ⟨rfl, e0⟩
          all_goals
            go_wp2_with (first
              | (go_at_call 15; refine (HLK1.out wr hrel.out.1 hrel.out.2.1).mono ?_; rintro e w1 ⟨rfl, hb⟩; have HB1 := hide (hrel.out.1.below hb); clear hb b0 b1 b2 b3 b4 b5; obtain ⟨b0, b1, b2, b3, b4, b5⟩ := HBC.out w1 HB1.out)
              | (go_at_call 20; refine (HUN1.out w1 HB1.out hrel.out.2.1).mono ?_; rintro e w2 ⟨rfl, hb⟩; have HB2 := hide (HB1.out.below hb); clear hb b0 b1 b2 b3 b4 b5)
              | (go_at_call 35; refine (HTP.out _).mono ?_; rintro e w3 ⟨rfl, rfl⟩))
            go_roundw
            case rel => first | exact ⟨k + 1, T2, by omega, by go_num, rfl, hide ⟨HB2.out, HV.out⟩⟩ | ((repeat apply Exists.intro); exact ⟨⟨k + 1, T2, by omega, by go_num, rfl, hide ⟨HB2.out, HV.out⟩⟩, rfl⟩)
            case measure => simp [intOf]; omega
    · have hkn : k = st := by omega
      subst hkn
      have HV : Hid (nextK c.frame l p k t = none) := hide (by rw [← hrel.out.2.2, Nat.sub_self]; rfl)
      clear hlt hk
      go_wp2
      go_ret2
      refine ⟨?_, hrel.out.1.1⟩
      rw [HV.out]; rfl
end Go.Proofs.YtmphookgaopdlaaGreat
