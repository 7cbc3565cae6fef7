/- The walks of the reference's Counts and Few (chapter 5). -/
import Derived.Test.YtkhcdnehfiopgaaFrRef1
namespace Go.Proofs.Ytkhcdnehfiopgaa
open Go.RowKit Go.Sort
set_option linter.unusedVariables false

theorem links_take (l : List ChanR) (k : Nat) (h : k < l.length) : linksN (l.take (k + 1)) = linksN (l.take k) + l[k].dests.length := by
  unfold linksN
  rw [List.take_succ_eq_append_getElem h, List.map_append, List.sum_append]; simp
theorem links_le (l : List ChanR) (k : Nat) : linksN (l.take k) ≤ linksN l := by
  unfold linksN
  conv => rhs; rw [← List.take_append_drop k l, List.map_append, List.sum_append]
  omega
def countsV (c : Cfg) : Value := .agg #[.int .i64 0, .int .i64 (c.parts.l.length : Int), .int .i64 (c.wins.l.length : Int), .int .i64 (c.regs.l.length : Int), .int .i64 (c.ports.l.length : Int), .int .i64 (c.chans.l.length : Int), .int .i64 (linksN c.chans.l : Int)]
set_option maxRecDepth 100000 in
set_option maxHeartbeats 2000000 in
theorem Counts_calls (c : Cfg) (w : World) (h : CfgAt w.heap.size c w) (hsm : c.Small) :
    Calls Try.prog 42 #[cfgV c] w fun e w' => e = .returned (countsV c) ∧ Below w.heap.size w w' := by
  have hp := h.chans
  have hcap := hp.2
  unfold Cfg.Small at hsm
  obtain ⟨fr, ⟨pl, pa, pc⟩, ⟨wl, wa, wc⟩, ⟨rl, ra, rc⟩, ⟨ql, qa, qc⟩, ⟨cl, ca, cc⟩⟩ := c
  unfold cfgV countsV
  simp only at hp hcap hsm ⊢
  obtain ⟨n, hn⟩ : ∃ n, n = cl.length := ⟨_, rfl⟩
  rw [← hn] at hcap hsm ⊢
  have hnI : (n : Int) ≤ 1048576 := by omega
  have hcI : (n : Int) ≤ (cc : Int) := by omega
  obtain ⟨L, hL⟩ : ∃ L, L = linksN cl := ⟨_, rfl⟩
  rw [← hL] at hsm ⊢
  have HL := hide hL
  have hLI : (L : Int) ≤ 1048576 := by omega
  have HN := hide hn
  have HB : Hid (Below w.heap.size w ((w.alloc (.cells #[.int .u64 (fr : Int), .slice pa pl.length pc, .slice wa wl.length wc, .slice ra rl.length rc, .slice qa ql.length qc, .slice ca n cc] 29)).alloc (.cells #[.int .i64 0, .int .i64 0, .int .i64 0, .int .i64 0, .int .i64 0, .int .i64 0, .int .i64 0] 70))) := hide (((Below.refl _ w).alloc (Nat.le_refl _) _).alloc (by simp) _)
  have HP := hide (hp.below HB.out)
  generalize pl.length = pn at *
  generalize wl.length = wn at *
  generalize rl.length = rn at *
  generalize ql.length = qn at *
  clear h hp hcap hn hL
  go_enter Try.func42, Try.ntmps42
  go_wp2
  go_loop [3, 4] (fun s v => ∃ k m : Nat, k ≤ n ∧ m ≤ L ∧ v = .int .i64 (k : Int) ∧ s = .int .i64 (m : Int) ∧ Hid (m = linksN (cl.take k))) (fun _ v => n - (intOf v).toNat)
  case atStart => exact ⟨0, 0, Nat.zero_le _, Nat.zero_le _, rfl, rfl, hide rfl⟩
  case round =>
    obtain ⟨k, m, hk, hm, rfl, rfl, hrel⟩ := hrel
    by_cases hlt : k < n
    · have hlt2 : (k : Int) < (n : Int) := by omega
      have hkl : k < cl.length := by have := HN.out; omega
      obtain ⟨b, o, rfl, hab, _, _, x2⟩ := chan_at HP.out k hkl
      have hst := links_take cl k hkl
      rw [← hrel.out] at hst
      have hle := links_le cl (k + 1)
      rw [← HL.out, hst] at hle
      simp only at x2
      have hdm : cl[k].dests.length ≤ 1048576 := by omega
      generalize cl[k].dests.length = d at *
      generalize cl[k].at_ = da at *
      generalize cl[k].cap = dc at *
      have HST := hide hst
      clear hst
      go_wp2
      go_round
      case rel => exact ⟨k + 1, m + d, by omega, by omega, by go_num, by go_num, hide HST.out.symm⟩
      case measure => simp [intOf]; omega
    · have hkn : k = n := by omega
      subst hkn
      clear hlt hk
      have hmL : m = L := by rw [hrel.out, HL.out, List.take_of_length_le (by rw [HN.out]; exact Nat.le_refl _)]
      subst hmL
      go_wp2
      refine bodyPost_ret (v := .agg #[.int .i64 0, .int .i64 (pn : Int), .int .i64 (wn : Int), .int .i64 (rn : Int), .int .i64 (qn : Int), .int .i64 (k : Int), .int .i64 (m : Int)]) (by simp [results, Try.results42, go_sem]) rfl ⟨rfl, ?_⟩
      exact ((Below.refl _ w).alloc (Nat.le_refl _) _).alloc (by simp) _
def sumN (c : Cfg) : Nat := c.parts.l.length + c.wins.l.length + c.regs.l.length + c.ports.l.length + c.chans.l.length + linksN c.chans.l
def shortP (p : PartR) : Bool := decide (p.name.size ≤ 100)
def shortQ (p : PortR) : Bool := decide (p.name.size ≤ 100)
def fewB (c : Cfg) : Bool := c.parts.l.all shortP && c.ports.l.all shortQ && decide (sumN c ≤ 120)
theorem all_take {α : Type} (f : α → Bool) (l : List α) (k : Nat) (h : k < l.length) : (l.take (k + 1)).all f = ((l.take k).all f && f l[k]) := by
  rw [List.take_succ_eq_append_getElem h, List.all_append]; simp
theorem all_false {α : Type} {f : α → Bool} {l : List α} {k : Nat} (h : k < l.length) (hf : f l[k] = false) : l.all f = false := by
  rw [List.all_eq_false]
  exact ⟨l[k], List.getElem_mem _, by rw [hf]; simp⟩
theorem cfg_cells {W : World} {g : Nat} {c0 c1 c2 c3 c4 c5 : Value} {t : TypeId} (h : Blk W g t #[c0, c1, c2, c3, c4, c5]) :
    W.cell? ⟨g, 0, none⟩ = some c0 ∧ W.cell? ⟨g, 1, none⟩ = some c1 ∧ W.cell? ⟨g, 2, none⟩ = some c2 ∧ W.cell? ⟨g, 3, none⟩ = some c3 ∧ W.cell? ⟨g, 4, none⟩ = some c4 ∧ W.cell? ⟨g, 5, none⟩ = some c5 :=
  ⟨h.cell 0, h.cell 1, h.cell 2, h.cell 3, h.cell 4, h.cell 5⟩
set_option maxRecDepth 100000 in
set_option maxHeartbeats 4000000 in
theorem Few_calls (c : Cfg) (w : World) (h : CfgAt w.heap.size c w) (hok : c.Ok) (hsm : c.Small) :
    Calls Try.prog 25 #[cfgV c] w fun e w' => e = .returned (.bool (fewB c)) ∧ Below w.heap.size w w' := by
  have hw0 := (Below.refl w.heap.size w).alloc (Nat.le_refl _) (.cells #[.int .u64 (c.frame : Int), .slice c.parts.a c.parts.l.length c.parts.c, .slice c.wins.a c.wins.l.length c.wins.c, .slice c.regs.a c.regs.l.length c.regs.c, .slice c.ports.a c.ports.l.length c.ports.c, .slice c.chans.a c.chans.l.length c.chans.c] 29)
  have HC := hide (Counts_calls c _ (CfgAt.more (h.below hw0) hw0.size) hsm)
  have HW0 := hide hw0
  have HBX := hide (Blk.new w 29 #[.int .u64 (c.frame : Int), .slice c.parts.a c.parts.l.length c.parts.c, .slice c.wins.a c.wins.l.length c.wins.c, .slice c.regs.a c.regs.l.length c.regs.c, .slice c.ports.a c.ports.l.length c.ports.c, .slice c.chans.a c.chans.l.length c.chans.c])
  have hp := h.parts
  have hq := h.ports
  have hcp := hp.2
  have hcq := hq.2
  obtain ⟨R, hR⟩ : ∃ R, R = fewB c := ⟨_, rfl⟩
  rw [← hR]
  unfold fewB sumN at hR
  have HOP := hide hok.parts
  have HOQ := hide hok.ports
  unfold Cfg.Small at hsm
  obtain ⟨fr, ⟨pl, pa, pc⟩, ⟨wl, wa, wc⟩, ⟨rl, ra, rc⟩, ⟨ql, qa, qc⟩, ⟨cl, ca, cc⟩⟩ := c
  unfold countsV cfgV at HC
  unfold cfgV
  simp only at hp hq hcp hcq hsm HC HW0 HBX hR HOP HOQ ⊢
  obtain ⟨n, hn⟩ : ∃ n, n = pl.length := ⟨_, rfl⟩
  obtain ⟨m, hm⟩ : ∃ m, m = ql.length := ⟨_, rfl⟩
  rw [← hn] at hcp hsm HC HW0 HBX hR ⊢
  rw [← hm] at hcq hsm HC HW0 HBX hR ⊢
  have hnI : (n : Int) ≤ 1048576 := by omega
  have hcI : (n : Int) ≤ (pc : Int) := by omega
  have hmI : (m : Int) ≤ 1048576 := by omega
  have hcJ : (m : Int) ≤ (qc : Int) := by omega
  have HR := hide hR
  have HN := hide hn
  have HM := hide hm
  have HP := hide hp
  have HQ := hide hq
  generalize wl.length = wn at *
  generalize rl.length = rn at *
  generalize cl.length = cn at *
  generalize linksN cl = L at *
  have hI1 : (wn : Int) ≤ 1048576 := by omega
  have hI2 : (rn : Int) ≤ 1048576 := by omega
  have hI3 : (cn : Int) ≤ 1048576 := by omega
  have hI4 : (L : Int) ≤ 1048576 := by omega
  clear h hw0 hp hq hcp hcq hok hR hn hm hsm
  go_enter Try.func25, Try.ntmps25
  go_wp2_with (go_at_call 42; refine HC.out.mono ?_; rintro e w1 ⟨rfl, hb⟩; have HB1 := hide (HW0.out.trans (hb.mono HW0.out.size)); have HX1 := hide (HBX.out.below hb (by simp)); have hlt : w.heap.size < w1.heap.size := HX1.out.lt; clear hb)
  have hx2 := HX1.out.alloc (.cells #[.int .i64 0, .int .i64 (n : Int), .int .i64 (wn : Int), .int .i64 (rn : Int), .int .i64 (m : Int), .int .i64 (cn : Int), .int .i64 (L : Int)] 70)
  have hy2 := Blk.new w1 70 #[.int .i64 0, .int .i64 (n : Int), .int .i64 (wn : Int), .int .i64 (rn : Int), .int .i64 (m : Int), .int .i64 (cn : Int), .int .i64 (L : Int)]
  have HB2 := hide (HB1.out.alloc (by omega) (.cells #[.int .i64 0, .int .i64 (n : Int), .int .i64 (wn : Int), .int .i64 (rn : Int), .int .i64 (m : Int), .int .i64 (cn : Int), .int .i64 (L : Int)] 70))
  generalize w1.alloc (.cells #[.int .i64 0, .int .i64 (n : Int), .int .i64 (wn : Int), .int .i64 (rn : Int), .int .i64 (m : Int), .int .i64 (cn : Int), .int .i64 (L : Int)] 70) = W2 at *
  obtain ⟨_, b1, _, _, b4, _⟩ := cfg_cells hx2
  have a1 : W2.cell? ⟨w1.heap.size, 1, none⟩ = some (.int .i64 (n : Int)) := hy2.cell 1
  have a2 : W2.cell? ⟨w1.heap.size, 2, none⟩ = some (.int .i64 (wn : Int)) := hy2.cell 2
  have a3 : W2.cell? ⟨w1.heap.size, 3, none⟩ = some (.int .i64 (rn : Int)) := hy2.cell 3
  have a4 : W2.cell? ⟨w1.heap.size, 4, none⟩ = some (.int .i64 (m : Int)) := hy2.cell 4
  have a5 : W2.cell? ⟨w1.heap.size, 5, none⟩ = some (.int .i64 (cn : Int)) := hy2.cell 5
  have a6 : W2.cell? ⟨w1.heap.size, 6, none⟩ = some (.int .i64 (L : Int)) := hy2.cell 6
  clear hx2 hy2 HX1 HB1
  go_loop [4] (fun v => ∃ k : Nat, k ≤ n ∧ v = .int .i64 (k : Int) ∧ Hid ((pl.take k).all shortP = true)) (fun v => n - (intOf v).toNat)
  case atStart => exact ⟨0, Nat.zero_le _, rfl, hide (by simp)⟩
  case round =>
    obtain ⟨k, hk, rfl, hrel⟩ := hrel
    by_cases hlt : k < n
    · have hlt2 : (k : Int) < (n : Int) := by omega
      have hkl : k < pl.length := by have := HN.out; omega
      obtain ⟨b, o, rfl, hab, _, x1, _, _⟩ := part_at (HP.out.below HB2.out) k hkl
      have hat := all_take shortP pl k hkl
      have hnm := (HOP.out pl[k] (List.getElem_mem _)).2.1
      rw [hrel.out, Bool.true_and] at hat
      have hfl : shortP pl[k] = false → pl.all shortP = false := all_false hkl
      unfold shortP at hfl
      rw [show shortP pl[k] = decide (pl[k].name.size ≤ 100) from rfl] at hat
      simp only at x1
      generalize pl[k].name = s at *
      by_cases hs : s.size ≤ 100
      · have e0 : ((100 : Int) < (s.size : Int)) = False := by simp; omega
        have e1 : decide ((100 : Int) < (s.size : Int)) = false := by simp; omega
        have HT : Hid ((pl.take (k + 1)).all shortP = true) := hide (by rw [hat]; simpa using hs)
        clear hat hfl hs e0
        go_wp2
        go_round
        case rel => exact ⟨k + 1, by omega, by go_num, HT⟩
        case measure => simp [intOf]; omega
      · have e1 : decide ((100 : Int) < (s.size : Int)) = true := by simp; omega
        have HT : Hid (false = R) := hide (by rw [HR.out, show pl.all shortP = false from hfl (by simpa using hs)]; rfl)
        clear hat hfl hs
        go_wp2
        go_ret
        exact ⟨ret_b HT.out, HB2.out⟩
    · have hkn : k = n := by omega
      subst hkn
      have HF1 : Hid (pl.all shortP = true) := hide (by rw [← hrel.out, List.take_of_length_le (by rw [HN.out]; exact Nat.le_refl _)])
      clear hlt hk hrel
      go_wp2
      go_loop [5] (fun v => ∃ k : Nat, k ≤ m ∧ v = .int .i64 (k : Int) ∧ Hid ((ql.take k).all shortQ = true)) (fun v => m - (intOf v).toNat)
      case atStart => exact ⟨0, Nat.zero_le _, rfl, hide (by simp)⟩
      case round =>
        obtain ⟨j, hj, rfl, hrel⟩ := hrel
        by_cases hlt : j < m
        · have hlt2 : (j : Int) < (m : Int) := by omega
          have hkl : j < ql.length := by have := HM.out; omega
          obtain ⟨b, o, rfl, hab, _, _, x1, _⟩ := port_at (HQ.out.below HB2.out) j hkl
          have hat := all_take shortQ ql j hkl
          have hnm := (HOQ.out ql[j] (List.getElem_mem _)).2.2.1
          rw [hrel.out, Bool.true_and] at hat
          have hfl : shortQ ql[j] = false → ql.all shortQ = false := all_false hkl
          unfold shortQ at hfl
          rw [show shortQ ql[j] = decide (ql[j].name.size ≤ 100) from rfl] at hat
          simp only at x1
          generalize ql[j].name = s at *
          by_cases hs : s.size ≤ 100
          · have e1 : decide ((100 : Int) < (s.size : Int)) = false := by simp; omega
            have HT : Hid ((ql.take (j + 1)).all shortQ = true) := hide (by rw [hat]; simpa using hs)
            clear hat hfl hs
            go_wp2
            go_round
            case rel => exact ⟨j + 1, by omega, by go_num, HT⟩
            case measure => simp [intOf]; omega
          · have e1 : decide ((100 : Int) < (s.size : Int)) = true := by simp; omega
            have HT : Hid (false = R) := hide (by rw [HR.out, show ql.all shortQ = false from hfl (by simpa using hs), Bool.and_false]; rfl)
            clear hat hfl hs
            go_wp2
            go_ret
            exact ⟨ret_b HT.out, HB2.out⟩
        · have hkn : j = m := by omega
          subst hkn
          have HF2 : Hid (ql.all shortQ = true) := hide (by rw [← hrel.out, List.take_of_length_le (by rw [HM.out]; exact Nat.le_refl _)])
          have HT : Hid (R = decide (k + wn + rn + j + cn + L ≤ 120)) := hide (by rw [HR.out, HF1.out, HF2.out]; rfl)
          clear hlt hj hrel
          go_wp2
          go_ret
          refine ⟨ret_b ?_, HB2.out⟩
          rw [HT.out, Bool.eq_iff_iff]
          simp only [decide_eq_true_eq]
          omega
end Go.Proofs.Ytkhcdnehfiopgaa
