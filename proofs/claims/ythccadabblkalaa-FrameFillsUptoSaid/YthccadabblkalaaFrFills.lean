/- The walk of the law FrameFills (chapter 15). -/
import Derived.Test.YthccadabblkalaaFrFillC
import Derived.Laws.EntriesVeiled
namespace Go.Proofs.Ythccadabblkalaa
open Go.RowKit Go.Sort Go.Shelf
attribute [local go_sem] Oper.semAt_some
set_option linter.unusedVariables false

theorem take_sum (l : List WinR) (k : Nat) (hk : k < l.length) : (lenW (l.take k) % 18446744073709551616 + l[k].len) % 18446744073709551616 = lenW (l.take (k + 1)) % 18446744073709551616 := by
  rw [List.take_succ_eq_append_getElem hk, lenW_snoc, Nat.mod_add_mod]
theorem take_gsum (a : Nat) (l : List (Nat × Nat)) (k : Nat) (hk : k < l.length) : ((a + lenSum (l.take k)) % 18446744073709551616 + l[k].2) % 18446744073709551616 = (a + lenSum (l.take (k + 1))) % 18446744073709551616 := by
  rw [List.take_succ_eq_append_getElem hk, lenSum_snoc, Nat.mod_add_mod, Nat.add_assoc]
set_option maxRecDepth 100000 in
set_option maxHeartbeats 8000000 in
theorem FrameFills_calls (c : Cfg) (w : World) (h : CfgAt w.heap.size c w) (hok : c.Ok) (hsm : c.Small) :
    Calls Try.prog 6 #[cfgV c] w fun e w' => e = .returned (.bool true) ∧ Below w.heap.size w w' := by
  have HAL := hide (fun W => alive_calls W)
  have HR := hide (fun W (hW : Boxed1 w c W) => right_calls c W (hW.cfg h) hok hsm)
  have hB0 := Boxed1.start w c
  have HBC := hide (fun W (hW : Boxed1 w c W) => hW.cells)
  have HCF := hide (fun W (hW : Boxed1 w c W) => hW.cfg h)
  have HF := hide hok.frame
  have HBU := hide (fun hr p W (hW : Boxed1 w c W) => by
    have := Busy_calls c p W (hW.cfg h) hsm
    rw [(busy_len (c := c) hr HF.out p).1] at this
    exact this)
  have HID := hide (fun hr W (hW : Boxed1 w c W) => Idle_calls c W (hW.cfg h) hok (by have := fill_few hr; omega) (wins_ok hr HF.out) (by have h1 := gaps_len c.frame HF.out (wins_ok hr HF.out); have h2 := fill_few hr; rw [List.length_map] at h1; omega))
  have hcap := h.wins.2
  have hcap2 := h.parts.2
  unfold cfgC at hB0
  have HB0 := hide hB0
  unfold cfgV at HR HBU HID ⊢
  have HRT := hide (fun hr : rightB c = true => hr)
  by_cases hr : rightB c = true
  · have HID2 := hide (HID.out hr)
    have HBU2 := hide (HBU.out hr)
    have HRR := hide hr
    rw [hr] at HR
    have hfew := fill_few hr
    obtain ⟨gs, hgs⟩ : ∃ g, g = gapsR c.frame (c.wins.l.map wsp) := ⟨_, rfl⟩
    rw [← hgs] at HID2
    have hfill := fill_total HF.out (wins_parted hr HF.out) (wins_span hr)
    rw [← lenW_wsp, ← hgs] at hfill
    have HFILL := hide hfill
    obtain ⟨n, hn⟩ : ∃ n, n = c.wins.l.length := ⟨_, rfl⟩
    obtain ⟨wa, hwa⟩ : ∃ a, a = c.wins.a := ⟨_, rfl⟩
    obtain ⟨np, hnp⟩ : ∃ n, n = c.parts.l.length := ⟨_, rfl⟩
    obtain ⟨pa, hpa⟩ : ∃ a, a = c.parts.a := ⟨_, rfl⟩
    obtain ⟨ng, hng⟩ : ∃ n, n = gs.length := ⟨_, rfl⟩
    have hnI : (n : Int) ≤ 120 := by omega
    have hngI : (ng : Int) ≤ 121 := by
      have := gaps_len c.frame HF.out (wins_ok hr HF.out)
      rw [List.length_map, ← hgs] at this
      omega
    have hcI : (n : Int) ≤ (c.wins.c : Int) := by omega
    have hpI : (np : Int) ≤ 1048576 := by unfold Cfg.Small at hsm; omega
    have hqI : (np : Int) ≤ (c.parts.c : Int) := by omega
    have hpc : (c.parts.c : Int) ≤ 9223372036854775807 := by omega
    have HN := hide hn
    have HWA := hide hwa
    have HNP := hide hnp
    have HPA := hide hpa
    have HNG := hide hng
    unfold WinsV at HID2
    rw [List.length_map, ← hng] at HID2
    rw [← hn, ← hwa, ← hnp, ← hpa] at HBC hB0 HB0 HR HBU2 HID2 ⊢
    clear h hok hsm hB0 hcap hcap2 hgs hfill hn hwa hnp hpa hng HBU HID hr hfew HRT
    go_enter Try.func6, Try.ntmps6
    go_wp2_with (go_at_call 11; refine (HR.out _ HB0.out).mono ?_; rintro e w1 ⟨rfl, hb⟩; have HB1 := hide (HB0.out.below hb); clear hb; obtain ⟨b0, b1, b2, b3, b4, b5⟩ := HBC.out w1 HB1.out)
    clear b0 b1 b2 b3 b4 b5
    go_loopw [3, 18] (fun s v wr => ∃ k m : Nat, k ≤ n ∧ v = .int .i64 (k : Int) ∧ s = .int .u64 (m : Int) ∧ Hid (Boxed1 w c wr ∧ m = lenW (c.wins.l.take k) % 18446744073709551616)) (fun _ v _ => n - (intOf v).toNat)
    case atStart => exact ⟨0, 0, Nat.zero_le _, rfl, rfl, hide ⟨HB1.out, rfl⟩⟩
    case round =>
      obtain ⟨k, m, hk, rfl, rfl, hrel⟩ := hrel
      by_cases hlt : k < n
      · have hlt2 : (k : Int) < (n : Int) := by omega
        have hkl : k < c.wins.l.length := by have := HN.out; omega
        obtain ⟨b, o, ha, hab, x0, x1, x2⟩ := win_at (HCF.out wr hrel.out.1).wins k hkl
        obtain rfl : wa = some ⟨b, o, none⟩ := HWA.out.trans ha
        have hz := hrel.out.1.2.lt
        have hsum := wrap_add m c.wins.l[k].len
        rw [hrel.out.2, take_sum c.wins.l k hkl, ← hrel.out.2] at hsum
        have HB2 := hide hrel.out.1
        have HHA := hide ha
        obtain ⟨m2, hm2⟩ : ∃ m2, m2 = lenW (c.wins.l.take (k + 1)) % 18446744073709551616 := ⟨_, rfl⟩
        rw [← hm2] at hsum
        have HM2 := hide hm2
        generalize c.wins.l[k] = x at *
        obtain ⟨lo, len, part⟩ := x
        simp only at x0 x1 x2 hsum
        clear ha hab hrel hm2
        go_wp2
        go_roundw
        case rel => exact ⟨k + 1, m2, by omega, by go_num, rfl, hide ⟨HB2.out.alloc _, HM2.out⟩⟩
        case measure => simp [intOf]; omega
      · have hkn : k = n := by omega
        subst hkn
        have HM : Hid (m = lenW c.wins.l % 18446744073709551616) := hide (by have := hrel.out.2; rwa [List.take_of_length_le (by rw [HN.out]; exact Nat.le_refl _)] at this)
        have HB2 := hide hrel.out.1
        obtain ⟨b0, b1, b2, b3, b4, b5⟩ := HBC.out wr HB2.out
        clear hlt hk hrel
        go_wp2_with (go_at_call 17; refine (HID2.out _ HB2.out).mono ?_; rintro e w2 ⟨ga, gcap, rfl, hown, hb⟩; have HB3 := hide (HB2.out.below hb); have HO := hide hown; clear hb hown)
        have HM0 : Hid (m = lenW c.wins.l) := hide (by rw [HM.out, Nat.mod_eq_of_lt]; have := HFILL.out; have := HF.out; omega)
        obtain ⟨wo, rfl⟩ : ∃ wo : World, wo = w2 := ⟨_, rfl⟩
        clear b0 b1 b2 b3 b4 b5 HM HB2 HID2
        go_loopw [3, 31] (fun s v wr => ∃ k m : Nat, k ≤ ng ∧ v = .int .i64 (k : Int) ∧ s = .int .u64 (m : Int) ∧ Hid (Boxed1 w c wr ∧ Below wo.heap.size wo wr ∧ m = (lenW c.wins.l + lenSum (gs.take k)) % 18446744073709551616)) (fun _ v _ => ng - (intOf v).toNat)
        case atStart => exact ⟨0, m, Nat.zero_le _, rfl, rfl, hide ⟨HB3.out, Below.refl _ _, by rw [HM0.out, Nat.mod_eq_of_lt]; rfl; show lenW c.wins.l + 0 < _; have := HFILL.out; have := HF.out; omega⟩⟩
        case round =>
          obtain ⟨j, q, hk, rfl, rfl, hrel⟩ := hrel
          by_cases hlt : j < ng
          · have hlt2 : (j : Int) < (ng : Int) := by omega
            have hkl : j < gs.length := by have := HNG.out; omega
            obtain ⟨g, rfl, _, hgc, hgl, hcell⟩ := own_cells (enc := winL) winL_len (own_below HO.out hrel.out.2.1) (by rw [List.length_map]; exact HNG.out.symm) j (by rw [List.length_map]; exact hkl)
            have hcI2 : (ng : Int) ≤ (gcap : Int) := by omega
            have hgk : (gs.map idW)[j]'(by rw [List.length_map]; exact hkl) = ⟨gs[j].1, gs[j].2, 0⟩ := by rw [List.getElem_map]; rfl
            rw [hgk] at hcell
            have x0 : wr.cell? ⟨g, j * 3, none⟩ = some (.int .u64 (gs[j].1 : Int)) := hcell 0 (by omega)
            have x1 : wr.cell? ⟨g, j * 3 + 1, none⟩ = some (.int .u64 (gs[j].2 : Int)) := hcell 1 (by omega)
            have x2 : wr.cell? ⟨g, j * 3 + 2, none⟩ = some (.int .u16 0) := hcell 2 (by omega)
            have hz := hrel.out.1.2.lt
            have hzg := cell_lt x0
            have hsum := wrap_add q gs[j].2
            rw [hrel.out.2.2, take_gsum _ gs j hkl, ← hrel.out.2.2] at hsum
            have HB2 := hide hrel.out.1
            have HW2 := hide hrel.out.2.1
            obtain ⟨m2, hm2⟩ : ∃ m2, m2 = (lenW c.wins.l + lenSum (gs.take (j + 1))) % 18446744073709551616 := ⟨_, rfl⟩
            rw [← hm2] at hsum
            have HM2 := hide hm2
            generalize gs[j] = x at *
            obtain ⟨lo, len⟩ := x
            simp only at x0 x1 hsum
            clear hrel hm2 hcell hgk
            go_wp2
            go_roundw
            case rel => exact ⟨j + 1, m2, by omega, by go_num, rfl, hide ⟨HB2.out.alloc _, HW2.out.alloc HW2.out.size _, HM2.out⟩⟩
            case measure => simp [intOf]; omega
          · have hkn : j = ng := by omega
            subst hkn
            have HMF : Hid (((q : Int) == (c.frame : Int)) = true) := hide (by
              have := hrel.out.2.2
              rw [List.take_of_length_le (by rw [HNG.out]; exact Nat.le_refl _), HFILL.out, Nat.mod_eq_of_lt HF.out] at this
              rw [this]; exact beq_self_eq_true _)
            have HB2 := hide hrel.out.1
            obtain ⟨b0, b1, b2, b3, b4, b5⟩ := HBC.out wr HB2.out
            clear hlt hk hrel HO HB3
            go_wp2
            clear b0 b1 b2 b3 b4 b5
            go_loopw [6, 43] (fun s v wr => ∃ k mb : Nat, k ≤ np ∧ v = .int .i64 (k : Int) ∧ s = .int .u64 (mb : Int) ∧ Hid (Boxed1 w c wr ∧ mb = lenW c.wins.l - lenP c.wins.l ((ids c.parts.l).take k))) (fun _ v _ => np - (intOf v).toNat)
            case atStart => exact ⟨0, m, Nat.zero_le _, rfl, rfl, hide ⟨HB2.out, by rw [HM0.out, List.take_zero, lenP_nil, Nat.sub_zero]⟩⟩
            case round =>
              clear HB2
              obtain ⟨i, mb, hi, rfl, rfl, hrel⟩ := hrel
              by_cases hlt : i < np
              · have hlt2 : (i : Int) < (np : Int) := by omega
                have hil : i < c.parts.l.length := by have := HNP.out; omega
                obtain ⟨b, o, ha, hab, y0, y1, y2, y3⟩ := part_at (HCF.out wr hrel.out.1).parts i hil
                obtain rfl : pa = some ⟨b, o, none⟩ := HPA.out.trans ha
                have hz := hrel.out.1.2.lt
                have hid : (ids c.parts.l).take (i + 1) = (ids c.parts.l).take i ++ [c.parts.l[i].id] := by
                  rw [List.take_succ_eq_append_getElem (by unfold ids; rw [List.length_map]; exact hil)]
                  congr 2
                  unfold ids
                  rw [List.getElem_map]
                have HCT := hide (fun W (hW : Below wr.heap.size wr W) cc B (hB : W.cell? ⟨B, 0, none⟩ = some (.int .u16 (c.parts.l[i].id : Int))) => Ctn_calls c.parts.l i cc b o B c.parts.l[i].id W (by omega) (by omega) (by have := hW.size; omega)
                  (fun x hx j hj => by
                    obtain ⟨b', o', ha', _, hc'⟩ := ((HCF.out wr hrel.out.1).parts.below hW).at_ partL_len (by omega) x hx
                    rw [ha] at ha'
                    injection ha' with ha'
                    injection ha' with h1 h2 _
                    rw [h1, h2]
                    exact hc' j hj) hB)
                have HB2 := hide hrel.out.1
                have hmb := hrel.out.2
                have hfl : lenP c.wins.l ((ids c.parts.l).take (i + 1)) ≤ lenW c.wins.l := lenW_filter _ _
                have hS : lenW c.wins.l < 18446744073709551616 := by have := HFILL.out; have := HF.out; omega
                have HHA := hide ha
                by_cases hmem : c.parts.l[i].id ∈ (ids c.parts.l).take i
                · have HMB : Hid (mb = lenW c.wins.l - lenP c.wins.l ((ids c.parts.l).take (i + 1))) := hide (by rw [hid, lenP_in hmem]; exact hmb)
                  rw [decide_eq_true hmem] at HCT
                  generalize c.parts.l[i] = p at *
                  obtain ⟨id, nm, per, dur⟩ := p
                  simp only at y0 y1 y2 y3 HCT
                  clear ha hab hrel hid hmem hmb hfl hS
                  obtain ⟨b0, b1, b2, b3, b4, b5⟩ := HBC.out wr HB2.out
                  go_wp2_with (go_at_call 18; refine (HCT.out _ ((Below.refl _ wr).alloc (Nat.le_refl _) _) _ _ ((Blk.new wr _ _).cell 0)).mono ?_; rintro e w3 ⟨rfl, hb⟩; have HB3 := hide ((HB2.out.alloc _).below hb); clear hb)
                  go_roundw
                  case rel => exact ⟨i + 1, mb, by omega, by go_num, rfl, hide ⟨HB3.out, HMB.out⟩⟩
                  case measure => simp [intOf]; omega
                · have hnew := lenP_new hmem c.wins.l
                  rw [← hid] at hnew
                  have hsub := wrap_sub mb (lenO c.wins.l c.parts.l[i].id) (by omega) (by omega)
                  obtain ⟨mb2, hmb2⟩ : ∃ m, m = mb - lenO c.wins.l c.parts.l[i].id := ⟨_, rfl⟩
                  have HMB : Hid (mb2 = lenW c.wins.l - lenP c.wins.l ((ids c.parts.l).take (i + 1))) := hide (by rw [hmb2, hmb]; omega)
                  rw [← hmb2] at hsub
                  rw [decide_eq_false hmem] at HCT
                  have HBP := hide (HBU2.out c.parts.l[i].id)
                  generalize lenO c.wins.l c.parts.l[i].id = bp at *
                  generalize c.parts.l[i] = p at *
                  obtain ⟨id, nm, per, dur⟩ := p
                  simp only at y0 y1 y2 y3 HCT HBP
                  clear ha hab hrel hid hmem hmb hfl hS hmb2 hnew HBU2
                  obtain ⟨b0, b1, b2, b3, b4, b5⟩ := HBC.out wr HB2.out
                  go_wp2_with (first
                    | (go_at_call 18; refine (HCT.out _ ((Below.refl _ wr).alloc (Nat.le_refl _) _) _ _ ((Blk.new wr _ _).cell 0)).mono ?_; rintro e w3 ⟨rfl, hb⟩; have HB3 := hide ((HB2.out.alloc _).below hb); have hpid : w3.cell? ⟨wr.heap.size, 0, none⟩ = some (.int .u16 (id : Int)) := (hb.cell (p := ⟨wr.heap.size, 0, none⟩) (by simp)).trans ((Blk.new wr _ _).cell 0); clear hb b0 b1 b2 b3 b4 b5; obtain ⟨b0, b1, b2, b3, b4, b5⟩ := HBC.out w3 HB3.out)
                    | (go_at_call 14; refine (HBP.out _ HB3.out).mono ?_; rintro e w4 ⟨rfl, hb⟩; have HB4 := hide (HB3.out.below hb); clear hb))
                  go_roundw
                  case rel => exact ⟨i + 1, mb2, by omega, by go_num, rfl, hide ⟨HB4.out, HMB.out⟩⟩
                  case measure => simp [intOf]; omega
              · have hin : i = np := by omega
                subst hin
                have hz0 : ((mb : Int) == 0) = true := by
                  have := hrel.out.2
                  rw [List.take_of_length_le (by unfold ids; rw [List.length_map, HNP.out]; exact Nat.le_refl _), lenP_all _ (part_in HRR.out), Nat.sub_self] at this
                  rw [this]; rfl
                have hmf := HMF.out
                have HB2 := hide hrel.out.1
                clear hlt hi hrel
                go_wp2_with (go_at_call 8; refine (HAL.out _).mono ?_; rintro e w4 ⟨rfl, hb⟩; have HB4 := hide (HB2.out.below hb); clear hb; obtain ⟨b0, b1, b2, b3, b4, b5⟩ := HBC.out w4 HB4.out)
                go_ret
                exact ⟨rfl, HB4.out.1⟩
  · have hrf : rightB c = false := by simpa using hr
    rw [hrf] at HR
    clear h hok hsm hB0 hcap hcap2 HID HBU HRT hr hrf
    go_enter Try.func6, Try.ntmps6
    go_wp2_with (first
      | (go_at_call 11; refine (HR.out _ HB0.out).mono ?_; rintro e w1 ⟨rfl, hb⟩; have HB1 := hide (HB0.out.below hb); clear hb)
      | (go_at_call 8; refine (HAL.out _).mono ?_; rintro e w2 ⟨rfl, hb⟩; have HB2 := hide (HB1.out.below hb); clear hb))
    go_ret
    exact ⟨rfl, HB2.out.1⟩
end Go.Proofs.Ythccadabblkalaa
