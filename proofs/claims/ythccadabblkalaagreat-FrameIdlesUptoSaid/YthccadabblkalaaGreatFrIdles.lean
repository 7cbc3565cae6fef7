/- The walk of the law FrameIdles (chapter 15). -/
import Derived.Test.YthccadabblkalaaGreatFrSort
import Derived.Test.YthccadabblkalaaGreatFrRIdle
import Derived.Test.YthccadabblkalaaGreatFrOrder
import Derived.Test.YthccadabblkalaaGreatFrEq
import Derived.Test.YthccadabblkalaaGreatSdRight
namespace Go.Proofs.YthccadabblkalaaGreat
open Go.RowKit Go.Sort
set_option linter.unusedVariables false

/-- No idle range has a tick of a window. -/
theorem gap_used {c : Cfg} (h : rightB c = true) (hf : c.frame < 18446744073709551616) {s : Nat × Nat} (hs : s ∈ gapsR c.frame (c.wins.l.map wsp)) (p : Nat) : s.1 + s.2 ≤ c.frame ∧ usedL s.1 (s.1 + s.2) (wo c.wins.l p) = 0 := by
  have hsp := wins_span h
  obtain ⟨b1, b3⟩ := gapsR_spec c.frame (c.wins.l.map wsp) (fun s hs => (hsp s hs).1)
  have hin : ∀ t, inS s t → t < c.frame ∧ ∀ x ∈ c.wins.l, ¬ inS (wsp x) t := fun t ht => by
    obtain ⟨h1, h2⟩ := (b3 t).1 ⟨s, hs, ht⟩
    exact ⟨h1, fun x hx hxt => h2 ⟨wsp x, List.mem_map_of_mem hx, hxt⟩⟩
  have h1 := b1.2 s hs
  refine ⟨?_, ?_⟩
  · have := (hin (s.1 + s.2 - 1) ⟨by omega, by omega⟩).1
    omega
  · have key : ∀ y ∈ wo c.wins.l p, ¬ max y.1 s.1 < min y.2 (s.1 + s.2) := by
      intro y hy hlt
      unfold wo at hy
      obtain ⟨x, hx, rfl⟩ := List.mem_map.1 hy
      have hx2 := (List.mem_filter.1 hx).1
      have h3 := hsp (wsp x) (List.mem_map_of_mem hx2)
      have h4 : hiW x = x.st + x.len := by
        unfold hiW
        unfold wsp at h3
        simp only at h3
        exact Nat.mod_eq_of_lt (by omega)
      rw [h4] at hlt
      simp only at hlt
      have h5 := (hin (max x.st s.1) ⟨by omega, by omega⟩).2 x hx2
      unfold inS wsp at h5
      simp only at h5
      omega
    generalize wo c.wins.l p = L at key
    have gen : ∀ (L : List (Nat × Nat)) (n : Nat), (∀ y ∈ L, ¬ max y.1 s.1 < min y.2 (s.1 + s.2)) → L.foldl (usedF s.1 (s.1 + s.2)) n = n := by
      intro L
      induction L with
      | nil => intro n _; rfl
      | cons y L ih =>
        intro n hk
        rw [List.foldl_cons, ih _ (fun z hz => hk z (List.mem_cons_of_mem _ hz))]
        unfold usedF
        rw [if_neg (hk y List.mem_cons_self)]
    exact gen L 0 key
set_option maxRecDepth 100000 in
set_option maxHeartbeats 8000000 in
theorem FrameIdles_calls (c : Cfg) (w : World) (h : CfgAt w.heap.size c w) (hok : c.Ok) (hsm : c.Small) :
    Calls Tryz.prog 3 #[cfgV c] w fun e w' => e = .returned (.bool true) ∧ Below w.heap.size w w' := by
  have HAL := hide (fun W => alive_calls W)
  have HR := hide (fun W (hW : Boxed1 w c W) => right_calls c W (hW.cfg h) hok hsm)
  have hB0 := Boxed1.start w c
  have HBC := hide (fun W (hW : Boxed1 w c W) => hW.cells)
  have HCF := hide (fun W (hW : Boxed1 w c W) => hW.cfg h)
  have HF := hide hok.frame
  have HUS := hide (fun p f t ht W (hW : Boxed1 w c W) => Used_calls c p f t W (hW.cfg h) hsm ht)
  have HID := hide (fun hr W (hW : Boxed1 w c W) => Idle_calls c W (hW.cfg h) hok (by have := fill_few hr; omega) (wins_ok hr HF.out) (by have h1 := gaps_len c.frame HF.out (wins_ok hr HF.out); have h2 := fill_few hr; rw [List.length_map] at h1; omega))
  have HSO := hide (fun (hr : rightB c = true) W (hW : Boxed1 w c W) => Sorted_calls c W (hW.cfg h) (by have := fill_few hr; omega))
  have HOR := hide (fun (hr : rightB c = true) W (hW : Boxed1 w c W) => Order_calls c W (hW.cfg h) (by have := fill_few hr; omega))
  have HRI := hide (fun (hr : rightB c = true) W (hW : Boxed1 w c W) => RIdle_calls c W (fun W2 hW2 => Sorted_calls c W2 (CfgAt.more ((hW.cfg h).below hW2.1) hW2.1.size) (by have := fill_few hr; omega)) HF.out hr)
  have hcap2 := h.parts.2
  unfold cfgC at hB0
  have HB0 := hide hB0
  unfold cfgV at HR HUS HID HSO HOR HRI ⊢
  by_cases hr : rightB c = true
  · have HID2 := hide (HID.out hr)
    have HSO2 := hide (HSO.out hr)
    have HOR2 := hide (HOR.out hr)
    have HRI2 := hide (HRI.out hr)
    have HGU := hide (fun s hs p => gap_used hr HF.out (s := s) hs p)
    have HONE := hide (fun (l m : List WinR) (h1 : l.Perm c.wins.l) (h2 : AscW l) (h3 : m.Perm c.wins.l) (h4 : AscW m) => asc_one (right_sch hr HF.out h1 h2) (right_sch hr HF.out h3 h4) (h1.trans h3.symm))
    rw [hr] at HR
    have hfew := fill_few hr
    obtain ⟨gs, hgs⟩ : ∃ g, g = gapsR c.frame (c.wins.l.map wsp) := ⟨_, rfl⟩
    rw [← hgs] at HID2 HRI2 HGU
    obtain ⟨gw, hgw⟩ : ∃ g, g = gs.map idW := ⟨_, rfl⟩
    rw [← hgw] at HID2 HRI2
    obtain ⟨np, hnp⟩ : ∃ n, n = c.parts.l.length := ⟨_, rfl⟩
    obtain ⟨pa, hpa⟩ : ∃ a, a = c.parts.a := ⟨_, rfl⟩
    obtain ⟨ng, hng⟩ : ∃ n, n = gw.length := ⟨_, rfl⟩
    have hngI : (ng : Int) ≤ 121 := by
      have := gaps_len c.frame HF.out (wins_ok hr HF.out)
      rw [List.length_map, ← hgs] at this
      rw [hng, hgw, List.length_map]
      omega
    have hpI : (np : Int) ≤ 1048576 := by unfold Cfg.Small at hsm; omega
    have hqI : (np : Int) ≤ (c.parts.c : Int) := by omega
    have hpc : (c.parts.c : Int) ≤ 9223372036854775807 := by omega
    have HFEW : Hid (c.wins.l.length ≤ 120) := hide hfew
    have HNP := hide hnp
    have HPA := hide hpa
    have HNG := hide hng
    have HGW := hide hgw
    unfold WinsV at HID2 HRI2
    rw [← hng] at HID2 HRI2
    rw [← hnp, ← hpa] at HBC hB0 HB0 HR HUS HID2 HSO2 HOR2 HRI2 ⊢
    obtain ⟨i0, hi, hz0, hz1, hz2⟩ := info_parts u16_info
    have HII := hide hi
    clear h hok hsm hB0 hcap2 hgs hgw hnp hpa hng hr hfew HID HSO HOR HRI hi
    go_enter Tryz.func3, Tryz.ntmps3
    obtain ⟨b0, b1, b2, b3, b4, b5⟩ := HBC.out _ HB0.out
    go_wp2_with (first
      | (go_at_call 5; refine (HR.out _ HB0.out).mono ?_; rintro e w1 ⟨rfl, hb⟩; have HB1 := hide (HB0.out.below hb); clear hb; clear b0 b1 b2 b3 b4 b5; obtain ⟨b0, b1, b2, b3, b4, b5⟩ := HBC.out w1 HB1.out)
      | (go_at_call 7; refine (HID2.out _ HB1.out).mono ?_; rintro e w2 ⟨ga, gcap, rfl, hown, hb⟩; have HB2 := hide (HB1.out.below hb); have HO := hide hown; clear hb hown; clear b0 b1 b2 b3 b4 b5; obtain ⟨b0, b1, b2, b3, b4, b5⟩ := HBC.out w2 HB2.out)
      | (go_at_call 8; refine (HSO2.out _ HB2.out).mono ?_; rintro e w3 ⟨out, hp, ha, sa, scap, rfl, hown, hb⟩; have HB3 := hide (HB2.out.below hb); have HO3 := hide hown; have HP := hide hp; have HA := hide ha; have HOO := hide (own_below HO.out hb); clear hb hown hp ha; clear b0 b1 b2 b3 b4 b5; obtain ⟨b0, b1, b2, b3, b4, b5⟩ := HBC.out w3 HB3.out))
    clear b0 b1 b2 b3 b4 b5
    obtain ⟨n, hn⟩ : ∃ n, n = out.length := ⟨_, rfl⟩
    have hnI : (n : Int) ≤ 120 := by have := HFEW.out; have := HP.out.length_eq; omega
    have HN := hide hn
    rw [← hn] at HO3 ⊢
    clear hn
    obtain ⟨wo, rfl⟩ : ∃ wo : World, wo = w3 := ⟨_, rfl⟩
    go_loopw [4, 20] (fun o v wr => ∃ (k : Nat) (a : Option Addr) (c' : Nat), k ≤ n ∧ v = .int .i64 (k : Int) ∧ o = .slice a k c' ∧ Hid (Below wo.heap.size wo wr ∧ wr.ownsRow w.heap.size 34 1 (.slice a k c') k ((partsOf (out.take k)).map destL) ∧ ∀ r, (Value.slice a k c').ownBlock = some r → wo.heap.size ≤ r)) (fun _ v _ => n - (intOf v).toNat)
    case atStart => exact ⟨0, none, 0, Nat.zero_le _, rfl, rfl, hide ⟨Below.refl _ _, World.ownsRow_nil _ _ _ _, fun r hr => by cases hr⟩⟩
    case round =>
      obtain ⟨k, a, c', hk, rfl, rfl, hrel⟩ := hrel
      by_cases hlt : k < n
      · have hkl : k < out.length := by have := HN.out; omega
        have hlt2 : (k : Int) < (n : Int) := by omega
        obtain ⟨g, rfl, _, hgc, hgl, hcell⟩ := own_cells (enc := winL) winL_len (own_below HO3.out hrel.out.1) HN.out.symm k hkl
        have hcI : (n : Int) ≤ (scap : Int) := by omega
        have x0 : wr.cell? ⟨g, k * 3, none⟩ = some (.int .u64 (out[k].st : Int)) := hcell 0 (by omega)
        have x1 : wr.cell? ⟨g, k * 3 + 1, none⟩ = some (.int .u64 (out[k].len : Int)) := hcell 1 (by omega)
        have x2 : wr.cell? ⟨g, k * 3 + 2, none⟩ = some (.int .u16 (out[k].part : Int)) := hcell 2 (by omega)
        have hsz := hrel.out.1.size
        have hws := HB3.out.1.size
        have hsn : (partsOf (out.take (k + 1))).map destL = (partsOf (out.take k)).map destL ++ [.int .u16 (out[k].part : Int)] := by unfold partsOf; rw [List.take_succ_eq_append_getElem hkl, List.map_append, List.map_append]; rfl
        have HSN := hide hsn
        generalize out[k] = x at *
        obtain ⟨lo, len, pt⟩ := x
        simp only at x0 x1 x2 HSN
        have HC := hide (fun W g hg => cell_one_at W (.int .u16 (pt : Int)) 34 g hg)
        have H1 : Hid (∀ u ∈ [Value.int .u16 (pt : Int)], u.oneCell' = true) := hide (fun u hu => by rw [List.mem_singleton] at hu; subst hu; rfl)
        have hol2 := hide hrel.out.2.2
        clear hsn hcell
        go_wp2_with (at_builtin; go_must (refine wpList_append_own_at _ rfl (.tmp 24) (.tmp 27) 33 rfl w.heap.size 34 i0 _ 1 2 Tryz.underlying33 HII.out hz0 hz1 hz2 rfl (by decide) (.slice a k c') k ((partsOf (out.take k)).map destL) rfl ((hrel.out.2.1.alloc _).alloc _) _ 1 1 [.int .u16 (pt : Int)] rfl rfl (HC.out _ _ (by simp)) H1.out (by simp only [maxLen]; omega) (by omega) (by simp; omega) ?_); intro v' w4 hown' hg hnl hat; obtain ⟨a4, k4, rfl⟩ := own_slice hown'; have HO4 := hide hown'; have HB4 := hide (((hrel.out.1.alloc (by omega) (.cells #[.int .u64 (lo : Int), .int .u64 (len : Int), .int .u16 (pt : Int)] 36)).alloc (by simp; omega) (.cells #[.int .u16 (pt : Int)] 34)).grown hg (by simp; omega) (fun r hr => hol2.out r hr)); have HA4 : Hid (∀ r, (Value.slice a4 (k + 1) k4).ownBlock = some r → wo.heap.size ≤ r) := hide (fun r hr => by rcases hat with h | h; exact hol2.out r (by rw [← h]; exact hr); (rw [h] at hr; injection hr with hr; simp at hr; omega)); clear hown' hg hnl hat)
        go_roundw
        case rel =>
          have e1 := HO4.out
          rw [← HSN.out] at e1
          first | exact ⟨k + 1, a4, k4, by omega, by go_num, rfl, hide ⟨HB4.out, e1, HA4.out⟩⟩ | ((repeat apply Exists.intro); exact ⟨⟨k + 1, a4, k4, by omega, by go_num, rfl, hide ⟨HB4.out, e1, HA4.out⟩⟩, rfl⟩)
        case measure => simp [intOf]; omega
      · have hkn : k = n := by omega
        subst hkn
        have e1 := hrel.out.2.1
        rw [List.take_of_length_le (by have := HN.out; omega)] at e1
        have HE := hide e1
        have HBR := hide (HB3.out.below hrel.out.1)
        have HOR := hide (own_below HOO.out hrel.out.1)
        have HLP : Hid ((partsOf out).length = k) := hide (by unfold partsOf; rw [List.length_map, ← HN.out])
        have HEQU := hide (fun W c1 c2 A1 A2 B1 B2 (h1 : W.ownsRow B1 34 1 (.slice A1 (partsOf out).length c1) (partsOf out).length ((partsOf out).map destL)) (h2 : W.ownsRow B2 34 1 (.slice A2 (partsOf out).length c2) (partsOf out).length ((partsOf out).map destL)) => EqU_calls (partsOf out) B1 B2 c1 c2 A1 A2 W h1 h2 (by rw [HLP.out]; omega))
        have HEQW := hide (fun W c1 c2 A1 A2 B1 B2 (h1 : W.ownsRow B1 36 3 (.slice A1 gw.length c1) gw.length (gw.flatMap winL)) (h2 : W.ownsRow B2 36 3 (.slice A2 gw.length c2) gw.length (gw.flatMap winL)) => EqW_calls gw B1 B2 c1 c2 A1 A2 W h1 h2 (by rw [← HNG.out]; omega))
        have HOR3 := hide (fun W hW => (HOR2.out W hW).mono fun e w' ⟨o2, hp, ha, hv⟩ => (show U16V (partsOf out) W e w' from by rw [HONE.out out o2 HP.out HA.out hp ha]; exact hv))
        unfold U16V at HOR3
        rw [HLP.out] at HEQU HOR3
        rw [← HNG.out] at HEQW
        clear hlt hk e1 hrel HOR2 HSO2
        obtain ⟨b0, b1, b2, b3, b4, b5⟩ := HBC.out wr HBR.out
        go_wp2_with (first
          | (go_at_call 10; refine (HRI2.out _ HBR.out).mono ?_; rintro e w5 ⟨ra, rcap, rfl, hown, hb⟩; have HB5 := hide (HBR.out.below hb); have HO5 := hide hown; have HOR5 := hide (own_below HOR.out hb); have HE5 := hide (own_below HE.out hb); clear hb hown; clear b0 b1 b2 b3 b4 b5; obtain ⟨b0, b1, b2, b3, b4, b5⟩ := HBC.out w5 HB5.out)
          | (go_at_call 9; refine (HEQW.out _ _ _ _ _ _ _ HOR5.out HO5.out).mono ?_; rintro e w6 ⟨rfl, hb⟩; have HB6 := hide (HB5.out.below hb); have HOR6 := hide (own_below HOR5.out hb); have HE6 := hide (own_below HE5.out hb); clear hb; clear b0 b1 b2 b3 b4 b5; obtain ⟨b0, b1, b2, b3, b4, b5⟩ := HBC.out w6 HB6.out)
          | (go_at_call 12; refine (HOR3.out _ HB6.out).mono ?_; rintro e w7 ⟨oa, ocap, rfl, hown, hb⟩; have HB7 := hide (HB6.out.below hb); have HOR7 := hide (own_below HOR6.out hb); have HE7 := hide (own_below HE6.out hb); have HO7 := hide hown; clear hb hown; clear b0 b1 b2 b3 b4 b5; obtain ⟨b0, b1, b2, b3, b4, b5⟩ := HBC.out w7 HB7.out)
          | (go_at_call 11; refine (HEQU.out _ _ _ _ _ _ _ HO7.out HE7.out).mono ?_; rintro e w8 ⟨rfl, hb⟩; have HB8 := hide (HB7.out.below hb); have HOR8 := hide (own_below HOR7.out hb); clear hb; clear b0 b1 b2 b3 b4 b5; obtain ⟨b0, b1, b2, b3, b4, b5⟩ := HBC.out w8 HB8.out))
        clear b0 b1 b2 b3 b4 b5
        obtain ⟨wq, rfl⟩ : ∃ wq : World, wq = w8 := ⟨_, rfl⟩
        go_loopw [44] (fun v wr => ∃ j : Nat, j ≤ ng ∧ v = .int .i64 (j : Int) ∧ Hid (Boxed1 w c wr ∧ Below wq.heap.size wq wr)) (fun v _ => ng - (intOf v).toNat)
        case atStart => exact ⟨0, Nat.zero_le _, rfl, hide ⟨HB8.out, Below.refl _ _⟩⟩
        case round =>
          obtain ⟨j, hj, rfl, hrel⟩ := hrel
          have HBQ := hide hrel.out.1
          have HWQ := hide hrel.out.2
          by_cases hlt : j < ng
          · have hjl : j < gw.length := by have := HNG.out; omega
            have hlt2 : (j : Int) < (ng : Int) := by omega
            obtain ⟨g, rfl, _, hgc, hgl, hcell⟩ := own_cells (enc := winL) winL_len (own_below HOR8.out hrel.out.2) HNG.out.symm j hjl
            have hcI : (ng : Int) ≤ (gcap : Int) := by omega
            have hm : gw[j] ∈ gs.map idW := by
              have := List.getElem_mem hjl
              rwa [← HGW.out]
            obtain ⟨s, hs, hsg⟩ := List.mem_map.1 hm
            rw [← hsg] at hcell
            have hgu := HGU.out s hs
            obtain ⟨lo, len⟩ := s
            have x0 : wr.cell? ⟨g, j * 3, none⟩ = some (.int .u64 (lo : Int)) := hcell 0 (by omega)
            have x1 : wr.cell? ⟨g, j * 3 + 1, none⟩ = some (.int .u64 (len : Int)) := hcell 1 (by omega)
            have x2 : wr.cell? ⟨g, j * 3 + 2, none⟩ = some (.int .u16 0) := hcell 2 (by omega)
            simp only at hgu
            have hen := (hgu 0).1
            have hadd := wrap_add lo len
            rw [Nat.mod_eq_of_lt (by have := HF.out; omega)] at hadd
            have HUS2 := hide (fun p W hW => by
              have := HUS.out p lo (lo + len) (by have := HF.out; omega) W hW
              rw [(hgu p).2] at this
              exact this)
            obtain ⟨en, hen2⟩ : ∃ en, en = lo + len := ⟨_, rfl⟩
            rw [← hen2] at hadd HUS2
            obtain ⟨b0, b1, b2, b3, b4, b5⟩ := HBC.out wr HBQ.out
            have hz : w.heap.size < wr.heap.size := HBQ.out.2.lt
            clear hm hsg hs hgu hcell hrel hen2 hen
            go_wp2
            have HBW := hide (HBQ.out.alloc (.cells #[.int .u64 (lo : Int), .int .u64 (len : Int), .int .u16 0] 36))
            have HWW : Hid (Below wq.heap.size wq (wr.alloc (.cells #[.int .u64 (lo : Int), .int .u64 (len : Int), .int .u16 0] 36))) := hide (HWQ.out.alloc HWQ.out.size _)
            have HBL := hide (Blk.new wr 36 #[.int .u64 (lo : Int), .int .u64 (len : Int), .int .u16 0])
            clear b0 b1 b2 b3 b4 b5 x0 x1 x2
            generalize wr.alloc (.cells #[.int .u64 (lo : Int), .int .u64 (len : Int), .int .u16 0] 36) = W1 at *
            generalize wr.heap.size = g1 at *
            go_loopw [51] (fun v W2 => ∃ i : Nat, i ≤ np ∧ v = .int .i64 (i : Int) ∧ Hid (Boxed1 w c W2 ∧ Below wq.heap.size wq W2 ∧ Blk W2 g1 36 #[.int .u64 (lo : Int), .int .u64 (len : Int), .int .u16 0])) (fun v _ => np - (intOf v).toNat)
            case atStart => exact ⟨0, Nat.zero_le _, rfl, hide ⟨HBW.out, HWW.out, HBL.out⟩⟩
            case round =>
              obtain ⟨i, hi, rfl, hrel⟩ := hrel
              have HB2' := hide hrel.out.1
              have HW2 := hide hrel.out.2.1
              have HL2 := hide hrel.out.2.2
              by_cases hlti : i < np
              · have hlti2 : (i : Int) < (np : Int) := by omega
                have hil : i < c.parts.l.length := by have := HNP.out; omega
                obtain ⟨b, o, ha, hab, x0, x1, x2, x3⟩ := part_at (HCF.out wr hrel.out.1).parts i hil
                obtain rfl : pa = some ⟨b, o, none⟩ := HPA.out.trans ha
                have hz2 : w.heap.size < wr.heap.size := hrel.out.1.2.lt
                have hz3 : g1 < wr.heap.size := hrel.out.2.2.lt
                have hbz := cell_lt x0
                obtain ⟨b0, b1, b2, b3, b4, b5⟩ := HBC.out wr hrel.out.1
                have y0 : wr.cell? ⟨g1, 0, none⟩ = some (.int .u64 (lo : Int)) := hrel.out.2.2.cell 0
                have y1 : wr.cell? ⟨g1, 1, none⟩ = some (.int .u64 (len : Int)) := hrel.out.2.2.cell 1
                have HHA := hide ha
                generalize c.parts.l[i] = x at *
                obtain ⟨id, nm, per, dur⟩ := x
                simp only at x0 x1 x2 x3
                clear ha hab hrel
                go_wp2_with (go_at_call 13; refine (HUS2.out _ _ (HB2'.out.alloc _)).mono ?_; rintro e w9 ⟨rfl, hb⟩; have HB9 := hide ((HB2'.out.alloc _).below hb); have HW9 := hide ((HW2.out.alloc HW2.out.size _).trans (hb.mono (HW2.out.alloc HW2.out.size _).size)); have HL9 := hide ((HL2.out.alloc _).below hb (HL2.out.alloc _).lt); clear hb)
                go_roundw
                case rel => exact ⟨i + 1, by omega, by go_num, hide ⟨HB9.out, HW9.out, HL9.out⟩⟩
                case measure => simp [intOf]; omega
              · have hin : i = np := by omega
                clear hlti hrel
                subst hin
                go_wp2
                go_roundw
                case rel => exact ⟨j + 1, by omega, by go_num, hide ⟨HB2'.out, HW2.out⟩⟩
                case measure => simp [intOf]; omega
          · have hjn : j = ng := by omega
            clear hlt hrel
            subst hjn
            go_wp2_with (go_at_call 6; refine (HAL.out _).mono ?_; rintro e w9 ⟨rfl, hb⟩; have HB9 := hide (HBQ.out.below hb); clear hb)
            go_ret
            exact ⟨rfl, HB9.out.1⟩
  · have hrf : rightB c = false := by simpa using hr
    rw [hrf] at HR
    clear h hok hsm hB0 hr hrf hcap2 HID HSO HOR HRI HUS
    go_enter Tryz.func3, Tryz.ntmps3
    obtain ⟨b0, b1, b2, b3, b4, b5⟩ := HBC.out _ HB0.out
    go_wp2_with (first
      | (go_at_call 5; refine (HR.out _ HB0.out).mono ?_; rintro e w1 ⟨rfl, hb⟩; have HB1 := hide (HB0.out.below hb); clear hb)
      | (go_at_call 6; refine (HAL.out _).mono ?_; rintro e w2 ⟨rfl, hb⟩; have HB2 := hide (HB1.out.below hb); clear hb))
    go_ret
    exact ⟨rfl, HB2.out.1⟩
end Go.Proofs.YthccadabblkalaaGreat
