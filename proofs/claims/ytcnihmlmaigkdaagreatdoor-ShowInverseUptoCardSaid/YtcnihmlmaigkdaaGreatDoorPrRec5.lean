/- The parser's record of kind 5 (chapter 07). Written by genprrec.py. -/
import Derived.Test.YtcnihmlmaigkdaaGreatDoorMPrRec3
import Derived.RegionDies
import Derived.Deep.CutBlock
import Derived.Deep.LoopGhost
import Derived.Deep.DeepMust
namespace Go.Proofs.YtcnihmlmaigkdaaGreatDoor
open Go.RowKit Go.Lib Go.Sort
set_option linter.unusedVariables false

set_option maxRecDepth 100000 in
set_option maxHeartbeats 16000000 in
theorem PRec5_calls (X : Nat) (l : List Token) (c : Cfg) (t : Token) (w : World) (h : PrAt X l c (linksN c.chans.l) w) (ho : OwnC (X + 1) c w) :
    Calls Tryz.prog 84 #[.pointer (some ⟨X, 0, none⟩), .agg (tokV t)] w (RecV 5 X t l c w) := by
  have hXl := h.lt
  have hcnt : cntK (pcOf c) 5 = c.chans.l.length := by first | rfl | (show (c.chans.l.map chanK).length = _; simp)
  have hlm : limN 5 = 512 := rfl
  have hLB := fun hh W => limit_bad (c.chans.l.length : Int) 512 t hh W
  have hLO := fun hh W => limit_ok (c.chans.l.length : Int) 512 t hh W
  have HT0 := hide (fun hh => methT_lim (k := 5) (c := pcOf c) (t := t) (l := l) hh)
  have HT1 := hide (fun hh => methT_ok (k := 5) (c := pcOf c) (t := t) (l := l) hh)
  rw [hcnt, hlm] at HT0 HT1
  have hRV : Hid (∀ e w', RecV 5 X t l c w e w' = RecV 5 X t l c w e w') := hide (fun _ _ => rfl)
  obtain ⟨MT, hMT⟩ : ∃ m, m = methT 5 (pcOf c) t := ⟨_, rfl⟩
  unfold RecV
  rw [← hMT] at HT0 HT1 ⊢
  have HMT := hide hMT
  obtain ⟨q0, q1, q2, q3, q4, q5, q6⟩ := h.cfg
  have HP := hide h
  have HOW := hide ho
  obtain ⟨fl, hfl⟩ : ∃ f : Flt, f = (7, t.line, t.col) := ⟨_, rfl⟩
  rw [← hfl] at HT0 hLB
  obtain ⟨kind, text, v, li, co⟩ := t
  unfold tokV tokC at hLB hLO ⊢
  simp only at hLB hLO ⊢
  generalize (⟨text.toArray⟩ : ByteArray) = y at *
  clear h ho hfl hMT hcnt hlm hRV
  by_cases hlim : 512 ≤ c.chans.l.length
  · have HLB := hide (hLB (by omega))
    have HRS := hide (HT0.out hlim)
    clear hLB hLO HT0 HT1 hlim
    go_enter Tryz.func84, Tryz.ntmps84
    go_wp2_with fail
    go_region_dies
    all_goals go_wp2_with (go_at_call 134; refine (HLB.out _).mono ?_; rintro e w5 ⟨rfl, hb5⟩; exact ⟨rfl, (by refine Below.trans ?_ (hb5.mono (by simp; omega)); repeat (first | exact Below.refl _ _ | apply Below.drew | refine Below.alloc ?_ (by omega) _)), .inr ⟨fl, HRS.out, rfl⟩⟩)
  · have HLO := hide (hLO (by omega))
    have HRS : Hid (MT l = chanT (pcOf c) l) := hide (HT1.out hlim)
    clear hLB hLO HT0 HT1
    have mixed := mixed_progP
    have HID : Hid (∀ l W, PrAt X l c (linksN c.chans.l) W → Calls Tryz.prog 135 #[.pointer (some ⟨X, 0, none⟩)] W fun e w' => RdV (numT 65535) idV X l c (linksN c.chans.l) W e w' ∧ ∀ n r, numT 65535 l = .ok (n, r) → n ≤ 65535) := hide (fun l W hW => pid_calls X l c _ W hW)
    have HNM : Hid (∀ l W, PrAt X l c (linksN c.chans.l) W → Calls Tryz.prog 77 #[.pointer (some ⟨X, 0, none⟩), .int .i64 3] W fun e w' => RdV (takeT 3) tokVal X l c (linksN c.chans.l) W e w' ∧ ∀ t r, takeT 3 l = .ok (t, r) → t.kind = 3) := hide (fun l W hW => takeT_calls 3 (by decide) X l c _ W hW)
    have HTK1 : Hid (∀ l W, PrAt X l c (linksN c.chans.l) W → Calls Tryz.prog 77 #[.pointer (some ⟨X, 0, none⟩), .int .i64 1] W fun e w' => RdV (takeT 1) tokVal X l c (linksN c.chans.l) W e w' ∧ ∀ t r, takeT 1 l = .ok (t, r) → t.kind = 1) := hide (fun l W hW => takeT_calls 1 (by decide) X l c _ W hW)
    have HW := hide (fun x b l W (hW : PrAt X l c (linksN c.chans.l) W) (hb : W.heap.size = b) => want1_at x b X l c _ W hW hb)
    have HW2 := hide (fun x y b l W (hW : PrAt X l c (linksN c.chans.l) W) (hb : W.heap.size = b) => want2_at x y b X l c _ W hW hb)
    have HBG := hide (fun x l W (hW : PrAt X l c (linksN c.chans.l) W) => pbig_calls x X l c _ W hW)
    have HF16 : Hid (∀ x l W, PrAt X l c (linksN c.chans.l) W → Calls Tryz.prog 133 #[.pointer (some ⟨X, 0, none⟩), .string x, .int .u64 65535] W fun e w' => RdV (fieldT x.data.toList 65535) natP X l c (linksN c.chans.l) W e w' ∧ ∀ n r, fieldT x.data.toList 65535 l = .ok (n, r) → n ≤ 65535) := hide (fun x l W hW => pfield_calls x 65535 X l c _ W hW)
    have HF32 : Hid (∀ x l W, PrAt X l c (linksN c.chans.l) W → Calls Tryz.prog 133 #[.pointer (some ⟨X, 0, none⟩), .string x, .int .u64 4294967295] W fun e w' => RdV (fieldT x.data.toList 4294967295) natP X l c (linksN c.chans.l) W e w' ∧ ∀ n r, fieldT x.data.toList 4294967295 l = .ok (n, r) → n ≤ 4294967295) := hide (fun x l W hW => pfield_calls x 4294967295 X l c _ W hW)
    have HCH := hide (fun a b l W (hW : PrAt X l c (linksN c.chans.l) W) => second_calls a b X l c _ W hW)
    go_enter Tryz.func84, Tryz.ntmps84
    go_wp2_with fail
    go_cut [] (fun wx => Hid (Below w.heap.size w wx))
    case first =>
      go_region_with (go_at_call 134; refine (HLO.out _).mono ?_; rintro e w5 ⟨rfl, hb5⟩; have HB5 : Hid (Below w.heap.size w w5) := hide (by refine Below.trans ?_ (hb5.mono (by simp)); repeat (first | exact Below.refl _ _ | apply Below.drew | refine Below.alloc ?_ (by omega) _)); clear hb5)
      all_goals
        go_wp2_with fail
        go_meet
        exact HB5
    case rest =>
      have HP0 := hide (HP.out.below hcut.out)
      have HO0 := hide (OnlyX.below (OnlyX.refl X w) hcut.out)
      have hXc := HP0.out.lt
      clear hcut q0 q1 q2 q3 q4 q5 q6
      go_wp2_with fail
      refine (HID.out _ _ HP0.out).mono ?_
      rintro e w4 ⟨⟨ho4, ⟨n, r4, h4, rfl, hs4⟩ | ⟨f, h4, rfl⟩⟩, hb4⟩
      rotate_left
      exact ⟨rfl, OnlyX.low (OnlyX.trans HO0.out ho4) hXl, .inr ⟨f, by rw [HRS.out]; unfold chanT; rw [bindT_err h4], rfl⟩⟩
      have hv4 := hb4 _ _ h4
      clear hb4
      have HO4 := hide (OnlyX.trans HO0.out ho4)
      have H4 := hide h4
      have HS4 := hide hs4
      have hX4 : X < w4.heap.size := hs4.lt
      have w16_4 : IntKind.u16.wrap (n : Int) = (n : Int) := by rw [IntKind.wrap_u16]; omega
      clear ho4 h4 hs4
      unfold idV
      go_wp2_with fail
      refine (HW.out ⟨#[123]⟩ _ _ _ (HS4.out.alloc _) (by simp)).mono ?_
      rintro e w5 ⟨ho5, ⟨u, r5, h5, rfl, hs5⟩ | ⟨f, h5, rfl⟩⟩
      rotate_left
      exact ⟨rfl, OnlyX.low (OnlyX.trans (OnlyX.alloc (HO4.out.alloc _) _) ho5) hXl, .inr ⟨f, by rw [HRS.out]; unfold chanT; rw [bindT_ok H4.out, bindT_err h5], rfl⟩⟩
      have HO5 := hide (OnlyX.trans (OnlyX.alloc (HO4.out.alloc _) _) ho5)
      have H5 := hide h5
      have HS5 := hide hs5
      have hX5 : X < w5.heap.size := hs5.lt
      have hXP : X < w4.heap.size := HS4.out.lt
      have hwP : w.heap.size ≤ w4.heap.size := HO4.out.size
      have HB5 : Hid (Blk w5 w4.heap.size 57 #[.int .u16 (n : Int), .int .u16 0, .slice none 0 0]) := hide (ho5.blk ((Blk.new w4 57 #[.int .u16 (n : Int), .int .u16 0, .slice none 0 0]).alloc _) (by omega))
      have p0 : w5.cell? ⟨w4.heap.size, 0, none⟩ = some (.int .u16 (n : Int)) := HB5.out.cell 0
      have p1 : w5.cell? ⟨w4.heap.size, 1, none⟩ = some (.int .u16 0) := HB5.out.cell 1
      have p2 : w5.cell? ⟨w4.heap.size, 2, none⟩ = some (.slice none 0 0) := HB5.out.cell 2
      have pf := fun i => HB5.out.frozen i
      have hPw : w4.heap.size < w5.heap.size := HB5.out.lt
      clear ho5 h5 hs5
      unfold unitV2
      go_wp2_with fail
      refine (HF16.out ⟨#[115, 111, 117, 114, 99, 101]⟩ _ _ HS5.out).mono ?_
      rintro e w6 ⟨⟨ho6, ⟨m1, r6, h6, rfl, hs6⟩ | ⟨f, h6, rfl⟩⟩, hb6⟩
      rotate_left
      exact ⟨rfl, OnlyX.low (OnlyX.trans HO5.out ho6) hXl, .inr ⟨f, by rw [HRS.out]; unfold chanT; rw [bindT_ok H4.out, bindT_ok H5.out, bindT_err h6], rfl⟩⟩
      have hv6 := hb6 _ _ h6
      clear hb6
      have HO6 := hide (OnlyX.trans HO5.out ho6)
      have H6 := hide h6
      have HS6 := hide hs6
      have hX6 : X < w6.heap.size := hs6.lt
      have HB6 : Hid (Blk w6 w4.heap.size 57 #[.int .u16 (n : Int), .int .u16 0, .slice none 0 0]) := hide (ho6.blk HB5.out (by omega))
      clear p0 p1 p2 pf hPw
      have p0 : w6.cell? ⟨w4.heap.size, 0, none⟩ = some (.int .u16 (n : Int)) := HB6.out.cell 0
      have p1 : w6.cell? ⟨w4.heap.size, 1, none⟩ = some (.int .u16 0) := HB6.out.cell 1
      have p2 : w6.cell? ⟨w4.heap.size, 2, none⟩ = some (.slice none 0 0) := HB6.out.cell 2
      have pf := fun i => HB6.out.frozen i
      have hPw : w4.heap.size < w6.heap.size := HB6.out.lt
      have w16_6 : IntKind.u16.wrap (m1 : Int) = (m1 : Int) := by rw [IntKind.wrap_u16]; omega
      clear ho6 h6 hs6
      unfold natP
      go_wp2_with fail
      refine (HW.out ⟨#[116, 111]⟩ _ _ _ (HS6.out.far (p := ⟨w4.heap.size, 1, none⟩) hXP (.int .u16 (m1 : Int))) (by simp)).mono ?_
      rintro e w7 ⟨ho7, ⟨u, r7, h7, rfl, hs7⟩ | ⟨f, h7, rfl⟩⟩
      rotate_left
      exact ⟨rfl, OnlyX.low (OnlyX.trans (OnlyX.alloc (HO6.out.setNew (p := ⟨w4.heap.size, 1, none⟩) hwP (.int .u16 (m1 : Int))) _) ho7) hXl, .inr ⟨f, by rw [HRS.out]; unfold chanT; rw [bindT_ok H4.out, bindT_ok H5.out, bindT_ok H6.out, bindT_err (toT_err _ _ h7)], rfl⟩⟩
      have HO7 := hide (OnlyX.trans (OnlyX.alloc (HO6.out.setNew (p := ⟨w4.heap.size, 1, none⟩) hwP (.int .u16 (m1 : Int))) _) ho7)
      have H7 := hide h7
      have HS7 := hide hs7
      have hX7 : X < w7.heap.size := hs7.lt
      have HB7 : Hid (Blk w7 w4.heap.size 57 #[.int .u16 (n : Int), .int .u16 (m1 : Int), .slice none 0 0]) := hide (ho7.blk ((HB6.out.set_ 1 (.int .u16 (m1 : Int))).alloc _) (by omega))
      clear p0 p1 p2 pf hPw
      have p0 : w7.cell? ⟨w4.heap.size, 0, none⟩ = some (.int .u16 (n : Int)) := HB7.out.cell 0
      have p1 : w7.cell? ⟨w4.heap.size, 1, none⟩ = some (.int .u16 (m1 : Int)) := HB7.out.cell 1
      have p2 : w7.cell? ⟨w4.heap.size, 2, none⟩ = some (.slice none 0 0) := HB7.out.cell 2
      have pf := fun i => HB7.out.frozen i
      have hPw : w4.heap.size < w7.heap.size := HB7.out.lt
      clear ho7 h7 hs7
      unfold unitV2
      have HLE : Hid (∀ f, linksT (linksN c.chans.l) r7 = .error f → MT l = .error f) := hide (fun f hf => by
        rw [HRS.out]; unfold chanT; rw [bindT_ok H4.out, bindT_ok H5.out, bindT_ok H6.out, bindT_err ((toT_links _ _ _ H7.out).trans (by rw [linksK_of]; exact hf))])
      have HLK0 : Hid (∀ ds r, linksT (linksN c.chans.l) r7 = .ok (ds, r) → toT (linksK (pcOf c).chans) r6 = .ok (ds, r)) := hide (fun ds r hf => (toT_links _ _ _ H7.out).trans (by rw [linksK_of]; exact hf))
      obtain ⟨P, hP⟩ : ∃ P, w4.heap.size = P := ⟨_, rfl⟩
      have hXR := HS7.out.lt
      rw [hP] at HB7 hPw hXP hwP p0 p1 p2 pf ⊢
      clear hP
      have hPB : P < w7.heap.size := hPw
      have HN0 : Hid (LcS X w P w7.heap.size (n : Int) (m1 : Int) r7 c r7.length [] r7 none 0 w7) := hide ⟨HO7.out, HS7.out, HB7.out, World.ownsRow_nil _ _ _ _, rfl, Nat.le_refl _, by simp, fun _ => rfl, fun e => absurd rfl e, fun e => absurd rfl e, fun _ => ⟨r7.length, Nat.le_refl _, (appT_nil _).symm⟩⟩
      obtain ⟨n0, hn0⟩ : ∃ n, n = r7.length := ⟨_, rfl⟩
      rw [← hn0] at HN0
      have HSw := hide HS7.out.lt
      clear hn0 p0 p1 p2 pf hPw HB7 HB6 HB5 HS4 HS5 HS6
      obtain ⟨i0, hi0, hz0, hz1, hz2⟩ := info_parts pu16_info
      have HII := hide hi0
      clear hi0
      go_upto_block 0 with fail
      go_cut [] (fun wx => Hid (∃ out r a cap, LcE X w P w7.heap.size (n : Int) (m1 : Int) r7 c out r a cap wx))
      case first =>
        go_wp2_with fail
        go_loopg [] n0 (fun k wr => Hid (∃ out r a cap, LcS X w P w7.heap.size (n : Int) (m1 : Int) r7 c k out r a cap wr))
        case atStart => exact hide ⟨[], r7, none, 0, HN0.out⟩
        case round =>
          obtain ⟨out, r, a, cap, hR⟩ := hrel.out
          have HI : Hid (Calls Tryz.prog 132 #[.pointer (some ⟨X, 0, none⟩), .string ⟨#[59]⟩] wr fun e w' => e = .returned (.bool (isT [59] r)) ∧ Below wr.heap.size wr w') := hide (is_at ⟨#[59]⟩ X r c _ wr hR.st)
          have HR := hide hR
          have hXr := hR.st.lt
          have hPr := hR.blk.lt
          have hzr := hR.only.size
          have hzb := hR.base
          have HRO := hide hR.only
          have hge := hide (show ∀ q, (Value.slice a out.length cap).ownBlock = some q → w7.heap.size ≤ q from fun q hq => (hR.own.lt q hq).1)
          clear hrel hR
          cases hi : isT [59] r with
          | true =>
            rw [hi] at HI
            have HL := hide (HR.out.none hi)
            clear hi
            go_wp2_with (go_at_call 132; refine HI.out.mono ?_; rintro e w2 ⟨rfl, hb2⟩; have HB2 := hide hb2; clear hb2)
            go_meet
            exact hide ⟨out, r, a, cap, HR.out.only.below HB2.out, HR.out.st.below HB2.out, HR.out.blk.below HB2.out HR.out.blk.lt, own_below HR.out.own HB2.out, HL.out⟩
          | false =>
            rw [hi] at HI
            obtain ⟨t, rr, hl⟩ := HR.out.st.form
            subst hl
            obtain ⟨f, hf1, hf2, hf3⟩ := HR.out.more hi (by simp)
            have HF1 := hide hf1
            have HF2 := hide hf2
            have HF3 := hide hf3
            have hsm := HR.out.small
            have hgk := hide HR.out.len
            clear hi hf1 hf2 hf3
            obtain ⟨kk, hkk⟩ : ∃ k, k = linksN c.chans.l + out.length := ⟨_, rfl⟩
            rw [← hkk] at HF2
            obtain ⟨kl, hkl⟩ : ∃ k, k = out.length := ⟨_, rfl⟩
            have HKK := hide hkk
            have HKL := hide hkl
            have HSR : Hid (PrAt X (t :: rr) c kk wr) := hide (by rw [hkk]; exact HR.out.st)
            have HBR : Hid (Blk wr P 57 #[.int .u16 (n : Int), .int .u16 (m1 : Int), .slice a kl cap]) := hide (by rw [hkl]; exact HR.out.blk)
            have HOR : Hid (wr.ownsRow w7.heap.size 52 1 (.slice a kl cap) kl (out.map destL)) := hide (by rw [hkl]; exact HR.out.own)
            rw [← hkl] at hge hsm
            clear hkk hkl
            have hLB := fun hh W => limit_bad (kk : Int) 1024 t hh W
            have hLO := fun hh W => limit_ok (kk : Int) 1024 t hh W
            obtain ⟨fl, hfl⟩ : ∃ f : Flt, f = (7, t.line, t.col) := ⟨_, rfl⟩
            rw [← hfl] at hLB
            have HLIM : Hid (∀ n2 r1, numT 65535 (t :: rr) = .ok (n2, r1) → 1024 ≤ kk → linksT (linksN c.chans.l) r7 = .error fl) := hide (fun n2 r1 h1 h2 => by rw [HF2.out, pd_lim h1 h2, hfl]; rfl)
            have HNE : Hid (∀ e, numT 65535 (t :: rr) = .error e → linksT (linksN c.chans.l) r7 = .error e) := hide (fun e h1 => by rw [HF2.out, pd_num h1]; rfl)
            have HNL := hide (fun n2 r1 (h1 : numT 65535 (t :: rr) = .ok (n2, r1)) => num_len h1)
            have HID1 : Hid (∀ W, PrAt X (t :: rr) c kk W → Calls Tryz.prog 135 #[.pointer (some ⟨X, 0, none⟩)] W fun e w' => RdV (numT 65535) idV X (t :: rr) c kk W e w' ∧ ∀ n r, numT 65535 (t :: rr) = .ok (n, r) → n ≤ 65535) := hide (fun W hW => pid_calls X _ c _ W hW)
            have HHD := hide (fun W (hW : PrAt X (t :: rr) c kk W) => hW.head)
            obtain ⟨tok, htok⟩ : ∃ k, k = t :: rr := ⟨_, rfl⟩
            rw [← htok] at HF1 HF2 HLIM HNE HNL HID1 hgk HSR HHD
            clear htok hfl HR
            obtain ⟨tkd, tx, tv, tl, tc⟩ := t
            unfold tokV tokC at hLB hLO
            simp only at hLB hLO HHD
            generalize (⟨tx.toArray⟩ : ByteArray) = y2 at *
            obtain ⟨nn, hnn⟩ : ∃ k, k = rr.length + 1 := ⟨_, rfl⟩
            rw [← hnn] at HHD
            have hnnI : (0 : Int) < (nn : Int) := by omega
            clear hnn
            have HHD2 : Hid (∀ W, PrAt X tok c kk W → ∃ b o cp, b < X ∧ nn ≤ cp ∧ W.cell? ⟨X, 0, none⟩ = some (.slice (some ⟨b, o, none⟩) nn cp) ∧ W.cell? ⟨b, o, none⟩ = some (.int .i64 (tkd : Int)) ∧ W.cell? ⟨b, o + 1, none⟩ = some (.string y2) ∧ W.cell? ⟨b, o + 2, none⟩ = some (.int .u64 (tv : Int)) ∧ W.cell? ⟨b, o + 3, none⟩ = some (.int .i64 (tl : Int)) ∧ W.cell? ⟨b, o + 4, none⟩ = some (.int .i64 (tc : Int))) := hide (fun W hW => by
              obtain ⟨b, o, cp, h1, h2, h3, h4, h5, h6, h7, h8, h9, _⟩ := HHD.out W hW
              exact ⟨b, o, cp, h1, h2, h4.cell 0, h5, h6, h7, h8, h9⟩)
            clear HHD
            by_cases hlim : 1024 ≤ kk
            · have HLB := hide (hLB (by omega))
              have HLM := hide hlim
              clear hLB hLO hlim
              go_wp2_with (go_at_call 132; refine HI.out.mono ?_; rintro e w2 ⟨rfl, hb2⟩; have HB2 := hide hb2; have HS2 := hide (HSR.out.below hb2); obtain ⟨b, o, cp, hbX, hcp, k0, q0, q1, q2, q3, q4⟩ := HHD2.out _ HS2.out; have hcpI : (nn : Int) ≤ (cp : Int) := (by omega); have hX2 := HS2.out.lt; clear hb2)
              refine (HID1.out _ (HS2.out.alloc _)).mono ?_
              rintro e w3 ⟨⟨ho3, ⟨n2, r1, h3, rfl, hs3⟩ | ⟨f3, h3, rfl⟩⟩, hb3⟩
              rotate_left
              exact ⟨rfl, OnlyX.low (OnlyX.trans ((HRO.out.below HB2.out).alloc _) ho3) hXl, .inr ⟨f3, HLE.out _ (HNE.out _ h3), rfl⟩⟩
              have HE3 := hide (HLE.out _ (HLIM.out _ _ h3 HLM.out))
              have HO3 := hide (OnlyX.trans ((HRO.out.below HB2.out).alloc _) ho3)
              have hbt := ho3.blk (Blk.new w2 132 #[.int .i64 (tkd : Int), .string y2, .int .u64 (tv : Int), .int .i64 (tl : Int), .int .i64 (tc : Int)]) (by omega)
              have c7 := hs3.cfg.2.2.2.2.2.2
              have hX3 := hs3.lt
              have z0 := hbt.cell 0
              have z1 := hbt.cell 1
              have z2 := hbt.cell 2
              have z3 := hbt.cell 3
              have z4 := hbt.cell 4
              have hzl := hbt.lt
              clear ho3 hs3 h3 hb3 hbt k0 q0 q1 q2 q3 q4
              unfold idV
              go_wp2_with fail
              go_region_dies
              all_goals go_wp2_with (go_at_call 134; refine (HLB.out _).mono ?_; rintro e w5 ⟨rfl, hb5⟩; exact ⟨rfl, (by refine Below.trans (OnlyX.low HO3.out hXl) (Below.trans ?_ (hb5.mono (by simp; omega))); repeat (first | exact Below.refl _ _ | apply Below.drew | refine Below.alloc ?_ (by omega) _)), .inr ⟨fl, HE3.out, rfl⟩⟩)
            · have HLO := hide (hLO (by omega))
              have HLM := hide hlim
              have hwk : IntKind.i64.wrap ((kk : Int) + 1) = ((kk + 1 : Nat) : Int) := by rw [IntKind.wrap_i64]; omega
              clear hLB hLO HLIM
              go_wp2_with (go_at_call 132; refine HI.out.mono ?_; rintro e w2 ⟨rfl, hb2⟩; have HB2 := hide hb2; have HS2 := hide (HSR.out.below hb2); obtain ⟨b, o, cp, hbX, hcp, k0, q0, q1, q2, q3, q4⟩ := HHD2.out _ HS2.out; have hcpI : (nn : Int) ≤ (cp : Int) := (by omega); have hX2 := HS2.out.lt; clear hb2)
              refine (HID1.out _ (HS2.out.alloc _)).mono ?_
              rintro e w3 ⟨⟨ho3, ⟨n2, r1, h3, rfl, hs3⟩ | ⟨f3, h3, rfl⟩⟩, hb3⟩
              rotate_left
              exact ⟨rfl, OnlyX.low (OnlyX.trans ((HRO.out.below HB2.out).alloc _) ho3) hXl, .inr ⟨f3, HLE.out _ (HNE.out _ h3), rfl⟩⟩
              have H3 := hide h3
              have hn2 := hb3 _ _ h3
              have wn2 : IntKind.u16.wrap (n2 : Int) = (n2 : Int) := by rw [IntKind.wrap_u16]; omega
              have HO3 := hide (OnlyX.trans ((HRO.out.below HB2.out).alloc _) ho3)
              have HX3 := hide (OnlyX.trans (((OnlyX.refl X wr).below HB2.out).alloc _) ho3)
              have HS3 := hide hs3
              have hbt := ho3.blk (Blk.new w2 132 #[.int .i64 (tkd : Int), .string y2, .int .u64 (tv : Int), .int .i64 (tl : Int), .int .i64 (tc : Int)]) (by omega)
              have c7 := hs3.cfg.2.2.2.2.2.2
              have hX3 := hs3.lt
              have z0 := hbt.cell 0
              have z1 := hbt.cell 1
              have z2 := hbt.cell 2
              have z3 := hbt.cell 3
              have z4 := hbt.cell 4
              have hzl := hbt.lt
              clear ho3 hs3 h3 hb3 hbt k0 q0 q1 q2 q3 q4
              unfold idV
              go_wp2_with fail
              go_cut [6] (fun v6 wx => v6 = .int .u16 (n2 : Int) ∧ Hid (Below w3.heap.size w3 wx))
              case first =>
                go_region_with (go_at_call 134; refine (HLO.out _).mono ?_; rintro e w5 ⟨rfl, hb5⟩; have HB5 : Hid (Below w3.heap.size w3 w5) := hide (by refine Below.trans ?_ (hb5.mono (by simp)); repeat (first | exact Below.refl _ _ | apply Below.drew | refine Below.alloc ?_ (by omega) _)); clear hb5)
                all_goals
                  go_wp2_with fail
                  go_meet
                  exact ⟨rfl, HB5⟩
              case rest =>
                obtain ⟨rfl, hm⟩ := hcut
                have HLM2 : Hid (kk < 1024) := hide (by omega)
                have HSx := hide (HS3.out.below hm.out)
                have HOx := hide (HO3.out.below hm.out)
                have hbx3 := HX3.out.blk HBR.out (by omega)
                have HBx := hide (hbx3.below hm.out hbx3.lt)
                have hXx := HSx.out.lt
                have HOWx := hide (own_below (own_but HOR.out HX3.out (fun j hj e => by have := hge.out j hj; omega)) hm.out)
                obtain ⟨k1, hk1⟩ : ∃ k1 : Nat, k1 = kk + 1 := ⟨_, rfl⟩
                rw [← hk1] at hwk
                have HK1 := hide hk1
                have HSs : Hid (PrAt X r1 c k1 (wc.setCell ⟨X, 7, none⟩ (.int .i64 (k1 : Int)))) := hide (HSx.out.setL k1)
                have HOs := hide (HOx.out.set 7 (.int .i64 (k1 : Int)))
                have HBs := hide (HBx.out.far (p := ⟨X, 7, none⟩) (by simp; omega) (.int .i64 (k1 : Int)))
                have HOWs := hide (ownsRow_setCell_other HOWx.out (a := ⟨X, 7, none⟩) (fun e => by have h9 : w7.heap.size ≤ X := hge.out _ e; omega) (.int .i64 (k1 : Int)))
                clear c7 z0 z1 z2 z3 z4 hzl hbx3 hk1
                have c7 := HSx.out.cfg.2.2.2.2.2.2
                have cf := HSx.out.frz
                have p0 := HBx.out.cell 0
                have p1 := HBx.out.cell 1
                have p2 : wc.cell? ⟨P, 2, none⟩ = some (.slice a kl cap) := HBx.out.cell 2
                have pf := fun i => HBx.out.frozen i
                have hPx := HBx.out.lt
                have hzx := HOx.out.size
                have hzc : w7.heap.size ≤ wc.heap.size := by have h1 := HX3.out.size; have h2 := hm.out.size; omega
                go_wp2_with (at_builtin; go_must (refine wpList_append_own_at _ rfl (.tmp 53) (.tmp 55) 55 rfl w7.heap.size 52 i0 _ 1 2 Tryz.underlying55 HII.out hz0 hz1 hz2 rfl (by decide) (.slice a kl cap) kl _ rfl (HOWs.out.alloc _) _ 1 1 [destL n2] rfl rfl (cell_one_at _ _ _ _ (by simp)) (pone_dest n2) (by simp only [maxLen]; omega) (by omega) (by simp; omega) ?_); intro v17 w17 hown7 hg7 hnl7 hat7; obtain ⟨a7, cp7, hv7⟩ := own_slice hown7; subst hv7; rw [pdest_push] at hown7; have HO17 := hide hown7; have HS17 := hide ((HSs.out.alloc (.cells #[destL n2] 52)).grown hg7 (fun r hr => by have := hge.out r hr; omega)); have HX17 := hide (OnlyX.grownP (HOs.out.alloc (.cells #[destL n2] 52)) hg7 (fun r hr => by have := hge.out r hr; omega)); have HB17 := hide ((HBs.out.alloc (.cells #[destL n2] 52)).grown hg7 (fun e => by have := hge.out P e.symm; omega)); have pf17 := (fun i => HB17.out.frozen i); have p217 : w17.cell? ⟨P, 2, none⟩ = some (.slice a kl cap) := HB17.out.cell 2; have hz17 : w7.heap.size ≤ w17.heap.size := (by have h9 := hg7.size; simp at h9; omega); have hP17 := HB17.out.lt; have hX17 := HS17.out.lt; clear hown7 hg7 hnl7 hat7)
                have HS18 := hide (HS17.out.far (p := ⟨P, 2, none⟩) hXP (.slice a7 (kl + 1) cp7))
                have HO18 := hide (HX17.out.setNew (p := ⟨P, 2, none⟩) hwP (.slice a7 (kl + 1) cp7))
                have HB18 : Hid (Blk (w17.setCell ⟨P, 2, none⟩ (.slice a7 (kl + 1) cp7)) P 57 #[.int .u16 (n : Int), .int .u16 (m1 : Int), .slice a7 (kl + 1) cp7]) := hide (HB17.out.set_ 2 (.slice a7 (kl + 1) cp7))
                have HW18 := hide (ownsRow_setCell_other HO17.out (a := ⟨P, 2, none⟩) (fun e => by have h9 : w7.heap.size ≤ P := (HO17.out.lt _ e).1; omega) (.slice a7 (kl + 1) cp7))
                have HI44 : Hid (Calls Tryz.prog 132 #[.pointer (some ⟨X, 0, none⟩), .string ⟨#[44]⟩] (w17.setCell ⟨P, 2, none⟩ (.slice a7 (kl + 1) cp7)) fun e w' => e = .returned (.bool (isT [44] r1)) ∧ Below (w17.setCell ⟨P, 2, none⟩ (.slice a7 (kl + 1) cp7)).heap.size (w17.setCell ⟨P, 2, none⟩ (.slice a7 (kl + 1) cp7)) w') := hide (is_at ⟨#[44]⟩ X r1 c k1 _ HS18.out)
                have hlen : (out ++ [n2]).length = kl + 1 := by rw [List.length_append, ← HKL.out]; rfl
                have hk1e : linksN c.chans.l + (out ++ [n2]).length = k1 := by have h1 := HKK.out; have h2 := HKL.out; have h3 := HK1.out; omega
                cases hm44 : isT [44] r1 with
                | false =>
                  rw [hm44] at HI44
                  have HLX : Hid (linksT (linksN c.chans.l) r7 = .ok (out ++ [n2], r1)) := hide (by rw [HF2.out, pd_last H3.out HLM2.out hm44]; rfl)
                  clear hm44 p0 p1 p2 pf p217 c7 cf
                  refine HI44.out.mono ?_
                  rintro e w19 ⟨rfl, hb19⟩
                  have HLE9 : Hid (LcE X w P w7.heap.size (n : Int) (m1 : Int) r7 c (out ++ [n2]) r1 a7 cp7 w19) := hide ⟨HO18.out.below hb19, by rw [hk1e]; exact HS18.out.below hb19, by rw [hlen]; exact HB18.out.below hb19 HB18.out.lt, by rw [hlen]; exact own_below HW18.out hb19, HLX.out⟩
                  clear hb19
                  go_wp2_with fail
                  go_meet
                  exact hide ⟨_, _, _, _, HLE9.out⟩
                | true =>
                  rw [hm44] at HI44
                  have HM44 := hide hm44
                  clear hm44 p0 p1 p2 pf p217 c7 cf
                  refine HI44.out.mono ?_
                  rintro e w19 ⟨rfl, hb19⟩
                  have HS19 := hide (HS18.out.below hb19)
                  have HO19 := hide (HO18.out.below hb19)
                  have HB19 := hide (HB18.out.below hb19 HB18.out.lt)
                  have HW19 := hide (own_below HW18.out hb19)
                  have hX19 := HS19.out.lt
                  have hP19 := HB19.out.lt
                  have hz19 : w7.heap.size ≤ w19.heap.size := by have h1 := hb19.size; simp at h1; omega
                  clear hb19
                  go_wp2_with fail
                  refine (want1_at ⟨#[44]⟩ _ X r1 c k1 w19 HS19.out rfl).mono ?_
                  rintro e w20 ⟨ho20, ⟨u, r2, h20, rfl, hs20⟩ | ⟨f20, h20, rfl⟩⟩
                  rotate_left
                  exact absurd ((want_is _ HM44.out).symm.trans h20) (by simp)
                  have hr2 := (want_tail _ h20).1
                  have hz20 : w7.heap.size ≤ w20.heap.size := by have h1 := ho20.size; simp at h1; omega
                  have HO20 := hide ((HO19.out.alloc _).trans ho20)
                  have HB20 := hide (ho20.blk (HB19.out.alloc _) (by omega))
                  have HW20 := hide (own_but (HW19.out.alloc _) ho20 (fun j hj e => by have h9 : w7.heap.size ≤ j := (HW19.out.lt j hj).1; omega))
                  obtain ⟨t2, r3, hl2⟩ := hs20.form
                  subst hl2
                  have HNX : Hid (destsT r7.length (linksN c.chans.l) r7 = appT (out ++ [n2]) (destsT f k1 (t2 :: r3))) := hide (by
                    rw [← links_dests HF3.out, HF2.out, pd_more H3.out HLM2.out HM44.out, appT_app, HK1.out, hr2])
                  have hlr : r3.length + 2 ≤ r1.length := by
                    have : r1.tail.length = r3.length + 1 := by rw [← hr2]; rfl
                    rw [List.length_tail] at this
                    omega
                  have hlt := HNL.out _ _ H3.out
                  have HSN := hide hs20
                  obtain ⟨b2, o2, cp2, hb2X, hcp21, hcp22, hbl2, y0, y1, yy2, y3, y4, _, _⟩ := hs20.head
                  have y9 : w20.cell? ⟨X, 0, none⟩ = some (.slice (some ⟨b2, o2, none⟩) (r3.length + 1) cp2) := hbl2.cell 0
                  obtain ⟨n9, hn9⟩ : ∃ k, k = r3.length + 1 := ⟨_, rfl⟩
                  rw [← hn9] at y9 hcp21
                  have hn9I : (0 : Int) < (n9 : Int) := by omega
                  have hn9c : (n9 : Int) ≤ (cp2 : Int) := by omega
                  have hX20 := hs20.lt
                  have HFA := hide (fun W => fail_calls 4 t2 W)
                  obtain ⟨k2, x2, v2, l2, c2⟩ := t2
                  have hF := HFA.out
                  unfold tokV tokC at hF
                  simp only at hF y0 y1 yy2 y3 y4
                  generalize (⟨x2.toArray⟩ : ByteArray) = s2 at *
                  clear HFA ho20 h20 hr2 hs20 hbl2
                  by_cases hk2 : k2 = 2
                  · subst hk2
                    clear hF
                    unfold unitV2
                    go_wp2_with fail
                    go_roundg (r3.length + 1)
                    case rel => exact hide ⟨out ++ [n2], _ :: r3, a7, cp7, HO20.out, by rw [hk1e]; exact HSN.out, by rw [hlen]; exact HB20.out, by rw [hlen]; exact HW20.out, rfl, hz20, by rw [hlen]; have h1 := HKK.out; have h2 := HKL.out; have h3 := HLM2.out; omega, fun e => by simp at e, fun _ => two_not rfl _, fun _ => HF3.out, fun _ => ⟨f, by have := HF1.out; simp only [List.length_cons]; omega, by rw [hk1e]; exact HNX.out⟩⟩
                    case measure => have := hgk.out; omega
                  · have HFA := hide hF
                    have hne : ((k2 : Int) != 2) = true := by rw [bne_iff_ne]; omega
                    have HER : Hid (linksT (linksN c.chans.l) r7 = .error (4, l2, c2)) := hide (by
                      obtain ⟨g, hg⟩ : ∃ g, f = g + 1 := ⟨f - 1, by have := HF1.out; omega⟩
                      rw [links_dests HF3.out, HNX.out, hg, pd_kind hk2]; rfl)
                    clear hF hk2
                    unfold unitV2
                    go_wp2_with fail
                    refine (HFA.out _).mono ?_
                    rintro e w21 ⟨rfl, hb21⟩
                    exact ⟨rfl, OnlyX.low (HO20.out.below hb21) hXl, .inr ⟨_, HLE.out _ HER.out, rfl⟩⟩
      case rest =>
        obtain ⟨ds, r8, da, dcap, hE⟩ := hcut.out
        have HLKD := hide (HLK0.out _ _ hE.eq)
        have HO8 := hide hE.only
        obtain ⟨dl, hdl2⟩ : ∃ n, n = ds.length := ⟨_, rfl⟩
        obtain ⟨ke, hke⟩ : ∃ n, n = linksN c.chans.l + dl := ⟨_, rfl⟩
        have HS8 : Hid (PrAt X r8 c ke wc) := hide (by rw [hke, hdl2]; exact hE.st)
        have HB8 : Hid (Blk wc P 57 #[.int .u16 (n : Int), .int .u16 (m1 : Int), .slice da dl dcap]) := hide (by rw [hdl2]; exact hE.blk)
        have HD8 : Hid (wc.ownsRow w7.heap.size 52 1 (.slice da dl dcap) dl (ds.map destL)) := hide (by rw [hdl2]; exact hE.own)
        have HDL := hide hdl2
        have HKE := hide hke
        have hX8 := HS8.out.lt
        have hge8 := hide (show ∀ q, (Value.slice da dl dcap).ownBlock = some q → w7.heap.size ≤ q from fun q hq => (HD8.out.lt q hq).1)
        clear hdl2 hke hE hcut HLE HLK0 HN0
        have p0 : wc.cell? ⟨P, 0, none⟩ = some (.int .u16 (n : Int)) := HB8.out.cell 0
        have p1 : wc.cell? ⟨P, 1, none⟩ = some (.int .u16 (m1 : Int)) := HB8.out.cell 1
        have p2 : wc.cell? ⟨P, 2, none⟩ = some (.slice da dl dcap) := HB8.out.cell 2
        have pf := fun i => HB8.out.frozen i
        have hPw : P < wc.heap.size := HB8.out.lt
        go_wp2_with fail
        refine (want1_at ⟨#[59]⟩ _ X r8 c ke wc HS8.out (by simp)).mono ?_
        rintro e w31 ⟨ho31, ⟨u, r31, h31, rfl, hs31⟩ | ⟨f, h31, rfl⟩⟩
        rotate_left
        exact ⟨rfl, OnlyX.low (OnlyX.trans (HO8.out.alloc _) ho31) hXl, .inr ⟨f, by rw [HRS.out]; unfold chanT; rw [bindT_ok H4.out, bindT_ok H5.out, bindT_ok H6.out, bindT_ok HLKD.out, bindT_err h31], rfl⟩⟩
        have HO31 := hide (OnlyX.trans (HO8.out.alloc _) ho31)
        have H31 := hide h31
        have HS31 := hide hs31
        have hX31 := hs31.lt
        have HB31 := hide (ho31.blk (HB8.out.alloc _) (by omega))
        have HD31 := hide (own_but (HD8.out.alloc _) ho31 (fun j hj e => by have := hge8.out j hj; omega))
        clear p0 p1 p2 pf hPw
        have p0 : w31.cell? ⟨P, 0, none⟩ = some (.int .u16 (n : Int)) := HB31.out.cell 0
        have p1 : w31.cell? ⟨P, 1, none⟩ = some (.int .u16 (m1 : Int)) := HB31.out.cell 1
        have p2 : w31.cell? ⟨P, 2, none⟩ = some (.slice da dl dcap) := HB31.out.cell 2
        have pf := fun i => HB31.out.frozen i
        have hPw : P < w31.heap.size := HB31.out.lt
        clear ho31 h31 hs31
        unfold unitV2
        go_wp2_with fail
        have HSa := hide (HS31.out)
        have HOa := hide (HO31.out)
        have HBa : Hid (Blk w31 P 57 #[.int .u16 (n : Int), .int .u16 (m1 : Int), .slice da dl dcap]) := hide HB31.out
        have hXa := HSa.out.lt
        have hPa := HBa.out.lt
        have hwa := HOa.out.size
        have HDa := hide (own_base HD31.out (by omega : X + 1 ≤ w7.heap.size))
        clear p0 p1 p2 pf hPw
        have p0 : w31.cell? ⟨P, 0, none⟩ = some (.int .u16 (n : Int)) := HBa.out.cell 0
        have p1 : w31.cell? ⟨P, 1, none⟩ = some (.int .u16 (m1 : Int)) := HBa.out.cell 1
        have p2 : w31.cell? ⟨P, 2, none⟩ = some (.slice da dl dcap) := HBa.out.cell 2
        have qf0 := HSa.out.frz
        have q9 := (HSa.out.cfg).2.2.2.2.2.1
        have HCa := hide (HP.out.own HOW.out HOa.out)
        obtain ⟨i0, hi, hz0, hz1, hz2⟩ := info_parts pchanI
        have HII := hide hi
        clear hi
        obtain ⟨rec, hrec⟩ : ∃ x : ChanR, x = ⟨n, m1, ds, da, dcap⟩ := ⟨_, rfl⟩
        have HRE : Hid (chanL rec = [.int .u16 (n : Int), .int .u16 (m1 : Int), .slice da dl dcap]) := hide (by rw [hrec]; rw [HDL.out]; rfl)
        have HREC := hide hrec
        clear hrec
        have HRD : Hid (Reads (w31.alloc (.cells #[.int .u16 (n : Int), .int .u16 (m1 : Int), .slice da dl dcap] 57)).drew (w31.heap.size + 1) 3 (some ⟨w31.heap.size, 0, none⟩) 1 (chanL rec)) := hide (by rw [HRE.out]; exact pnew_reads w31 #[.int .u16 (n : Int), .int .u16 (m1 : Int), .slice da dl dcap] 57 3 rfl)
        go_region_law (refine step_append_any _ rfl (.tmp 86) (.tmp 88) 27 rfl (X + 1) 57 i0 _ 3 32 Tryz.underlying27 HII.out hz0 hz1 hz2 rfl (by decide) (.slice c.chans.a c.chans.l.length c.chans.c) c.chans.l.length (c.chans.l.flatMap chanL) (by simp [Act.eval]) ((HCa.out.chans.alloc _).drew) (w31.heap.size + 1) (some ⟨w31.heap.size, 0, none⟩) 1 1 (chanL rec) (by simp [Act.eval]) HRD.out (pchanO rec) (by simp only [maxLen]; omega) (by omega) (by simp; omega) ?_; intro v9 w9 ho9 hg9 hat9; obtain ⟨a9, c9, hv9⟩ := own_slice ho9; subst hv9; have HGR := hide hg9; have HO9 := hide ho9; have HS9 := hide ((HSa.out.alloc (.cells #[.int .u16 (n : Int), .int .u16 (m1 : Int), .slice da dl dcap] 57)).drew.grown hg9 (fun r hr => by have := (HCa.out.chans.lt r hr).1; omega)); have q10 := (HS9.out.cfg).2.2.2.2.2.1; have qf := HS9.out.frz; have hX9 := HS9.out.lt; clear ho9 hg9 hat9)
        all_goals
          have HC9 : Hid (OwnC (X + 1) { c with chans := ⟨c.chans.l ++ [rec], a9, c9⟩ } w9) := hide (by
            have HCx := (HCa.out.alloc (.cells #[.int .u16 (n : Int), .int .u16 (m1 : Int), .slice da dl dcap] 57)).drew
            have HDy := HDa.out
            rw [HDL.out] at HDy
            have HDx := (HDy.alloc (.cells #[.int .u16 (n : Int), .int .u16 (m1 : Int), .slice da dl dcap] 57)).drew
            exact HCx.pushC (x := rec) (by rw [HREC.out]; exact HDx) HO9.out HGR.out)
          have HSN := hide (HS9.out.setC (c.chans.l ++ [rec]) a9 c9)
          have HCN := hide (OwnC.setPr HS9.out HC9.out 6 (.slice a9 (c.chans.l ++ [rec]).length c9))
          have HLOW : Hid (Below X w (w9.setCell ⟨X, 6, none⟩ (.slice a9 (c.chans.l ++ [rec]).length c9))) := hide (((((HOa.out.low hXl).alloc (by omega) (.cells #[.int .u16 (n : Int), .int .u16 (m1 : Int), .slice da dl dcap] 57)).drew).grown HGR.out (by simp; omega) (fun r hr => by have := (HCa.out.chans.lt r hr).1; omega)).setCell (by simp) _)
          have HMK := hide ((MK.grown (((MK.of_only HOa.out).alloc (.cells #[.int .u16 (n : Int), .int .u16 (m1 : Int), .slice da dl dcap] 57)).drew) ((HCa.out.chans.alloc (.cells #[.int .u16 (n : Int), .int .u16 (m1 : Int), .slice da dl dcap] 57)).drew) HGR.out).setX 6 (.slice a9 (c.chans.l ++ [rec]).length c9))
          have hlen : (c.chans.l ++ [rec]).length = c.chans.l.length + 1 := by simp
          rw [hlen] at HSN HCN HLOW HMK
          go_wp2_with fail
          first | go_end0 | (refine bodyPost_ret (results_none rfl _ _ _) rfl ?_)
          have HLK : linksN (c.chans.l ++ [rec]) = ke := by rw [linksN_push, HREC.out, HKE.out, HDL.out]
          refine ⟨HLOW.out, .inl ⟨_, _, ?_, rfl, (show PrAt X _ _ (linksN (c.chans.l ++ [rec])) _ by rw [HLK]; exact HSN.out), HCN.out, HMK.out⟩⟩
          rw [HRS.out]
          unfold chanT
          rw [bindT_ok H4.out, bindT_ok H5.out, bindT_ok H6.out, bindT_ok HLKD.out, bindT_ok H31.out]
          rw [HREC.out]
          rw [pcOf_chanP]; rfl
end Go.Proofs.YtcnihmlmaigkdaaGreatDoor
