/- The parser's record of kind 3 (chapter 07). Written by genprrec.py. The parser's record of kind 4 (chapter 07). Written by genprrec.py. The parser's destinations: the plain law, the loop's state (chapter 07). -/
import Derived.Test.YtcnihmlmaigkdaaGreatDoorMPrAt
import Derived.RegionDies
import Derived.Test.YtcnihmlmaigkdaaGreatDoorMPaSpec
namespace Go.Proofs.YtcnihmlmaigkdaaGreatDoor
open Go.RowKit Go.Lib Go.Sort
set_option linter.unusedVariables false

set_option maxRecDepth 100000 in
set_option maxHeartbeats 16000000 in
theorem PRec3_calls (X : Nat) (l : List Token) (c : Cfg) (t : Token) (w : World) (h : PrAt X l c (linksN c.chans.l) w) (ho : OwnC (X + 1) c w) :
    Calls Tryz.prog 82 #[.pointer (some ⟨X, 0, none⟩), .agg (tokV t)] w (RecV 3 X t l c w) := by
  have hXl := h.lt
  have hcnt : cntK (pcOf c) 3 = c.regs.l.length := by first | rfl | (show (c.chans.l.map chanK).length = _; simp)
  have hlm : limN 3 = 1024 := rfl
  have hLB := fun hh W => limit_bad (c.regs.l.length : Int) 1024 t hh W
  have hLO := fun hh W => limit_ok (c.regs.l.length : Int) 1024 t hh W
  have HT0 := hide (fun hh => methT_lim (k := 3) (c := pcOf c) (t := t) (l := l) hh)
  have HT1 := hide (fun hh => methT_ok (k := 3) (c := pcOf c) (t := t) (l := l) hh)
  rw [hcnt, hlm] at HT0 HT1
  have hRV : Hid (∀ e w', RecV 3 X t l c w e w' = RecV 3 X t l c w e w') := hide (fun _ _ => rfl)
  obtain ⟨MT, hMT⟩ : ∃ m, m = methT 3 (pcOf c) t := ⟨_, rfl⟩
  unfold RecV
  rw [← hMT] at HT0 HT1 ⊢
  have HMT := hide hMT
  obtain ⟨q0, q1, q2, q3, q4, q5, q6⟩ := h.cfg
  have HP := hide h
  have HOW := hide ho
  obtain ⟨fl, hfl⟩ : ∃ f : Flt, f = (7, t.line, t.col) := ⟨_, rfl⟩
  rw [← hfl] at HT0 hLB
  obtain ⟨kind, text, v, li, co⟩ := t
  unfold tokV tokC at hLB hLO ⊢
  simp only at hLB hLO ⊢
  generalize (⟨text.toArray⟩ : ByteArray) = y at *
  clear h ho hfl hMT hcnt hlm hRV
  by_cases hlim : 1024 ≤ c.regs.l.length
  · have HLB := hide (hLB (by omega))
    have HRS := hide (HT0.out hlim)
    clear hLB hLO HT0 HT1 hlim
    go_enter Tryz.func82, Tryz.ntmps82
    go_wp2_with fail
    go_region_dies
    all_goals go_wp2_with (go_at_call 134; refine (HLB.out _).mono ?_; rintro e w5 ⟨rfl, hb5⟩; exact ⟨rfl, (by refine Below.trans ?_ (hb5.mono (by simp; omega)); repeat (first | exact Below.refl _ _ | apply Below.drew | refine Below.alloc ?_ (by omega) _)), .inr ⟨fl, HRS.out, rfl⟩⟩)
  · have HLO := hide (hLO (by omega))
    have HRS : Hid (MT l = regT (pcOf c) l) := hide (HT1.out hlim)
    clear hLB hLO HT0 HT1
    have mixed := mixed_progP
    have HID : Hid (∀ l W, PrAt X l c (linksN c.chans.l) W → Calls Tryz.prog 135 #[.pointer (some ⟨X, 0, none⟩)] W fun e w' => RdV (numT 65535) idV X l c (linksN c.chans.l) W e w' ∧ ∀ n r, numT 65535 l = .ok (n, r) → n ≤ 65535) := hide (fun l W hW => pid_calls X l c _ W hW)
    have HNM : Hid (∀ l W, PrAt X l c (linksN c.chans.l) W → Calls Tryz.prog 77 #[.pointer (some ⟨X, 0, none⟩), .int .i64 3] W fun e w' => RdV (takeT 3) tokVal X l c (linksN c.chans.l) W e w' ∧ ∀ t r, takeT 3 l = .ok (t, r) → t.kind = 3) := hide (fun l W hW => takeT_calls 3 (by decide) X l c _ W hW)
    have HTK1 : Hid (∀ l W, PrAt X l c (linksN c.chans.l) W → Calls Tryz.prog 77 #[.pointer (some ⟨X, 0, none⟩), .int .i64 1] W fun e w' => RdV (takeT 1) tokVal X l c (linksN c.chans.l) W e w' ∧ ∀ t r, takeT 1 l = .ok (t, r) → t.kind = 1) := hide (fun l W hW => takeT_calls 1 (by decide) X l c _ W hW)
    have HW := hide (fun x b l W (hW : PrAt X l c (linksN c.chans.l) W) (hb : W.heap.size = b) => want1_at x b X l c _ W hW hb)
    have HW2 := hide (fun x y b l W (hW : PrAt X l c (linksN c.chans.l) W) (hb : W.heap.size = b) => want2_at x y b X l c _ W hW hb)
    have HBG := hide (fun x l W (hW : PrAt X l c (linksN c.chans.l) W) => pbig_calls x X l c _ W hW)
    have HF16 : Hid (∀ x l W, PrAt X l c (linksN c.chans.l) W → Calls Tryz.prog 133 #[.pointer (some ⟨X, 0, none⟩), .string x, .int .u64 65535] W fun e w' => RdV (fieldT x.data.toList 65535) natP X l c (linksN c.chans.l) W e w' ∧ ∀ n r, fieldT x.data.toList 65535 l = .ok (n, r) → n ≤ 65535) := hide (fun x l W hW => pfield_calls x 65535 X l c _ W hW)
    have HF32 : Hid (∀ x l W, PrAt X l c (linksN c.chans.l) W → Calls Tryz.prog 133 #[.pointer (some ⟨X, 0, none⟩), .string x, .int .u64 4294967295] W fun e w' => RdV (fieldT x.data.toList 4294967295) natP X l c (linksN c.chans.l) W e w' ∧ ∀ n r, fieldT x.data.toList 4294967295 l = .ok (n, r) → n ≤ 4294967295) := hide (fun x l W hW => pfield_calls x 4294967295 X l c _ W hW)
    have HCH := hide (fun a b l W (hW : PrAt X l c (linksN c.chans.l) W) => second_calls a b X l c _ W hW)
    go_enter Tryz.func82, Tryz.ntmps82
    go_wp2_with fail
    go_cut [] (fun wx => Hid (Below w.heap.size w wx))
    case first =>
      go_region_with (go_at_call 134; refine (HLO.out _).mono ?_; rintro e w5 ⟨rfl, hb5⟩; have HB5 : Hid (Below w.heap.size w w5) := hide (by refine Below.trans ?_ (hb5.mono (by simp)); repeat (first | exact Below.refl _ _ | apply Below.drew | refine Below.alloc ?_ (by omega) _)); clear hb5)
      all_goals
        go_wp2_with fail
        go_meet
        exact HB5
    case rest =>
      have HP0 := hide (HP.out.below hcut.out)
      have HO0 := hide (OnlyX.below (OnlyX.refl X w) hcut.out)
      have hXc := HP0.out.lt
      clear hcut q0 q1 q2 q3 q4 q5 q6
      go_wp2_with fail
      refine (HID.out _ _ HP0.out).mono ?_
      rintro e w4 ⟨⟨ho4, ⟨n, r4, h4, rfl, hs4⟩ | ⟨f, h4, rfl⟩⟩, hb4⟩
      rotate_left
      exact ⟨rfl, OnlyX.low (OnlyX.trans HO0.out ho4) hXl, .inr ⟨f, by rw [HRS.out]; unfold regT; rw [bindT_err h4], rfl⟩⟩
      have hv4 := hb4 _ _ h4
      clear hb4
      have HO4 := hide (OnlyX.trans HO0.out ho4)
      have H4 := hide h4
      have HS4 := hide hs4
      have hX4 : X < w4.heap.size := hs4.lt
      have w16_4 : IntKind.u16.wrap (n : Int) = (n : Int) := by rw [IntKind.wrap_u16]; omega
      clear ho4 h4 hs4
      unfold idV
      go_wp2_with fail
      refine (HW.out ⟨#[123]⟩ _ _ _ (HS4.out.alloc _) (by simp)).mono ?_
      rintro e w5 ⟨ho5, ⟨u, r5, h5, rfl, hs5⟩ | ⟨f, h5, rfl⟩⟩
      rotate_left
      exact ⟨rfl, OnlyX.low (OnlyX.trans (OnlyX.alloc (HO4.out.alloc _) _) ho5) hXl, .inr ⟨f, by rw [HRS.out]; unfold regT; rw [bindT_ok H4.out, bindT_err h5], rfl⟩⟩
      have HO5 := hide (OnlyX.trans (OnlyX.alloc (HO4.out.alloc _) _) ho5)
      have H5 := hide h5
      have HS5 := hide hs5
      have hX5 : X < w5.heap.size := hs5.lt
      have hXP : X < w4.heap.size := HS4.out.lt
      have hwP : w.heap.size ≤ w4.heap.size := HO4.out.size
      have HB5 : Hid (Blk w5 w4.heap.size 54 #[.int .u64 0, .int .u64 0, .int .u16 (n : Int), .int .u8 0, .bool false]) := hide (ho5.blk ((Blk.new w4 54 #[.int .u64 0, .int .u64 0, .int .u16 (n : Int), .int .u8 0, .bool false]).alloc _) (by omega))
      have p0 : w5.cell? ⟨w4.heap.size, 0, none⟩ = some (.int .u64 0) := HB5.out.cell 0
      have p1 : w5.cell? ⟨w4.heap.size, 1, none⟩ = some (.int .u64 0) := HB5.out.cell 1
      have p2 : w5.cell? ⟨w4.heap.size, 2, none⟩ = some (.int .u16 (n : Int)) := HB5.out.cell 2
      have p3 : w5.cell? ⟨w4.heap.size, 3, none⟩ = some (.int .u8 0) := HB5.out.cell 3
      have p4 : w5.cell? ⟨w4.heap.size, 4, none⟩ = some (.bool false) := HB5.out.cell 4
      have pf := fun i => HB5.out.frozen i
      have hPw : w4.heap.size < w5.heap.size := HB5.out.lt
      clear ho5 h5 hs5
      unfold unitV2
      go_wp2_with fail
      refine (HBG.out ⟨#[98, 97, 115, 101]⟩ _ _ HS5.out).mono ?_
      rintro e w6 ⟨⟨ho6, ⟨m1, r6, h6, rfl, hs6⟩ | ⟨f, h6, rfl⟩⟩, hb6⟩
      rotate_left
      exact ⟨rfl, OnlyX.low (OnlyX.trans HO5.out ho6) hXl, .inr ⟨f, by rw [HRS.out]; unfold regT; rw [bindT_ok H4.out, bindT_ok H5.out, bindT_err h6], rfl⟩⟩
      have hv6 := hb6 _ _ h6
      clear hb6
      have HO6 := hide (OnlyX.trans HO5.out ho6)
      have H6 := hide h6
      have HS6 := hide hs6
      have hX6 : X < w6.heap.size := hs6.lt
      have HB6 : Hid (Blk w6 w4.heap.size 54 #[.int .u64 0, .int .u64 0, .int .u16 (n : Int), .int .u8 0, .bool false]) := hide (ho6.blk HB5.out (by omega))
      clear p0 p1 p2 p3 p4 pf hPw
      have p0 : w6.cell? ⟨w4.heap.size, 0, none⟩ = some (.int .u64 0) := HB6.out.cell 0
      have p1 : w6.cell? ⟨w4.heap.size, 1, none⟩ = some (.int .u64 0) := HB6.out.cell 1
      have p2 : w6.cell? ⟨w4.heap.size, 2, none⟩ = some (.int .u16 (n : Int)) := HB6.out.cell 2
      have p3 : w6.cell? ⟨w4.heap.size, 3, none⟩ = some (.int .u8 0) := HB6.out.cell 3
      have p4 : w6.cell? ⟨w4.heap.size, 4, none⟩ = some (.bool false) := HB6.out.cell 4
      have pf := fun i => HB6.out.frozen i
      have hPw : w4.heap.size < w6.heap.size := HB6.out.lt
      clear ho6 h6 hs6
      unfold natP
      go_wp2_with fail
      refine (HBG.out ⟨#[115, 105, 122, 101]⟩ _ _ HS6.out).mono ?_
      rintro e w7 ⟨⟨ho7, ⟨m2, r7, h7, rfl, hs7⟩ | ⟨f, h7, rfl⟩⟩, hb7⟩
      rotate_left
      exact ⟨rfl, OnlyX.low (OnlyX.trans HO6.out ho7) hXl, .inr ⟨f, by rw [HRS.out]; unfold regT; rw [bindT_ok H4.out, bindT_ok H5.out, bindT_ok H6.out, bindT_err h7], rfl⟩⟩
      have hv7 := hb7 _ _ h7
      clear hb7
      have HO7 := hide (OnlyX.trans HO6.out ho7)
      have H7 := hide h7
      have HS7 := hide hs7
      have hX7 : X < w7.heap.size := hs7.lt
      have HB7 : Hid (Blk w7 w4.heap.size 54 #[.int .u64 0, .int .u64 0, .int .u16 (n : Int), .int .u8 0, .bool false]) := hide (ho7.blk HB6.out (by omega))
      clear p0 p1 p2 p3 p4 pf hPw
      have p0 : w7.cell? ⟨w4.heap.size, 0, none⟩ = some (.int .u64 0) := HB7.out.cell 0
      have p1 : w7.cell? ⟨w4.heap.size, 1, none⟩ = some (.int .u64 0) := HB7.out.cell 1
      have p2 : w7.cell? ⟨w4.heap.size, 2, none⟩ = some (.int .u16 (n : Int)) := HB7.out.cell 2
      have p3 : w7.cell? ⟨w4.heap.size, 3, none⟩ = some (.int .u8 0) := HB7.out.cell 3
      have p4 : w7.cell? ⟨w4.heap.size, 4, none⟩ = some (.bool false) := HB7.out.cell 4
      have pf := fun i => HB7.out.frozen i
      have hPw : w4.heap.size < w7.heap.size := HB7.out.lt
      clear ho7 h7 hs7
      unfold natP
      go_wp2_with fail
      refine (HW.out ⟨#[114, 105, 103, 104, 116, 115]⟩ _ _ _ ((HS7.out.far (p := ⟨w4.heap.size, 0, none⟩) hXP (.int .u64 (m1 : Int))).far (p := ⟨w4.heap.size, 1, none⟩) hXP (.int .u64 (m2 : Int))) (by simp)).mono ?_
      rintro e w8 ⟨ho8, ⟨u, r8, h8, rfl, hs8⟩ | ⟨f, h8, rfl⟩⟩
      rotate_left
      exact ⟨rfl, OnlyX.low (OnlyX.trans (OnlyX.alloc ((HO7.out.setNew (p := ⟨w4.heap.size, 0, none⟩) hwP (.int .u64 (m1 : Int))).setNew (p := ⟨w4.heap.size, 1, none⟩) hwP (.int .u64 (m2 : Int))) _) ho8) hXl, .inr ⟨f, by rw [HRS.out]; unfold regT; rw [bindT_ok H4.out, bindT_ok H5.out, bindT_ok H6.out, bindT_ok H7.out, bindT_err h8], rfl⟩⟩
      have HO8 := hide (OnlyX.trans (OnlyX.alloc ((HO7.out.setNew (p := ⟨w4.heap.size, 0, none⟩) hwP (.int .u64 (m1 : Int))).setNew (p := ⟨w4.heap.size, 1, none⟩) hwP (.int .u64 (m2 : Int))) _) ho8)
      have H8 := hide h8
      have HS8 := hide hs8
      have hX8 : X < w8.heap.size := hs8.lt
      have HB8 : Hid (Blk w8 w4.heap.size 54 #[.int .u64 (m1 : Int), .int .u64 (m2 : Int), .int .u16 (n : Int), .int .u8 0, .bool false]) := hide (ho8.blk (((HB7.out.set_ 0 (.int .u64 (m1 : Int))).set_ 1 (.int .u64 (m2 : Int))).alloc _) (by omega))
      clear p0 p1 p2 p3 p4 pf hPw
      have p0 : w8.cell? ⟨w4.heap.size, 0, none⟩ = some (.int .u64 (m1 : Int)) := HB8.out.cell 0
      have p1 : w8.cell? ⟨w4.heap.size, 1, none⟩ = some (.int .u64 (m2 : Int)) := HB8.out.cell 1
      have p2 : w8.cell? ⟨w4.heap.size, 2, none⟩ = some (.int .u16 (n : Int)) := HB8.out.cell 2
      have p3 : w8.cell? ⟨w4.heap.size, 3, none⟩ = some (.int .u8 0) := HB8.out.cell 3
      have p4 : w8.cell? ⟨w4.heap.size, 4, none⟩ = some (.bool false) := HB8.out.cell 4
      have pf := fun i => HB8.out.frozen i
      have hPw : w4.heap.size < w8.heap.size := HB8.out.lt
      clear ho8 h8 hs8
      unfold unitV2
      go_wp2_with fail
      refine (HTK1.out _ _ HS8.out).mono ?_
      rintro e w9 ⟨⟨ho9, ⟨tn, r9, h9, rfl, hs9⟩ | ⟨f, h9, rfl⟩⟩, hb9⟩
      rotate_left
      exact ⟨rfl, OnlyX.low (OnlyX.trans HO8.out ho9) hXl, .inr ⟨f, by rw [HRS.out]; unfold regT; rw [bindT_ok H4.out, bindT_ok H5.out, bindT_ok H6.out, bindT_ok H7.out, bindT_ok H8.out, bindT_err (rights_we h9)], rfl⟩⟩
      clear hb9
      have HB9 := hide (ho9.blk HB8.out (by omega))
      have HO9 := hide (OnlyX.trans HO8.out ho9)
      have HS9 := hide hs9
      have hX9 : X < w9.heap.size := hs9.lt
      have HTT := hide h9
      have HE1 := hide (fun hn => rights_wn (t := tn) h9 hn)
      have HE2 := hide (fun m hn => rights_w (t := tn) (n := m) h9 hn)
      have HFA := hide (fun W => fail_calls 4 tn W)
      obtain ⟨tnk, tnt, tnv, tnl, tnc⟩ := tn
      have HRR := hide (fun W => Rights_calls (⟨tnt.toArray⟩ : ByteArray) W)
      have hF9 := HFA.out
      have hR9 := HRR.out
      have e9 : (⟨tnt.toArray⟩ : ByteArray).data.toList = tnt := rfl
      rw [e9] at hR9
      unfold tokV tokC at hF9
      simp only at hF9
      clear HFA HRR e9 ho9 hs9 h9 HTT
      unfold tokVal tokV tokC
      simp only
      generalize (⟨tnt.toArray⟩ : ByteArray) = nm at *
      have HFA := hide hF9
      have HRR := hide hR9
      clear hF9 hR9
      clear p0 p1 p2 p3 p4 pf hPw
      have p0 : w9.cell? ⟨w4.heap.size, 0, none⟩ = some (.int .u64 (m1 : Int)) := HB9.out.cell 0
      have p1 : w9.cell? ⟨w4.heap.size, 1, none⟩ = some (.int .u64 (m2 : Int)) := HB9.out.cell 1
      have p2 : w9.cell? ⟨w4.heap.size, 2, none⟩ = some (.int .u16 (n : Int)) := HB9.out.cell 2
      have p3 : w9.cell? ⟨w4.heap.size, 3, none⟩ = some (.int .u8 0) := HB9.out.cell 3
      have p4 : w9.cell? ⟨w4.heap.size, 4, none⟩ = some (.bool false) := HB9.out.cell 4
      have pf := fun i => HB9.out.frozen i
      have hPw : w4.heap.size < w9.heap.size := HB9.out.lt
      have hm9 : ∀ m, rightsN tnt = some m → m ≤ 7 := fun m h => (word_rights h).1
      cases ho9 : rightsN tnt with
      | none =>
        rw [ho9] at HRR
        have HE := hide (HE1.out ho9)
        clear HE1 HE2 ho9 hm9
        go_wp2_with (go_at_call 136; refine (HRR.out _).mono ?_; rintro e w20 ⟨rfl, hb20⟩; have HB20 := hide hb20; have hc0 := (Blk.new w9 132 #[.int .i64 (tnk : Int), .string nm, .int .u64 (tnv : Int), .int .i64 (tnl : Int), .int .i64 (tnc : Int)]).below hb20 (by simp); have z0 := hc0.cell 0; have z1 := hc0.cell 1; have z2 := hc0.cell 2; have z3 := hc0.cell 3; have z4 := hc0.cell 4; have hzl := hc0.lt; clear hb20 hc0)
        refine (HFA.out _).mono ?_
        rintro e w21 ⟨rfl, hb21⟩
        exact ⟨rfl, OnlyX.low ((((HO9.out).alloc _).below HB20.out).below hb21) hXl, .inr ⟨_, by rw [HRS.out]; unfold regT; rw [bindT_ok H4.out, bindT_ok H5.out, bindT_ok H6.out, bindT_ok H7.out, bindT_ok H8.out, bindT_err HE.out], rfl⟩⟩
      | some m3 =>
        rw [ho9] at HRR
        have hm3 := hm9 m3 ho9
        have HR3 := hide (HE2.out m3 ho9)
        clear HE1 HE2 ho9 hm9
        have HSp := HS9
        have HBp := HB9
        go_wp2_with (go_at_call 136; refine (HRR.out _).mono ?_; rintro e w10 ⟨rfl, hb10⟩; have HO10 := hide (((HO9.out).alloc (.cells #[.int .i64 (tnk : Int), .string nm, .int .u64 (tnv : Int), .int .i64 (tnl : Int), .int .i64 (tnc : Int)] 132)).below hb10); have HS10 := hide ((HSp.out.alloc (.cells #[.int .i64 (tnk : Int), .string nm, .int .u64 (tnv : Int), .int .i64 (tnl : Int), .int .i64 (tnc : Int)] 132)).below hb10); have HB10 := hide ((HBp.out.alloc (.cells #[.int .i64 (tnk : Int), .string nm, .int .u64 (tnv : Int), .int .i64 (tnl : Int), .int .i64 (tnc : Int)] 132)).below hb10 (by have := HBp.out.lt; simp; omega)); have hX10 := HS10.out.lt; clear hb10)
        clear p0 p1 p2 p3 p4 pf hPw
        have p0 : w10.cell? ⟨w4.heap.size, 0, none⟩ = some (.int .u64 (m1 : Int)) := HB10.out.cell 0
        have p1 : w10.cell? ⟨w4.heap.size, 1, none⟩ = some (.int .u64 (m2 : Int)) := HB10.out.cell 1
        have p2 : w10.cell? ⟨w4.heap.size, 2, none⟩ = some (.int .u16 (n : Int)) := HB10.out.cell 2
        have p3 : w10.cell? ⟨w4.heap.size, 3, none⟩ = some (.int .u8 0) := HB10.out.cell 3
        have p4 : w10.cell? ⟨w4.heap.size, 4, none⟩ = some (.bool false) := HB10.out.cell 4
        have pf := fun i => HB10.out.frozen i
        have hPw : w4.heap.size < w10.heap.size := HB10.out.lt
        refine (HW.out ⟨#[59]⟩ _ _ _ HS10.out (by simp)).mono ?_
        rintro e w11 ⟨ho11, ⟨u, r11, h11, rfl, hs11⟩ | ⟨f, h11, rfl⟩⟩
        rotate_left
        exact ⟨rfl, OnlyX.low (OnlyX.trans (OnlyX.alloc HO10.out _) ho11) hXl, .inr ⟨f, by rw [HRS.out]; unfold regT; rw [bindT_ok H4.out, bindT_ok H5.out, bindT_ok H6.out, bindT_ok H7.out, bindT_ok H8.out, bindT_ok HR3.out, bindT_err h11], rfl⟩⟩
        have HO11 := hide (OnlyX.trans (OnlyX.alloc HO10.out _) ho11)
        have H11 := hide h11
        have HS11 := hide hs11
        have hX11 : X < w11.heap.size := hs11.lt
        have HB11 : Hid (Blk w11 w4.heap.size 54 #[.int .u64 (m1 : Int), .int .u64 (m2 : Int), .int .u16 (n : Int), .int .u8 0, .bool false]) := hide (ho11.blk (HB10.out.alloc _) (by omega))
        clear p0 p1 p2 p3 p4 pf hPw
        have p0 : w11.cell? ⟨w4.heap.size, 0, none⟩ = some (.int .u64 (m1 : Int)) := HB11.out.cell 0
        have p1 : w11.cell? ⟨w4.heap.size, 1, none⟩ = some (.int .u64 (m2 : Int)) := HB11.out.cell 1
        have p2 : w11.cell? ⟨w4.heap.size, 2, none⟩ = some (.int .u16 (n : Int)) := HB11.out.cell 2
        have p3 : w11.cell? ⟨w4.heap.size, 3, none⟩ = some (.int .u8 0) := HB11.out.cell 3
        have p4 : w11.cell? ⟨w4.heap.size, 4, none⟩ = some (.bool false) := HB11.out.cell 4
        have pf := fun i => HB11.out.frozen i
        have hPw : w4.heap.size < w11.heap.size := HB11.out.lt
        clear ho11 h11 hs11
        unfold unitV2
        go_wp2_with fail
        obtain ⟨lq, hlq⟩ : ∃ l, l = r11 := ⟨_, rfl⟩
        cases hsh : isT [115, 104, 97, 114, 101, 100] r11 with
        | false =>
          have HSH := hide hsh
          refine (is_at ⟨#[115, 104, 97, 114, 101, 100]⟩ X r11 c _ _ (HS11.out.far (p := ⟨w4.heap.size, 3, none⟩) hXP (.int .u8 (m3 : Int)))).mono ?_
          rintro e w12 ⟨rfl, hb12⟩
          rw [show isT (⟨#[115, 104, 97, 114, 101, 100]⟩ : ByteArray).data.toList r11 = false from HSH.out]
          have HO12 := hide (OnlyX.below (HO11.out.setNew (p := ⟨w4.heap.size, 3, none⟩) hwP (.int .u8 (m3 : Int))) hb12)
          have HS12 := hide (PrAt.below (HS11.out.far (p := ⟨w4.heap.size, 3, none⟩) hXP (.int .u8 (m3 : Int))) hb12)
          have hX12 : X < w12.heap.size := HS12.out.lt
          have HB12 := hide (Blk.below (HB11.out.set_ 3 (.int .u8 (m3 : Int))) hb12 (by have := HB11.out.lt; simp; omega))
          clear hb12 hsh
          clear p0 p1 p2 p3 p4 pf hPw
          have p0 : w12.cell? ⟨w4.heap.size, 0, none⟩ = some (.int .u64 (m1 : Int)) := HB12.out.cell 0
          have p1 : w12.cell? ⟨w4.heap.size, 1, none⟩ = some (.int .u64 (m2 : Int)) := HB12.out.cell 1
          have p2 : w12.cell? ⟨w4.heap.size, 2, none⟩ = some (.int .u16 (n : Int)) := HB12.out.cell 2
          have p3 : w12.cell? ⟨w4.heap.size, 3, none⟩ = some (.int .u8 (m3 : Int)) := HB12.out.cell 3
          have p4 : w12.cell? ⟨w4.heap.size, 4, none⟩ = some (.bool false) := HB12.out.cell 4
          have pf := fun i => HB12.out.frozen i
          have hPw : w4.heap.size < w12.heap.size := HB12.out.lt
          go_wp2_with fail
          have HSa := hide (HS12.out)
          have HOa := hide (HO12.out)
          have HBa : Hid (Blk w12 w4.heap.size 54 #[.int .u64 (m1 : Int), .int .u64 (m2 : Int), .int .u16 (n : Int), .int .u8 (m3 : Int), .bool false]) := hide HB12.out
          have hXa := HSa.out.lt
          have hPa := HBa.out.lt
          have hwa := HOa.out.size
          clear p0 p1 p2 p3 p4 pf hPw
          have p0 : w12.cell? ⟨w4.heap.size, 0, none⟩ = some (.int .u64 (m1 : Int)) := HBa.out.cell 0
          have p1 : w12.cell? ⟨w4.heap.size, 1, none⟩ = some (.int .u64 (m2 : Int)) := HBa.out.cell 1
          have p2 : w12.cell? ⟨w4.heap.size, 2, none⟩ = some (.int .u16 (n : Int)) := HBa.out.cell 2
          have p3 : w12.cell? ⟨w4.heap.size, 3, none⟩ = some (.int .u8 (m3 : Int)) := HBa.out.cell 3
          have p4 : w12.cell? ⟨w4.heap.size, 4, none⟩ = some (.bool false) := HBa.out.cell 4
          have qf0 := HSa.out.frz
          have q9 := (HSa.out.cfg).2.2.2.1
          have HCa := hide (HP.out.own HOW.out HOa.out)
          obtain ⟨i0, hi, hz0, hz1, hz2⟩ := info_parts pregI
          have HII := hide hi
          clear hi
          obtain ⟨rec, hrec⟩ : ∃ x : RegR, x = ⟨m1, m2, n, m3, false⟩ := ⟨_, rfl⟩
          have HRE : Hid (regL rec = [.int .u64 (m1 : Int), .int .u64 (m2 : Int), .int .u16 (n : Int), .int .u8 (m3 : Int), .bool false]) := hide (by rw [hrec]; rfl)
          have HREC := hide hrec
          clear hrec
          have HRD : Hid (Reads (w12.alloc (.cells #[.int .u64 (m1 : Int), .int .u64 (m2 : Int), .int .u16 (n : Int), .int .u8 (m3 : Int), .bool false] 54)).drew (w12.heap.size + 1) 5 (some ⟨w12.heap.size, 0, none⟩) 1 (regL rec)) := hide (by rw [HRE.out]; exact pnew_reads w12 #[.int .u64 (m1 : Int), .int .u64 (m2 : Int), .int .u16 (n : Int), .int .u8 (m3 : Int), .bool false] 54 5 rfl)
          go_region_law (refine step_append_any _ rfl (.tmp 59) (.tmp 61) 25 rfl (X + 1) 54 i0 _ 5 24 Tryz.underlying25 HII.out hz0 hz1 hz2 rfl (by decide) (.slice c.regs.a c.regs.l.length c.regs.c) c.regs.l.length (c.regs.l.flatMap regL) (by simp [Act.eval]) ((HCa.out.regs.alloc _).drew) (w12.heap.size + 1) (some ⟨w12.heap.size, 0, none⟩) 1 1 (regL rec) (by simp [Act.eval]) HRD.out (pregO rec) (by simp only [maxLen]; omega) (by omega) (by simp; omega) ?_; intro v9 w9 ho9 hg9 hat9; obtain ⟨a9, c9, hv9⟩ := own_slice ho9; subst hv9; have HGR := hide hg9; have HO9 := hide ho9; have HS9 := hide ((HSa.out.alloc (.cells #[.int .u64 (m1 : Int), .int .u64 (m2 : Int), .int .u16 (n : Int), .int .u8 (m3 : Int), .bool false] 54)).drew.grown hg9 (fun r hr => by have := (HCa.out.regs.lt r hr).1; omega)); have q10 := (HS9.out.cfg).2.2.2.1; have qf := HS9.out.frz; have hX9 := HS9.out.lt; clear ho9 hg9 hat9)
          all_goals
            have HC9 : Hid (OwnC (X + 1) { c with regs := ⟨c.regs.l ++ [rec], a9, c9⟩ } w9) := hide (by
              have HCx := (HCa.out.alloc (.cells #[.int .u64 (m1 : Int), .int .u64 (m2 : Int), .int .u16 (n : Int), .int .u8 (m3 : Int), .bool false] 54)).drew
              exact HCx.pushR HO9.out HGR.out)
            have HSN := hide (HS9.out.setR (c.regs.l ++ [rec]) a9 c9)
            have HCN := hide (OwnC.setPr HS9.out HC9.out 4 (.slice a9 (c.regs.l ++ [rec]).length c9))
            have HLOW : Hid (Below X w (w9.setCell ⟨X, 4, none⟩ (.slice a9 (c.regs.l ++ [rec]).length c9))) := hide (((((HOa.out.low hXl).alloc (by omega) (.cells #[.int .u64 (m1 : Int), .int .u64 (m2 : Int), .int .u16 (n : Int), .int .u8 (m3 : Int), .bool false] 54)).drew).grown HGR.out (by simp; omega) (fun r hr => by have := (HCa.out.regs.lt r hr).1; omega)).setCell (by simp) _)
            have HMK := hide ((MK.grown (((MK.of_only HOa.out).alloc (.cells #[.int .u64 (m1 : Int), .int .u64 (m2 : Int), .int .u16 (n : Int), .int .u8 (m3 : Int), .bool false] 54)).drew) ((HCa.out.regs.alloc (.cells #[.int .u64 (m1 : Int), .int .u64 (m2 : Int), .int .u16 (n : Int), .int .u8 (m3 : Int), .bool false] 54)).drew) HGR.out).setX 4 (.slice a9 (c.regs.l ++ [rec]).length c9))
            have hlen : (c.regs.l ++ [rec]).length = c.regs.l.length + 1 := by simp
            rw [hlen] at HSN HCN HLOW HMK
            go_wp2_with fail
            first | go_end0 | (refine bodyPost_ret (results_none rfl _ _ _) rfl ?_)
            refine ⟨HLOW.out, .inl ⟨_, _, ?_, rfl, HSN.out, HCN.out, HMK.out⟩⟩
            rw [HRS.out]
            unfold regT
            rw [bindT_ok H4.out, bindT_ok H5.out, bindT_ok H6.out, bindT_ok H7.out, bindT_ok H8.out, bindT_ok HR3.out, bindT_ok H11.out, bindT_ok (shared_wn HSH.out)]
            rw [HREC.out]
            rfl
        | true =>
          have HSH := hide hsh
          refine (is_at ⟨#[115, 104, 97, 114, 101, 100]⟩ X r11 c _ _ (HS11.out.far (p := ⟨w4.heap.size, 3, none⟩) hXP (.int .u8 (m3 : Int)))).mono ?_
          rintro e w12 ⟨rfl, hb12⟩
          rw [show isT (⟨#[115, 104, 97, 114, 101, 100]⟩ : ByteArray).data.toList r11 = true from HSH.out]
          have HO12 := hide (OnlyX.below (HO11.out.setNew (p := ⟨w4.heap.size, 3, none⟩) hwP (.int .u8 (m3 : Int))) hb12)
          have HS12 := hide (PrAt.below (HS11.out.far (p := ⟨w4.heap.size, 3, none⟩) hXP (.int .u8 (m3 : Int))) hb12)
          have hX12 : X < w12.heap.size := HS12.out.lt
          have HB12 := hide (Blk.below (HB11.out.set_ 3 (.int .u8 (m3 : Int))) hb12 (by have := HB11.out.lt; simp; omega))
          clear hb12 hsh
          clear p0 p1 p2 p3 p4 pf hPw
          have p0 : w12.cell? ⟨w4.heap.size, 0, none⟩ = some (.int .u64 (m1 : Int)) := HB12.out.cell 0
          have p1 : w12.cell? ⟨w4.heap.size, 1, none⟩ = some (.int .u64 (m2 : Int)) := HB12.out.cell 1
          have p2 : w12.cell? ⟨w4.heap.size, 2, none⟩ = some (.int .u16 (n : Int)) := HB12.out.cell 2
          have p3 : w12.cell? ⟨w4.heap.size, 3, none⟩ = some (.int .u8 (m3 : Int)) := HB12.out.cell 3
          have p4 : w12.cell? ⟨w4.heap.size, 4, none⟩ = some (.bool false) := HB12.out.cell 4
          have pf := fun i => HB12.out.frozen i
          have hPw : w4.heap.size < w12.heap.size := HB12.out.lt
          go_wp2_with fail
          refine (HW2.out ⟨#[115, 104, 97, 114, 101, 100]⟩ ⟨#[59]⟩ _ _ _ HS12.out (by simp)).mono ?_
          rintro e w13 ⟨ho13, ⟨u, r13, h13, rfl, hs13⟩ | ⟨f, h13, rfl⟩⟩
          rotate_left
          exact ⟨rfl, OnlyX.low (OnlyX.trans (OnlyX.alloc HO12.out _) ho13) hXl, .inr ⟨f, by rw [HRS.out]; unfold regT; rw [bindT_ok H4.out, bindT_ok H5.out, bindT_ok H6.out, bindT_ok H7.out, bindT_ok H8.out, bindT_ok HR3.out, bindT_ok H11.out, bindT_err (shared_we HSH.out h13)], rfl⟩⟩
          have HO13 := hide (OnlyX.trans (OnlyX.alloc HO12.out _) ho13)
          have HS13 := hide hs13
          have hX13 : X < w13.heap.size := hs13.lt
          have HB13 := hide (ho13.blk (Blk.alloc HB12.out _) (by omega))
          have HSW := hide (shared_w HSH.out h13)
          clear ho13 hs13 h13
          unfold unitV2
          clear p0 p1 p2 p3 p4 pf hPw
          have p0 : w13.cell? ⟨w4.heap.size, 0, none⟩ = some (.int .u64 (m1 : Int)) := HB13.out.cell 0
          have p1 : w13.cell? ⟨w4.heap.size, 1, none⟩ = some (.int .u64 (m2 : Int)) := HB13.out.cell 1
          have p2 : w13.cell? ⟨w4.heap.size, 2, none⟩ = some (.int .u16 (n : Int)) := HB13.out.cell 2
          have p3 : w13.cell? ⟨w4.heap.size, 3, none⟩ = some (.int .u8 (m3 : Int)) := HB13.out.cell 3
          have p4 : w13.cell? ⟨w4.heap.size, 4, none⟩ = some (.bool false) := HB13.out.cell 4
          have pf := fun i => HB13.out.frozen i
          have hPw : w4.heap.size < w13.heap.size := HB13.out.lt
          go_wp2_with fail
          have HSa := hide ((HS13.out.far (p := ⟨w4.heap.size, 4, none⟩) hXP (.bool true)))
          have HOa := hide ((HO13.out.setNew (p := ⟨w4.heap.size, 4, none⟩) hwP (.bool true)))
          have HBa : Hid (Blk (w13.setCell ⟨w4.heap.size, 4, none⟩ (.bool true)) w4.heap.size 54 #[.int .u64 (m1 : Int), .int .u64 (m2 : Int), .int .u16 (n : Int), .int .u8 (m3 : Int), .bool true]) := hide (HB13.out.set_ 4 (.bool true))
          have hXa := HSa.out.lt
          have hPa := HBa.out.lt
          have hwa := HOa.out.size
          clear p0 p1 p2 p3 p4 pf hPw
          generalize (w13.setCell ⟨w4.heap.size, 4, none⟩ (.bool true)) = Wa at *
          have p0 : Wa.cell? ⟨w4.heap.size, 0, none⟩ = some (.int .u64 (m1 : Int)) := HBa.out.cell 0
          have p1 : Wa.cell? ⟨w4.heap.size, 1, none⟩ = some (.int .u64 (m2 : Int)) := HBa.out.cell 1
          have p2 : Wa.cell? ⟨w4.heap.size, 2, none⟩ = some (.int .u16 (n : Int)) := HBa.out.cell 2
          have p3 : Wa.cell? ⟨w4.heap.size, 3, none⟩ = some (.int .u8 (m3 : Int)) := HBa.out.cell 3
          have p4 : Wa.cell? ⟨w4.heap.size, 4, none⟩ = some (.bool true) := HBa.out.cell 4
          have qf0 := HSa.out.frz
          have q9 := (HSa.out.cfg).2.2.2.1
          have HCa := hide (HP.out.own HOW.out HOa.out)
          obtain ⟨i0, hi, hz0, hz1, hz2⟩ := info_parts pregI
          have HII := hide hi
          clear hi
          obtain ⟨rec, hrec⟩ : ∃ x : RegR, x = ⟨m1, m2, n, m3, true⟩ := ⟨_, rfl⟩
          have HRE : Hid (regL rec = [.int .u64 (m1 : Int), .int .u64 (m2 : Int), .int .u16 (n : Int), .int .u8 (m3 : Int), .bool true]) := hide (by rw [hrec]; rfl)
          have HREC := hide hrec
          clear hrec
          have HRD : Hid (Reads (Wa.alloc (.cells #[.int .u64 (m1 : Int), .int .u64 (m2 : Int), .int .u16 (n : Int), .int .u8 (m3 : Int), .bool true] 54)).drew (Wa.heap.size + 1) 5 (some ⟨Wa.heap.size, 0, none⟩) 1 (regL rec)) := hide (by rw [HRE.out]; exact pnew_reads Wa #[.int .u64 (m1 : Int), .int .u64 (m2 : Int), .int .u16 (n : Int), .int .u8 (m3 : Int), .bool true] 54 5 rfl)
          go_region_law (refine step_append_any _ rfl (.tmp 59) (.tmp 61) 25 rfl (X + 1) 54 i0 _ 5 24 Tryz.underlying25 HII.out hz0 hz1 hz2 rfl (by decide) (.slice c.regs.a c.regs.l.length c.regs.c) c.regs.l.length (c.regs.l.flatMap regL) (by simp [Act.eval]) ((HCa.out.regs.alloc _).drew) (Wa.heap.size + 1) (some ⟨Wa.heap.size, 0, none⟩) 1 1 (regL rec) (by simp [Act.eval]) HRD.out (pregO rec) (by simp only [maxLen]; omega) (by omega) (by simp; omega) ?_; intro v9 w9 ho9 hg9 hat9; obtain ⟨a9, c9, hv9⟩ := own_slice ho9; subst hv9; have HGR := hide hg9; have HO9 := hide ho9; have HS9 := hide ((HSa.out.alloc (.cells #[.int .u64 (m1 : Int), .int .u64 (m2 : Int), .int .u16 (n : Int), .int .u8 (m3 : Int), .bool true] 54)).drew.grown hg9 (fun r hr => by have := (HCa.out.regs.lt r hr).1; omega)); have q10 := (HS9.out.cfg).2.2.2.1; have qf := HS9.out.frz; have hX9 := HS9.out.lt; clear ho9 hg9 hat9)
          all_goals
            have HC9 : Hid (OwnC (X + 1) { c with regs := ⟨c.regs.l ++ [rec], a9, c9⟩ } w9) := hide (by
              have HCx := (HCa.out.alloc (.cells #[.int .u64 (m1 : Int), .int .u64 (m2 : Int), .int .u16 (n : Int), .int .u8 (m3 : Int), .bool true] 54)).drew
              exact HCx.pushR HO9.out HGR.out)
            have HSN := hide (HS9.out.setR (c.regs.l ++ [rec]) a9 c9)
            have HCN := hide (OwnC.setPr HS9.out HC9.out 4 (.slice a9 (c.regs.l ++ [rec]).length c9))
            have HLOW : Hid (Below X w (w9.setCell ⟨X, 4, none⟩ (.slice a9 (c.regs.l ++ [rec]).length c9))) := hide (((((HOa.out.low hXl).alloc (by omega) (.cells #[.int .u64 (m1 : Int), .int .u64 (m2 : Int), .int .u16 (n : Int), .int .u8 (m3 : Int), .bool true] 54)).drew).grown HGR.out (by simp; omega) (fun r hr => by have := (HCa.out.regs.lt r hr).1; omega)).setCell (by simp) _)
            have HMK := hide ((MK.grown (((MK.of_only HOa.out).alloc (.cells #[.int .u64 (m1 : Int), .int .u64 (m2 : Int), .int .u16 (n : Int), .int .u8 (m3 : Int), .bool true] 54)).drew) ((HCa.out.regs.alloc (.cells #[.int .u64 (m1 : Int), .int .u64 (m2 : Int), .int .u16 (n : Int), .int .u8 (m3 : Int), .bool true] 54)).drew) HGR.out).setX 4 (.slice a9 (c.regs.l ++ [rec]).length c9))
            have hlen : (c.regs.l ++ [rec]).length = c.regs.l.length + 1 := by simp
            rw [hlen] at HSN HCN HLOW HMK
            go_wp2_with fail
            first | go_end0 | (refine bodyPost_ret (results_none rfl _ _ _) rfl ?_)
            refine ⟨HLOW.out, .inl ⟨_, _, ?_, rfl, HSN.out, HCN.out, HMK.out⟩⟩
            rw [HRS.out]
            unfold regT
            rw [bindT_ok H4.out, bindT_ok H5.out, bindT_ok H6.out, bindT_ok H7.out, bindT_ok H8.out, bindT_ok HR3.out, bindT_ok H11.out, bindT_ok HSW.out]
            rw [HREC.out]
            rfl
end Go.Proofs.YtcnihmlmaigkdaaGreatDoor
namespace Go.Proofs.YtcnihmlmaigkdaaGreatDoor
open Go.RowKit Go.Lib Go.Sort
set_option linter.unusedVariables false

set_option maxRecDepth 100000 in
set_option maxHeartbeats 16000000 in
theorem PRec4_calls (X : Nat) (l : List Token) (c : Cfg) (t : Token) (w : World) (h : PrAt X l c (linksN c.chans.l) w) (ho : OwnC (X + 1) c w) :
    Calls Tryz.prog 83 #[.pointer (some ⟨X, 0, none⟩), .agg (tokV t)] w (RecV 4 X t l c w) := by
  have hXl := h.lt
  have hcnt : cntK (pcOf c) 4 = c.ports.l.length := by first | rfl | (show (c.chans.l.map chanK).length = _; simp)
  have hlm : limN 4 = 1024 := rfl
  have hLB := fun hh W => limit_bad (c.ports.l.length : Int) 1024 t hh W
  have hLO := fun hh W => limit_ok (c.ports.l.length : Int) 1024 t hh W
  have HT0 := hide (fun hh => methT_lim (k := 4) (c := pcOf c) (t := t) (l := l) hh)
  have HT1 := hide (fun hh => methT_ok (k := 4) (c := pcOf c) (t := t) (l := l) hh)
  rw [hcnt, hlm] at HT0 HT1
  have hRV : Hid (∀ e w', RecV 4 X t l c w e w' = RecV 4 X t l c w e w') := hide (fun _ _ => rfl)
  obtain ⟨MT, hMT⟩ : ∃ m, m = methT 4 (pcOf c) t := ⟨_, rfl⟩
  unfold RecV
  rw [← hMT] at HT0 HT1 ⊢
  have HMT := hide hMT
  obtain ⟨q0, q1, q2, q3, q4, q5, q6⟩ := h.cfg
  have HP := hide h
  have HOW := hide ho
  obtain ⟨fl, hfl⟩ : ∃ f : Flt, f = (7, t.line, t.col) := ⟨_, rfl⟩
  rw [← hfl] at HT0 hLB
  obtain ⟨kind, text, v, li, co⟩ := t
  unfold tokV tokC at hLB hLO ⊢
  simp only at hLB hLO ⊢
  generalize (⟨text.toArray⟩ : ByteArray) = y at *
  clear h ho hfl hMT hcnt hlm hRV
  by_cases hlim : 1024 ≤ c.ports.l.length
  · have HLB := hide (hLB (by omega))
    have HRS := hide (HT0.out hlim)
    clear hLB hLO HT0 HT1 hlim
    go_enter Tryz.func83, Tryz.ntmps83
    go_wp2_with fail
    go_region_dies
    all_goals go_wp2_with (go_at_call 134; refine (HLB.out _).mono ?_; rintro e w5 ⟨rfl, hb5⟩; exact ⟨rfl, (by refine Below.trans ?_ (hb5.mono (by simp; omega)); repeat (first | exact Below.refl _ _ | apply Below.drew | refine Below.alloc ?_ (by omega) _)), .inr ⟨fl, HRS.out, rfl⟩⟩)
  · have HLO := hide (hLO (by omega))
    have HRS : Hid (MT l = portT (pcOf c) l) := hide (HT1.out hlim)
    clear hLB hLO HT0 HT1
    have mixed := mixed_progP
    have HID : Hid (∀ l W, PrAt X l c (linksN c.chans.l) W → Calls Tryz.prog 135 #[.pointer (some ⟨X, 0, none⟩)] W fun e w' => RdV (numT 65535) idV X l c (linksN c.chans.l) W e w' ∧ ∀ n r, numT 65535 l = .ok (n, r) → n ≤ 65535) := hide (fun l W hW => pid_calls X l c _ W hW)
    have HNM : Hid (∀ l W, PrAt X l c (linksN c.chans.l) W → Calls Tryz.prog 77 #[.pointer (some ⟨X, 0, none⟩), .int .i64 3] W fun e w' => RdV (takeT 3) tokVal X l c (linksN c.chans.l) W e w' ∧ ∀ t r, takeT 3 l = .ok (t, r) → t.kind = 3) := hide (fun l W hW => takeT_calls 3 (by decide) X l c _ W hW)
    have HTK1 : Hid (∀ l W, PrAt X l c (linksN c.chans.l) W → Calls Tryz.prog 77 #[.pointer (some ⟨X, 0, none⟩), .int .i64 1] W fun e w' => RdV (takeT 1) tokVal X l c (linksN c.chans.l) W e w' ∧ ∀ t r, takeT 1 l = .ok (t, r) → t.kind = 1) := hide (fun l W hW => takeT_calls 1 (by decide) X l c _ W hW)
    have HW := hide (fun x b l W (hW : PrAt X l c (linksN c.chans.l) W) (hb : W.heap.size = b) => want1_at x b X l c _ W hW hb)
    have HW2 := hide (fun x y b l W (hW : PrAt X l c (linksN c.chans.l) W) (hb : W.heap.size = b) => want2_at x y b X l c _ W hW hb)
    have HBG := hide (fun x l W (hW : PrAt X l c (linksN c.chans.l) W) => pbig_calls x X l c _ W hW)
    have HF16 : Hid (∀ x l W, PrAt X l c (linksN c.chans.l) W → Calls Tryz.prog 133 #[.pointer (some ⟨X, 0, none⟩), .string x, .int .u64 65535] W fun e w' => RdV (fieldT x.data.toList 65535) natP X l c (linksN c.chans.l) W e w' ∧ ∀ n r, fieldT x.data.toList 65535 l = .ok (n, r) → n ≤ 65535) := hide (fun x l W hW => pfield_calls x 65535 X l c _ W hW)
    have HF32 : Hid (∀ x l W, PrAt X l c (linksN c.chans.l) W → Calls Tryz.prog 133 #[.pointer (some ⟨X, 0, none⟩), .string x, .int .u64 4294967295] W fun e w' => RdV (fieldT x.data.toList 4294967295) natP X l c (linksN c.chans.l) W e w' ∧ ∀ n r, fieldT x.data.toList 4294967295 l = .ok (n, r) → n ≤ 4294967295) := hide (fun x l W hW => pfield_calls x 4294967295 X l c _ W hW)
    have HCH := hide (fun a b l W (hW : PrAt X l c (linksN c.chans.l) W) => second_calls a b X l c _ W hW)
    go_enter Tryz.func83, Tryz.ntmps83
    go_wp2_with fail
    go_cut [] (fun wx => Hid (Below w.heap.size w wx))
    case first =>
      go_region_with (go_at_call 134; refine (HLO.out _).mono ?_; rintro e w5 ⟨rfl, hb5⟩; have HB5 : Hid (Below w.heap.size w w5) := hide (by refine Below.trans ?_ (hb5.mono (by simp)); repeat (first | exact Below.refl _ _ | apply Below.drew | refine Below.alloc ?_ (by omega) _)); clear hb5)
      all_goals
        go_wp2_with fail
        go_meet
        exact HB5
    case rest =>
      have HP0 := hide (HP.out.below hcut.out)
      have HO0 := hide (OnlyX.below (OnlyX.refl X w) hcut.out)
      have hXc := HP0.out.lt
      clear hcut q0 q1 q2 q3 q4 q5 q6
      go_wp2_with fail
      refine (HID.out _ _ HP0.out).mono ?_
      rintro e w4 ⟨⟨ho4, ⟨n, r4, h4, rfl, hs4⟩ | ⟨f, h4, rfl⟩⟩, hb4⟩
      rotate_left
      exact ⟨rfl, OnlyX.low (OnlyX.trans HO0.out ho4) hXl, .inr ⟨f, by rw [HRS.out]; unfold portT; rw [bindT_err h4], rfl⟩⟩
      have hv4 := hb4 _ _ h4
      clear hb4
      have HO4 := hide (OnlyX.trans HO0.out ho4)
      have H4 := hide h4
      have HS4 := hide hs4
      have hX4 : X < w4.heap.size := hs4.lt
      have w16_4 : IntKind.u16.wrap (n : Int) = (n : Int) := by rw [IntKind.wrap_u16]; omega
      clear ho4 h4 hs4
      unfold idV
      go_wp2_with fail
      refine (HNM.out _ _ HS4.out).mono ?_
      rintro e w5 ⟨⟨ho5, ⟨tn, r5, h5, rfl, hs5⟩ | ⟨f, h5, rfl⟩⟩, hb5⟩
      rotate_left
      exact ⟨rfl, OnlyX.low (OnlyX.trans HO4.out ho5) hXl, .inr ⟨f, by rw [HRS.out]; unfold portT; rw [bindT_ok H4.out, bindT_err h5], rfl⟩⟩
      have hv5 := hb5 _ _ h5
      clear hb5
      have HO5 := hide (OnlyX.trans HO4.out ho5)
      have H5 := hide h5
      have HS5 := hide hs5
      have hX5 : X < w5.heap.size := hs5.lt
      obtain ⟨tnk, tnt, tnv, tnl, tnc⟩ := tn
      have HNMT : Hid ((⟨tnt.toArray⟩ : ByteArray) = nameB tnt) := hide rfl
      unfold tokVal tokV tokC
      simp only
      generalize (⟨tnt.toArray⟩ : ByteArray) = nm at *
      have hf1 := fun W => ptok_f1 (tnk : Int) (tnv : Int) (tnl : Int) (tnc : Int) nm W
      clear ho5 h5 hs5
      go_wp2_with fail
      refine (HW.out ⟨#[123]⟩ _ _ _ (HS5.out.alloc _) (by simp)).mono ?_
      rintro e w6 ⟨ho6, ⟨u, r6, h6, rfl, hs6⟩ | ⟨f, h6, rfl⟩⟩
      rotate_left
      exact ⟨rfl, OnlyX.low (OnlyX.trans (OnlyX.alloc (HO5.out.alloc _) _) ho6) hXl, .inr ⟨f, by rw [HRS.out]; unfold portT; rw [bindT_ok H4.out, bindT_ok H5.out, bindT_err h6], rfl⟩⟩
      have HO6 := hide (OnlyX.trans (OnlyX.alloc (HO5.out.alloc _) _) ho6)
      have H6 := hide h6
      have HS6 := hide hs6
      have hX6 : X < w6.heap.size := hs6.lt
      have hXP : X < w5.heap.size := HS5.out.lt
      have hwP : w.heap.size ≤ w5.heap.size := HO5.out.size
      have HB6 : Hid (Blk w6 w5.heap.size 74 #[.int .u16 (n : Int), .int .u16 0, .string nm, .bool false, .bool false, .int .u32 0]) := hide (ho6.blk ((Blk.new w5 74 #[.int .u16 (n : Int), .int .u16 0, .string nm, .bool false, .bool false, .int .u32 0]).alloc _) (by omega))
      have p0 : w6.cell? ⟨w5.heap.size, 0, none⟩ = some (.int .u16 (n : Int)) := HB6.out.cell 0
      have p1 : w6.cell? ⟨w5.heap.size, 1, none⟩ = some (.int .u16 0) := HB6.out.cell 1
      have p2 : w6.cell? ⟨w5.heap.size, 2, none⟩ = some (.string nm) := HB6.out.cell 2
      have p3 : w6.cell? ⟨w5.heap.size, 3, none⟩ = some (.bool false) := HB6.out.cell 3
      have p4 : w6.cell? ⟨w5.heap.size, 4, none⟩ = some (.bool false) := HB6.out.cell 4
      have p5 : w6.cell? ⟨w5.heap.size, 5, none⟩ = some (.int .u32 0) := HB6.out.cell 5
      have pf := fun i => HB6.out.frozen i
      have hPw : w5.heap.size < w6.heap.size := HB6.out.lt
      clear ho6 h6 hs6
      unfold unitV2
      go_wp2_with fail
      refine (HF16.out ⟨#[112, 97, 114, 116, 105, 116, 105, 111, 110]⟩ _ _ HS6.out).mono ?_
      rintro e w7 ⟨⟨ho7, ⟨m1, r7, h7, rfl, hs7⟩ | ⟨f, h7, rfl⟩⟩, hb7⟩
      rotate_left
      exact ⟨rfl, OnlyX.low (OnlyX.trans HO6.out ho7) hXl, .inr ⟨f, by rw [HRS.out]; unfold portT; rw [bindT_ok H4.out, bindT_ok H5.out, bindT_ok H6.out, bindT_err h7], rfl⟩⟩
      have hv7 := hb7 _ _ h7
      clear hb7
      have HO7 := hide (OnlyX.trans HO6.out ho7)
      have H7 := hide h7
      have HS7 := hide hs7
      have hX7 : X < w7.heap.size := hs7.lt
      have HB7 : Hid (Blk w7 w5.heap.size 74 #[.int .u16 (n : Int), .int .u16 0, .string nm, .bool false, .bool false, .int .u32 0]) := hide (ho7.blk HB6.out (by omega))
      clear p0 p1 p2 p3 p4 p5 pf hPw
      have p0 : w7.cell? ⟨w5.heap.size, 0, none⟩ = some (.int .u16 (n : Int)) := HB7.out.cell 0
      have p1 : w7.cell? ⟨w5.heap.size, 1, none⟩ = some (.int .u16 0) := HB7.out.cell 1
      have p2 : w7.cell? ⟨w5.heap.size, 2, none⟩ = some (.string nm) := HB7.out.cell 2
      have p3 : w7.cell? ⟨w5.heap.size, 3, none⟩ = some (.bool false) := HB7.out.cell 3
      have p4 : w7.cell? ⟨w5.heap.size, 4, none⟩ = some (.bool false) := HB7.out.cell 4
      have p5 : w7.cell? ⟨w5.heap.size, 5, none⟩ = some (.int .u32 0) := HB7.out.cell 5
      have pf := fun i => HB7.out.frozen i
      have hPw : w5.heap.size < w7.heap.size := HB7.out.lt
      have w16_7 : IntKind.u16.wrap (m1 : Int) = (m1 : Int) := by rw [IntKind.wrap_u16]; omega
      clear ho7 h7 hs7
      unfold natP
      go_wp2_with fail
      refine (HCH.out ⟨#[105, 110, 112, 117, 116]⟩ ⟨#[111, 117, 116, 112, 117, 116]⟩ _ _ (HS7.out.far (p := ⟨w5.heap.size, 1, none⟩) hXP (.int .u16 (m1 : Int)))).mono ?_
      rintro e w8 ⟨ho8, ⟨q1, r8, h8, rfl, hs8⟩ | ⟨f, h8, rfl⟩⟩
      rotate_left
      exact ⟨rfl, OnlyX.low (OnlyX.trans (HO7.out.setNew (p := ⟨w5.heap.size, 1, none⟩) hwP (.int .u16 (m1 : Int))) ho8) hXl, .inr ⟨f, by rw [HRS.out]; unfold portT; rw [bindT_ok H4.out, bindT_ok H5.out, bindT_ok H6.out, bindT_ok H7.out, bindT_err h8], rfl⟩⟩
      have HO8 := hide (OnlyX.trans (HO7.out.setNew (p := ⟨w5.heap.size, 1, none⟩) hwP (.int .u16 (m1 : Int))) ho8)
      have H8 := hide h8
      have HS8 := hide hs8
      have hX8 : X < w8.heap.size := hs8.lt
      have HB8 : Hid (Blk w8 w5.heap.size 74 #[.int .u16 (n : Int), .int .u16 (m1 : Int), .string nm, .bool false, .bool false, .int .u32 0]) := hide (ho8.blk (HB7.out.set_ 1 (.int .u16 (m1 : Int))) (by omega))
      clear p0 p1 p2 p3 p4 p5 pf hPw
      have p0 : w8.cell? ⟨w5.heap.size, 0, none⟩ = some (.int .u16 (n : Int)) := HB8.out.cell 0
      have p1 : w8.cell? ⟨w5.heap.size, 1, none⟩ = some (.int .u16 (m1 : Int)) := HB8.out.cell 1
      have p2 : w8.cell? ⟨w5.heap.size, 2, none⟩ = some (.string nm) := HB8.out.cell 2
      have p3 : w8.cell? ⟨w5.heap.size, 3, none⟩ = some (.bool false) := HB8.out.cell 3
      have p4 : w8.cell? ⟨w5.heap.size, 4, none⟩ = some (.bool false) := HB8.out.cell 4
      have p5 : w8.cell? ⟨w5.heap.size, 5, none⟩ = some (.int .u32 0) := HB8.out.cell 5
      have pf := fun i => HB8.out.frozen i
      have hPw : w5.heap.size < w8.heap.size := HB8.out.lt
      clear ho8 h8 hs8
      unfold boolV2
      go_wp2_with fail
      refine (HCH.out ⟨#[115, 97, 109, 112, 108, 105, 110, 103]⟩ ⟨#[113, 117, 101, 117, 105, 110, 103]⟩ _ _ HS8.out).mono ?_
      rintro e w9 ⟨ho9, ⟨q2, r9, h9, rfl, hs9⟩ | ⟨f, h9, rfl⟩⟩
      rotate_left
      exact ⟨rfl, OnlyX.low (OnlyX.trans HO8.out ho9) hXl, .inr ⟨f, by rw [HRS.out]; unfold portT; rw [bindT_ok H4.out, bindT_ok H5.out, bindT_ok H6.out, bindT_ok H7.out, bindT_ok H8.out, bindT_err h9], rfl⟩⟩
      have HO9 := hide (OnlyX.trans HO8.out ho9)
      have H9 := hide h9
      have HS9 := hide hs9
      have hX9 : X < w9.heap.size := hs9.lt
      have HB9 : Hid (Blk w9 w5.heap.size 74 #[.int .u16 (n : Int), .int .u16 (m1 : Int), .string nm, .bool false, .bool false, .int .u32 0]) := hide (ho9.blk HB8.out (by omega))
      clear p0 p1 p2 p3 p4 p5 pf hPw
      have p0 : w9.cell? ⟨w5.heap.size, 0, none⟩ = some (.int .u16 (n : Int)) := HB9.out.cell 0
      have p1 : w9.cell? ⟨w5.heap.size, 1, none⟩ = some (.int .u16 (m1 : Int)) := HB9.out.cell 1
      have p2 : w9.cell? ⟨w5.heap.size, 2, none⟩ = some (.string nm) := HB9.out.cell 2
      have p3 : w9.cell? ⟨w5.heap.size, 3, none⟩ = some (.bool false) := HB9.out.cell 3
      have p4 : w9.cell? ⟨w5.heap.size, 4, none⟩ = some (.bool false) := HB9.out.cell 4
      have p5 : w9.cell? ⟨w5.heap.size, 5, none⟩ = some (.int .u32 0) := HB9.out.cell 5
      have pf := fun i => HB9.out.frozen i
      have hPw : w5.heap.size < w9.heap.size := HB9.out.lt
      clear ho9 h9 hs9
      unfold boolV2
      go_wp2_with fail
      refine (HF32.out ⟨#[115, 105, 122, 101]⟩ _ _ ((HS9.out.far (p := ⟨w5.heap.size, 3, none⟩) hXP (.bool q1)).far (p := ⟨w5.heap.size, 4, none⟩) hXP (.bool q2))).mono ?_
      rintro e w10 ⟨⟨ho10, ⟨m2, r10, h10, rfl, hs10⟩ | ⟨f, h10, rfl⟩⟩, hb10⟩
      rotate_left
      exact ⟨rfl, OnlyX.low (OnlyX.trans ((HO9.out.setNew (p := ⟨w5.heap.size, 3, none⟩) hwP (.bool q1)).setNew (p := ⟨w5.heap.size, 4, none⟩) hwP (.bool q2)) ho10) hXl, .inr ⟨f, by rw [HRS.out]; unfold portT; rw [bindT_ok H4.out, bindT_ok H5.out, bindT_ok H6.out, bindT_ok H7.out, bindT_ok H8.out, bindT_ok H9.out, bindT_err h10], rfl⟩⟩
      have hv10 := hb10 _ _ h10
      clear hb10
      have HO10 := hide (OnlyX.trans ((HO9.out.setNew (p := ⟨w5.heap.size, 3, none⟩) hwP (.bool q1)).setNew (p := ⟨w5.heap.size, 4, none⟩) hwP (.bool q2)) ho10)
      have H10 := hide h10
      have HS10 := hide hs10
      have hX10 : X < w10.heap.size := hs10.lt
      have HB10 : Hid (Blk w10 w5.heap.size 74 #[.int .u16 (n : Int), .int .u16 (m1 : Int), .string nm, .bool q1, .bool q2, .int .u32 0]) := hide (ho10.blk ((HB9.out.set_ 3 (.bool q1)).set_ 4 (.bool q2)) (by omega))
      clear p0 p1 p2 p3 p4 p5 pf hPw
      have p0 : w10.cell? ⟨w5.heap.size, 0, none⟩ = some (.int .u16 (n : Int)) := HB10.out.cell 0
      have p1 : w10.cell? ⟨w5.heap.size, 1, none⟩ = some (.int .u16 (m1 : Int)) := HB10.out.cell 1
      have p2 : w10.cell? ⟨w5.heap.size, 2, none⟩ = some (.string nm) := HB10.out.cell 2
      have p3 : w10.cell? ⟨w5.heap.size, 3, none⟩ = some (.bool q1) := HB10.out.cell 3
      have p4 : w10.cell? ⟨w5.heap.size, 4, none⟩ = some (.bool q2) := HB10.out.cell 4
      have p5 : w10.cell? ⟨w5.heap.size, 5, none⟩ = some (.int .u32 0) := HB10.out.cell 5
      have pf := fun i => HB10.out.frozen i
      have hPw : w5.heap.size < w10.heap.size := HB10.out.lt
      have w32_10 : IntKind.u32.wrap (m2 : Int) = (m2 : Int) := by rw [IntKind.wrap_u32]; omega
      clear ho10 h10 hs10
      unfold natP
      go_wp2_with fail
      have HSa := hide ((HS10.out.far (p := ⟨w5.heap.size, 5, none⟩) hXP (.int .u32 (m2 : Int))))
      have HOa := hide ((HO10.out.setNew (p := ⟨w5.heap.size, 5, none⟩) hwP (.int .u32 (m2 : Int))))
      have HBa : Hid (Blk (w10.setCell ⟨w5.heap.size, 5, none⟩ (.int .u32 (m2 : Int))) w5.heap.size 74 #[.int .u16 (n : Int), .int .u16 (m1 : Int), .string nm, .bool q1, .bool q2, .int .u32 (m2 : Int)]) := hide (HB10.out.set_ 5 (.int .u32 (m2 : Int)))
      have hXa := HSa.out.lt
      have hPa := HBa.out.lt
      have hwa := HOa.out.size
      clear p0 p1 p2 p3 p4 p5 pf hPw
      generalize (w10.setCell ⟨w5.heap.size, 5, none⟩ (.int .u32 (m2 : Int))) = Wa at *
      have p0 : Wa.cell? ⟨w5.heap.size, 0, none⟩ = some (.int .u16 (n : Int)) := HBa.out.cell 0
      have p1 : Wa.cell? ⟨w5.heap.size, 1, none⟩ = some (.int .u16 (m1 : Int)) := HBa.out.cell 1
      have p2 : Wa.cell? ⟨w5.heap.size, 2, none⟩ = some (.string nm) := HBa.out.cell 2
      have p3 : Wa.cell? ⟨w5.heap.size, 3, none⟩ = some (.bool q1) := HBa.out.cell 3
      have p4 : Wa.cell? ⟨w5.heap.size, 4, none⟩ = some (.bool q2) := HBa.out.cell 4
      have p5 : Wa.cell? ⟨w5.heap.size, 5, none⟩ = some (.int .u32 (m2 : Int)) := HBa.out.cell 5
      have qf0 := HSa.out.frz
      have q9 := (HSa.out.cfg).2.2.2.2.1
      have HCa := hide (HP.out.own HOW.out HOa.out)
      obtain ⟨i0, hi, hz0, hz1, hz2⟩ := info_parts pportI
      have HII := hide hi
      clear hi
      obtain ⟨rec, hrec⟩ : ∃ x : PortR, x = ⟨n, m1, nm, q1, q2, m2⟩ := ⟨_, rfl⟩
      have HRE : Hid (portL rec = [.int .u16 (n : Int), .int .u16 (m1 : Int), .string nm, .bool q1, .bool q2, .int .u32 (m2 : Int)]) := hide (by rw [hrec]; rfl)
      have HREC := hide hrec
      clear hrec
      have HRD : Hid (Reads (Wa.alloc (.cells #[.int .u16 (n : Int), .int .u16 (m1 : Int), .string nm, .bool q1, .bool q2, .int .u32 (m2 : Int)] 74)).drew (Wa.heap.size + 1) 6 (some ⟨Wa.heap.size, 0, none⟩) 1 (portL rec)) := hide (by rw [HRE.out]; exact pnew_reads Wa #[.int .u16 (n : Int), .int .u16 (m1 : Int), .string nm, .bool q1, .bool q2, .int .u32 (m2 : Int)] 74 6 rfl)
      go_region_law (refine step_append_any _ rfl (.tmp 41) (.tmp 43) 26 rfl (X + 1) 74 i0 _ 6 32 Tryz.underlying26 HII.out hz0 hz1 hz2 rfl (by decide) (.slice c.ports.a c.ports.l.length c.ports.c) c.ports.l.length (c.ports.l.flatMap portL) (by simp [Act.eval]) ((HCa.out.ports.alloc _).drew) (Wa.heap.size + 1) (some ⟨Wa.heap.size, 0, none⟩) 1 1 (portL rec) (by simp [Act.eval]) HRD.out (pportO rec) (by simp only [maxLen]; omega) (by omega) (by simp; omega) ?_; intro v9 w9 ho9 hg9 hat9; obtain ⟨a9, c9, hv9⟩ := own_slice ho9; subst hv9; have HGR := hide hg9; have HO9 := hide ho9; have HS9 := hide ((HSa.out.alloc (.cells #[.int .u16 (n : Int), .int .u16 (m1 : Int), .string nm, .bool q1, .bool q2, .int .u32 (m2 : Int)] 74)).drew.grown hg9 (fun r hr => by have := (HCa.out.ports.lt r hr).1; omega)); have q10 := (HS9.out.cfg).2.2.2.2.1; have qf := HS9.out.frz; have hX9 := HS9.out.lt; clear ho9 hg9 hat9)
      all_goals
        have HC9 : Hid (OwnC (X + 1) { c with ports := ⟨c.ports.l ++ [rec], a9, c9⟩ } w9) := hide (by
          have HCx := (HCa.out.alloc (.cells #[.int .u16 (n : Int), .int .u16 (m1 : Int), .string nm, .bool q1, .bool q2, .int .u32 (m2 : Int)] 74)).drew
          exact HCx.pushQ HO9.out HGR.out)
        have HSN := hide (HS9.out.setQ (c.ports.l ++ [rec]) a9 c9)
        have HCN := hide (OwnC.setPr HS9.out HC9.out 5 (.slice a9 (c.ports.l ++ [rec]).length c9))
        have HLOW : Hid (Below X w (w9.setCell ⟨X, 5, none⟩ (.slice a9 (c.ports.l ++ [rec]).length c9))) := hide (((((HOa.out.low hXl).alloc (by omega) (.cells #[.int .u16 (n : Int), .int .u16 (m1 : Int), .string nm, .bool q1, .bool q2, .int .u32 (m2 : Int)] 74)).drew).grown HGR.out (by simp; omega) (fun r hr => by have := (HCa.out.ports.lt r hr).1; omega)).setCell (by simp) _)
        have HMK := hide ((MK.grown (((MK.of_only HOa.out).alloc (.cells #[.int .u16 (n : Int), .int .u16 (m1 : Int), .string nm, .bool q1, .bool q2, .int .u32 (m2 : Int)] 74)).drew) ((HCa.out.ports.alloc (.cells #[.int .u16 (n : Int), .int .u16 (m1 : Int), .string nm, .bool q1, .bool q2, .int .u32 (m2 : Int)] 74)).drew) HGR.out).setX 5 (.slice a9 (c.ports.l ++ [rec]).length c9))
        have hlen : (c.ports.l ++ [rec]).length = c.ports.l.length + 1 := by simp
        rw [hlen] at HSN HCN HLOW HMK
        go_wp2_with fail
        first | go_end0 | (refine bodyPost_ret (results_none rfl _ _ _) rfl ?_)
        refine ⟨HLOW.out, .inl ⟨_, _, ?_, rfl, HSN.out, HCN.out, HMK.out⟩⟩
        rw [HRS.out]
        unfold portT
        rw [bindT_ok H4.out, bindT_ok H5.out, bindT_ok H6.out, bindT_ok H7.out, bindT_ok H8.out, bindT_ok H9.out, bindT_ok H10.out]
        rw [HREC.out]
        rw [HNMT.out]; rfl
end Go.Proofs.YtcnihmlmaigkdaaGreatDoor
namespace Go.Proofs.YtcnihmlmaigkdaaGreatDoor
open Go.RowKit Go.Lib Go.Sort
set_option linter.unusedVariables false

def appT (out : List Nat) (x : Except Flt (List Nat × List Token)) : Except Flt (List Nat × List Token) := match x with
  | .ok (ns, r) => .ok (out ++ ns, r)
  | .error e => .error e
theorem appT_nil (x : Except Flt (List Nat × List Token)) : appT [] x = x := by
  unfold appT
  cases x with
  | error e => rfl
  | ok p => obtain ⟨a, b⟩ := p; rfl
theorem appT_app (a b : List Nat) (x : Except Flt (List Nat × List Token)) : appT a (appT b x) = appT (a ++ b) x := by
  unfold appT
  cases x with
  | error e => rfl
  | ok p => obtain ⟨c, d⟩ := p; simp
section
variable {f lk n : Nat} {r r1 : List Token} {e : Flt}
theorem pd_num (h : numT 65535 r = .error e) : destsT (f + 1) lk r = .error e := by unfold destsT; rw [h]
theorem pd_lim (h : numT 65535 r = .ok (n, r1)) (hl : 1024 ≤ lk) : destsT (f + 1) lk r = .error (7, (headP r).1, (headP r).2) := by
  unfold destsT; rw [h]; simp only; rw [if_pos hl]; rfl
theorem pd_last (h : numT 65535 r = .ok (n, r1)) (hl : lk < 1024) (hm : isT [44] r1 = false) : destsT (f + 1) lk r = .ok ([n], r1) := by
  unfold destsT; rw [h]; simp only; rw [if_neg (by omega), hm]; rfl
theorem pd_more (h : numT 65535 r = .ok (n, r1)) (hl : lk < 1024) (hm : isT [44] r1 = true) : destsT (f + 1) lk r = appT [n] (destsT f (lk + 1) r1.tail) := by
  have e0 : destsT (f + 1) lk r = (match destsT f (lk + 1) r1.tail with
      | .error e => .error e
      | .ok (ns, r2) => .ok (n :: ns, r2)) := by
    rw [destsT]; simp only [h]; rw [if_neg (by omega), hm, if_pos rfl]; rfl
  rw [e0]
  unfold appT
  cases destsT f (lk + 1) r1.tail with
  | error e => rfl
  | ok p => obtain ⟨a, b⟩ := p; rfl
theorem pd_kind {t : Token} (h : t.kind ≠ 2) : destsT (f + 1) lk (t :: r) = .error (4, t.line, t.col) := by
  refine pd_num ?_
  unfold numT takeT
  simp only
  rw [if_neg h]
theorem want_tail (x : List UInt8) {u : Unit} (h : wantT x r = .ok (u, r1)) : r1 = r.tail ∧ isT x r = true := by
  unfold wantT at h
  cases hi : isT x r with
  | false => rw [hi] at h; cases h
  | true =>
    rw [hi, if_pos rfl] at h
    injection h with h
    injection h with _ h
    exact ⟨h.symm, rfl⟩
theorem want_is (x : List UInt8) (h : isT x r = true) : wantT x r = .ok ((), r.tail) := by unfold wantT; rw [if_pos h]
theorem two_not {t : Token} (h : t.kind = 2) (x : List UInt8) : isT x (t :: r) = false := by
  show ((t.kind == 1 || t.kind == 4) && t.text == x) = false
  rw [h]
  rfl
end
theorem OnlyX.grownP {X : Nat} {a b w' : World} (h : OnlyX X a b) {row : Option Nat} (hg : b.grownBy w' row) (hr : ∀ r, row = some r → a.heap.size ≤ r) : OnlyX X a w' := But.grown h hg (fun r e => .inr (hr r e))
theorem pu16_info : (Tryz.prog.info? 52).map (fun i => (i.zero, i.size, i.bytes)) = some (some (.int .u16 0), 1, 2) := by kernel_rfl
theorem pone_dest (n : Nat) : ∀ u ∈ [destL n], u.oneCell' = true := by intro u hu; rw [List.mem_singleton] at hu; rw [hu]; rfl
theorem pdest_push (l : List Nat) (n : Nat) : l.map destL ++ [destL n] = (l ++ [n]).map destL := by simp
/-- At the loop's head. -/
structure LcS (X : Nat) (w : World) (P B : Nat) (iv sv : Int) (l0 : List Token) (c : Cfg) (gk : Nat) (out : List Nat) (r : List Token) (a : Option Addr) (cap : Nat) (wr : World) : Prop where
  only : OnlyX X w wr
  st : PrAt X r c (linksN c.chans.l + out.length) wr
  blk : Blk wr P 57 #[.int .u16 iv, .int .u16 sv, .slice a out.length cap]
  own : wr.ownsRow B 52 1 (.slice a out.length cap) out.length (out.map destL)
  len : r.length = gk
  base : B ≤ wr.heap.size
  small : out.length ≤ 1024
  first : out = [] → r = l0
  later : out ≠ [] → isT [59] r = false
  was : out ≠ [] → isT [59] l0 = false
  eq : isT [59] l0 = false → ∃ f, r.length ≤ f ∧ destsT l0.length (linksN c.chans.l) l0 = appT out (destsT f (linksN c.chans.l + out.length) r)
/-- Behind the loop. -/
structure LcE (X : Nat) (w : World) (P B : Nat) (iv sv : Int) (l0 : List Token) (c : Cfg) (out : List Nat) (r : List Token) (a : Option Addr) (cap : Nat) (wr : World) : Prop where
  only : OnlyX X w wr
  st : PrAt X r c (linksN c.chans.l + out.length) wr
  blk : Blk wr P 57 #[.int .u16 iv, .int .u16 sv, .slice a out.length cap]
  own : wr.ownsRow B 52 1 (.slice a out.length cap) out.length (out.map destL)
  eq : linksT (linksN c.chans.l) l0 = .ok (out, r)
theorem LcS.more {X : Nat} {w : World} {P B : Nat} {iv sv : Int} {l0 : List Token} {c : Cfg} {gk : Nat} {out : List Nat} {r : List Token} {a : Option Addr} {cap : Nat} {wr : World} (h : LcS X w P B iv sv l0 c gk out r a cap wr) (hi : isT [59] r = false) (hr : 1 ≤ r.length) :
    ∃ f, r.length ≤ f + 1 ∧ linksT (linksN c.chans.l) l0 = appT out (destsT (f + 1) (linksN c.chans.l + out.length) r) ∧ isT [59] l0 = false := by
  have h0 : isT [59] l0 = false := by
    by_cases ho : out = []
    · rw [← h.first ho]; exact hi
    · exact h.was ho
  obtain ⟨f, h1, h2⟩ := h.eq h0
  obtain ⟨g, rfl⟩ : ∃ g, f = g + 1 := ⟨f - 1, by omega⟩
  refine ⟨g, h1, ?_, h0⟩
  unfold linksT
  rw [if_neg (by rw [h0]; decide)]
  exact h2
theorem LcS.none {X : Nat} {w : World} {P B : Nat} {iv sv : Int} {l0 : List Token} {c : Cfg} {gk : Nat} {out : List Nat} {r : List Token} {a : Option Addr} {cap : Nat} {wr : World} (h : LcS X w P B iv sv l0 c gk out r a cap wr) (hi : isT [59] r = true) : linksT (linksN c.chans.l) l0 = .ok (out, r) := by
  by_cases ho : out = []
  · have hr := h.first ho
    subst ho
    rw [hr] at hi ⊢
    unfold linksT
    rw [if_pos hi]
  · rw [h.later ho] at hi; cases hi
theorem links_dests {l0 : List Token} {L : Nat} (h : isT [59] l0 = false) : linksT L l0 = destsT l0.length L l0 := by unfold linksT; rw [if_neg (by rw [h]; decide)]
theorem linksN_push (l : List ChanR) (x : ChanR) : linksN (l ++ [x]) = linksN l + x.dests.length := by simp [linksN]
theorem toT_links (L : Nat) (l r : List Token) {u : Unit} (h : wantT [116, 111] l = .ok (u, r)) : toT L l = linksT L r := by unfold toT; rw [bindT_ok h]; rfl
theorem toT_err (L : Nat) (l : List Token) {e : Flt} (h : wantT [116, 111] l = .error e) : toT L l = .error e := by unfold toT; rw [bindT_err h]
end Go.Proofs.YtcnihmlmaigkdaaGreatDoor
