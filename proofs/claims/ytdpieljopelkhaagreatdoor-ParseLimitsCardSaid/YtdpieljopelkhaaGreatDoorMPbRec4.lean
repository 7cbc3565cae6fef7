/- The reference's record of kind 4 (chapter 07). Written by genpbrec.py. The reference's record of kind 5 (chapter 07). Written by genpbrec.py. The reference's records (chapter 07). -/
import Derived.Test.YtdpieljopelkhaaGreatDoorMPbRec0
import Derived.Deep.RegionHeld3
import Derived.Deep.DeepCutAuto
import Derived.Test.YtdpieljopelkhaaGreatDoorPbRec3
import Derived.Test.YtdpieljopelkhaaGreatDoorMPaLike
import Derived.Deep.LoopGhost
namespace Go.Proofs.YtdpieljopelkhaaGreatDoor
open Go.RowKit Go.Lib Go.Sort
set_option linter.unusedVariables false

set_option maxRecDepth 100000 in
set_option maxHeartbeats 16000000 in
theorem RRec4_calls (X : Nat) (s : RS) (c : Cfg) (t : Token) (r : List Token) (hl : s.l = t :: r) (he : s.err = none) (hk : t.kind = 1) (w : World) (h : StAt X s c w) (ho : OwnC (X + 1) c w) (hsm : c.Small) :
    Calls Tryz.prog 63 #[.pointer (some ⟨X, 0, none⟩), .int .i64 4] w (RecRV 4 X s c w) := by
  have hXl := h.lt
  have hts := takeS_on he hl (by omega)
  have hT := RTake_calls X s c t r hl w h
  rw [hts] at hT
  have HT0 : Hid (∀ sF cF, Lf (restT 4 (pcOf c)) (if limN 4 ≤ cntK (pcOf c) 4 then failS 7 t ⟨r, none⟩ else ⟨r, none⟩) cF sF → Lf (recordT 4 (pcOf c)) s cF sF) := hide (fun sF cF hL => by
    by_cases hlim : limN 4 ≤ cntK (pcOf c) 4
    · rw [if_pos hlim] at hL
      exact Lf.record_lim he hl hk (failS_err rfl 7) hlim hL
    · rw [if_neg hlim] at hL
      exact Lf.record_ok he hl hk rfl (by omega) hL)
  obtain ⟨kind, text, v, li, co⟩ := t
  have hF := fun W (hW : StAt X ⟨r, none⟩ c W) => RFail_calls X ⟨r, none⟩ c 7 (by omega) ⟨kind, text, v, li, co⟩ W hW
  unfold tokV tokC at hT hF
  simp only at hT hF hk
  subst hk
  obtain ⟨y, hy⟩ : ∃ y : ByteArray, y = ⟨text.toArray⟩ := ⟨_, rfl⟩
  rw [← hy] at hT hF
  have HTK : Hid (Calls Tryz.prog 60 #[.pointer (some ⟨X, 0, none⟩)] w fun e w' => e = .returned (.agg #[.int .i64 1, .string y, .int .u64 (v : Int), .int .i64 (li : Int), .int .i64 (co : Int)]) ∧ OnlyX X w w' ∧ StAt X ⟨r, none⟩ c w') := hide hT
  have HF : Hid (∀ W, StAt X ⟨r, none⟩ c W → Calls Tryz.prog 58 #[.pointer (some ⟨X, 0, none⟩), .int .i64 7, .agg #[.int .i64 1, .string y, .int .u64 (v : Int), .int .i64 (li : Int), .int .i64 (co : Int)]] W fun e w' => e = .returned (.tuple #[]) ∧ OnlyX X W w' ∧ StAt X (failS 7 ⟨1, text, v, li, co⟩ ⟨r, none⟩) c w') := hide hF
  have hNI : (c.ports.l.length : Int) ≤ 1048576 := by unfold Cfg.Small at hsm; omega
  have HCt : Hid (∀ W, CfgAt W.heap.size c W → Calls Tryz.prog 96 #[.agg #[.int .u64 (c.frame : Int), .slice c.parts.a c.parts.l.length c.parts.c, .slice c.wins.a c.wins.l.length c.wins.c, .slice c.regs.a c.regs.l.length c.regs.c, .slice c.ports.a c.ports.l.length c.ports.c, .slice c.chans.a c.chans.l.length c.chans.c]] W fun e w' => e = .returned (.agg #[.int .i64 0, .int .i64 (c.parts.l.length : Int), .int .i64 (c.wins.l.length : Int), .int .i64 (c.regs.l.length : Int), .int .i64 (c.ports.l.length : Int), .int .i64 (c.chans.l.length : Int), .int .i64 (linksN c.chans.l : Int)]) ∧ Below W.heap.size W w') := hide (fun W hW => Counts_calls c W hW hsm)
  have HLim : Hid (∀ W, Calls Tryz.prog 97 #[.int .i64 4] W fun e w' => e = .returned (.int .i64 1024) ∧ w' = W) := hide (fun W => RLimit_calls 4 W (by omega))
  have hix := fun a b c d e f w => cnt_ix4 a b c d e f w
  have hcnt : cntK (pcOf c) 4 = c.ports.l.length := rfl
  have hlm : limN 4 = 1024 := rfl
  rw [hcnt, hlm] at HT0
  have HOW := hide ho
  have HSTW := hide h
  obtain ⟨s1, hs1⟩ : ∃ s1 : RS, s1 = ⟨r, none⟩ := ⟨_, rfl⟩
  rw [← hs1] at HTK HF HT0
  have HN : Hid (∀ s W, StAt X s c W → Calls Tryz.prog 61 #[.pointer (some ⟨X, 0, none⟩), .int .u64 65535] W (RfV (numT 65535) natV (fun n => n ≤ 65535) X s c W)) := hide (fun s W hW => RNumber_calls 65535 X s c W hW)
  have HNM := hide (fun s W (hW : StAt X s c W) => RName_calls X s c W hW)
  have HW := hide (fun x s W (hW : StAt X s c W) => RWant_calls x X s c W hW)
  have HFT : Hid (∀ x s W, StAt X s c W → Calls Tryz.prog 26 #[.pointer (some ⟨X, 0, none⟩), .string x, .int .u64 ((topN : Nat) : Int)] W (RfV (fieldT x.data.toList topN) natV (fun n => n ≤ topN) X s c W)) := hide (fun x s W hW => RField_calls x topN X s c W hW)
  have HF16 : Hid (∀ x s W, StAt X s c W → Calls Tryz.prog 26 #[.pointer (some ⟨X, 0, none⟩), .string x, .int .u64 65535] W (RfV (fieldT x.data.toList 65535) natV (fun n => n ≤ 65535) X s c W)) := hide (fun x s W hW => RField_calls x 65535 X s c W hW)
  have HF32 : Hid (∀ x s W, StAt X s c W → Calls Tryz.prog 26 #[.pointer (some ⟨X, 0, none⟩), .string x, .int .u64 4294967295] W (RfV (fieldT x.data.toList 4294967295) natV (fun n => n ≤ 4294967295) X s c W)) := hide (fun x s W hW => RField_calls x 4294967295 X s c W hW)
  have HS1E := hide hs1
  have HSM := hide hsm
  have HCH : Hid (∀ a b s W, StAt X s c W → Calls Tryz.prog 101 #[.pointer (some ⟨X, 0, none⟩), .string a, .string b] W (RfV (choiceT a.data.toList b.data.toList) boolV (fun _ => True) X s c W)) := hide (fun a b s W hW => RChoice_calls a b X s c W hW)
  have HRG := hide (fun s W (hW : StAt X s c W) => RRights7_calls X s c W hW)
  have mixed := mixed_prog
  clear h ho hl he hts hT hF hy hsm hcnt hlm hs1
  have HSX : Hid (∀ W, StAt X s1 c W → (W.cell? ⟨X, 8, none⟩ = some (.int .u64 (c.frame : Int)) ∧ W.cell? ⟨X, 9, none⟩ = some (.slice c.parts.a c.parts.l.length c.parts.c) ∧ W.cell? ⟨X, 10, none⟩ = some (.slice c.wins.a c.wins.l.length c.wins.c) ∧ W.cell? ⟨X, 11, none⟩ = some (.slice c.regs.a c.regs.l.length c.regs.c) ∧ W.cell? ⟨X, 12, none⟩ = some (.slice c.ports.a c.ports.l.length c.ports.c) ∧ W.cell? ⟨X, 13, none⟩ = some (.slice c.chans.a c.chans.l.length c.chans.c) ∧ StAt X s1 c W)) := hide (fun W hW => hW.cfgs)
  obtain ⟨bq, hbq⟩ : ∃ b, b = decide (1024 ≤ c.ports.l.length) := ⟨_, rfl⟩
  have d1 : decide ((1024 : Int) ≤ (c.ports.l.length : Int)) = bq := by
    rw [hbq]
    by_cases h0 : 1024 ≤ c.ports.l.length
    · rw [decide_eq_true h0, decide_eq_true_eq]; omega
    · rw [decide_eq_false h0, decide_eq_false_iff_not]; omega
  have d2 : decide (1024 ≤ c.ports.l.length) = bq := hbq.symm
  obtain ⟨s2, hs2⟩ : ∃ s2, s2 = (if 1024 ≤ c.ports.l.length then failS 7 ⟨1, text, v, li, co⟩ s1 else s1) := ⟨_, rfl⟩
  rw [← hs2] at HT0
  have HSa : Hid (bq = true → s2 = failS 7 ⟨1, text, v, li, co⟩ s1) := hide (fun hb => by rw [hs2, if_pos (by rw [hbq] at hb; simpa using hb)])
  have HSb : Hid (bq = false → s2 = s1) := hide (fun hb => by rw [hs2, if_neg (by rw [hbq] at hb; simpa using hb)])
  clear hbq hs2
  go_enter Tryz.func63, Tryz.ntmps63
  go_wp2_with (go_at_call 60; refine HTK.out.mono ?_; rintro e w2 ⟨rfl, ho2, hs2⟩; have HO2 := hide ho2; have HS2 := hide hs2; have hz2 := ho2.size; clear ho2 hs2)
  have HM1 : Hid (RM X c w w2.heap.size #[.int .i64 1, .string y, .int .u64 (v : Int), .int .i64 (li : Int), .int .i64 (co : Int)] (w2.alloc (.cells #[.int .i64 1, .string y, .int .u64 (v : Int), .int .i64 (li : Int), .int .i64 (co : Int)] 45)).drew) := hide ⟨(HO2.out.alloc _).drew, ((HSTW.out.own HOW.out HO2.out).alloc _).drew, (Blk.new w2 _ _).drew⟩
  have HS1 := hide (HS2.out.alloc (.cells #[.int .i64 1, .string y, .int .u64 (v : Int), .int .i64 (li : Int), .int .i64 (co : Int)] 45)).drew
  have HCF : Hid (∀ W, RM X c w w2.heap.size #[.int .i64 1, .string y, .int .u64 (v : Int), .int .i64 (li : Int), .int .i64 (co : Int)] W → CfgAt W.heap.size c W) := hide (fun W hW => hW.2.1.at_)
  go_cut [22] (fun v22 wx => v22 = .bool bq ∧ Hid (RM X c w w2.heap.size #[.int .i64 1, .string y, .int .u64 (v : Int), .int .i64 (li : Int), .int .i64 (co : Int)] wx ∧ StAt X s1 c wx))
  case first =>
    go_region_held3 (fun w' => (w'.cell? ⟨X, 8, none⟩ = some (.int .u64 (c.frame : Int)) ∧ w'.cell? ⟨X, 9, none⟩ = some (.slice c.parts.a c.parts.l.length c.parts.c) ∧ w'.cell? ⟨X, 10, none⟩ = some (.slice c.wins.a c.wins.l.length c.wins.c) ∧ w'.cell? ⟨X, 11, none⟩ = some (.slice c.regs.a c.regs.l.length c.regs.c) ∧ w'.cell? ⟨X, 12, none⟩ = some (.slice c.ports.a c.ports.l.length c.ports.c) ∧ w'.cell? ⟨X, 13, none⟩ = some (.slice c.chans.a c.chans.l.length c.chans.c) ∧ StAt X s1 c w'))
      (first | with_reducible assumption | with_reducible exact HSX.out _ HS1.out | with_reducible exact HSX.out _ (by with_reducible assumption) | fail)
      (first
      | (go_at_call 96; refine (HCt.out _ (HCF.out _ (Hid.out (by with_reducible assumption)))).mono ?_; rintro e w5 ⟨rfl, hb5⟩; have HM5 := hide (RM.below (Hid.out (by with_reducible assumption : Hid (RM X c w w2.heap.size #[.int .i64 1, .string y, .int .u64 (v : Int), .int .i64 (li : Int), .int .i64 (co : Int)] _))) hb5); have hx5 := StAt.below (And.right (And.right (And.right (And.right (And.right (And.right (by with_reducible assumption))))))) hb5)
      | (go_at_call 97; refine (HLim.out _).mono ?_; rintro e w5 ⟨rfl, rfl⟩))
    all_goals
      go_wp2_with fail
      go_meet
      exact ⟨rfl, hide ⟨HM5.out, hx5⟩⟩
  case rest =>
    obtain ⟨rfl, hm⟩ := hcut
    have hbt := hm.out.1.2.2
    have r0 := hbt.cell 0
    have r1 := hbt.cell 1
    have r2 := hbt.cell 2
    have r3 := hbt.cell 3
    have r4 := hbt.cell 4
    clear hbt
    go_upto_if 22 with (fail)
    go_cut [] (fun wx => Hid (OnlyX X w wx ∧ StAt X s2 c wx))
    case first =>
      cases bq
      · go_wp2_with fail
        go_meet
        exact hide ⟨hm.out.1.1, by rw [HSb.out (by first | exact rfl | exact trivial)]; exact hm.out.2⟩
      · go_wp2_with (go_at_call 58; refine (HF.out _ hm.out.2).mono ?_; rintro e w6 ⟨rfl, ho6, hs6⟩; have HO6 := hide (hm.out.1.1.trans ho6); have HS6 := hide hs6; clear ho6 hs6)
        go_meet
        exact hide ⟨HO6.out, by rw [HSa.out (by first | exact rfl | exact trivial)]; exact HS6.out⟩
    case rest =>
      have HO3 := hide hcut.out.1
      have HS3 := hide hcut.out.2
      clear hcut
      go_wp2_with (first | (go_at_call 98; refine (Rid_calls _).mono ?_; rintro e wq ⟨rfl, rfl⟩) | (go_at_call 27; refine (Rtop_calls _).mono ?_; rintro e wq ⟨rfl, rfl⟩))
      refine (HN.out _ _ HS3.out).mono ?_
      rintro e w4 ⟨ho4, n, s4, rfl, hv4, hl4, hs4⟩
      have HO4 := hide (OnlyX.trans HO3.out ho4)
      have HL4 := hide hl4
      have HS4 := hide hs4
      have hX4 : X < w4.heap.size := hs4.lt
      have wn : IntKind.u16.wrap (n : Int) = (n : Int) := by rw [IntKind.wrap_u16]; omega
      clear ho4 hl4 hs4
      unfold natV
      go_wp2_with (first | (go_at_call 98; refine (Rid_calls _).mono ?_; rintro e wq ⟨rfl, rfl⟩) | (go_at_call 27; refine (Rtop_calls _).mono ?_; rintro e wq ⟨rfl, rfl⟩))
      refine (HNM.out _ _ HS4.out).mono ?_
      rintro e w5 ⟨ho5, tn, s5, rfl, hv5, hl5, hs5⟩
      have HO5 := hide (OnlyX.trans HO4.out ho5)
      have HL5 := hide hl5
      have HS5 := hide hs5
      have hX5 : X < w5.heap.size := hs5.lt
      obtain ⟨nm, hnm⟩ : ∃ x : ByteArray, x = ⟨tn.text.toArray⟩ := ⟨_, rfl⟩
      unfold textV
      rw [← hnm]
      have HNMT := hide hnm
      clear hnm
      clear ho5 hl5 hs5
      go_wp2_with (first | (go_at_call 98; refine (Rid_calls _).mono ?_; rintro e wq ⟨rfl, rfl⟩) | (go_at_call 27; refine (Rtop_calls _).mono ?_; rintro e wq ⟨rfl, rfl⟩))
      refine (HW.out ⟨#[123]⟩ _ _ (HS5.out.alloc _)).mono ?_
      rintro e w6 ⟨ho6, u, s6, rfl, hv6, hl6, hs6⟩
      have HO6 := hide (OnlyX.trans (HO5.out.alloc _) ho6)
      have HL6 := hide hl6
      have HS6 := hide hs6
      have hX6 : X < w6.heap.size := hs6.lt
      have hXP : X < w5.heap.size := HS5.out.lt
      have hwP : w.heap.size ≤ w5.heap.size := HO5.out.size
      have HB6 : Hid (Blk w6 w5.heap.size 97 #[.int .u16 (n : Int), .int .u16 0, .string nm, .bool false, .bool false, .int .u32 0]) := hide (ho6.blk (Blk.new w5 97 #[.int .u16 (n : Int), .int .u16 0, .string nm, .bool false, .bool false, .int .u32 0]) (by omega))
      have p0 : w6.cell? ⟨w5.heap.size, 0, none⟩ = some (.int .u16 (n : Int)) := HB6.out.cell 0
      have p1 : w6.cell? ⟨w5.heap.size, 1, none⟩ = some (.int .u16 0) := HB6.out.cell 1
      have p2 : w6.cell? ⟨w5.heap.size, 2, none⟩ = some (.string nm) := HB6.out.cell 2
      have p3 : w6.cell? ⟨w5.heap.size, 3, none⟩ = some (.bool false) := HB6.out.cell 3
      have p4 : w6.cell? ⟨w5.heap.size, 4, none⟩ = some (.bool false) := HB6.out.cell 4
      have p5 : w6.cell? ⟨w5.heap.size, 5, none⟩ = some (.int .u32 0) := HB6.out.cell 5
      have pf := fun i => HB6.out.frozen i
      have hPw : w5.heap.size < w6.heap.size := HB6.out.lt
      clear ho6 hl6 hs6
      unfold unitV
      go_wp2_with (first | (go_at_call 98; refine (Rid_calls _).mono ?_; rintro e wq ⟨rfl, rfl⟩) | (go_at_call 27; refine (Rtop_calls _).mono ?_; rintro e wq ⟨rfl, rfl⟩))
      refine (HF16.out ⟨#[112, 97, 114, 116, 105, 116, 105, 111, 110]⟩ _ _ HS6.out).mono ?_
      rintro e w7 ⟨ho7, m1, s7, rfl, hv7, hl7, hs7⟩
      have HO7 := hide (OnlyX.trans HO6.out ho7)
      have HL7 := hide hl7
      have HS7 := hide hs7
      have hX7 : X < w7.heap.size := hs7.lt
      have HB7 : Hid (Blk w7 w5.heap.size 97 #[.int .u16 (n : Int), .int .u16 0, .string nm, .bool false, .bool false, .int .u32 0]) := hide (ho7.blk HB6.out (by omega))
      clear p0 p1 p2 p3 p4 p5 pf hPw
      have p0 : w7.cell? ⟨w5.heap.size, 0, none⟩ = some (.int .u16 (n : Int)) := HB7.out.cell 0
      have p1 : w7.cell? ⟨w5.heap.size, 1, none⟩ = some (.int .u16 0) := HB7.out.cell 1
      have p2 : w7.cell? ⟨w5.heap.size, 2, none⟩ = some (.string nm) := HB7.out.cell 2
      have p3 : w7.cell? ⟨w5.heap.size, 3, none⟩ = some (.bool false) := HB7.out.cell 3
      have p4 : w7.cell? ⟨w5.heap.size, 4, none⟩ = some (.bool false) := HB7.out.cell 4
      have p5 : w7.cell? ⟨w5.heap.size, 5, none⟩ = some (.int .u32 0) := HB7.out.cell 5
      have pf := fun i => HB7.out.frozen i
      have hPw : w5.heap.size < w7.heap.size := HB7.out.lt
      have wm1 : IntKind.u16.wrap (m1 : Int) = (m1 : Int) := by rw [IntKind.wrap_u16]; omega
      clear ho7 hl7 hs7
      unfold natV
      go_wp2_with (first | (go_at_call 98; refine (Rid_calls _).mono ?_; rintro e wq ⟨rfl, rfl⟩) | (go_at_call 27; refine (Rtop_calls _).mono ?_; rintro e wq ⟨rfl, rfl⟩))
      refine (HCH.out ⟨#[105, 110, 112, 117, 116]⟩ ⟨#[111, 117, 116, 112, 117, 116]⟩ _ _ (HS7.out.far (p := ⟨w5.heap.size, 1, none⟩) hXP (.int .u16 (m1 : Int)))).mono ?_
      rintro e w8 ⟨ho8, q1, s8, rfl, hv8, hl8, hs8⟩
      have HO8 := hide (OnlyX.trans (HO7.out.setNew (p := ⟨w5.heap.size, 1, none⟩) hwP (.int .u16 (m1 : Int))) ho8)
      have HL8 := hide hl8
      have HS8 := hide hs8
      have hX8 : X < w8.heap.size := hs8.lt
      have HB8 : Hid (Blk w8 w5.heap.size 97 #[.int .u16 (n : Int), .int .u16 (m1 : Int), .string nm, .bool false, .bool false, .int .u32 0]) := hide (ho8.blk (HB7.out.set_ 1 (.int .u16 (m1 : Int))) (by omega))
      clear p0 p1 p2 p3 p4 p5 pf hPw
      have p0 : w8.cell? ⟨w5.heap.size, 0, none⟩ = some (.int .u16 (n : Int)) := HB8.out.cell 0
      have p1 : w8.cell? ⟨w5.heap.size, 1, none⟩ = some (.int .u16 (m1 : Int)) := HB8.out.cell 1
      have p2 : w8.cell? ⟨w5.heap.size, 2, none⟩ = some (.string nm) := HB8.out.cell 2
      have p3 : w8.cell? ⟨w5.heap.size, 3, none⟩ = some (.bool false) := HB8.out.cell 3
      have p4 : w8.cell? ⟨w5.heap.size, 4, none⟩ = some (.bool false) := HB8.out.cell 4
      have p5 : w8.cell? ⟨w5.heap.size, 5, none⟩ = some (.int .u32 0) := HB8.out.cell 5
      have pf := fun i => HB8.out.frozen i
      have hPw : w5.heap.size < w8.heap.size := HB8.out.lt
      clear ho8 hl8 hs8
      unfold boolV
      go_wp2_with (first | (go_at_call 98; refine (Rid_calls _).mono ?_; rintro e wq ⟨rfl, rfl⟩) | (go_at_call 27; refine (Rtop_calls _).mono ?_; rintro e wq ⟨rfl, rfl⟩))
      refine (HCH.out ⟨#[115, 97, 109, 112, 108, 105, 110, 103]⟩ ⟨#[113, 117, 101, 117, 105, 110, 103]⟩ _ _ (HS8.out.far (p := ⟨w5.heap.size, 3, none⟩) hXP (.bool q1))).mono ?_
      rintro e w9 ⟨ho9, q2, s9, rfl, hv9, hl9, hs9⟩
      have HO9 := hide (OnlyX.trans (HO8.out.setNew (p := ⟨w5.heap.size, 3, none⟩) hwP (.bool q1)) ho9)
      have HL9 := hide hl9
      have HS9 := hide hs9
      have hX9 : X < w9.heap.size := hs9.lt
      have HB9 : Hid (Blk w9 w5.heap.size 97 #[.int .u16 (n : Int), .int .u16 (m1 : Int), .string nm, .bool q1, .bool false, .int .u32 0]) := hide (ho9.blk (HB8.out.set_ 3 (.bool q1)) (by omega))
      clear p0 p1 p2 p3 p4 p5 pf hPw
      have p0 : w9.cell? ⟨w5.heap.size, 0, none⟩ = some (.int .u16 (n : Int)) := HB9.out.cell 0
      have p1 : w9.cell? ⟨w5.heap.size, 1, none⟩ = some (.int .u16 (m1 : Int)) := HB9.out.cell 1
      have p2 : w9.cell? ⟨w5.heap.size, 2, none⟩ = some (.string nm) := HB9.out.cell 2
      have p3 : w9.cell? ⟨w5.heap.size, 3, none⟩ = some (.bool q1) := HB9.out.cell 3
      have p4 : w9.cell? ⟨w5.heap.size, 4, none⟩ = some (.bool false) := HB9.out.cell 4
      have p5 : w9.cell? ⟨w5.heap.size, 5, none⟩ = some (.int .u32 0) := HB9.out.cell 5
      have pf := fun i => HB9.out.frozen i
      have hPw : w5.heap.size < w9.heap.size := HB9.out.lt
      clear ho9 hl9 hs9
      unfold boolV
      go_wp2_with (first | (go_at_call 98; refine (Rid_calls _).mono ?_; rintro e wq ⟨rfl, rfl⟩) | (go_at_call 27; refine (Rtop_calls _).mono ?_; rintro e wq ⟨rfl, rfl⟩))
      refine (HF32.out ⟨#[115, 105, 122, 101]⟩ _ _ (HS9.out.far (p := ⟨w5.heap.size, 4, none⟩) hXP (.bool q2))).mono ?_
      rintro e w10 ⟨ho10, m2, s10, rfl, hv10, hl10, hs10⟩
      have HO10 := hide (OnlyX.trans (HO9.out.setNew (p := ⟨w5.heap.size, 4, none⟩) hwP (.bool q2)) ho10)
      have HL10 := hide hl10
      have HS10 := hide hs10
      have hX10 : X < w10.heap.size := hs10.lt
      have HB10 : Hid (Blk w10 w5.heap.size 97 #[.int .u16 (n : Int), .int .u16 (m1 : Int), .string nm, .bool q1, .bool q2, .int .u32 0]) := hide (ho10.blk (HB9.out.set_ 4 (.bool q2)) (by omega))
      clear p0 p1 p2 p3 p4 p5 pf hPw
      have p0 : w10.cell? ⟨w5.heap.size, 0, none⟩ = some (.int .u16 (n : Int)) := HB10.out.cell 0
      have p1 : w10.cell? ⟨w5.heap.size, 1, none⟩ = some (.int .u16 (m1 : Int)) := HB10.out.cell 1
      have p2 : w10.cell? ⟨w5.heap.size, 2, none⟩ = some (.string nm) := HB10.out.cell 2
      have p3 : w10.cell? ⟨w5.heap.size, 3, none⟩ = some (.bool q1) := HB10.out.cell 3
      have p4 : w10.cell? ⟨w5.heap.size, 4, none⟩ = some (.bool q2) := HB10.out.cell 4
      have p5 : w10.cell? ⟨w5.heap.size, 5, none⟩ = some (.int .u32 0) := HB10.out.cell 5
      have pf := fun i => HB10.out.frozen i
      have hPw : w5.heap.size < w10.heap.size := HB10.out.lt
      have wm2 : IntKind.u32.wrap (m2 : Int) = (m2 : Int) := by rw [IntKind.wrap_u32]; omega
      clear ho10 hl10 hs10
      unfold natV
      go_wp2_with fail
      have HSa := hide ((HS10.out.far (p := ⟨w5.heap.size, 5, none⟩) hXP (.int .u32 (m2 : Int))))
      have HOa := hide ((HO10.out.setNew (p := ⟨w5.heap.size, 5, none⟩) hwP (.int .u32 (m2 : Int))))
      have HBa : Hid (Blk (w10.setCell ⟨w5.heap.size, 5, none⟩ (.int .u32 (m2 : Int))) w5.heap.size 97 #[.int .u16 (n : Int), .int .u16 (m1 : Int), .string nm, .bool q1, .bool q2, .int .u32 (m2 : Int)]) := hide (HB10.out.set_ 5 (.int .u32 (m2 : Int)))
      have hXa := HSa.out.lt
      have hPa := HBa.out.lt
      have hwa := HOa.out.size
      clear p0 p1 p2 p3 p4 p5 pf hPw
      generalize (w10.setCell ⟨w5.heap.size, 5, none⟩ (.int .u32 (m2 : Int))) = Wa at *
      have p0 : Wa.cell? ⟨w5.heap.size, 0, none⟩ = some (.int .u16 (n : Int)) := HBa.out.cell 0
      have p1 : Wa.cell? ⟨w5.heap.size, 1, none⟩ = some (.int .u16 (m1 : Int)) := HBa.out.cell 1
      have p2 : Wa.cell? ⟨w5.heap.size, 2, none⟩ = some (.string nm) := HBa.out.cell 2
      have p3 : Wa.cell? ⟨w5.heap.size, 3, none⟩ = some (.bool q1) := HBa.out.cell 3
      have p4 : Wa.cell? ⟨w5.heap.size, 4, none⟩ = some (.bool q2) := HBa.out.cell 4
      have p5 : Wa.cell? ⟨w5.heap.size, 5, none⟩ = some (.int .u32 (m2 : Int)) := HBa.out.cell 5
      have q9 := (HSa.out.cfg).2.2.2.2.1
      have HCa := hide (HSTW.out.own HOW.out HOa.out)
      obtain ⟨i0, hi, hz0, hz1, hz2⟩ := info_parts portI
      have HII := hide hi
      clear hi
      obtain ⟨rec, hrec⟩ : ∃ x : PortR, x = ⟨n, m1, nm, q1, q2, m2⟩ := ⟨_, rfl⟩
      have HRE : Hid (portL rec = [.int .u16 (n : Int), .int .u16 (m1 : Int), .string nm, .bool q1, .bool q2, .int .u32 (m2 : Int)]) := hide (by rw [hrec]; rfl)
      have HREC := hide hrec
      clear hrec
      have HRD : Hid (Reads (Wa.alloc (.cells #[.int .u16 (n : Int), .int .u16 (m1 : Int), .string nm, .bool q1, .bool q2, .int .u32 (m2 : Int)] 97)).drew (Wa.heap.size + 1) 6 (some ⟨Wa.heap.size, 0, none⟩) 1 (portL rec)) := hide (by rw [HRE.out]; exact new_reads Wa #[.int .u16 (n : Int), .int .u16 (m1 : Int), .string nm, .bool q1, .bool q2, .int .u32 (m2 : Int)] 97 6 rfl)
      go_region_law (refine step_append_any _ rfl (.tmp 153) (.tmp 155) 27 rfl (X + 1) 97 i0 _ 6 32 Tryz.underlying27 HII.out hz0 hz1 hz2 rfl (by decide) (.slice c.ports.a c.ports.l.length c.ports.c) c.ports.l.length (c.ports.l.flatMap portL) (by simp [Act.eval]) ((HCa.out.ports.alloc _).drew) (Wa.heap.size + 1) (some ⟨Wa.heap.size, 0, none⟩) 1 1 (portL rec) (by simp [Act.eval]) HRD.out (portO rec) (by simp only [maxLen]; omega) (by omega) (by simp; omega) ?_; intro v9 w9 ho9 hg9 hat9; obtain ⟨a9, c9, hv9⟩ := own_slice ho9; subst hv9; have HGR := hide hg9; have HO9 := hide ho9; have HS9 := hide ((HSa.out.alloc (.cells #[.int .u16 (n : Int), .int .u16 (m1 : Int), .string nm, .bool q1, .bool q2, .int .u32 (m2 : Int)] 97)).drew.grown hg9 (fun r hr => by have := (HCa.out.ports.lt r hr).1; omega)); have q0 := (HS9.out.cfg).2.2.2.2.1; have qf := HS9.out.frz; have hX9 := HS9.out.lt; clear ho9 hg9 hat9)
      all_goals
        have HC9 : Hid (OwnC (X + 1) { c with ports := ⟨c.ports.l ++ [rec], a9, c9⟩ } w9) := hide (by
          have HCx := (HCa.out.alloc (.cells #[.int .u16 (n : Int), .int .u16 (m1 : Int), .string nm, .bool q1, .bool q2, .int .u32 (m2 : Int)] 97)).drew
          exact HCx.pushQ HO9.out HGR.out)
        have HSN := hide (HS9.out.setQ (c.ports.l ++ [rec]) a9 c9)
        have HCN := hide (OwnC.setX HS9.out HC9.out 12 (.slice a9 (c.ports.l ++ [rec]).length c9))
        have HLOW : Hid (Below X w (w9.setCell ⟨X, 12, none⟩ (.slice a9 (c.ports.l ++ [rec]).length c9))) := hide (((((HOa.out.low hXl).alloc (by omega) (.cells #[.int .u16 (n : Int), .int .u16 (m1 : Int), .string nm, .bool q1, .bool q2, .int .u32 (m2 : Int)] 97)).drew).grown HGR.out (by simp; omega) (fun r hr => by have := (HCa.out.ports.lt r hr).1; omega)).setCell (by simp) _)
        have hlen : (c.ports.l ++ [rec]).length = c.ports.l.length + 1 := by simp
        rw [hlen] at HSN HCN HLOW
        go_wp2_with fail
        refine (RWant_calls ⟨#[125]⟩ X _ _ _ HSN.out).mono ?_
        rintro e wz ⟨hoz, uz, sz, rfl, _, hlz, hsz⟩
        unfold unitV
        go_wp2_with fail
        first | go_end0 | (refine bodyPost_ret (results_none rfl _ _ _) rfl ?_)
        refine ⟨rfl, HLOW.out.trans (hoz.low (by have := HS9.out.lt; simpa [World.setCell] using this)), _, sz, hsz, HSN.out.own HCN.out hoz, ?_⟩
        refine HT0.out _ _ ?_
        refine Lf.bind (m := bodyT 4 (pcOf c)) (f := fun c2 => bindT (wantT [125]) fun _ => pureT c2) (a := pcOf { c with ports := ⟨c.ports.l ++ [rec], a9, c9⟩ }) ?_ (hlz.bind (Lf.pure _ _))
        rw [HREC.out]
        exact (by rw [HNMT.out]; exact HL4.out.bind (HL5.out.bind (HL6.out.bind (HL7.out.bind (HL8.out.bind (HL9.out.bind (HL10.out.bind (Lf.pure _ _))))))))
end Go.Proofs.YtdpieljopelkhaaGreatDoor
namespace Go.Proofs.YtdpieljopelkhaaGreatDoor
open Go.RowKit Go.Lib Go.Sort
set_option linter.unusedVariables false

set_option maxRecDepth 100000 in
set_option maxHeartbeats 16000000 in
theorem RRec5_calls (X : Nat) (s : RS) (c : Cfg) (t : Token) (r : List Token) (hl : s.l = t :: r) (he : s.err = none) (hk : t.kind = 1) (w : World) (h : StAt X s c w) (ho : OwnC (X + 1) c w) (hsm : c.Small) :
    Calls Tryz.prog 63 #[.pointer (some ⟨X, 0, none⟩), .int .i64 5] w (RecRV 5 X s c w) := by
  have hXl := h.lt
  have hts := takeS_on he hl (by omega)
  have hT := RTake_calls X s c t r hl w h
  rw [hts] at hT
  have HT0 : Hid (∀ sF cF, Lf (restT 5 (pcOf c)) (if limN 5 ≤ cntK (pcOf c) 5 then failS 7 t ⟨r, none⟩ else ⟨r, none⟩) cF sF → Lf (recordT 5 (pcOf c)) s cF sF) := hide (fun sF cF hL => by
    by_cases hlim : limN 5 ≤ cntK (pcOf c) 5
    · rw [if_pos hlim] at hL
      exact Lf.record_lim he hl hk (failS_err rfl 7) hlim hL
    · rw [if_neg hlim] at hL
      exact Lf.record_ok he hl hk rfl (by omega) hL)
  obtain ⟨kind, text, v, li, co⟩ := t
  have hF := fun W (hW : StAt X ⟨r, none⟩ c W) => RFail_calls X ⟨r, none⟩ c 7 (by omega) ⟨kind, text, v, li, co⟩ W hW
  unfold tokV tokC at hT hF
  simp only at hT hF hk
  subst hk
  obtain ⟨y, hy⟩ : ∃ y : ByteArray, y = ⟨text.toArray⟩ := ⟨_, rfl⟩
  rw [← hy] at hT hF
  have HTK : Hid (Calls Tryz.prog 60 #[.pointer (some ⟨X, 0, none⟩)] w fun e w' => e = .returned (.agg #[.int .i64 1, .string y, .int .u64 (v : Int), .int .i64 (li : Int), .int .i64 (co : Int)]) ∧ OnlyX X w w' ∧ StAt X ⟨r, none⟩ c w') := hide hT
  have HF : Hid (∀ W, StAt X ⟨r, none⟩ c W → Calls Tryz.prog 58 #[.pointer (some ⟨X, 0, none⟩), .int .i64 7, .agg #[.int .i64 1, .string y, .int .u64 (v : Int), .int .i64 (li : Int), .int .i64 (co : Int)]] W fun e w' => e = .returned (.tuple #[]) ∧ OnlyX X W w' ∧ StAt X (failS 7 ⟨1, text, v, li, co⟩ ⟨r, none⟩) c w') := hide hF
  have hNI : (c.chans.l.length : Int) ≤ 1048576 := by unfold Cfg.Small at hsm; omega
  have HCt : Hid (∀ W, CfgAt W.heap.size c W → Calls Tryz.prog 96 #[.agg #[.int .u64 (c.frame : Int), .slice c.parts.a c.parts.l.length c.parts.c, .slice c.wins.a c.wins.l.length c.wins.c, .slice c.regs.a c.regs.l.length c.regs.c, .slice c.ports.a c.ports.l.length c.ports.c, .slice c.chans.a c.chans.l.length c.chans.c]] W fun e w' => e = .returned (.agg #[.int .i64 0, .int .i64 (c.parts.l.length : Int), .int .i64 (c.wins.l.length : Int), .int .i64 (c.regs.l.length : Int), .int .i64 (c.ports.l.length : Int), .int .i64 (c.chans.l.length : Int), .int .i64 (linksN c.chans.l : Int)]) ∧ Below W.heap.size W w') := hide (fun W hW => Counts_calls c W hW hsm)
  have HLim : Hid (∀ W, Calls Tryz.prog 97 #[.int .i64 5] W fun e w' => e = .returned (.int .i64 512) ∧ w' = W) := hide (fun W => RLimit_calls 5 W (by omega))
  have hix := fun a b c d e f w => cnt_ix5 a b c d e f w
  have hcnt : cntK (pcOf c) 5 = c.chans.l.length := by first | rfl | (show (c.chans.l.map chanK).length = _; simp)
  have hlm : limN 5 = 512 := rfl
  rw [hcnt, hlm] at HT0
  have HOW := hide ho
  have HSTW := hide h
  obtain ⟨s1, hs1⟩ : ∃ s1 : RS, s1 = ⟨r, none⟩ := ⟨_, rfl⟩
  rw [← hs1] at HTK HF HT0
  have HN : Hid (∀ s W, StAt X s c W → Calls Tryz.prog 61 #[.pointer (some ⟨X, 0, none⟩), .int .u64 65535] W (RfV (numT 65535) natV (fun n => n ≤ 65535) X s c W)) := hide (fun s W hW => RNumber_calls 65535 X s c W hW)
  have HNM := hide (fun s W (hW : StAt X s c W) => RName_calls X s c W hW)
  have HW := hide (fun x s W (hW : StAt X s c W) => RWant_calls x X s c W hW)
  have HFT : Hid (∀ x s W, StAt X s c W → Calls Tryz.prog 26 #[.pointer (some ⟨X, 0, none⟩), .string x, .int .u64 ((topN : Nat) : Int)] W (RfV (fieldT x.data.toList topN) natV (fun n => n ≤ topN) X s c W)) := hide (fun x s W hW => RField_calls x topN X s c W hW)
  have HF16 : Hid (∀ x s W, StAt X s c W → Calls Tryz.prog 26 #[.pointer (some ⟨X, 0, none⟩), .string x, .int .u64 65535] W (RfV (fieldT x.data.toList 65535) natV (fun n => n ≤ 65535) X s c W)) := hide (fun x s W hW => RField_calls x 65535 X s c W hW)
  have HF32 : Hid (∀ x s W, StAt X s c W → Calls Tryz.prog 26 #[.pointer (some ⟨X, 0, none⟩), .string x, .int .u64 4294967295] W (RfV (fieldT x.data.toList 4294967295) natV (fun n => n ≤ 4294967295) X s c W)) := hide (fun x s W hW => RField_calls x 4294967295 X s c W hW)
  have HS1E := hide hs1
  have HSM := hide hsm
  have HCH : Hid (∀ a b s W, StAt X s c W → Calls Tryz.prog 101 #[.pointer (some ⟨X, 0, none⟩), .string a, .string b] W (RfV (choiceT a.data.toList b.data.toList) boolV (fun _ => True) X s c W)) := hide (fun a b s W hW => RChoice_calls a b X s c W hW)
  have HRG := hide (fun s W (hW : StAt X s c W) => RRights7_calls X s c W hW)
  have mixed := mixed_prog
  clear h ho hl he hts hT hF hy hsm hcnt hlm hs1
  have HSX : Hid (∀ W, StAt X s1 c W → (W.cell? ⟨X, 8, none⟩ = some (.int .u64 (c.frame : Int)) ∧ W.cell? ⟨X, 9, none⟩ = some (.slice c.parts.a c.parts.l.length c.parts.c) ∧ W.cell? ⟨X, 10, none⟩ = some (.slice c.wins.a c.wins.l.length c.wins.c) ∧ W.cell? ⟨X, 11, none⟩ = some (.slice c.regs.a c.regs.l.length c.regs.c) ∧ W.cell? ⟨X, 12, none⟩ = some (.slice c.ports.a c.ports.l.length c.ports.c) ∧ W.cell? ⟨X, 13, none⟩ = some (.slice c.chans.a c.chans.l.length c.chans.c) ∧ StAt X s1 c W)) := hide (fun W hW => hW.cfgs)
  obtain ⟨bq, hbq⟩ : ∃ b, b = decide (512 ≤ c.chans.l.length) := ⟨_, rfl⟩
  have d1 : decide ((512 : Int) ≤ (c.chans.l.length : Int)) = bq := by
    rw [hbq]
    by_cases h0 : 512 ≤ c.chans.l.length
    · rw [decide_eq_true h0, decide_eq_true_eq]; omega
    · rw [decide_eq_false h0, decide_eq_false_iff_not]; omega
  have d2 : decide (512 ≤ c.chans.l.length) = bq := hbq.symm
  obtain ⟨s2, hs2⟩ : ∃ s2, s2 = (if 512 ≤ c.chans.l.length then failS 7 ⟨1, text, v, li, co⟩ s1 else s1) := ⟨_, rfl⟩
  rw [← hs2] at HT0
  have HSa : Hid (bq = true → s2 = failS 7 ⟨1, text, v, li, co⟩ s1) := hide (fun hb => by rw [hs2, if_pos (by rw [hbq] at hb; simpa using hb)])
  have HSb : Hid (bq = false → s2 = s1) := hide (fun hb => by rw [hs2, if_neg (by rw [hbq] at hb; simpa using hb)])
  clear hbq hs2
  go_enter Tryz.func63, Tryz.ntmps63
  go_wp2_with (go_at_call 60; refine HTK.out.mono ?_; rintro e w2 ⟨rfl, ho2, hs2⟩; have HO2 := hide ho2; have HS2 := hide hs2; have hz2 := ho2.size; clear ho2 hs2)
  have HM1 : Hid (RM X c w w2.heap.size #[.int .i64 1, .string y, .int .u64 (v : Int), .int .i64 (li : Int), .int .i64 (co : Int)] (w2.alloc (.cells #[.int .i64 1, .string y, .int .u64 (v : Int), .int .i64 (li : Int), .int .i64 (co : Int)] 45)).drew) := hide ⟨(HO2.out.alloc _).drew, ((HSTW.out.own HOW.out HO2.out).alloc _).drew, (Blk.new w2 _ _).drew⟩
  have HS1 := hide (HS2.out.alloc (.cells #[.int .i64 1, .string y, .int .u64 (v : Int), .int .i64 (li : Int), .int .i64 (co : Int)] 45)).drew
  have HCF : Hid (∀ W, RM X c w w2.heap.size #[.int .i64 1, .string y, .int .u64 (v : Int), .int .i64 (li : Int), .int .i64 (co : Int)] W → CfgAt W.heap.size c W) := hide (fun W hW => hW.2.1.at_)
  go_cut [22] (fun v22 wx => v22 = .bool bq ∧ Hid (RM X c w w2.heap.size #[.int .i64 1, .string y, .int .u64 (v : Int), .int .i64 (li : Int), .int .i64 (co : Int)] wx ∧ StAt X s1 c wx))
  case first =>
    go_region_held3 (fun w' => (w'.cell? ⟨X, 8, none⟩ = some (.int .u64 (c.frame : Int)) ∧ w'.cell? ⟨X, 9, none⟩ = some (.slice c.parts.a c.parts.l.length c.parts.c) ∧ w'.cell? ⟨X, 10, none⟩ = some (.slice c.wins.a c.wins.l.length c.wins.c) ∧ w'.cell? ⟨X, 11, none⟩ = some (.slice c.regs.a c.regs.l.length c.regs.c) ∧ w'.cell? ⟨X, 12, none⟩ = some (.slice c.ports.a c.ports.l.length c.ports.c) ∧ w'.cell? ⟨X, 13, none⟩ = some (.slice c.chans.a c.chans.l.length c.chans.c) ∧ StAt X s1 c w'))
      (first | with_reducible assumption | with_reducible exact HSX.out _ HS1.out | with_reducible exact HSX.out _ (by with_reducible assumption) | fail)
      (first
      | (go_at_call 96; refine (HCt.out _ (HCF.out _ (Hid.out (by with_reducible assumption)))).mono ?_; rintro e w5 ⟨rfl, hb5⟩; have HM5 := hide (RM.below (Hid.out (by with_reducible assumption : Hid (RM X c w w2.heap.size #[.int .i64 1, .string y, .int .u64 (v : Int), .int .i64 (li : Int), .int .i64 (co : Int)] _))) hb5); have hx5 := StAt.below (And.right (And.right (And.right (And.right (And.right (And.right (by with_reducible assumption))))))) hb5)
      | (go_at_call 97; refine (HLim.out _).mono ?_; rintro e w5 ⟨rfl, rfl⟩))
    all_goals
      go_wp2_with fail
      go_meet
      exact ⟨rfl, hide ⟨HM5.out, hx5⟩⟩
  case rest =>
    obtain ⟨rfl, hm⟩ := hcut
    have hbt := hm.out.1.2.2
    have r0 := hbt.cell 0
    have r1 := hbt.cell 1
    have r2 := hbt.cell 2
    have r3 := hbt.cell 3
    have r4 := hbt.cell 4
    clear hbt
    go_upto_if 22 with (fail)
    go_cut [] (fun wx => Hid (OnlyX X w wx ∧ StAt X s2 c wx))
    case first =>
      cases bq
      · go_wp2_with fail
        go_meet
        exact hide ⟨hm.out.1.1, by rw [HSb.out (by first | exact rfl | exact trivial)]; exact hm.out.2⟩
      · go_wp2_with (go_at_call 58; refine (HF.out _ hm.out.2).mono ?_; rintro e w6 ⟨rfl, ho6, hs6⟩; have HO6 := hide (hm.out.1.1.trans ho6); have HS6 := hide hs6; clear ho6 hs6)
        go_meet
        exact hide ⟨HO6.out, by rw [HSa.out (by first | exact rfl | exact trivial)]; exact HS6.out⟩
    case rest =>
      have HO3 := hide hcut.out.1
      have HS3 := hide hcut.out.2
      clear hcut
      go_wp2_with (first | (go_at_call 98; refine (Rid_calls _).mono ?_; rintro e wq ⟨rfl, rfl⟩) | (go_at_call 27; refine (Rtop_calls _).mono ?_; rintro e wq ⟨rfl, rfl⟩))
      refine (HN.out _ _ HS3.out).mono ?_
      rintro e w4 ⟨ho4, n, s4, rfl, hv4, hl4, hs4⟩
      have HO4 := hide (OnlyX.trans HO3.out ho4)
      have HL4 := hide hl4
      have HS4 := hide hs4
      have hX4 : X < w4.heap.size := hs4.lt
      have wn : IntKind.u16.wrap (n : Int) = (n : Int) := by rw [IntKind.wrap_u16]; omega
      clear ho4 hl4 hs4
      unfold natV
      go_wp2_with (first | (go_at_call 98; refine (Rid_calls _).mono ?_; rintro e wq ⟨rfl, rfl⟩) | (go_at_call 27; refine (Rtop_calls _).mono ?_; rintro e wq ⟨rfl, rfl⟩))
      refine (HW.out ⟨#[123]⟩ _ _ HS4.out).mono ?_
      rintro e w5 ⟨ho5, u, s5, rfl, hv5, hl5, hs5⟩
      have HO5 := hide (OnlyX.trans HO4.out ho5)
      have HL5 := hide hl5
      have HS5 := hide hs5
      have hX5 : X < w5.heap.size := hs5.lt
      clear ho5 hl5 hs5
      unfold unitV
      go_wp2_with (first | (go_at_call 98; refine (Rid_calls _).mono ?_; rintro e wq ⟨rfl, rfl⟩) | (go_at_call 27; refine (Rtop_calls _).mono ?_; rintro e wq ⟨rfl, rfl⟩))
      refine (HF16.out ⟨#[115, 111, 117, 114, 99, 101]⟩ _ _ (HS5.out.alloc _)).mono ?_
      rintro e w6 ⟨ho6, m1, s6, rfl, hv6, hl6, hs6⟩
      have HO6 := hide (OnlyX.trans (HO5.out.alloc _) ho6)
      have HL6 := hide hl6
      have HS6 := hide hs6
      have hX6 : X < w6.heap.size := hs6.lt
      have hXP : X < w5.heap.size := HS5.out.lt
      have hwP : w.heap.size ≤ w5.heap.size := HO5.out.size
      have HB6 : Hid (Blk w6 w5.heap.size 137 #[.int .u16 (n : Int), .int .u16 0, .slice none 0 0]) := hide (ho6.blk (Blk.new w5 137 #[.int .u16 (n : Int), .int .u16 0, .slice none 0 0]) (by omega))
      have p0 : w6.cell? ⟨w5.heap.size, 0, none⟩ = some (.int .u16 (n : Int)) := HB6.out.cell 0
      have p1 : w6.cell? ⟨w5.heap.size, 1, none⟩ = some (.int .u16 0) := HB6.out.cell 1
      have p2 : w6.cell? ⟨w5.heap.size, 2, none⟩ = some (.slice none 0 0) := HB6.out.cell 2
      have pf := fun i => HB6.out.frozen i
      have hPw : w5.heap.size < w6.heap.size := HB6.out.lt
      have wm1 : IntKind.u16.wrap (m1 : Int) = (m1 : Int) := by rw [IntKind.wrap_u16]; omega
      clear ho6 hl6 hs6
      unfold natV
      go_wp2_with (first | (go_at_call 98; refine (Rid_calls _).mono ?_; rintro e wq ⟨rfl, rfl⟩) | (go_at_call 27; refine (Rtop_calls _).mono ?_; rintro e wq ⟨rfl, rfl⟩))
      refine (HW.out ⟨#[116, 111]⟩ _ _ (HS6.out.far (p := ⟨w5.heap.size, 1, none⟩) hXP (.int .u16 (m1 : Int)))).mono ?_
      rintro e w7 ⟨ho7, u, s7, rfl, hv7, hl7, hs7⟩
      have HO7 := hide (OnlyX.trans (HO6.out.setNew (p := ⟨w5.heap.size, 1, none⟩) hwP (.int .u16 (m1 : Int))) ho7)
      have HL7 := hide hl7
      have HS7 := hide hs7
      have hX7 : X < w7.heap.size := hs7.lt
      have HB7 : Hid (Blk w7 w5.heap.size 137 #[.int .u16 (n : Int), .int .u16 (m1 : Int), .slice none 0 0]) := hide (ho7.blk (HB6.out.set_ 1 (.int .u16 (m1 : Int))) (by omega))
      clear p0 p1 p2 pf hPw
      have p0 : w7.cell? ⟨w5.heap.size, 0, none⟩ = some (.int .u16 (n : Int)) := HB7.out.cell 0
      have p1 : w7.cell? ⟨w5.heap.size, 1, none⟩ = some (.int .u16 (m1 : Int)) := HB7.out.cell 1
      have p2 : w7.cell? ⟨w5.heap.size, 2, none⟩ = some (.slice none 0 0) := HB7.out.cell 2
      have pf := fun i => HB7.out.frozen i
      have hPw : w5.heap.size < w7.heap.size := HB7.out.lt
      clear ho7 hl7 hs7
      unfold unitV
      go_wp2_with fail
      refine (RLinks_calls X _ c _ HS7.out (HSTW.out.own HOW.out HO7.out) HSM.out).mono ?_
      rintro e w8 ⟨ho8, ds, da, dcap, s8, rfl, hown, hlow, hdl, hl8, hs8, _⟩
      have HO8 := hide (OnlyX.trans HO7.out ho8)
      have HS8 := hide hs8
      have hX8 : X < w8.heap.size := hs8.lt
      have HB8 := hide (ho8.blk HB7.out (by omega))
      have HTO : Hid (Lf (toT (linksK (pcOf c).chans)) _ ds s8) := hide (by rw [linksK_of]; exact (HL7.out.bind hl8))
      have HDn := hide hown
      have hDw : w5.heap.size < w7.heap.size := hPw
      clear ho8 hs8 hl8 hown p0 p1 p2 pf hPw
      have p0 : w8.cell? ⟨w5.heap.size, 0, none⟩ = some (.int .u16 (n : Int)) := HB8.out.cell 0
      have p1 : w8.cell? ⟨w5.heap.size, 1, none⟩ = some (.int .u16 (m1 : Int)) := HB8.out.cell 1
      have p2 : w8.cell? ⟨w5.heap.size, 2, none⟩ = some (.slice none 0 0) := HB8.out.cell 2
      have pf := fun i => HB8.out.frozen i
      have hPw : w5.heap.size < w8.heap.size := HB8.out.lt
      obtain ⟨dl, hdl2⟩ : ∃ n, n = ds.length := ⟨_, rfl⟩
      rw [← hdl2] at HDn ⊢
      have HDL := hide hdl2
      clear hdl2
      go_wp2_with (first | (go_at_call 98; refine (Rid_calls _).mono ?_; rintro e wq ⟨rfl, rfl⟩) | (go_at_call 27; refine (Rtop_calls _).mono ?_; rintro e wq ⟨rfl, rfl⟩))
      refine (HW.out ⟨#[59]⟩ _ _ (HS8.out.far (p := ⟨w5.heap.size, 2, none⟩) hXP (.slice da dl dcap))).mono ?_
      rintro e w9 ⟨ho9, u, s9, rfl, hv9, hl9, hs9⟩
      have HO9 := hide (OnlyX.trans (HO8.out.setNew (p := ⟨w5.heap.size, 2, none⟩) hwP (.slice da dl dcap)) ho9)
      have HL9 := hide hl9
      have HS9 := hide hs9
      have hX9 : X < w9.heap.size := hs9.lt
      have HB9 : Hid (Blk w9 w5.heap.size 137 #[.int .u16 (n : Int), .int .u16 (m1 : Int), .slice da dl dcap]) := hide (ho9.blk (HB8.out.set_ 2 (.slice da dl dcap)) (by omega))
      clear p0 p1 p2 pf hPw
      have p0 : w9.cell? ⟨w5.heap.size, 0, none⟩ = some (.int .u16 (n : Int)) := HB9.out.cell 0
      have p1 : w9.cell? ⟨w5.heap.size, 1, none⟩ = some (.int .u16 (m1 : Int)) := HB9.out.cell 1
      have p2 : w9.cell? ⟨w5.heap.size, 2, none⟩ = some (.slice da dl dcap) := HB9.out.cell 2
      have pf := fun i => HB9.out.frozen i
      have hPw : w5.heap.size < w9.heap.size := HB9.out.lt
      have HDm := hide (own_but (ownsRow_setCell_other HDn.out (a := ⟨w5.heap.size, 2, none⟩) (fun e => by have h9 : w7.heap.size ≤ w5.heap.size := (HDn.out.lt _ e).1; omega) (.slice da dl dcap)) ho9 (fun j hj e => by have := (HDn.out.lt j hj).1; omega))
      clear ho9 hl9 hs9
      unfold unitV
      go_wp2_with fail
      have HSa := hide (HS9.out)
      have HOa := hide (HO9.out)
      have HBa : Hid (Blk w9 w5.heap.size 137 #[.int .u16 (n : Int), .int .u16 (m1 : Int), .slice da dl dcap]) := hide HB9.out
      have hXa := HSa.out.lt
      have hPa := HBa.out.lt
      have hwa := HOa.out.size
      have HDa := hide (own_base HDm.out (by omega : X + 1 ≤ w7.heap.size))
      clear p0 p1 p2 pf hPw
      have p0 : w9.cell? ⟨w5.heap.size, 0, none⟩ = some (.int .u16 (n : Int)) := HBa.out.cell 0
      have p1 : w9.cell? ⟨w5.heap.size, 1, none⟩ = some (.int .u16 (m1 : Int)) := HBa.out.cell 1
      have p2 : w9.cell? ⟨w5.heap.size, 2, none⟩ = some (.slice da dl dcap) := HBa.out.cell 2
      have q9 := (HSa.out.cfg).2.2.2.2.2
      have HCa := hide (HSTW.out.own HOW.out HOa.out)
      obtain ⟨i0, hi, hz0, hz1, hz2⟩ := info_parts chanI
      have HII := hide hi
      clear hi
      obtain ⟨rec, hrec⟩ : ∃ x : ChanR, x = ⟨n, m1, ds, da, dcap⟩ := ⟨_, rfl⟩
      have HRE : Hid (chanL rec = [.int .u16 (n : Int), .int .u16 (m1 : Int), .slice da dl dcap]) := hide (by rw [hrec]; rw [HDL.out]; rfl)
      have HREC := hide hrec
      clear hrec
      have HRD : Hid (Reads (w9.alloc (.cells #[.int .u16 (n : Int), .int .u16 (m1 : Int), .slice da dl dcap] 137)).drew (w9.heap.size + 1) 3 (some ⟨w9.heap.size, 0, none⟩) 1 (chanL rec)) := hide (by rw [HRE.out]; exact new_reads w9 #[.int .u16 (n : Int), .int .u16 (m1 : Int), .slice da dl dcap] 137 3 rfl)
      go_region_law (refine step_append_any _ rfl (.tmp 183) (.tmp 185) 28 rfl (X + 1) 137 i0 _ 3 32 Tryz.underlying28 HII.out hz0 hz1 hz2 rfl (by decide) (.slice c.chans.a c.chans.l.length c.chans.c) c.chans.l.length (c.chans.l.flatMap chanL) (by simp [Act.eval]) ((HCa.out.chans.alloc _).drew) (w9.heap.size + 1) (some ⟨w9.heap.size, 0, none⟩) 1 1 (chanL rec) (by simp [Act.eval]) HRD.out (chanO rec) (by simp only [maxLen]; omega) (by omega) (by simp; omega) ?_; intro v9 w9 ho9 hg9 hat9; obtain ⟨a9, c9, hv9⟩ := own_slice ho9; subst hv9; have HGR := hide hg9; have HO9 := hide ho9; have HS9 := hide ((HSa.out.alloc (.cells #[.int .u16 (n : Int), .int .u16 (m1 : Int), .slice da dl dcap] 137)).drew.grown hg9 (fun r hr => by have := (HCa.out.chans.lt r hr).1; omega)); have q0 := (HS9.out.cfg).2.2.2.2.2; have qf := HS9.out.frz; have hX9 := HS9.out.lt; clear ho9 hg9 hat9)
      all_goals
        have HC9 : Hid (OwnC (X + 1) { c with chans := ⟨c.chans.l ++ [rec], a9, c9⟩ } w9) := hide (by
          have HCx := (HCa.out.alloc (.cells #[.int .u16 (n : Int), .int .u16 (m1 : Int), .slice da dl dcap] 137)).drew
          have HDy := HDa.out
          rw [HDL.out] at HDy
          have HDx := (HDy.alloc (.cells #[.int .u16 (n : Int), .int .u16 (m1 : Int), .slice da dl dcap] 137)).drew
          exact HCx.pushC (x := rec) (by rw [HREC.out]; exact HDx) HO9.out HGR.out)
        have HSN := hide (HS9.out.setC (c.chans.l ++ [rec]) a9 c9)
        have HCN := hide (OwnC.setX HS9.out HC9.out 13 (.slice a9 (c.chans.l ++ [rec]).length c9))
        have HLOW : Hid (Below X w (w9.setCell ⟨X, 13, none⟩ (.slice a9 (c.chans.l ++ [rec]).length c9))) := hide (((((HOa.out.low hXl).alloc (by omega) (.cells #[.int .u16 (n : Int), .int .u16 (m1 : Int), .slice da dl dcap] 137)).drew).grown HGR.out (by simp; omega) (fun r hr => by have := (HCa.out.chans.lt r hr).1; omega)).setCell (by simp) _)
        have hlen : (c.chans.l ++ [rec]).length = c.chans.l.length + 1 := by simp
        rw [hlen] at HSN HCN HLOW
        go_wp2_with fail
        refine (RWant_calls ⟨#[125]⟩ X _ _ _ HSN.out).mono ?_
        rintro e wz ⟨hoz, uz, sz, rfl, _, hlz, hsz⟩
        unfold unitV
        go_wp2_with fail
        first | go_end0 | (refine bodyPost_ret (results_none rfl _ _ _) rfl ?_)
        refine ⟨rfl, HLOW.out.trans (hoz.low (by have := HS9.out.lt; simpa [World.setCell] using this)), _, sz, hsz, HSN.out.own HCN.out hoz, ?_⟩
        refine HT0.out _ _ ?_
        refine Lf.bind (m := bodyT 5 (pcOf c)) (f := fun c2 => bindT (wantT [125]) fun _ => pureT c2) (a := pcOf { c with chans := ⟨c.chans.l ++ [rec], a9, c9⟩ }) ?_ (hlz.bind (Lf.pure _ _))
        rw [HREC.out]
        exact (by rw [pcOf_chan]; exact HL4.out.bind (HL5.out.bind (HL6.out.bind (HTO.out.bind (HL9.out.bind (Lf.pure _ _))))))
end Go.Proofs.YtdpieljopelkhaaGreatDoor
namespace Go.Proofs.YtdpieljopelkhaaGreatDoor
open Go.RowKit Go.Lib Go.Sort
set_option linter.unusedVariables false

theorem small_of {c : Cfg} (h : OkC (pcOf c)) : c.Small := by
  have h1 : c.parts.l.length ≤ 64 := h.parts
  have h2 : c.wins.l.length ≤ 1024 := h.wins
  have h3 : c.regs.l.length ≤ 1024 := h.regs
  have h4 : c.ports.l.length ≤ 1024 := h.ports
  have h5 : (c.chans.l.map chanK).length ≤ 512 := h.chans
  have h6 := h.links
  rw [linksK_of] at h6
  rw [List.length_map] at h5
  unfold Cfg.Small
  omega
theorem RRecord_calls (k : Nat) (h1 : 1 ≤ k) (h5 : k ≤ 5) (X : Nat) (s : RS) (c : Cfg) (t : Token) (r : List Token) (hl : s.l = t :: r) (he : s.err = none) (hk : t.kind = 1) (w : World) (h : StAt X s c w) (ho : OwnC (X + 1) c w) (hsm : c.Small) :
    Calls Tryz.prog 63 #[.pointer (some ⟨X, 0, none⟩), .int .i64 (k : Int)] w (RecRV k X s c w) := by
  rcases (show k = 1 ∨ k = 2 ∨ k = 3 ∨ k = 4 ∨ k = 5 by omega) with rfl | rfl | rfl | rfl | rfl
  · exact RRec1_calls X s c t r hl he hk w h ho hsm
  · exact RRec2_calls X s c t r hl he hk w h ho hsm
  · exact RRec3_calls X s c t r hl he hk w h ho hsm
  · exact RRec4_calls X s c t r hl he hk w h ho hsm
  · exact RRec5_calls X s c t r hl he hk w h ho hsm
/-- In records. -/
structure RcS (w : World) (X : Nat) (s0 : RS) (c0 : Cfg) (k : Nat) (s1 : RS) (c1 : Cfg) (wr : World) : Prop where
  st : StAt X s1 c1 wr
  own : OwnC (X + 1) c1 wr
  low : Below X w wr
  dead : ∀ f, s0.err = some f → s1.err = some f
  live : s0.err = none → s1.err = none → s1.l.length ≤ k ∧ OkC (pcOf c1) ∧ Tsz s1.l ∧ recordsT k (pcOf c1) s1.l = recordsT s0.l.length (pcOf c0) s0.l
  bad : s0.err = none → ∀ f, s1.err = some f → recordsT s0.l.length (pcOf c0) s0.l = .error f
/-- Behind records. -/
def RecsRV (X : Nat) (s : RS) (c : Cfg) (w : World) (e : Ending) (w' : World) : Prop :=
  e = .returned (.tuple #[]) ∧ Below X w w' ∧ ∃ c' s', StAt X s' c' w' ∧ OwnC (X + 1) c' w' ∧ Lf (allRecT (pcOf c)) s (pcOf c') s'
theorem RcS.pre {w wr : World} {X k : Nat} {s0 s1 : RS} {c0 c1 : Cfg} (h : RcS w X s0 c0 k s1 c1 wr) (he : s1.err = none) : s0.err = none := by
  cases h0 : s0.err with
  | none => rfl
  | some f => have := h.dead f h0; rw [he] at this; cases this
/-- Where the loop stops. -/
theorem RcS.stop {w wr : World} {X k : Nat} {s0 s1 : RS} {c0 c1 : Cfg} (h : RcS w X s0 c0 k s1 c1 wr) (hs : s1.err = none → ∀ t r, s1.l = t :: r → ¬ (t.kind = 1 ∧ 0 < sectN t.text)) : Lf (allRecT (pcOf c0)) s0 (pcOf c1) s1 := by
  refine ⟨h.dead, fun he a0 r0 hr => ?_, fun he f hr => ?_⟩
  · have hr : recordsT s0.l.length (pcOf c0) s0.l = .ok (a0, r0) := hr
    cases h1 : s1.err with
    | some f => rw [h.bad he f h1] at hr; cases hr
    | none =>
      obtain ⟨hk, _, _, e⟩ := h.live he h1
      obtain ⟨t, r, hl⟩ := h.st.form
      have h2 : recordsT k (pcOf c1) s1.l = .ok (pcOf c1, s1.l) := by
        cases k with
        | zero => rw [hl] at hk; simp at hk
        | succ k =>
          rw [hl, recordsT]
          simp only
          rw [if_neg (hs h1 t r hl)]
      rw [← e, h2] at hr
      injection hr with hr
      injection hr with h3 h4
      exact ⟨h3, h4, rfl⟩
  · have hr : recordsT s0.l.length (pcOf c0) s0.l = .error f := hr
    cases h1 : s1.err with
    | some g =>
      have := h.bad he g h1
      rw [hr] at this
      injection this with this
      rw [this]
    | none =>
      obtain ⟨hk, _, _, e⟩ := h.live he h1
      obtain ⟨t, r, hl⟩ := h.st.form
      have h2 : recordsT k (pcOf c1) s1.l = .ok (pcOf c1, s1.l) := by
        cases k with
        | zero => rw [hl] at hk; simp at hk
        | succ k =>
          rw [hl, recordsT]
          simp only
          rw [if_neg (hs h1 t r hl)]
      rw [← e, h2] at hr
      cases hr
/-- One record on. -/
theorem RcS.step {w wr w' : World} {X k : Nat} {s0 s1 s2 : RS} {c0 c1 c2 : Cfg} {t : Token} {r : List Token} (h : RcS w X s0 c0 k s1 c1 wr) (he : s1.err = none) (hl : s1.l = t :: r) (hk1 : t.kind = 1) (hs : 0 < sectN t.text) (h1 : StAt X s2 c2 w') (h2 : OwnC (X + 1) c2 w') (h3 : Below X wr w') (hL : Lf (recordT (sectN t.text) (pcOf c1)) s1 (pcOf c2) s2) :
    RcS w X s0 c0 (k - 1) s2 c2 w' := by
  have h0 := h.pre he
  obtain ⟨hk, hok, hz, e⟩ := h.live h0 he
  obtain ⟨g, rfl⟩ : ∃ g, k = g + 1 := ⟨k - 1, by rw [hl] at hk; simp at hk; omega⟩
  refine ⟨h1, h2, h.low.trans h3, fun f hf => (by rw [h0] at hf; cases hf), fun _ he2 => ?_, fun _ f hf => ?_⟩
  · cases hr : recordT (sectN t.text) (pcOf c1) s1.l with
    | error f => have := hL.bad he f hr; rw [he2] at this; cases this
    | ok x =>
      obtain ⟨a0, r0⟩ := x
      obtain ⟨e1, e2, _⟩ := hL.ok he a0 r0 hr
      have hlen := record_less hr
      obtain ⟨p1, p2⟩ := pok_record hok hs (sect_max _) s1.l a0 r0 hz hr
      rw [hl, recordsT] at e
      simp only at e
      rw [if_pos ⟨hk1, hs⟩, ← hl, hr] at e
      simp only at e
      rw [← e2] at hlen p1
      refine ⟨by omega, by rw [e1]; exact p2, p1, ?_⟩
      rw [← e, e1, e2]
      rfl
  · cases hr : recordT (sectN t.text) (pcOf c1) s1.l with
    | ok x =>
      obtain ⟨a0, r0⟩ := x
      obtain ⟨_, _, e3⟩ := hL.ok he a0 r0 hr
      rw [hf] at e3; cases e3
    | error f0 =>
      have h5 := hL.bad he f0 hr
      rw [hf] at h5
      injection h5 with h5
      rw [hl, recordsT] at e
      simp only at e
      rw [if_pos ⟨hk1, hs⟩, ← hl, hr] at e
      simp only at e
      rw [← e, h5]
set_option maxRecDepth 100000 in
set_option maxHeartbeats 8000000 in
theorem RRecords_calls (X : Nat) (s : RS) (c : Cfg) (w : World) (h : StAt X s c w) (ho : OwnC (X + 1) c w) (hok : s.err = none → OkC (pcOf c) ∧ Tsz s.l) :
    Calls Tryz.prog 28 #[.pointer (some ⟨X, 0, none⟩)] w (RecsRV X s c w) := by
  have HR0 : Hid (RcS w X s c s.l.length s c w) := hide ⟨h, ho, Below.refl X w, fun f hf => hf, fun _ he => ⟨Nat.le_refl _, (hok he).1, (hok he).2, rfl⟩, fun he f hf => (by rw [he] at hf; cases hf)⟩
  obtain ⟨n0, hn0⟩ : ∃ n, n = s.l.length := ⟨_, rfl⟩
  rw [← hn0] at HR0
  clear h ho hok hn0
  go_enter Tryz.func28, Tryz.ntmps28
  go_wp2
  go_loopg [] n0 (fun k wr => Hid (∃ s1 c1, RcS w X s c k s1 c1 wr))
  case atStart => exact hide ⟨s, c, HR0.out⟩
  case round =>
    obtain ⟨s1, c1, hR⟩ := hrel.out
    have HR := hide hR
    have hXr := hR.st.lt
    obtain ⟨t, r, hl⟩ := hR.st.form
    have hP := fun W hW => RPeek_calls X s1 c1 t r hl W hW
    have HL := hide hl
    obtain ⟨at_, code, hO⟩ := hR.st.opened
    have c2 := hO.c2
    have HST := hide hR.st
    obtain ⟨kind, text, v, li, co⟩ := t
    unfold tokV tokC at hP
    simp only at hP
    obtain ⟨y, hy⟩ : ∃ y : ByteArray, y = ⟨text.toArray⟩ := ⟨_, rfl⟩
    have hyt : y.data.toList = text := by rw [hy]
    rw [← hy] at hP
    have hsc := fun W => RSection_calls y W
    rw [hyt] at hsc
    have HP := hide hP
    have fld0 := fun k v i j x w => rtok_f0 k v i j x w
    have fld1 := fun k v i j x w => rtok_f1 k v i j x w
    have hq5 := sect_max text
    have HQ : Hid (∃ q, q = sectN text) := hide ⟨_, rfl⟩
    obtain ⟨q, hq⟩ := HQ.out
    rw [← hq] at hsc hq5
    have HSC := hide hsc
    have HQE := hide hq
    clear hrel hR hl hP hy hyt hsc hq HQ
    cases he : s1.err with
    | some f =>
      have k2 : ((code : Int) == 0) = false := by have := hO.some_ f he; rw [beq_eq_false_iff_ne]; omega
      have HE := hide he
      clear hO he
      go_wp2
      go_end0
      exact ⟨rfl, HR.out.low, c1, s1, HR.out.st, HR.out.own, HR.out.stop (fun h0 => by rw [HE.out] at h0; cases h0)⟩
    | none =>
      have h0 := hO.none_ he
      subst h0
      have HE := hide he
      clear hO he
      have HB : Hid (RowKit.Below wr.heap.size wr wr) := hide (Below.refl _ wr)
      by_cases hk : kind = 1
      · subst hk
        by_cases hqz : q = 0
        · subst hqz
          go_wp2_with (first
            | (go_at_call 59; refine (HP.out _ HST.out).mono ?_; rintro e w2 ⟨rfl, hb2⟩; have HST := hide (HST.out.below hb2); have HB := hide (HB.out.trans (hb2.mono HB.out.size)); have hXw := HST.out.lt; clear hb2)
            | (go_at_call 62; refine (HSC.out _).mono ?_; rintro e w3 ⟨rfl, rfl⟩))
          go_end0
          exact ⟨rfl, HR.out.low.trans (HB.out.mono (by omega)), c1, s1, HST.out, HR.out.own.below HB.out, HR.out.stop (fun _ t r h0 => by rw [HL.out] at h0; injection h0 with h0; rw [← h0]; intro h1; have h2 := h1.2; rw [← HQE.out] at h2; omega)⟩
        · have g1 : decide ((0 : Int) < (q : Int)) = true := by simp; omega
          have g2 : decide (0 < q) = true := by simp; omega
          have hq1 : 1 ≤ q := by omega
          have HG0 := hide hq1
          have hlv := HR.out.live (HR.out.pre HE.out) HE.out
          have HREC := hide (fun W (hW : StAt X s1 c1 W) hO => RRecord_calls q hq1 hq5 X s1 c1 _ r HL.out HE.out rfl W hW hO (small_of hlv.2.1))
          clear hqz hlv
          go_wp2_with (first
            | (go_at_call 63; refine (HREC.out _ HST.out (HR.out.own.below HB.out)).mono ?_; rintro e w7 ⟨rfl, hlow, c7, s7, hs7, ho7, hl7⟩; have HN7 : Hid (RcS w X s c (gk - 1) s7 c7 w7) := hide (HR.out.step HE.out HL.out rfl (by rw [← HQE.out]; exact HG0.out) hs7 ho7 ((HB.out.mono (by omega)).trans hlow) (by rw [← HQE.out]; exact hl7)); clear hlow hs7 ho7 hl7)
            | (go_at_call 59; refine (HP.out _ HST.out).mono ?_; rintro e w2 ⟨rfl, hb2⟩; have HST := hide (HST.out.below hb2); have HB := hide (HB.out.trans (hb2.mono HB.out.size)); have hXw := HST.out.lt; clear hb2)
            | (go_at_call 62; refine (HSC.out _).mono ?_; rintro e w3 ⟨rfl, rfl⟩))
          go_roundg (gk - 1)
          case rel => exact hide ⟨s7, c7, HN7.out⟩
          case measure =>
            have := (HR.out.live (HR.out.pre HE.out) HE.out).1
            rw [HL.out] at this
            simp at this
            omega
      · have m1 : ((kind : Int) == 1) = false := by rw [beq_eq_false_iff_ne]; omega
        have HK := hide hk
        clear hk
        go_wp2_with (first
            | (go_at_call 59; refine (HP.out _ HST.out).mono ?_; rintro e w2 ⟨rfl, hb2⟩; have HST := hide (HST.out.below hb2); have HB := hide (HB.out.trans (hb2.mono HB.out.size)); have hXw := HST.out.lt; clear hb2)
            | (go_at_call 62; refine (HSC.out _).mono ?_; rintro e w3 ⟨rfl, rfl⟩))
        go_end0
        exact ⟨rfl, HR.out.low.trans (HB.out.mono (by omega)), c1, s1, HST.out, HR.out.own.below HB.out, HR.out.stop (fun _ t r h0 => by rw [HL.out] at h0; injection h0 with h0; rw [← h0]; intro h1; exact HK.out h1.1)⟩
end Go.Proofs.YtdpieljopelkhaaGreatDoor
