/- The reference's record of kind 3 (chapter 07). Written by genpbrec.py. -/
import Derived.Test.YtdpieljopelkhaaGreatDoorMPbRec0
import Derived.Deep.RegionHeld3
import Derived.Deep.DeepCutAuto
namespace Go.Proofs.YtdpieljopelkhaaGreatDoor
open Go.RowKit Go.Lib Go.Sort
set_option linter.unusedVariables false

set_option maxRecDepth 100000 in
set_option maxHeartbeats 16000000 in
theorem RRec3_calls (X : Nat) (s : RS) (c : Cfg) (t : Token) (r : List Token) (hl : s.l = t :: r) (he : s.err = none) (hk : t.kind = 1) (w : World) (h : StAt X s c w) (ho : OwnC (X + 1) c w) (hsm : c.Small) :
    Calls Tryz.prog 63 #[.pointer (some ⟨X, 0, none⟩), .int .i64 3] w (RecRV 3 X s c w) := by
  have hXl := h.lt
  have hts := takeS_on he hl (by omega)
  have hT := RTake_calls X s c t r hl w h
  rw [hts] at hT
  have HT0 : Hid (∀ sF cF, Lf (restT 3 (pcOf c)) (if limN 3 ≤ cntK (pcOf c) 3 then failS 7 t ⟨r, none⟩ else ⟨r, none⟩) cF sF → Lf (recordT 3 (pcOf c)) s cF sF) := hide (fun sF cF hL => by
    by_cases hlim : limN 3 ≤ cntK (pcOf c) 3
    · rw [if_pos hlim] at hL
      exact Lf.record_lim he hl hk (failS_err rfl 7) hlim hL
    · rw [if_neg hlim] at hL
      exact Lf.record_ok he hl hk rfl (by omega) hL)
  obtain ⟨kind, text, v, li, co⟩ := t
  have hF := fun W (hW : StAt X ⟨r, none⟩ c W) => RFail_calls X ⟨r, none⟩ c 7 (by omega) ⟨kind, text, v, li, co⟩ W hW
  unfold tokV tokC at hT hF
  simp only at hT hF hk
  subst hk
  obtain ⟨y, hy⟩ : ∃ y : ByteArray, y = ⟨text.toArray⟩ := ⟨_, rfl⟩
  rw [← hy] at hT hF
  have HTK : Hid (Calls Tryz.prog 60 #[.pointer (some ⟨X, 0, none⟩)] w fun e w' => e = .returned (.agg #[.int .i64 1, .string y, .int .u64 (v : Int), .int .i64 (li : Int), .int .i64 (co : Int)]) ∧ OnlyX X w w' ∧ StAt X ⟨r, none⟩ c w') := hide hT
  have HF : Hid (∀ W, StAt X ⟨r, none⟩ c W → Calls Tryz.prog 58 #[.pointer (some ⟨X, 0, none⟩), .int .i64 7, .agg #[.int .i64 1, .string y, .int .u64 (v : Int), .int .i64 (li : Int), .int .i64 (co : Int)]] W fun e w' => e = .returned (.tuple #[]) ∧ OnlyX X W w' ∧ StAt X (failS 7 ⟨1, text, v, li, co⟩ ⟨r, none⟩) c w') := hide hF
  have hNI : (c.regs.l.length : Int) ≤ 1048576 := by unfold Cfg.Small at hsm; omega
  have HCt : Hid (∀ W, CfgAt W.heap.size c W → Calls Tryz.prog 96 #[.agg #[.int .u64 (c.frame : Int), .slice c.parts.a c.parts.l.length c.parts.c, .slice c.wins.a c.wins.l.length c.wins.c, .slice c.regs.a c.regs.l.length c.regs.c, .slice c.ports.a c.ports.l.length c.ports.c, .slice c.chans.a c.chans.l.length c.chans.c]] W fun e w' => e = .returned (.agg #[.int .i64 0, .int .i64 (c.parts.l.length : Int), .int .i64 (c.wins.l.length : Int), .int .i64 (c.regs.l.length : Int), .int .i64 (c.ports.l.length : Int), .int .i64 (c.chans.l.length : Int), .int .i64 (linksN c.chans.l : Int)]) ∧ Below W.heap.size W w') := hide (fun W hW => Counts_calls c W hW hsm)
  have HLim : Hid (∀ W, Calls Tryz.prog 97 #[.int .i64 3] W fun e w' => e = .returned (.int .i64 1024) ∧ w' = W) := hide (fun W => RLimit_calls 3 W (by omega))
  have hix := fun a b c d e f w => cnt_ix3 a b c d e f w
  have hcnt : cntK (pcOf c) 3 = c.regs.l.length := rfl
  have hlm : limN 3 = 1024 := rfl
  rw [hcnt, hlm] at HT0
  have HOW := hide ho
  have HSTW := hide h
  obtain ⟨s1, hs1⟩ : ∃ s1 : RS, s1 = ⟨r, none⟩ := ⟨_, rfl⟩
  rw [← hs1] at HTK HF HT0
  have HN : Hid (∀ s W, StAt X s c W → Calls Tryz.prog 61 #[.pointer (some ⟨X, 0, none⟩), .int .u64 65535] W (RfV (numT 65535) natV (fun n => n ≤ 65535) X s c W)) := hide (fun s W hW => RNumber_calls 65535 X s c W hW)
  have HNM := hide (fun s W (hW : StAt X s c W) => RName_calls X s c W hW)
  have HW := hide (fun x s W (hW : StAt X s c W) => RWant_calls x X s c W hW)
  have HFT : Hid (∀ x s W, StAt X s c W → Calls Tryz.prog 26 #[.pointer (some ⟨X, 0, none⟩), .string x, .int .u64 ((topN : Nat) : Int)] W (RfV (fieldT x.data.toList topN) natV (fun n => n ≤ topN) X s c W)) := hide (fun x s W hW => RField_calls x topN X s c W hW)
  have HF16 : Hid (∀ x s W, StAt X s c W → Calls Tryz.prog 26 #[.pointer (some ⟨X, 0, none⟩), .string x, .int .u64 65535] W (RfV (fieldT x.data.toList 65535) natV (fun n => n ≤ 65535) X s c W)) := hide (fun x s W hW => RField_calls x 65535 X s c W hW)
  have HF32 : Hid (∀ x s W, StAt X s c W → Calls Tryz.prog 26 #[.pointer (some ⟨X, 0, none⟩), .string x, .int .u64 4294967295] W (RfV (fieldT x.data.toList 4294967295) natV (fun n => n ≤ 4294967295) X s c W)) := hide (fun x s W hW => RField_calls x 4294967295 X s c W hW)
  have HS1E := hide hs1
  have HSM := hide hsm
  have HCH : Hid (∀ a b s W, StAt X s c W → Calls Tryz.prog 101 #[.pointer (some ⟨X, 0, none⟩), .string a, .string b] W (RfV (choiceT a.data.toList b.data.toList) boolV (fun _ => True) X s c W)) := hide (fun a b s W hW => RChoice_calls a b X s c W hW)
  have HRG := hide (fun s W (hW : StAt X s c W) => RRights7_calls X s c W hW)
  have mixed := mixed_prog
  clear h ho hl he hts hT hF hy hsm hcnt hlm hs1
  have HSX : Hid (∀ W, StAt X s1 c W → (W.cell? ⟨X, 8, none⟩ = some (.int .u64 (c.frame : Int)) ∧ W.cell? ⟨X, 9, none⟩ = some (.slice c.parts.a c.parts.l.length c.parts.c) ∧ W.cell? ⟨X, 10, none⟩ = some (.slice c.wins.a c.wins.l.length c.wins.c) ∧ W.cell? ⟨X, 11, none⟩ = some (.slice c.regs.a c.regs.l.length c.regs.c) ∧ W.cell? ⟨X, 12, none⟩ = some (.slice c.ports.a c.ports.l.length c.ports.c) ∧ W.cell? ⟨X, 13, none⟩ = some (.slice c.chans.a c.chans.l.length c.chans.c) ∧ StAt X s1 c W)) := hide (fun W hW => hW.cfgs)
  obtain ⟨bq, hbq⟩ : ∃ b, b = decide (1024 ≤ c.regs.l.length) := ⟨_, rfl⟩
  have d1 : decide ((1024 : Int) ≤ (c.regs.l.length : Int)) = bq := by
    rw [hbq]
    by_cases h0 : 1024 ≤ c.regs.l.length
    · rw [decide_eq_true h0, decide_eq_true_eq]; omega
    · rw [decide_eq_false h0, decide_eq_false_iff_not]; omega
  have d2 : decide (1024 ≤ c.regs.l.length) = bq := hbq.symm
  obtain ⟨s2, hs2⟩ : ∃ s2, s2 = (if 1024 ≤ c.regs.l.length then failS 7 ⟨1, text, v, li, co⟩ s1 else s1) := ⟨_, rfl⟩
  rw [← hs2] at HT0
  have HSa : Hid (bq = true → s2 = failS 7 ⟨1, text, v, li, co⟩ s1) := hide (fun hb => by rw [hs2, if_pos (by rw [hbq] at hb; simpa using hb)])
  have HSb : Hid (bq = false → s2 = s1) := hide (fun hb => by rw [hs2, if_neg (by rw [hbq] at hb; simpa using hb)])
  clear hbq hs2
  go_enter Tryz.func63, Tryz.ntmps63
  go_wp2_with (go_at_call 60; refine HTK.out.mono ?_; rintro e w2 ⟨rfl, ho2, hs2⟩; have HO2 := hide ho2; have HS2 := hide hs2; have hz2 := ho2.size; clear ho2 hs2)
  have HM1 : Hid (RM X c w w2.heap.size #[.int .i64 1, .string y, .int .u64 (v : Int), .int .i64 (li : Int), .int .i64 (co : Int)] (w2.alloc (.cells #[.int .i64 1, .string y, .int .u64 (v : Int), .int .i64 (li : Int), .int .i64 (co : Int)] 45)).drew) := hide ⟨(HO2.out.alloc _).drew, ((HSTW.out.own HOW.out HO2.out).alloc _).drew, (Blk.new w2 _ _).drew⟩
  have HS1 := hide (HS2.out.alloc (.cells #[.int .i64 1, .string y, .int .u64 (v : Int), .int .i64 (li : Int), .int .i64 (co : Int)] 45)).drew
  have HCF : Hid (∀ W, RM X c w w2.heap.size #[.int .i64 1, .string y, .int .u64 (v : Int), .int .i64 (li : Int), .int .i64 (co : Int)] W → CfgAt W.heap.size c W) := hide (fun W hW => hW.2.1.at_)
  go_cut [22] (fun v22 wx => v22 = .bool bq ∧ Hid (RM X c w w2.heap.size #[.int .i64 1, .string y, .int .u64 (v : Int), .int .i64 (li : Int), .int .i64 (co : Int)] wx ∧ StAt X s1 c wx))
  case first =>
    go_region_held3 (fun w' => (w'.cell? ⟨X, 8, none⟩ = some (.int .u64 (c.frame : Int)) ∧ w'.cell? ⟨X, 9, none⟩ = some (.slice c.parts.a c.parts.l.length c.parts.c) ∧ w'.cell? ⟨X, 10, none⟩ = some (.slice c.wins.a c.wins.l.length c.wins.c) ∧ w'.cell? ⟨X, 11, none⟩ = some (.slice c.regs.a c.regs.l.length c.regs.c) ∧ w'.cell? ⟨X, 12, none⟩ = some (.slice c.ports.a c.ports.l.length c.ports.c) ∧ w'.cell? ⟨X, 13, none⟩ = some (.slice c.chans.a c.chans.l.length c.chans.c) ∧ StAt X s1 c w'))
      (first | with_reducible assumption | with_reducible exact HSX.out _ HS1.out | with_reducible exact HSX.out _ (by with_reducible assumption) | fail)
      (first
      | (go_at_call 96; refine (HCt.out _ (HCF.out _ (Hid.out (by with_reducible assumption)))).mono ?_; rintro e w5 ⟨rfl, hb5⟩; have HM5 := hide (RM.below (Hid.out (by with_reducible assumption : Hid (RM X c w w2.heap.size #[.int .i64 1, .string y, .int .u64 (v : Int), .int .i64 (li : Int), .int .i64 (co : Int)] _))) hb5); have hx5 := StAt.below (And.right (And.right (And.right (And.right (And.right (And.right (by with_reducible assumption))))))) hb5)
      | (go_at_call 97; refine (HLim.out _).mono ?_; rintro e w5 ⟨rfl, rfl⟩))
    all_goals
      go_wp2_with fail
      go_meet
      exact ⟨rfl, hide ⟨HM5.out, hx5⟩⟩
  case rest =>
    obtain ⟨rfl, hm⟩ := hcut
    have hbt := hm.out.1.2.2
    have r0 := hbt.cell 0
    have r1 := hbt.cell 1
    have r2 := hbt.cell 2
    have r3 := hbt.cell 3
    have r4 := hbt.cell 4
    clear hbt
    go_upto_if 22 with (fail)
    go_cut [] (fun wx => Hid (OnlyX X w wx ∧ StAt X s2 c wx))
    case first =>
      cases bq
      · go_wp2_with fail
        go_meet
        exact hide ⟨hm.out.1.1, by rw [HSb.out (by first | exact rfl | exact trivial)]; exact hm.out.2⟩
      · go_wp2_with (go_at_call 58; refine (HF.out _ hm.out.2).mono ?_; rintro e w6 ⟨rfl, ho6, hs6⟩; have HO6 := hide (hm.out.1.1.trans ho6); have HS6 := hide hs6; clear ho6 hs6)
        go_meet
        exact hide ⟨HO6.out, by rw [HSa.out (by first | exact rfl | exact trivial)]; exact HS6.out⟩
    case rest =>
      have HO3 := hide hcut.out.1
      have HS3 := hide hcut.out.2
      clear hcut
      go_wp2_with (first | (go_at_call 98; refine (Rid_calls _).mono ?_; rintro e wq ⟨rfl, rfl⟩) | (go_at_call 27; refine (Rtop_calls _).mono ?_; rintro e wq ⟨rfl, rfl⟩))
      refine (HN.out _ _ HS3.out).mono ?_
      rintro e w4 ⟨ho4, n, s4, rfl, hv4, hl4, hs4⟩
      have HO4 := hide (OnlyX.trans HO3.out ho4)
      have HL4 := hide hl4
      have HS4 := hide hs4
      have hX4 : X < w4.heap.size := hs4.lt
      have wn : IntKind.u16.wrap (n : Int) = (n : Int) := by rw [IntKind.wrap_u16]; omega
      clear ho4 hl4 hs4
      unfold natV
      go_wp2_with (first | (go_at_call 98; refine (Rid_calls _).mono ?_; rintro e wq ⟨rfl, rfl⟩) | (go_at_call 27; refine (Rtop_calls _).mono ?_; rintro e wq ⟨rfl, rfl⟩))
      refine (HW.out ⟨#[123]⟩ _ _ HS4.out).mono ?_
      rintro e w5 ⟨ho5, u, s5, rfl, hv5, hl5, hs5⟩
      have HO5 := hide (OnlyX.trans HO4.out ho5)
      have HL5 := hide hl5
      have HS5 := hide hs5
      have hX5 : X < w5.heap.size := hs5.lt
      clear ho5 hl5 hs5
      unfold unitV
      go_wp2_with (first | (go_at_call 98; refine (Rid_calls _).mono ?_; rintro e wq ⟨rfl, rfl⟩) | (go_at_call 27; refine (Rtop_calls _).mono ?_; rintro e wq ⟨rfl, rfl⟩))
      refine (HFT.out ⟨#[98, 97, 115, 101]⟩ _ _ (HS5.out.alloc _)).mono ?_
      rintro e w6 ⟨ho6, m1, s6, rfl, hv6, hl6, hs6⟩
      have HO6 := hide (OnlyX.trans (HO5.out.alloc _) ho6)
      have HL6 := hide hl6
      have HS6 := hide hs6
      have hX6 : X < w6.heap.size := hs6.lt
      have hXP : X < w5.heap.size := HS5.out.lt
      have hwP : w.heap.size ≤ w5.heap.size := HO5.out.size
      have HB6 : Hid (Blk w6 w5.heap.size 101 #[.int .u64 0, .int .u64 0, .int .u16 (n : Int), .int .u8 0, .bool false]) := hide (ho6.blk (Blk.new w5 101 #[.int .u64 0, .int .u64 0, .int .u16 (n : Int), .int .u8 0, .bool false]) (by omega))
      have p0 : w6.cell? ⟨w5.heap.size, 0, none⟩ = some (.int .u64 0) := HB6.out.cell 0
      have p1 : w6.cell? ⟨w5.heap.size, 1, none⟩ = some (.int .u64 0) := HB6.out.cell 1
      have p2 : w6.cell? ⟨w5.heap.size, 2, none⟩ = some (.int .u16 (n : Int)) := HB6.out.cell 2
      have p3 : w6.cell? ⟨w5.heap.size, 3, none⟩ = some (.int .u8 0) := HB6.out.cell 3
      have p4 : w6.cell? ⟨w5.heap.size, 4, none⟩ = some (.bool false) := HB6.out.cell 4
      have pf := fun i => HB6.out.frozen i
      have hPw : w5.heap.size < w6.heap.size := HB6.out.lt
      clear ho6 hl6 hs6
      unfold natV
      go_wp2_with (first | (go_at_call 98; refine (Rid_calls _).mono ?_; rintro e wq ⟨rfl, rfl⟩) | (go_at_call 27; refine (Rtop_calls _).mono ?_; rintro e wq ⟨rfl, rfl⟩))
      refine (HFT.out ⟨#[115, 105, 122, 101]⟩ _ _ (HS6.out.far (p := ⟨w5.heap.size, 0, none⟩) hXP (.int .u64 (m1 : Int)))).mono ?_
      rintro e w7 ⟨ho7, m2, s7, rfl, hv7, hl7, hs7⟩
      have HO7 := hide (OnlyX.trans (HO6.out.setNew (p := ⟨w5.heap.size, 0, none⟩) hwP (.int .u64 (m1 : Int))) ho7)
      have HL7 := hide hl7
      have HS7 := hide hs7
      have hX7 : X < w7.heap.size := hs7.lt
      have HB7 : Hid (Blk w7 w5.heap.size 101 #[.int .u64 (m1 : Int), .int .u64 0, .int .u16 (n : Int), .int .u8 0, .bool false]) := hide (ho7.blk (HB6.out.set_ 0 (.int .u64 (m1 : Int))) (by omega))
      clear p0 p1 p2 p3 p4 pf hPw
      have p0 : w7.cell? ⟨w5.heap.size, 0, none⟩ = some (.int .u64 (m1 : Int)) := HB7.out.cell 0
      have p1 : w7.cell? ⟨w5.heap.size, 1, none⟩ = some (.int .u64 0) := HB7.out.cell 1
      have p2 : w7.cell? ⟨w5.heap.size, 2, none⟩ = some (.int .u16 (n : Int)) := HB7.out.cell 2
      have p3 : w7.cell? ⟨w5.heap.size, 3, none⟩ = some (.int .u8 0) := HB7.out.cell 3
      have p4 : w7.cell? ⟨w5.heap.size, 4, none⟩ = some (.bool false) := HB7.out.cell 4
      have pf := fun i => HB7.out.frozen i
      have hPw : w5.heap.size < w7.heap.size := HB7.out.lt
      clear ho7 hl7 hs7
      unfold natV
      go_wp2_with (first | (go_at_call 98; refine (Rid_calls _).mono ?_; rintro e wq ⟨rfl, rfl⟩) | (go_at_call 27; refine (Rtop_calls _).mono ?_; rintro e wq ⟨rfl, rfl⟩))
      refine (HW.out ⟨#[114, 105, 103, 104, 116, 115]⟩ _ _ (HS7.out.far (p := ⟨w5.heap.size, 1, none⟩) hXP (.int .u64 (m2 : Int)))).mono ?_
      rintro e w8 ⟨ho8, u, s8, rfl, hv8, hl8, hs8⟩
      have HO8 := hide (OnlyX.trans (HO7.out.setNew (p := ⟨w5.heap.size, 1, none⟩) hwP (.int .u64 (m2 : Int))) ho8)
      have HL8 := hide hl8
      have HS8 := hide hs8
      have hX8 : X < w8.heap.size := hs8.lt
      have HB8 : Hid (Blk w8 w5.heap.size 101 #[.int .u64 (m1 : Int), .int .u64 (m2 : Int), .int .u16 (n : Int), .int .u8 0, .bool false]) := hide (ho8.blk (HB7.out.set_ 1 (.int .u64 (m2 : Int))) (by omega))
      clear p0 p1 p2 p3 p4 pf hPw
      have p0 : w8.cell? ⟨w5.heap.size, 0, none⟩ = some (.int .u64 (m1 : Int)) := HB8.out.cell 0
      have p1 : w8.cell? ⟨w5.heap.size, 1, none⟩ = some (.int .u64 (m2 : Int)) := HB8.out.cell 1
      have p2 : w8.cell? ⟨w5.heap.size, 2, none⟩ = some (.int .u16 (n : Int)) := HB8.out.cell 2
      have p3 : w8.cell? ⟨w5.heap.size, 3, none⟩ = some (.int .u8 0) := HB8.out.cell 3
      have p4 : w8.cell? ⟨w5.heap.size, 4, none⟩ = some (.bool false) := HB8.out.cell 4
      have pf := fun i => HB8.out.frozen i
      have hPw : w5.heap.size < w8.heap.size := HB8.out.lt
      clear ho8 hl8 hs8
      unfold unitV
      go_wp2_with (first | (go_at_call 98; refine (Rid_calls _).mono ?_; rintro e wq ⟨rfl, rfl⟩) | (go_at_call 27; refine (Rtop_calls _).mono ?_; rintro e wq ⟨rfl, rfl⟩))
      refine (HRG.out _ _ HS8.out).mono ?_
      rintro e w9 ⟨ho9, m3, s9, rfl, hv9, hl9, hs9⟩
      have HO9 := hide (OnlyX.trans HO8.out ho9)
      have HL9 := hide hl9
      have HS9 := hide hs9
      have hX9 : X < w9.heap.size := hs9.lt
      have HB9 : Hid (Blk w9 w5.heap.size 101 #[.int .u64 (m1 : Int), .int .u64 (m2 : Int), .int .u16 (n : Int), .int .u8 0, .bool false]) := hide (ho9.blk HB8.out (by omega))
      clear p0 p1 p2 p3 p4 pf hPw
      have p0 : w9.cell? ⟨w5.heap.size, 0, none⟩ = some (.int .u64 (m1 : Int)) := HB9.out.cell 0
      have p1 : w9.cell? ⟨w5.heap.size, 1, none⟩ = some (.int .u64 (m2 : Int)) := HB9.out.cell 1
      have p2 : w9.cell? ⟨w5.heap.size, 2, none⟩ = some (.int .u16 (n : Int)) := HB9.out.cell 2
      have p3 : w9.cell? ⟨w5.heap.size, 3, none⟩ = some (.int .u8 0) := HB9.out.cell 3
      have p4 : w9.cell? ⟨w5.heap.size, 4, none⟩ = some (.bool false) := HB9.out.cell 4
      have pf := fun i => HB9.out.frozen i
      have hPw : w5.heap.size < w9.heap.size := HB9.out.lt
      clear ho9 hl9 hs9
      unfold u8V
      go_wp2_with (first | (go_at_call 98; refine (Rid_calls _).mono ?_; rintro e wq ⟨rfl, rfl⟩) | (go_at_call 27; refine (Rtop_calls _).mono ?_; rintro e wq ⟨rfl, rfl⟩))
      refine (HW.out ⟨#[59]⟩ _ _ (HS9.out.far (p := ⟨w5.heap.size, 3, none⟩) hXP (.int .u8 (m3 : Int)))).mono ?_
      rintro e w10 ⟨ho10, u, s10, rfl, hv10, hl10, hs10⟩
      have HO10 := hide (OnlyX.trans (HO9.out.setNew (p := ⟨w5.heap.size, 3, none⟩) hwP (.int .u8 (m3 : Int))) ho10)
      have HL10 := hide hl10
      have HS10 := hide hs10
      have hX10 : X < w10.heap.size := hs10.lt
      have HB10 : Hid (Blk w10 w5.heap.size 101 #[.int .u64 (m1 : Int), .int .u64 (m2 : Int), .int .u16 (n : Int), .int .u8 (m3 : Int), .bool false]) := hide (ho10.blk (HB9.out.set_ 3 (.int .u8 (m3 : Int))) (by omega))
      clear p0 p1 p2 p3 p4 pf hPw
      have p0 : w10.cell? ⟨w5.heap.size, 0, none⟩ = some (.int .u64 (m1 : Int)) := HB10.out.cell 0
      have p1 : w10.cell? ⟨w5.heap.size, 1, none⟩ = some (.int .u64 (m2 : Int)) := HB10.out.cell 1
      have p2 : w10.cell? ⟨w5.heap.size, 2, none⟩ = some (.int .u16 (n : Int)) := HB10.out.cell 2
      have p3 : w10.cell? ⟨w5.heap.size, 3, none⟩ = some (.int .u8 (m3 : Int)) := HB10.out.cell 3
      have p4 : w10.cell? ⟨w5.heap.size, 4, none⟩ = some (.bool false) := HB10.out.cell 4
      have pf := fun i => HB10.out.frozen i
      have hPw : w5.heap.size < w10.heap.size := HB10.out.lt
      clear ho10 hl10 hs10
      unfold unitV
      obtain ⟨tq, rq, hlq⟩ := HS10.out.form
      have HIq : Hid (Calls Tryz.prog 57 #[.pointer (some ⟨X, 0, none⟩), .string ⟨#[115, 104, 97, 114, 101, 100]⟩] w10 fun e w' => e = .returned (.bool (isR [115, 104, 97, 114, 101, 100] s10)) ∧ Below w10.heap.size w10 w') := hide (RIs_calls ⟨#[115, 104, 97, 114, 101, 100]⟩ X s10 c tq rq hlq _ HS10.out)
      cases hsh : isR [115, 104, 97, 114, 101, 100] s10 with
      | false =>
        rw [hsh] at HIq
        have HLs := hide (shared_noL hsh)
        clear hsh
        go_wp2_with fail
        refine HIq.out.mono ?_
        rintro e w11 ⟨rfl, hb11⟩
        have HO11 := hide (OnlyX.below HO10.out hb11)
        have HS11 := hide (StAt.below HS10.out hb11)
        have hX11 : X < w11.heap.size := HS11.out.lt
        have HB11 := hide (Blk.below HB10.out hb11 HB10.out.lt)
        clear hb11 p0 p1 p2 p3 p4 pf hPw
        have p0 : w11.cell? ⟨w5.heap.size, 0, none⟩ = some (.int .u64 (m1 : Int)) := HB11.out.cell 0
        have p1 : w11.cell? ⟨w5.heap.size, 1, none⟩ = some (.int .u64 (m2 : Int)) := HB11.out.cell 1
        have p2 : w11.cell? ⟨w5.heap.size, 2, none⟩ = some (.int .u16 (n : Int)) := HB11.out.cell 2
        have p3 : w11.cell? ⟨w5.heap.size, 3, none⟩ = some (.int .u8 (m3 : Int)) := HB11.out.cell 3
        have p4 : w11.cell? ⟨w5.heap.size, 4, none⟩ = some (.bool false) := HB11.out.cell 4
        have pf := fun i => HB11.out.frozen i
        have hPw : w5.heap.size < w11.heap.size := HB11.out.lt
        go_wp2_with fail
        have HSa := hide (HS11.out)
        have HOa := hide (HO11.out)
        have HBa : Hid (Blk w11 w5.heap.size 101 #[.int .u64 (m1 : Int), .int .u64 (m2 : Int), .int .u16 (n : Int), .int .u8 (m3 : Int), .bool false]) := hide HB11.out
        have hXa := HSa.out.lt
        have hPa := HBa.out.lt
        have hwa := HOa.out.size
        clear p0 p1 p2 p3 p4 pf hPw
        have p0 : w11.cell? ⟨w5.heap.size, 0, none⟩ = some (.int .u64 (m1 : Int)) := HBa.out.cell 0
        have p1 : w11.cell? ⟨w5.heap.size, 1, none⟩ = some (.int .u64 (m2 : Int)) := HBa.out.cell 1
        have p2 : w11.cell? ⟨w5.heap.size, 2, none⟩ = some (.int .u16 (n : Int)) := HBa.out.cell 2
        have p3 : w11.cell? ⟨w5.heap.size, 3, none⟩ = some (.int .u8 (m3 : Int)) := HBa.out.cell 3
        have p4 : w11.cell? ⟨w5.heap.size, 4, none⟩ = some (.bool false) := HBa.out.cell 4
        have q9 := (HSa.out.cfg).2.2.2.1
        have HCa := hide (HSTW.out.own HOW.out HOa.out)
        obtain ⟨i0, hi, hz0, hz1, hz2⟩ := info_parts regI
        have HII := hide hi
        clear hi
        obtain ⟨rec, hrec⟩ : ∃ x : RegR, x = ⟨m1, m2, n, m3, false⟩ := ⟨_, rfl⟩
        have HRE : Hid (regL rec = [.int .u64 (m1 : Int), .int .u64 (m2 : Int), .int .u16 (n : Int), .int .u8 (m3 : Int), .bool false]) := hide (by rw [hrec]; rfl)
        have HREC := hide hrec
        clear hrec
        have HRD : Hid (Reads (w11.alloc (.cells #[.int .u64 (m1 : Int), .int .u64 (m2 : Int), .int .u16 (n : Int), .int .u8 (m3 : Int), .bool false] 101)).drew (w11.heap.size + 1) 5 (some ⟨w11.heap.size, 0, none⟩) 1 (regL rec)) := hide (by rw [HRE.out]; exact new_reads w11 #[.int .u64 (m1 : Int), .int .u64 (m2 : Int), .int .u16 (n : Int), .int .u8 (m3 : Int), .bool false] 101 5 rfl)
        go_region_law (refine step_append_any _ rfl (.tmp 118) (.tmp 120) 26 rfl (X + 1) 101 i0 _ 5 24 Tryz.underlying26 HII.out hz0 hz1 hz2 rfl (by decide) (.slice c.regs.a c.regs.l.length c.regs.c) c.regs.l.length (c.regs.l.flatMap regL) (by simp [Act.eval]) ((HCa.out.regs.alloc _).drew) (w11.heap.size + 1) (some ⟨w11.heap.size, 0, none⟩) 1 1 (regL rec) (by simp [Act.eval]) HRD.out (regO rec) (by simp only [maxLen]; omega) (by omega) (by simp; omega) ?_; intro v9 w9 ho9 hg9 hat9; obtain ⟨a9, c9, hv9⟩ := own_slice ho9; subst hv9; have HGR := hide hg9; have HO9 := hide ho9; have HS9 := hide ((HSa.out.alloc (.cells #[.int .u64 (m1 : Int), .int .u64 (m2 : Int), .int .u16 (n : Int), .int .u8 (m3 : Int), .bool false] 101)).drew.grown hg9 (fun r hr => by have := (HCa.out.regs.lt r hr).1; omega)); have q0 := (HS9.out.cfg).2.2.2.1; have qf := HS9.out.frz; have hX9 := HS9.out.lt; clear ho9 hg9 hat9)
        all_goals
          have HC9 : Hid (OwnC (X + 1) { c with regs := ⟨c.regs.l ++ [rec], a9, c9⟩ } w9) := hide (by
            have HCx := (HCa.out.alloc (.cells #[.int .u64 (m1 : Int), .int .u64 (m2 : Int), .int .u16 (n : Int), .int .u8 (m3 : Int), .bool false] 101)).drew
            exact HCx.pushR HO9.out HGR.out)
          have HSN := hide (HS9.out.setR (c.regs.l ++ [rec]) a9 c9)
          have HCN := hide (OwnC.setX HS9.out HC9.out 11 (.slice a9 (c.regs.l ++ [rec]).length c9))
          have HLOW : Hid (Below X w (w9.setCell ⟨X, 11, none⟩ (.slice a9 (c.regs.l ++ [rec]).length c9))) := hide (((((HOa.out.low hXl).alloc (by omega) (.cells #[.int .u64 (m1 : Int), .int .u64 (m2 : Int), .int .u16 (n : Int), .int .u8 (m3 : Int), .bool false] 101)).drew).grown HGR.out (by simp; omega) (fun r hr => by have := (HCa.out.regs.lt r hr).1; omega)).setCell (by simp) _)
          have hlen : (c.regs.l ++ [rec]).length = c.regs.l.length + 1 := by simp
          rw [hlen] at HSN HCN HLOW
          go_wp2_with fail
          refine (RWant_calls ⟨#[125]⟩ X _ _ _ HSN.out).mono ?_
          rintro e wz ⟨hoz, uz, sz, rfl, _, hlz, hsz⟩
          unfold unitV
          go_wp2_with fail
          first | go_end0 | (refine bodyPost_ret (results_none rfl _ _ _) rfl ?_)
          refine ⟨rfl, HLOW.out.trans (hoz.low (by have := HS9.out.lt; simpa [World.setCell] using this)), _, sz, hsz, HSN.out.own HCN.out hoz, ?_⟩
          refine HT0.out _ _ ?_
          refine Lf.bind (m := bodyT 3 (pcOf c)) (f := fun c2 => bindT (wantT [125]) fun _ => pureT c2) (a := pcOf { c with regs := ⟨c.regs.l ++ [rec], a9, c9⟩ }) ?_ (hlz.bind (Lf.pure _ _))
          rw [HREC.out]
          exact HL4.out.bind (HL5.out.bind (HL6.out.bind (HL7.out.bind (HL8.out.bind (HL9.out.bind (HL10.out.bind (HLs.out.bind (Lf.pure _ _))))))))
      | true =>
        rw [hsh] at HIq
        have HLq := hide (want_yesL hlq hsh)
        have HSH := hide hsh
        have HLQ := hide hlq
        clear hsh
        go_wp2_with fail
        refine HIq.out.mono ?_
        rintro e w11 ⟨rfl, hb11⟩
        have HO11 := hide (OnlyX.below HO10.out hb11)
        have HS11 := hide (StAt.below HS10.out hb11)
        have hX11 : X < w11.heap.size := HS11.out.lt
        have HB11 := hide (Blk.below HB10.out hb11 HB10.out.lt)
        clear hb11 p0 p1 p2 p3 p4 pf hPw
        have p0 : w11.cell? ⟨w5.heap.size, 0, none⟩ = some (.int .u64 (m1 : Int)) := HB11.out.cell 0
        have p1 : w11.cell? ⟨w5.heap.size, 1, none⟩ = some (.int .u64 (m2 : Int)) := HB11.out.cell 1
        have p2 : w11.cell? ⟨w5.heap.size, 2, none⟩ = some (.int .u16 (n : Int)) := HB11.out.cell 2
        have p3 : w11.cell? ⟨w5.heap.size, 3, none⟩ = some (.int .u8 (m3 : Int)) := HB11.out.cell 3
        have p4 : w11.cell? ⟨w5.heap.size, 4, none⟩ = some (.bool false) := HB11.out.cell 4
        have pf := fun i => HB11.out.frozen i
        have hPw : w5.heap.size < w11.heap.size := HB11.out.lt
        go_wp2_with fail
        refine (RTake_calls X s10 c tq rq HLQ.out _ HS11.out).mono ?_
        rintro e w12 ⟨rfl, ho12, hs12⟩
        have HO12 := hide (OnlyX.trans HO11.out ho12)
        have HS12 := hide hs12
        have hX12 : X < w12.heap.size := hs12.lt
        have HB12 := hide (ho12.blk HB11.out (by omega))
        clear ho12 hs12 p0 p1 p2 p3 p4 pf hPw
        have p0 : w12.cell? ⟨w5.heap.size, 0, none⟩ = some (.int .u64 (m1 : Int)) := HB12.out.cell 0
        have p1 : w12.cell? ⟨w5.heap.size, 1, none⟩ = some (.int .u64 (m2 : Int)) := HB12.out.cell 1
        have p2 : w12.cell? ⟨w5.heap.size, 2, none⟩ = some (.int .u16 (n : Int)) := HB12.out.cell 2
        have p3 : w12.cell? ⟨w5.heap.size, 3, none⟩ = some (.int .u8 (m3 : Int)) := HB12.out.cell 3
        have p4 : w12.cell? ⟨w5.heap.size, 4, none⟩ = some (.bool false) := HB12.out.cell 4
        have pf := fun i => HB12.out.frozen i
        have hPw : w5.heap.size < w12.heap.size := HB12.out.lt
        go_wp2_with (first | (go_at_call 98; refine (Rid_calls _).mono ?_; rintro e wq ⟨rfl, rfl⟩) | (go_at_call 27; refine (Rtop_calls _).mono ?_; rintro e wq ⟨rfl, rfl⟩))
        refine (HW.out ⟨#[59]⟩ _ _ HS12.out).mono ?_
        rintro e w13 ⟨ho13, u, s13, rfl, hv13, hl13, hs13⟩
        have HO13 := hide (OnlyX.trans HO12.out ho13)
        have HL13 := hide hl13
        have HS13 := hide hs13
        have hX13 : X < w13.heap.size := hs13.lt
        have HB13 : Hid (Blk w13 w5.heap.size 101 #[.int .u64 (m1 : Int), .int .u64 (m2 : Int), .int .u16 (n : Int), .int .u8 (m3 : Int), .bool false]) := hide (ho13.blk HB12.out (by omega))
        clear p0 p1 p2 p3 p4 pf hPw
        have p0 : w13.cell? ⟨w5.heap.size, 0, none⟩ = some (.int .u64 (m1 : Int)) := HB13.out.cell 0
        have p1 : w13.cell? ⟨w5.heap.size, 1, none⟩ = some (.int .u64 (m2 : Int)) := HB13.out.cell 1
        have p2 : w13.cell? ⟨w5.heap.size, 2, none⟩ = some (.int .u16 (n : Int)) := HB13.out.cell 2
        have p3 : w13.cell? ⟨w5.heap.size, 3, none⟩ = some (.int .u8 (m3 : Int)) := HB13.out.cell 3
        have p4 : w13.cell? ⟨w5.heap.size, 4, none⟩ = some (.bool false) := HB13.out.cell 4
        have pf := fun i => HB13.out.frozen i
        have hPw : w5.heap.size < w13.heap.size := HB13.out.lt
        clear ho13 hl13 hs13
        unfold unitV
        have HLs := hide (shared_yesL HSH.out HLq.out HL13.out)
        go_wp2_with fail
        have HSa := hide ((HS13.out.far (p := ⟨w5.heap.size, 4, none⟩) hXP (.bool true)))
        have HOa := hide ((HO13.out.setNew (p := ⟨w5.heap.size, 4, none⟩) hwP (.bool true)))
        have HBa : Hid (Blk (w13.setCell ⟨w5.heap.size, 4, none⟩ (.bool true)) w5.heap.size 101 #[.int .u64 (m1 : Int), .int .u64 (m2 : Int), .int .u16 (n : Int), .int .u8 (m3 : Int), .bool true]) := hide (HB13.out.set_ 4 (.bool true))
        have hXa := HSa.out.lt
        have hPa := HBa.out.lt
        have hwa := HOa.out.size
        clear p0 p1 p2 p3 p4 pf hPw
        generalize (w13.setCell ⟨w5.heap.size, 4, none⟩ (.bool true)) = Wa at *
        have p0 : Wa.cell? ⟨w5.heap.size, 0, none⟩ = some (.int .u64 (m1 : Int)) := HBa.out.cell 0
        have p1 : Wa.cell? ⟨w5.heap.size, 1, none⟩ = some (.int .u64 (m2 : Int)) := HBa.out.cell 1
        have p2 : Wa.cell? ⟨w5.heap.size, 2, none⟩ = some (.int .u16 (n : Int)) := HBa.out.cell 2
        have p3 : Wa.cell? ⟨w5.heap.size, 3, none⟩ = some (.int .u8 (m3 : Int)) := HBa.out.cell 3
        have p4 : Wa.cell? ⟨w5.heap.size, 4, none⟩ = some (.bool true) := HBa.out.cell 4
        have q9 := (HSa.out.cfg).2.2.2.1
        have HCa := hide (HSTW.out.own HOW.out HOa.out)
        obtain ⟨i0, hi, hz0, hz1, hz2⟩ := info_parts regI
        have HII := hide hi
        clear hi
        obtain ⟨rec, hrec⟩ : ∃ x : RegR, x = ⟨m1, m2, n, m3, true⟩ := ⟨_, rfl⟩
        have HRE : Hid (regL rec = [.int .u64 (m1 : Int), .int .u64 (m2 : Int), .int .u16 (n : Int), .int .u8 (m3 : Int), .bool true]) := hide (by rw [hrec]; rfl)
        have HREC := hide hrec
        clear hrec
        have HRD : Hid (Reads (Wa.alloc (.cells #[.int .u64 (m1 : Int), .int .u64 (m2 : Int), .int .u16 (n : Int), .int .u8 (m3 : Int), .bool true] 101)).drew (Wa.heap.size + 1) 5 (some ⟨Wa.heap.size, 0, none⟩) 1 (regL rec)) := hide (by rw [HRE.out]; exact new_reads Wa #[.int .u64 (m1 : Int), .int .u64 (m2 : Int), .int .u16 (n : Int), .int .u8 (m3 : Int), .bool true] 101 5 rfl)
        go_region_law (refine step_append_any _ rfl (.tmp 118) (.tmp 120) 26 rfl (X + 1) 101 i0 _ 5 24 Tryz.underlying26 HII.out hz0 hz1 hz2 rfl (by decide) (.slice c.regs.a c.regs.l.length c.regs.c) c.regs.l.length (c.regs.l.flatMap regL) (by simp [Act.eval]) ((HCa.out.regs.alloc _).drew) (Wa.heap.size + 1) (some ⟨Wa.heap.size, 0, none⟩) 1 1 (regL rec) (by simp [Act.eval]) HRD.out (regO rec) (by simp only [maxLen]; omega) (by omega) (by simp; omega) ?_; intro v9 w9 ho9 hg9 hat9; obtain ⟨a9, c9, hv9⟩ := own_slice ho9; subst hv9; have HGR := hide hg9; have HO9 := hide ho9; have HS9 := hide ((HSa.out.alloc (.cells #[.int .u64 (m1 : Int), .int .u64 (m2 : Int), .int .u16 (n : Int), .int .u8 (m3 : Int), .bool true] 101)).drew.grown hg9 (fun r hr => by have := (HCa.out.regs.lt r hr).1; omega)); have q0 := (HS9.out.cfg).2.2.2.1; have qf := HS9.out.frz; have hX9 := HS9.out.lt; clear ho9 hg9 hat9)
        all_goals
          have HC9 : Hid (OwnC (X + 1) { c with regs := ⟨c.regs.l ++ [rec], a9, c9⟩ } w9) := hide (by
            have HCx := (HCa.out.alloc (.cells #[.int .u64 (m1 : Int), .int .u64 (m2 : Int), .int .u16 (n : Int), .int .u8 (m3 : Int), .bool true] 101)).drew
            exact HCx.pushR HO9.out HGR.out)
          have HSN := hide (HS9.out.setR (c.regs.l ++ [rec]) a9 c9)
          have HCN := hide (OwnC.setX HS9.out HC9.out 11 (.slice a9 (c.regs.l ++ [rec]).length c9))
          have HLOW : Hid (Below X w (w9.setCell ⟨X, 11, none⟩ (.slice a9 (c.regs.l ++ [rec]).length c9))) := hide (((((HOa.out.low hXl).alloc (by omega) (.cells #[.int .u64 (m1 : Int), .int .u64 (m2 : Int), .int .u16 (n : Int), .int .u8 (m3 : Int), .bool true] 101)).drew).grown HGR.out (by simp; omega) (fun r hr => by have := (HCa.out.regs.lt r hr).1; omega)).setCell (by simp) _)
          have hlen : (c.regs.l ++ [rec]).length = c.regs.l.length + 1 := by simp
          rw [hlen] at HSN HCN HLOW
          go_wp2_with fail
          refine (RWant_calls ⟨#[125]⟩ X _ _ _ HSN.out).mono ?_
          rintro e wz ⟨hoz, uz, sz, rfl, _, hlz, hsz⟩
          unfold unitV
          go_wp2_with fail
          first | go_end0 | (refine bodyPost_ret (results_none rfl _ _ _) rfl ?_)
          refine ⟨rfl, HLOW.out.trans (hoz.low (by have := HS9.out.lt; simpa [World.setCell] using this)), _, sz, hsz, HSN.out.own HCN.out hoz, ?_⟩
          refine HT0.out _ _ ?_
          refine Lf.bind (m := bodyT 3 (pcOf c)) (f := fun c2 => bindT (wantT [125]) fun _ => pureT c2) (a := pcOf { c with regs := ⟨c.regs.l ++ [rec], a9, c9⟩ }) ?_ (hlz.bind (Lf.pure _ _))
          rw [HREC.out]
          exact HL4.out.bind (HL5.out.bind (HL6.out.bind (HL7.out.bind (HL8.out.bind (HL9.out.bind (HL10.out.bind (HLs.out.bind (Lf.pure _ _))))))))
end Go.Proofs.YtdpieljopelkhaaGreatDoor
